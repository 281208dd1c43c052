import Derived.Test.YtahlmfpllhmjoaaGreatDoorHeg
import Derived.Test.YtahlmfpllhmjoaaGreatDoorHei
set_option linter.unusedVariables false
set_option linter.unusedSimpArgs false
namespace Lift
open Go
def ovs (l:List Int) (at_:Nat):List Int→List Int
  | []=>l
  | x::b=>ovs (l.set at_ x) (at_+1) b
theorem Qtu:∀ (b l:List Int) (k:Nat),(ovs l k b).length=l.length
  | [],l,k=>rfl
  | x::b,l,k=>by simp only [ovs,Qtu b,List.length_set]
theorem Qpc:∀ (b l:List Int) (k:Nat) (x:Int),ovs l k (b++[x])=(ovs l k b).set (k+b.length) x
  | [],l,k,x=>by simp [ovs]
  | y::b,l,k,x=>by simp only [List.cons_append,ovs,Qpc b,List.length_cons];rw [show k+1+b.length=k+(b.length+1) by omega]
theorem Qpm:∀ (b l:List Int) (k j:Nat),k+b.length≤l.length→(ovs l k b)[j]?=if k≤j∧j<k+b.length then b[j-k]? else l[j]?
  | [],l,k,j,_=>by rw [if_neg (by simp only [List.length_nil];omega)];rfl
  | x::b,l,k,j,h=>by
    simp only [List.length_cons] at h
    simp only [ovs,List.length_cons]
    rw [Qpm b _ (k+1) j (by simp;omega),List.getElem?_set]
    by_cases c1:k+1≤j∧j<k+1+b.length
    · rw [if_pos c1,if_pos (by omega)]
      obtain ⟨d,rfl⟩:∃ d,j=k+1+d:=⟨j-(k+1),by omega⟩
      rw [show k+1+d-(k+1)=d by omega,show k+1+d-k=d+1 by omega];simp
    · rw [if_neg c1]
      by_cases c2:k=j
      · subst c2
        rw [if_pos rfl,if_pos (by omega),if_pos (by omega)];simp
      · rw [if_neg c2,if_neg (by omega)]
structure Dv (d:Qc):Prop where
  size:d.size=1024
  len:d.bytes.length=14336
  by_:∀ x∈d.bytes,byte x
  wear:d.wear.length=14
  torn:byte d.torn
  l0:0≤d.left
  l1:d.left≤1000
theorem Qtl (fuel:Nat) {d:Qc} (h:Dv d) (hd:d.down=false):Ev (Qck fuel d) (λ y=>Dv y.2∧y.2.bytes=d.bytes∧y.2.down=y.1):=by
  unfold Qck
  obtain ⟨h1,h2,h3,h4,h5,h6,h7⟩:=h
  refine Ev.letP (Ev.dec (λ hpos=>Ev.letP (Ev.letP (Ev.ret ⟨⟨h1,h2,h3,h4,h5,?_,?_⟩,rfl,rfl⟩))) (λ hneg=>Ev.ret ⟨⟨h1,h2,h3,h4,h5,h6,h7⟩,rfl,rfl⟩))
  · simp only at hpos ⊢;rw [w_i64 (by omega) (by omega)];omega
  · simp only at hpos ⊢;rw [w_i64 (by omega) (by omega)];omega
theorem Qqc (fuel:Nat) {d:Qc} (h:Dv d) {a n:Nat} (hn:a+n≤14336):Qbn fuel d (a:Int) (n:Int)=some true:=by
  apply Ev.isTrue
  unfold Qbn
  have:=h.len
  refine Ev.decT (by omega) (Ev.decT (by omega) (Ev.decT (by omega) (Ev.letP (Ev.ret ?_))))
  rw [w_i64 (by omega) (by omega)];exact decide_eq_true (by omega)
theorem and255 {x:Int} (h:byte x):bAnd .u8 255 x=x:=by
  obtain ⟨b1,b2⟩:=Qvv (show byte 255 by unfold byte;decide) h
  refine ext16 b1.u16 h.u16 (λ i hi=>?_)
  rw [b2]
  cases hx:bit x i
  · simp
  · have:i<8:=Qhy h.1 (by have:=h.2;omega) hx
    have:bit 255 i=true:=by
      obtain rfl | rfl | rfl | rfl | rfl | rfl | rfl | rfl:i=0∨i=1∨i=2∨i=3∨i=4∨i=5∨i=6∨i=7:=by omega
      all_goals decide
    rw [this];rfl
theorem Qou {a b:Int} (ha:byte a) (hb:byte b):byte (bOr .u8 a b):=(or_ok ha hb).1
theorem or255 {x:Int} (h:byte x):bOr .u8 255 x=255:=by
  obtain ⟨b1,b2⟩:=or_ok (show byte 255 by unfold byte;decide) h
  refine ext16 b1.u16 ⟨by decide,by decide⟩ (λ i hi=>?_)
  rw [b2]
  cases hx:bit x i
  · simp
  · have:i<8:=Qhy h.1 (by have:=h.2;omega) hx
    have:bit 255 i=true:=by
      obtain rfl | rfl | rfl | rfl | rfl | rfl | rfl | rfl:i=0∨i=1∨i=2∨i=3∨i=4∨i=5∨i=6∨i=7:=by omega
      all_goals decide
    rw [this];rfl
theorem x_or255 {x:Int} (h:byte x):bOr .u8 x 255=255:=by
  obtain ⟨b1,b2⟩:=or_ok h (show byte 255 by unfold byte;decide)
  obtain ⟨c1,c2⟩:=or_ok (show byte 255 by unfold byte;decide) h
  have e:bOr .u8 x 255=bOr .u8 255 x:=ext16 b1.u16 c1.u16 (λ i hi=>by rw [b2,c2,Bool.or_comm])
  rw [e,or255 h]
theorem or_ne {x t:Int} (hx:byte x) (ht:byte t) (h:x≠0):bOr .u8 x t≠0:=by
  intro e
  apply h
  obtain ⟨b1,b2⟩:=or_ok hx ht
  refine Qtm hx (λ i=>?_)
  have:=b2 i
  rw [e,Qfc] at this
  cases hb:bit x i
  · rfl
  · rw [hb] at this;simp at this
theorem Qtj {t:Int} (ht:byte t):bOr .u8 0 t=t:=by
  obtain ⟨b1,b2⟩:=or_ok zbyte ht
  exact ext16 b1.u16 ht.u16 (λ i hi=>by rw [b2,Qfc,Bool.false_or])
theorem Qpq {l:List Int} {P:Int→Prop} (h:∀ x∈l,P x) {i:Nat} {v:Int} (hv:P v):∀ x∈l.set i v,P x:=λ x hx=>by
  rcases List.mem_or_eq_of_mem_set hx with hx | rfl
  · exact h x hx
  · exact hv
theorem Qlc {fuel:Nat} (hf:100<fuel) {d:Qc} (h:Dv d) (hd:d.down=false) {a:Nat} {b:List Int} (hb:∀ x∈b,byte x) (hb2:b.length≤60) (ha:a+b.length≤14336) (he:∀ j,a≤j→j<a+b.length→d.bytes[j]?=some 255) :
    Ev (Qao fuel d (a:Int) b) (λ y=>Dv y.2∧(y.1=0∧y.2.down=false∧y.2.bytes=ovs d.bytes a b∨y.1=10∧∃ (i:Nat) (x t:Int),b[i]?=some x∧byte t∧y.2.bytes=ovs d.bytes a (b.take i++[bOr .u8 x t]))):=by
  unfold Qao
  refine Ev.iteF hd (Ev.to (Qqc fuel h ha) (Ev.letP (Ev.iteF rfl ?_)))
  refine Ev.loop (λ (n:Nat) (x:Int×Qc)=>∃ i:Nat,x.1=i∧i+n=b.length∧Dv x.2∧x.2.down=false∧x.2.bytes=ovs d.bytes a (b.take i)) (λ n x hI self hself=>?_) (n:=b.length) (by omega) ⟨0,rfl,by omega,h,hd,rfl⟩
  obtain ⟨pos,d1⟩:=x
  obtain ⟨i,i1,i2,i3,i4,i5⟩:=hI
  simp only at i1 i3 i4 i5 ⊢
  subst i1
  refine Ev.dec (λ hlt=>Ev.idx (by omega) hlt (λ x hx hm=>Ev.bind (Qtl fuel i3 i4) (λ y2 h2=>?_))) (λ hge=>Ev.ret ⟨i3,.inl ⟨rfl,i4,by rw [i5,List.take_of_length_le (by omega)]⟩⟩)
  simp only [Int.toNat_natCast] at hx
  obtain ⟨g1,g2,g3⟩:=h2
  have hi:=(List.getElem?_eq_some_iff.1 hx).1
  have hold:(ovs d.bytes a (b.take i))[a+i]?=some 255:=by
    rw [Qpm _ _ _ _ (by simp [h.len];omega),if_neg (by simp;omega)]
    exact he _ (by omega) (by omega)
  have hw:IntKind.i64.wrap ((a:Int)+(i:Int))=((a+i:Nat):Int):=by rw [w_i64 (by omega) (by omega)];rfl
  have hidx:idx y2.2.bytes ((a+i:Nat):Int)=some 255:=by rw [g2,i5,Qam];exact hold
  have htk:b.take (i+1)=b.take i++[x]:=by rw [List.take_add_one,hx];rfl
  have hlen:(b.take i).length=i:=by simp;omega
  rw [hw]
  refine Ev.ite (λ hfail=>Ev.to hidx (Ev.letP (Ev.ret ⟨?_,.inr ⟨rfl,i,x,y2.2.torn,hx,g1.torn,?_⟩⟩))) (λ hok=>Ev.to hidx (Ev.letP ?_))
  · rw [and255 (Qou (hb x hm) g1.torn)]
    exact ⟨g1.size,by simp only [upd,List.length_set];exact g1.len,Qpq g1.by_ (Qou (hb x hm) g1.torn),g1.wear,g1.torn,g1.l0,g1.l1⟩
  · rw [and255 (Qou (hb x hm) g1.torn),Qpc,hlen]
    simp only [upd,Int.toNat_natCast,g2,i5]
  · rw [and255 (hb x hm),w_inc (by omega)]
    refine hself (n-1) _ (by omega) ⟨i+1,rfl,by omega,⟨g1.size,by simp only [upd,List.length_set];exact g1.len,Qpq g1.by_ (hb x hm),g1.wear,g1.torn,g1.l0,g1.l1⟩,by simp only [g3];exact hok,?_⟩
    simp only [upd,Int.toNat_natCast,g2,i5]
    rw [htk,Qpc,hlen]
def sec (bs:List Int) (j:Nat):List Int:=(bs.drop (j*1024)).take 1024
theorem Qgz {bs:List Int} (h:bs.length=14336) {j:Nat} (hj:j<14):(sec bs j).length=1024:=by
  simp [sec];omega
theorem Qno {bs:List Int} {j k:Nat} (hk:k<1024):(sec bs j)[k]?=bs[j*1024+k]?:=by
  simp only [sec,List.getElem?_take,hk,if_true,List.getElem?_drop]
theorem Qto {bs cs:List Int} (hb:bs.length=14336) (hc:cs.length=14336) {j:Nat} (hj:j<14) (h:∀ k,k<1024→bs[j*1024+k]?=cs[j*1024+k]?):sec bs j=sec cs j:=by
  apply List.ext_getElem?
  intro k
  by_cases c:k<1024
  · rw [Qno c,Qno c,h k c]
  · rw [List.getElem?_eq_none (by rw [Qgz hb hj];omega),List.getElem?_eq_none (by rw [Qgz hc hj];omega)]
theorem Qja {bs b:List Int} (hb:bs.length=14336) {j o:Nat} (hj:j<14) (ho:o+b.length≤1024):(∀ i,i<14→i≠j→sec (ovs bs (j*1024+o) b) i=sec bs i)∧∀ k,k<1024→(sec (ovs bs (j*1024+o) b) j)[k]?=if o≤k∧k<o+b.length then b[k-o]? else (sec bs j)[k]?:=by
  refine ⟨λ i hi hne=>Qto (by rw [Qtu];exact hb) hb hi (λ k hk=>?_),λ k hk=>?_⟩
  · rw [Qpm _ _ _ _ (by omega),if_neg (by omega)]
  · rw [Qno hk,Qno hk,Qpm _ _ _ _ (by omega)]
    by_cases c:o≤k∧k<o+b.length
    · rw [if_pos c,if_pos (by omega),show j*1024+k-(j*1024+o)=k-o by omega]
    · rw [if_neg c,if_neg (by omega)]
theorem Qtt {fuel:Nat} {d:Qc} (h:Dv d) (hd:d.down=false) {j:Nat} (hj:j<14):Qcj fuel d ((j*1024:Nat):Int) 1024=some (sec d.bytes j,0):=by
  apply Ev.eq
  unfold Qcj
  have hl:=h.len
  have hw:IntKind.i64.wrap (((j*1024:Nat):Int)+1024)=((j*1024+1024:Nat):Int):=by rw [w_i64 (by omega) (by omega)];omega
  refine Ev.iteF hd (Ev.to (Qqc fuel h (a:=j*1024) (n:=1024) (by omega)) (Ev.letP (Ev.iteF rfl ?_)))
  rw [hw]
  have hs:sub d.bytes ((j*1024:Nat):Int) ((j*1024+1024:Nat):Int)=some (sec d.bytes j):=by
    unfold sub
    rw [if_pos ⟨by omega,by omega,by omega⟩]
    have e1:((j*1024+1024:Nat):Int).toNat=j*1024+1024:=Int.toNat_natCast _
    have e2:((j*1024:Nat):Int).toNat=j*1024:=Int.toNat_natCast _
    have e3:j*1024+1024-j*1024=1024:=by omega
    rw [e1,e2,e3];rfl
  refine Ev.chk (decide_eq_true ⟨by omega,by omega,by omega⟩) (Ev.to hs (Ev.to (sClone (by rw [Qgz hl hj];omega)) (Ev.ret rfl)))
theorem Qwp {fuel:Nat} (hf:2000<fuel) {d:Qc} (h:Dv d) (hd:d.down=false) {j:Nat} (hj:j<14) :
    Ev (Qct fuel d (j:Int)) (λ y=>Dv y.2∧(∀ i,i<14→i≠j→sec y.2.bytes i=sec d.bytes i)∧(y.1=0∧y.2.down=false∧(∀ k,k<1024→(sec y.2.bytes j)[k]?=some 255)∨y.1=10∧∃ t,byte t∧∀ k,k<1024→(sec y.2.bytes j)[k]?=((sec d.bytes j)[k]?).map (λ x=>bOr .u8 x t))):=by
  unfold Qct
  have hwr:=h.wear
  refine Ev.iteF hd (Ev.join (λ b=>b=false) (λ b hb=>Ev.iteF hb ?_) (λ j1 hj1=>Ev.decF (by omega) (Ev.letE (c:=false) (decide_eq_false (by omega)) (hj1 _ rfl))))
  refine Ev.idx (by omega) (by omega) (λ x1 _ _=>Ev.letP (Ev.bind (Qtl fuel (d:={ d with wear:=upd d.wear (j:Int) (IntKind.i64.wrap (x1+1)) }) ⟨h.size,h.len,h.by_,by simp only [Qgx];exact hwr,h.torn,h.l0,h.l1⟩ hd) (λ y1 h1=>?_)))
  obtain ⟨g1,g2,g3⟩:=h1
  simp only at g2
  have hsz:=g1.size
  have hln:=g1.len
  rw [hsz]
  have w1:IntKind.i64.wrap ((j:Int)*1024)=((j*1024:Nat):Int):=by rw [w_i64 (by omega) (by omega)];omega
  have w0:IntKind.i64.wrap ((j:Int)+1)=((j+1:Nat):Int):=by rw [w_i64 (by omega) (by omega)];rfl
  have w2:IntKind.i64.wrap (((j+1:Nat):Int)*1024)=((j*1024+1024:Nat):Int):=by rw [w_i64 (by omega) (by omega)];omega
  rw [w1,w0,w2]
  refine Ev.join (λ t=>byte t∧(y1.1=false→t=255)) (λ t ht=>?_) (λ j2 hj2=>Ev.ite (λ hb=>hj2 _ ⟨g1.torn,λ h0=>by rw [hb] at h0;cases h0⟩) (λ _=>hj2 _ ⟨by unfold byte;decide,λ _=>rfl⟩))
  refine Ev.chk (decide_eq_true ⟨by omega,by omega,by omega⟩) (Ev.chk (decide_eq_true ⟨by omega,by omega,by omega⟩) ?_)
  refine Ev.loop (λ (n:Nat) (x:Int×Qc)=>∃ i:Nat,x.1=i∧i+n=1024∧Dv x.2∧x.2.down=y1.1∧(∀ k,k<14336→x.2.bytes[k]?=if j*1024≤k∧k<j*1024+i then (d.bytes[k]?).map (λ x=>bOr .u8 x t) else d.bytes[k]?)) (λ n x hI self hself=>?_) (n:=1024) (by omega) ⟨0,rfl,by omega,g1,g3,λ k hk=>by rw [if_neg (by omega),g2]⟩
  obtain ⟨pos,d1⟩:=x
  obtain ⟨i,i1,i2,i3,i4,i5⟩:=hI
  simp only at i1 i3 i4 i5 ⊢
  subst i1
  have hl1:=i3.len
  refine Ev.dec (λ hlt=>?_) (λ hge=>?_)
  · have hi:i<1024:=by omega
    obtain ⟨v,hv⟩:∃ v,d1.bytes[j*1024+i]?=some v:=⟨_,List.getElem?_eq_getElem (by omega)⟩
    have e1:((j*1024:Nat):Int)+(i:Int)=((j*1024+i:Nat):Int):=by omega
    have bv:=i3.by_ v (List.mem_of_getElem? hv)
    rw [e1]
    refine Ev.chk (decide_eq_true ⟨by omega,by omega,by omega⟩) (Ev.chk (decide_eq_true ⟨by omega,by omega⟩) (Ev.to (by rw [Qam];exact hv) (Ev.chk (decide_eq_true ⟨by omega,by omega,by omega⟩) (Ev.chk (decide_eq_true ⟨by omega,by omega⟩) (Ev.letP ?_)))))
    rw [w_inc (by omega)]
    refine hself (n-1) _ (by omega) ⟨i+1,rfl,by omega,⟨i3.size,by simp only [upd,List.length_set];exact hl1,Qpq i3.by_ (Qou bv ht.1),i3.wear,i3.torn,i3.l0,i3.l1⟩,i4,λ k hk=>?_⟩
    simp only [upd,Int.toNat_natCast,List.getElem?_set]
    by_cases c:j*1024+i=k
    · subst c
      have:=i5 (j*1024+i) hk
      rw [hv,if_neg (by omega)] at this
      rw [if_pos rfl,if_pos (by omega),if_pos (by omega),← this];rfl
    · rw [if_neg c,i5 k hk]
      by_cases c2:j*1024≤k∧k<j*1024+i
      · rw [if_pos c2,if_pos (by omega)]
      · rw [if_neg c2,if_neg (by omega)]
  · have hi:i=1024:=by omega
    subst hi
    have others:∀ i,i<14→i≠j→sec d1.bytes i=sec d.bytes i:=λ i hi hne=>Qto hl1 h.len hi (λ k hk=>by rw [i5 _ (by omega),if_neg (by omega)])
    have mine:∀ k,k<1024→(sec d1.bytes j)[k]?=((sec d.bytes j)[k]?).map (λ x=>bOr .u8 x t):=λ k hk=>by rw [Qno hk,Qno hk,i5 _ (by omega),if_pos (by omega)]
    refine Ev.ite (λ hb=>Ev.ret ⟨i3,others,.inr ⟨rfl,t,ht.1,mine⟩⟩) (λ hb=>Ev.ret ⟨i3,others,.inl ⟨rfl,by rw [i4,hb],λ k hk=>?_⟩⟩)
    rw [mine k hk,ht.2 hb]
    obtain ⟨v,hv⟩:∃ v,d.bytes[j*1024+k]?=some v:=⟨_,List.getElem?_eq_getElem (by have:=h.len;omega)⟩
    rw [Qno hk,hv]
    simp only [Option.map_some]
    rw [x_or255 (h.by_ v (List.mem_of_getElem? hv))]
end Lift
namespace Lift
open Go
structure RV (e:Event_):Prop where
  i0:1≤e.ID
  i1:e.ID≤2000
  tm:e.Time=0
  gn:e.Generator=32
  st:byte e.SensorType
  sn:byte e.Sensor
  ty:e.Type_=1∨e.Type_=111
  da:∃ a b c,e.Data=[a,b,c]∧byte a∧byte b∧byte c
def kd (e:Event_):Int:=if e.Deassert=true then e.Type_+128 else e.Type_
def enc (e:Event_):List Int:=[e.ID % 256,e.ID / 256,2,0,0,0,0,32,0,4,e.SensorType,e.Sensor,kd e]++e.Data
theorem RV.kd {e:Event_} (h:RV e):byte (kd e)∧bAndNot .u8 (Lift.kd e) 128=e.Type_∧((bAnd .u8 (Lift.kd e) 128) != 0)=e.Deassert∧(if e.Deassert=true then bOr .u8 e.Type_ 128 else e.Type_)=Lift.kd e:=by
  unfold Lift.kd
  rcases h.ty with h1 | h1<;>cases hd:e.Deassert<;>rw [h1]<;>(unfold byte;decide)
theorem Qjc {e:Event_} (h:RV e):(enc e).length=16:=by
  obtain ⟨a,b,c,hd,_⟩:=h.da
  simp [enc,hd]
theorem Qwq {e:Event_} (h:RV e):∀ x∈enc e,byte x:=by
  obtain ⟨a,b,c,hd,ha,hb,hc⟩:=h.da
  have h1:=h.i0
  have h2:=h.i1
  have hk:=h.kd.1
  intro x hx
  simp only [enc,hd,List.cons_append,List.nil_append,List.mem_cons,List.not_mem_nil,or_false] at hx
  rcases hx with rfl | rfl | rfl | rfl | rfl | rfl | rfl | rfl | rfl | rfl | rfl | rfl | rfl | rfl | rfl | rfl
  · constructor<;>omega
  · constructor<;>omega
  all_goals first | exact h.st | exact h.sn | exact hk | assumption | (unfold byte;decide)
theorem Qpa (fuel:Nat) {e:Event_} (h:e.ID≤65534∧e.Time=0∧(e.Type_=1∨e.Type_=111)):Qcb fuel e=some true:=by
  obtain ⟨h1,h2,h3⟩:=h
  apply Ev.isTrue
  unfold Qcb
  exact Ev.decT (by omega) (Ev.decT (by omega) (Ev.letP (Ev.ret (decide_eq_true (by omega)))))
theorem shr8 {n:Int} (h0:0≤n):bShr .u16 n 8=n / 256:=by
  obtain ⟨m,rfl⟩:=Int.eq_ofNat_of_zero_le h0
  have:=Qor (q:=.u16) (a:=m) (i:=8) (by decide)
  rw [show ((8:Nat):Int)=8 from rfl] at this
  have e:(2:Nat) ^ 8=256:=rfl
  rw [this,e];omega
theorem join16 {a b:Int} (ha:byte a) (hb:byte b):bOr .u16 (IntKind.u16.wrap a) (bShl .u16 (IntKind.u16.wrap b) 8)=a+256*b:=by
  obtain ⟨n,rfl,hn⟩:=ha.nat
  obtain ⟨m,rfl,hm⟩:=hb.nat
  have w1:IntKind.u16.wrap (n:Int)=n:=by rw [w_u16];omega
  have w2:IntKind.u16.wrap (m:Int)=m:=by rw [w_u16];omega
  have w3:bShl .u16 (m:Int) 8=((m*256:Nat):Int):=by
    have:bShl .u16 (m:Int) 8=IntKind.u16.wrap ((m:Int)*256):=rfl
    rw [this,w_u16];omega
  rw [w1,w2,w3,Qtd (w:=16) (by decide) (λ n hn=>by rw [w_u16];omega) (by omega) (by omega)]
  have e:n ||| m*256=m*256+n:=by
    have:=Nat.shiftLeft_add_eq_or_of_lt (b:=n) (i:=8) hn m
    rw [Nat.shiftLeft_eq] at this
    rw [Nat.or_comm];exact this.symm
  rw [e];omega
theorem Qvq {fuel:Nat} {e:Event_} (h:RV e):Qft fuel e=some (enc e,0):=by
  apply Ev.eq
  unfold Qft
  obtain ⟨a,b,c,hd,ha,hb,hc⟩:=h.da
  have h1:=h.i0
  have h2:=h.i1
  have w1:IntKind.u8.wrap e.ID=e.ID % 256:=w_u8 _
  have w2:IntKind.u8.wrap (bShr .u16 e.ID 8)=e.ID / 256:=by rw [shr8 (by omega),w_u8];omega
  have g0:idx e.Data 0=some a:=by rw [hd];rfl
  have g1:idx e.Data 1=some b:=by rw [hd];rfl
  have g2:idx e.Data 2=some c:=by rw [hd];rfl
  have g3:Nat.beq e.Data.length 3=true:=by rw [hd];rfl
  refine Ev.to (Qpa fuel ⟨by omega,h.tm,h.ty⟩) (Ev.iteF rfl (Ev.join (λ v=>v=kd e) (λ v hv=>Ev.to g0 (Ev.chk g3 (Ev.to g1 (Ev.chk g3 (Ev.to g2 (Ev.chk g3 (Ev.ret ?_))))))) (λ j hj=>Ev.ite (λ hb2=>hj _ ?_) (λ hb2=>hj _ ?_))))
  · subst hv
    rw [w1,w2,h.tm,h.gn]
    unfold enc
    rw [hd];rfl
  · have:=h.kd.2.2.2;rw [if_pos hb2] at this;exact this
  · have:=h.kd.2.2.2;rw [if_neg (by rw [hb2];simp)] at this;exact this
theorem Qve {fuel:Nat} {e:Event_} (h:RV e):Qdt fuel (enc e)=some (e,0):=by
  apply Ev.eq
  obtain ⟨a,b,c,hd,ha,hb,hc⟩:=h.da
  have h1:=h.i0
  have h2:=h.i1
  obtain ⟨k1,k2,k3,_⟩:=h.kd
  have hl:=Qjc h
  have henc:enc e=[e.ID % 256,e.ID / 256,2,0,0,0,0,32,0,4,e.SensorType,e.Sensor,kd e,a,b,c]:=by unfold enc;rw [hd];rfl
  have hid:bOr .u16 (IntKind.u16.wrap (e.ID % 256)) (bShl .u16 (IntKind.u16.wrap (e.ID / 256)) 8)=e.ID:=by
    rw [join16 ⟨by omega,by omega⟩ ⟨by omega,by omega⟩];omega
  have htm:bOr .u32 (bOr .u32 (bOr .u32 (IntKind.u32.wrap 0) (bShl .u32 (IntKind.u32.wrap 0) 8)) (bShl .u32 (IntKind.u32.wrap 0) 16)) (bShl .u32 (IntKind.u32.wrap 0) 24)=0:=by decide
  have hgn:bOr .u16 (IntKind.u16.wrap 32) (bShl .u16 (IntKind.u16.wrap 0) 8)=32:=by decide
  have he:(⟨e.ID,0,32,e.SensorType,e.Sensor,e.Type_,e.Deassert,[a,b,c]⟩:Event_)=e:=by
    have:=h.tm;have:=h.gn
    cases e;simp_all
  have hs:sub (enc e) 13 ((enc e).length:Int)=some [a,b,c]:=by rw [henc];rfl
  unfold Qdt
  refine Ev.letE (c:=false) (decide_eq_false (by omega)) (Ev.iteF rfl (Ev.join (λ v=>v=false) (λ v hv=>Ev.iteF hv ?_) (λ j hj=>Ev.decF (by omega) (Ev.to (show idx (enc e) 2=some 2 by rw [henc];rfl) (Ev.iteF rfl (Ev.to (show idx (enc e) 9=some 4 by rw [henc];rfl) (Ev.letP (hj _ rfl))))))))
  refine Ev.to (show idx (enc e) 0=some (e.ID % 256) by rw [henc];rfl) (Ev.to (show idx (enc e) 1=some (e.ID / 256) by rw [henc];rfl) (Ev.to (show idx (enc e) 3=some 0 by rw [henc];rfl) (Ev.to (show idx (enc e) 4=some 0 by rw [henc];rfl) (Ev.to (show idx (enc e) 5=some 0 by rw [henc];rfl) (Ev.to (show idx (enc e) 6=some 0 by rw [henc];rfl) (Ev.to (show idx (enc e) 7=some 32 by rw [henc];rfl) (Ev.to (show idx (enc e) 8=some 0 by rw [henc];rfl) (Ev.to (show idx (enc e) 10=some e.SensorType by rw [henc];rfl) (Ev.to (show idx (enc e) 11=some e.Sensor by rw [henc];rfl) (Ev.to (show idx (enc e) 12=some (kd e) by rw [henc];rfl) (Ev.to hs (Ev.chk rfl ?_))))))))))))
  rw [hid,htm,hgn,k2,k3,show ([a,b,c]:List Int).take 3=[a,b,c] from rfl,he]
  exact Ev.to (Qpa fuel ⟨by omega,h.tm,h.ty⟩) (Ev.iteF rfl (Ev.ret rfl))
theorem Qmw (fuel:Nat) {l:List Int} (hl:l.length=16):Tot (Qdt fuel l):=by
  unfold Qdt
  have v:∀ e,Tot (Qcb fuel e):=λ e=>by
    unfold Qcb
    exact Ev.dec (λ _=>Ev.dec (λ _=>Ev.letP Tot.ret) (λ _=>Tot.ret)) (λ _=>Tot.ret)
  have g:∀ {β:Type} {i:Nat} {f:Int→Option β},i<16→(∀ x,Tot (f x))→Tot (bindP (idx l (i:Int)) f):=λ {β} {i} {f} hi k=>Ev.idx (by omega) (by omega) (λ x _ _=>k x)
  refine Ev.letE (c:=false) (decide_eq_false (by omega)) (Ev.iteF rfl (Ev.join (λ _=>True) (λ _ _=>Ev.ite (λ _=>Tot.ret) (λ _=>?_)) (λ j hj=>Ev.decF (by omega) (g (i:=2) (by omega) (λ _=>Ev.ite (λ _=>hj _ trivial) (λ _=>g (i:=9) (by omega) (λ _=>Ev.letP (hj _ trivial))))))))
  refine g (i:=0) (by omega) (λ _=>g (i:=1) (by omega) (λ _=>g (i:=3) (by omega) (λ _=>g (i:=4) (by omega) (λ _=>g (i:=5) (by omega) (λ _=>g (i:=6) (by omega) (λ _=>g (i:=7) (by omega) (λ _=>g (i:=8) (by omega) (λ _=>g (i:=10) (by omega) (λ _=>g (i:=11) (by omega) (λ _=>g (i:=12) (by omega) (λ _=>?_)))))))))))
  have hs:sub l 13 (l.length:Int)=some (l.drop 13):=by
    unfold sub
    rw [if_pos ⟨by omega,by omega,by omega⟩,List.take_of_length_le (by simp)];rfl
  refine Ev.to hs (Ev.chk (by simp [hl]) (Ev.bind (v _) (λ _ _=>Ev.ite (λ _=>Tot.ret) (λ _=>Tot.ret))))
def blk (l:List Int):Bool:=l.all (λ x=>x==255)
theorem Qsf {fuel:Nat} (hf:2000<fuel) {l:List Int} (hl:l.length≤1024):Qcq fuel l=some (blk l):=by
  apply Ev.eq
  unfold Qcq Qad Qag
  refine Ev.bind (P:=λ b=>b=!blk l) (Ev.bind (P:=λ y:Int=>(decide (y≥0))=!blk l) ?_ (λ y hy=>Ev.letP (Ev.ret hy))) (λ b hb=>Ev.letP (Ev.ret (by rw [hb,Bool.not_not])))
  refine Ev.loop (λ (n:Nat) (x:Int)=>∃ i:Nat,x=i∧i+n=l.length∧blk l=blk (l.drop i)) (λ n x hI self hself=>?_) (n:=l.length) (by omega) ⟨0,rfl,by omega,by simp⟩
  obtain ⟨i,rfl,i2,i3⟩:=hI
  refine Ev.dec (λ hlt=>Ev.idx (by omega) hlt (λ x hx _=>Ev.to (show Qfb fuel x=some (x != 255) from rfl) ?_)) (λ hge=>Ev.ret ?_)
  · simp only [Int.toNat_natCast] at hx
    rw [drop_at hx] at i3
    refine Ev.bne (λ hne=>Ev.ret ?_) (λ he=>?_)
    · rw [i3];simp [blk,hne]
    · rw [w_inc (by omega)]
      exact hself (n-1) _ (by omega) ⟨i+1,rfl,by omega,by rw [i3];simp [blk,he]⟩
  · rw [i3,List.drop_eq_nil_of_le (by omega)];rfl
end Lift
namespace Lift
open Go
def SlotOk:Option Event_→List Int→Prop
  | some e,c=>RV e∧c=enc e++[0]
  | none,c=>c.length=17∧(∃ v,c[16]?=some v∧v≠0)∧blk c=false
def slb (s:List Int) (i:Nat):List Int:=(s.drop (11+i*17)).take 17
def hd (q id:Nat):List Int:=[(q:Int),0,0,0,1,0,0,0,(id:Int) % 256,(id:Int) / 256,0]
structure SecOk (q id:Nat) (cs:List (Option Event_)) (s:List Int):Prop where
  h:∀ k,k<11→s[k]?=(hd q id)[k]?
  n:cs.length≤59
  at_:∀ (i:Nat) c,cs[i]?=some c→SlotOk c (slb s i)
  fr:∀ k,11+cs.length*17≤k→k<1024→s[k]?=some 255
def Fre (s:List Int):Prop:=(∃ v,s[10]?=some v∧v≠0)∧∀ k,11≤k→k<1024→s[k]?=some 255
def goods (cs:List (Option Event_)):List Event_:=cs.filterMap id
theorem Qey (a b:List (Option Event_)):goods (a++b)=goods a++goods b:=by simp [goods]
def gdN (F:Nat→List (Option Event_)):Nat→List Event_
  | 0=>[]
  | n+1=>gdN F n++goods (F n)
def rcN (F:Nat→List (Option Event_)):Nat→List Qe
  | 0=>[]
  | n+1=>rcN F n++(goods (F n)).map (λ e=>(⟨(n:Int)+1,e⟩:Qe))
theorem Qqo {F G:Nat→List (Option Event_)}:∀ n,(∀ j,j<n→F j=G j)→gdN F n=gdN G n
  | 0,_=>rfl
  | n+1,h=>by simp only [gdN];rw [Qqo n (λ j hj=>h j (by omega)),h n (by omega)]
theorem Qqn {F G:Nat→List (Option Event_)}:∀ n,(∀ j,j<n→F j=G j)→rcN F n=rcN G n
  | 0,_=>rfl
  | n+1,h=>by simp only [rcN];rw [Qqn n (λ j hj=>h j (by omega)),h n (by omega)]
theorem Qny (F:Nat→List (Option Event_)):∀ n,(rcN F n).map (·.event)=gdN F n
  | 0=>rfl
  | n+1=>by
    simp only [rcN,gdN,List.map_append,Qny F n,List.map_map]
    congr 1
    exact List.map_id' _
structure FL (bs:List Int) (n:Nat) (F:Nat→List (Option Event_)):Prop where
  len:n≤11
  opn:∀ j,j<n→SecOk (j+1) (1+(gdN F j).length) (F j) (sec bs (2+j))
  fre:∀ j,n≤j→j<12→Fre (sec bs (2+j))
  ids:∀ (k:Nat) e,(gdN F n)[k]?=some e→e.ID=k+1
theorem Qpw (cs:List (Option Event_)):(goods cs).length≤cs.length:=List.length_filterMap_le _ _
theorem Qgw {bs:List Int} {n:Nat} {F:Nat→List (Option Event_)} (h:FL bs n F):∀ j,j≤n→(gdN F j).length≤59*j
  | 0,_=>by simp [gdN]
  | j+1,hj=>by
    have ih:=Qgw h j (by omega)
    have h1:=(h.opn j (by omega)).n
    have h2:=Qpw (F j)
    simp only [gdN,List.length_append]
    omega
def logOf (n:Nat) (F:Nat→List (Option Event_)):Qb :=
  ⟨true,2,12,false,(n:Int),if n=0 then 0 else 1,if n=0 then 0 else ((F (n-1)).length:Int),1+((gdN F n).length:Int),rcN F n,false,0,false,false⟩
theorem i_at {s:List Int} {k:Nat} {v:Int} (h:s[k]?=some v):idx s (k:Int)=some v:=by rw [Qam];exact h
theorem Qrz (fuel:Nat) {s:List Int} {q:Nat} (hq:q≤11) (h0:s[0]?=some (q:Int)) (h1:s[1]?=some 0) (h2:s[2]?=some 0) (h3:s[3]?=some 0):Qbs fuel s=some (q:Int):=by
  apply Ev.eq
  unfold Qbs
  refine Ev.to (i_at (k:=0) h0) (Ev.to (i_at (k:=1) h1) (Ev.to (i_at (k:=2) h2) (Ev.to (i_at (k:=3) h3) (Ev.letP (Ev.ret ?_)))))
  obtain rfl | rfl | rfl | rfl | rfl | rfl | rfl | rfl | rfl | rfl | rfl | rfl:q=0∨q=1∨q=2∨q=3∨q=4∨q=5∨q=6∨q=7∨q=8∨q=9∨q=10∨q=11:=by omega
  all_goals decide
theorem Qpx (fuel:Nat) {s:List Int} (hl:4≤s.length):Tot (Qbs fuel s):=by
  unfold Qbs
  exact Ev.idx (by omega) (by omega) (λ _ _ _=>Ev.idx (by omega) (by omega) (λ _ _ _=>Ev.idx (by omega) (by omega) (λ _ _ _=>Ev.idx (by omega) (by omega) (λ _ _ _=>Ev.letP Tot.ret))))
theorem Qrx {s:List Int} {k:Nat} (hk:k≤s.length):sub s (k:Int) (s.length:Int)=some (s.drop k):=by
  unfold sub
  rw [if_pos ⟨by omega,by omega,by omega⟩]
  congr 1
  simp only [Int.toNat_natCast]
  rw [List.take_of_length_le (by rw [List.length_drop];omega)]
theorem Qvc (fuel:Nat) {g:Qb} (hg:g.sectors=12) {j id:Nat} (hj:j<11) (hid:1≤id) (hid2:id≤2000) {cs:List (Option Event_)} {s:List Int} (hl:s.length=1024) (h:SecOk (j+1) id cs s):Qax fuel g s (j:Int)=some (⟨((j+1:Nat):Int),1,(id:Int)⟩,true):=by
  apply Ev.eq
  have hh:=h.h
  have d4:∀ k,(s.drop 4)[k]?=s[4+k]?:=λ k=>by rw [List.getElem?_drop]
  have r1:=Qrz fuel (s:=s) (q:=j+1) (by omega) (hh 0 (by omega)) (hh 1 (by omega)) (hh 2 (by omega)) (hh 3 (by omega))
  have r2:=Qrz fuel (s:=s.drop 4) (q:=1) (by omega) (by rw [d4];exact hh 4 (by omega)) (by rw [d4];exact hh 5 (by omega)) (by rw [d4];exact hh 6 (by omega)) (by rw [d4];exact hh 7 (by omega))
  have e8:idx s 8=some ((id:Int) % 256):=i_at (k:=8) (hh 8 (by omega))
  have e9:idx s 9=some ((id:Int) / 256):=i_at (k:=9) (hh 9 (by omega))
  have e10:idx s 10=some 0:=i_at (k:=10) (hh 10 (by omega))
  have hj16:bOr .u16 (IntKind.u16.wrap ((id:Int) % 256)) (bShl .u16 (IntKind.u16.wrap ((id:Int) / 256)) 8)=(id:Int):=by
    rw [join16 ⟨by omega,by omega⟩ ⟨by omega,by omega⟩];omega
  have hw:IntKind.i64.wrap (((j+1:Nat):Int)-1)=(j:Int):=by rw [w_i64 (by omega) (by omega)];omega
  have htm:Int.tmod (j:Int) 12=(j:Int):=Int.tmod_eq_of_lt (by omega) (by omega)
  have hw2:IntKind.i64.wrap (12-2)=10:=by decide
  unfold Qax
  refine Ev.to r1 (Ev.to (Qrx (k:=4) (by omega)) (Ev.to r2 (Ev.to e8 (Ev.to e9 ?_))))
  rw [hj16,hg,hw,htm,hw2]
  refine Ev.join (λ b=>b=true) (λ b hb=>?_) (λ j1 hj1=>Ev.to e10 (Ev.letP (Ev.iteT rfl (Ev.letE (c:=true) (decide_eq_true (by omega)) (Ev.iteT rfl (Ev.letE (c:=true) (decide_eq_true (by omega)) (Ev.iteT rfl (Ev.chk rfl (Ev.letP (hj1 _ (by simp)))))))))))
  refine Ev.join (λ b=>b=true) (λ b hb=>?_) (λ j2 hj2=>Ev.iteT hb (Ev.letE (c:=true) rfl (Ev.iteT rfl (Ev.letE (c:=true) (decide_eq_true (by omega)) (Ev.iteT rfl (Ev.letE (c:=true) (decide_eq_true (by rw [w_i64 (by omega) (by omega)];omega)) (hj2 _ rfl)))))))
  exact Ev.iteT hb (Ev.letE (c:=true) (decide_eq_true (by omega)) (Ev.iteT rfl (Ev.letE (c:=true) (decide_eq_true (by omega)) (Ev.ret rfl))))
theorem Quo (fuel:Nat) {g:Qb} {j:Int} {s:List Int} (hl:s.length=1024) (h:Fre s):Ev (Qax fuel g s j) (λ y=>y.2=false):=by
  obtain ⟨⟨v,hv,hne⟩,_⟩:=h
  unfold Qax
  refine Ev.bind (Qpx fuel (by omega)) (λ y1 _=>Ev.to (Qrx (k:=4) (by omega)) (Ev.bind (Qpx fuel (by rw [List.length_drop];omega)) (λ y2 _=>Ev.idx (by omega) (by omega) (λ x2 _ _=>Ev.idx (by omega) (by omega) (λ x3 _ _=>?_)))))
  refine Ev.join (λ b=>b=false) (λ b hb=>?_) (λ j1 hj1=>Ev.to (i_at (k:=10) hv) (Ev.letE (c:=false) (by simpa using hne) (Ev.iteF rfl (hj1 _ rfl))))
  exact Ev.join (λ b=>b=false) (λ b hb=>Ev.iteF hb (Ev.ret rfl)) (λ j2 hj2=>Ev.iteF hb (hj2 _ rfl))
def nx (id:Int) (l:List Event_):Int:=l.foldl (λ _ e=>e.ID+1) id
theorem Quz (id:Int) (l:List Event_) (e:Event_):nx id (l++[e])=e.ID+1:=by simp [nx]
theorem Qpz (fuel:Nat) {v:Int} (h0:0≤v) (h1:v≤2000):Qbl fuel v=some (v+1):=by
  apply Ev.eq
  unfold Qbl
  exact Ev.beqF (by omega) (Ev.letP (Ev.ret (by rw [w_u16];omega)))
theorem slot_eq (fuel:Nat) {s:List Int} (hl:s.length=1024) {i:Nat} (hi:i<59):Qfg fuel s (i:Int)=some (slb s i):=by
  apply Ev.eq
  unfold Qfg
  have w1:IntKind.i64.wrap ((i:Int)*17)=((i*17:Nat):Int):=by rw [w_i64 (by omega) (by omega)];omega
  have w2:IntKind.i64.wrap (11+((i*17:Nat):Int))=((11+i*17:Nat):Int):=by rw [w_i64 (by omega) (by omega)];omega
  have w3:IntKind.i64.wrap (((11+i*17:Nat):Int)+17)=((11+i*17+17:Nat):Int):=by rw [w_i64 (by omega) (by omega)];omega
  rw [w1,w2]
  refine Ev.letP ?_
  rw [w3]
  refine Ev.to (show sub s ((11+i*17:Nat):Int) ((11+i*17+17:Nat):Int)=some (slb s i) from ?_) (Ev.ret rfl)
  unfold sub
  rw [if_pos ⟨by omega,by omega,by omega⟩]
  have e1:((11+i*17+17:Nat):Int).toNat=11+i*17+17:=Int.toNat_natCast _
  have e2:((11+i*17:Nat):Int).toNat=11+i*17:=Int.toNat_natCast _
  have e3:11+i*17+17-(11+i*17)=17:=by omega
  rw [e1,e2,e3];rfl
theorem Qoo {s:List Int} (hl:s.length=1024) {i:Nat} (hi:i<59):(slb s i).length=17:=by
  simp only [slb,List.length_take,List.length_drop];omega
theorem Qpf {s:List Int} {i k:Nat} (hk:k<17):(slb s i)[k]?=s[11+i*17+k]?:=by
  simp only [slb,List.getElem?_take,hk,if_true,List.getElem?_drop]
theorem blk_of {l:List Int} (h:∀ (k:Nat),k<l.length→l[k]?=some 255):blk l=true:=by
  simp only [blk,List.all_eq_true,beq_iff_eq]
  intro x hx
  obtain ⟨k,hk⟩:=List.getElem?_of_mem hx
  have:=h k (List.getElem?_eq_some_iff.1 hk).1
  rw [this] at hk
  exact (Option.some.inj hk).symm
def lst (g:Qb) (last:Bool) (q:Int) (id:Int) (cs:List (Option Event_)) (i:Nat):Qb :=
  { g with records:=g.records++(goods (cs.take i)).map (λ e=>(⟨q,e⟩:Qe)),used:=if last then ((min i cs.length:Nat):Int) else g.used,next:=if last then nx id (goods (cs.take i)) else g.next }
theorem load_ev {fuel:Nat} (hf:2000<fuel) {g:Qb} {q:Int} {id:Nat} {qn:Nat} {cs:List (Option Event_)} {s:List Int} (hl:s.length=1024) (h:SecOk qn id cs s) (hu:g.used=0) (hr:g.records.length≤2000) :
    Ev (Qdg fuel g s ⟨q,1,(id:Int)⟩) (λ y=>y=lst g (q==g.newest) q (id:Int) cs 59):=by
  unfold Qdg
  have hn:=h.n
  have gl:∀ i,(goods (cs.take i)).length≤59:=λ i=>by
    have:=Qpw (cs.take i);rw [List.length_take] at this;omega
  have hsl:Qby fuel (s.length:Int)=some 59:=by
    rw [hl];unfold Qby;decide
  refine Ev.letP (Ev.join (λ g1=>g1=lst g (q==g.newest) q (id:Int) cs 0) (λ g1 hg1=>?_) (λ j hj=>Ev.ite (λ hb=>Ev.letP (hj _ ?_)) (λ hb=>hj _ ?_)))
  · subst hg1
    refine Ev.to hsl ?_
    refine Ev.loop (λ (n:Nat) (x:Int×Qb)=>∃ i:Nat,x.1=i∧i+n=59∧x.2=lst g (q==g.newest) q (id:Int) cs i) (λ n x hI self hself=>?_) (n:=59) (by omega) ⟨0,rfl,rfl,rfl⟩
    obtain ⟨pos,g2⟩:=x
    obtain ⟨i,i1,i2,i3⟩:=hI
    simp only at i1 i3 ⊢
    subst i1;subst i3
    refine Ev.dec (λ hlt=>?_) (λ hge=>Ev.ret (by rw [show i=59 by omega]))
    have hi:i<59:=by omega
    have hsln:=Qoo hl hi
    refine Ev.to (slot_eq fuel hl hi) ?_
    rw [w_inc (by omega)]
    have hs16:sub (slb s i) 0 16=some ((slb s i).take 16):=by
      unfold sub
      rw [if_pos ⟨by omega,by omega,by omega⟩];rfl
    have hblk:=Qsf hf (l:=slb s i) (by omega)
    have skip:∀ (gu:Qb),gu=lst g (q==g.newest) q (id:Int) cs (i+1)→Ev (self (((i+1:Nat):Int),gu)) (λ y=>y=lst g (q==g.newest) q (id:Int) cs 59):=λ gu hgu=>hself (n-1) _ (by omega) ⟨i+1,rfl,by omega,hgu⟩
    by_cases hin:i<cs.length
    · obtain ⟨c,hc⟩:∃ c,cs[i]?=some c:=⟨_,List.getElem?_eq_getElem hin⟩
      have hsc:=h.at_ i c hc
      have htk:cs.take (i+1)=cs.take i++[c]:=by rw [List.take_add_one,hc];rfl
      have hmin:min (i+1) cs.length=i+1:=by omega
      have nblk:blk (slb s i)=false:=by
        cases c with
        | none=>exact hsc.2.2
        | some e =>
          rw [hsc.2];simp [blk]
      refine Ev.join (λ b=>b=(q==g.newest)) (λ b hb=>?_) (λ j2 hj2=>Ev.ite (λ hb=>Ev.to hblk (hj2 _ (by rw [nblk,hb];rfl))) (λ hb=>hj2 _ hb.symm))
      subst hb
      refine Ev.join (λ gu=>gu={ lst g (q==g.newest) q (id:Int) cs i with used:=if (q==g.newest)=true then ((i+1:Nat):Int) else g.used }) (λ gu hgu=>?_) (λ j3 hj3=>Ev.ite (λ hb=>Ev.letP (hj3 _ ?_)) (λ hb=>hj3 _ ?_))
      · subst hgu
        cases c with
        | none =>
          obtain ⟨_,⟨v,hv,hne⟩,_⟩:=hsc
          refine Ev.to hs16 (Ev.bind (Qmw fuel (by rw [List.length_take];omega)) (λ y3 _=>Ev.to (i_at (k:=16) hv) (Ev.join (λ b=>b=true) (λ b hb=>Ev.iteT hb (skip _ ?_)) (λ j4 hj4=>Ev.bneT hne (hj4 _ rfl)))))
          unfold lst
          rw [htk,Qey,show goods [(none:Option Event_)]=[] from rfl,List.append_nil,hmin]
        | some e =>
          obtain ⟨hrv,heq⟩:=hsc
          have he16:(slb s i).take 16=enc e:=by rw [heq,List.take_left' (Qjc hrv)]
          have hv:(slb s i)[16]?=some 0:=by
            rw [heq,List.getElem?_append_right (by rw [Qjc hrv];omega),Qjc hrv];rfl
          rw [he16] at hs16
          have i0:=hrv.i0
          have i1:=hrv.i1
          have gi:=gl i
          refine Ev.to hs16 (Ev.to (Qve hrv) (Ev.to (i_at (k:=16) hv) (Ev.join (λ b=>b=false) (λ b hb=>Ev.iteF hb (Ev.app (by simp [lst];omega) ?_)) (λ j4 hj4=>Ev.bneF rfl (Ev.bneF rfl (hj4 _ (by simp;omega)))))))
          have hnew:lst g (q==g.newest) q (id:Int) cs (i+1)={ g with records:=(g.records++(goods (cs.take i)).map (λ e=>(⟨q,e⟩:Qe)))++[⟨q,e⟩],used:=if (q==g.newest)=true then ((i+1:Nat):Int) else g.used,next:=if (q==g.newest)=true then e.ID+1 else g.next }:=by
            unfold lst
            rw [htk,Qey,show goods [some e]=[e] from rfl,Quz,hmin,List.map_append,List.append_assoc];rfl
          refine Ev.ite (λ hb=>Ev.to (show Qbl fuel e.ID=some (e.ID+1) from Qpz fuel (by omega) (by omega)) (Ev.letP (skip _ ?_))) (λ hb=>skip _ ?_)
          · rw [hnew];unfold lst;rw [hb];rfl
          · rw [hnew];unfold lst;rw [hb];rfl
      · unfold lst;rw [hb];rfl
      · unfold lst;rw [hb];rfl
    · have htk:cs.take (i+1)=cs.take i:=by rw [List.take_of_length_le (by omega),List.take_of_length_le (by omega)]
      have hmin:min (i+1) cs.length=min i cs.length:=by omega
      have hff:∀ k,k<17→(slb s i)[k]?=some 255:=λ k hk=>by rw [Qpf hk];exact h.fr _ (by omega) (by omega)
      have isblk:blk (slb s i)=true:=blk_of (λ k hk=>hff k (by omega))
      have hsame:lst g (q==g.newest) q (id:Int) cs (i+1)=lst g (q==g.newest) q (id:Int) cs i:=by unfold lst;rw [htk,hmin]
      refine Ev.join (λ b=>b=false) (λ b hb=>Ev.join (λ gu=>gu=lst g (q==g.newest) q (id:Int) cs i) (λ gu hgu=>?_) (λ j3 hj3=>Ev.iteF hb (hj3 _ rfl))) (λ j2 hj2=>Ev.ite (λ hb=>Ev.to hblk (hj2 _ (by rw [isblk];rfl))) (λ hb=>hj2 _ rfl))
      subst hgu
      refine Ev.to hs16 (Ev.bind (Qmw fuel (by rw [List.length_take];omega)) (λ y3 _=>Ev.to (i_at (k:=16) (hff 16 (by omega))) (Ev.join (λ b=>b=true) (λ b hb=>Ev.iteT hb (skip _ hsame.symm)) (λ j4 hj4=>Ev.bneT (by decide) (hj4 _ rfl)))))
  · unfold lst
    simp only [List.take_zero,Nat.zero_min,hb,if_true]
    cases g;simp only at hu;subst hu;simp [goods,nx]
  · unfold lst
    simp only [List.take_zero,Nat.zero_min,hb,Bool.false_eq_true,if_false]
    cases g;simp [goods,nx]
end Lift
namespace Lift
open Go
theorem Qgq (F:Nat→List (Option Event_)) (n:Nat):(rcN F n).length=(gdN F n).length:=by rw [← Qny F n,List.length_map]
theorem nx_full {F:Nat→List (Option Event_)} {m:Nat} (ids:∀ (k:Nat) e,(gdN F (m+1))[k]?=some e→e.ID=k+1):nx (1+((gdN F m).length:Int)) (goods (F m))=1+((gdN F (m+1)).length:Int):=by
  simp only [gdN] at ids ⊢
  rcases List.eq_nil_or_concat (goods (F m)) with h | ⟨l,e,h⟩
  · rw [h];simp [nx]
  · rw [List.concat_eq_append] at h
    rw [h,Quz]
    have:=ids ((gdN F m).length+l.length) e (by rw [h,List.getElem?_append_right (by omega),List.getElem?_append_right (by omega)];simp)
    rw [this]
    simp only [List.length_append,List.length_cons,List.length_nil]
    omega
theorem Qtg {fuel:Nat} (hf:2000<fuel) {d:Qc} (h:Dv d) (hd:d.down=false) {n:Nat} {F:Nat→List (Option Event_)} (hL:FL d.bytes n F):Qda fuel d 2 12 false=some (some (logOf n F),0):=by
  apply Ev.eq
  have hn:=hL.len
  have hlen:=h.len
  have hsz:=h.size
  have gl:=Qgw hL
  unfold Qda
  have hwr:Qbe fuel d=some 14:=by unfold Qbe;rw [h.wear];rfl
  have hs:Qw fuel d=some 1024:=by unfold Qw;rw [hsz]
  have c1:mk 24 ([]:List Int) 12=some (List.replicate 12 []):=by unfold mk;rw [if_pos ⟨by omega,by decide⟩];rfl
  have c2:mk 24 Qf.z 12=some (List.replicate 12 Qf.z):=by unfold mk;rw [if_pos ⟨by omega,by decide⟩];rfl
  refine Ev.join (λ b=>b=false) (λ b hb=>Ev.iteF hb ?_) (λ j hj=>Ev.decF (by omega) (Ev.decF (by omega) (Ev.to hwr (Ev.decF (by omega) (Ev.to hwr (hj _ (by decide)))))))
  refine Ev.to c1 (Ev.to c2 ?_)
  refine Ev.loop (λ (k:Nat) (x:Int×Qb×List (List Int)×List Qf)=>∃ j:Nat,x.1=j∧j+k=12∧x.2.1=⟨true,2,12,false,((min j n:Nat):Int),if min j n=0 then 0 else 1,0,1,[],false,0,false,false⟩∧x.2.2.1.length=12∧x.2.2.2.length=12∧∀ i,i<min j n→x.2.2.1[i]?=some (sec d.bytes (2+i))∧x.2.2.2[i]?=some ⟨((i+1:Nat):Int),1,((1+(gdN F i).length:Nat):Int)⟩) (λ k x hI self hself=>?_) (n:=12) (by omega) ⟨0,rfl,rfl,by simp,by simp,by simp,λ i hi=>by omega⟩
  obtain ⟨pos,g,B,H⟩:=x
  obtain ⟨j,i1,i2,i3,i4,i5,i6⟩:=hI
  simp only at i1 i3 i4 i5 i6 ⊢
  subst i1;subst i3
  refine Ev.dec (λ hlt=>?_) (λ hge=>?_)
  · have hj:j<12:=by omega
    have w1:IntKind.i64.wrap (2+(j:Int))=((2+j:Nat):Int):=by rw [w_i64 (by omega) (by omega)];omega
    have w2:IntKind.i64.wrap (((2+j:Nat):Int)*1024)=(((2+j)*1024:Nat):Int):=by rw [w_i64 (by omega) (by omega)];omega
    refine Ev.to hs (Ev.to hs ?_)
    rw [w1,w2,w_inc (by omega)]
    refine Ev.to (Qtt h hd (by omega)) (Ev.bneF rfl ?_)
    have sl:=Qgz hlen (show 2+j<14 by omega)
    by_cases c:j<n
    · have hg:=gl j (by omega)
      have hmin:min j n=j:=by omega
      have hmin2:min (j+1) n=j+1:=by omega
      refine Ev.to (Qvc fuel rfl (by omega) (by omega) (by omega) sl (hL.opn j c)) (Ev.iteT rfl (Ev.idx (by omega) (by omega) (λ x3 _ _=>Ev.letP (Ev.idx (by omega) (by omega) (λ x4 _ _=>Ev.letP ?_)))))
      rw [hmin]
      refine Ev.decT (by simp only;omega) (Ev.letP (Ev.letP (hself (k-1) _ (by omega) ⟨j+1,rfl,by omega,?_,by simp only [Qgx];exact i4,by simp only [Qgx];exact i5,λ i hi=>?_⟩)))
      · simp only [hmin2];rw [if_neg (by omega)]
      · rw [hmin2] at hi
        simp only [upd,Int.toNat_natCast,List.getElem?_set]
        by_cases e:j=i
        · subst e
          rw [if_pos rfl,if_pos (by omega),if_pos rfl,if_pos (by omega)]
          exact ⟨rfl,rfl⟩
        · rw [if_neg e,if_neg e];exact i6 i (by omega)
    · have hmin:min (j+1) n=min j n:=by omega
      refine Ev.bind (Quo fuel sl (hL.fre j (by omega) hj)) (λ y4 h4=>Ev.iteF h4 (hself (k-1) _ (by omega) ⟨j+1,rfl,by omega,by simp only [hmin],i4,i5,λ i hi=>i6 i (by omega)⟩))
  · have hmin:min j n=n:=by omega
    rw [hmin] at i6 ⊢
    clear hself self
    by_cases h0:n=0
    · subst h0
      refine Ev.loop (λ (k:Nat) (x:List (List Int)×List Qf×Int×Qb)=>x.2.2.1=0∧x.2.2.2=logOf 0 F) (λ k x hI self hself=>?_) (n:=0) (by omega) ⟨rfl,rfl⟩
      obtain ⟨B1,H1,q,g⟩:=x
      obtain ⟨k1,k2⟩:=hI
      simp only at k1 k2 ⊢
      subst k1;subst k2
      exact Ev.join (λ b=>b=false) (λ b hb=>Ev.iteF hb (Ev.ret rfl)) (λ j hj=>Ev.ite (λ _=>hj _ rfl) (λ _=>hj _ rfl))
    obtain ⟨m,rfl⟩:∃ m,n=m+1:=⟨n-1,by omega⟩
    refine Ev.loop (λ (r:Nat) (x:List (List Int)×List Qf×Int×Qb)=>x.1=B∧x.2.1=H∧∃ k:Nat,x.2.2.1=((k+1:Nat):Int)∧k+r=m+1∧x.2.2.2=⟨true,2,12,false,((m+1:Nat):Int),1,if k=m+1 then ((F m).length:Int) else 0,if k=m+1 then 1+((gdN F (m+1)).length:Int) else 1,rcN F k,false,0,false,false⟩) (λ r x hI self hself=>?_) (n:=m+1) (by omega) ⟨rfl,rfl,0,by simp,by omega,?_⟩
    · obtain ⟨B1,H1,q,g⟩:=x
      obtain ⟨k1,k2,k,k3,k4,k5⟩:=hI
      simp only at k1 k2 k3 k5 ⊢
      subst k1;subst k2;subst k3
      by_cases hk:k<m+1
      · obtain ⟨b1,b2⟩:=i6 k hk
        have bl:k<B1.length:=(List.getElem?_eq_some_iff.1 b1).1
        have hgk:=gl k (by omega)
        have hw:IntKind.i64.wrap (((k+1:Nat):Int)-1)=(k:Int):=by rw [w_i64 (by omega) (by omega)];omega
        have htm:Int.tmod (k:Int) 12=(k:Int):=Int.tmod_eq_of_lt (by omega) (by omega)
        rw [if_neg (by omega),if_neg (by omega)] at k5
        subst k5
        refine Ev.join (λ b=>b=true) (λ b hb=>Ev.iteT hb (Ev.chk rfl (Ev.letP ?_))) (λ j hj=>Ev.decT (by simp only;omega) (hj _ (decide_eq_true (by omega))))
        rw [hw,htm]
        have b2':=b2
        have b1':=b1
        rw [← Qam] at b1' b2'
        refine Ev.to b2' (Ev.beqT rfl (Ev.to b1' (Ev.to b2' ?_)))
        have hld:=load_ev (fuel:=fuel) hf (g:=⟨true,2,12,false,((m+1:Nat):Int),1,0,1,rcN F k,false,0,false,false⟩) (q:=((k+1:Nat):Int)) (Qgz hlen (show 2+k<14 by omega)) (hL.opn k (by omega)) rfl (by simp only;rw [Qgq];omega)
        refine Ev.bind hld (λ y5 h5=>Ev.letE (w_inc (by omega)) (hself (r-1) _ (by omega) ⟨rfl,rfl,k+1,rfl,by omega,?_⟩))
        subst h5
        have hF:=(hL.opn k (by omega)).n
        have htk:(F k).take 59=F k:=List.take_of_length_le hF
        have hmin5:min 59 (F k).length=(F k).length:=by omega
        have hrec:rcN F k++(goods (F k)).map (λ e=>(⟨((k+1:Nat):Int),e⟩:Qe))=rcN F (k+1):=by
          simp only [rcN]
          congr 1
        unfold lst
        rw [htk,hmin5]
        simp only [hrec]
        by_cases c:k=m
        · subst c
          have hnx:nx (((1+(gdN F k).length:Nat):Int)) (goods (F k))=1+((gdN F (k+1)).length:Int):=by
            rw [← nx_full hL.ids];congr 1
          simp only [beq_self_eq_true,if_true,hnx]
        · have hne:((((k+1:Nat):Int))==(((m+1:Nat):Int)))=false:=by
            rw [beq_eq_false_iff_ne];omega
          simp only [hne,Bool.false_eq_true,if_false]
          rw [if_neg (by omega),if_neg (by omega)]
      · have hk2:k=m+1:=by omega
        subst hk2
        subst k5
        refine Ev.join (λ b=>b=false) (λ b hb=>Ev.iteF hb (Ev.ret ?_)) (λ j hj=>Ev.decF (by simp only;omega) (hj _ rfl))
        simp only [if_true]
        unfold logOf
        rw [if_neg (by omega),if_neg (by omega)];rfl
    · rw [if_neg (by omega),if_neg (by omega)]
      simp only [rcN]
      rw [if_neg (by omega)]
end Lift
namespace Lift
open Go
def fset (F:Nat→List (Option Event_)) (m:Nat) (cs:List (Option Event_)):Nat→List (Option Event_):=λ j=>if j=m then cs else F j
theorem Qbu (F:Nat→List (Option Event_)) (m:Nat) (cs:List (Option Event_)):fset F m cs m=cs:=by simp [fset]
theorem Qoq {F:Nat→List (Option Event_)} {m j:Nat} {cs:List (Option Event_)} (h:j≠m):fset F m cs j=F j:=by simp [fset,h]
theorem Qgt (F:Nat→List (Option Event_)) {m j:Nat} (cs:List (Option Event_)) (h:j≤m):gdN (fset F m cs) j=gdN F j:=Qqo j (λ i hi=>Qoq (by omega))
theorem Qti (F:Nat→List (Option Event_)) {m j:Nat} (cs:List (Option Event_)) (h:j≤m):rcN (fset F m cs) j=rcN F j:=Qqn j (λ i hi=>Qoq (by omega))
theorem FL.fre_ {bs bs':List Int} {n:Nat} {F:Nat→List (Option Event_)} (h:FL bs n F) (ho:∀ j,j<12→j≠n→sec bs' (2+j)=sec bs (2+j)) (hf:Fre (sec bs' (2+n))):FL bs' n F:=by
  have hn:=h.len
  refine ⟨h.len,λ j hj=>?_,λ j h1 h2=>?_,h.ids⟩
  · rw [ho j (by omega) (by omega)];exact h.opn j hj
  · by_cases c:j=n
    · subst c;exact hf
    · rw [ho j h2 c];exact h.fre j h1 h2
theorem FL.opn_ {bs bs':List Int} {n:Nat} {F:Nat→List (Option Event_)} (h:FL bs n F) (hn:n≤10) (ho:∀ j,j<12→j≠n→sec bs' (2+j)=sec bs (2+j)) (hs:SecOk (n+1) (1+(gdN F n).length) [] (sec bs' (2+n))):FL bs' (n+1) (fset F n []):=by
  refine ⟨by omega,λ j hj=>?_,λ j h1 h2=>?_,?_⟩
  · rw [Qgt F [] (by omega)]
    by_cases c:j=n
    · subst c;rw [Qbu];exact hs
    · rw [Qoq c,ho j (by omega) c];exact h.opn j (by omega)
  · rw [ho j h2 (by omega)];exact h.fre j (by omega) h2
  · simp only [gdN];rw [Qgt F [] (Nat.le_refl _),Qbu]
    simpa [goods] using h.ids
theorem FL.last {bs bs':List Int} {m:Nat} {F:Nat→List (Option Event_)} (h:FL bs (m+1) F) (ho:∀ j,j<12→j≠m→sec bs' (2+j)=sec bs (2+j)) {cs:List (Option Event_)} (hs:SecOk (m+1) (1+(gdN F m).length) cs (sec bs' (2+m))) {l:List Event_} (hg:goods cs=goods (F m)++l) (hid:∀ (k:Nat) e,l[k]?=some e→e.ID=((gdN F (m+1)).length+k:Nat)+1) :
    FL bs' (m+1) (fset F m cs)∧gdN (fset F m cs) (m+1)=gdN F (m+1)++l:=by
  have hlen:=h.len
  have hgd:gdN (fset F m cs) (m+1)=gdN F (m+1)++l:=by
    simp only [gdN];rw [Qgt F cs (Nat.le_refl _),Qbu,hg,List.append_assoc]
  refine ⟨⟨h.len,λ j hj=>?_,λ j h1 h2=>?_,λ k e he=>?_⟩,hgd⟩
  · rw [Qgt F cs (by omega)]
    by_cases c:j=m
    · subst c;rw [Qbu];exact hs
    · rw [Qoq c,ho j (by omega) c];exact h.opn j (by omega)
  · rw [ho j h2 (by omega)];exact h.fre j h1 h2
  · rw [hgd] at he
    by_cases c:k<(gdN F (m+1)).length
    · rw [List.getElem?_append_left c] at he;exact h.ids k e he
    · rw [List.getElem?_append_right (by omega)] at he
      rw [hid _ e he];omega
theorem SecOk.snoc {q id:Nat} {cs:List (Option Event_)} {s s':List Int} (h:SecOk q id cs s) (hl:s.length=1024) (hl':s'.length=1024) (hn:cs.length<59) {c:Option Event_} {w:List Int} (hw:w.length=17) (hc:SlotOk c w) (hs:∀ k,k<1024→s'[k]?=if 11+cs.length*17≤k∧k<11+cs.length*17+17 then w[k-(11+cs.length*17)]? else s[k]?):SecOk q id (cs++[c]) s':=by
  refine ⟨λ k hk=>by rw [hs k (by omega),if_neg (by omega)];exact h.h k hk,by simp;omega,λ i c' hc'=>?_,λ k h1 h2=>?_⟩
  · by_cases hi:i<cs.length
    · rw [List.getElem?_append_left hi] at hc'
      have e:slb s' i=slb s i:=by
        apply List.ext_getElem?
        intro k
        by_cases hk:k<17
        · rw [Qpf hk,Qpf hk,hs _ (by omega),if_neg (by omega)]
        · rw [List.getElem?_eq_none (by rw [Qoo hl' (by omega)];omega),List.getElem?_eq_none (by rw [Qoo hl (by omega)];omega)]
      rw [e];exact h.at_ i c' hc'
    · have:i=cs.length:=by have:=(List.getElem?_eq_some_iff.1 hc').1;simp at this;omega
      subst this
      rw [List.getElem?_append_right (Nat.le_refl _)] at hc'
      simp only [Nat.sub_self,List.getElem?_cons_zero,Option.some.injEq] at hc'
      subst hc'
      have e:slb s' cs.length=w:=by
        apply List.ext_getElem?
        intro k
        by_cases hk:k<17
        · rw [Qpf hk,hs _ (by omega),if_pos (by omega),show 11+cs.length*17+k-(11+cs.length*17)=k by omega]
        · rw [List.getElem?_eq_none (by rw [Qoo hl' (by omega)];omega),List.getElem?_eq_none (by omega)]
      rw [e];exact hc
  · simp only [List.length_append,List.length_cons,List.length_nil] at h1
    rw [hs k h2,if_neg (by omega)];exact h.fr k (by omega) h2
theorem SecOk.same {q id:Nat} {cs:List (Option Event_)} {s s':List Int} (h:SecOk q id cs s) (hl:s.length=1024) (hl':s'.length=1024) (hs:∀ k,k<1024→s'[k]?=s[k]?):SecOk q id cs s':=by
  have:s'=s:=by
    apply List.ext_getElem?
    intro k
    by_cases hk:k<1024
    · exact hs k hk
    · rw [List.getElem?_eq_none (by omega),List.getElem?_eq_none (by omega)]
  rw [this];exact h
theorem EV.rv {e:Event_} (h:EV e) {k:Nat} (h1:1≤k) (h2:k≤2000):RV { e with ID:=(k:Int) }:=⟨by simp only;omega,by simp only;omega,h.tm,h.gn,h.st,h.sn,h.ty,h.da⟩
theorem valid0 (fuel:Nat) {e:Event_} (h:EV e):Qcb fuel e=some true:=Qpa fuel ⟨by rw [h.id];decide,h.tm,h.ty⟩
theorem slots59 (fuel:Nat):Qby fuel 1024=some 59:=by unfold Qby;decide
theorem slot_ev {fuel:Nat} (hf:2000<fuel) {d:Qc} (h:Dv d) (hd:d.down=false) {m:Nat} {F:Nat→List (Option Event_)} (hL:FL d.bytes (m+1) F) (hu:(F m).length<59) {e:Event_} (he:RV e) (hid:e.ID=((gdN F (m+1)).length:Int)+1) :
    Ev (Qao fuel d (((2+m)*1024+(11+(F m).length*17):Nat):Int) (enc e++[0])) (λ y=>Dv y.2∧(y.1=0∧y.2.down=false∧FL y.2.bytes (m+1) (fset F m (F m++[some e])) ∨
      y.1=10∧∃ F',FL y.2.bytes (m+1) F'∧(gdN F' (m+1)=gdN F (m+1)∨gdN F' (m+1)=gdN F (m+1)++[e]))):=by
  have hm:=hL.len
  have hso:=hL.opn m (by omega)
  have hlen:=h.len
  have el:=Qjc he
  have cl:(enc e++[0]).length=17:=by simp [el]
  have cb:∀ x∈enc e++[0],byte x:=λ x hx=>by
    rcases List.mem_append.1 hx with hx | hx
    · exact Qwq he x hx
    · simp only [List.mem_singleton] at hx;subst hx;exact zbyte
  have hsl:=Qgz hlen (show 2+m<14 by omega)
  have her:∀ j,(2+m)*1024+(11+(F m).length*17)≤j→j<(2+m)*1024+(11+(F m).length*17)+(enc e++[0]).length→d.bytes[j]?=some 255:=λ j h1 h2=>by
    obtain ⟨k,rfl⟩:∃ k,j=(2+m)*1024+k:=⟨j-(2+m)*1024,by omega⟩
    rw [← Qno (by omega)]
    exact hso.fr k (by omega) (by omega)
  have hids:∀ (k:Nat) e',[e][k]?=some e'→e'.ID=(((gdN F (m+1)).length+k:Nat):Int)+1:=λ k e' hk=>by
    cases k with
    | zero=>simp at hk;subst hk;rw [hid];omega
    | succ k=>simp at hk
  refine Ev.mono (Qlc (by omega) h hd cb (by omega) (by omega) her) (λ y hy=>⟨hy.1,?_⟩)
  obtain ⟨hy1,hy2⟩:=hy
  have hyl:=Qgz hy1.len (show 2+m<14 by omega)
  rcases hy2 with ⟨y1,y2,y3⟩ | ⟨y1,i,x,t,hx,ht,y3⟩
  · obtain ⟨s1,s2⟩:=Qja (b:=enc e++[0]) hlen (j:=2+m) (o:=11+(F m).length*17) (by omega) (by omega)
    rw [← y3] at s1 s2
    refine .inl ⟨y1,y2,?_⟩
    exact (hL.last (λ j h1 h2=>s1 _ (by omega) (by omega)) (hso.snoc hsl hyl hu cl (c:=some e) ⟨he,rfl⟩ (λ k hk=>by rw [s2 k hk,cl])) (l:=[e]) (by rw [Qey];rfl) hids).1
  · right
    refine ⟨y1,?_⟩
    have hi:=(List.getElem?_eq_some_iff.1 hx).1
    have tkl:((enc e++[0]).take i).length=i:=by rw [List.length_take];omega
    have bl:((enc e++[0]).take i++[bOr .u8 x t]).length=i+1:=by rw [List.length_append,tkl];rfl
    obtain ⟨s1,s2⟩:=Qja (b:=(enc e++[0]).take i++[bOr .u8 x t]) hlen (j:=2+m) (o:=11+(F m).length*17) (by omega) (by omega)
    rw [← y3] at s1 s2
    have others:∀ j,j<12→j≠m→sec y.2.bytes (2+j)=sec d.bytes (2+j):=λ j h1 h2=>s1 _ (by omega) (by omega)
    -- what the slot holds now
    have hw:∀ k,k<1024→(sec y.2.bytes (2+m))[k]?=if 11+(F m).length*17≤k∧k<11+(F m).length*17+17 then ((enc e++[0]).take i++[bOr .u8 x t]++List.replicate (16-i) 255)[k-(11+(F m).length*17)]? else (sec d.bytes (2+m))[k]?:=λ k hk=>by
      rw [s2 k hk,bl]
      by_cases c1:11+(F m).length*17≤k∧k<11+(F m).length*17+(i+1)
      · rw [if_pos c1,if_pos (by omega)];exact (List.getElem?_append_left (by rw [bl];omega)).symm
      · rw [if_neg c1]
        by_cases c2:11+(F m).length*17≤k∧k<11+(F m).length*17+17
        · rw [if_pos c2,List.getElem?_append_right (by omega),hso.fr k (by omega) hk,List.getElem?_replicate,if_pos (by omega)]
        · rw [if_neg c2]
    have wl:((enc e++[0]).take i++[bOr .u8 x t]++List.replicate (16-i) 255).length=17:=by rw [List.length_append,bl,List.length_replicate];omega
    generalize hwg:(enc e++[0]).take i++[bOr .u8 x t]++List.replicate (16-i) 255=w at hw wl
    have bad:SlotOk none w→∃ F',FL y.2.bytes (m+1) F'∧(gdN F' (m+1)=gdN F (m+1)∨gdN F' (m+1)=gdN F (m+1)++[e]):=λ hso'=>by
      obtain ⟨f1,f2⟩:=hL.last others (hso.snoc hsl hyl hu wl hso' hw) (l:=[]) (by rw [Qey];rfl) (λ k e' hk=>by simp at hk)
      exact ⟨_,f1,.inl (by rw [f2,List.append_nil])⟩
    by_cases c16:i=16
    · subst c16
      have hx0:x=0:=by
        rw [List.getElem?_append_right (by omega),el] at hx
        simp at hx;exact hx.symm
      subst hx0
      rw [Qtj ht] at hwg
      have htk:(enc e++[0]).take 16=enc e:=List.take_left' el
      rw [htk,show 16-16=0 from rfl,List.replicate_zero,List.append_nil] at hwg
      by_cases ht0:t=0
      · subst ht0
        obtain ⟨f1,f2⟩:=hL.last others (hso.snoc hsl hyl hu wl (c:=some e) ⟨he,hwg.symm⟩ hw) (l:=[e]) (by rw [Qey];rfl) hids
        exact ⟨_,f1,.inr f2⟩
      · refine bad ⟨wl,⟨t,?_,ht0⟩,?_⟩
        · rw [← hwg,List.getElem?_append_right (by omega),el];rfl
        · rw [← hwg];simp [blk,enc]
    · by_cases hb:blk w=true
      · -- nothing is to be seen of it
        have hall:∀ k,k<17→w[k]?=some 255:=λ k hk=>by
          simp only [blk,List.all_eq_true,beq_iff_eq] at hb
          rw [List.getElem?_eq_getElem (by omega),hb _ (List.getElem_mem _)]
        have hsame:SecOk (m+1) (1+(gdN F m).length) (F m) (sec y.2.bytes (2+m)):=hso.same hsl hyl (λ k hk=>by
          rw [hw k hk]
          by_cases c2:11+(F m).length*17≤k∧k<11+(F m).length*17+17
          · rw [if_pos c2,hall _ (by omega),hso.fr k (by omega) hk]
          · rw [if_neg c2])
        obtain ⟨f1,f2⟩:=hL.last others hsame (l:=[]) (by simp) (λ k e' hk=>by simp at hk)
        exact ⟨_,f1,.inl (by rw [f2,List.append_nil])⟩
      · refine bad ⟨wl,⟨255,?_,by decide⟩,by simpa using hb⟩
        rw [← hwg,List.getElem?_append_right (by omega),List.getElem?_replicate,if_pos (by omega)]
end Lift
namespace Lift
open Go
theorem Qtn {F:Nat→List (Option Event_)}:∀ n,∀ r∈rcN F n,1≤r.sequence
  | 0,r,h=>by cases h
  | n+1,r,h=>by
    simp only [rcN] at h
    rcases List.mem_append.1 h with h | h
    · exact Qtn n r h
    · obtain ⟨e,_,rfl⟩:=List.mem_map.1 h
      simp only;omega
theorem Qvg {fuel:Nat} {l:List Qe} (hf:l.length<fuel) (hl:l.length≤2000) (h:∀ r∈l,1≤r.sequence):Ql fuel l 1=some l:=by
  apply Ev.eq
  unfold Ql Qp
  refine Ev.bind (P:=λ y:Int=>y=-1) ?_ (λ y hy=>Ev.iteT (by rw [hy];rfl) (Ev.ret rfl))
  refine Ev.loop (λ (n:Nat) (x:Int)=>∃ i:Nat,x=i∧i+n=l.length) (λ n x hI self hself=>?_) (n:=l.length) (by omega) ⟨0,rfl,by omega⟩
  obtain ⟨i,rfl,i2⟩:=hI
  refine Ev.dec (λ hlt=>Ev.idx (by omega) hlt (λ x _ hm=>Ev.to (show Qbv fuel x 1=some (decide (x.sequence<1)) from rfl) (Ev.decF (by have:=h x hm;omega) ?_))) (λ _=>Ev.ret rfl)
  rw [w_inc (by omega)];exact hself (n-1) _ (by omega) ⟨i+1,rfl,by omega⟩
theorem open_ev {fuel:Nat} (hf:5000<fuel) {d:Qc} (h:Dv d) (hd:d.down=false) {n:Nat} {F:Nat→List (Option Event_)} (hL:FL d.bytes n F) (hn:n≤10) :
    Ev (Qcl fuel (logOf n F) 1 d) (λ y=>Dv y.2.2∧(y.1=0∧y.2.1=logOf (n+1) (fset F n [])∧FL y.2.2.bytes (n+1) (fset F n [])∧y.2.2.down=false∨y.1=10∧y.2.1=logOf n F∧(FL y.2.2.bytes n F∨FL y.2.2.bytes (n+1) (fset F n [])))):=by
  have hlen:=h.len
  have hsz:=h.size
  have gl:=Qgw hL n (Nat.le_refl _)
  have hfr:=hL.fre n (Nat.le_refl _) (by omega)
  have hs:Qw fuel d=some 1024:=by unfold Qw;rw [hsz]
  have hsl:=Qgz hlen (show 2+n<14 by omega)
  have w1:IntKind.i64.wrap ((n:Int)+1)=((n+1:Nat):Int):=w_inc (by omega)
  have w2:IntKind.i64.wrap (((n+1:Nat):Int)-1)=(n:Int):=by rw [w_i64 (by omega) (by omega)];omega
  have w3:IntKind.i64.wrap (2+Int.tmod (n:Int) 12)=((2+n:Nat):Int):=by rw [Int.tmod_eq_of_lt (by omega) (by omega),w_i64 (by omega) (by omega)];omega
  have w4:IntKind.i64.wrap (((2+n:Nat):Int)*1024)=(((2+n)*1024:Nat):Int):=by rw [w_i64 (by omega) (by omega)];omega
  have w5:IntKind.i64.wrap ((((2+n)*1024:Nat):Int)+10)=(((2+n)*1024+10:Nat):Int):=by rw [w_i64 (by omega) (by omega)];omega
  unfold Qcl
  have hnew:(logOf n F).newest=(n:Int):=rfl
  have hsec:(logOf n F).sectors=12:=rfl
  have hfst:(logOf n F).first=2:=rfl
  have hdd:(logOf n F).d=true:=rfl
  have hrec:(logOf n F).records=rcN F n:=rfl
  have hnext:(logOf n F).next=((1+(gdN F n).length:Nat):Int):=by show (1:Int)+((gdN F n).length:Int)=_;omega
  rw [hnew,hsec,hfst,hdd,hrec,hnext,w1]
  refine Ev.letP (Ev.decF (by omega) (Ev.chk rfl ?_))
  rw [w2,w3]
  refine Ev.letP (Ev.chk rfl (Ev.to hs ?_))
  rw [w4]
  refine Ev.letP (Ev.to hs (Ev.to (Qtt h hd (by omega)) ?_))
  rw [w5]
  -- after the erasing
  refine Ev.join (λ b=>b=!blk (sec d.bytes (2+n))) (λ b hb=>?_) (λ j1 hj1=>Ev.beqT rfl (Ev.to (show Qcq fuel (sec d.bytes (2+n))=some (blk (sec d.bytes (2+n))) from Qsf (by omega) (by omega)) (hj1 _ rfl)))
  refine Ev.join (λ v:Int×Qc=>Dv v.2∧(v.1=0∧v.2.down=false∧(∀ j,j<12→j≠n→sec v.2.bytes (2+j)=sec d.bytes (2+j))∧(∀ k,k<1024→(sec v.2.bytes (2+n))[k]?=some 255)∨v.1=10∧FL v.2.bytes n F)) (λ v hv=>?_) (λ j2 hj2=>Ev.ite (λ hbt=>Ev.bind (Qwp (by omega) h hd (show 2+n<14 by omega)) (λ y9 h9=>hj2 _ ?_)) (λ hbf=>hj2 _ ?_))
  rotate_left
  · obtain ⟨e1,e2,e3⟩:=h9
    refine ⟨e1,?_⟩
    rcases e3 with ⟨e3,e4,e5⟩ | ⟨e3,t,e4,e5⟩
    · exact .inl ⟨e3,e4,λ j h1 h2=>e2 _ (by omega) (by omega),e5⟩
    · refine .inr ⟨e3,hL.fre_ (λ j h1 h2=>e2 _ (by omega) (by omega)) ⟨?_,λ k k1 k2=>?_⟩⟩
      · obtain ⟨v,hv,hne⟩:=hfr.1
        have hb10:byte v:=h.by_ v (by rw [Qno (by omega)] at hv;exact List.mem_of_getElem? hv)
        exact ⟨_,by rw [e5 10 (by omega),hv];rfl,or_ne hb10 e4 hne⟩
      · rw [e5 k k2,hfr.2 k k1 k2];simp only [Option.map_some];rw [or255 e4]
  · rw [hbf] at hb
    have hbk:blk (sec d.bytes (2+n))=true:=by simpa using hb.symm
    refine ⟨h,.inl ⟨rfl,hd,λ _ _ _=>rfl,λ k hk=>?_⟩⟩
    simp only [blk,List.all_eq_true,beq_iff_eq] at hbk
    show (sec d.bytes (2+n))[k]?=some 255
    rw [List.getElem?_eq_getElem (by omega),hbk _ (List.getElem_mem _)]
  obtain ⟨v1,v2⟩:=hv
  -- after the header
  refine Ev.join (λ u:Int×Qc=>Dv u.2∧(u.1=0∧u.2.down=false∧(∀ j,j<12→j≠n→sec u.2.bytes (2+j)=sec d.bytes (2+j))∧(∀ k,k<1024→(sec u.2.bytes (2+n))[k]?=if k<10 then (Lift.hd (n+1) (1+(gdN F n).length))[k]? else some 255)∨u.1=10∧FL u.2.bytes n F)) (λ u hu=>?_) (λ j3 hj3=>?_)
  rotate_left
  · rcases v2 with ⟨v3,v4,v5,v6⟩ | ⟨v3,v4⟩
    rotate_left
    · exact Ev.iteF (by rw [v3];rfl) (hj3 _ ⟨v1,.inr ⟨v3,v4⟩⟩)
    have hwr:∀ q:Nat,q≤11→Qcv fuel (q:Int)=some [(q:Int),0,0,0]:=λ q hq=>by
      unfold Qcv
      obtain rfl | rfl | rfl | rfl | rfl | rfl | rfl | rfl | rfl | rfl | rfl | rfl:q=0∨q=1∨q=2∨q=3∨q=4∨q=5∨q=6∨q=7∨q=8∨q=9∨q=10∨q=11:=by omega
      all_goals decide
    have u1:IntKind.u8.wrap ((1+(gdN F n).length:Nat):Int)=((1+(gdN F n).length:Nat):Int) % 256:=w_u8 _
    have u2:IntKind.u8.wrap (bShr .u16 ((1+(gdN F n).length:Nat):Int) 8)=((1+(gdN F n).length:Nat):Int) / 256:=by rw [shr8 (by omega),w_u8];omega
    refine Ev.iteT (by rw [v3];rfl) (Ev.to (hwr (n+1) (by omega)) (Ev.to (hwr 1 (by omega)) (Ev.app (by simp) (Ev.app (by simp) ?_))))
    rw [u1,u2]
    have hx5:([((n+1:Nat):Int),0,0,0]++[((1:Nat):Int),0,0,0]++[((1+(gdN F n).length:Nat):Int) % 256,((1+(gdN F n).length:Nat):Int) / 256]:List Int)=(Lift.hd (n+1) (1+(gdN F n).length)).take 10:=rfl
    rw [hx5]
    have hbl:((Lift.hd (n+1) (1+(gdN F n).length)).take 10).length=10:=rfl
    have hbb:∀ x∈(Lift.hd (n+1) (1+(gdN F n).length)).take 10,byte x:=λ x hx=>by
      rw [← hx5] at hx
      simp only [List.cons_append,List.nil_append,List.mem_cons,List.not_mem_nil,or_false] at hx
      rcases hx with rfl | rfl | rfl | rfl | rfl | rfl | rfl | rfl | rfl | rfl
      · constructor<;>omega
      all_goals first | (unfold byte;decide) | (constructor<;>omega)
    have her:∀ j,(2+n)*1024≤j→j<(2+n)*1024+((Lift.hd (n+1) (1+(gdN F n).length)).take 10).length→v.2.bytes[j]?=some 255:=λ j h1 h2=>by
      rw [hbl] at h2
      obtain ⟨k,rfl⟩:∃ k,j=(2+n)*1024+k:=⟨j-(2+n)*1024,by omega⟩
      rw [← Qno (by omega)]
      exact v6 k (by omega)
    refine Ev.bind (Qlc (by omega) v1 v4 hbb (by omega) (by omega) her) (λ y8 h8=>hj3 _ ⟨h8.1,?_⟩)
    rcases h8.2 with ⟨p1,p2,p3⟩ | ⟨p1,i,x,t,hx,ht,p3⟩
    · obtain ⟨s1,s2⟩:=Qja (b:=(Lift.hd (n+1) (1+(gdN F n).length)).take 10) v1.len (j:=2+n) (o:=0) (by omega) (by omega)
      rw [Nat.add_zero,← p3] at s1 s2
      refine .inl ⟨p1,p2,λ j h1 h2=>by rw [s1 _ (by omega) (by omega)];exact v5 j h1 h2,λ k hk=>?_⟩
      rw [s2 k hk,hbl]
      by_cases c:k<10
      · rw [if_pos (by omega),if_pos c,Nat.sub_zero,List.getElem?_take,if_pos c]
      · rw [if_neg (by omega),if_neg c];exact v6 k hk
    · have hi:=(List.getElem?_eq_some_iff.1 hx).1
      have bl:(((Lift.hd (n+1) (1+(gdN F n).length)).take 10).take i++[bOr .u8 x t]).length=i+1:=by
        rw [List.length_append,List.length_take,List.length_singleton];omega
      obtain ⟨s1,s2⟩:=Qja (b:=((Lift.hd (n+1) (1+(gdN F n).length)).take 10).take i++[bOr .u8 x t]) v1.len (j:=2+n) (o:=0) (by omega) (by omega)
      rw [Nat.add_zero,← p3] at s1 s2
      have tail:∀ k,10≤k→k<1024→(sec y8.2.bytes (2+n))[k]?=some 255:=λ k h1 h2=>by
        rw [s2 k h2,bl,if_neg (by omega)];exact v6 k h2
      exact .inr ⟨p1,hL.fre_ (λ j h1 h2=>by rw [s1 _ (by omega) (by omega)];exact v5 j h1 h2) ⟨⟨255,tail 10 (by omega) (by omega),by decide⟩,λ k k1 k2=>tail k (by omega) k2⟩⟩
  obtain ⟨u1,u2⟩:=hu
  -- after the status byte
  refine Ev.join (λ r:Int×Qc=>Dv r.2∧(r.1=0∧r.2.down=false∧FL r.2.bytes (n+1) (fset F n [])∨r.1=10∧(FL r.2.bytes n F∨FL r.2.bytes (n+1) (fset F n [])))) (λ r hr=>?_) (λ j4 hj4=>?_)
  · rcases hr.2 with ⟨r1,r2,r3⟩ | ⟨r1,r2⟩
    · have hgl:(gdN (fset F n []) (n+1)).length=(gdN F n).length:=by
        simp only [gdN];rw [Qgt F [] (Nat.le_refl _),Qbu];simp [goods]
      refine Ev.iteT (by rw [r1];rfl) (Ev.letP (Ev.letP (Ev.letP (Ev.to (show Ql fuel (rcN F n) 1=some (rcN F n) from Qvg (by rw [Qgq];omega) (by rw [Qgq];omega) (Qtn n)) (Ev.ret ⟨hr.1,.inl ⟨r1,?_,r3,r2⟩⟩)))))
      have hrc:rcN (fset F n []) (n+1)=rcN F n:=by
        simp only [rcN];rw [Qti F [] (Nat.le_refl _),Qbu];simp [goods]
      unfold logOf
      rw [hrc,hgl,if_neg (show ¬ n+1=0 by omega),if_neg (show ¬ n+1=0 by omega),show n+1-1=n by omega,Qbu]
      rfl
    · exact Ev.iteF (by rw [r1];rfl) (Ev.ret ⟨hr.1,.inr ⟨r1,rfl,r2⟩⟩)
  · rcases u2 with ⟨u3,u4,u5,u6⟩ | ⟨u3,u4⟩
    rotate_left
    · exact Ev.iteF (by rw [u3];rfl) (hj4 _ ⟨u1,.inr ⟨u3,.inl u4⟩⟩)
    have her:∀ j,(2+n)*1024+10≤j→j<(2+n)*1024+10+([0]:List Int).length→u.2.bytes[j]?=some 255:=λ j h1 h2=>by
      simp only [List.length_cons,List.length_nil] at h2
      have:j=(2+n)*1024+10:=by omega
      subst this
      rw [← Qno (by omega),u6 10 (by omega)];rfl
    have hdr:∀ s:List Int,(∀ k,k<1024→s[k]?=if k=10 then some 0 else if k<10 then (Lift.hd (n+1) (1+(gdN F n).length))[k]? else some 255)→SecOk (n+1) (1+(gdN F n).length) [] s:=λ s hsx=>by
      refine ⟨λ k hk=>?_,by simp,λ i c hc=>by simp at hc,λ k k1 k2=>?_⟩
      · rw [hsx k (by omega)]
        by_cases c:k=10
        · subst c;rw [if_pos rfl];rfl
        · rw [if_neg c,if_pos (by omega)]
      · simp only [List.length_nil] at k1
        rw [hsx k k2,if_neg (by omega),if_neg (by omega)]
    refine Ev.iteT (by rw [u3];rfl) (Ev.bind (Qlc (b:=[0]) (by omega) u1 u4 (λ x hx=>by simp only [List.mem_singleton] at hx;subst hx;exact zbyte) (by simp) (by simp;omega) her) (λ y5 h5=>hj4 _ ⟨h5.1,?_⟩))
    rcases h5.2 with ⟨p1,p2,p3⟩ | ⟨p1,i,x,t,hx,ht,p3⟩
    · obtain ⟨s1,s2⟩:=Qja (b:=[0]) u1.len (j:=2+n) (o:=10) (by omega) (by simp)
      rw [← p3] at s1 s2
      refine .inl ⟨p1,p2,hL.opn_ hn (λ j h1 h2=>by rw [s1 _ (by omega) (by omega)];exact u5 j h1 h2) (hdr _ (λ k hk=>?_))⟩
      rw [s2 k hk]
      simp only [List.length_cons,List.length_nil]
      by_cases c:k=10
      · subst c;rw [if_pos (by omega),if_pos rfl];rfl
      · rw [if_neg (by omega),if_neg c];exact u6 k hk
    · have hi:i=0:=by have:=(List.getElem?_eq_some_iff.1 hx).1;simp at this;exact this
      subst hi
      simp at hx
      subst hx
      rw [List.take_zero,List.nil_append,Qtj ht] at p3
      obtain ⟨s1,s2⟩:=Qja (b:=[t]) u1.len (j:=2+n) (o:=10) (by omega) (by simp)
      rw [← p3] at s1 s2
      have others:∀ j,j<12→j≠n→sec y5.2.bytes (2+j)=sec d.bytes (2+j):=λ j h1 h2=>by rw [s1 _ (by omega) (by omega)];exact u5 j h1 h2
      have hat:∀ k,k<1024→(sec y5.2.bytes (2+n))[k]?=if k=10 then some t else if k<10 then (Lift.hd (n+1) (1+(gdN F n).length))[k]? else some 255:=λ k hk=>by
        rw [s2 k hk]
        simp only [List.length_cons,List.length_nil]
        by_cases c:k=10
        · subst c;rw [if_pos (by omega),if_pos rfl];rfl
        · rw [if_neg (by omega),if_neg c];exact u6 k hk
      refine .inr ⟨p1,?_⟩
      by_cases ht0:t=0
      · subst ht0;exact .inr (hL.opn_ hn others (hdr _ hat))
      · refine .inl (hL.fre_ others ⟨⟨t,by rw [hat 10 (by omega),if_pos rfl],ht0⟩,λ k k1 k2=>by rw [hat k k2,if_neg (by omega),if_neg (by omega)]⟩)
end Lift
namespace Lift
open Go
theorem Qop (fuel:Nat) {g:Qb} (h1:g.ended=false) (h2:g.d=true) (d:Qc):Ev (Qbk fuel g d) (λ y=>y.2.2=d∧(d.down=false→y.1=false∧y.2.1=g)):=by
  unfold Qbk
  refine Ev.join (λ b=>b=d.down) (λ b hb=>Ev.ite (λ hbt=>Ev.ret ⟨rfl,λ h=>by rw [hbt,h] at hb;cases hb⟩) (λ hbf=>Ev.ret ⟨rfl,λ h=>⟨h1,rfl⟩⟩)) (λ j hj=>Ev.iteF h1 (Ev.chk h2 (Ev.to rfl (hj _ rfl))))
def wid (e:Event_) (k:Nat):Event_:={ e with ID:=((k+1:Nat):Int) }
theorem put_ev {fuel:Nat} (hf:5000<fuel) {d:Qc} (h:Dv d) (hd:d.down=false) {m:Nat} {F:Nat→List (Option Event_)} (hL:FL d.bytes (m+1) F) (hu:(F m).length<59) {e:Event_} (he:EV e) {k:Nat} (hk:k=(gdN F (m+1)).length) :
    RV (wid e k)∧IntKind.i64.wrap (IntKind.i64.wrap (IntKind.i64.wrap (IntKind.i64.wrap (2+Int.tmod (IntKind.i64.wrap (((m+1:Nat):Int)-1)) 12)*1024)+11)+IntKind.i64.wrap (((F m).length:Int)*17))=(((2+m)*1024+(11+(F m).length*17):Nat):Int):=by
  have hm:=hL.len
  have gl:=Qgw hL (m+1) (Nat.le_refl _)
  refine ⟨he.rv (by omega) (by omega),?_⟩
  rw [show IntKind.i64.wrap (((m+1:Nat):Int)-1)=(m:Int) by rw [w_i64 (by omega) (by omega)];omega,Int.tmod_eq_of_lt (by omega) (by omega),
    show IntKind.i64.wrap (2+(m:Int))=((2+m:Nat):Int) by rw [w_i64 (by omega) (by omega)];omega,
    show IntKind.i64.wrap (((2+m:Nat):Int)*1024)=(((2+m)*1024:Nat):Int) by rw [w_i64 (by omega) (by omega)];omega,
    show IntKind.i64.wrap ((((2+m)*1024:Nat):Int)+11)=(((2+m)*1024+11:Nat):Int) by rw [w_i64 (by omega) (by omega)];omega,
    show IntKind.i64.wrap (((F m).length:Int)*17)=(((F m).length*17:Nat):Int) by rw [w_i64 (by omega) (by omega)];omega,
    show IntKind.i64.wrap ((((2+m)*1024+11:Nat):Int)+(((F m).length*17:Nat):Int))=(((2+m)*1024+11+(F m).length*17:Nat):Int) by rw [w_i64 (by omega) (by omega)];omega]
  omega
theorem Qvh {m:Nat} {F:Nat→List (Option Event_)} {e:Event_} {k:Nat} (hk:k=(gdN F (m+1)).length):logOf (m+1) (fset F m (F m++[some (wid e k)]))=⟨true,2,12,false,((m+1:Nat):Int),1,(((F m).length+1:Nat):Int),((k+1:Nat):Int)+1,rcN F (m+1)++[⟨((m+1:Nat):Int),wid e k⟩],false,0,false,false⟩:=by
  have h1:gdN (fset F m (F m++[some (wid e k)])) (m+1)=gdN F (m+1)++[wid e k]:=by
    simp only [gdN];rw [Qgt F _ (Nat.le_refl _),Qbu,Qey,List.append_assoc];rfl
  have h2:rcN (fset F m (F m++[some (wid e k)])) (m+1)=rcN F (m+1)++[⟨((m+1:Nat):Int),wid e k⟩]:=by
    simp only [rcN];rw [Qti F _ (Nat.le_refl _),Qbu,Qey,List.map_append,List.append_assoc];rfl
  unfold logOf
  rw [h1,h2,if_neg (show ¬ m+1=0 by omega),if_neg (show ¬ m+1=0 by omega),show m+1-1=m by omega,Qbu]
  simp only [List.length_append,List.length_cons,List.length_nil,← hk]
  congr 1
  omega
theorem Add_ev {fuel:Nat} (hf:5000<fuel) {d:Qc} (h:Dv d) (hd:d.down=false) {n:Nat} {F:Nat→List (Option Event_)} (hL:FL d.bytes n F) {e:Event_} (he:EV e) :
    Ev (Qcr fuel (logOf n F) e d) (λ y=>Dv y.2.2.2∧(y.2.1=0∧y.2.2.2.down=false∧(∃ n' F',y.2.2.1=logOf n' F'∧FL y.2.2.2.bytes n' F'∧gdN F' n'=gdN F n++[wid e (gdN F n).length]) ∨
      y.2.1=9∧y.2.2.1.records=rcN F n ∨
      y.2.1=10∧∃ n' F',FL y.2.2.2.bytes n' F'∧(gdN F' n'=gdN F n∨gdN F' n'=gdN F n++[wid e (gdN F n).length]))):=by
  unfold Qcr
  have hn:=hL.len
  have gl:=Qgw hL n (Nat.le_refl _)
  have hsz:=h.size
  refine Ev.bind (Qop fuel (g:=logOf n F) rfl rfl d) (λ y1 h1=>?_)
  obtain ⟨a1,a2⟩:=h1
  obtain ⟨a3,a4⟩:=a2 hd
  obtain ⟨b1,g1,d1⟩:=y1
  simp only at a1 a3 a4 ⊢
  subst a1;subst a3;subst a4
  have hs:Qw fuel d1=some 1024:=by unfold Qw;rw [hsz]
  refine Ev.iteF rfl (Ev.to (valid0 fuel he) (Ev.join (λ b=>b=false) (λ b hb=>Ev.iteF hb ?_) (λ j hj=>Ev.iteF rfl (hj _ (by rw [he.id];rfl)))))
  refine Ev.join (λ b=>b=true∧(n=0∨∃ m,n=m+1∧(F m).length=59)∨b=false∧∃ m,n=m+1∧(F m).length<59) (λ b hb=>?_) (λ j2 hj2=>?_)
  rotate_left
  · refine Ev.chk rfl (Ev.letP ?_)
    by_cases h0:n=0
    · subst h0
      exact Ev.iteT rfl (hj2 _ (.inl ⟨rfl,.inl rfl⟩))
    · obtain ⟨m,rfl⟩:∃ m,n=m+1:=⟨n-1,by omega⟩
      have hF:=(hL.opn m (by omega)).n
      refine Ev.iteF (by rw [beq_eq_false_iff_ne];show ((m+1:Nat):Int)≠0;omega) (Ev.to hs (Ev.to (slots59 fuel) (hj2 _ ?_)))
      have hused:(logOf (m+1) F).used=((F m).length:Int):=by unfold logOf;rw [if_neg (show ¬ m+1=0 by omega),if_neg (show ¬ m+1=0 by omega)];rfl
      simp only [hused]
      by_cases c:(F m).length=59
      · exact .inl ⟨by rw [c];rfl,.inr ⟨m,rfl,c⟩⟩
      · exact .inr ⟨by rw [beq_eq_false_iff_ne];omega,m,rfl,by omega⟩
  refine Ev.join (λ v:Qb×Qc=>∃ m F3,v.1=logOf (m+1) F3∧Dv v.2∧v.2.down=false∧FL v.2.bytes (m+1) F3∧(F3 m).length<59∧gdN F3 (m+1)=gdN F n) (λ v hv=>?_) (λ j3 hj3=>?_)
  · obtain ⟨m,F3,v1,v2,v3,v4,v5,v6⟩:=hv
    obtain ⟨g3,d3⟩:=v
    simp only at v1 v2 v3 v4 ⊢
    subst v1
    have hk:(gdN F n).length=(gdN F3 (m+1)).length:=by rw [v6]
    obtain ⟨p1,p2⟩:=put_ev hf v2 v3 v4 v5 he hk
    have hm:=v4.len
    have hnx:(logOf (m+1) F3).next=(((gdN F n).length+1:Nat):Int):=by show (1:Int)+((gdN F3 (m+1)).length:Int)=_;rw [← hk];omega
    have hused:(logOf (m+1) F3).used=((F3 m).length:Int):=by unfold logOf;rw [if_neg (show ¬ m+1=0 by omega),if_neg (show ¬ m+1=0 by omega)];rfl
    have hs3:Qw fuel d3=some 1024:=by unfold Qw;rw [v2.size]
    have hwid:({ e with ID:=(logOf (m+1) F3).next }:Event_)=wid e (gdN F n).length:=by rw [hnx];rfl
    rw [hwid]
    refine Ev.letP (Ev.to (Qvq p1) (Ev.chk rfl (Ev.chk rfl (Ev.to hs3 ?_))))
    rw [hused,show (logOf (m+1) F3).first=2 from rfl,show (logOf (m+1) F3).newest=((m+1:Nat):Int) from rfl,show (logOf (m+1) F3).sectors=12 from rfl,p2]
    refine Ev.letP (Ev.app (by rw [Qjc p1];simp) (Ev.bind (slot_ev (by omega) v2 v3 v4 v5 p1 (by rw [← hk];show (((gdN F n).length+1:Nat):Int)=_;omega)) (λ y5 h5=>?_)))
    obtain ⟨q1,q2⟩:=h5
    rcases q2 with ⟨r1,r2,r3⟩ | ⟨r1,F',r2,r3⟩
    · refine Ev.bneF r1 (Ev.app (by rw [show (logOf (m+1) F3).records=rcN F3 (m+1) from rfl,Qgq,v6];simp;omega) (Ev.letP (Ev.to (show Qbl fuel (wid e (gdN F n).length).ID=some ((((gdN F n).length+1:Nat):Int)+1) from Qpz fuel (by show (0:Int)≤(((gdN F n).length+1:Nat):Int);omega) (by show (((gdN F n).length+1:Nat):Int)≤2000;omega)) (Ev.letP (Ev.ret ⟨q1,.inl ⟨rfl,r2,m+1,_,?_,r3,?_⟩⟩)))))
      · have hL3:logOf (m+1) F3=⟨true,2,12,false,((m+1:Nat):Int),1,((F3 m).length:Int),1+((gdN F3 (m+1)).length:Int),rcN F3 (m+1),false,0,false,false⟩:=by
          unfold logOf
          rw [if_neg (show ¬ m+1=0 by omega),if_neg (show ¬ m+1=0 by omega)];rfl
        rw [Qvh hk]
        simp only [hL3,w_inc (show (F3 m).length<1000000 by omega)]
      · simp only [gdN]
        rw [Qgt F3 _ (Nat.le_refl _),Qbu,Qey,← v6]
        simp only [gdN,List.append_assoc];rfl
    · refine Ev.bneT (by rw [r1];decide) (Ev.bind (Qop fuel (g:=logOf (m+1) F3) rfl rfl y5.2) (λ y6 h6=>Ev.ret ⟨by rw [h6.1];exact q1,.inr (.inr ⟨r1,m+1,F',by rw [h6.1];exact r2,?_⟩)⟩))
      rw [v6] at r3;exact r3
  · rcases hb with ⟨rfl,hfull⟩ | ⟨rfl,m,rfl,hlt⟩
    rotate_left
    · exact Ev.iteF rfl (hj3 _ ⟨m,F,rfl,h,hd,hL,hlt,rfl⟩)
    refine Ev.iteT rfl ?_
    have hmax:max (logOf n F).tail 1=1:=by
      show max (if n=0 then (0:Int) else 1) 1=1
      by_cases c:n=0
      · rw [if_pos c];rfl
      · rw [if_neg c];rfl
    have hw:IntKind.i64.wrap (IntKind.i64.wrap ((logOf n F).newest+1)-1)=(n:Int):=by
      show IntKind.i64.wrap (IntKind.i64.wrap ((n:Int)+1)-1)=(n:Int)
      rw [w_inc (by omega),w_i64 (by omega) (by omega)];omega
    have hw2:IntKind.i64.wrap ((logOf n F).sectors-2)=10:=by
      show IntKind.i64.wrap (12-2)=10
      decide
    by_cases c11:n=11
    · refine Ev.bind (P:=λ y:Int×Qb×Qc=>y.1=9∧y.2.1.records=rcN F n∧y.2.1.ended=false∧y.2.1.d=true∧y.2.2=d1) ?_ (λ y8 h8=>?_)
      · unfold Qdc
        rw [hmax,hw,hw2]
        exact Ev.decT (by omega) (Ev.iteT rfl (Ev.letP (Ev.ret ⟨rfl,rfl,rfl,rfl,rfl⟩)))
      · obtain ⟨k1,k2,k3,k4,k5⟩:=h8
        refine Ev.bneT (by rw [k1];decide) (Ev.bind (Qop fuel k3 k4 y8.2.2) (λ y9 h9=>Ev.ret ⟨by rw [h9.1,k5];exact h,.inr (.inl ⟨k1,?_⟩)⟩))
        rw [(h9.2 (by rw [k5];exact hd)).2];exact k2
    · refine Ev.bind (P:=λ y:Int×Qb×Qc=>Dv y.2.2∧(y.1=0∧y.2.1=logOf (n+1) (fset F n [])∧FL y.2.2.bytes (n+1) (fset F n [])∧y.2.2.down=false∨y.1=10∧y.2.1=logOf n F∧(FL y.2.2.bytes n F∨FL y.2.2.bytes (n+1) (fset F n [])))) ?_ (λ y8 h8=>?_)
      · unfold Qdc
        rw [hmax,hw,hw2]
        exact Ev.decF (by omega) (Ev.bind (open_ev hf h hd hL (by omega)) (λ y2 h2=>Ev.ret h2))
      · obtain ⟨k0,hk⟩:=h8
        have hg0:gdN (fset F n []) (n+1)=gdN F n:=by
          simp only [gdN];rw [Qgt F [] (Nat.le_refl _),Qbu];simp [goods]
        rcases hk with ⟨k1,k2,k3,k4⟩ | ⟨k1,k2,k3⟩
        · exact Ev.bneF k1 (hj3 _ ⟨n,fset F n [],k2,k0,k4,k3,by rw [Qbu];simp,hg0⟩)
        · refine Ev.bneT (by rw [k1];decide) (Ev.bind (Qop fuel (g:=y8.2.1) (by rw [k2];rfl) (by rw [k2];rfl) y8.2.2) (λ y9 h9=>Ev.ret ⟨by rw [h9.1];exact k0,.inr (.inr ⟨k1,?_⟩)⟩))
          rw [h9.1]
          rcases k3 with k3 | k3
          · exact ⟨n,F,k3,.inl rfl⟩
          · exact ⟨n+1,fset F n [],k3,.inl hg0⟩
theorem Qiu {fuel:Nat} {g:Qb} (hl:g.records.length≤2000) (hf:2000<fuel):Qan fuel g=some (g.records.map (·.event)):=by
  apply Ev.eq
  unfold Qan
  refine Ev.loop (λ (n:Nat) (x:Int×List Event_)=>∃ i:Nat,x.1=i∧i+n=g.records.length∧x.2=(g.records.take i).map (·.event)) (λ n x hI self hself=>?_) (n:=g.records.length) (by omega) ⟨0,rfl,by omega,rfl⟩
  obtain ⟨pos,l⟩:=x
  obtain ⟨i,i1,i2,i3⟩:=hI
  simp only at i1 i3 ⊢
  subst i1;subst i3
  refine Ev.dec (λ hlt=>Ev.idx (by omega) hlt (λ x hx _=>Ev.app (by simp;omega) ?_)) (λ hge=>Ev.ret (by rw [List.take_of_length_le (by omega)]))
  simp only [Int.toNat_natCast] at hx
  rw [w_inc (by omega)]
  exact hself (n-1) _ (by omega) ⟨i+1,rfl,by omega,by rw [List.take_add_one,hx];simp⟩
def zid (e:Event_):Event_:={ e with ID:=0 }
theorem Qrc {fuel:Nat} {l:List Event_} (hl:l.length≤2000) (hf:2000<fuel):Qgu fuel l=some (l.map zid):=by
  apply Ev.eq
  unfold Qgu
  refine Ev.loop (λ (n:Nat) (x:Int×List Event_)=>∃ i:Nat,x.1=i∧i+n=l.length∧x.2=(l.take i).map zid) (λ n x hI self hself=>?_) (n:=l.length) (by omega) ⟨0,rfl,by omega,rfl⟩
  obtain ⟨pos,m⟩:=x
  obtain ⟨i,i1,i2,i3⟩:=hI
  simp only at i1 i3 ⊢
  subst i1;subst i3
  refine Ev.dec (λ hlt=>Ev.idx (by omega) hlt (λ x hx _=>Ev.letP (Ev.app (by simp;omega) (Ev.letE (w_inc (by omega)) (hself (n-1) _ (by omega) ⟨i+1,rfl,by omega,?_⟩))))) (λ hge=>Ev.ret (by rw [List.take_of_length_le (by omega)]))
  simp only [Int.toNat_natCast] at hx
  rw [List.take_add_one,hx];simp [zid]
theorem Qwc (e:Event_):Event_.eqb e e=true:=by
  have h:∀ l:List Int,eqL eqI l l=true:=λ l=>by rw [eqL_beq];simp [eqS]
  simp [Event_.eqb,eqI,eqB,h]
theorem Qtp {fuel:Nat} {l:List Event_} (hl:l.length≤2000) (hf:2000<fuel):Qdl fuel l l=some true:=by
  apply Ev.isTrue
  unfold Qdl
  refine Ev.bneF rfl (Ev.loop (λ (n:Nat) (x:Int)=>∃ i:Nat,x=i∧i+n=l.length) (λ n x hI self hself=>?_) (n:=l.length) (by omega) ⟨0,rfl,by omega⟩)
  obtain ⟨i,rfl,i2⟩:=hI
  refine Ev.dec (λ hlt=>Ev.idx (by omega) hlt (λ x hx _=>?_)) (λ _=>Ev.ret rfl)
  simp only [Int.toNat_natCast] at hx
  exact Ev.to (by rw [Qam];exact hx) (Ev.iteF (by rw [Qwc];rfl) (Ev.letE (w_inc (by omega)) (hself (n-1) _ (by omega) ⟨i+1,rfl,by omega⟩)))
end Lift
namespace Lift
open Go
theorem Qvl {l m:List Int} {k:Nat} (h:k+m.length≤l.length) (j:Nat):(lay l k m)[j]?=if k≤j∧j<k+m.length then m[j-k]? else l[j]?:=by
  unfold lay
  have hk:(l.take k).length=k:=by rw [List.length_take];omega
  by_cases c1:j<k
  · rw [if_neg (by omega),List.append_assoc,List.getElem?_append_left (by omega),List.getElem?_take,if_pos c1]
  · by_cases c2:j<k+m.length
    · rw [if_pos (by omega),List.append_assoc,List.getElem?_append_right (by omega),List.getElem?_append_left (by omega),hk]
    · rw [if_neg (by omega),List.getElem?_append_right (by rw [List.length_append];omega),List.getElem?_drop,List.length_append,hk]
      congr 1;omega
theorem Qsa {l m:List Int} {k:Nat} (h:k+m.length≤l.length):(lay l k m).length=l.length:=by
  unfold lay
  simp only [List.length_append,List.length_take,List.length_drop];omega
theorem Qum {fuel:Nat} (hf:20000<fuel):Ev (Qbi fuel [255] 14336) (λ y=>y.length=14336∧∀ k,k<14336→y[k]?=some 255):=by
  unfold Qbi
  refine Ev.decF (by omega) (Ev.bind (P:=λ y:Int×Int=>y.1=0∧y.2=14336) ?_ (λ y1 h1=>?_))
  · refine ⟨(0,14336),?_,rfl,rfl⟩
    unfold Qky Qis
    decide
  · obtain ⟨g1,g2⟩:=h1
    rw [g1,g2]
    refine Ev.join (λ b=>b=false) (λ b hb=>Ev.iteF hb ?_) (λ j hj=>Ev.decF (by omega) (hj _ (decide_eq_false (by omega))))
    have hw:IntKind.i64.wrap 14336=((14336:Nat):Int):=by decide
    rw [hw]
    have hmk:mk 1 (0:Int) ((14336:Nat):Int)=some (List.replicate 14336 0):=by
      unfold mk
      rw [if_pos ⟨by omega,by decide⟩,Int.toNat_natCast]
    refine Ev.to hmk ?_
    have hlen:(List.replicate 14336 (0:Int)).length=14336:=List.length_replicate
    generalize List.replicate 14336 (0:Int)=x1 at hlen
    have htk:([255]:List Int).take x1.length=[255]:=List.take_of_length_le (by rw [hlen];simp)
    have hmin:((min ([255]:List Int).length x1.length:Nat):Int)=((1:Nat):Int):=by rw [hlen];rfl
    rw [htk,hmin]
    refine Ev.letP (Ev.letP ?_)
    have h0:(0:Nat)+([255]:List Int).length≤x1.length:=by rw [hlen];simp
    refine Ev.loop (λ (r:Nat) (x:Int×List Int)=>∃ n:Nat,x.1=n∧n+r=14336∧1≤n∧x.2.length=14336∧∀ k,k<n→x.2[k]?=some 255) (λ r x hI self hself=>?_) (n:=14335) (by omega) ⟨1,rfl,rfl,by omega,by rw [Qsa h0];exact hlen,λ k hk=>by
      rw [Qvl h0,if_pos (by simp only [List.length_cons,List.length_nil];omega),show k=0 by omega];rfl⟩
    obtain ⟨pos,l⟩:=x
    obtain ⟨n,n1,n2,n3,n4,n5⟩:=hI
    simp only at n1 n4 n5 ⊢
    subst n1
    rw [n4]
    refine Ev.dec (λ hlt=>?_) (λ hge=>Ev.ret ⟨n4,λ k hk=>n5 k (by omega)⟩)
    have tl:(l.take (min n (14336-n))).length=min n (14336-n):=by rw [List.length_take];omega
    have hfit:n+(l.take (min n (14336-n))).length≤l.length:=by omega
    refine Ev.chk (decide_eq_true ⟨by omega,by omega,by omega⟩) (Ev.chk (decide_eq_true ⟨by omega,by omega⟩) (Ev.chk (decide_eq_true ⟨by rw [Int.toNat_natCast];omega,by rw [Int.toNat_natCast];omega,by rw [Int.toNat_natCast];omega⟩) ?_))
    rw [Int.toNat_natCast]
    refine Ev.letP (Ev.letE (c:=((n+min n (14336-n):Nat):Int)) (by rw [w_i64 (by omega) (by omega)];omega) (hself (r-min n (14336-n)) _ (by omega) ⟨n+min n (14336-n),rfl,by omega,by omega,by rw [Qsa hfit];exact n4,λ k hk=>?_⟩))
    simp only
    rw [Qvl hfit,tl]
    by_cases c:n≤k∧k<n+min n (14336-n)
    · rw [if_pos c,List.getElem?_take,if_pos (by omega)];exact n5 _ (by omega)
    · rw [if_neg c];exact n5 k (by omega)
theorem Qvp {fuel:Nat} (hf:20000<fuel):Ev (Qhb fuel 14 1024) (λ y=>y.2=0∧∃ d,y.1=some d∧Dv d∧d.down=false∧FL d.bytes 0 (λ _=>[])):=by
  unfold Qhb
  refine Ev.join (λ b=>b=false) (λ b hb=>Ev.iteF hb ?_) (λ j hj=>Ev.decF (by omega) (Ev.decF (by omega) (Ev.decF (by omega) (hj _ (by decide)))))
  have hw:IntKind.i64.wrap (14*1024)=14336:=by decide
  rw [hw]
  have hmk:mk 8 (0:Int) 14=some (List.replicate 14 0):=by unfold mk;rw [if_pos ⟨by omega,by decide⟩];rfl
  refine Ev.bind (Qum hf) (λ y1 h1=>Ev.to hmk (Ev.ret ⟨rfl,_,rfl,⟨rfl,h1.1,λ x hx=>?_,by simp,zbyte,by simp,by simp⟩,rfl,⟨by omega,λ j hj=>by omega,λ j _ hj=>⟨⟨255,?_,by decide⟩,λ k k1 k2=>?_⟩,λ k e he=>by simp [gdN] at he⟩⟩))
  · obtain ⟨k,hk⟩:=List.getElem?_of_mem hx
    have hkl:=(List.getElem?_eq_some_iff.1 hk).1
    have hl1:=h1.1
    simp only at hkl hk
    rw [h1.2 k (by omega)] at hk
    obtain rfl:=Option.some.inj hk
    unfold byte;decide
  · simp only;rw [Qno (by omega)];exact h1.2 _ (by omega)
  · simp only;rw [Qno k2];exact h1.2 _ (by omega)
theorem Qsm {fuel:Nat} (hf:100<fuel) {d:Qg} (h:DOk d):Ev (Qcu fuel d 1) (λ y=>y.1.length≤10∧DOk y.2):=by
  unfold Qcu
  have hw:IntKind.i64.wrap (1+1)=2:=by decide
  rw [hw]
  refine Ev.bind (Qs fuel h (by decide) (by decide)) (λ y1 h1=>?_)
  obtain ⟨a1,a2,a3⟩:=h1
  refine Ev.loop (λ (n:Nat) (x:Int×Qg×List Entity_)=>x.1=n∧n≤1∧x.2.2.length+n≤1∧DOk x.2.1) (λ n x hI self hself=>?_) (n:=y1.1.toNat) (by omega) ⟨by simp only;omega,by omega,by simp;omega,a3⟩
  obtain ⟨c,dc,l⟩:=x
  obtain ⟨i1,i2,i3,i4⟩:=hI
  simp only at i1 i3 i4 ⊢
  subst i1
  refine Ev.dec (λ hpos=>Ev.bind (Qur fuel i4) (λ y2 h2=>Ev.app (by simp;omega) (Ev.letE (c:=((n-1:Nat):Int)) (by rw [w_i64 (by omega) (by omega)];omega) (hself (n-1) _ (by omega) ⟨rfl,by omega,by simp;omega,h2⟩)))) (λ _=>Ev.ret ⟨by simp only;omega,i4⟩)
def StS (S:List Sensor_) (l:List Int):Prop:=l.length=S.length∧∀ (i:Nat) v s,l[i]?=some v→S[i]?=some s→u16 v∧sub16 v (bts s)
theorem StS.zero (S:List Sensor_):StS S (List.replicate S.length 0):=⟨by simp,λ i v s hv _=>by
  rw [List.getElem?_replicate] at hv
  split at hv
  · obtain rfl:=Option.some.inj hv
    exact ⟨Qjm,λ j hj=>by rw [Qfc] at hj;cases hj⟩
  · cases hv⟩
theorem StS.fold {fuel:Nat} {S:List Sensor_}:∀ {cs:List (Nat×Change_)} {l:List Int},StS S l→(∀ p∈cs,∃ e,GE fuel S e p)→StS S (cs.foldl rset l)
  | [],l,h,_=>h
  | p::cs,l,h,hg=>by
    refine StS.fold (cs:=cs) (l:=rset l p) ?_ (λ q hq=>hg q (by simp [hq]))
    obtain ⟨e,s,k,g1,g2,g3,g4,_⟩:=hg p (by simp)
    refine ⟨by rw [Qrq];exact h.1,λ i v t hv ht=>?_⟩
    have hil:=(List.getElem?_eq_some_iff.1 g1).1
    obtain ⟨w,hw⟩:∃ w,l[p.1]?=some w:=⟨_,List.getElem?_eq_getElem (by have:=h.1;omega)⟩
    simp only [rset,List.getElem?_set] at hv
    by_cases c:p.1=i
    · subst c
      rw [if_pos rfl,if_pos (by have:=h.1;omega)] at hv
      obtain rfl:=Option.some.inj hv
      rw [List.getD_eq_getElem?_getD,hw]
      rw [g1] at ht
      obtain rfl:=Option.some.inj ht
      obtain ⟨w1,w2⟩:=h.2 p.1 w s hw g1
      simp only [Option.getD_some,chg,g2]
      obtain ⟨c1,c2⟩:=Qps w1 (show k<16 by omega) p.2.Asserted
      refine ⟨c1,λ j hj=>?_⟩
      rw [c2] at hj
      by_cases cj:j=k
      · subst cj;exact g4
      · rw [if_neg cj] at hj;exact w2 j hj
    · rw [if_neg c] at hv;exact h.2 i v t hv ht
theorem EvL.ge {fuel:Nat} {S:List Sensor_} {all:List Event_} {cs:List (Nat×Change_)} (h:EvL fuel S all cs):∀ p∈cs,∃ e,GE fuel S e p:=λ p hp=>by
  obtain ⟨k,hk⟩:=List.getElem?_of_mem hp
  have hl:=(List.getElem?_eq_some_iff.1 hk).1
  have:=h.len
  exact ⟨_,h.at_ k _ p (List.getElem?_eq_getElem (by omega)) hk⟩
theorem Qrj {fuel:Nat} (hf:100<fuel) {S:List Sensor_} (hS:WL S) {m:Qd} (hm:m.sensors=S) {i:Nat} {s:Sensor_} (hs:S[i]?=some s):Qak fuel m s.Number=some (i:Int):=by
  apply Ev.eq
  unfold Qak
  rw [hm]
  refine Ev.bind (Qsh hf hS.len s.Number) (λ y hy=>Ev.ret ?_)
  rcases hy with ⟨_,h⟩ | ⟨j,t,h1,h2,h3⟩
  · exact absurd rfl (h s (List.mem_of_getElem? hs))
  · rw [h1,hS.inj j i t s h2 hs h3]
theorem Que {fuel:Nat} (hf:100<fuel) {S:List Sensor_} (hS:WL S) {m:Qd} (hm:MW S [] m) {i:Nat} {s:Sensor_} (hs:S[i]?=some s) {v:Int} (hv:u16 v) (hsub:sub16 v (bts s)):Ev (Qbh fuel m s.Number v) (λ y=>y.1=0∧MW S [] y.2∧y.2.states=m.states.set i v):=by
  unfold Qbh
  obtain ⟨n0,_,fs⟩:=(hS.ok s (List.mem_of_getElem? hs)).fs
  obtain ⟨w,w1,w2,w3⟩:=Qtb fuel fs
  have hi:=(List.getElem?_eq_some_iff.1 hs).1
  have hsl:=hm.sl
  have hz:bAndNot .u16 v w=0:=(Qoj hv w2).2 (λ j hj=>by rw [w3];exact hsub j hj)
  refine Ev.to (Qrj hf hS hm.s hs) (Ev.letE (c:=false) (decide_eq_false (by omega)) (Ev.iteF rfl (Ev.to (show idx m.sensors (i:Int)=some s by rw [hm.s,Qam];exact hs) (Ev.to w1 (Ev.letE (c:=false) (by rw [hz];rfl) (Ev.iteF rfl (Ev.idx (by omega) (by omega) (λ _ _ _=>Ev.letP (Ev.ret ⟨rfl,?_,?_⟩)))))))))
  · exact hm.put hs hm.fl hm.ft ⟨hv,hsub⟩
  · simp only [upd,Int.toNat_natCast]
theorem Qqi {fuel:Nat} (hf:5000<fuel) {S:List Sensor_} (hS:WL S) {all:List Event_} {cs:List (Nat×Change_)} (h:EvL fuel S all cs) (hl:all.length≤4000):Ev (Qgd fuel S all) (λ y=>∃ m,y=some m∧MW S [] m∧m.states=cs.foldl rset (List.replicate S.length 0)):=by
  unfold Qgd
  have hf1:100<fuel:=by omega
  have hst:=StS.fold (StS.zero S) h.ge
  generalize hstv:cs.foldl rset (List.replicate S.length 0)=st at hst
  have h6:=hS.len
  refine Ev.bind (wNew_ev hf1 hS (Qpy hf1) (by simp)) (λ y1 h1=>?_)
  subst h1
  refine Ev.to (Qmu hf1 hS h (by omega) (by omega)) ?_
  rw [hstv]
  refine Ev.join (λ b=>b=false) (λ b hb=>Ev.iteF hb ?_) (λ j hj=>Ev.iteF rfl (Ev.iteF rfl (Ev.iteF rfl (hj _ (by rw [hst.1];simp)))))
  refine Ev.loop (λ (n:Nat) (x:Int×Option Qd)=>∃ (i:Nat) (m:Qd),x.1=i∧i+n=S.length∧x.2=some m∧MW S [] m∧∀ j,j<i→m.states[j]?=st[j]?) (λ n x hI self hself=>?_) (n:=S.length) (by omega) ⟨0,_,rfl,by omega,rfl,new_MW S [],λ j hj=>by omega⟩
  obtain ⟨pos,om⟩:=x
  obtain ⟨i,m,i1,i2,i3,i4,i5⟩:=hI
  simp only at i1 i3 ⊢
  subst i1;subst i3
  have hsl:=i4.sl
  refine Ev.dec (λ hlt=>Ev.idx (by omega) hlt (λ s es _=>?_)) (λ hge=>Ev.ret ⟨m,rfl,i4,?_⟩)
  · simp only [Int.toNat_natCast] at es
    obtain ⟨v,hv⟩:∃ v,st[i]?=some v:=⟨_,List.getElem?_eq_getElem (by have:=hst.1;omega)⟩
    obtain ⟨v1,v2⟩:=hst.2 i v s hv es
    refine Ev.to (by rw [Qam];exact hv) (Ev.to rfl (Ev.bind (Que hf1 hS i4 es v1 v2) (λ y3 h3=>Ev.bneF h3.1 (Ev.letE (w_inc (by omega)) (hself (n-1) _ (by omega) ⟨i+1,y3.2,rfl,by omega,rfl,h3.2.1,λ j hj=>?_⟩)))))
    rw [h3.2.2,List.getElem?_set]
    by_cases c:i=j
    · subst c;rw [if_pos rfl,if_pos (by omega)];exact hv.symm
    · rw [if_neg c];exact i5 j (by omega)
  · apply List.ext_getElem?
    intro j
    by_cases c:j<i
    · exact i5 j c
    · rw [List.getElem?_eq_none (by omega),List.getElem?_eq_none (by have:=hst.1;omega)]
theorem Qwe {fuel:Nat} (hf:100<fuel) {S:List Sensor_} (hS:WL S) {A:List Association_} {m:Qd} (hm:MW S A m) {i:Nat} {s:Sensor_} (hs:S[i]?=some s) {v:Int} (hv:m.states[i]?=some v):Qbz fuel m s.Number=some (v,true):=by
  apply Ev.eq
  unfold Qbz
  exact Ev.to (Qrj hf hS hm.s hs) (Ev.decF (by omega) (Ev.to (by rw [Qam];exact hv) (Ev.ret rfl)))
theorem GE.zid {fuel:Nat} {S:List Sensor_} {e:Event_} {p:Nat×Change_} (h:GE fuel S (zid e) p):GE fuel S e p:=by
  obtain ⟨s,k,g1,g2,g3,g4,g5,g6,g7,g8⟩:=h
  exact ⟨s,k,g1,g2,g3,g4,g5,g6,g7,g8⟩
theorem EvL.unz {fuel:Nat} {S:List Sensor_} {l:List Event_} {cs:List (Nat×Change_)} (h:EvL fuel S (l.map Lift.zid) cs):EvL fuel S l cs:=by
  refine ⟨by have:=h.len;simpa using this,λ k e p he hp=>?_⟩
  exact GE.zid (h.at_ k (Lift.zid e) p (by rw [List.getElem?_map,he];rfl) hp)
theorem Qta {e:Event_} (h:EV e) (k:Nat):zid (wid e k)=e:=by
  have:=h.id
  cases e
  simp only at this
  subst this
  rfl
theorem EvL.take {fuel:Nat} {S:List Sensor_} {all:List Event_} {cs:List (Nat×Change_)} (h:EvL fuel S all cs) (n:Nat):EvL fuel S (all.take n) (cs.take n):=by
  refine ⟨by simp [h.len],λ k e p he hp=>?_⟩
  rw [List.getElem?_take] at he hp
  split at he
  · rename_i c
    rw [if_pos c] at hp
    exact h.at_ k e p he hp
  · cases he
end Lift
