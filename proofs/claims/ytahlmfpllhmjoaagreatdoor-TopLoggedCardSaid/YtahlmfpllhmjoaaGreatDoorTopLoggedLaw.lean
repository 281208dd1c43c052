import Derived.Test.YtahlmfpllhmjoaaGreatDoorLga
import Derived.WalkKit
set_option linter.unusedVariables false
set_option linter.unusedSimpArgs false
namespace Lift
open Go
theorem Qsj:Qju 20000000000=some true:=by kernel_rfl
theorem Qwh {v:Int} (h:okI .u8 v):byte v:=by
  unfold byte
  have h0:IntKind.u8.min=0:=by decide
  have h1:IntKind.u8.max=255:=by decide
  simp only [okI,Lit.wf,Bool.and_eq_true,decide_eq_true_eq,h0,h1] at h;omega
theorem Arm_ev (fuel:Nat) {d:Qc} (h:Dv d) (hd:d.down=false) {a t:Int} (h0:0≤a) (h1:a≤1000) (ht:byte t):Ev (Qdq fuel d a t) (λ y=>Dv y∧y.down=false∧y.bytes=d.bytes):=by
  unfold Qdq
  refine Ev.iteT (by rw [hd];rfl) (Ev.letP (Ev.letP (Ev.ret ⟨⟨h.size,h.len,h.by_,h.wear,ht,?_,?_⟩,hd,rfl⟩)))
  · simp only;omega
  · simp only;omega
theorem Qqr (fuel:Nat) {d:Qc} (h:Dv d):Ev (Qcg fuel d) (λ y=>Dv y∧y.down=false∧y.bytes=d.bytes):=by
  unfold Qcg
  exact Ev.letP (Ev.letP (Ev.ret ⟨⟨h.size,h.len,h.by_,h.wear,h.torn,by simp,by simp⟩,rfl,rfl⟩))
structure TI_ (fuel:Nat) (S:List Sensor_) (d:Qc) (want:List Event_) (n:Nat) (F:Nat→List (Option Event_)) (m:Qd) (cs:List (Nat×Change_)):Prop where
  dv:Dv d
  up:d.down=false
  fl:FL d.bytes n F
  wt:want=(gdN F n).map zid
  mw:MW S [] m
  ev:EvL fuel S want cs
  st:m.states=cs.foldl rset (List.replicate S.length 0)
theorem TI_.few {fuel:Nat} {S:List Sensor_} {d:Qc} {want:List Event_} {n:Nat} {F:Nat→List (Option Event_)} {m:Qd} {cs:List (Nat×Change_)} (h:TI_ fuel S d want n F m cs):(gdN F n).length≤649∧want.length≤649:=by
  have h1:=Qgw h.fl n (Nat.le_refl _)
  have h2:=h.fl.len
  refine ⟨by omega,?_⟩
  rw [h.wt,List.length_map];omega
theorem Qln (a0:List Int) (a1:List (List Int)) (a2 a3:List Int) (o0:okL (okI .i64) a0) (o1:okL (okL (okI .i64)) a1) (o2:okL (okI .i64) a2) (o3:okL (okI .u8) a3):∃ fuel,Qgm fuel a0 a1 a2 a3=some true:=by
  refine ⟨20000000000,Ev.isTrue ?_⟩
  have hf5:50000<20000000000:=by omega
  have hfirst:=Qsj
  generalize 20000000000=fuel at hf5 hfirst ⊢
  have hf:100<fuel:=by omega
  unfold Qgm
  refine Ev.to hfirst (Ev.iteF rfl ?_)
  refine Ev.bind (P:=λ b=>b=decide ((a0.length:Int)≤600)) (by unfold Qir;exact Ev.letP (Ev.ret rfl)) (λ b hb=>?_)
  subst hb
  refine Ev.join (λ b=>b=true∨(b=false∧a0.length≤600∧a1.length≤25∧a2.length≤25∧a3.length≤25)) (λ b hb=>?_) (λ j hj=>Ev.not (Ev.dec (λ h1=>Ev.dec (λ _=>hj _ (.inl rfl)) (λ h2=>Ev.dec (λ _=>hj _ (.inl rfl)) (λ h3=>hj _ ?_))) (λ _=>hj _ (.inl rfl))))
  · rcases hb with hb | ⟨hb,l0,l1,l2,l3⟩
    · exact Ev.iteT hb (Ev.ret rfl)
    refine Ev.iteF hb (Ev.bind (P:=λ d=>d=⟨a0,0⟩) (Ev.ret rfl) (λ d hd=>?_))
    subst hd
    refine Ev.bind (Qua hf (Qpu (by omega)) (m:=4) (by omega)) (λ y4 h4=>?_)
    obtain ⟨S,d4⟩:=y4
    obtain ⟨hS,hS4,_⟩:=h4
    simp only at hS hS4 ⊢
    refine Ev.bind (Qvp (by omega)) (λ y5 h5=>?_)
    obtain ⟨y51,y52⟩:=y5
    obtain ⟨e5,d,e6,dv,dn,fl⟩:=h5
    simp only at e5 e6 ⊢
    subst e5;subst e6
    refine Ev.join (λ b=>b=false) (λ b hb=>Ev.iteF hb (Ev.to rfl (Ev.to (Qtg (by omega) dv dn fl) ?_))) (λ j hj=>Ev.iteF rfl (hj _ rfl))
    refine Ev.bind (Qqi (by omega) hS (EvL.nil fuel S) (by simp)) (λ y7 h7=>?_)
    obtain ⟨m0,rfl,hm0,hs0⟩:=h7
    refine Ev.join (λ b=>b=false) (λ b hb=>Ev.iteF hb ?_) (λ j hj=>Ev.iteF rfl (Ev.iteF rfl (hj _ rfl)))
    refine Ev.loop (λ (r:Nat) (x:Int×Qc×List Event_×Option Qb×Option Qd)=>∃ (i n:Nat) (F:Nat→List (Option Event_)) (m:Qd) (cs:List (Nat×Change_)),x.1=i∧i+r=a1.length+1∧x.2.2.2.1=some (logOf n F)∧x.2.2.2.2=some m∧TI_ fuel S x.2.1 x.2.2.1 n F m cs) (λ r x hI self hself=>?_) (n:=a1.length+1) (by omega) ⟨0,0,_,m0,[],rfl,by omega,rfl,rfl,⟨dv,dn,fl,rfl,hm0,EvL.nil fuel S,hs0⟩⟩
    obtain ⟨pos,d,want,og,om⟩:=x
    obtain ⟨i,n,F,m,cs,i1,i2,i3,i4,hT⟩:=hI
    simp only at i1 i3 i4 hT ⊢
    subst i1;subst i3;subst i4
    obtain ⟨few1,few2⟩:=hT.few
    refine Ev.dec (λ hle=>?_) (λ hgt=>?_)
    · refine Ev.bind (P:=λ d=>d=⟨a0,0⟩) (Ev.ret rfl) (λ y8 h8=>?_)
      subst h8
      refine Ev.join (λ s5:Option Qg=>∃ dd,s5=some dd∧DOk dd) (λ s5 h5=>?_) (λ j4 hj4=>Ev.dec (λ hlt=>Ev.idx (by omega) hlt (λ l e1 _=>Ev.dec (λ _=>Ev.ret rfl) (λ h100=>Ev.to (by rw [Qam];simpa using e1) (Ev.bind (P:=λ d=>d=⟨l,0⟩) (Ev.ret rfl) (λ d hd=>hj4 _ ⟨d,rfl,by rw [hd];exact Qpu (by omega)⟩))))) (λ _=>hj4 _ ⟨_,rfl,Qpu (by omega)⟩))
      obtain ⟨dd,rfl,hdd⟩:=h5
      refine Ev.to rfl (Ev.bind (Qsv hf hdd hS) (λ y9 h9=>Ev.bind (Qsm hf h9.2) (λ y10 h10=>?_)))
      refine Ev.join (λ t:Int=>byte t) (λ t ht=>?_) (λ j5 hj5=>Ev.dec (λ hlt=>Ev.idx (by omega) hlt (λ t _ hm=>hj5 _ (Qwh (o3.2 t hm)))) (λ _=>hj5 _ zbyte))
      refine Ev.join (λ b:Bool=>b=true→i<a2.length) (λ b hb=>?_) (λ j6 hj6=>Ev.dec (λ hlt=>hj6 _ (λ _=>by omega)) (λ _=>hj6 _ (λ h=>by cases h)))
      refine Ev.join (λ d8:Qc=>Dv d8∧d8.down=false∧d8.bytes=d.bytes) (λ d8 h8=>?_) (λ j7 hj7=>Ev.ite (λ hbt=>Ev.idx (by omega) (by have:=hb hbt;omega) (λ v _ _=>Ev.to (Qvr fuel (by decide) (by decide)) ?_)) (λ _=>hj7 _ ⟨hT.dv,hT.up,rfl⟩))
      rotate_left
      · have m0:0≤v % 120:=Int.emod_nonneg _ (by omega)
        have m1:v % 120<120:=Int.emod_lt_of_pos _ (by omega)
        rw [w_i64 (show -9223372036854775808≤1+v % 120 by omega) (by omega)]
        exact Ev.bind (Arm_ev fuel hT.dv hT.up (by omega) (by omega) ht) (λ y25 h25=>hj7 _ h25)
      obtain ⟨dv8,dn8,db8⟩:=h8
      have fl8:FL d8.bytes n F:=by rw [db8];exact hT.fl
      refine Ev.to rfl (Ev.bind (Qvx hf hS (λ e=>Qsu hf h10.1 e) hT.mw h9.1.1 h9.1.2 true) (λ y11 h11=>?_))
      obtain ⟨evs,y112,m11⟩:=y11
      obtain ⟨g1,⟨g2,gev⟩,g5,cs2,g3,g4⟩:=h11
      simp only at g1 g2 gev g5 g3 g4 ⊢
      refine Ev.bne (λ hne=>Ev.letE (w_inc (by omega)) (hself (r-1) _ (by omega) ⟨i+1,n,F,m,cs,rfl,by omega,rfl,by rw [g5 hne],⟨dv8,dn8,fl8,hT.wt,hT.mw,hT.ev,hT.st⟩⟩)) (λ he0=>?_)
      refine Ev.join (λ s9:Qc×List Event_×Option Qb×Option Qd=>∃ (n:Nat) (F:Nat→List (Option Event_)) (m:Qd) (cs:List (Nat×Change_)),s9.2.2.1=some (logOf n F)∧s9.2.2.2=some m∧TI_ fuel S s9.1 s9.2.1 n F m cs) (λ s9 h9'=>?_) (λ j8 hj8=>?_)
      · obtain ⟨d9,want9,og9,om9⟩:=s9
        obtain ⟨n9,F9,m9,cs9,k1,k2,hT9⟩:=h9'
        simp only at k1 k2 hT9 ⊢
        subst k1;subst k2
        obtain ⟨few3,few4⟩:=hT9.few
        refine Ev.to rfl (Ev.to (Qiu (g:=logOf n9 F9) (by show (rcN F9 n9).length≤2000;rw [Qgq];omega) (by omega)) ?_)
        rw [show (logOf n9 F9).records.map (·.event)=gdN F9 n9 from Qny F9 n9]
        refine Ev.to (Qrc (by omega) (by omega)) ?_
        rw [← hT9.wt]
        exact Ev.to (Qtp (by omega) (by omega)) (Ev.iteF rfl (Ev.letE (w_inc (by omega)) (hself (r-1) _ (by omega) ⟨i+1,n9,F9,m9,cs9,rfl,by omega,rfl,rfl,hT9⟩)))
      · refine Ev.loop (λ (r2:Nat) (x:Int×Qc×List Event_×Option Qb)=>∃ (j n:Nat) (F:Nat→List (Option Event_)),x.1=j∧j+r2=evs.length∧x.2.2.2=some (logOf n F)∧Dv x.2.1∧x.2.1.down=false∧FL x.2.1.bytes n F∧x.2.2.1=(gdN F n).map zid∧x.2.2.1=want++evs.take j) (λ r2 x hI2 self2 hself2=>?_) (n:=evs.length) (by omega) ⟨0,n,F,rfl,by omega,rfl,dv8,dn8,fl8,hT.wt,by simp⟩
        obtain ⟨pos2,d2,want2,og2⟩:=x
        obtain ⟨j,n2,F2,q1,q2,q3,q4,q5,q6,q7,q8⟩:=hI2
        simp only at q1 q3 q4 q5 q6 q7 q8 ⊢
        subst q1;subst q3
        have gl2:=Qgw q6 n2 (Nat.le_refl _)
        have n11:=q6.len
        have wl2:want2.length=(gdN F2 n2).length:=by rw [q7,List.length_map]
        refine Ev.dec (λ hlt=>Ev.idx (by omega) hlt (λ e he hm=>?_)) (λ hge=>hj8 _ ⟨n2,F2,m11,cs++cs2,rfl,rfl,⟨q4,q5,q6,q7,g1,?_,?_⟩⟩)
        rotate_left
        · simp only
          rw [q8,List.take_of_length_le (by omega)]
          exact hT.ev.append g3
        · rw [g4,hT.st,List.foldl_append]
        simp only [Int.toNat_natCast] at he
        have hidx:idx evs (j:Int)=some e:=by rw [Qam];exact he
        have hev:=gev e hm
        have htk:evs.take (j+1)=evs.take j++[e]:=by rw [List.take_add_one,he];rfl
        refine Ev.to rfl (Ev.bind (Add_ev (by omega) q4 q5 q6 hev) (λ y15 h15=>?_))
        obtain ⟨id15,er15,g15,d15⟩:=y15
        obtain ⟨dv15,h15⟩:=h15
        simp only at dv15 h15 ⊢
        rcases h15 with ⟨r1,r3,n3,F3,r4,r5,r6⟩ | ⟨r1,r3⟩ | ⟨r1,n3,F3,r5,r6⟩
        · have hw3:want2++[e]=(gdN F3 n3).map zid:=by
            rw [r6,List.map_append,← q7]
            simp only [List.map_cons,List.map_nil,Qta hev]
          refine Ev.beqT r1 (Ev.to hidx (Ev.app (by simp;omega) (Ev.letE (w_inc (by omega)) (hself2 (r2-1) _ (by omega) ⟨j+1,n3,F3,rfl,by omega,by rw [r4],dv15,r3,r5,hw3,?_⟩))))
          simp only
          rw [htk,q8,List.append_assoc]
        · refine Ev.beqF (by rw [r1];decide) (Ev.beqT r1 (Ev.to (Qiu (g:=g15) (by rw [r3,Qgq];omega) (by omega)) ?_))
          rw [r3,Qny F2 n2]
          refine Ev.to (Qrc (by omega) (by omega)) ?_
          rw [← q7]
          exact Ev.to (Qtp (by omega) (by omega)) (Ev.ret rfl)
        · have gl3:=Qgw r5 n3 (Nat.le_refl _)
          have n31:=r5.len
          refine Ev.beqF (by rw [r1];decide) (Ev.beqF (by rw [r1];decide) (Ev.bneF r1 (Ev.bind (Qqr fuel dv15) (λ d19 h19=>?_))))
          obtain ⟨t1,t2,t3⟩:=h19
          have fl19:FL d19.bytes n3 F3:=by rw [t3];exact r5
          have hlen3:(logOf n3 F3).records.length=(gdN F3 n3).length:=Qgq F3 n3
          refine Ev.to (Qtg (by omega) t1 t2 fl19) (Ev.join (λ b=>b=false) (λ b hb=>Ev.iteF hb (Ev.to rfl ?_)) (λ j9 hj9=>Ev.iteF rfl (hj9 _ rfl)))
          refine Ev.bind (P:=λ v:Int=>v=((gdN F3 n3).length:Int)) (by unfold Qds;exact Ev.letP (Ev.ret (by rw [hlen3]))) (λ y21 h21=>?_)
          subst h21
          refine Ev.join (λ w:List Event_=>w=(gdN F3 n3).map zid∧∃ q,w=want++evs.take q) (λ w hw=>?_) (λ j10 hj10=>?_)
          · obtain ⟨w1,q,w2⟩:=hw
            refine Ev.to (Qiu (g:=logOf n3 F3) (by rw [hlen3];omega) (by omega)) ?_
            rw [show (logOf n3 F3).records.map (·.event)=gdN F3 n3 from Qny F3 n3]
            have hevq:EvL fuel S w (cs++cs2.take q):=by rw [w2];exact hT.ev.append (g3.take q)
            have hevr:EvL fuel S (gdN F3 n3) (cs++cs2.take q):=by rw [w1] at hevq;exact hevq.unz
            refine Ev.bind (Qqi (by omega) hS hevr (by omega)) (λ y23 h23=>?_)
            obtain ⟨m23,rfl,hm23,hs23⟩:=h23
            exact Ev.iteF rfl (hj8 _ ⟨n3,F3,m23,_,rfl,rfl,⟨t1,t2,fl19,w1,hm23,hevq,hs23⟩⟩)
          · have hwz:want2.length≤700:=by omega
            rw [w_i64 (show -9223372036854775808≤(want2.length:Int)+1 by omega) (by omega)]
            rcases r6 with r6 | r6
            · refine Ev.beqF (by rw [r6];omega) (hj10 _ ⟨?_,j,q8⟩)
              rw [r6];exact q7
            · refine Ev.beqT (by rw [r6];simp;omega) (Ev.to hidx (Ev.app (by simp;omega) (hj10 _ ⟨?_,j+1,?_⟩)))
              · rw [r6,List.map_append,← q7]
                simp only [List.map_cons,List.map_nil,Qta hev]
              · rw [htk,q8,List.append_assoc]
    · -- the end
      refine Ev.to rfl (Ev.to (Qiu (g:=logOf n F) (by show (rcN F n).length≤2000;rw [Qgq];omega) (by omega)) ?_)
      rw [show (logOf n F).records.map (·.event)=gdN F n from Qny F n]
      have hevr:EvL fuel S (gdN F n) cs:=by have:=hT.ev;rw [hT.wt] at this;exact this.unz
      refine Ev.to (Qmu hf hS hevr (by omega) (by omega)) ?_
      rw [← hT.st]
      have hsl:=hT.mw.sl
      refine Ev.join (λ b=>b=false) (λ b hb=>Ev.iteF hb ?_) (λ j hj=>Ev.iteF rfl (hj _ (by rw [hsl];simp)))
      refine Ev.loop (λ (r:Nat) (x:Int×Option Qd)=>∃ i:Nat,x.1=i∧i+r=S.length∧x.2=some m) (λ r x hI self hself=>?_) (n:=S.length) (by omega) ⟨0,rfl,by omega,rfl⟩
      obtain ⟨pos,om⟩:=x
      obtain ⟨i,k1,k2,k3⟩:=hI
      simp only at k1 k3 ⊢
      subst k1;subst k3
      refine Ev.dec (λ hlt=>Ev.idx (by omega) hlt (λ s es _=>?_)) (λ _=>Ev.ret rfl)
      simp only [Int.toNat_natCast] at es
      obtain ⟨v,hv⟩:∃ v,m.states[i]?=some v:=⟨_,List.getElem?_eq_getElem (by omega)⟩
      refine Ev.to rfl (Ev.to (Qwe hf hS hT.mw es hv) (Ev.join (λ b=>b=false) (λ b hb=>Ev.iteF hb (Ev.letE (w_inc (by omega)) (hself (r-1) _ (by omega) ⟨i+1,rfl,by omega,rfl⟩))) (λ j hj=>Ev.iteF rfl (Ev.to (by rw [Qam];exact hv) (hj _ (by simp))))))
  · by_cases c:(a3.length:Int)>25
    · exact .inl (decide_eq_true c)
    · exact .inr ⟨decide_eq_false c,by omega,by omega,by omega,by omega⟩
end Lift
