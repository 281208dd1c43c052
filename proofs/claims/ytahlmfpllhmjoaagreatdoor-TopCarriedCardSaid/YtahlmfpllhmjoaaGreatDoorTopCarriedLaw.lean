import Derived.Test.YtahlmfpllhmjoaaGreatDoorCarm
import Derived.WalkKit
set_option linter.unusedVariables false
set_option linter.unusedSimpArgs false
namespace Lift
open Go
theorem top_first_eq:top_first 20000000000=some true:=by kernel_rfl
theorem Ev.idx_ {α β:Type} {l:List α} {i:Int} {f:α→Option β} {Q:β→Prop} (h0:0≤i) (h1:i<l.length) (k:∀ x,l[i.toNat]?=some x→Ev (f x) Q):Ev (bindP (Lift.idx l i) f) Q:=by
  obtain ⟨n,rfl⟩:=Int.eq_ofNat_of_zero_le h0
  have hn:n<l.length:=by omega
  exact Ev.to (show Lift.idx l (n:Int)=some l[n] by rw [idx_nat];simp) (k _ (by simp))
theorem submit_all {k n:Nat} {ms:List bus_master} (hn:n≤8) (hB:BOk ms) {i:Nat} (hi:i<8) {x:bus_master} (hx:ms[i]?=some x) {pk:List Packet_} (hg:∀ p∈pk,GP p) (hroom:x.queue.length+pk.length≤16):∀ j,j≤pk.length→BOk (ms.set i { x with queue:=x.queue++(pk.take j).map (fr i) })
  | 0,_=>by
    have:ms.set i { x with queue:=x.queue++(pk.take 0).map (fr i) }=ms:=by
      simp only [List.take_zero,List.map_nil,List.append_nil];exact set_self hx
    rw [this];exact hB
  | j+1,hj=>by
    have ih:=submit_all (k:=k) hn hB hi hx hg hroom j (by omega)
    obtain ⟨p,hp⟩:∃ p,pk[j]?=some p:=⟨_,List.getElem?_eq_getElem (by omega)⟩
    have gp:=hg p (List.mem_of_getElem? hp)
    have hl:=lt_len hx
    have hat:(ms.set i { x with queue:=x.queue++(pk.take j).map (fr i) })[i]?=some { x with queue:=x.queue++(pk.take j).map (fr i) }:=by rw [List.getElem?_set,if_pos rfl,if_pos hl]
    have hput:=put_fr hi hat (by simp;omega) gp
    have:=put_ok (n:=(i:Int)) (f:=frm i p) ih (frm_byte gp i)
    rw [hput] at this
    simp only [List.set_set] at this
    have ht:pk.take (j+1)=pk.take j++[p]:=by rw [List.take_add_one,hp];rfl
    rw [ht,List.map_append,← List.append_assoc]
    exact this
theorem okI_byte {v:Int} (h:okI .u8 v):byte v:=by
  unfold byte
  have h0:IntKind.u8.min=0:=by decide
  have h1:IntKind.u8.max=255:=by decide
  simp only [okI,Lit.wf,Bool.and_eq_true,decide_eq_true_eq,h0,h1] at h;omega
theorem pall_ge {k i:Nat} (hk:0<k) (hk2:k≤64) (hi:i<8):∀ {ms:List Message_},(∀ m∈ms,SM m)→ms.length≤(pall k i ms).length
  | [],_=>by simp
  | m::ms,h=>by
    have ih:=pall_ge hk hk2 hi (ms:=ms) (λ x hx=>h x (by simp [hx]))
    have ok:=(h m (by simp)).ok hk hk2 hi
    have hpos:0<(mg k i m).N:=nsp_pos ok.k1 ok.m1
    have e:(pall k i (m::ms)).length=(mg k i m).N+(pall k i ms).length:=by simp [pall,pksOf_len]
    simp only [List.length_cons];omega
theorem top_TopCarried_true (a0:List Int) (a1:List Fault_) (a2 a3:Int) (o0:okL (okI .i64) a0) (o1:okL Fault_.ok a1) (o2:okI .i64 a2) (o3:okI .i64 a3):∃ fuel,top_TopCarried fuel a0 a1 a2 a3=some true:=by
  refine ⟨20000000000,Ev.isTrue ?_⟩
  have hf:5000<20000000000:=by omega
  have hfirst:=top_first_eq
  generalize 20000000000=fuel at hf hfirst ⊢
  unfold top_TopCarried
  refine Ev.to hfirst (Ev.iteF rfl (Ev.to (Light_eq fuel a0) ?_))
  refine Ev.join (λ b=>b=true∨(b=false∧a0.length≤600)) (λ b hb=>?_) (λ j hj=>Ev.not (Ev.dec (λ h1=>hj _ ?_) (λ _=>hj _ (.inl rfl))))
  · rcases hb with hb | ⟨hb,l0⟩
    · exact Ev.iteT hb (Ev.ret rfl)
    refine Ev.iteF hb (Ev.to (Mod_eq fuel (by decide) (by decide)) ?_)
    have y0:0≤a2 % 8:=Int.emod_nonneg _ (by omega)
    have y1:a2 % 8<8:=Int.emod_lt_of_pos _ (by omega)
    obtain ⟨n,hn⟩:∃ n:Nat,1+a2 % 8=n:=⟨(1+a2 % 8).toNat,by omega⟩
    have hn1:1≤n:=by omega
    have hn8:n≤8:=by omega
    refine Ev.letE (c:=(n:Int)) (by rw [w_i64 (by omega) (by omega)];exact hn) (Ev.to (Roll_eq fuel a0) (Ev.to (New_eq fuel n) ?_))
    rw [if_pos (show 1≤(n:Int)∧(n:Int)≤8 by omega),Int.toNat_natCast]
    refine Ev.to (FNew_eq fuel 9) ?_
    rw [if_neg (show ¬ endp 9=false by decide)]
    refine Ev.join (λ b=>b=false) (λ b hb=>Ev.iteF hb ?_) (λ j hj=>Ev.iteF rfl (Ev.iteF rfl (Ev.bneF rfl (hj _ rfl))))
    have c1:mk 24 ([]:List Message_) (n:Int)=some (List.replicate n []):=by unfold mk;rw [if_pos ⟨by omega,by simp;omega⟩];simp
    have c2:mk 1 false (n:Int)=some (List.replicate n false):=by unfold mk;rw [if_pos ⟨by omega,by simp;omega⟩];simp
    refine Ev.to c1 (Ev.to c1 (Ev.to c2 ?_))
    have z0:0≤a3 % 30:=Int.emod_nonneg _ (by omega)
    have z1:a3 % 30<30:=Int.emod_lt_of_pos _ (by omega)
    obtain ⟨k,hk⟩:∃ k:Nat,4+a3 % 30=k:=⟨(4+a3 % 30).toNat,by omega⟩
    have hk1:0<k:=by omega
    have hk2:k≤64:=by omega
    refine Ev.loop (λ (q:Nat) (x:Int×made_Dice×List (List Message_)×Option bus_Bus)=>∃ (i:Nat) (Ms:Nat→List Message_) (ms:List bus_master),x.1=i∧i+q=n∧DOk x.2.1∧x.2.2.2=some ⟨ms⟩∧LD k n Ms x.2.2.1 ms∧∀ j,i≤j→Ms j=[]) (λ q x hI self hself=>?_) (n:=n) (by omega) ⟨0,λ _=>[],newB n,rfl,by omega,roll_ok (by omega),rfl,LD.start hn8,λ _ _=>rfl⟩
    obtain ⟨pos,dc,sent,ob⟩:=x
    obtain ⟨i,Ms,ms,i1,i2,i3,i4,i5,i6⟩:=hI
    simp only at i1 i3 i4 i5 ⊢
    subst i1;subst i4
    refine Ev.dec (λ hlt=>?_) (λ hge=>?_)
    · have hi:i<n:=by omega
      have hi8:i<8:=by omega
      have hw:IntKind.i64.wrap ((i:Int)+1)=((i+1:Nat):Int):=by rw [w_i64 (by omega) (by omega)];rfl
      have w64:IntKind.u8.wrap (IntKind.i64.wrap (64+(i:Int)))=64+(i:Int):=by rw [w_i64 (by omega) (by omega),w_u8];omega
      have w10:IntKind.u8.wrap (IntKind.i64.wrap (10+(i:Int)))=10+(i:Int):=by rw [w_i64 (by omega) (by omega),w_u8];omega
      rw [hw,w64,w10]
      obtain ⟨r,d',e7,r0,r1,hd'⟩:=Next_ok fuel i3 (m:=4) (by decide) (by decide)
      refine Ev.to e7 ?_
      refine Ev.loop (λ (q:Nat) (x:Int×Int×made_Dice×List (List Message_)×Option bus_Bus)=>∃ (Ms:Nat→List Message_) (ms:List bus_master),(x.2.1=q∧q≤3)∧DOk x.2.2.1∧x.2.2.2.2=some ⟨ms⟩∧LD k n Ms x.2.2.2.1 ms∧(∀ j,i+1≤j→Ms j=[])∧x.1+((pall k i (Ms i)).length:Int)=16) (λ q2 x hI2 self2 hself2=>?_) (n:=r.toNat) (by omega) ⟨Ms,ms,⟨by simp only;omega,by omega⟩,hd',rfl,i5,λ j hj=>i6 j (by omega),by rw [i6 i (by omega)];rfl⟩
      clear i5 i6
      obtain ⟨left,cnt,dc,sent,ob⟩:=x
      obtain ⟨Ms,ms,⟨j1,j7⟩,j2,j3,j4,j5,j6⟩:=hI2
      simp only at j1 j2 j3 j4 j6 ⊢
      subst j3
      refine Ev.dec (λ hpos=>?_) (λ hneg=>Ev.letP (hself (q-1) _ (by omega) ⟨i+1,Ms,ms,rfl,by omega,j2,rfl,j4,j5⟩))
      obtain ⟨m0,d1,e8,md,hd1⟩:=Message_ok hf j2 false
      obtain ⟨dt,d2,e9,b1,b2,hd2⟩:=Bytes_ok hf hd1 (n:=20) (by decide) (by decide)
      have sm:SM { m0 with From:=64+(i:Int),Data:=dt }:=md.sm hi8 b2 b1
      refine Ev.to e8 (Ev.letP (Ev.to e9 ?_))
      generalize hmm:({ m0 with From:=64+(i:Int),Data:=dt }:Message_)=mm at sm ⊢
      refine Ev.to (mRequest_eq hf sm.mt) ?_
      rw [sm.req]
      refine Ev.to (Mod_eq fuel (by decide) (by decide)) ?_
      have hsz:IntKind.i64.wrap (4+a3 % 30)=(k:Int):=by rw [w_i64 (by omega) (by omega)];exact hk
      rw [hsz]
      refine Ev.to (Split_eq (by omega) _ _ _ _ _ _) ?_
      rw [sm.split hk1 hk2 hi8]
      refine Ev.join (λ b=>b=true∨(b=false∧((pksOf k i mm).length:Int)≤left)) (λ b hb=>?_) (λ j hj=>Ev.bneF rfl (Ev.bneF rfl (hj _ ?_)))
      · rcases hb with hb | ⟨hb,hroom⟩
        · exact Ev.iteT hb (Ev.join (λ b=>b=true) (λ b hb=>Ev.ret hb) (λ j hj=>Ev.beqT rfl (Ev.letP (hj _ rfl))))
        refine Ev.iteF hb ?_
        obtain ⟨hsent,x,hx,hqx⟩:=j4.per i hi
        have hxq:x.queue.length=(pall k i (Ms i)).length:=by unfold QS at hqx;rw [hqx];simp
        have hgp:∀ p∈pksOf k i mm,GP p:=λ p hp=>(pall_gp hi8 (ms:=[mm]) (λ y hy=>by simp at hy;subst hy;exact sm.ok hk1 hk2 hi8) (by simpa [pall] using hp)).1
        have hall:=submit_all (k:=k) hn8 j4.B hi8 hx hgp (by omega)
        refine Ev.letE (c:=left-((pksOf k i mm).length:Int)) (w_i64 (by simp only;omega) (by simp only;omega)) ?_
        refine Ev.loop (λ (q3:Nat) (x3:Int×Option bus_Bus)=>∃ t:Nat,x3.1=t∧t+q3=(pksOf k i mm).length∧x3.2=some ⟨ms.set i { x with queue:=x.queue++((pksOf k i mm).take t).map (fr i) }⟩) (λ q3 x3 hI3 self3 hself3=>?_) (n:=(pksOf k i mm).length) (by omega) ⟨0,rfl,by omega,?_⟩
        · obtain ⟨pos3,ob3⟩:=x3
          obtain ⟨t,t1,t2,t3⟩:=hI3
          simp only at t1 t3 ⊢
          subst t1;subst t3
          refine Ev.dec (λ hlt3=>Ev.idx_ (by omega) hlt3 (λ p hp=>?_)) (λ hge3=>?_)
          · simp only [Int.toNat_natCast] at hp
            have gp:=hgp p (List.mem_of_getElem? hp)
            have hlt4:t<(pksOf k i mm).length:=lt_len hp
            have henc:(encR p).2=0:=by unfold encR;rw [if_pos gp.v]
            have hat:(ms.set i { x with queue:=x.queue++((pksOf k i mm).take t).map (fr i) })[i]?=some { x with queue:=x.queue++((pksOf k i mm).take t).map (fr i) }:=by rw [List.getElem?_set,if_pos rfl,if_pos (lt_len hx)]
            have hput:=put_fr hi8 hat (by simp;omega) gp
            have hw3:IntKind.i64.wrap ((t:Int)+1)=((t+1:Nat):Int):=by rw [w_i64 (by omega) (by omega)];rfl
            refine Ev.to (Encode_eq_fragb (by omega) p) (Ev.join (λ v=>v.1=false∧v.2=some ⟨ms.set i { x with queue:=x.queue++((pksOf k i mm).take (t+1)).map (fr i) }⟩) (λ v hv=>Ev.iteF hv.1 (Ev.letE hw3 (hself3 (q3-1) _ (by omega) ⟨t+1,rfl,by omega,hv.2⟩))) (λ j hj=>Ev.bneF henc (Ev.to rfl (Ev.to (Submit_eq (hall t (by omega)) (frm_byte gp i) hf) (hj _ ?_)))))
            have ht:(pksOf k i mm).take (t+1)=(pksOf k i mm).take t++[p]:=by rw [List.take_add_one,hp];rfl
            unfold frm at hput
            simp only [hput]
            refine ⟨rfl,?_⟩
            simp only [List.set_set,ht,List.map_append,List.map_cons,List.map_nil,List.append_assoc]
          · have ht:t=(pksOf k i mm).length:=by omega
            have hfull:=hall (pksOf k i mm).length (Nat.le_refl _)
            rw [List.take_of_length_le (Nat.le_refl _)] at hfull
            have hmore:=j4.more hi sm hx hfull
            have hsi:idx sent (i:Int)=some (Ms i):=by rw [idx_nat];exact hsent
            have hge:=pall_ge hk1 hk2 hi8 (j4.sm i)
            refine Ev.to hsi (Ev.to (app_ok (by simp;omega)) (Ev.letP (Ev.letE (c:=cnt-1) (w_i64 (by omega) (by omega)) (hself2 (q2-1) _ (by omega) ⟨λ j=>if j=i then Ms i++[mm] else Ms j,ms.set i { x with queue:=x.queue++(pksOf k i mm).map (fr i) },⟨by simp only;omega,by omega⟩,hd2,?_,?_,?_,?_⟩))))
            · simp only;rw [List.take_of_length_le (by omega)]
            · simp only [upd,Int.toNat_natCast];exact hmore
            · intro j hj;simp only;rw [if_neg (by omega)];exact j5 j hj
            · simp only [if_true,pall_app,List.length_append]
              have:(pall k i [mm]).length=(pksOf k i mm).length:=by simp [pall]
              omega
        · simp only [List.take_zero,List.map_nil,List.append_nil]
          rw [set_self hx]
      · by_cases c:((pksOf k i mm).length:Int)≤left
        · exact .inr ⟨by simp;omega,c⟩
        · exact .inl (by simp;omega)
    · have hin:i=n:=by omega
      have hpot:pot ms≤512:=by have:=pot_ok i5.B.ok;rw [i5.lm] at this;omega
      have hsml:∀ j,j<n→∀ m∈Ms j,SM m:=λ j _=>i5.sm j
      have hfew:∀ j,j<n→(Ms j).length≤16:=λ j hj=>by
        obtain ⟨_,m,h1,h2⟩:=i5.per j hj
        have h3:=pall_ge hk1 hk2 (show j<8 by omega) (i5.sm j)
        have h4:=(i5.B.ok m (List.mem_of_getElem? h1)).len
        unfold QS at h2
        rw [h2] at h4
        simp at h4
        omega
      have hsent:∀ j:Nat,j<n→idx sent (j:Int)=some (Ms j):=λ j hj=>by rw [idx_nat];exact (i5.per j hj).1
      refine Ev.join (λ (x:List (List Message_)×List Bool×Option bus_Bus)=>∃ ms' l',x.2.2=some ⟨ms'⟩∧busy ms'=false∧RI k n Ms ms' l' x.1 x.2.1) (λ x hx=>?_) (λ j6 hj6=>?_)
      · -- the end
        obtain ⟨got,failed,ob⟩:=x
        obtain ⟨ms',l',e1,hb,hR⟩:=hx
        simp only at e1 hR ⊢
        subst e1
        refine Ev.loop (λ (q:Nat) (x:List (List Message_)×List (List Message_)×Int×Option bus_Bus)=>∃ i:Nat,x.2.2.1=i∧i+q=n∧x.1=sent∧x.2.1=got∧x.2.2.2=some ⟨ms'⟩) (λ q x hI self hself=>?_) (n:=n) (by omega) ⟨0,rfl,by omega,rfl,rfl,rfl⟩
        obtain ⟨a,gg,c,d⟩:=x
        obtain ⟨i,e1,e2,e3,e4,e6⟩:=hI
        simp only at e1 e3 e4 e6 ⊢
        subst e1;subst e3;subst e4;subst e6
        refine Ev.dec (λ hlt=>?_) (λ _=>Ev.ret rfl)
        have hi:i<n:=by omega
        obtain ⟨m,c,g,b,h1,h2,h3,h4,h5⟩:=hR.per i hi
        have hq:=busy_false hb m (List.mem_of_getElem? h1)
        have hp:pend ms' (i:Int)=0:=by
          unfold pend
          split
          · rw [List.getD_eq_getElem?_getD,Int.toNat_natCast,h1];simp [hq]
          · rfl
        have hw:IntKind.i64.wrap ((i:Int)+1)=((i+1:Nat):Int):=by rw [w_i64 (by omega) (by omega)];rfl
        refine Ev.to rfl (Ev.to (Pending_eq fuel ms' i) (Ev.bneF hp (Ev.to (by rw [idx_nat];exact h3) (Ev.ite (λ hb1=>Ev.letE hw (hself (q-1) _ (by omega) ⟨i+1,rfl,by omega,rfl,rfl,rfl⟩)) (λ hb1=>?_)))))
        have hds:=h5 hb1
        have hfull:(pall k i (Ms i)).length≤c:=by
          unfold QS at h4
          rw [hq] at h4
          have:=congrArg List.length h4
          simp at this
          omega
        have hg:g=Ms i:=hds.full (λ m hm=>(hsml i hi m hm).ok hk1 hk2 (by omega)) hfull
        subst hg
        have hgi:idx gg (i:Int)=some (Ms i):=by rw [idx_nat];exact h2
        have hsi:=hsent i hi
        have hfw:=hfew i hi
        refine Ev.to hgi (Ev.to hsi (Ev.bneF rfl ?_))
        refine Ev.loop (λ (q2:Nat) (x:Int)=>∃ t:Nat,x=t∧t+q2=(Ms i).length) (λ q2 x hI2 self2 hself2=>?_) (n:=(Ms i).length) (by omega) ⟨0,rfl,by omega⟩
        obtain ⟨t,rfl,t2⟩:=hI2
        refine Ev.to hsi (Ev.dec (λ hlt2=>?_) (λ _=>Ev.letE hw (hself (q-1) _ (by omega) ⟨i+1,rfl,by omega,rfl,rfl,rfl⟩)))
        refine Ev.to hgi (Ev.idx_ (by omega) hlt2 (λ y hy=>?_))
        have hy':idx (Ms i) (t:Int)=some y:=by rw [idx_nat];simpa using hy
        have hle:=(hsml i hi y (List.mem_of_getElem? hy)).mt.le
        refine Ev.to hsi (Ev.to hy' (Ev.to (mSame_eq hf y y (by omega)) (Ev.not (Ev.decT rfl (Ev.letE (c:=((t+1:Nat):Int)) (by rw [w_i64 (by omega) (by omega)];rfl) (hself2 (q2-1) _ (by omega) ⟨t+1,rfl,by omega⟩))))))
      · -- the rounds
        refine Ev.loop (λ (q:Nat) (x:Int×List (List Message_)×List Bool×Option bus_Bus×Option fragment_Assembler)=>∃ (t:Nat) (ms':List bus_master) (l':List fragment_open),x.1=t∧t+q=513∧x.2.2.2.1=some ⟨ms'⟩∧x.2.2.2.2=some ⟨9,l'⟩∧AR ⟨9,l'⟩∧(∀ g∈x.2.1,g.length≤t)∧pot ms'≤512-(t:Int)∧RI k n Ms ms' l' x.2.1 x.2.2.1) (λ q x hI self hself=>?_) (n:=513) (by omega) ⟨0,ms,[],rfl,by omega,rfl,rfl,new_AR 9,λ g hg=>by rw [List.eq_of_mem_replicate hg];simp,by simpa using hpot,i5.run⟩
        obtain ⟨pos,got,failed,ob,oa⟩:=x
        obtain ⟨t,ms',l',r1,r2,r3,r4,r5,r6,r7,r8⟩:=hI
        simp only at r1 r3 r4 r6 r8 ⊢
        subst r1;subst r3;subst r4
        have pnn:=pot_nn r8.B.ok
        refine Ev.dec (λ hlt=>?_) (λ hge=>by omega)
        have hw:IntKind.i64.wrap ((t:Int)+1)=((t+1:Nat):Int):=by rw [w_i64 (by omega) (by omega)];rfl
        refine Ev.join (λ f:Fault_=>byte f.Mask) (λ f hfm=>?_) (λ j7 hj7=>Ev.dec (λ h=>Ev.idx_ (by omega) h (λ f hf2=>hj7 _ (okI_byte (o1.2 f (List.mem_of_getElem? hf2)).2.2.1))) (λ _=>hj7 _ (by unfold byte;decide)))
        refine Ev.to rfl (Ev.to (Step_eq r8.B hfm hf) ?_)
        cases hb:busy ms' with
        | false=>simp only [Bool.false_eq_true,if_false];exact Ev.iteT rfl (hj6 _ ⟨ms',l',rfl,hb,r8⟩)
        | true =>
          simp only [if_true]
          have hdown:=pot_down (f:=f) r8.B hb
          have hfb:FB (least (start ms')):=least_fb (start_ok r8.B) (λ e=>by have:=busy_start.1 e;rw [hb] at this;simp at this)
          have hF:∃ failed',((stepD (start ms') f).Failed=[]∧failed'=failed∨∃ i:Nat,i<n∧(stepD (start ms') f).Failed=[(i:Int)]∧failed'=failed.set i true)∧(oks (arr (least (start ms')) f)=false→RI k n Ms (stepM (start ms') f) l' got failed')∧(oks (arr (least (start ms')) f)=true→failed'=failed):=by
            cases hok:oks (arr (least (start ms')) f) with
            | false =>
              obtain ⟨failed',h1,h2⟩:=r8.bad hk1 hk2 hsml hn8 hb hok
              exact ⟨failed',h2,λ _=>h1,(λ e=>by cases e)⟩
            | true =>
              obtain ⟨_,_,_,_,_,_,h1,_⟩:=r8.good hk1 hk2 hsml hn8 hfm hb hok
              exact ⟨failed,.inl ⟨h1,rfl⟩,(λ e=>by cases e),λ _=>rfl⟩
          obtain ⟨failed',hF1,hF2,hF3⟩:=hF
          have hlf:=r8.lf
          refine Ev.iteF rfl ?_
          refine Ev.loop (λ (q2:Nat) (x:Int×List Bool)=>(x.1=0∧x.2=failed∧q2=1)∨(x.1=((stepD (start ms') f).Failed.length:Int)∧x.2=failed')) (λ q2 x hI2 self2 hself2=>?_) (n:=1) (by omega) (.inl ⟨rfl,rfl,rfl⟩)
          obtain ⟨pos2,fl⟩:=x
          have hrest:pos2=((stepD (start ms') f).Failed.length:Int)∧fl=failed'∨((stepD (start ms') f).Failed.length:Int)=1∧pos2=0∧fl=failed∧q2=1:=by
            rcases hI2 with ⟨h1,h2,h3⟩ | ⟨h1,h2⟩
            · simp only at h1 h2
              rcases hF1 with ⟨g1,g2⟩ | ⟨i,g1,g2,g3⟩
              · left;rw [g1,g2];exact ⟨h1,h2⟩
              · right;rw [g2];exact ⟨rfl,h1,h2,h3⟩
            · exact .inl ⟨h1,h2⟩
          refine Ev.dec (λ hlt2=>?_) (λ hge2=>?_)
          · rcases hrest with ⟨h1,_⟩ | ⟨h0,h1,h2,h3⟩
            · simp only at hlt2;omega
            simp only at h1 h2 ⊢
            subst h1;subst h2;subst h3
            rcases hF1 with ⟨g1,g2⟩ | ⟨i,g1,g2,g3⟩
            · rw [g1] at h0;simp at h0
            have e0:idx (stepD (start ms') f).Failed 0=some (i:Int):=by rw [g2];rfl
            refine Ev.to e0 (Ev.join (λ b=>b=false) (λ b hb=>Ev.iteF hb (Ev.to e0 (Ev.idx_ (by omega) (by omega) (λ _ _=>Ev.letP (Ev.letE (c:=1) rfl (hself2 0 _ (by omega) (.inr ⟨by rw [g2];rfl,?_⟩))))))) (λ j8 hj8=>Ev.decF (by omega) (hj8 _ (decide_eq_false (by omega)))))
            rw [g3];rfl
          · have hfl:fl=failed':=by
              rcases hrest with ⟨_,h2⟩ | ⟨h0,h1,_⟩
              · exact h2
              · simp only at hge2;omega
            subst hfl
            have hby:(stepD (start ms') f).Bytes=arr (least (start ms')) f:=rfl
            have hOK:(stepD (start ms') f).OK=oks (arr (least (start ms')) f):=rfl
            simp only [hby,hOK]
            refine Ev.to (Decode_eq (arr_small hfb hfm) hf) (Ev.bneF rfl ?_)
            cases hok:oks (arr (least (start ms')) f) with
            | false =>
              exact Ev.iteT rfl (Ev.letE hw (hself (q-1) _ (by omega) ⟨t+1,_,l',rfl,by omega,rfl,rfl,r5,λ g hg=>by have:=r6 g hg;omega,by omega,hF2 hok⟩))
            | true =>
              have e9:=hF3 hok
              subst e9
              obtain ⟨i,p,g,l2,hi,hM,_,ha,hgp,hpk,hfrom,hg,hacc,⟨ob1,ob2⟩,hnd,hd⟩:=r8.good hk1 hk2 hsml hn8 hfm hb hok
              have hi8:i<8:=by omega
              have hgl:=hgp.len
              have hdec:=Decode_eq_fragb (fuel:=fuel) (by omega) (b:=(encR p).1) (by omega) (encR_byte hgp.v hgp.b)
              rw [dec_enc hgp.v] at hdec
              have hAR:=(r5.acc p).1
              rw [hacc] at hAR
              refine Ev.iteF rfl ?_
              rw [ha,fr_dec hgp hi8]
              refine Ev.to hdec (Ev.join (λ b=>b=false) (λ b hb=>Ev.iteF hb ?_) (λ j9 hj9=>?_))
              · refine Ev.to rfl (Ev.to (Accept_eq (by omega) r5 p) ?_)
                rw [hacc]
                refine Ev.to (mpar_eq hf ⟨by simp only;omega,ob1⟩) ?_
                refine Ev.join (λ b=>b=((one (ofs p.From l') p).2.1&&((mparse false (one (ofs p.From l') p).1.Data).2==0))) (λ b hb=>Ev.ite (λ hbt=>?_) (λ hbf=>?_)) (λ j10 hj10=>Ev.ite (λ h=>hj10 _ ?_) (λ h=>hj10 _ ?_))
                · rw [hbt] at hb
                  have hb2:=hb.symm
                  rw [Bool.and_eq_true,beq_iff_eq] at hb2
                  have e0:idx (stepD (start ms') f).Masters 0=some (i:Int):=by rw [hM];rfl
                  have eg:idx got (i:Int)=some g:=by rw [idx_nat];exact hg
                  have hgl2:=r6 g (List.mem_of_getElem? hg)
                  refine Ev.to e0 (Ev.to eg (Ev.to (app_ok (by simp;omega)) (Ev.letP (Ev.letE hw (hself (q-1) _ (by omega) ⟨t+1,_,l2,rfl,by omega,rfl,rfl,hAR,λ g' hg'=>?_,by omega,?_⟩)))))
                  · rcases List.mem_or_eq_of_mem_set hg' with h | rfl
                    · have:=r6 _ h;omega
                    · simp;omega
                  · have:=hd hb2
                    simpa only [upd,Int.toNat_natCast] using this
                · rw [hbf] at hb
                  have hb2:=hb.symm
                  exact Ev.letE hw (hself (q-1) _ (by omega) ⟨t+1,_,l2,rfl,by omega,rfl,rfl,hAR,λ g' hg'=>by have:=r6 g' hg';omega,by omega,hnd (λ hc=>by rw [hc.1] at hb2;simp [hc.2] at hb2)⟩)
                · simp only at h;rw [h];rfl
                · simp only at h;rw [h];rfl
              · have e0:idx (stepD (start ms') f).Masters 0=some (i:Int):=by rw [hM];rfl
                refine Ev.letE (c:=false) rfl (Ev.iteF rfl (Ev.letE (c:=false) (by rw [hM];rfl) (Ev.iteF rfl (Ev.to e0 (Ev.letE (c:=false) ?_ (Ev.iteF rfl (hj9 _ ?_)))))))
                · simp only [frm];simp
                · simp only [hfrom];simp
  · by_cases c:(a1.length:Int)>300
    · exact .inl (decide_eq_true c)
    · exact .inr ⟨decide_eq_false c,by omega⟩
end Lift
