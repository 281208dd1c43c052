import Derived.Test.YtahlmfpllhmjoaaGreatDoorHej
import Derived.WalkKit
set_option linter.unusedVariables false
set_option linter.unusedSimpArgs false
namespace Lift
open Go
theorem top_first_eq:top_first 20000000000=some true:=by kernel_rfl
theorem top_TopHealthy_true (a0:List Int) (a1:List (List Int)) (a2:Entity_) (o0:okL (okI .i64) a0) (o1:okL (okL (okI .i64)) a1) (o2:Entity_.ok a2):∃ fuel,top_TopHealthy fuel a0 a1 a2=some true:=by
  refine ⟨20000000000,Ev.isTrue ?_⟩
  have hf5:5000<20000000000:=by omega
  have hfirst:=top_first_eq
  generalize 20000000000=fuel at hf5 hfirst ⊢
  have hf:100<fuel:=by omega
  unfold top_TopHealthy
  refine Ev.to hfirst (Ev.iteF rfl ?_)
  refine Ev.bind (P:=λ b=>b=decide ((a0.length:Int)≤600)) (by unfold made_Light;exact Ev.letP (Ev.ret rfl)) (λ b hb=>?_)
  subst hb
  refine Ev.join (λ b=>b=true∨(b=false∧a0.length≤600∧a1.length≤15)) (λ b hb=>?_) (λ j hj=>Ev.not (Ev.dec (λ h1=>hj _ ?_) (λ _=>hj _ (.inl rfl))))
  · rcases hb with hb | ⟨hb,l0,l1⟩
    · exact Ev.iteT hb (Ev.ret rfl)
    refine Ev.iteF hb (Ev.bind (P:=λ d=>d=⟨a0,0⟩) (Ev.ret rfl) (λ d hd=>?_))
    subst hd
    refine Ev.bind (watched_ev hf (roll_ok (by omega)) (m:=6) (by omega)) (λ y4 h4=>?_)
    obtain ⟨S,d4⟩:=y4
    obtain ⟨hS,hS6,hd4⟩:=h4
    simp only at hS hS6 hd4 ⊢
    refine Ev.bind (Associations_ev hf hd4) (λ y5 h5=>?_)
    obtain ⟨A,d5⟩:=y5
    obtain ⟨⟨hA,hA5⟩,hd5⟩:=h5
    simp only at hA hA5 hd5 ⊢
    refine Ev.bind (wNew_ev hf hS hA) (λ y6 h6=>?_)
    subst h6
    refine Ev.join (λ b=>b=false) (λ b hb=>Ev.iteF hb ?_) (λ j hj=>Ev.iteF rfl (hj _ rfl))
    refine Ev.loop (λ (n:Nat) (x:Int×List Event_×Option monitor_Monitor)=>∃ (i:Nat) (m:monitor_Monitor) (cs:List (Nat×Change_)),x.1=i∧i+n=a1.length∧x.2.2=some m∧MW S A m∧x.2.1.length≤90*i∧EvL fuel S x.2.1 cs∧m.states=cs.foldl rset (List.replicate S.length 0)) (λ n x hI self hself=>?_) (n:=a1.length) (by omega) ⟨0,new_mon S A,[],rfl,by omega,rfl,new_MW S A,by simp,EvL.nil fuel S,rfl⟩
    obtain ⟨pos,all,om⟩:=x
    obtain ⟨i,m,cs,i1,i2,i3,i4,i5,i6,i7⟩:=hI
    simp only at i1 i3 i5 i6 ⊢
    subst i1;subst i3
    refine Ev.dec (λ hlt=>Ev.idx (by omega) hlt (λ l e1 _=>Ev.dec (λ _=>Ev.ret rfl) (λ h100=>?_))) (λ hge=>?_)
    · simp only [Int.toNat_natCast] at e1
      refine Ev.to (by rw [idx_nat];exact e1) (Ev.bind (P:=λ d=>d=⟨l,0⟩) (Ev.ret rfl) (λ d hd=>?_))
      subst hd
      refine Ev.bind (wSamples_ev hf (roll_ok (by omega)) hS) (λ y8 h8=>Ev.to rfl (Ev.bind (wScan_ev hf hS hA hA5 i4 h8.1.1 h8.1.2 true) (λ y9 h9=>?_)))
      obtain ⟨g1,g2,g5,cs2,g3,g4⟩:=h9
      refine Ev.beq (λ _=>Ev.app (by omega) (Ev.letE (w_inc (by omega)) (hself (n-1) _ (by omega) ⟨i+1,y9.2.2,cs++cs2,rfl,by omega,rfl,g1,by simp;omega,i6.append g3,?_⟩))) (λ hne=>?_)
      · rw [List.foldl_append,← i7,g4]
      · have:=g5 hne
        exact Ev.letE (w_inc (by omega)) (hself (n-1) _ (by omega) ⟨i+1,m,cs,rfl,by omega,by simp only [this],i4,by simp only;omega,i6,i7⟩)
    · refine Ev.to (recover_eq hf hS i6 (by omega) (by omega)) ?_
      refine Ev.join (λ b=>b=false) (λ b hb=>Ev.iteF hb ?_) (λ j hj=>Ev.bneF rfl (hj _ ?_))
      · have hsl:=i4.sl
        clear hself self
        refine Ev.bind (Bool_ev fuel hd5 (by decide) (by decide)) (λ y11 h11=>?_)
        refine Ev.join (λ _=>True) (λ e _=>?_) (λ j4 hj4=>Ev.ite (λ _=>Ev.bind (Entity_ev fuel h11) (λ y15 _=>hj4 _ trivial)) (λ _=>hj4 _ trivial))
        refine Ev.loop (λ (n:Nat) (x:Int×Int×Option monitor_Monitor)=>∃ i:Nat,x.2.1=i∧i+n=S.length∧x.2.2=some m∧x.1=wfold fuel m S A e i) (λ n x hI self hself=>?_) (n:=S.length) (by omega) ⟨0,rfl,by omega,rfl,rfl⟩
        obtain ⟨worst,pos,om⟩:=x
        obtain ⟨i,k1,k2,k3,k4⟩:=hI
        simp only at k1 k3 k4 ⊢
        subst k1;subst k3
        refine Ev.dec (λ hlt=>Ev.idx (by omega) hlt (λ s es _=>Ev.letP ?_)) (λ hge2=>Ev.to rfl (Ev.to (mHealth_ev hf hS hA hA5 i4 e) (Ev.beqT rfl (Ev.letP (Ev.ret ?_)))))
        · simp only [Int.toNat_natCast] at es
          obtain ⟨v,hv⟩:∃ v,m.states[i]?=some v:=⟨_,List.getElem?_eq_getElem (by omega)⟩
          have is:idx S (i:Int)=some s:=by rw [idx_nat];exact es
          have hw:=wstep_at (fuel:=fuel) (m:=m) (A:=A) (e:=e) es hv (wfold fuel m S A e i)
          have next:∀ a om',om'=some m→a=wstep fuel m S A e i (wfold fuel m S A e i)→Ev (self (a,((i+1:Nat):Int),om')) (λ b=>b=true):=λ a om' ho ha=>hself (n-1) _ (by omega) ⟨i+1,rfl,by omega,ho,ha⟩
          refine Ev.loop (λ (n:Nat) (x:Bool×Int×Entity_)=>∃ k:Nat,x.2.1=k∧k+n=A.length∧x.2.2=climb A k s.Entity∧x.1=Entity_.eqb (climb A k s.Entity) e∧∀ j,j<k→climb A j s.Entity≠e) (λ n2 x hI2 self2 hself2=>?_) (n:=A.length) (by omega) ⟨0,rfl,by omega,rfl,rfl,λ j h=>by omega⟩
          obtain ⟨re,pos2,z⟩:=x
          obtain ⟨k,m1,m2,m3,m4,m5⟩:=hI2
          simp only at m1 m3 m4 ⊢
          subst m1;subst m3;subst m4
          refine Ev.join (λ b=>b=true∧k<A.length∧Entity_.eqb (climb A k s.Entity) e=false∨b=false∧(Entity_.eqb (climb A k s.Entity) e=true∨A.length≤k)) (λ b hb=>?_) (λ j5 hj5=>Ev.dec (λ h=>hj5 _ ?_) (λ h=>hj5 _ (.inr ⟨rfl,.inr (by omega)⟩)))
          · rcases hb with ⟨rfl,hk,hne⟩ | ⟨rfl,hstop⟩
            · refine Ev.iteT rfl (Ev.join (λ z=>z=climb A (k+1) s.Entity) (λ z hz=>?_) (λ j6 hj6=>?_))
              · subst hz
                refine Ev.letP (Ev.letE (w_inc (by omega)) (hself2 (n2-1) _ (by omega) ⟨k+1,rfl,by omega,rfl,rfl,λ j hj=>?_⟩))
                by_cases c:j=k
                · subst c;intro h;rw [(Entity_.eqb_iff _ _).2 h] at hne;cases hne
                · exact m5 j (by omega)
              · have hcl:climb A (k+1) s.Entity=(up A (climb A k s.Entity)).getD (climb A k s.Entity):=rfl
                rw [hcl] at hj6
                generalize climb A k s.Entity=z0 at hj6 ⊢
                refine Ev.loop (λ (n:Nat) (x:Int)=>∃ j:Nat,x=j∧j+n=A.length∧up A z0=up (A.drop j) z0) (λ n3 x hI3 self3 hself3=>?_) (n:=A.length) (by omega) ⟨0,rfl,by omega,by simp⟩
                obtain ⟨j,rfl,p2,p3⟩:=hI3
                refine Ev.dec (λ hlt3=>Ev.idx (by omega) hlt3 (λ x hx _=>?_)) (λ hge3=>hj6 _ ?_)
                · simp only [Int.toNat_natCast] at hx
                  rw [drop_at hx] at p3
                  refine Ev.ite (λ hb=>Ev.to (by rw [idx_nat];exact hx) (hj6 _ ?_)) (λ hb=>Ev.letE (w_inc (by omega)) (hself3 (n3-1) _ (by omega) ⟨j+1,rfl,by omega,by rw [p3];simp [up,hb]⟩))
                  rw [p3];simp [up,hb]
                · rw [p3,List.drop_eq_nil_of_le (by omega)];rfl
            · have hin:Entity_.eqb (climb A k s.Entity) e=inb A s.Entity e:=by
                apply Bool.eq_iff_iff.2
                simp only [inb,List.any_eq_true,List.mem_range]
                constructor
                · intro h;exact ⟨k,by omega,h⟩
                · rintro ⟨j,hj,h⟩
                  rcases hstop with h2 | h2
                  · exact h2
                  · have hjk:¬ j<k:=λ c=>m5 j c ((Entity_.eqb_iff _ _).1 h)
                    have:j=k:=by omega
                    subst this;exact h
              refine Ev.iteF rfl (Ev.to is (Ev.to rfl (Ev.to (rdg_eq hf hS i4 s.Number) ?_)))
              rw [hin]
              refine Ev.join (λ b=>b=((rdg fuel m s.Number).2&&inb A s.Entity e)) (λ b hb=>Ev.ite (λ hbt=>?_) (λ hbf=>?_)) (λ j7 hj7=>Ev.ite (λ h=>hj7 _ (by rw [h];rfl)) (λ h=>hj7 _ (by rw [h];rfl)))
              · have hb2:=hb.symm
                rw [hbt,Bool.and_eq_true] at hb2
                refine Ev.to (show idx (cs.foldl rset (List.replicate S.length 0)) (i:Int)=some v by rw [← i7,idx_nat];exact hv) (Ev.to (svr_eq hf _).1 (Ev.letE (w_inc (by omega)) (next _ _ rfl ?_)))
                rw [hw,if_pos hb2,k4]
              · refine Ev.letE (w_inc (by omega)) (next _ _ rfl ?_)
                rw [hw,k4,if_neg (λ h=>?_)]
                rw [hbf,h.1,h.2] at hb;cases hb
          · cases hq:Entity_.eqb (climb A k s.Entity) e
            · exact .inl ⟨rfl,by omega,rfl⟩
            · exact .inr ⟨rfl,.inl rfl⟩
        · have:i=S.length:=by omega
          rw [k4,this];simp
      · rw [← i7,i4.sl];simp
  · by_cases c:(a1.length:Int)>15
    · exact .inl (decide_eq_true c)
    · exact .inr ⟨decide_eq_false c,by omega,by omega⟩
end Lift
