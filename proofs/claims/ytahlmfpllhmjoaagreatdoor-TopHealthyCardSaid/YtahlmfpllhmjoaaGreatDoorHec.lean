import Derived.Test.YtahlmfpllhmjoaaGreatDoorHeb
set_option linter.unusedVariables false
set_option linter.unusedSimpArgs false
namespace Lift
open Go
theorem around_ev {fuel:Nat} (hf:100<fuel) {l:List Association_} (hl:l.length≤32) (e:Entity_):Ev (entity_around fuel l e) (λ out=>Around l e out∧out.length≤l.length):=by
  unfold entity_around
  refine Ev.loop (λ (n:Nat) (x:Entity_×List Entity_)=>AR_ l e x.2 x.1∧x.2.length+n=l.length) (λ n x hI self hself=>?_) (n:=l.length) (by omega) ⟨AR_.start l e,by simp⟩
  obtain ⟨e1,out⟩:=x
  obtain ⟨hA,hn⟩:=hI
  simp only at hA hn ⊢
  refine Ev.to (parent_eq hf (by omega) e1) ?_
  refine Ev.join (λ b=>b=true∧(up l e1=none∨∃ p,up l e1=some p∧p∈out)∨b=false∧∃ p,up l e1=some p∧p∉out) (λ b hb=>?_) (λ j hj=>?_)
  · rcases hb with ⟨rfl,h⟩ | ⟨rfl,p,hp,hno⟩
    · exact Ev.iteT rfl (Ev.ret ⟨hA.done h,hA.len⟩)
    · have hs:=hA.step hp hno
      have hle:=hs.len
      simp only [List.length_append,List.length_cons,List.length_nil] at hle
      have e2:(upr l e1).1=p:=by unfold upr;rw [hp]
      rw [e2]
      exact Ev.iteF rfl (Ev.app (by simp;omega) (hself (n-1) _ (by omega) ⟨hs,by simp;omega⟩))
  · cases hu:up l e1 with
    | none =>
      have e2:(upr l e1).2=false:=by unfold upr;rw [hu]
      rw [e2];exact Ev.iteT rfl (hj _ (.inl ⟨rfl,.inl hu⟩))
    | some p =>
      have e2:(upr l e1).2=true:=by unfold upr;rw [hu]
      have e3:(upr l e1).1=p:=by unfold upr;rw [hu]
      rw [e2,e3]
      refine Ev.iteF rfl (Ev.to (contains_eq hf (by omega) p) (hj _ ?_))
      by_cases hp:p∈out
      · exact .inl ⟨(has_iff out p).2 hp,.inr ⟨p,hu,hp⟩⟩
      · exact .inr ⟨Bool.eq_false_iff.2 (λ h=>hp ((has_iff out p).1 h)),p,hu,hp⟩
structure AOk (l:List Association_):Prop where
  len:l.length≤32
  dist:∀ (a b:Nat) x y,a<b→l[a]?=some x→l[b]?=some y→x.Contained≠y.Contained
  acy:∀ x∈l,∀ k,1≤k→k≤l.length→upn l k x.Contained≠some x.Contained
theorem AOk.nil:AOk []:=⟨by simp,λ a b x y _ h=>by simp at h,λ x hx=>by cases hx⟩
theorem rparent_eq {fuel:Nat} (hf:100<fuel) {l:List Association_} (hl:l.length≤40) (e:Entity_):ref15_Parent fuel l e=some (upr l e):=by
  apply Ev.eq
  unfold ref15_Parent
  refine Ev.loop (λ (n:Nat) (x:Int)=>∃ i:Nat,x=i∧i+n=l.length∧up l e=up (l.drop i) e) (λ n x hI self hself=>?_) (n:=l.length) (by omega) ⟨0,rfl,by omega,by simp⟩
  obtain ⟨i,rfl,i2,i3⟩:=hI
  refine Ev.dec (λ hlt=>Ev.idx (by omega) hlt (λ x hx _=>?_)) (λ hge=>Ev.ret ?_)
  · simp only [Int.toNat_natCast] at hx
    have hx':idx l (i:Int)=some x:=by rw [idx_nat];exact hx
    rw [drop_at hx] at i3
    refine Ev.ite (λ hb=>Ev.to hx' (Ev.ret ?_)) (λ hb=>Ev.letE (w_inc (by omega)) (hself (n-1) _ (by omega) ⟨i+1,rfl,by omega,by rw [i3];simp [up,hb]⟩))
    unfold upr;rw [i3];simp only [up,hb,if_true]
  · unfold upr;rw [i3,List.drop_eq_nil_of_le (by omega)];rfl
theorem upn_dead {l:List Association_} {e z:Entity_} {k:Nat} (h:upn l k e=some z) (hz:up l z=none):∀ j,k<j→upn l j e=none:=by
  intro j
  induction j with
  | zero=>intro hj;omega
  | succ j ih =>
    intro hj
    simp only [upn]
    by_cases c:j=k
    · subst c;rw [h];exact hz
    · rw [ih (by omega)];rfl
theorem rcheck_ev {fuel:Nat} (hf:100<fuel) (l:List Association_):Ev (ref15_Check fuel l) (λ y=>y=0→AOk l):=by
  unfold ref15_Check
  refine Ev.dec (λ _=>Ev.ret (λ h=>absurd h (by decide))) (λ h32=>?_)
  have hl:l.length≤32:=by omega
  refine Ev.loop (λ (n:Nat) (x:Int)=>∃ i:Nat,x=i∧i+n=l.length∧∀ (a b:Nat) x y,a<b→b<i→l[a]?=some x→l[b]?=some y→x.Contained≠y.Contained) (λ n x hI self hself=>?_) (n:=l.length) (by omega) ⟨0,rfl,by omega,λ a b x y _ h=>by omega⟩
  obtain ⟨i,rfl,i2,i3⟩:=hI
  refine Ev.dec (λ hlt=>?_) (λ hge=>?_)
  · have hi:i<l.length:=by omega
    have hyi:l[i]?=some l[i]:=List.getElem?_eq_getElem hi
    refine Ev.loop (λ (n:Nat) (x:Int)=>∃ k:Nat,x=k∧k+n=i∧∀ (a:Nat) x,a<k→l[a]?=some x→x.Contained≠l[i].Contained) (λ n2 x hI2 self2 hself2=>?_) (n:=i) (by omega) ⟨0,rfl,by omega,λ a x h=>by omega⟩
    obtain ⟨k,rfl,k2,k3⟩:=hI2
    refine Ev.dec (λ hlt2=>Ev.idx (by omega) (by omega) (λ x hx _=>Ev.to (by rw [idx_nat];exact hyi) (Ev.ite (λ _=>Ev.ret (λ h=>absurd h (by decide))) (λ hb=>Ev.letE (w_inc (by omega)) (hself2 (n2-1) _ (by omega) ⟨k+1,rfl,by omega,λ a z ha hz=>?_⟩))))) (λ hge2=>Ev.letE (w_inc (by omega)) (hself (n-1) _ (by omega) ⟨i+1,rfl,by omega,λ a b x y hab hb hx hy=>?_⟩))
    · simp only [Int.toNat_natCast] at hx
      by_cases c:a=k
      · subst c
        rw [hx] at hz
        obtain rfl:=Option.some.inj hz
        intro e
        rw [(Entity_.eqb_iff _ _).2 e] at hb;cases hb
      · exact k3 a z (by omega) hz
    · by_cases c:b=i
      · subst c
        rw [hyi] at hy
        obtain rfl:=Option.some.inj hy
        exact k3 a x (by omega) hx
      · exact i3 a b x y hab (by omega) hx hy
  · have hd:∀ (a b:Nat) x y,a<b→l[a]?=some x→l[b]?=some y→x.Contained≠y.Contained:=λ a b x y hab hx hy=>i3 a b x y hab (by have:=(List.getElem?_eq_some_iff.1 hy).1;omega) hx hy
    clear hself self i3
    refine Ev.loop (λ (n:Nat) (x:Int)=>∃ i:Nat,x=i∧i+n=l.length∧∀ (a:Nat) x,a<i→l[a]?=some x→∀ k,1≤k→k≤l.length→upn l k x.Contained≠some x.Contained) (λ n x hI self hself=>?_) (n:=l.length) (by omega) ⟨0,rfl,by omega,λ a x h=>by omega⟩
    obtain ⟨i,rfl,i2,i3⟩:=hI
    refine Ev.dec (λ hlt=>Ev.idx (by omega) hlt (λ x hx _=>?_)) (λ hge=>Ev.ret (λ _=>⟨hl,hd,λ x hx=>?_⟩))
    · simp only [Int.toNat_natCast] at hx
      have hx':idx l (i:Int)=some x:=by rw [idx_nat];exact hx
      have next:(∀ k,1≤k→k≤l.length→upn l k x.Contained≠some x.Contained)→Ev (self ((i+1:Nat):Int)) (λ y=>y=0→AOk l):=λ h=>hself (n-1) _ (by omega) ⟨i+1,rfl,by omega,λ a z ha hz=>by
        by_cases c:a=i
        · subst c;rw [hx] at hz;obtain rfl:=Option.some.inj hz;exact h
        · exact i3 a z (by omega) hz⟩
      refine Ev.loop (λ (n:Nat) (s:Int×Entity_)=>∃ k:Nat,s.1=k∧k+n=l.length∧upn l k x.Contained=some s.2∧∀ j,1≤j→j≤k→upn l j x.Contained≠some x.Contained) (λ n2 s hI2 self2 hself2=>?_) (n:=l.length) (by omega) ⟨0,rfl,by omega,rfl,λ j h1 h2=>by omega⟩
      obtain ⟨p,e⟩:=s
      obtain ⟨k,k1,k2,k3,k4⟩:=hI2
      simp only at k1 k3 ⊢
      subst k1
      refine Ev.dec (λ hlt2=>Ev.to (rparent_eq hf (by omega) e) ?_) (λ hge2=>Ev.letE (w_inc (by omega)) (next (λ j h1 h2=>k4 j h1 (by omega))))
      cases hu:up l e with
      | none =>
        have e2:(upr l e).2=false:=by unfold upr;rw [hu]
        rw [e2]
        refine Ev.iteT rfl (Ev.letE (w_inc (by omega)) (next (λ j h1 h2=>?_)))
        by_cases c:j≤k
        · exact k4 j h1 c
        · rw [upn_dead k3 hu j (by omega)];simp
      | some z =>
        have e2:(upr l e).2=true:=by unfold upr;rw [hu]
        have e3:(upr l e).1=z:=by unfold upr;rw [hu]
        rw [e2,e3]
        have hz:upn l (k+1) x.Contained=some z:=by simp only [upn,k3];exact hu
        refine Ev.iteF rfl (Ev.to hx' (Ev.ite (λ _=>Ev.ret (λ h=>absurd h (by decide))) (λ hb=>Ev.letE (w_inc (by omega)) (hself2 (n2-1) _ (by omega) ⟨k+1,rfl,by omega,hz,λ j h1 h2=>?_⟩))))
        by_cases c:j=k+1
        · subst c
          rw [hz]
          intro e4
          rw [Option.some.inj e4,Entity_.eqb_self] at hb;cases hb
        · exact k4 j h1 (by omega)
    · obtain ⟨a,ha⟩:=List.getElem?_of_mem hx
      exact i3 a x (by have:=(List.getElem?_eq_some_iff.1 ha).1;omega) ha
instance:DecidableEq Entity_:=λ a b=>decidable_of_iff _ (Entity_.eqb_iff a b)
theorem kfind_put {α:Type} {l:List (Entity_×α)} {k y:Entity_} {v:α}:kfind Entity_.eqb (kput Entity_.eqb l k v) y=if y=k then some v else kfind Entity_.eqb l y:=by
  induction l with
  | nil=>simp [kput,kfind,Entity_.eqb_iff]
  | cons p l ih =>
    obtain ⟨a,x⟩:=p
    simp only [kput]
    by_cases c:k=a
    · subst c
      rw [if_pos (Entity_.eqb_self _)]
      simp only [kfind,Entity_.eqb_iff]
      by_cases c2:y=k<;>simp [c2]
    · rw [if_neg (λ h=>c ((Entity_.eqb_iff _ _).1 h))]
      simp only [kfind,Entity_.eqb_iff,ih]
      by_cases c2:y=a
      · subst c2;simp [Ne.symm c]
      · simp [c2]
theorem echeck_ok {fuel:Nat} (hf:100<fuel) {l:List Association_} (h:AOk l):entity_Check fuel l=some 0:=by
  have hl:=h.len
  apply Ev.eq
  unfold entity_Check
  refine Ev.decF (by omega) ?_
  refine Ev.loop (λ (n:Nat) (x:Int×List (Entity_×Bool))=>∃ i:Nat,x.1=i∧i+n=l.length∧∀ y,kget Entity_.eqb false x.2 y=true→∃ (a:Nat) (z:Association_),a<i∧l[a]?=some z∧z.Contained=y) (λ n x hI self hself=>?_) (n:=l.length) (by omega) ⟨0,rfl,by omega,λ y hy=>by simp [kget,kfind] at hy⟩
  obtain ⟨p,met⟩:=x
  obtain ⟨i,i1,i2,i3⟩:=hI
  simp only at i1 i3 ⊢
  subst i1
  refine Ev.dec (λ hlt=>Ev.idx (by omega) hlt (λ x hx _=>?_)) (λ hge=>?_)
  · simp only [Int.toNat_natCast] at hx
    refine Ev.ite (λ hb=>?_) (λ hb=>?_)
    · obtain ⟨a,z,h1,h2,h3⟩:=i3 _ hb
      exact absurd h3 (h.dist a i z x h1 h2 hx)
    · refine Ev.letP ?_
      rw [w_inc (by omega)]
      refine hself (n-1) _ (by omega) ⟨i+1,rfl,by omega,λ y hy=>?_⟩
      simp only [kget,kfind_put] at hy
      by_cases c:y=x.Contained
      · exact ⟨i,x,by omega,hx,c.symm⟩
      · rw [if_neg c] at hy
        obtain ⟨a,z,h1,h2,h3⟩:=i3 y hy
        exact ⟨a,z,by omega,h2,h3⟩
  · clear hself self i3
    refine Ev.loop (λ (n:Nat) (x:Int)=>∃ i:Nat,x=i∧i+n=l.length) (λ n x hI self hself=>?_) (n:=l.length) (by omega) ⟨0,rfl,by omega⟩
    obtain ⟨i,rfl,i2⟩:=hI
    refine Ev.dec (λ hlt=>Ev.idx (by omega) hlt (λ x hx hm=>Ev.bind (around_ev hf hl x.Contained) (λ out ho=>?_))) (λ hge=>Ev.ret rfl)
    have hno:has out x.Contained=false:=Bool.eq_false_iff.2 (λ hh=>by
      obtain ⟨k,k1,k2,k3⟩:=ho.1.1 _ ((has_iff _ _).1 hh)
      exact h.acy x hm k k1 k2 k3)
    refine Ev.to (contains_eq hf (by omega) x.Contained) (Ev.iteF hno ?_)
    rw [w_inc (by omega)]
    exact hself (n-1) _ (by omega) ⟨i+1,rfl,by omega⟩
theorem Associations_ev {fuel:Nat} (hf:100<fuel) {d:made_Dice} (h:DOk d):Ev (made_Dice_Associations fuel d 5) (λ y=>(AOk y.1∧y.1.length≤5)∧DOk y.2):=by
  unfold made_Dice_Associations
  refine Ev.bind (Next_ev fuel h (by decide) (by decide)) (λ y1 h1=>?_)
  obtain ⟨a1,a2,a3⟩:=h1
  have hw6:IntKind.i64.wrap (5+1)=6:=by decide
  rw [hw6] at a2
  refine Ev.loop (λ (n:Nat) (x:List Association_×Int×made_Dice)=>(AOk x.1∧(x.1.length:Int)+x.2.1≤5)∧x.2.1=n∧DOk x.2.2) (λ n x hI self hself=>?_) (n:=y1.1.toNat) (by omega) ⟨⟨AOk.nil,by simp;omega⟩,by simp only;omega,a3⟩
  obtain ⟨out,c,d1⟩:=x
  obtain ⟨⟨i1,i2⟩,i3,i4⟩:=hI
  simp only at i1 i2 i3 i4 ⊢
  subst i3
  refine Ev.dec (λ hpos=>Ev.app (by simp;omega) (Ev.bind (Entity_ev fuel i4) (λ y2 h2=>Ev.bind (Entity_ev fuel h2) (λ y3 h3=>Ev.app (by simp;omega) (Ev.bind (rcheck_ev hf _) (λ y4 h4=>?_)))))) (λ hneg=>Ev.ret ⟨⟨i1,show out.length≤5 by omega⟩,i4⟩)
  have hw:IntKind.i64.wrap ((n:Int)-1)=((n-1:Nat):Int):=by rw [w_i64 (by omega) (by omega)];omega
  refine Ev.beq (λ he=>Ev.letE hw (hself (n-1) _ (by omega) ⟨⟨h4 he,?_⟩,rfl,h3⟩)) (λ _=>Ev.letE hw (hself (n-1) _ (by omega) ⟨⟨i1,show (out.length:Int)+((n-1:Nat):Int)≤5 by omega⟩,rfl,h3⟩))
  simp;omega
end Lift
