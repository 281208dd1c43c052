import Derived.Test.YtahlmfpllhmjoaaGreatDoorHed
set_option linter.unusedVariables false
set_option linter.unusedSimpArgs false
namespace Lift
open Go
theorem there_eq {fuel:Nat} (hf:100<fuel) {l:List Association_} (hl:l.length≤5) (s:Entity_):entity_present fuel l [] s=some true:=by
  apply Ev.eq
  unfold entity_present
  refine Ev.bind (around_ev hf (by omega) s) (λ ar har=>Ev.app (by simp;omega) (Ev.bind (P:=λ b=>b=false) ?_ (λ b hb=>Ev.letP (Ev.ret (by rw [hb];rfl)))))
  unfold slices_ContainsFunc_api_Entity_api_Entity_entity_present_1 slices_IndexFunc_api_Entity_api_Entity_entity_present_1
  refine Ev.bind (P:=λ y:Int=>y=-1) ?_ (λ y hy=>Ev.letP (Ev.ret (by rw [hy];rfl)))
  have hlen:(ar++[s]).length≤6:=by simp;omega
  generalize ar++[s]=m at hlen
  refine Ev.loop (λ (n:Nat) (x:Int)=>∃ i:Nat,x=i∧i+n=m.length) (λ n x hI self hself=>?_) (n:=m.length) (by omega) ⟨0,rfl,by omega⟩
  obtain ⟨i,rfl,i2⟩:=hI
  refine Ev.dec (λ hlt=>Ev.idx (by omega) hlt (λ x _ _=>Ev.to (show entity_present_1_2 fuel x []=some false from ?_) (Ev.iteF rfl ?_))) (λ _=>Ev.ret rfl)
  · unfold entity_present_1_2;rw [contains_eq hf (by simp)];rfl
  · rw [w_inc (by omega)];exact hself (n-1) _ (by omega) ⟨i+1,rfl,by omega⟩
theorem Present_eq {fuel:Nat} (hf:100<fuel) {l:List Association_} (h:AOk l) (hl:l.length≤5) (s:Entity_):entity_Present fuel l [] s=some (true,0):=by
  unfold entity_Present
  rw [echeck_ok hf h,bindP_some,there_eq hf hl s];rfl
def hstep (l:List Association_) (e:Entity_) (a:Int) (c:Condition_):Int:=if inb l c.Entity e=true then max a c.Severity else a
def hfold (l:List Association_) (e:Entity_) (own:List Condition_):Int:=own.foldl (hstep l e) 0
theorem eHealth_eq {fuel:Nat} (hf:100<fuel) {l:List Association_} (h:AOk l) (hl:l.length≤5) (e:Entity_) {own:List Condition_} (ho:own.length≤6) (hs:∀ c∈own,0≤c.Severity∧c.Severity≤3):entity_Health fuel l [] own e=some (hfold l e own,0):=by
  apply Ev.eq
  unfold entity_Health
  refine Ev.to (echeck_ok hf h) (Ev.bneF rfl (Ev.bind (P:=λ b=>b=false) ?_ (λ b hb=>Ev.iteF hb (Ev.bind (within_ev hf hl e) (λ w hw=>?_)))))
  · unfold slices_ContainsFunc_api_Condition_api_Condition_entity_Health_1 slices_IndexFunc_api_Condition_api_Condition_entity_Health_1
    refine Ev.bind (P:=λ y:Int=>y=-1) ?_ (λ y hy=>Ev.letP (Ev.ret (by rw [hy];rfl)))
    refine Ev.loop (λ (n:Nat) (x:Int)=>∃ i:Nat,x=i∧i+n=own.length) (λ n x hI self hself=>?_) (n:=own.length) (by omega) ⟨0,rfl,by omega⟩
    obtain ⟨i,rfl,i2⟩:=hI
    refine Ev.dec (λ hlt=>Ev.idx (by omega) hlt (λ x _ hm=>Ev.to (show entity_Health_1 fuel x=some false from ?_) (Ev.iteF rfl ?_))) (λ _=>Ev.ret rfl)
    · have:=hs x hm
      apply Ev.eq
      unfold entity_Health_1
      exact Ev.decF (by omega) (Ev.letP (Ev.ret (decide_eq_false (by omega))))
    · rw [w_inc (by omega)];exact hself (n-1) _ (by omega) ⟨i+1,rfl,by omega⟩
  · refine Ev.loop (λ (n:Nat) (x:Int×Int)=>∃ i:Nat,x.2=i∧i+n=own.length∧x.1=hfold l e (own.take i)) (λ n x hI self hself=>?_) (n:=own.length) (by omega) ⟨0,rfl,by omega,rfl⟩
    obtain ⟨a,p⟩:=x
    obtain ⟨i,i1,i2,i3⟩:=hI
    simp only at i1 i3 ⊢
    subst i1
    refine Ev.dec (λ hlt=>Ev.idx (by omega) hlt (λ x hx hm=>Ev.to (contains_eq hf (by omega) x.Entity) ?_)) (λ hge=>Ev.ret (by rw [i3,List.take_of_length_le (by omega)]))
    simp only [Int.toNat_natCast] at hx
    rw [hw.2,w_inc (by omega)]
    have ht:hfold l e (own.take (i+1))=hstep l e a x:=by
      rw [List.take_add_one,hx,i3];simp [hfold]
    refine Ev.join (λ b=>b=inb l x.Entity e) (λ b hb=>Ev.ite (λ hbt=>?_) (λ hbf=>?_)) (λ j hj=>Ev.ite (λ hb=>Ev.to (there_eq hf hl x.Entity) (hj _ hb.symm)) (λ hb=>hj _ hb.symm))
    · exact hself (n-1) _ (by omega) ⟨i+1,rfl,by omega,by rw [ht];unfold hstep;rw [← hb,if_pos hbt]⟩
    · exact hself (n-1) _ (by omega) ⟨i+1,rfl,by omega,by rw [ht];unfold hstep;rw [← hb,hbf];rfl⟩
end Lift
