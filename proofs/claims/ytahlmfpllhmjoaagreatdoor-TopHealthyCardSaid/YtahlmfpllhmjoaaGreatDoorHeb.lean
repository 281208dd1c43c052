import Derived.Test.YtahlmfpllhmjoaaGreatDoorTopg
import Derived.Test.YtahlmfpllhmjoaaGreatDoorHea
set_option linter.unusedVariables false
set_option linter.unusedSimpArgs false
namespace Lift
open Go
theorem Ev.eq {α:Type} {x:Option α} {v:α} (h:Ev x (λ y=>y=v)):x=some v:=by obtain ⟨a,e,rfl⟩:=h;exact e
theorem drop_at {α:Type} {l:List α} {i:Nat} {x:α} (h:l[i]?=some x):l.drop i=x::l.drop (i+1):=by
  obtain ⟨hi,e⟩:=List.getElem?_eq_some_iff.1 h
  rw [List.drop_eq_getElem_cons hi,e]
theorem w_inc {i:Nat} (h:i<1000000):IntKind.i64.wrap ((i:Int)+1)=((i+1:Nat):Int):=by rw [w_i64 (by omega) (by omega)];rfl
theorem pindex_ev {fuel:Nat} (hf:100<fuel) {l:List Association_} (hl:l.length≤40) (e:Entity_):Ev (slices_IndexFunc_api_Association_api_Association_entity_Parent_1 fuel l e) (λ y=>(y=-1∧up l e=none)∨∃ (i:Nat) (x:Association_),y=i∧l[i]?=some x∧up l e=some x.Container):=by
  unfold slices_IndexFunc_api_Association_api_Association_entity_Parent_1
  refine Ev.loop (λ (n:Nat) (x:Int)=>∃ i:Nat,x=i∧i+n=l.length∧up l e=up (l.drop i) e) (λ n x hI self hself=>?_) (n:=l.length) (by omega) ⟨0,rfl,by omega,by simp⟩
  obtain ⟨i,rfl,i2,i3⟩:=hI
  refine Ev.dec (λ hlt=>Ev.idx (by omega) hlt (λ x hx _=>?_)) (λ hge=>Ev.ret (.inl ⟨rfl,?_⟩))
  · simp only [Int.toNat_natCast] at hx
    rw [drop_at hx] at i3
    refine Ev.to (show entity_Parent_1_2 fuel x e=some (Entity_.eqb x.Contained e) from rfl) (Ev.ite (λ hb=>Ev.ret (.inr ⟨i,x,rfl,hx,by rw [i3];simp only [up,hb,if_true]⟩)) (λ hb=>?_))
    rw [w_inc (by omega)]
    exact hself (n-1) _ (by omega) ⟨i+1,rfl,by omega,by rw [i3];simp [up,hb]⟩
  · rw [i3,List.drop_eq_nil_of_le (by omega)];rfl
def upr (l:List Association_) (e:Entity_):Entity_×Bool:=match up l e with | some p=>(p,true) | none=>(Entity_.z,false)
theorem parent_eq {fuel:Nat} (hf:100<fuel) {l:List Association_} (hl:l.length≤40) (e:Entity_):entity_Parent fuel l e=some (upr l e):=by
  apply Ev.eq
  unfold entity_Parent upr
  refine Ev.bind (pindex_ev hf hl e) (λ y hy=>?_)
  rcases hy with ⟨rfl,h⟩ | ⟨i,x,rfl,hx,h⟩
  · rw [h];exact Ev.decT (by omega) (Ev.ret rfl)
  · rw [h];exact Ev.decF (by omega) (Ev.to (by rw [idx_nat];exact hx) (Ev.ret rfl))
def has (l:List Entity_) (e:Entity_):Bool:=l.any (λ y=>Entity_.eqb e y)
theorem has_iff (l:List Entity_) (e:Entity_):has l e=true↔e∈l:=by
  simp only [has,List.any_eq_true,Entity_.eqb_iff]
  exact ⟨λ ⟨x,h1,h2⟩=>h2 ▸ h1,λ h=>⟨e,h,rfl⟩⟩
theorem contains_eq {fuel:Nat} (hf:100<fuel) {l:List Entity_} (hl:l.length≤80) (e:Entity_):slices_Contains_api_Entity_api_Entity fuel l e=some (has l e):=by
  apply Ev.eq
  unfold slices_Contains_api_Entity_api_Entity slices_Index_api_Entity_api_Entity
  refine Ev.bind (P:=λ y:Int=>(decide (y≥0))=has l e) ?_ (λ y hy=>Ev.letE hy (Ev.ret rfl))
  refine Ev.loop (λ (n:Nat) (x:Int)=>∃ i:Nat,x=i∧i+n=l.length∧has l e=has (l.drop i) e) (λ n x hI self hself=>?_) (n:=l.length) (by omega) ⟨0,rfl,by omega,by simp⟩
  obtain ⟨i,rfl,i2,i3⟩:=hI
  refine Ev.dec (λ hlt=>Ev.idx (by omega) hlt (λ x hx _=>?_)) (λ hge=>Ev.ret ?_)
  · simp only [Int.toNat_natCast] at hx
    rw [drop_at hx] at i3
    refine Ev.ite (λ hb=>Ev.ret ?_) (λ hb=>?_)
    · rw [i3];simp only [has,List.any_cons,hb,Bool.true_or];exact decide_eq_true (by omega)
    · rw [w_inc (by omega)]
      exact hself (n-1) _ (by omega) ⟨i+1,rfl,by omega,by rw [i3];simp [has,hb]⟩
  · rw [i3,List.drop_eq_nil_of_le (by omega)];rfl
end Lift
