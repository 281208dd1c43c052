import Derived.Test.YtahlmfpllhmjoaaGreatDoorCarh
set_option linter.unusedVariables false
set_option linter.unusedSimpArgs false
namespace Lift
open Go
theorem start_at {ms:List bus_master} {i:Nat} {m:bus_master} (h:(start ms)[i]?=some m):∃ m',ms[i]?=some m'∧m'.queue=m.queue:=by
  have hq:=(start_q ms).1
  have h1:((start ms).map bus_master.queue)[i]?=some m.queue:=by rw [List.getElem?_map,h];rfl
  rw [hq,List.getElem?_map] at h1
  cases h2:ms[i]? with
  | none=>rw [h2] at h1;cases h1
  | some m'=>rw [h2] at h1;exact ⟨m',rfl,by simpa using h1⟩
theorem cstep {k n:Nat} {Ms:Nat→List Message_} (hk:0<k) (hk2:k≤64) (hsm:∀ i,i<n→∀ m∈Ms i,SM m) (hn:n≤8) {ms:List bus_master} (hl:ms.length=n) {cs:Nat→Nat} (hq:∀ (i:Nat) m,ms[i]?=some m→QS k i (Ms i) m (cs i)) (hb:busy ms=true) :
    ∃ i m p,i<n∧(start ms)[i]?=some m∧pickd (least (start ms)) m=true∧(pall k i (Ms i))[cs i]?=some p∧least (start ms)=fr i p∧GP p∧PK p∧m.queue.tail=((pall k i (Ms i)).drop (cs i+1)).map (fr i)∧∀ (j:Nat) y,(start ms)[j]?=some y→pickd (least (start ms)) y=true→j=i:=by
  have hf:(start ms).filter ready≠[]:=λ e=>by rw [busy_start.1 e] at hb;cases hb
  have hln:(start ms).length=n:=by rw [start_len,hl]
  have key:∀ (j:Nat) y,(start ms)[j]?=some y→pickd (least (start ms)) y=true→j<n∧∃ p,(pall k j (Ms j))[cs j]?=some p∧least (start ms)=fr j p∧GP p∧PK p∧y.queue.tail=((pall k j (Ms j)).drop (cs j+1)).map (fr j):=by
    intro j y hy hpy
    have hj:j<n:=by have:=lt_len hy;omega
    obtain ⟨y',e1,e2⟩:=start_at hy
    have hQ:QS k j (Ms j) y (cs j):=by
      have:=hq j y' e1
      unfold QS at this ⊢
      rw [← e2];exact this
    simp only [pickd,Bool.and_eq_true,decide_eq_true_eq] at hpy
    obtain ⟨p,p1,p2,p3⟩:=hQ.head hpy.1
    obtain ⟨g1,g2⟩:=pall_gp (show j<8 by omega) (λ m hm=>(hsm j hj m hm).ok hk hk2 (by omega)) (List.mem_of_getElem? p1)
    exact ⟨hj,p,p1,by rw [← hpy.2,p2],g1,g2,p3⟩
  obtain ⟨m,hm,hp⟩:=pick_ex hf
  obtain ⟨i,hi⟩:=List.getElem?_of_mem hm
  obtain ⟨hin,p,p1,p2,p3,p4,p5⟩:=key i m hi hp
  refine ⟨i,m,p,hin,hi,hp,p1,p2,p3,p4,p5,λ j y hy hpy=>?_⟩
  obtain ⟨hjn,q,q1,q2,q3,_,_⟩:=key j y hy hpy
  exact fr_from q3 p3 (by omega) (by omega) (q2.symm.trans p2)
theorem stepM_at {S:List bus_master} {b:List Int} {ok:Bool} {i:Nat} {m:bus_master} (hi:S[i]?=some m) (hp:pickd b m=true) (hu:∀ (j:Nat) y,S[j]?=some y→pickd b y=true→j=i):S.map (stepF b ok)=S.set i (hit ok m):=by
  apply List.ext_getElem?
  intro j
  rw [List.getElem?_map,List.getElem?_set]
  by_cases e:i=j
  · subst e
    rw [if_pos rfl,if_pos (lt_len hi),hi]
    simp [stepF,hp]
  · rw [if_neg e]
    cases hj:S[j]? with
    | none=>rfl
    | some y =>
      have:pickd b y=false:=by
        cases hy:pickd b y
        · rfl
        · exact absurd (hu j y hj hy).symm e
      simp [stepF,this]
end Lift
