import Derived.Test.YtahlmfpllhmjoaaGreatDoorCarf
set_option linter.unusedVariables false
set_option linter.unusedSimpArgs false
namespace Lift
open Go
theorem who_single {α:Type} {p:α→Bool} {l:List α} {i:Nat} {x:α} (h:l[i]?=some x) (hp:p x=true) (hu:∀ (j:Nat) (y:α),l[j]?=some y→p y=true→j=i):who p 0 l=[(i:Int)]:=by
  have hm:(i:Int)∈who p 0 l:=who_mem.2 ⟨i,x,h,hp,by simp⟩
  have hne:who p 0 l≠[]:=λ e=>by rw [e] at hm;cases hm
  obtain ⟨mid,z,post,e,h1,h2,h3⟩:=who_split hne
  have hz:l[mid.length]?=some z:=by rw [e];simp
  have hi:=hu mid.length z hz h2
  have hpost:who p (0+mid.length+1) post=[]:=by
    apply who_none
    intro y hy
    cases hpy:p y
    · rfl
    · exfalso
      obtain ⟨j,hj⟩:=List.getElem?_of_mem hy
      have:l[mid.length+1+j]?=some y:=by
        rw [e,List.getElem?_append_right (by omega),show mid.length+1+j-mid.length=j+1 by omega]
        simpa using hj
      have:=hu _ y this hpy
      omega
  rw [h3,hpost,← hi]
  simp
def QS (k i:Nat) (ms:List Message_) (m:bus_master) (c:Nat):Prop:=m.queue=((pall k i ms).drop c).map (fr i)
theorem pall_gp {k i:Nat} (hi:i<8) {ms:List Message_} (hok:∀ m∈ms,(mg k i m).ok) {p:Packet_} (hp:p∈pall k i ms):GP p∧PK p:=by
  simp only [pall,List.mem_flatMap,pksOf,List.mem_map,List.mem_range] at hp
  obtain ⟨m,hm,t,ht,rfl⟩:=hp
  rcases mg_gp (hok m hm) ht with h | h
  · exact h
  · exact absurd hi h
theorem QS.head {k i:Nat} {ms:List Message_} {m:bus_master} {c:Nat} (h:QS k i ms m c) (hr:ready m=true):∃ p,(pall k i ms)[c]?=some p∧qhead m=fr i p∧m.queue.tail=((pall k i ms).drop (c+1)).map (fr i):=by
  obtain ⟨x,q,e1,e2⟩:=ready_queue hr
  unfold QS at h
  have hl:c<(pall k i ms).length:=by
    rcases Nat.lt_or_ge c (pall k i ms).length with h' | h'
    · exact h'
    · rw [List.drop_eq_nil_of_le h',e1] at h;cases h
  rw [List.drop_eq_getElem_cons hl] at h
  refine ⟨(pall k i ms)[c],List.getElem?_eq_getElem hl,?_,?_⟩
  · rw [e2]
    rw [e1] at h
    simp only [List.map_cons,List.cons.injEq] at h
    exact h.1
  · rw [h];rfl
end Lift
