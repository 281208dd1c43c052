import Derived.Test.YtahlmfpllhmjoaaGreatDoorCarl
set_option linter.unusedVariables false
set_option linter.unusedSimpArgs false
namespace Lift
open Go
structure LD (k n:Nat) (Ms:Nat→List Message_) (sent:List (List Message_)) (ms:List bus_master):Prop where
  B:BOk ms
  lm:ms.length=n
  ls:sent.length=n
  sm:∀ i,∀ m∈Ms i,SM m
  per:∀ i,i<n→sent[i]?=some (Ms i)∧∃ m,ms[i]?=some m∧QS k i (Ms i) m 0
theorem LD.start {k n:Nat} (hn:n≤8):LD k n (λ _=>[]) (List.replicate n []) (newB n):=by
  refine ⟨newB_ok hn,by simp [newB],by simp,λ _ m hm=>by simp at hm,λ i hi=>⟨by rw [List.getElem?_replicate,if_pos hi],bus_master.z,by rw [newB,List.getElem?_replicate,if_pos hi],rfl⟩⟩
theorem LD.run {k n:Nat} {Ms:Nat→List Message_} {sent:List (List Message_)} {ms:List bus_master} (h:LD k n Ms sent ms):RI k n Ms ms [] (List.replicate n []) (List.replicate n false):=by
  refine ⟨h.B,h.lm,by simp,by simp,⟨by simp,λ o ho=>(by cases ho)⟩,λ o ho=>(by cases ho),λ i hi=>?_⟩
  obtain ⟨_,m,h1,h2⟩:=h.per i hi
  exact ⟨m,0,[],false,h1,by rw [List.getElem?_replicate,if_pos hi],by rw [List.getElem?_replicate,if_pos hi],h2,λ _=>DS.zero _ _ _ _⟩
theorem LD.more {k n:Nat} {Ms:Nat→List Message_} {sent:List (List Message_)} {ms:List bus_master} (h:LD k n Ms sent ms) {i:Nat} (hi:i<n) {m:Message_} (hm:SM m) {x:bus_master} (hx:ms[i]?=some x) (hB:BOk (ms.set i { x with queue:=x.queue++(pksOf k i m).map (fr i) })) :
    LD k n (λ j=>if j=i then Ms i++[m] else Ms j) (sent.set i (Ms i++[m])) (ms.set i { x with queue:=x.queue++(pksOf k i m).map (fr i) }):=by
  refine ⟨hB,by simp [h.lm],by simp [h.ls],λ j y hy=>?_,λ j hj=>?_⟩
  · split at hy
    · rcases List.mem_append.1 hy with hy | hy
      · exact h.sm i y hy
      · simp at hy;subst hy;exact hm
    · exact h.sm j y hy
  · obtain ⟨h1,m0,h2,h3⟩:=h.per j hj
    by_cases e:i=j
    · subst e
      rw [hx] at h2
      obtain rfl:=Option.some.inj h2
      refine ⟨by simp only [if_true];rw [List.getElem?_set,if_pos rfl,if_pos (by rw [h.ls];exact hi)],_,by rw [List.getElem?_set,if_pos rfl,if_pos (by rw [h.lm];exact hi)],?_⟩
      unfold QS at h3 ⊢
      simp only [List.drop_zero,if_true] at h3 ⊢
      rw [h3,pall_app]
      simp [pall]
    · refine ⟨by simp only [if_neg (λ e2=>e e2.symm:¬ j=i)];rw [List.getElem?_set,if_neg e];exact h1,m0,by rw [List.getElem?_set,if_neg e];exact h2,?_⟩
      simp only [if_neg (λ e2=>e e2.symm:¬ j=i)]
      exact h3
end Lift
