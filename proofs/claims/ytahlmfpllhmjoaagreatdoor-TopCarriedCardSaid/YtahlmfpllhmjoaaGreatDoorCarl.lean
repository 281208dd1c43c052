import Derived.Test.YtahlmfpllhmjoaaGreatDoorCark
set_option linter.unusedVariables false
set_option linter.unusedSimpArgs false
namespace Lift
open Go
theorem RI.cs {k n:Nat} {Ms:Nat→List Message_} {ms:List bus_master} {l:List fragment_open} {got:List (List Message_)} {failed:List Bool} (h:RI k n Ms ms l got failed) :
    ∃ cs:Nat→Nat,∀ i m g b,ms[i]?=some m→got[i]?=some g→failed[i]?=some b→QS k i (Ms i) m (cs i)∧(b=false→DS k i (Ms i) (cs i) g (ofs (10+(i:Int)) l)):=by
  have:∀ i,∃ c,∀ m g b,ms[i]?=some m→got[i]?=some g→failed[i]?=some b→QS k i (Ms i) m c∧(b=false→DS k i (Ms i) c g (ofs (10+(i:Int)) l)):=by
    intro i
    by_cases hi:i<n
    · obtain ⟨m,c,g,b,h1,h2,h3,h4,h5⟩:=h.per i hi
      refine ⟨c,λ m' g' b' e1 e2 e3=>?_⟩
      rw [h1] at e1;rw [h2] at e2;rw [h3] at e3
      obtain rfl:=Option.some.inj e1
      obtain rfl:=Option.some.inj e2
      obtain rfl:=Option.some.inj e3
      exact ⟨h4,h5⟩
    · exact ⟨0,λ m g b e=>by have:=lt_len e;have:=h.lm;omega⟩
  exact ⟨λ i=>Classical.choose (this i),λ i=>Classical.choose_spec (this i)⟩
theorem RI.bad {k n:Nat} {Ms:Nat→List Message_} (hk:0<k) (hk2:k≤64) (hsm:∀ i,i<n→∀ m∈Ms i,SM m) (hn:n≤8) {ms:List bus_master} {l:List fragment_open} {got:List (List Message_)} {failed:List Bool} (h:RI k n Ms ms l got failed) {f:Fault_} (hb:busy ms=true) (hno:oks (arr (least (start ms)) f)=false) :
    ∃ failed',RI k n Ms (stepM (start ms) f) l got failed'∧((stepD (start ms) f).Failed=[]∧failed'=failed∨∃ i:Nat,i<n∧(stepD (start ms) f).Failed=[(i:Int)]∧failed'=failed.set i true):=by
  obtain ⟨cs,hcs⟩:=h.cs
  have hqs:∀ (i:Nat) m,ms[i]?=some m→QS k i (Ms i) m (cs i):=λ i m hm=>by
    have hi:i<n:=by have:=lt_len hm;rw [h.lm] at this;exact this
    exact (hcs i m _ _ hm (List.getElem?_eq_getElem (by rw [h.lg];exact hi)) (List.getElem?_eq_getElem (by rw [h.lf];exact hi))).1
  obtain ⟨i,m,p,hi,hS,hp,p1,p2,p3,p4,p5,hu⟩:=cstep hk hk2 hsm hn h.lm hqs hb
  have hB:BOk (stepM (start ms) f):=stepM_ok (start_ok h.B)
  have hst:stepM (start ms) f=(start ms).set i (hit false m):=by
    unfold stepM;rw [hno];exact stepM_at hS hp hu
  rw [hst] at hB
  obtain ⟨m0,e1,e2⟩:=start_at hS
  obtain ⟨g,hg⟩:∃ g,got[i]?=some g:=⟨_,List.getElem?_eq_getElem (by rw [h.lg];exact hi)⟩
  obtain ⟨b,hbb⟩:∃ b,failed[i]?=some b:=⟨_,List.getElem?_eq_getElem (by rw [h.lf];exact hi)⟩
  obtain ⟨q1,q2⟩:=hcs i m0 g b e1 hg hbb
  rw [hst]
  have hgs:got.set i g=got:=set_self hg
  by_cases hgone:gone m=true
  · refine ⟨failed.set i true,?_,.inr ⟨i,hi,?_,rfl⟩⟩
    · have hm':hit false m=⟨m.queue.tail,0,true⟩:=by simp only [hit,Bool.false_or];exact if_pos hgone
      have:=h.set hi (m':=hit false m) (g':=g) (b':=true) (c':=cs i+1) hB h.ku h.ob (by rw [hm'];exact p5) (λ e=>by cases e) (λ _ _=>rfl)
      rw [hgs] at this;exact this
    · simp only [stepD,hno]
      refine who_single hS (by simp [failF,hp,hgone]) (λ j y hy hf=>hu j y hy ?_)
      simp only [failF,Bool.not_false,Bool.true_and,Bool.and_eq_true] at hf
      exact hf.1
  · refine ⟨failed,?_,.inl ⟨?_,rfl⟩⟩
    · have hm':hit false m=⟨m.queue,m.tries+1,true⟩:=by simp only [hit,Bool.false_or];exact if_neg hgone
      have:=h.set hi (m':=hit false m) (g':=g) (b':=b) (c':=cs i) hB h.ku h.ob (by rw [hm'];unfold QS at q1 ⊢;rw [← q1];exact e2.symm) q2 (λ _ _=>rfl)
      rw [hgs,set_self hbb] at this;exact this
    · simp only [stepD,hno]
      apply who_none
      intro y hy
      cases hf:failF (least (start ms)) false y
      · rfl
      · exfalso
        simp only [failF,Bool.not_false,Bool.true_and,Bool.and_eq_true] at hf
        obtain ⟨j,hj⟩:=List.getElem?_of_mem hy
        have:=hu j y hj hf.1
        subst this
        rw [hS] at hj
        obtain rfl:=Option.some.inj hj
        exact hgone hf.2
theorem pall_from {k i:Nat} {ms:List Message_} {p:Packet_} (hp:p∈pall k i ms):p.From=10+(i:Int):=by
  simp only [pall,List.mem_flatMap,pksOf,List.mem_map,List.mem_range] at hp
  obtain ⟨m,hm,t,ht,rfl⟩:=hp
  rfl
theorem OB.of {l:List fragment_open} (h:OB l) {f:Int} {o:fragment_open} (e:ofs f l=some o):(∀ x∈o.whole.Data,byte x)∧o.whole.Data.length≤512:=by
  induction l with
  | nil=>cases e
  | cons a l ih =>
    simp only [ofs] at e
    split at e
    · obtain rfl:=Option.some.inj e;exact h a (by simp)
    · exact ih (λ o ho=>h o (by simp [ho])) e
theorem RI.good {k n:Nat} {Ms:Nat→List Message_} (hk:0<k) (hk2:k≤64) (hsm:∀ i,i<n→∀ m∈Ms i,SM m) (hn:n≤8) {ms:List bus_master} {l:List fragment_open} {got:List (List Message_)} {failed:List Bool} (h:RI k n Ms ms l got failed) {f:Fault_} (hmk:byte f.Mask) (hb:busy ms=true) (hok:oks (arr (least (start ms)) f)=true) :
    ∃ i p g l',i<n∧(stepD (start ms) f).Masters=[(i:Int)]∧(stepD (start ms) f).Failed=[]∧arr (least (start ms)) f=fr i p∧GP p∧PK p∧p.From=10+(i:Int)∧got[i]?=some g ∧
      acc ⟨9,l⟩ p=((one (ofs p.From l) p).1,(one (ofs p.From l) p).2.1,(one (ofs p.From l) p).2.2.1,⟨9,l'⟩)∧((∀ x∈(one (ofs p.From l) p).1.Data,byte x)∧(one (ofs p.From l) p).1.Data.length≤512) ∧
      (¬ ((one (ofs p.From l) p).2.1=true∧(mparse false (one (ofs p.From l) p).1.Data).2=0)→RI k n Ms (stepM (start ms) f) l' got failed) ∧
      ((one (ofs p.From l) p).2.1=true∧(mparse false (one (ofs p.From l) p).1.Data).2=0→RI k n Ms (stepM (start ms) f) l' (got.set i (g++[(mparse false (one (ofs p.From l) p).1.Data).1])) failed):=by
  obtain ⟨cs,hcs⟩:=h.cs
  have hqs:∀ (i:Nat) m,ms[i]?=some m→QS k i (Ms i) m (cs i):=λ i m hm=>by
    have hi:i<n:=by have:=lt_len hm;rw [h.lm] at this;exact this
    exact (hcs i m _ _ hm (List.getElem?_eq_getElem (by rw [h.lg];exact hi)) (List.getElem?_eq_getElem (by rw [h.lf];exact hi))).1
  obtain ⟨i,m,p,hi,hS,hp,p1,p2,p3,p4,p5,hu⟩:=cstep hk hk2 hsm hn h.lm hqs hb
  have hB:BOk (stepM (start ms) f):=stepM_ok (start_ok h.B)
  have hst:stepM (start ms) f=(start ms).set i (hit true m):=by
    unfold stepM;rw [hok];exact stepM_at hS hp hu
  rw [hst] at hB
  obtain ⟨m0,e1,e2⟩:=start_at hS
  obtain ⟨g,hg⟩:∃ g,got[i]?=some g:=⟨_,List.getElem?_eq_getElem (by rw [h.lg];exact hi)⟩
  obtain ⟨b,hbb⟩:∃ b,failed[i]?=some b:=⟨_,List.getElem?_eq_getElem (by rw [h.lf];exact hi)⟩
  obtain ⟨q1,q2⟩:=hcs i m0 g b e1 hg hbb
  have hfrom:=pall_from (List.mem_of_getElem? p1)
  obtain ⟨l',a1,a2,a3,a4⟩:=acc_one p4 h.ku
  have hfb:FB (least (start ms)):=by rw [p2];exact fr_fb p3 (by omega)
  have hsame:=(arr_same hfb hmk hok).1
  have hob:=one_bytes (st:=ofs p.From l) p3 (λ o ho=>h.ob.of ho)
  have hob':OB l':=by
    intro o ho
    obtain ⟨j,hj⟩:=List.getElem?_of_mem ho
    have hso:=ofs_at a2.nd hj rfl
    by_cases e:src o=p.From
    · rw [e,a3] at hso;exact hob.2 o hso
    · rw [a4 _ e] at hso;exact h.ob.of hso
  have hm':hit true m=⟨m.queue.tail,0,true⟩:=by simp [hit]
  have hoth:∀ j:Nat,j≠i→ofs (10+(j:Int)) l'=ofs (10+(j:Int)) l:=λ j hj=>a4 _ (by rw [hfrom];omega)
  have hds:b=false→∃ m t,m∈Ms i∧p=(mg k i m).p t∧t<(mg k i m).N∧_:=λ hbf=>(q2 hbf).step (λ m hm=>(hsm i hi m hm).ok hk hk2 (by omega)) p1
  rw [hst]
  refine ⟨i,p,g,l',hi,?_,?_,by rw [hsame,p2],p3,p4,hfrom,hg,a1,hob.1,λ hnd=>?_,λ hd=>?_⟩
  · exact who_single hS hp hu
  · simp only [stepD,hok]
    exact who_none (λ y _=>by simp [failF])
  · have:=h.set hi (m':=hit true m) (g':=g) (b':=b) (c':=cs i+1) hB a2 hob' (by rw [hm'];exact p5) (λ hbf=>?_) hoth
    · rw [set_self hg,set_self hbb] at this;exact this
    · rw [← hfrom,a3]
      obtain ⟨mm,t,hmm,_,_,hcase⟩:=hds hbf
      rw [← hfrom] at hcase
      rcases hcase with ⟨w1,w2,w3⟩ | ⟨w1,w2,w3⟩
      · exfalso
        apply hnd
        refine ⟨w2,?_⟩
        rw [w1]
        simp only [(hsm i hi mm hmm).parse]
      · exact w3
  · have:=h.set hi (m':=hit true m) (g':=g++[(mparse false (one (ofs p.From l) p).1.Data).1]) (b':=b) (c':=cs i+1) hB a2 hob' (by rw [hm'];exact p5) (λ hbf=>?_) hoth
    · rw [set_self hbb] at this;exact this
    · rw [← hfrom,a3]
      obtain ⟨mm,t,hmm,_,_,hcase⟩:=hds hbf
      rw [← hfrom] at hcase
      rcases hcase with ⟨w1,w2,w3⟩ | ⟨w1,w2,w3⟩
      · rw [w1]
        simp only [(hsm i hi mm hmm).parse]
        exact w3
      · rw [w2] at hd;cases hd.1
end Lift
