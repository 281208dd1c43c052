import Derived.Test.YtahlmfpllhmjoaaGreatDoorCarj
set_option linter.unusedVariables false
set_option linter.unusedSimpArgs false
namespace Lift
open Go
def OB (l:List fragment_open):Prop:=∀ o∈l,(∀ x∈o.whole.Data,byte x)∧o.whole.Data.length≤512
structure RI (k n:Nat) (Ms:Nat→List Message_) (ms:List bus_master) (l:List fragment_open) (got:List (List Message_)) (failed:List Bool):Prop where
  B:BOk ms
  lm:ms.length=n
  lg:got.length=n
  lf:failed.length=n
  ku:KU l
  ob:OB l
  per:∀ i,i<n→∃ m c g b,ms[i]?=some m∧got[i]?=some g∧failed[i]?=some b∧QS k i (Ms i) m c∧(b=false→DS k i (Ms i) c g (ofs (10+(i:Int)) l))
theorem RI.set {k n:Nat} {Ms:Nat→List Message_} {ms:List bus_master} {l l':List fragment_open} {got:List (List Message_)} {failed:List Bool} (h:RI k n Ms ms l got failed) {i:Nat} (hi:i<n) {m':bus_master} {g':List Message_} {b':Bool} {c':Nat}
    (hB:BOk ((start ms).set i m')) (hku:KU l') (hob:OB l') (hq:QS k i (Ms i) m' c') (hds:b'=false→DS k i (Ms i) c' g' (ofs (10+(i:Int)) l')) (hoth:∀ j:Nat,j≠i→ofs (10+(j:Int)) l'=ofs (10+(j:Int)) l) :
    RI k n Ms ((start ms).set i m') l' (got.set i g') (failed.set i b'):=by
  refine ⟨hB,by simp [start_len,h.lm],by simp [h.lg],by simp [h.lf],hku,hob,λ j hj=>?_⟩
  by_cases e:i=j
  · subst e
    refine ⟨m',c',g',b',?_,?_,?_,hq,hds⟩
    · rw [List.getElem?_set,if_pos rfl,if_pos (by rw [start_len,h.lm];exact hi)]
    · rw [List.getElem?_set,if_pos rfl,if_pos (by rw [h.lg];exact hi)]
    · rw [List.getElem?_set,if_pos rfl,if_pos (by rw [h.lf];exact hi)]
  · obtain ⟨m,c,g,b,h1,h2,h3,h4,h5⟩:=h.per j hj
    have hs:∃ y,(start ms)[j]?=some y:=⟨_,List.getElem?_eq_getElem (by rw [start_len,h.lm];exact hj)⟩
    obtain ⟨y,hy⟩:=hs
    obtain ⟨m2,e1,e2⟩:=start_at hy
    rw [h1] at e1
    obtain rfl:=Option.some.inj e1
    refine ⟨y,c,g,b,?_,?_,?_,?_,λ hb=>?_⟩
    · rw [List.getElem?_set,if_neg e];exact hy
    · rw [List.getElem?_set,if_neg e];exact h2
    · rw [List.getElem?_set,if_neg e];exact h3
    · unfold QS at h4 ⊢;rw [← e2];exact h4
    · rw [hoth j (λ e3=>e e3.symm)];exact h5 hb
theorem one_bytes {st:Option fragment_open} {p:Packet_} (hp:GP p) (hs:∀ o,st=some o→(∀ x∈o.whole.Data,byte x)∧o.whole.Data.length≤512):((∀ x∈(one st p).1.Data,byte x)∧(one st p).1.Data.length≤512)∧∀ o,(one st p).2.2.2=some o→(∀ x∈o.whole.Data,byte x)∧o.whole.Data.length≤512:=by
  have hv:=validB_num hp.v
  have hz:(∀ x∈Whole_.z.Data,byte x)∧Whole_.z.Data.length≤512:=⟨by simp [Whole_.z],by simp [Whole_.z]⟩
  have hw:(∀ x∈(wof p).Data,byte x)∧(wof p).Data.length≤512:=⟨hp.b,by simp only [wof];omega⟩
  unfold one
  by_cases hS:p.Start=true
  · rw [if_pos hS]
    by_cases hE:p.End=true
    · rw [if_pos hE];exact ⟨hw,λ o ho=>by cases ho⟩
    · rw [if_neg hE];exact ⟨hz,λ o ho=>by obtain rfl:=Option.some.inj ho;exact hw⟩
  · rw [if_neg hS]
    cases st with
    | none=>exact ⟨hz,λ o ho=>by cases ho⟩
    | some o =>
      obtain ⟨s1,s2⟩:=hs o rfl
      simp only
      by_cases hb:bad o p=true
      · rw [if_pos hb];exact ⟨hz,λ o ho=>by cases ho⟩
      · rw [if_neg hb]
        by_cases h5:512<o.whole.Data.length+p.Data.length
        · rw [if_pos h5];exact ⟨hz,λ o ho=>by cases ho⟩
        · rw [if_neg h5]
          have hg:(∀ x∈(grown o p).whole.Data,byte x)∧(grown o p).whole.Data.length≤512:=by
            refine ⟨λ x hx=>?_,by simp only [grown,List.length_append];omega⟩
            rcases List.mem_append.1 hx with hx | hx
            · exact s1 x hx
            · exact hp.b x hx
          by_cases hE:p.End=true
          · rw [if_pos hE];exact ⟨hg,λ o ho=>by cases ho⟩
          · rw [if_neg hE];exact ⟨hz,λ o' ho=>by obtain rfl:=Option.some.inj ho;exact hg⟩
theorem pot_ok:∀ {ms:List bus_master},(∀ m∈ms,MOk m)→pot ms≤64*(ms.length:Int)
  | [],_=>by simp [pot]
  | m::ms,h=>by
    have:=pot_ok (ms:=ms) (λ x hx=>h x (List.mem_cons_of_mem _ hx))
    have hm:=h m (by simp)
    have h1:=hm.len
    have h2:=hm.lo
    simp only [pot,List.length_cons]
    split<;>omega
theorem pot_down {ms:List bus_master} (hB:BOk ms) {f:Fault_} (hb:busy ms=true):pot (stepM (start ms) f)+1≤pot ms:=by
  have hf:(start ms).filter ready≠[]:=λ e=>by rw [busy_start.1 e] at hb;cases hb
  have hs:=start_q ms
  have e:pot (start ms)=pot ms:=pot_congr hs.1 hs.2
  have:=(pot_step (b:=least (start ms)) (ok:=oks (arr (least (start ms)) f)) (ms:=start ms) (start_ok hB).ok).2 (pick_ex hf)
  unfold stepM
  omega
end Lift
