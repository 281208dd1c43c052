import Derived.Test.YtahlmfpllhmjoaaGreatDoorHec
set_option linter.unusedVariables false
set_option linter.unusedSimpArgs false
namespace Lift
open Go
theorem mem_swap {α:Type} {l:List α} {i j:Nat} {a b:α} (hi:l[i]?=some a) (hj:l[j]?=some b) (x:α):x∈(l.set i b).set j a↔x∈l:=by
  constructor
  · intro h
    rcases List.mem_or_eq_of_mem_set h with h | rfl
    · rcases List.mem_or_eq_of_mem_set h with h | rfl
      · exact h
      · exact List.mem_of_getElem? hj
    · exact List.mem_of_getElem? hi
  · intro h
    obtain ⟨k,hk⟩:=List.getElem?_of_mem h
    have li:=(List.getElem?_eq_some_iff.1 hi).1
    have lj:=(List.getElem?_eq_some_iff.1 hj).1
    by_cases c1:k=i
    · subst c1
      rw [hi] at hk
      obtain rfl:=Option.some.inj hk
      exact List.mem_of_getElem? (i:=j) (by rw [List.getElem?_set,if_pos rfl,if_pos (by simpa using lj)])
    · by_cases c2:k=j
      · subst c2
        rw [hj] at hk
        obtain rfl:=Option.some.inj hk
        exact List.mem_of_getElem? (i:=i) (by rw [List.getElem?_set,if_neg c1,List.getElem?_set,if_pos rfl,if_pos li])
      · exact List.mem_of_getElem? (i:=k) (by rw [List.getElem?_set,if_neg (Ne.symm c2),List.getElem?_set,if_neg (Ne.symm c1)];exact hk)
theorem cmp8_tot (fuel:Nat) (a b:Int):Tot (cmp_Compare_uint8 fuel a b):=by
  unfold cmp_Compare_uint8
  have e:∀ x:Int,cmp_isNaN_uint8 fuel x=some false:=λ x=>by unfold cmp_isNaN_uint8;rw [letP_eq,bne_self_eq_false]
  exact Ev.to (e a) (Ev.to (e b) (Ev.iteF rfl (Ev.iteF rfl (Ev.dec (λ _=>Tot.ret) (λ _=>Ev.dec (λ _=>Tot.ret) (λ _=>Tot.ret))))))
theorem wless_tot {fuel:Nat} (hf:100<fuel) (a b:Entity_):Tot (entity_within_1 fuel a b):=by
  unfold entity_within_1
  refine Ev.bind (cmp8_tot fuel _ _) (λ y1 _=>Ev.bind (cmp8_tot fuel _ _) (λ y2 _=>Ev.bind (P:=λ _=>True) ?_ (λ _ _=>Tot.ret)))
  unfold cmp_Or_int
  refine Ev.loop (λ (n:Nat) (x:Int)=>∃ i:Nat,x=i∧i+n=2) (λ n x hI self hself=>?_) (n:=2) (by omega) ⟨0,rfl,by omega⟩
  obtain ⟨i,rfl,i2⟩:=hI
  refine Ev.dec (λ hlt=>Ev.idx (by omega) hlt (λ x _ _=>Ev.ite (λ _=>Tot.ret) (λ _=>?_))) (λ _=>Tot.ret)
  have:i<2:=by simp at hlt;omega
  rw [w_inc (by omega)]
  exact hself (n-1) _ (by omega) ⟨i+1,rfl,by omega⟩
theorem einsert_ev {fuel:Nat} (hf:100<fuel) {l:List Entity_} (h5:l.length≤12):Ev (slices_insertionSortCmpFunc_api_Entity_entity_within_1 fuel l 0 (l.length:Int)) (λ y=>y.length=l.length∧∀ x,x∈y↔x∈l):=by
  unfold slices_insertionSortCmpFunc_api_Entity_entity_within_1
  refine Ev.letE (c:=1) (by decide) ?_
  refine Ev.loop (λ (n:Nat) (x:Int×List Entity_)=>x.2.length=l.length∧(∀ v,v∈x.2↔v∈l)∧1≤x.1∧(x.1+n=l.length∨l.length≤x.1)) (λ n x hI self hself=>?_) (n:=l.length-1) (by omega) ⟨rfl,λ _=>Iff.rfl,by simp,by simp only;omega⟩
  obtain ⟨i,d⟩:=x
  obtain ⟨i1,i2,i3,i4⟩:=hI
  simp only at i1 i2 i3 i4 ⊢
  refine Ev.dec (λ hlt=>?_) (λ _=>Ev.ret ⟨i1,i2⟩)
  have hw:IntKind.i64.wrap (i+1)=i+1:=w_i64 (by omega) (by omega)
  refine Ev.loop (λ (n:Nat) (x:Int×List Entity_)=>x.2.length=l.length∧(∀ v,v∈x.2↔v∈l)∧x.1=n∧x.1<l.length) (λ n' x hI2 self2 hself2=>?_) (n:=i.toNat) (by omega) ⟨i1,i2,by simp only;omega,hlt⟩
  obtain ⟨j,e⟩:=x
  obtain ⟨j1,j2,j3,j4⟩:=hI2
  simp only at j1 j2 j3 j4 ⊢
  have hwj:IntKind.i64.wrap (j-1)=j-1:=w_i64 (by omega) (by omega)
  rw [hw,hwj]
  refine Ev.join (λ b=>b=true→1≤j) (λ b hb3=>Ev.ite (λ hbt=>?_) (λ _=>Ev.letP (hself (n-1) _ (by omega) ⟨j1,j2,by simp only;omega,by simp only;omega⟩))) (λ k hk=>Ev.letP (Ev.dec (λ hpos=>Ev.idx (by omega) (by omega) (λ x8 _ m8=>Ev.idx (by omega) (by omega) (λ x9 _ m9=>Ev.bind (wless_tot hf _ _) (λ y1 _=>hk _ (λ _=>by omega))))) (λ _=>hk _ (λ h=>by cases h))))
  have hj:=hb3 hbt
  refine Ev.idx (by omega) (by omega) (λ x2 e2 _=>Ev.idx (by omega) (by omega) (λ x3 e3 _=>?_))
  refine Ev.letP (Ev.idx (by omega) (by simp only [upd,List.length_set];omega) (λ x4 _ _=>Ev.letP (Ev.letP (hself2 (n'-1) _ (by omega) ⟨by simp only [upd,List.length_set];omega,λ v=>?_,by simp only;omega,by simp only;omega⟩))))
  simp only [upd]
  rw [mem_swap e3 e2 v];exact j2 v
theorem elen_tot (fuel:Nat) {n:Nat} (h:n≤6):Tot (bits_Len fuel (IntKind.u64.wrap (n:Int))):=by
  obtain rfl | rfl | rfl | rfl | rfl | rfl | rfl:n=0∨n=1∨n=2∨n=3∨n=4∨n=5∨n=6:=by omega
  all_goals exact ⟨_,rfl,trivial⟩
theorem esort_ev {fuel:Nat} (hf:100<fuel) {l:List Entity_} (h5:l.length≤6):Ev (slices_SortFunc_api_Entity_api_Entity_entity_within_1 fuel l) (λ y=>y.length=l.length∧∀ x,x∈y↔x∈l):=by
  unfold slices_SortFunc_api_Entity_api_Entity_entity_within_1
  refine Ev.bind (elen_tot fuel h5) (λ y2 _=>Ev.bind (P:=λ y=>y.length=l.length∧∀ x,x∈y↔x∈l) ?_ (λ y hy=>Ev.ret hy))
  unfold slices_pdqsortCmpFunc_api_Entity_entity_within_1
  refine Ev.loop (λ (n:Nat) (x:Unit)=>True) (λ n x hI self hself=>?_) (n:=0) (by omega) trivial
  refine Ev.letE (c:=(l.length:Int)) (by rw [w_i64 (by omega) (by omega)];omega) (Ev.decT (by omega) (Ev.bind (einsert_ev hf (by omega)) (λ y hy=>Ev.ret hy)))
def inb (l:List Association_) (s e:Entity_):Bool:=(List.range (l.length+1)).any (λ k=>Entity_.eqb (climb l k s) e)
theorem inb_iff {l:List Association_} {s e:Entity_} {out:List Entity_} (h:Around l s out):inb l s e=true↔(s=e∨e∈out):=by
  rw [← climb_in h]
  simp only [inb,List.any_eq_true,List.mem_range,Entity_.eqb_iff]
  constructor
  · rintro ⟨k,h1,h2⟩;exact ⟨k,by omega,h2⟩
  · rintro ⟨k,h1,h2⟩;exact ⟨k,by omega,h2⟩
theorem within_ev {fuel:Nat} (hf:100<fuel) {l:List Association_} (hl:l.length≤5) (e:Entity_):Ev (entity_within fuel l e) (λ w=>w.length≤6∧∀ s,has w s=inb l s e):=by
  unfold entity_within
  refine Ev.loop (λ (n:Nat) (x:Int×List Entity_)=>∃ i:Nat,x.1=i∧i+n=l.length∧x.2.length≤i+1∧∀ s,s∈x.2↔(s=e∨∃ (a:Nat) (z:Association_),a<i∧l[a]?=some z∧z.Contained=s∧inb l s e=true)) (λ n x hI self hself=>?_) (n:=l.length) (by omega) ⟨0,rfl,by omega,by simp,λ s=>⟨λ h=>.inl (by simpa using h),λ h=>by rcases h with h | ⟨a,z,h,_⟩;(· simpa using h);(· omega)⟩⟩
  obtain ⟨p,out⟩:=x
  obtain ⟨i,i1,i2,i3,i4⟩:=hI
  simp only at i1 i3 i4 ⊢
  subst i1
  refine Ev.dec (λ hlt=>Ev.idx (by omega) hlt (λ x hx hm=>Ev.bind (around_ev hf (by omega) x.Contained) (λ ar ho=>?_))) (λ hge=>?_)
  · simp only [Int.toNat_natCast] at hx
    refine Ev.to (contains_eq hf (by omega) e) ?_
    rw [w_inc (by omega)]
    refine Ev.ite (λ hb=>Ev.app (by simp;omega) (hself (n-1) _ (by omega) ⟨i+1,rfl,by omega,by simp;omega,λ s=>?_⟩)) (λ hb=>hself (n-1) _ (by omega) ⟨i+1,rfl,by omega,by simp only;omega,λ s=>?_⟩)
    · rw [List.mem_append,i4 s]
      constructor
      · rintro ((h | ⟨a,z,h1,h2⟩) | h)
        · exact .inl h
        · exact .inr ⟨a,z,by omega,h2⟩
        · simp only [List.mem_singleton] at h
          exact .inr ⟨i,x,by omega,hx,h.symm,by rw [h];exact (inb_iff ho.1).2 (.inr ((has_iff _ _).1 hb))⟩
      · rintro (h | ⟨a,z,h1,h2,h3,h4⟩)
        · exact .inl (.inl h)
        · by_cases c:a=i
          · subst c
            rw [hx] at h2
            obtain rfl:=Option.some.inj h2
            exact .inr (by simp [h3])
          · exact .inl (.inr ⟨a,z,by omega,h2,h3,h4⟩)
    · rw [i4 s]
      constructor
      · rintro (h | ⟨a,z,h1,h2⟩)
        · exact .inl h
        · exact .inr ⟨a,z,by omega,h2⟩
      · rintro (h | ⟨a,z,h1,h2,h3,h4⟩)
        · exact .inl h
        · by_cases c:a=i
          · subst c
            rw [hx] at h2
            obtain rfl:=Option.some.inj h2
            subst h3
            rcases (inb_iff ho.1).1 h4 with h5 | h5
            · exact .inl h5
            · rw [(has_iff _ _).2 h5] at hb;cases hb
          · exact .inr ⟨a,z,by omega,h2,h3,h4⟩
  · refine Ev.bind (esort_ev hf (by omega)) (λ w hw=>Ev.ret ⟨by omega,λ s=>?_⟩)
    obtain ⟨ar,_,ho,_⟩:=around_ev hf (l:=l) (by omega) s
    apply Bool.eq_iff_iff.2
    rw [has_iff,hw.2 s,i4 s,inb_iff ho]
    constructor
    · rintro (h | ⟨a,z,h1,h2,h3,h4⟩)
      · exact .inl h
      · exact h4
    · rintro (h | h)
      · exact .inl h
      · -- what is around s begins with the container of s
        refine .inr ?_
        obtain ⟨k,k1,_,k3⟩:=ho.1 e h
        have hup:∃ p,up l s=some p:=by
          cases hu:up l s with
          | some p=>exact ⟨p,rfl⟩
          | none=>rw [upn_dead (k:=0) rfl hu k (by omega)] at k3;cases k3
        obtain ⟨p,hp⟩:=hup
        obtain ⟨z,hz,h3,_⟩:=up_mem hp
        obtain ⟨a,ha⟩:=List.getElem?_of_mem hz
        have:=(List.getElem?_eq_some_iff.1 ha).1
        exact ⟨a,z,by omega,ha,h3,.inr h⟩
end Lift
