import Derived.Test.YtahlmfpllhmjoaaGreatDoorPlain
set_option linter.unusedVariables false
set_option linter.unusedSimpArgs false
namespace Lift
open Go
theorem Entity_.eqb_iff (a b:Entity_):Entity_.eqb a b=true↔a=b:=by
  obtain ⟨a1,a2⟩:=a
  obtain ⟨b1,b2⟩:=b
  simp [Entity_.eqb,eqI]
theorem Entity_.eqb_self (a:Entity_):Entity_.eqb a a=true:=(Entity_.eqb_iff a a).2 rfl
theorem nodup_len {α:Type}:∀ {l m:List α},l.Nodup→(∀ x∈l,x∈m)→l.length≤m.length
  | [],m,_,_=>by simp
  | x::l,m,hn,hs=>by
    obtain ⟨s,t,rfl⟩:=List.append_of_mem (hs x (by simp))
    have hn':=List.nodup_cons.1 hn
    have ih:=nodup_len (l:=l) (m:=s++t) hn'.2 (λ y hy=>by
      have:=hs y (by simp [hy])
      simp only [List.mem_append,List.mem_cons] at this ⊢
      rcases this with h | h | h
      · exact .inl h
      · subst h;exact absurd hy hn'.1
      · exact .inr h)
    simp only [List.length_cons,List.length_append] at ih ⊢
    omega
def up:List Association_→Entity_→Option Entity_
  | [],_=>none
  | x::l,e=>if Entity_.eqb x.Contained e=true then some x.Container else up l e
def upn (l:List Association_):Nat→Entity_→Option Entity_
  | 0,e=>some e
  | k+1,e=>(upn l k e).bind (up l)
theorem up_mem:∀ {l:List Association_} {e p:Entity_},up l e=some p→∃ x∈l,x.Contained=e∧x.Container=p
  | x::l,e,p,h=>by
    simp only [up] at h
    split at h
    · rename_i c
      exact ⟨x,by simp,(Entity_.eqb_iff _ _).1 c,by simpa using h⟩
    · obtain ⟨y,hy,h1⟩:=up_mem h
      exact ⟨y,by simp [hy],h1⟩
structure AR_ (l:List Association_) (e0:Entity_) (out:List Entity_) (e:Entity_):Prop where
  at_:∀ j,j<out.length→out[j]?=upn l (j+1) e0
  cur:upn l out.length e0=some e
  nd:out.Nodup
theorem AR_.start (l:List Association_) (e0:Entity_):AR_ l e0 [] e0:=⟨λ j hj=>by simp at hj,rfl,List.nodup_nil⟩
theorem AR_.sub {l:List Association_} {e0 e:Entity_} {out:List Entity_} (h:AR_ l e0 out e) {y:Entity_} (hy:y∈out):∃ j,1≤j∧j≤out.length∧upn l j e0=some y:=by
  obtain ⟨j,hj⟩:=List.getElem?_of_mem hy
  have hl:j<out.length:=(List.getElem?_eq_some_iff.1 hj).1
  refine ⟨j+1,by omega,by omega,?_⟩
  rw [← h.at_ j hl,hj]
theorem AR_.len {l:List Association_} {e0 e:Entity_} {out:List Entity_} (h:AR_ l e0 out e):out.length≤l.length:=by
  have:=nodup_len (l:=out) (m:=l.map (·.Container)) h.nd (λ y hy=>by
    obtain ⟨j,h1,h2,h3⟩:=h.sub hy
    obtain ⟨j,rfl⟩:∃ n,j=n+1:=⟨j-1,by omega⟩
    simp only [upn] at h3
    cases hu:upn l j e0 with
    | none=>rw [hu] at h3;cases h3
    | some z =>
      rw [hu] at h3
      obtain ⟨x,hx,_,h4⟩:=up_mem h3
      exact List.mem_map.2 ⟨x,hx,h4⟩)
  simpa using this
theorem AR_.step {l:List Association_} {e0 e p:Entity_} {out:List Entity_} (h:AR_ l e0 out e) (hp:up l e=some p) (hn:p∉out):AR_ l e0 (out++[p]) p:=by
  have hc:upn l (out.length+1) e0=some p:=by simp only [upn,h.cur];exact hp
  refine ⟨λ j hj=>?_,by simpa using hc,?_⟩
  · simp only [List.length_append,List.length_cons,List.length_nil] at hj
    by_cases c:j<out.length
    · rw [List.getElem?_append_left c];exact h.at_ j c
    · have:j=out.length:=by omega
      subst this
      rw [List.getElem?_append_right (Nat.le_refl _),hc];simp
  · refine List.nodup_append.2 ⟨h.nd,by simp,λ a ha b hb=>?_⟩
    simp only [List.mem_singleton] at hb
    subst hb
    exact λ e=>hn (e ▸ ha)
def Around (l:List Association_) (e0:Entity_) (out:List Entity_):Prop:=(∀ y∈out,∃ j,1≤j∧j≤l.length∧upn l j e0=some y)∧∀ j y,1≤j→upn l j e0=some y→y∈out
theorem AR_.done {l:List Association_} {e0 e:Entity_} {out:List Entity_} (h:AR_ l e0 out e) (hd:up l e=none∨∃ p,up l e=some p∧p∈out):Around l e0 out:=by
  have hlen:=h.len
  refine ⟨λ y hy=>?_,?_⟩
  · obtain ⟨j,h1,h2,h3⟩:=h.sub hy
    exact ⟨j,h1,by omega,h3⟩
  · have hin:∀ j y,1≤j→j≤out.length→upn l j e0=some y→y∈out:=by
      intro j y h1 h2 h3
      have:=h.at_ (j-1) (by omega)
      rw [show j-1+1=j by omega,h3] at this
      exact List.mem_of_getElem? this
    intro j
    induction j with
    | zero=>intro y h1;omega
    | succ j ih =>
      intro y _ hy
      by_cases c:j+1≤out.length
      · exact hin _ _ (by omega) c hy
      simp only [upn] at hy
      cases hu:upn l j e0 with
      | none=>rw [hu] at hy;cases hy
      | some z =>
        rw [hu] at hy
        have hy:up l z=some y:=hy
        by_cases c2:j=out.length
        · subst c2
          rw [h.cur] at hu
          obtain rfl:=Option.some.inj hu
          rcases hd with hd | ⟨p,hd,hp⟩
          · rw [hd] at hy;cases hy
          · rw [hd] at hy;obtain rfl:=Option.some.inj hy;exact hp
        · -- z lies in out: the next of it as well
          have hz:=ih z (by omega) hu
          obtain ⟨i,i1,i2,i3⟩:=h.sub hz
          by_cases c3:i=out.length
          · subst c3
            rw [h.cur] at i3
            obtain rfl:=Option.some.inj i3
            rcases hd with hd | ⟨p,hd,hp⟩
            · rw [hd] at hy;cases hy
            · rw [hd] at hy;obtain rfl:=Option.some.inj hy;exact hp
          · exact hin (i+1) y (by omega) (by omega) (by simp only [upn,i3];exact hy)
def climb (l:List Association_):Nat→Entity_→Entity_
  | 0,e=>e
  | k+1,e=>(up l (climb l k e)).getD (climb l k e)
theorem climb_upn {l:List Association_} {e0:Entity_}:∀ k,upn l k e0=some (climb l k e0)∨∃ j,j<k∧upn l j e0=some (climb l k e0)∧up l (climb l k e0)=none
  | 0=>.inl rfl
  | k+1=>by
    rcases climb_upn (l:=l) (e0:=e0) k with h | ⟨j,h1,h2,h3⟩
    · cases hu:up l (climb l k e0) with
      | none=>exact .inr ⟨k,by omega,by simp only [climb,hu];exact h,by simp only [climb,hu];exact hu⟩
      | some p=>exact .inl (by simp only [upn,h,climb,hu];exact hu)
    · exact .inr ⟨j,by omega,by simp only [climb,h3];exact h2,by simp only [climb,h3];exact h3⟩
theorem climb_in {l:List Association_} {e0 e:Entity_} {out:List Entity_} (h:Around l e0 out):(∃ k,k≤l.length∧climb l k e0=e)↔(e0=e∨e∈out):=by
  constructor
  · rintro ⟨k,hk,rfl⟩
    have:∃ j,upn l j e0=some (climb l k e0):=by
      rcases climb_upn (l:=l) (e0:=e0) k with h | ⟨j,_,h2,_⟩
      · exact ⟨k,h⟩
      · exact ⟨j,h2⟩
    obtain ⟨j,hj⟩:=this
    cases j with
    | zero=>exact .inl (by simpa [upn] using hj)
    | succ j=>exact .inr (h.2 _ _ (by omega) hj)
  · rintro (rfl | he)
    · exact ⟨0,by omega,rfl⟩
    · obtain ⟨j,j1,j2,j3⟩:=h.1 e he
      refine ⟨j,j2,?_⟩
      have:∀ k z,upn l k e0=some z→climb l k e0=z:=by
        intro k
        induction k with
        | zero=>intro z hz;simpa [upn,climb] using hz
        | succ k ih =>
          intro z hz
          simp only [upn] at hz
          cases hu:upn l k e0 with
          | none=>rw [hu] at hz;cases hz
          | some y =>
            rw [hu] at hz
            have hz:up l y=some z:=hz
            simp only [climb,ih y hu,hz];rfl
      exact this j e j3
end Lift
