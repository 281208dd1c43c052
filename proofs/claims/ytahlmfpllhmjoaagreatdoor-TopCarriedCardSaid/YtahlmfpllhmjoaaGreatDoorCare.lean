import Derived.Test.YtahlmfpllhmjoaaGreatDoorCard
set_option linter.unusedVariables false
set_option linter.unusedSimpArgs false
namespace Lift
open Go
def mg (k i:Nat) (m:Message_):Mg:=⟨10+(i:Int),true,1,k,mbytes m⟩
def pksOf (k i:Nat) (m:Message_):List Packet_:=(List.range (mg k i m).N).map (mg k i m).p
def pall (k i:Nat) (ms:List Message_):List Packet_:=ms.flatMap (pksOf k i)
theorem pall_app (k i:Nat) (a b:List Message_):pall k i (a++b)=pall k i a++pall k i b:=by simp [pall]
theorem pksOf_len (k i:Nat) (m:Message_):(pksOf k i m).length=(mg k i m).N:=by simp [pksOf]
def DS (k i:Nat) (ms:List Message_) (c:Nat) (got:List Message_) (st:Option fragment_open):Prop :=
  ∃ R t,ms=got++R∧c=(pall k i got).length+t∧(t=0∨∃ m R',R=m::R'∧t<(mg k i m).N∧st=some ((mg k i m).o t))
theorem DS.zero (k i:Nat) (ms:List Message_) (st:Option fragment_open):DS k i ms 0 [] st:=⟨ms,0,rfl,rfl,.inl rfl⟩
theorem DS.step {k i:Nat} {ms:List Message_} {c:Nat} {got:List Message_} {st:Option fragment_open} {p:Packet_} (hok:∀ m∈ms,(mg k i m).ok) (h:DS k i ms c got st) (hp:(pall k i ms)[c]?=some p) :
    ∃ m t,m∈ms∧p=(mg k i m).p t∧t<(mg k i m).N ∧
      (((one st p).1=⟨10+(i:Int),true,1,mbytes m⟩∧(one st p).2.1=true∧DS k i ms (c+1) (got++[m]) (one st p).2.2.2)∨((one st p).1=Whole_.z∧(one st p).2.1=false∧DS k i ms (c+1) got (one st p).2.2.2)):=by
  obtain ⟨R,t,rfl,rfl,ht⟩:=h
  rw [pall_app,List.getElem?_append_right (by omega),Nat.add_sub_cancel_left] at hp
  obtain ⟨m,R',rfl⟩:∃ m R',R=m::R':=by
    cases R with
    | nil=>simp [pall] at hp
    | cons m R'=>exact ⟨m,R',rfl⟩
  have hm:m∈got++m::R':=by simp
  have ok:=hok m hm
  have hpos:0<(mg k i m).N:=nsp_pos ok.k1 ok.m1
  have htN:t<(mg k i m).N:=by
    rcases ht with rfl | ⟨m',R2,e,h1,_⟩
    · exact hpos
    · cases e;exact h1
  have hpe:p=(mg k i m).p t:=by
    have e:pall k i (m::R')=pksOf k i m++pall k i R':=rfl
    rw [e,List.getElem?_append_left (by rw [pksOf_len];exact htN)] at hp
    simp only [pksOf,List.getElem?_map,List.getElem?_range htN,Option.map_some,Option.some.injEq] at hp
    exact hp.symm
  have hone:one st p=if t+1=(mg k i m).N then (⟨10+(i:Int),true,1,mbytes m⟩,true,0,none) else (Whole_.z,false,0,some ((mg k i m).o (t+1))):=by
    rw [hpe]
    rcases ht with rfl | ⟨m',R2,e,h1,h2⟩
    · rw [one_first ok]
      by_cases e1:(mg k i m).N=1
      · rw [if_pos e1,if_pos (by omega)];rfl
      · rw [if_neg e1,if_neg (by omega)]
    · cases e
      by_cases h0:t=0
      · subst h0
        rw [one_first ok]
        by_cases e1:(mg k i m).N=1
        · rw [if_pos e1,if_pos (by omega)];rfl
        · rw [if_neg e1,if_neg (by omega)]
      · rw [h2,one_next ok (by omega) h1];rfl
  refine ⟨m,t,hm,hpe,htN,?_⟩
  rw [hone]
  by_cases e1:t+1=(mg k i m).N
  · rw [if_pos e1]
    refine .inl ⟨rfl,rfl,R',0,by simp,?_,.inl rfl⟩
    rw [pall_app,List.length_append]
    have:(pall k i [m]).length=(mg k i m).N:=by simp [pall,pksOf_len]
    omega
  · rw [if_neg e1]
    exact .inr ⟨rfl,rfl,m::R',t+1,rfl,by omega,.inr ⟨m,R',rfl,by omega,rfl⟩⟩
theorem DS.full {k i:Nat} {ms:List Message_} {c:Nat} {got:List Message_} {st:Option fragment_open} (hok:∀ m∈ms,(mg k i m).ok) (h:DS k i ms c got st) (hc:(pall k i ms).length≤c):got=ms:=by
  obtain ⟨R,t,rfl,rfl,ht⟩:=h
  rw [pall_app,List.length_append] at hc
  cases R with
  | nil=>simp
  | cons m R' =>
    have e:(pall k i (m::R')).length=(mg k i m).N+(pall k i R').length:=by simp [pall,pksOf_len]
    have ok:=hok m (by simp)
    have hpos:0<(mg k i m).N:=nsp_pos ok.k1 ok.m1
    rcases ht with rfl | ⟨m',R2,e2,h1,_⟩
    · omega
    · cases e2;omega
end Lift
