import Derived.Test.YtahlmfpllhmjoaaGreatDoorLiftI
import Derived.Orders
set_option linter.unusedVariables false
set_option linter.unusedSimpArgs false
namespace Lift
open Go
theorem Sat.mem {B:Nat} {S:Blks} {w:World}:∀ {Γ:List (Bool×Atom)},Sat B S w Γ↔∀ x∈Γ,x.2.p (fl x.1 B S) w
  | []=>by simp [Sat]
  | (f,a)::Γ=>by simp [Sat,Sat.mem (Γ:=Γ)]
theorem OSat.swap {B:Nat} {S:Blks} {w:World} {x y:Bool×HAtom} {Ω:List (Bool×HAtom)} {G:Blks} (h:OSat B S w (x::y::Ω) G):OSat B S w (y::x::Ω) G:=by
  obtain ⟨f,a⟩:=x
  obtain ⟨f',a'⟩:=y
  obtain ⟨G1,G2,h1,h2,h3,h4,K1,K2,k1,k2,k3,k4,k5⟩:=h
  refine ⟨K1,λ b=>G1 b∨K2 b,λ b=>?_,λ b hb hk=>?_,k3,k4,G1,K2,λ _=>Iff.rfl,λ b hb hk=>?_,h3,h4,k5⟩
  · rw [h1,k1];constructor<;>intro h<;>rcases h with h | h | h<;>simp_all
  · rcases hk with hk | hk
    · exact h2 b hk ((k1 b).2 (.inl hb))
    · exact k2 b hb hk
  · exact h2 b hb ((k1 b).2 (.inr hk))
theorem OSat.perm {B : Nat} {S : Blks} {w : World} {Ω Ω' : List (Bool × HAtom)} (h : List.Perm Ω Ω') : ∀ {G : Blks}, OSat B S w Ω G → OSat B S w Ω' G := by
  induction h with
  | nil=>exact λ h=>h
  | cons x _ ih=>rintro G ⟨G1,G2,h1,h2,h3,h4,h5⟩;exact ⟨G1,G2,h1,h2,h3,h4,ih h5⟩
  | swap x y l=>exact λ h=>OSat.swap h
  | trans _ _ ih1 ih2=>exact λ h=>ih2 (ih1 h)
theorem St.conv {e : En} {w : World} {Γ Γ' : List (Bool × Atom)} {Ω Ω' : List (Bool × HAtom)} (h : St e w Γ Ω) (hΓ : ∀ x ∈ Γ', x ∈ Γ) (hΩ : List.Perm Ω Ω') : St e w Γ' Ω' := by
  obtain ⟨S,G,I,hs,ho⟩:=h
  exact ⟨S,G,I,Sat.mem.2 (λ x hx=>Sat.mem.1 hs x (hΓ x hx)),ho.perm hΩ⟩
structure Sp where
  dst:Option Nat
  val:Option Value
  fact:Value→List (Bool×Atom)
  own:List Value→Value→List (Bool×HAtom)
  cons:List Nat:=[]
  reads:List (Nat×List Nat):=[]
  same:Option Nat:=none
abbrev Sp.k (d:Nat) (v:Value):Sp:=⟨some d,some v,λ _=>[],λ _ _=>[],[],[],none⟩
abbrev Sp.kr (d:Nat) (v:Value) (l:List Nat):Sp:=⟨some d,some v,λ _=>[],λ _ _=>[],[],l.map λ t=>(t,[]),none⟩
abbrev Sp.f (d:Nat) (g:Value→List (Bool×Atom)):Sp:=⟨some d,none,g,λ _ _=>[],[],[],none⟩
abbrev Sp.fr (d:Nat) (g:Value→List (Bool×Atom)) (l:List Nat):Sp:=⟨some d,none,g,λ _ _=>[],[],l.map λ t=>(t,[]),none⟩
def Sp.cur (sp:Sp) (v:Value):Value:=match sp.val with | some u=>u | none=>v
def Sp.slot (sp:Sp) (v:Value):List (Nat×Value):=match sp.dst with | some d=>[(d,sp.cur v)] | none=>[]
def outL:List Sp→List Value→List (Nat×Value)
  | sp::r,v::vs=>sp.slot v++outL r vs
  | _,_=>[]
def factL:List Sp→List Value→List (Bool×Atom)
  | sp::r,v::vs=>sp.fact (sp.cur v)++factL r vs
  | _,_=>[]
abbrev Done:=List (Nat×Value)
def dF (sps:List Sp):Done→List (Bool×Atom)
  | []=>[]
  | (i,v)::r=>(match sps[i]? with | some sp=>sp.fact (sp.cur v) | none=>[])++dF sps r
def tok (Ωi:List (List (Bool×HAtom))) (sps:List Sp) (deps:List (List Nat)) (vals:Nat→Value) (t:Nat):List (Bool×HAtom) :=
  bif Nat.blt t Ωi.length then (match Ωi[t]? with | some l=>l | none=>[]) else (match sps[t-Ωi.length]?,deps[t-Ωi.length]? with | some sp,some ds=>sp.own (ds.map vals) (sp.cur (vals (t-Ωi.length))) | _,_=>[])
def toks (Ωi:List (List (Bool×HAtom))) (sps:List Sp) (deps:List (List Nat)) (vals:Nat→Value):List Nat→List (Bool×HAtom)
  | []=>[]
  | t::r=>tok Ωi sps deps vals t++toks Ωi sps deps vals r
theorem Qtc (Ωi:List (List (Bool×HAtom))) (sps:List Sp) (deps:List (List Nat)) (vals:Nat→Value) (l:List Nat):toks Ωi sps deps vals l=l.flatMap (tok Ωi sps deps vals):=by
  induction l with
  | nil=>rfl
  | cons t r ih=>simp only [toks,List.flatMap_cons,ih]
def rd (sp:Sp):List Nat:=sp.reads.map (λ p=>p.1)
def seeL (sps:List Sp) (vals:Nat→Value):List Nat→List (Nat×Value)
  | []=>[]
  | i::r=>(match sps[i]? with | some sp=>sp.slot (vals i) | none=>[])++seeL sps vals r
def seeF (sps:List Sp) (vals:Nat→Value):List Nat→List (Bool×Atom)
  | []=>[]
  | i::r=>(match sps[i]? with | some sp=>sp.fact (sp.cur (vals i)) | none=>[])++seeF sps vals r
def bl (o:Oper):List Edge:=o.after.toList.filter (λ x=>Region.binds .any x)
theorem mem_bl {o:Oper} {x:Edge} (h:x∈bl o):x∈o.after∧Region.binds .any x=true:=by
  have:=List.mem_filter.1 h;exact ⟨by simpa using this.1,this.2⟩
def edge (ops:Array Oper) (j i:Nat):Bool:=match ops[j]? with | some o=>(bl o).any (λ x=>Nat.beq x.on i) | none=>false
def chain (ops:Array Oper):List Nat→Nat→Bool
  | [],_=>false
  | [a],i=>Nat.beq a i
  | a::b::r,i=>edge ops a b&&chain ops (b::r) i
def anc (ops:Array Oper):Nat→Nat→Nat→Bool
  | 0,_,_=>false
  | n+1,i,j=>match ops[i]? with | some o=>(bl o).any (λ x=>Nat.beq x.on j||(Nat.blt j x.on&&anc ops n x.on j)) | none=>false
def inL (l:List Nat) (t:Nat):Bool:=l.any (λ x=>Nat.beq x t)
def ndup:List Nat→Bool
  | []=>true
  | x::r=>!inL r x&&ndup r
def memOk (ops:Array Oper) (sps:List Sp) (m:Nat) (sp:Sp) (i:Nat) (o:Oper):Bool :=
  ndup (sp.cons++rd sp)&&(sp.cons++rd sp).all (λ t=>Nat.blt t m||(bl o).any (λ x=>Nat.beq x.on (t-m))) &&
  sp.cons.all (λ t=>(List.range sps.length).all (λ c=>Nat.beq c i||(match sps[c]? with | some s=>!inL s.cons t | none=>true))) &&
  sp.reads.all (λ p=>(List.range sps.length).all (λ c=>match sps[c]? with | some s=>!inL s.cons p.1||(chain ops p.2 i&&p.2.head?==some c) | none=>true))
def drawOk (ops:Array Oper) (L:List (Nat×Value)) (sps:List Sp) (deps:List (List Nat)) (m:Nat):Bool :=
  (List.range ops.size).all (λ i=>match ops[i]? with
    | none=>false
    | some o=>(bl o).all (λ x=>Nat.blt x.on i) &&
      (if i<sps.length then
        (match sps[i]? with
         | none=>false
         | some sp=>(o.dst==sp.dst)&&(match sp.dst with | none=>true | some d=>(lk L d).isNone&&((List.range i).all λ j=>match sps[j]? with | some s=>(match s.dst with | some d'=>!(Nat.beq d' d) | none=>true) | none=>false)) &&
            memOk ops sps m sp i o) &&
        (match deps[i]? with
         | none=>false
         | some ds=>(ds.all λ j=>(bl o).any (λ x=>Nat.beq x.on j))&&(match sps[i]? with | some sp=>(match sp.same with | some j=>ds.any (λ x=>Nat.beq x j) | none=>true) | none=>false))
       else (List.range i).all λ j=>(bl o).any (λ x=>Nat.beq x.on j||(Nat.ble sps.length x.on&&Nat.blt j x.on))||(Nat.blt j sps.length&&anc ops (i+1) i j)))
def finOk (sps:List Sp) (m:Nat) (fin:List Nat):Bool :=
  ndup fin&&fin.all (λ t=>Nat.blt t (m+sps.length))&&(List.range (m+sps.length)).all (λ t=>inL fin t==!((List.range sps.length).any (λ c=>match sps[c]? with | some s=>inL s.cons t | none=>false)))
theorem Qbt {l:List Nat} {t:Nat}:inL l t=true↔t∈l:=by
  unfold inL
  rw [List.any_eq_true]
  constructor
  · rintro ⟨x,hx,hb⟩;rw [← Nat.eq_of_beq_eq_true hb];exact hx
  · intro h;exact ⟨t,h,by simp⟩
theorem Qoy:∀ {l:List Nat},ndup l=true→l.Nodup
  | [],_=>List.nodup_nil
  | x::r,h=>by
    simp only [ndup,Bool.and_eq_true,Bool.not_eq_true'] at h
    refine List.nodup_cons.2 ⟨λ hm=>?_,Qoy h.2⟩
    rw [Qbt.2 hm] at h;cases h.1
section
variable {C:Cx} {k:List Item} {L:List (Nat×Value)} {w:World} {e:En} {Γ:List (Bool×Atom)}
def Ob (C:Cx) (e:En) (ops:Array Oper) (L:List (Nat×Value)) (Γ:List (Bool×Atom)) (Ωs:List (Bool×HAtom)) (Ωi:List (List (Bool×HAtom))) (sps:List Sp) (deps:List (List Nat)) (i:Nat) (sp:Sp) (ds:List Nat) (o:Oper):Prop :=
  ∀ (vals:Nat→Value) (w:World) (Γx:List (Bool×Atom)) (Ωx:List (Bool×HAtom)),
    St e w (seeF sps vals ds++(Γ++Γx)) (toks Ωi sps deps vals sp.cons++(toks Ωi sps deps vals (rd sp)++(Ωs++Ωx))) →
    OpS C ops o (seeL sps vals ds++L) w (λ L' w'=>∃ v,(match sp.dst with | some d=>lk L' d=some (sp.cur v) | none=>True)∧(match sp.same with | some j=>v=vals j | none=>True) ∧
      St e w' (sp.fact (sp.cur v)++(seeF sps vals ds++(Γ++Γx))) (sp.own (ds.map vals) (sp.cur v)++(toks Ωi sps deps vals (rd sp)++(Ωs++Ωx))))
inductive AllOb (C:Cx) (e:En) (ops:Array Oper) (L:List (Nat×Value)) (Γ:List (Bool×Atom)) (Ωs:List (Bool×HAtom)) (Ωi:List (List (Bool×HAtom))) (sps0:List Sp) (deps0:List (List Nat)):Nat→List Sp→List (List Nat)→List Oper→Prop
  | nil {i:Nat} {l:List Oper}:AllOb C e ops L Γ Ωs Ωi sps0 deps0 i [] [] l
  | cons {i:Nat} {sp:Sp} {ds:List Nat} {o:Oper} {sps:List Sp} {deps:List (List Nat)} {l:List Oper} (h:Ob C e ops L Γ Ωs Ωi sps0 deps0 i sp ds o) (K:AllOb C e ops L Γ Ωs Ωi sps0 deps0 (i+1) sps deps l) :
      AllOb C e ops L Γ Ωs Ωi sps0 deps0 i (sp::sps) (ds::deps) (o::l)
theorem AllOb.at {ops:Array Oper} {Ωs:List (Bool×HAtom)} {Ωi:List (List (Bool×HAtom))} {sps0:List Sp} {deps0:List (List Nat)} {i:Nat} {sps:List Sp} {deps:List (List Nat)} {l:List Oper} (h:AllOb C e ops L Γ Ωs Ωi sps0 deps0 i sps deps l) :
    ∀ {j:Nat} {sp:Sp} {ds:List Nat} {o:Oper},sps[j]?=some sp→deps[j]?=some ds→l[j]?=some o→Ob C e ops L Γ Ωs Ωi sps0 deps0 (i+j) sp ds o:=by
  induction h with
  | nil=>intro j sp ds o h;simp at h
  | @cons i sp ds o sps deps l h _ ih =>
    intro j sp' ds' o' h1 h2 h3
    cases j with
    | zero=>simp at h1 h2 h3;subst h1 h2 h3;exact h
    | succ j=>have:=ih (j:=j) (by simpa using h1) (by simpa using h2) (by simpa using h3);rwa [Nat.add_assoc,Nat.add_comm 1 j] at this
theorem Qre {sps:List Sp} {vals:Nat→Value}:∀ {dn:Done} {ds:List Nat},(∀ j∈ds,(j,vals j)∈dn)→∀ x∈seeF sps vals ds,x∈dF sps dn
  | dn,[],_,x,hx=>by simp [seeF] at hx
  | dn,j::ds,h,x,hx=>by
    simp only [seeF,List.mem_append] at hx
    rcases hx with hx | hx
    · have hj:=h j (by simp)
      clear h
      induction dn with
      | nil=>cases hj
      | cons p dn ih =>
        obtain ⟨i,v⟩:=p
        simp only [dF,List.mem_append]
        rcases List.mem_cons.1 hj with hj | hj
        · cases hj;exact .inl hx
        · exact .inr (ih hj)
    · exact Qre (λ j hj=>h j (by simp [hj])) x hx
def doneB (dn:Done) (j:Nat):Bool:=dn.any (λ p=>Nat.beq p.1 j)
def valOf (dn:Done) (j:Nat):Value:=match dn with | []=>undef | (i,v)::r=>bif Nat.beq i j then v else valOf r j
theorem Qfx:∀ {dn:Done} {j:Nat},doneB dn j=true→(j,valOf dn j)∈dn
  | [],j,h=>by simp [doneB] at h
  | (i,v)::r,j,h=>by
    by_cases e:i=j
    · subst e;simp [valOf]
    · have hb:=Qnp e
      have h2:doneB r j=true:=by simp [doneB,hb] at h ⊢;exact h
      simp only [valOf,hb,cond_false]
      exact List.mem_cons_of_mem _ (Qfx h2)
theorem Qhe {dn:Done} {i j:Nat} {v:Value}:doneB ((i,v)::dn) j=(Nat.beq i j||doneB dn j):=by simp [doneB]
theorem Qpk {sps:List Sp} {vals:Nat→Value} {t:Nat} {v:Value}:∀ {ds:List Nat},lk (seeL sps vals ds++L) t=some v→(∃ j∈ds,∃ sp,sps[j]?=some sp∧sp.dst=some t∧v=sp.cur (vals j))∨lk L t=some v
  | [],h=>.inr (by simpa [seeL] using h)
  | j::ds,h=>by
    simp only [seeL] at h
    cases hs:sps[j]? with
    | none =>
      rw [hs] at h
      rcases Qpk (ds:=ds) (by simpa using h) with ⟨i,hi,r⟩ | r
      · exact .inl ⟨i,by simp [hi],r⟩
      · exact .inr r
    | some sp =>
      rw [hs] at h
      simp only [Sp.slot] at h
      cases hd:sp.dst with
      | none =>
        rw [hd] at h
        rcases Qpk (ds:=ds) (by simpa using h) with ⟨i,hi,r⟩ | r
        · exact .inl ⟨i,by simp [hi],r⟩
        · exact .inr r
      | some d =>
        rw [hd] at h
        simp only [List.cons_append,List.nil_append,lk] at h
        by_cases e:d=t
        · subst e
          have:Nat.beq d d=true:=by simp
          rw [this] at h
          simp at h
          exact .inl ⟨j,by simp,sp,hs,hd,h.symm⟩
        · rw [Qnp e] at h
          rcases Qpk (ds:=ds) (by simpa using h) with ⟨i,hi,r⟩ | r
          · exact .inl ⟨i,by simp [hi],r⟩
          · exact .inr r
def avail (m:Nat) (sps:List Sp) (dn:Done) (t:Nat):Prop:=(t<m∨doneB dn (t-m)=true)∧∀ c v s,(c,v)∈dn→sps[c]?=some s→t∉s.cons
structure J (C:Cx) (e:En) (ops:Array Oper) (L Lo:List (Nat×Value)) (Γ:List (Bool×Atom)) (Ωs:List (Bool×HAtom)) (Ωi:List (List (Bool×HAtom))) (sps:List Sp) (deps:List (List Nat)) (dn:Done) (a:Act) (w:World):Prop where
  size:a.tmps.size=C.fn.ntmps
  defers:a.defers=dfl C.df
  old:∀ t v,lk L t=some v→a.tmps[t]?=some v
  old2:∀ t v,lk Lo t=some v→(∀ j u sp,(j,u)∈dn→sps[j]?=some sp→sp.dst≠some t)→a.tmps[t]?=some v
  new:∀ j v sp d,(j,v)∈dn→sps[j]?=some sp→sp.dst=some d→a.tmps[d]?=some (sp.cur v)
  lt:∀ j v,(j,v)∈dn→j<sps.length
  nd:(dn.map (·.1)).Nodup
  wait:∀ (j:Nat) (v:Value) (oj:Oper) (x:Edge),(j,v)∈dn→ops[j]?=some oj→x∈bl oj→doneB dn x.on=true
  sm:∀ (i:Nat) (v:Value) (sp:Sp) (j:Nat),(i,v)∈dn→sps[i]?=some sp→sp.same=some j→(j,v)∈dn
  st:∃ av:List Nat,av.Nodup∧(∀ t,t∈av↔avail Ωi.length sps dn t)∧St e w (dF sps dn++Γ) (toks Ωi sps deps (valOf dn) av++Ωs)
structure Look (ops:Array Oper) (L:List (Nat×Value)) (sps:List Sp) (deps:List (List Nat)) (m:Nat):Prop where
  back:∀ (i:Nat) (o:Oper) (x:Edge),ops[i]?=some o→x∈bl o→x.on<i
  le:sps.length≤ops.size
  dst:∀ (i:Nat) (o:Oper) (sp:Sp),ops[i]?=some o→sps[i]?=some sp→o.dst=sp.dst∧∀ d,sp.dst=some d→lk L d=none
  uniq:∀ (i j:Nat) (sp s:Sp) (d:Nat),sps[i]?=some sp→sps[j]?=some s→j<i→sp.dst=some d→s.dst≠some d
  mem:∀ (i:Nat) (o:Oper) (sp:Sp),ops[i]?=some o→sps[i]?=some sp→memOk ops sps m sp i o=true
  dep:∀ (i:Nat) (o:Oper),ops[i]?=some o→i<sps.length→∃ ds,deps[i]?=some ds∧(∀ j∈ds,∃ x∈bl o,x.on=j)∧∀ sp j,sps[i]?=some sp→sp.same=some j→j∈ds
  tail:∀ (i:Nat) (o:Oper) (j:Nat),ops[i]?=some o→sps.length≤i→j<i→(∃ x∈bl o,x.on=j∨(sps.length≤x.on∧j<x.on))∨(j<sps.length∧∃ n,anc ops n i j=true)
theorem Look.of {ops:Array Oper} {sps:List Sp} {deps:List (List Nat)} (hle:Nat.ble sps.length ops.size=true) {m:Nat} (h:drawOk ops L sps deps m=true):Look ops L sps deps m:=by
  have hle':sps.length≤ops.size:=by simpa using hle
  simp only [drawOk,Array.all_toList,Array.any_toList,List.all_eq_true,List.mem_range] at h
  have get:∀ {i:Nat} {o:Oper},ops[i]?=some o→i<ops.size:=λ hi=>(Array.getElem?_eq_some_iff.1 hi).1
  have on:∀ {o:Oper} {j:Nat},(bl o).any (λ x=>Nat.beq x.on j)=true→∃ x∈bl o,x.on=j:=by
    intro o j h
    obtain ⟨x,hx,hb⟩:=List.any_eq_true.1 h
    exact ⟨x,hx,Nat.eq_of_beq_eq_true hb⟩
  refine ⟨λ i o x hi hx=>?_,hle',λ i o sp hi hs=>?_,λ i j sp s d hi hj hji hd=>?_,λ i o sp hi hs=>?_,λ i o hi hlt=>?_,λ i o j hi hge hji=>?_⟩
  · have:=h i (get hi)
    rw [hi] at this
    simp only [Bool.and_eq_true] at this
    have h1:=List.all_eq_true.1 this.1 x hx
    simpa [Nat.blt_eq] using h1
  · have hlt:i<sps.length:=(List.getElem?_eq_some_iff.1 hs).1
    have:=h i (get hi)
    rw [hi] at this
    simp only [hlt,if_true,hs,Bool.and_eq_true] at this
    obtain ⟨_,⟨⟨⟨h1,h2⟩,_⟩,_⟩⟩:=this
    refine ⟨by simpa using h1,λ d hd=>?_⟩
    rw [hd] at h2
    simp only [Bool.and_eq_true] at h2
    simpa using h2.1
  · have hlt:i<sps.length:=(List.getElem?_eq_some_iff.1 hi).1
    have:=h i (by omega)
    obtain ⟨o, ho⟩ : ∃ o, ops[i]? = some o := ⟨ops[i]'(by omega), by simp⟩
    rw [ho] at this
    simp only [hlt,if_true,hi,Bool.and_eq_true] at this
    obtain ⟨_,⟨⟨⟨_,h3⟩,_⟩,_⟩⟩:=this
    rw [hd] at h3
    simp only [Bool.and_eq_true] at h3
    have:=List.all_eq_true.1 h3.2 j (by simpa using hji)
    rw [hj] at this
    intro he
    simp only [he] at this
    simp at this
  · have hlt:i<sps.length:=(List.getElem?_eq_some_iff.1 hs).1
    have:=h i (get hi)
    rw [hi] at this
    simp only [hlt,if_true,hs,Bool.and_eq_true] at this
    exact this.2.1.2
  · have:=h i (get hi)
    rw [hi] at this
    simp only [hlt,if_true,Bool.and_eq_true] at this
    obtain ⟨_,⟨_,h5⟩⟩:=this
    cases hd:deps[i]? with
    | none=>rw [hd] at h5;cases h5
    | some ds =>
      rw [hd] at h5
      simp only [Bool.and_eq_true] at h5
      refine ⟨ds,rfl,λ j hj=>on (List.all_eq_true.1 h5.1 j hj),λ sp j hs hj=>?_⟩
      have h6:=h5.2
      rw [hs] at h6
      simp only [hj] at h6
      obtain ⟨y,hy,hb⟩:=List.any_eq_true.1 h6
      rw [← Nat.eq_of_beq_eq_true hb];exact hy
  · have:=h i (get hi)
    rw [hi] at this
    have hn:¬ i<sps.length:=by omega
    simp only [hn,if_false,Bool.and_eq_true] at this
    rcases Bool.or_eq_true_iff.1 (List.all_eq_true.1 this.2 j (by simpa using hji)) with hq | hq
    · obtain ⟨x,hx,hb⟩:=List.any_eq_true.1 hq
      refine .inl ⟨x,hx,?_⟩
      rcases Bool.or_eq_true_iff.1 hb with hb | hb
      · exact .inl (Nat.eq_of_beq_eq_true hb)
      · rw [Bool.and_eq_true] at hb;exact .inr ⟨Nat.le_of_ble_eq_true hb.1,by simpa [Nat.blt_eq] using hb.2⟩
    · rw [Bool.and_eq_true] at hq;exact .inr ⟨by simpa [Nat.blt_eq] using hq.1,_,hq.2⟩
theorem Qqd {ops:Array Oper} {listed:Array Bool} {i:Nat} (h:i∈Region.ready .any ops listed) :
    listed.getD i true=false∧∃ o,ops[i]?=some o∧∀ x∈bl o,listed.getD x.on false=true:=by
  simp only [Region.ready,List.mem_filter,Bool.and_eq_true,Bool.not_eq_true'] at h
  obtain ⟨_,h1,h2⟩:=h
  refine ⟨h1,?_⟩
  cases ho:ops[i]? with
  | none=>rw [ho] at h2;simp at h2
  | some o =>
    rw [ho] at h2
    simp only [Option.map_some,Option.getD_some] at h2
    refine ⟨o,rfl,λ x hx=>?_⟩
    obtain ⟨m1,m2⟩:=mem_bl hx
    have:=Array.all_eq_true'.1 h2 x m1
    simpa [m2] using this
theorem Qth {ops:Array Oper} {fuel t:Nat} {listed:Array Bool} (hne:Region.ready .any ops listed≠[]):∃ i∈Region.ready .any ops listed,∃ t',Region.linearise.go .any ops (fuel+1) t listed []=i::Region.linearise.go .any ops fuel t' (listed.setIfInBounds i true) []:=by
  have hlen:0<(Region.ready .any ops listed).length:=List.length_pos_iff.2 hne
  have hlt:t % (Region.ready .any ops listed).length<(Region.ready .any ops listed).length:=Nat.mod_lt _ hlen
  refine ⟨(Region.ready .any ops listed)[t % (Region.ready .any ops listed).length],List.getElem_mem _,t / (Region.ready .any ops listed).length,?_⟩
  simp only [Region.linearise.go]
  change (match (Region.ready .any ops listed)[t % (Region.ready .any ops listed).length]? with
      | some i=>Region.linearise.go .any ops fuel (t / (Region.ready .any ops listed).length) (listed.setIfInBounds i true) [i]
      | none=>[].reverse)=_
  rw [List.getElem?_eq_getElem hlt]
  simp only []
  rw [linearise_go_acc,List.reverse_singleton,List.singleton_append]
theorem go_tail {ops:Array Oper} {m:Nat} (hb:∀ (i:Nat) (o:Oper) (x:Edge),ops[i]?=some o→x∈bl o→x.on<i) (ht:∀ (i:Nat) (o:Oper) (j:Nat),ops[i]?=some o→m≤i→m≤j→j<i→∃ x∈bl o,x.on=j∨(m≤x.on∧j<x.on)) :
    ∀ (fuel p t:Nat) (listed:Array Bool),m≤p→p+fuel=ops.size→listed.size=ops.size→(∀ i,i<ops.size→listed.getD i true=decide (i<p))→Region.linearise.go .any ops fuel t listed []=List.range' p fuel:=by
  intro fuel
  induction fuel with
  | zero=>intro p t listed _ _ _ _;simp [Region.linearise.go]
  | succ fuel ih =>
    intro p t listed hmp hp hsz hl
    have hp1:p<ops.size:=by omega
    have hd:∀ i,i<ops.size→listed.getD i false=decide (i<p):=λ i hi=>by
      have:=hl i hi
      simp only [Array.getD_eq_getD_getElem?] at this ⊢
      rw [Array.getElem?_eq_getElem (by omega)] at this ⊢
      simpa using this
    have hready:∀ i,i∈Region.ready .any ops listed↔i=p:=by
      intro i
      constructor
      · intro h
        obtain ⟨h1,o,ho,h2⟩:=Qqd h
        have hi:i<ops.size:=(Array.getElem?_eq_some_iff.1 ho).1
        rw [hl i hi] at h1
        have hge:p≤i:=by simpa using h1
        rcases Nat.lt_or_ge p i with hlt | hge2
        · obtain ⟨x,hx,hxj⟩:=ht i o p ho (by omega) hmp hlt
          have:=h2 x hx
          have hxi:=hb i o x ho hx
          rw [hd x.on (by omega)] at this
          simp at this
          omega
        · omega
      · rintro rfl
        simp only [Region.ready,List.mem_filter,List.mem_range,hp1,true_and,Bool.and_eq_true,Bool.not_eq_true']
        refine ⟨by rw [hl i hp1];simp,?_⟩
        obtain ⟨o,ho⟩:∃ o,ops[i]?=some o:=⟨ops[i],by simp [hp1]⟩
        rw [ho]
        simp only [Option.map_some,Option.getD_some]
        refine Array.all_eq_true'.2 (λ x hx=>?_)
        by_cases hbx:Region.binds .any x=true
        · have h1:=hb i o x ho (List.mem_filter.2 ⟨by simpa using hx,hbx⟩)
          simp [hd x.on (by omega),h1]
        · simp [hbx]
    have hne:Region.ready .any ops listed≠[]:=λ h=>by have:=(hready p).2 rfl;rw [h] at this;cases this
    obtain ⟨i,hi,t',hgo⟩:=Qth (fuel:=fuel) (t:=t) hne
    have:=(hready i).1 hi
    subst this
    rw [hgo,List.range'_succ,ih (i+1) t' _ (by omega) (by omega) (by simp [hsz]) (λ j hj=>?_)]
    have:=hl j hj
    simp only [Array.getD_eq_getD_getElem?,Array.getElem?_setIfInBounds] at this ⊢
    by_cases e:i=j
    · subst e;simp [hsz,hp1]
    · simp only [e,if_false,this]
      have:decide (j<i)=decide (j<i+1):=by simp;omega
      exact this
theorem Qtq {t:Nat} {v:Value}:∀ (sps:List Sp) (vals:Nat→Value) (s0:List Sp),lk (outL sps ((List.range' s0.length sps.length).map vals)++L) t=some v →
    (∃ j sp,s0.length≤j∧(s0++sps)[j]?=some sp∧sp.dst=some t∧v=sp.cur (vals j))∨lk L t=some v
  | [],vals,s0,h=>.inr (by simpa [outL] using h)
  | sp::sps,vals,s0,h=>by
    simp only [List.length_cons,List.range'_succ,List.map_cons,outL,Sp.slot] at h
    have next:lk (outL sps ((List.range' (s0.length+1) sps.length).map vals)++L) t=some v→(∃ j s,s0.length≤j∧(s0++sp::sps)[j]?=some s∧s.dst=some t∧v=s.cur (vals j))∨lk L t=some v:=by
      intro h'
      have ih:=Qtq (t:=t) (v:=v) sps vals (s0++[sp])
      simp only [List.length_append,List.length_cons,List.length_nil,Nat.zero_add,List.append_assoc,List.cons_append,List.nil_append] at ih
      rcases ih h' with ⟨j,s,h1,h2,h3⟩ | h1
      · exact .inl ⟨j,s,by omega,h2,h3⟩
      · exact .inr h1
    cases hd:sp.dst with
    | none=>rw [hd] at h;exact next (by simpa using h)
    | some d =>
      rw [hd] at h
      simp only [List.cons_append,List.nil_append,lk] at h
      by_cases e:d=t
      · subst e
        have:Nat.beq d d=true:=by simp
        rw [this] at h
        simp at h
        exact .inl ⟨s0.length,sp,Nat.le_refl _,by simp,hd,h.symm⟩
      · rw [Qnp e] at h
        exact next (by simpa using h)
theorem Qqa {x:Bool×Atom}:∀ (sps:List Sp) (vals:Nat→Value) (s0:List Sp),x∈factL sps ((List.range' s0.length sps.length).map vals)→∃ j sp,(s0++sps)[j]?=some sp∧s0.length≤j∧x∈sp.fact (sp.cur (vals j))
  | [],vals,s0,h=>by simp [factL] at h
  | sp::sps,vals,s0,h=>by
    simp only [List.length_cons,List.range'_succ,List.map_cons,factL,List.mem_append] at h
    rcases h with h | h
    · exact ⟨s0.length,sp,by simp,Nat.le_refl _,h⟩
    · have ih:=Qqa (x:=x) sps vals (s0++[sp])
      simp only [List.length_append,List.length_cons,List.length_nil,Nat.zero_add,List.append_assoc,List.cons_append,List.nil_append] at ih
      obtain ⟨j,s,h1,h2,h3⟩:=ih h
      exact ⟨j,s,h1,by omega,h3⟩
theorem Qrn {dn:Done} (hn:(dn.map (·.1)).Nodup):∀ {j:Nat} {v:Value},(j,v)∈dn→valOf dn j=v:=by
  induction dn with
  | nil=>intro j v h;cases h
  | cons p r ih =>
    obtain ⟨i,u⟩:=p
    intro j v h
    simp only [List.map_cons,List.nodup_cons] at hn
    rcases List.mem_cons.1 h with h | h
    · cases h;simp [valOf]
    · have hij:i≠j:=λ e=>hn.1 (by subst e;exact List.mem_map.2 ⟨_,h,rfl⟩)
      simp only [valOf,Qnp hij,cond_false]
      exact ih hn.2 h
theorem Qbx {dn:Done} {j:Nat}:doneB dn j=true↔∃ v,(j,v)∈dn:=by
  constructor
  · intro h;exact ⟨_,Qfx h⟩
  · rintro ⟨v,h⟩;exact List.any_eq_true.2 ⟨_,h,by simp⟩
theorem Qwf {dn:Done} {m:Nat} (hn:(dn.map (·.1)).Nodup) (hlt:∀ j v,(j,v)∈dn→j<m) (hall:∀ j,j<m→doneB dn j=true):List.Perm dn ((List.range m).map λ j=>(j,valOf dn j)):=by
  have hdn:dn.Nodup:=by
    have:∀ l:Done,(l.map (·.1)).Nodup→l.Nodup:=by
      intro l
      induction l with
      | nil=>intro _;exact List.nodup_nil
      | cons p r ih=>intro h;simp only [List.map_cons,List.nodup_cons] at h;exact List.nodup_cons.2 ⟨λ hm=>h.1 (List.mem_map.2 ⟨p,hm,rfl⟩),ih h.2⟩
    exact this dn hn
  have hr:((List.range m).map λ j=>(j,valOf dn j)).Nodup:=by
    have:(((List.range m).map λ j=>(j,valOf dn j)).map (·.1)).Nodup:=by
      rw [List.map_map];simpa [Function.comp_def] using List.nodup_range
    have key:∀ l:Done,(l.map (·.1)).Nodup→l.Nodup:=by
      intro l
      induction l with
      | nil=>intro _;exact List.nodup_nil
      | cons p r ih=>intro h;simp only [List.map_cons,List.nodup_cons] at h;exact List.nodup_cons.2 ⟨λ hm=>h.1 (List.mem_map.2 ⟨p,hm,rfl⟩),ih h.2⟩
    exact key _ this
  refine (List.perm_ext_iff_of_nodup hdn hr).2 (λ p=>?_)
  obtain ⟨j,v⟩:=p
  constructor
  · intro h
    exact List.mem_map.2 ⟨j,List.mem_range.2 (hlt j v h),by rw [Qrn hn h]⟩
  · intro h
    obtain ⟨i,hi,he⟩:=List.mem_map.1 h
    cases he
    exact Qfx (hall _ (List.mem_range.1 hi))
theorem Qow:∀ (m:Nat) (l:List Nat),l.Nodup→(∀ x∈l,x<m)→l.length≤m
  | 0,l,_,h=>by
    cases l with
    | nil=>simp
    | cons x _=>exact absurd (h x (by simp)) (by omega)
  | m+1,l,hn,h=>by
    by_cases hm:m∈l
    · have h1:=Qow m (l.erase m) (hn.erase m) (λ x hx=>by
        have h2:=h x (List.mem_of_mem_erase hx)
        have h3:x≠m:=λ e=>by subst e;exact (List.Nodup.not_mem_erase hn) hx
        omega)
      rw [List.length_erase_of_mem hm] at h1
      omega
    · have:=Qow m l hn (λ x hx=>by
        have h2:=h x hx
        have h3:x≠m:=λ e=>by subst e;exact hm hx
        omega)
      omega
theorem Qvf {dn:Done} {m j0:Nat} (hn:(dn.map (·.1)).Nodup) (hlt:∀ j v,(j,v)∈dn→j<m) (hj:j0<m) (hnd:doneB dn j0=false):dn.length<m:=by
  have h0:j0∉dn.map (·.1):=by
    intro h
    obtain ⟨p,hp,he⟩:=List.mem_map.1 h
    have:doneB dn j0=true:=Qbx.2 ⟨p.2,by rw [← he];exact hp⟩
    rw [hnd] at this;cases this
  have h1:(j0::dn.map (·.1)).Nodup:=List.nodup_cons.2 ⟨h0,hn⟩
  have h2:=Qow m _ h1 (λ x hx=>by
    rcases List.mem_cons.1 hx with rfl | hx
    · exact hj
    · obtain ⟨p,hp,rfl⟩:=List.mem_map.1 hx;exact hlt p.1 p.2 hp)
  simp at h2
  omega
theorem Qkt {Ωi:List (List (Bool×HAtom))} {sps:List Sp} {deps:List (List Nat)} {vals vals':Nat→Value}:∀ {l:List Nat},(∀ t∈l,tok Ωi sps deps vals t=tok Ωi sps deps vals' t)→toks Ωi sps deps vals l=toks Ωi sps deps vals' l
  | [],_=>rfl
  | t::r,h=>by simp only [toks];rw [h t (by simp),Qkt (λ t ht=>h t (by simp [ht]))]
theorem Qka {Ωi:List (List (Bool×HAtom))} {sps:List Sp} {deps:List (List Nat)} {vals:Nat→Value} (a b:List Nat):toks Ωi sps deps vals (a++b)=toks Ωi sps deps vals a++toks Ωi sps deps vals b:=by simp only [Qtc,List.flatMap_append]
theorem Qlt {Ωi:List (List (Bool×HAtom))} {sps:List Sp} {deps:List (List Nat)} {vals:Nat→Value} {a b:List Nat} (h:List.Perm a b):List.Perm (toks Ωi sps deps vals a) (toks Ωi sps deps vals b):=by simp only [Qtc];exact h.flatMap_right _
theorem Qqh {Ωi:List (List (Bool×HAtom))} {sps:List Sp} {deps:List (List Nat)} {vals vals':Nat→Value} {t:Nat} (h:Ωi.length≤t→t-Ωi.length<sps.length→vals (t-Ωi.length)=vals' (t-Ωi.length)∧∀ ds,deps[t-Ωi.length]?=some ds→∀ d∈ds,vals d=vals' d) :
    tok Ωi sps deps vals t=tok Ωi sps deps vals' t:=by
  unfold tok
  cases hb:Nat.blt t Ωi.length with
  | true=>rfl
  | false =>
    simp only [cond_false]
    have hle:Ωi.length≤t:=by
      rcases Nat.lt_or_ge t Ωi.length with hlt | hge
      · have:Nat.blt t Ωi.length=true:=by simpa [Nat.blt_eq] using hlt
        rw [this] at hb;cases hb
      · exact hge
    cases hs:sps[t-Ωi.length]? with
    | none=>rfl
    | some sp =>
      obtain ⟨h1,h2⟩:=h hle (List.getElem?_eq_some_iff.1 hs).1
      cases hd:deps[t-Ωi.length]? with
      | none=>rfl
      | some ds =>
        simp only []
        rw [h1,List.map_congr_left (h2 ds hd)]
theorem Qrg {Lo:List (Nat×Value)} {l:List Oper} {sps:List Sp} {deps:List (List Nat)} {Ωs:List (Bool×HAtom)} {Ωi:List (List (Bool×HAtom))} {fin:List Nat} (hL:Look l.toArray L sps deps Ωi.length) (hfin:finOk sps Ωi.length fin=true)
    (K:∀ vs w',vs.length=sps.length→(∀ i sp j,sps[i]?=some sp→sp.same=some j→vs.getD i undef=vs.getD j undef)→St e w' (factL sps vs++Γ) (toks Ωi sps deps (λ j=>vs.getD j undef) fin++Ωs)→RunL C l.toArray (l.drop sps.length) sps.length k (outL sps vs++L) w')
    {fuel t:Nat} {listed:Array Bool} {dn:Done} {a:Act} (hJ:J C e l.toArray L Lo Γ Ωs Ωi sps deps dn a w) (hall:∀ j,j<sps.length→doneB dn j=true) (hsz:listed.size=l.length) (hfd:fuel+dn.length=l.length) (hl:∀ i,i<l.length→listed.getD i true=doneB dn i)
    (b:Frame) (cs:List Frame) (hb:b.fn=C.f) (hk:b.kind=.normal) (hro:b.roundOf=C.ro) :
    ∃ v w' fr,C.Q v w'∧Steps C.P (lone (b.atR a (.inRegion l.toArray (Region.linearise.go .any l.toArray fuel t listed [])::k)) cs w) (lone fr cs w')∧fr.fn=C.f∧C.ends fr v w':=by
  have hle:sps.length≤l.length:=by simpa using hL.le
  have hperm:=Qwf hJ.nd hJ.lt hall
  have hlen:dn.length=sps.length:=by have:=hperm.length_eq;simpa using this
  have hgo:=go_tail (ops:=l.toArray) (m:=sps.length) hL.back (λ i o j ho hi hj hji=>(hL.tail i o j ho hi hji).resolve_right (λ h=>by omega)) fuel sps.length t listed (Nat.le_refl _) (by simp;omega) (by simpa using hsz) (λ i hi=>by
    rw [hl i (by simpa using hi)]
    by_cases h:i<sps.length
    · simp [h,hall i h]
    · cases hd:doneB dn i with
      | false=>simp [h]
      | true=>obtain ⟨v,hv⟩:=Qbx.1 hd;exact absurd (hJ.lt i v hv) h)
  rw [hgo]
  have hfl:fuel=(l.drop sps.length).length:=by simp;omega
  obtain ⟨av,hav1,hav2,havst⟩:=hJ.st
  simp only [finOk,Bool.and_eq_true] at hfin
  obtain ⟨⟨hf1,hf2⟩,hf3⟩:=hfin
  have hnf:=Qoy hf1
  have hmem:∀ t,t∈av↔t∈fin:=by
    intro t
    have key:∀ c v s,(c,v)∈dn→sps[c]?=some s→inL s.cons t=true→(List.range sps.length).any (λ c=>match sps[c]? with | some s=>inL s.cons t | none=>false)=true:=by
      intro c v s hc hs ht
      exact List.any_eq_true.2 ⟨c,List.mem_range.2 (hJ.lt c v hc),by rw [hs];exact ht⟩
    rw [hav2]
    constructor
    · rintro ⟨h1,h2⟩
      have htl:t<Ωi.length+sps.length:=by
        rcases h1 with h1 | h1
        · omega
        · obtain ⟨v,hv⟩:=Qbx.1 h1
          have:=hJ.lt _ v hv;omega
      have h3:=List.all_eq_true.1 hf3 t (List.mem_range.2 htl)
      have hno:(List.range sps.length).any (λ c=>match sps[c]? with | some s=>inL s.cons t | none=>false)=false:=by
        cases ha:(List.range sps.length).any (λ c=>match sps[c]? with | some s=>inL s.cons t | none=>false) with
        | false=>rfl
        | true =>
          obtain ⟨c,hc,hcc⟩:=List.any_eq_true.1 ha
          have hcl:=List.mem_range.1 hc
          obtain ⟨v,hv⟩:=Qbx.1 (hall c hcl)
          cases hs:sps[c]? with
          | none=>rw [hs] at hcc;cases hcc
          | some s0=>rw [hs] at hcc;exact absurd (Qbt.1 hcc) (h2 c v s0 hv hs)
      rw [hno] at h3
      exact Qbt.1 (by simpa using h3)
    · intro ht
      have htl:t<Ωi.length+sps.length:=by
        have:=List.all_eq_true.1 hf2 t ht
        simpa [Nat.blt_eq] using this
      have h3:=List.all_eq_true.1 hf3 t (List.mem_range.2 htl)
      rw [Qbt.2 ht] at h3
      refine ⟨?_,λ c v s hc hs hcs=>?_⟩
      · rcases Nat.lt_or_ge t Ωi.length with h | h
        · exact .inl h
        · exact .inr (hall _ (by omega))
      · rw [key c v s hc hs (Qbt.2 hcs)] at h3;simp at h3
  have hpm:List.Perm av fin:=(List.perm_ext_iff_of_nodup hav1 hnf).2 hmem
  have hst:St e w (factL sps ((List.range sps.length).map (valOf dn))++Γ) (toks Ωi sps deps (λ j=>((List.range sps.length).map (valOf dn)).getD j undef) fin++Ωs):=by
    refine havst.conv (λ x hx=>?_) ?_
    · rcases List.mem_append.1 hx with hx | hx
      · have:=Qqa (x:=x) sps (valOf dn) [] (by simpa [List.range_eq_range'] using hx)
        obtain ⟨j,sp,h1,_,h3⟩:=this
        have hj:j<sps.length:=(List.getElem?_eq_some_iff.1 (by simpa using h1)).1
        refine List.mem_append_left _ (Qre (vals:=valOf dn) (ds:=[j]) (λ i hi=>?_) x ?_)
        · simp at hi;subst hi;exact Qfx (hall i hj)
        · simp only [seeF,List.append_nil];rw [show sps[j]?=some sp from by simpa using h1];exact h3
      · exact List.mem_append_right _ hx
    · refine List.Perm.append ?_ (List.Perm.refl _)
      have h5:toks Ωi sps deps (λ j=>((List.range sps.length).map (valOf dn)).getD j undef) fin=toks Ωi sps deps (valOf dn) fin :=
        Qkt (λ t _=>Qqh (λ _ hlt=>⟨by simp [List.getD_eq_getElem?_getD,hlt],λ ds hds d hd=>by
          obtain ⟨o, ho⟩ : ∃ o, l.toArray[t - Ωi.length]? = some o := ⟨l[t - Ωi.length]'(by omega), by simp⟩
          obtain ⟨ds',h1,h2,_⟩:=hL.dep _ o ho hlt
          rw [hds] at h1;cases h1
          obtain ⟨x,hx,hxd⟩:=h2 d hd
          have h3:=hL.back _ o x ho hx
          have hdl:d<sps.length:=by omega
          simp [List.getD_eq_getElem?_getD,hdl]⟩))
      rw [h5];exact Qlt hpm
  have hsm:∀ i sp j,sps[i]?=some sp→sp.same=some j→((List.range sps.length).map (valOf dn)).getD i undef=((List.range sps.length).map (valOf dn)).getD j undef:=by
    intro i sp j hs hj
    have hi:i<sps.length:=(List.getElem?_eq_some_iff.1 hs).1
    have h1:=hJ.sm i _ sp j (Qfx (hall i hi)) hs hj
    have h2:=Qrn hJ.nd h1
    have hj':j<sps.length:=hJ.lt j _ h1
    simp [List.getD_eq_getElem?_getD,hi,hj',h2]
  have hK:=K _ w (by simp) hsm hst (λ m=>by simp)
  rw [← hfl] at hK
  refine hK a ⟨hJ.size,λ t v hv=>?_⟩ hJ.defers b cs hb hk hro
  have:=Qtq (L:=L) (t:=t) (v:=v) sps (valOf dn) [] (by simpa [List.range_eq_range'] using hv)
  rcases this with ⟨j,sp,_,h1,hd1,rfl⟩ | h1
  · have h1':sps[j]?=some sp:=by simpa using h1
    have hj:j<sps.length:=(List.getElem?_eq_some_iff.1 h1').1
    exact hJ.new j _ sp _ (Qfx (hall j hj)) h1' hd1
  · exact hJ.old t v h1
theorem Qtf {Lo:List (Nat×Value)} {Lf:Nat→List (Nat×Value)} {l:List Oper} {sps:List Sp} {deps:List (List Nat)} {Ωs:List (Bool×HAtom)} {Ωi:List (List (Bool×HAtom))} {fin:List Nat} (hL:Look l.toArray L sps deps Ωi.length) (hfin:finOk sps Ωi.length fin=true)
    (T:∀ {j:Nat} {sp:Sp} {ds:List Nat} {o:Oper},sps[j]?=some sp→deps[j]?=some ds→l[j]?=some o→Ob C e l.toArray (Lf j) Γ Ωs Ωi sps deps j sp ds o)
    (hLf:∀ i t v,i<sps.length→lk (Lf i) t=some v→lk L t=some v∨(lk Lo t=some v∧∀ (j:Nat) (sp:Sp),sps[j]?=some sp→sp.dst=some t→j=i∨∃ n,anc l.toArray n j i=true))
    (K:∀ vs w',vs.length=sps.length→(∀ i sp j,sps[i]?=some sp→sp.same=some j→vs.getD i undef=vs.getD j undef)→St e w' (factL sps vs++Γ) (toks Ωi sps deps (λ j=>vs.getD j undef) fin++Ωs)→RunL C l.toArray (l.drop sps.length) sps.length k (outL sps vs++L) w') :
    ∀ (fuel t:Nat) (listed:Array Bool) (dn:Done) (a:Act) (w:World),listed.size=l.length→fuel+dn.length=l.length→(∀ i,i<l.length→listed.getD i true=doneB dn i)→J C e l.toArray L Lo Γ Ωs Ωi sps deps dn a w →
      ∀ (b:Frame) (cs:List Frame),b.fn=C.f→b.kind=.normal→b.roundOf=C.ro →
        ∃ v w' fr,C.Q v w'∧Steps C.P (lone (b.atR a (.inRegion l.toArray (Region.linearise.go .any l.toArray fuel t listed [])::k)) cs w) (lone fr cs w')∧fr.fn=C.f∧C.ends fr v w':=by
  have hle:sps.length≤l.length:=by simpa using hL.le
  intro fuel
  induction fuel with
  | zero =>
    intro t listed dn a w hsz hfd hl hJ b cs hb hk hro
    -- all are done
    have hall:∀ j,j<sps.length→doneB dn j=true:=by
      intro j hj
      cases hd:doneB dn j with
      | true=>rfl
      | false=>have:=Qvf hJ.nd hJ.lt hj hd;omega
    exact Qrg hL hfin K hJ hall hsz hfd hl b cs hb hk hro
  | succ fuel ih =>
    intro t listed dn a w hsz hfd hl hJ b cs hb hk hro
    by_cases hall:∀ j,j<sps.length→doneB dn j=true
    · exact Qrg hL hfin K hJ hall hsz hfd hl b cs hb hk hro
    · -- some operation of the drawn part is left
      have hex:∃ j,j<sps.length∧doneB dn j=false:=by
        refine Classical.byContradiction (λ hn=>hall (λ j hj=>?_))
        cases hd:doneB dn j with
        | true=>rfl
        | false=>exact absurd ⟨j,hj,hd⟩ hn
      obtain ⟨j1,hj1,hd1⟩:=hex
      have hD:∀ i,i<l.length→listed.getD i false=doneB dn i:=λ i hi=>by
        have:=hl i hi
        simp only [Array.getD_eq_getD_getElem?] at this ⊢
        rw [Array.getElem?_eq_getElem (by omega)] at this ⊢
        simpa using this
      have hne:Region.ready .any l.toArray listed≠[]:=by
        -- the least one that is left is ready
        have key:∀ n j,j≤n→j<sps.length→doneB dn j=false→Region.ready .any l.toArray listed≠[]:=by
          intro n
          induction n with
          | zero =>
            intro j hj hjm hdj h
            have hj0:j=0:=by omega
            subst hj0
            have:0∈Region.ready .any l.toArray listed:=by
              simp only [Region.ready,List.mem_filter,List.mem_range,Bool.and_eq_true,Bool.not_eq_true']
              refine ⟨by simp;omega,by rw [hl 0 (by omega),hdj],?_⟩
              obtain ⟨o, ho⟩ : ∃ o, l.toArray[0]? = some o := ⟨l[0]'(by omega), by simp⟩
              rw [ho]
              simp only [Option.map_some,Option.getD_some]
              refine Array.all_eq_true'.2 (λ x hx=>?_)
              by_cases hbx:Region.binds .any x=true
              · have:=hL.back 0 o x ho (List.mem_filter.2 ⟨by simpa using hx,hbx⟩)
                omega
              · simp [hbx]
            rw [h] at this;cases this
          | succ n ihn =>
            intro j hj hjm hdj h
            by_cases hsm:∃ i,i<j∧doneB dn i=false
            · obtain ⟨i,hi,hdi⟩:=hsm
              exact ihn i (by omega) (by omega) hdi h
            · have:j∈Region.ready .any l.toArray listed:=by
                simp only [Region.ready,List.mem_filter,List.mem_range,Bool.and_eq_true,Bool.not_eq_true']
                refine ⟨by simp;omega,by rw [hl j (by omega),hdj],?_⟩
                obtain ⟨o, ho⟩ : ∃ o, l.toArray[j]? = some o := ⟨l[j]'(by omega), by simp⟩
                rw [ho]
                simp only [Option.map_some,Option.getD_some]
                refine Array.all_eq_true'.2 (λ x hx=>?_)
                by_cases hbx:Region.binds .any x=true
                · have hlt:=hL.back j o x ho (List.mem_filter.2 ⟨by simpa using hx,hbx⟩)
                  have hdx:doneB dn x.on=true:=by
                    cases hd:doneB dn x.on with
                    | true=>rfl
                    | false=>exact absurd ⟨x.on,hlt,hd⟩ hsm
                  rw [hD x.on (by omega),hdx];simp
                · simp [hbx]
              rw [h] at this;cases this
        exact key j1 j1 (Nat.le_refl _) hj1 hd1
      obtain ⟨i,hi,t',hgo⟩:=Qth (fuel:=fuel) (t:=t) hne
      obtain ⟨hli,o,ho,haft⟩:=Qqd hi
      have hin:i<l.length:=by have:=(Array.getElem?_eq_some_iff.1 ho).1;simpa using this
      have hdi:doneB dn i=false:=by rw [← hl i hin];exact hli
      have hdone:∀ x∈bl o,doneB dn x.on=true:=λ x hx=>by
        have h1:=haft x hx
        have h2:=hL.back i o x ho hx
        rw [hD x.on (by omega)] at h1;exact h1
      have him:i<sps.length:=by
        rcases Nat.lt_or_ge i sps.length with h | h
        · exact h
        · rcases hL.tail i o j1 ho h (by omega) with ⟨x,hx,hxj⟩ | ⟨_,n,han⟩
          · have:=hdone x hx
            rcases hxj with hxj | ⟨hxj,_⟩
            · rw [hxj,hd1] at this;cases this
            · obtain ⟨y,hy⟩:=Qbx.1 this
              have:=hJ.lt _ _ hy;omega
          · -- what is waited for over others has been done
            have key:∀ n a,doneB dn a=true→anc l.toArray n a j1=true→doneB dn j1=true:=by
              intro n
              induction n with
              | zero=>intro a _ h;cases h
              | succ n ih =>
                intro a hda han
                simp only [anc] at han
                split at han
                · rename_i oa hoa
                  obtain ⟨x,hx,hb⟩:=List.any_eq_true.1 han
                  obtain ⟨v,hv⟩:=Qbx.1 hda
                  have hxd:=hJ.wait a v oa x hv hoa hx
                  rcases Bool.or_eq_true_iff.1 hb with hb | hb
                  · rw [← Nat.eq_of_beq_eq_true hb];exact hxd
                  · rw [Bool.and_eq_true] at hb;exact ih x.on hxd hb.2
                · cases han
            cases n with
            | zero=>cases han
            | succ n =>
              simp only [anc,ho] at han
              obtain ⟨x,hx,hb⟩:=List.any_eq_true.1 han
              have hxd:=hdone x hx
              rcases Bool.or_eq_true_iff.1 hb with hb | hb
              · rw [Nat.eq_of_beq_eq_true hb,hd1] at hxd;cases hxd
              · rw [Bool.and_eq_true] at hb
                rw [key n x.on hxd hb.2] at hd1;cases hd1
      obtain ⟨sp,hsp⟩:∃ sp,sps[i]?=some sp:=⟨sps[i],by simp⟩
      obtain ⟨ds,hds,hdep,hdsm⟩:=hL.dep i o ho him
      have hdsd:∀ j∈ds,(j,valOf dn j)∈dn:=λ j hj=>by
        obtain ⟨x,hx,hxj⟩:=hdep j hj
        exact Qfx (by rw [← hxj];exact hdone x hx)
      have hOb:=T hsp hds (by simpa using ho)
      obtain ⟨av,hav1,hav2,havst⟩:=hJ.st
      have hmo:=hL.mem i o sp ho hsp
      simp only [memOk,Bool.and_eq_true] at hmo
      obtain ⟨⟨⟨hm1,hm2⟩,hm3⟩,hm4⟩:=hmo
      have hnd:=Qoy hm1
      have wait:∀ a b,edge l.toArray a b=true→doneB dn a=true→doneB dn b=true:=by
        intro a b hab hda
        unfold edge at hab
        split at hab
        · rename_i oa hoa
          obtain ⟨x,hx,hxb⟩:=List.any_eq_true.1 hab
          obtain ⟨v,hv⟩:=Qbx.1 hda
          have:=hJ.wait a v oa x hv hoa hx
          rwa [Nat.eq_of_beq_eq_true hxb] at this
        · cases hab
      have down:∀ (p:List Nat) (a:Nat),chain l.toArray (a::p) i=true→doneB dn a=true→doneB dn i=true:=by
        intro p
        induction p with
        | nil=>intro a hch hda;rw [← Nat.eq_of_beq_eq_true hch];exact hda
        | cons b p ihp =>
          intro a hch hda
          simp only [chain,Bool.and_eq_true] at hch
          exact ihp b hch.2 (wait a b hch.1 hda)
      have hthere:∀ t∈sp.cons++rd sp,t∈av:=by
        intro t ht
        refine (hav2 t).2 ⟨?_,λ c v s0 hc hs0 hcs=>?_⟩
        · have h1:=List.all_eq_true.1 hm2 t ht
          simp only [Bool.or_eq_true] at h1
          rcases h1 with h1 | h1
          · exact .inl (by simpa [Nat.blt_eq] using h1)
          · obtain ⟨x,hx,hb2⟩:=List.any_eq_true.1 h1
            have:=hdone x hx
            rw [Nat.eq_of_beq_eq_true hb2] at this
            exact .inr this
        · have hcl:c∈List.range sps.length:=List.mem_range.2 (hJ.lt c v hc)
          have hcd:doneB dn c=true:=Qbx.2 ⟨v,hc⟩
          rcases List.mem_append.1 ht with ht | ht
          · have h1:=List.all_eq_true.1 (List.all_eq_true.1 hm3 t ht) c hcl
            simp only [Bool.or_eq_true] at h1
            rcases h1 with h1 | h1
            · rw [Nat.eq_of_beq_eq_true h1] at hcd;rw [hdi] at hcd;cases hcd
            · rw [hs0] at h1;simp only [Qbt.2 hcs] at h1;cases h1
          · obtain ⟨p,hp,hpt⟩:=List.mem_map.1 ht
            have h1:=List.all_eq_true.1 (List.all_eq_true.1 hm4 p hp) c hcl
            rw [hs0,hpt] at h1
            simp only [Qbt.2 hcs,Bool.not_true,Bool.false_or,Bool.and_eq_true,beq_iff_eq] at h1
            obtain ⟨h1,h2⟩:=h1
            cases hpp:p.2 with
            | nil=>rw [hpp] at h2;cases h2
            | cons a r =>
              rw [hpp] at h1 h2
              simp only [List.head?_cons,Option.some.injEq] at h2
              subst h2
              have:=down r a h1 hcd
              rw [hdi] at this;cases this
      have hpm:List.Perm av ((sp.cons++rd sp)++av.filter (λ t=>!inL (sp.cons++rd sp) t)):=by
        refine (List.perm_ext_iff_of_nodup hav1 ?_).2 (λ t=>?_)
        · refine List.nodup_append.2 ⟨hnd,hav1.filter _,λ a ha b hb2 hab=>?_⟩
          subst hab
          have:=(List.mem_filter.1 hb2).2
          rw [Qbt.2 ha] at this;cases this
        · rw [List.mem_append,List.mem_filter]
          constructor
          · intro ht
            cases hb2:inL (sp.cons++rd sp) t with
            | true=>exact .inl (Qbt.1 hb2)
            | false=>exact .inr ⟨ht,by rfl⟩
          · rintro (ht | ht)
            · exact hthere t ht
            · exact ht.1
      have hpre':St e w (seeF sps (valOf dn) ds++(Γ++dF sps dn)) (toks Ωi sps deps (valOf dn) sp.cons++(toks Ωi sps deps (valOf dn) (rd sp)++(Ωs++toks Ωi sps deps (valOf dn) (av.filter (λ t=>!inL (sp.cons++rd sp) t))))):=by
        refine havst.conv (λ x hx=>?_) ?_
        · rcases List.mem_append.1 hx with hx | hx
          · exact List.mem_append_left _ (Qre hdsd x hx)
          · rcases List.mem_append.1 hx with hx | hx
            · exact List.mem_append_right _ hx
            · exact List.mem_append_left _ hx
        · refine ((Qlt hpm).append_right Ωs).trans ?_
          rw [Qka,Qka,List.append_assoc,List.append_assoc]
          exact List.Perm.append_left _ (List.Perm.append_left _ List.perm_append_comm)
      have hop:=hOb (valOf dn) w (dF sps dn) _ hpre'
      have key3:∀ n a b,doneB dn a=true→anc l.toArray n a b=true→doneB dn b=true:=by
        intro n
        induction n with
        | zero=>intro a b _ h;cases h
        | succ n ih =>
          intro a b hda han
          simp only [anc] at han
          split at han
          · rename_i oa hoa
            obtain ⟨x,hx,hb⟩:=List.any_eq_true.1 han
            obtain ⟨v,hv⟩:=Qbx.1 hda
            have hxd:=hJ.wait a v oa x hv hoa hx
            rcases Bool.or_eq_true_iff.1 hb with hb | hb
            · rw [← Nat.eq_of_beq_eq_true hb];exact hxd
            · rw [Bool.and_eq_true] at hb;exact ih x.on b hxd hb.2
          · cases han
      have hag:Agree C.fn.ntmps (seeL sps (valOf dn) ds++Lf i) a:=by
        refine ⟨hJ.size,λ u v hv=>?_⟩
        rcases Qpk hv with ⟨j,hj,sj,hsj,hd1,rfl⟩ | h
        · exact hJ.new j _ sj _ (hdsd j hj) hsj hd1
        · rcases hLf i u v him h with h | ⟨h,hno⟩
          · exact hJ.old u v h
          · refine hJ.old2 u v h (λ j y sj hj hsj hd2=>?_)
            have hdj:doneB dn j=true:=Qbx.2 ⟨y,hj⟩
            rcases hno j sj hsj hd2 with rfl | ⟨n,hn⟩
            · rw [hdi] at hdj;cases hdj
            · rw [key3 n j i hdj hn] at hdi;cases hdi
      obtain ⟨v,w1,hsteps,⟨v',hlk,hsame,hst'⟩,_⟩:=hop a hag b cs i (Region.linearise.go .any l.toArray fuel t' (listed.setIfInBounds i true) []) k ho hb hk
      obtain ⟨hdst,hlkn⟩:=hL.dst i o sp ho hsp
      have hv:∀ d,sp.dst=some d→v=sp.cur v':=by
        intro d hd
        rw [hdst,hd] at hlk
        simp only [out,lk] at hlk
        have:Nat.beq d d=true:=by simp
        rw [this] at hlk
        simpa using hlk
      have hsz':a.tmps.size=C.fn.ntmps:=hJ.size
      have hJ':J C e l.toArray L Lo Γ Ωs Ωi sps deps ((i,v')::dn) (a.put o.dst v) w1:=by
        have hlt:∀ (u:Nat) (x:Value),(∀ d,sp.dst=some d→u≠d)→(a.put o.dst v).tmps[u]?=a.tmps[u]?:=λ u x hu=>by
          rw [hdst]
          cases hd:sp.dst with
          | none=>simp [Act.put]
          | some d=>simp [Act.put,Array.getElem?_setIfInBounds,Ne.symm (hu d hd)]
        refine ⟨by rw [hdst];cases sp.dst<;>simp [Act.put,hsz'],by rw [hdst];cases sp.dst<;>simp [Act.put,hJ.defers],λ u x hx=>?_,λ u x hx hno=>?_,λ j x sj d hj hsj hd=>?_,λ j x hj=>?_,?_,λ j x oj y hj hoj hy=>?_,λ i2 x sp2 j2 hi2 hs2 hj2=>?_,?_⟩
        · rw [hlt u x (λ d hd e=>by subst e;rw [hlkn u hd] at hx;cases hx)];exact hJ.old u x hx
        · rw [hlt u x (λ d hd e=>by subst e;exact hno i v' sp (List.mem_cons_self) hsp hd)]
          exact hJ.old2 u x hx (λ j y sj hj hsj=>hno j y sj (List.mem_cons_of_mem _ hj) hsj)
        · rcases List.mem_cons.1 hj with hj2 | hj2
          · cases hj2
            rw [hsp] at hsj;cases hsj
            rw [← hv d hd]
            have hdl:d<a.tmps.size:=by
              obtain ⟨_,_,_,_,hdd⟩:=hop a hag b cs i [] k ho hb hk
              have:=hdd d (by rw [hdst,hd])
              rw [hsz'];simpa [Nat.blt_eq] using this
            rw [hdst,hd]
            simp [Act.put,Array.getElem?_setIfInBounds,hdl]
          · have hji:j≠i:=λ e=>by
              subst e
              have:doneB dn j=true:=Qbx.2 ⟨x,hj2⟩
              rw [hdi] at this;cases this
            have hne:∀ d',sp.dst=some d'→d≠d':=by
              intro d' hd' e
              subst e
              rcases Nat.lt_or_ge j i with h | h
              · exact hL.uniq i j sp sj d hsp hsj h hd' hd
              · exact hL.uniq j i sj sp d hsj hsp (by omega) hd hd'
            rw [hlt d v hne];exact hJ.new j x sj d hj2 hsj hd
        · rcases List.mem_cons.1 hj with hj | hj
          · cases hj;exact him
          · exact hJ.lt j x hj
        · simp only [List.map_cons]
          refine List.nodup_cons.2 ⟨λ h=>?_,hJ.nd⟩
          obtain ⟨p,hp,he⟩:=List.mem_map.1 h
          have:doneB dn i=true:=Qbx.2 ⟨p.2,by rw [← he];exact hp⟩
          rw [hdi] at this;cases this
        · rw [Qhe]
          rcases List.mem_cons.1 hj with hj | hj
          · cases hj
            rw [ho] at hoj;cases hoj
            simp [hdone y hy]
          · simp [hJ.wait j x oj y hj hoj hy]
        · rcases List.mem_cons.1 hi2 with hi3 | hi3
          · cases hi3
            rw [hsp] at hs2;cases hs2
            rw [hj2] at hsame
            simp only at hsame
            rw [hsame]
            exact List.mem_cons_of_mem _ (hdsd j2 (hdsm sp j2 hsp hj2))
          · exact List.mem_cons_of_mem _ (hJ.sm i2 x sp2 j2 hi3 hs2 hj2)
        · have hmi:Ωi.length+i∉av:=by
            intro h
            rcases ((hav2 _).1 h).1 with h1 | h1
            · omega
            · rw [show Ωi.length+i-Ωi.length=i by omega,hdi] at h1;cases h1
          have hvi:valOf ((i,v')::dn) i=v':=by simp [valOf]
          refine ⟨(Ωi.length+i)::av.filter (λ t=>!inL sp.cons t),List.nodup_cons.2 ⟨λ h=>hmi (List.mem_filter.1 h).1,hav1.filter _⟩,λ t=>?_,?_⟩
          · rw [List.mem_cons,List.mem_filter,hav2]
            constructor
            · rintro (rfl | ⟨⟨h1,h2⟩,h3⟩)
              · refine ⟨.inr ?_,λ c u s0 hc hs0 hcs=>?_⟩
                · rw [show Ωi.length+i-Ωi.length=i by omega,Qhe];simp
                · have hci:c∈List.range sps.length:=by
                    rcases List.mem_cons.1 hc with hc | hc
                    · cases hc;exact List.mem_range.2 him
                    · exact List.mem_range.2 (hJ.lt c u hc)
                  obtain ⟨oc, hoc⟩ : ∃ oc, l.toArray[c]? = some oc := ⟨l[c]'(by have := List.mem_range.1 hci; omega), by simp⟩
                  have hmc:=hL.mem c oc s0 hoc hs0
                  simp only [memOk,Bool.and_eq_true] at hmc
                  have h1:=List.all_eq_true.1 hmc.1.1.2 _ (List.mem_append_left _ hcs)
                  simp only [Bool.or_eq_true] at h1
                  rcases h1 with h1 | h1
                  · exact absurd (Nat.le_of_ble_eq_true h1) (by omega)
                  · obtain ⟨x,hx,hb2⟩:=List.any_eq_true.1 h1
                    have hxi:x.on=i:=by have:=Nat.eq_of_beq_eq_true hb2;omega
                    rcases List.mem_cons.1 hc with hc | hc
                    · cases hc
                      have:=hL.back i oc x hoc hx
                      omega
                    · have:=hJ.wait c u oc x hc hoc hx
                      rw [hxi,hdi] at this;cases this
              · refine ⟨h1.imp id (λ h=>by rw [Qhe,h];simp),λ c u s0 hc hs0 hcs=>?_⟩
                rcases List.mem_cons.1 hc with hc | hc
                · cases hc
                  rw [hsp] at hs0;cases hs0
                  rw [Qbt.2 hcs] at h3;cases h3
                · exact h2 c u s0 hc hs0 hcs
            · rintro ⟨h1,h2⟩
              by_cases hti:t=Ωi.length+i
              · exact .inl hti
              · refine .inr ⟨⟨?_,λ c u s0 hc hs0 hcs=>h2 c u s0 (List.mem_cons_of_mem _ hc) hs0 hcs⟩,?_⟩
                · rcases h1 with h1 | h1
                  · exact .inl h1
                  · rcases Nat.lt_or_ge t Ωi.length with h3 | h3
                    · exact .inl h3
                    · rw [Qhe,Qnp (by omega:i≠t-Ωi.length)] at h1
                      exact .inr (by simpa using h1)
                · cases hb2:inL sp.cons t with
                  | false=>rfl
                  | true=>exact absurd (Qbt.1 hb2) (h2 i v' sp (List.mem_cons_self) hsp)
          · refine hst'.conv (λ x hx=>?_) ?_
            · simp only [dF,hsp] at hx
              rcases List.mem_append.1 hx with hx | hx
              · rcases List.mem_append.1 hx with hx | hx
                · exact List.mem_append_left _ hx
                · exact List.mem_append_right _ (List.mem_append_right _ (List.mem_append_right _ hx))
              · exact List.mem_append_right _ (List.mem_append_right _ (List.mem_append_left _ hx))
            · have hold:∀ t∈av,tok Ωi sps deps (valOf ((i,v')::dn)) t=tok Ωi sps deps (valOf dn) t:=by
                intro t ht
                refine Qqh (λ hle hlt=>?_)
                have hne:i≠t-Ωi.length:=λ e=>hmi (by rw [show Ωi.length+i=t by omega];exact ht)
                have hdt:doneB dn (t-Ωi.length)=true:=by
                  rcases ((hav2 t).1 ht).1 with h | h
                  · omega
                  · exact h
                refine ⟨by simp [valOf,Qnp hne],λ ds' hds' d hd=>?_⟩
                obtain ⟨ot, hot⟩ : ∃ ot, l.toArray[t - Ωi.length]? = some ot := ⟨l[t - Ωi.length]'(by omega), by simp⟩
                obtain ⟨ds2,h1,h2,_⟩:=hL.dep _ ot hot hlt
                rw [hds'] at h1;cases h1
                obtain ⟨x,hx,hxd⟩:=h2 d hd
                obtain ⟨u,hu⟩:=Qbx.1 hdt
                have h3:=hJ.wait _ u ot x hu hot hx
                rw [hxd] at h3
                have hned:i≠d:=λ e=>by rw [← e,hdi] at h3;cases h3
                simp [valOf,Qnp hned]
              have e1:tok Ωi sps deps (valOf ((i,v')::dn)) (Ωi.length+i)=sp.own (ds.map (valOf dn)) (sp.cur v'):=by
                unfold tok
                have:Nat.blt (Ωi.length+i) Ωi.length=false:=by
                  cases hb2:Nat.blt (Ωi.length+i) Ωi.length with
                  | false=>rfl
                  | true=>exact absurd (Nat.le_of_ble_eq_true hb2) (by omega)
                rw [this]
                simp only [cond_false]
                rw [show Ωi.length+i-Ωi.length=i by omega,hsp,hds,hvi]
                simp only []
                congr 1
                refine List.map_congr_left (λ d hd=>?_)
                obtain ⟨x,hx,hxd⟩:=hdep d hd
                have h3:=hdone x hx
                rw [hxd] at h3
                have hned:i≠d:=λ e=>by rw [← e,hdi] at h3;cases h3
                simp [valOf,Qnp hned]
              have hp2:List.Perm (av.filter (λ t=>!inL sp.cons t)) (rd sp++av.filter (λ t=>!inL (sp.cons++rd sp) t)):=by
                refine (List.perm_ext_iff_of_nodup (hav1.filter _) ?_).2 (λ t=>?_)
                · refine List.nodup_append.2 ⟨(List.nodup_append.1 hnd).2.1,hav1.filter _,λ a ha b hb2 hab=>?_⟩
                  subst hab
                  have:=(List.mem_filter.1 hb2).2
                  rw [Qbt.2 (List.mem_append_right _ ha)] at this;cases this
                · rw [List.mem_append,List.mem_filter,List.mem_filter]
                  constructor
                  · rintro ⟨ht,hn⟩
                    cases hb2:inL (sp.cons++rd sp) t with
                    | false=>exact .inr ⟨ht,by rfl⟩
                    | true =>
                      rcases List.mem_append.1 (Qbt.1 hb2) with h | h
                      · rw [Qbt.2 h] at hn;cases hn
                      · exact .inl h
                  · rintro (ht | ⟨ht,hn⟩)
                    · refine ⟨hthere t (List.mem_append_right _ ht),?_⟩
                      cases hb2:inL sp.cons t with
                      | false=>rfl
                      | true=>exact absurd rfl ((List.nodup_append.1 hnd).2.2 t (Qbt.1 hb2) t ht)
                    · refine ⟨ht,?_⟩
                      cases hb2:inL sp.cons t with
                      | false=>rfl
                      | true=>rw [Qbt.2 (List.mem_append_left _ (Qbt.1 hb2))] at hn;cases hn
              simp only [toks]
              rw [e1,List.append_assoc]
              refine List.Perm.append_left _ ?_
              rw [Qkt (vals':=valOf dn) (λ t ht=>hold t (List.mem_filter.1 ht).1)]
              refine List.Perm.symm (((Qlt hp2).append_right Ωs).trans ?_)
              rw [Qka,List.append_assoc]
              exact List.Perm.append_left _ List.perm_append_comm
      have hIH:=ih t' (listed.setIfInBounds i true) ((i,v')::dn) (a.put o.dst v) w1 (by simpa using hsz) (by simp;omega) (λ j hj=>?_) hJ' b cs hb hk hro
      · obtain ⟨x,w2,fr,hq,hs,hf,hlv⟩:=hIH
        exact ⟨x,w2,fr,hq,by rw [hgo];exact Steps.trans hsteps hs,hf,hlv⟩
      · rw [Qhe]
        have:=hl j hj
        simp only [Array.getD_eq_getD_getElem?,Array.getElem?_setIfInBounds] at this ⊢
        by_cases e2:i=j
        · subst e2;simp [hsz,hin]
        · simp only [e2,if_false,this,Qnp e2,Bool.false_or]
def ely (es:List Bool) (Lo L:List (Nat×Value)) (i:Nat):List (Nat×Value):=bif es.getD i false then Lo++L else L
def earlyOk (ops:Array Oper) (Lo L:List (Nat×Value)) (sps:List Sp) (es:List Bool):Bool :=
  L.all (λ p=>(lk Lo p.1).isNone)&&(List.range sps.length).all λ i=>!(es.getD i false)||Lo.all λ p=>(List.range sps.length).all λ j=>match sps[j]? with
    | some s=>(match s.dst with | some d=>!(Nat.beq d p.1)||Nat.beq j i||anc ops (j+1) j i | none=>true) | none=>true
inductive AllObE (C:Cx) (e:En) (ops:Array Oper) (Lo L:List (Nat×Value)) (Γ:List (Bool×Atom)) (Ωs:List (Bool×HAtom)) (Ωi:List (List (Bool×HAtom))) (sps0:List Sp) (deps0:List (List Nat)):Nat→List Bool→List Sp→List (List Nat)→List Oper→Prop
  | nil {i:Nat} {l:List Oper}:AllObE C e ops Lo L Γ Ωs Ωi sps0 deps0 i [] [] [] l
  | cons {i:Nat} {es:List Bool} {sp:Sp} {ds:List Nat} {o:Oper} {sps:List Sp} {deps:List (List Nat)} {l:List Oper} (h:Ob C e ops L Γ Ωs Ωi sps0 deps0 i sp ds o) (K:AllObE C e ops Lo L Γ Ωs Ωi sps0 deps0 (i+1) es sps deps l) :
      AllObE C e ops Lo L Γ Ωs Ωi sps0 deps0 i (false::es) (sp::sps) (ds::deps) (o::l)
  | early {i:Nat} {es:List Bool} {sp:Sp} {ds:List Nat} {o:Oper} {sps:List Sp} {deps:List (List Nat)} {l:List Oper} (h:Ob C e ops (Lo++L) Γ Ωs Ωi sps0 deps0 i sp ds o) (K:AllObE C e ops Lo L Γ Ωs Ωi sps0 deps0 (i+1) es sps deps l) :
      AllObE C e ops Lo L Γ Ωs Ωi sps0 deps0 i (true::es) (sp::sps) (ds::deps) (o::l)
theorem AllObE.at {ops:Array Oper} {Lo:List (Nat×Value)} {Ωs:List (Bool×HAtom)} {Ωi:List (List (Bool×HAtom))} {sps0:List Sp} {deps0:List (List Nat)} {i:Nat} {es:List Bool} {sps:List Sp} {deps:List (List Nat)} {l:List Oper} (h:AllObE C e ops Lo L Γ Ωs Ωi sps0 deps0 i es sps deps l) :
    ∀ {j:Nat} {sp:Sp} {ds:List Nat} {o:Oper},sps[j]?=some sp→deps[j]?=some ds→l[j]?=some o→Ob C e ops (ely es Lo L j) Γ Ωs Ωi sps0 deps0 (i+j) sp ds o:=by
  induction h with
  | nil=>intro j sp ds o h;simp at h
  | @cons i es sp ds o sps deps l h _ ih =>
    intro j sp' ds' o' h1 h2 h3
    cases j with
    | zero=>simp at h1 h2 h3;subst h1 h2 h3;exact h
    | succ j =>
      have:=ih (j:=j) (by simpa using h1) (by simpa using h2) (by simpa using h3)
      rw [Nat.add_right_comm,Nat.add_assoc] at this
      exact this
  | @early i es sp ds o sps deps l h _ ih =>
    intro j sp' ds' o' h1 h2 h3
    cases j with
    | zero=>simp at h1 h2 h3;subst h1 h2 h3;exact h
    | succ j =>
      have:=ih (j:=j) (by simpa using h1) (by simpa using h2) (by simpa using h3)
      rw [Nat.add_right_comm,Nat.add_assoc] at this
      exact this
theorem Qvt {t:Nat} {v:Value}:∀ {A B:List (Nat×Value)},lk (A++B) t=some v→lk A t=some v∨lk B t=some v
  | [],_,h=>.inr h
  | (s,u)::A,B,h=>by
    simp only [List.cons_append,lk] at h ⊢
    cases hb:Nat.beq s t
    · rw [hb] at h;simp only [cond_false] at h ⊢;exact Qvt h
    · rw [hb] at h;simp only [cond_true] at h ⊢;exact .inl h
theorem Qsw {t:Nat} {v:Value}:∀ {A B:List (Nat×Value)},lk A t=some v→lk (A++B) t=some v
  | [],_,h=>by simp [lk] at h
  | (s,u)::A,B,h=>by
    simp only [List.cons_append,lk] at h ⊢
    cases hb:Nat.beq s t
    · rw [hb] at h;simp only [cond_false] at h ⊢;exact Qsw h
    · rw [hb] at h;simp only [cond_true] at h ⊢;exact h
theorem Qse {t:Nat}:∀ {A B:List (Nat×Value)},lk A t=none→lk (A++B) t=lk B t
  | [],_,_=>rfl
  | (s,u)::A,B,h=>by
    simp only [List.cons_append,lk] at h ⊢
    cases hb:Nat.beq s t
    · rw [hb] at h;simp only [cond_false] at h ⊢;exact Qse h
    · rw [hb] at h;simp at h
theorem Qrd {t:Nat} {v:Value}:∀ {A:List (Nat×Value)},lk A t=some v→∃ x,(t,x)∈A
  | [],h=>by simp [lk] at h
  | (s,u)::A,h=>by
    simp only [lk] at h
    cases hb:Nat.beq s t
    · rw [hb] at h;simp only [cond_false] at h;obtain ⟨x,hx⟩:=Qrd h;exact ⟨x,List.mem_cons_of_mem _ hx⟩
    · have:=Nat.eq_of_beq_eq_true hb;subst this;exact ⟨u,List.mem_cons_self⟩
theorem Qmy {Lo:List (Nat×Value)} {l:List Oper} {sps:List Sp} {deps:List (List Nat)} {Ωs:List (Bool×HAtom)} {Ωi:List (List (Bool×HAtom))} {a:Act} (ha:Agree C.fn.ntmps (Lo++L) a) (hd:a.defers=dfl C.df) (hdis:L.all (λ p=>(lk Lo p.1).isNone)=true) (h:St e w Γ (Ωi.flatten++Ωs)) :
    J C e l.toArray L Lo Γ Ωs Ωi sps deps [] a w.drew:=by
    refine ⟨ha.1,hd,λ t v hv=>ha.2 t v ?_,λ t v hv _=>ha.2 t v (Qsw hv),λ _ _ _ _ h=>(by cases h),λ _ _ h=>(by cases h),List.nodup_nil,λ _ _ _ _ h=>(by cases h),λ _ _ _ _ h=>(by cases h),List.range Ωi.length,List.nodup_range,λ t=>?_,?_⟩
    · obtain ⟨x,hx⟩:=Qrd hv
      have:=List.all_eq_true.1 hdis _ hx
      rw [Qse (by simpa using this)];exact hv
    · rw [List.mem_range]
      constructor
      · intro h;exact ⟨.inl h,λ _ _ _ h=>(by cases h)⟩
      · rintro ⟨h | h,_⟩
        · exact h
        · simp [doneB] at h
    · have key:∀ (l2 l1:List (List (Bool×HAtom))),toks (l1++l2) sps deps (valOf []) (List.range' l1.length l2.length)=l2.flatten:=by
        intro l2
        induction l2 with
        | nil=>intro l1;simp [toks]
        | cons x l2 ih =>
          intro l1
          have h2:=ih (l1++[x])
          simp only [List.length_append,List.length_cons,List.length_nil,List.append_assoc,List.cons_append,List.nil_append,Nat.zero_add] at h2
          simp only [List.length_cons,List.range'_succ,toks,List.flatten_cons,h2]
          congr 1
          unfold tok
          have:Nat.blt l1.length (l1++x::l2).length=true:=by simp [Nat.blt_eq]
          rw [this]
          simp
      have h0:=key Ωi []
      simp only [List.nil_append,List.length_nil] at h0
      rw [List.range_eq_range',h0]
      exact h.drew
theorem Run.drawE {id:Nat} {l:List Oper} {Ωs:List (Bool×HAtom)} (Lo:List (Nat×Value)) (es:List Bool) (sps:List Sp) (deps:List (List Nat)) (Ωi:List (List (Bool×HAtom))) (fin:List Nat) (hm:C.P.follows .mixedOrders=true) (hle:Nat.ble sps.length l.toArray.size=true) (hok:drawOk l.toArray L sps deps Ωi.length=true) (hfin:finOk sps Ωi.length fin=true) (hes:earlyOk l.toArray Lo L sps es=true)
    (h:St e w Γ (Ωi.flatten++Ωs)) (T:AllObE C e l.toArray Lo L Γ Ωs Ωi sps deps 0 es sps deps l)
    (K:∀ vs w',vs.length=sps.length→(∀ i sp j,sps[i]?=some sp→sp.same=some j→vs.getD i undef=vs.getD j undef)→St e w' (factL sps vs++Γ) (toks Ωi sps deps (λ j=>vs.getD j undef) fin++Ωs)→RunL C l.toArray (l.drop sps.length) sps.length k (outL sps vs++L) w') :
    Run C (.code (.region id l.toArray true)::k) (Lo++L) w:=by
  intro a ha hd b cs hb hk hro
  have hL:=Look.of (L:=L) hle hok
  simp only [earlyOk,Bool.and_eq_true] at hes
  have hJ:J C e l.toArray L Lo Γ Ωs Ωi sps deps [] a w.drew:=Qmy ha hd hes.1 h
  have hgo:=Qtf (k:=k) (Lo:=Lo) (Lf:=ely es Lo L) hL hfin (λ h1 h2 h3=>by have:=T.at h1 h2 h3;rwa [Nat.zero_add] at this) (λ i t v hi hv=>by
    unfold ely at hv
    cases hb2:es.getD i false with
    | false=>rw [hb2] at hv;exact .inl hv
    | true =>
      rw [hb2] at hv
      simp only [cond_true] at hv
      rcases Qvt hv with hv | hv
      · refine .inr ⟨hv,λ j sp hj hd2=>?_⟩
        have h1:=List.all_eq_true.1 hes.2 i (List.mem_range.2 hi)
        rw [hb2] at h1
        simp only [Bool.not_true,Bool.false_or] at h1
        obtain ⟨x,hx⟩:=Qrd hv
        have h2:=List.all_eq_true.1 (List.all_eq_true.1 h1 _ hx) j (List.mem_range.2 (List.getElem?_eq_some_iff.1 hj).1)
        rw [hj] at h2
        simp only [hd2] at h2
        have:Nat.beq t t=true:=by simp
        rw [this] at h2
        simp only [Bool.not_true,Bool.false_or] at h2
        rcases Bool.or_eq_true_iff.1 h2 with h2 | h2
        · exact .inl (Nat.eq_of_beq_eq_true h2)
        · exact .inr ⟨_,h2⟩
      · exact .inl hv) K l.length (w.tape w.drawn (.order b.fn id)) (Array.replicate l.length false) [] a w.drew (by simp) (by simp) (λ i hi=>by simp [doneB,Array.getD_eq_getD_getElem?,hi]) hJ b cs hb hk hro
  obtain ⟨x,w2,fr,hq,hs,hf,hlv⟩:=hgo
  refine ⟨x,w2,fr,hq,.head stepR_region_draw ?_,hf,hlv⟩
  simp only [Region.schedule,hm,Bool.true_or,if_true,Region.linearise,List.size_toArray]
  exact hs
theorem Run.draw {id:Nat} {l:List Oper} {Ωs:List (Bool×HAtom)} (sps:List Sp) (deps:List (List Nat)) (Ωi:List (List (Bool×HAtom))) (fin:List Nat) (hm:C.P.follows .mixedOrders=true) (hle:Nat.ble sps.length l.toArray.size=true) (hok:drawOk l.toArray L sps deps Ωi.length=true) (hfin:finOk sps Ωi.length fin=true)
    (h:St e w Γ (Ωi.flatten++Ωs)) (T:AllOb C e l.toArray L Γ Ωs Ωi sps deps 0 sps deps l)
    (K:∀ vs w',vs.length=sps.length→(∀ i sp j,sps[i]?=some sp→sp.same=some j→vs.getD i undef=vs.getD j undef)→St e w' (factL sps vs++Γ) (toks Ωi sps deps (λ j=>vs.getD j undef) fin++Ωs)→RunL C l.toArray (l.drop sps.length) sps.length k (outL sps vs++L) w') :
    Run C (.code (.region id l.toArray true)::k) L w:=by
  intro a ha hd b cs hb hk hro
  have hL:=Look.of (L:=L) hle hok
  have hJ:J C e l.toArray L [] Γ Ωs Ωi sps deps [] a w.drew:=Qmy (Lo:=[]) ha hd (List.all_eq_true.2 (λ _ _=>rfl)) h
  have hgo:=Qtf (k:=k) (Lo:=[]) (Lf:=λ _=>L) hL hfin (λ h1 h2 h3=>by have:=T.at h1 h2 h3;rwa [Nat.zero_add] at this) (λ _ _ _ _ h=>.inl h) K l.length (w.tape w.drawn (.order b.fn id)) (Array.replicate l.length false) [] a w.drew (by simp) (by simp) (λ i hi=>by simp [doneB,Array.getD_eq_getD_getElem?,hi]) hJ b cs hb hk hro
  obtain ⟨x,w2,fr,hq,hs,hf,hlv⟩:=hgo
  refine ⟨x,w2,fr,hq,.head stepR_region_draw ?_,hf,hlv⟩
  simp only [Region.schedule,hm,Bool.true_or,if_true,Region.linearise,List.size_toArray]
  exact hs
end
end Lift
namespace Lift
open Go
inductive Facts (B:Nat) (Γ:List (Bool×Atom)):List (Bool×Atom)→Prop
  | nil:Facts B Γ []
  | atm {x : Bool × Atom} {Γ' : List (Bool × Atom)} (h : At Γ x) (K : Facts B Γ Γ') : Facts B Γ (x :: Γ')
  | val {α : Type} {f : Bool} {r : Rep α} {v : Value} {x : α} {Γ' : List (Bool × Atom)} (h : V B Γ f r v x) (K : Facts B Γ Γ') : Facts B Γ ((f, .val r v x) :: Γ')
inductive Picks {α:Type}:List α→List α→Prop
  | nil {l:List α}:Picks l []
  | cons {l l1 l':List α} {x:α} (h:Pick l x l1) (K:Picks l1 l'):Picks l (x::l')
inductive PicksR {α:Type}:List α→List α→List α→Prop
  | nil {l:List α}:PicksR l [] l
  | cons {l l1 l' r:List α} {x:α} (h:Pick l x l1) (K:PicksR l1 l' r):PicksR l (x::l') r
theorem Facts.sat {B : Nat} {Γ Γ' : List (Bool × Atom)} {S : Blks} {w : World} (h : Facts B Γ Γ') (hs : Sat B S w Γ) : Sat B S w Γ' := by
  induction h with
  | nil=>trivial
  | @atm x Γ' h _ ih => exact ⟨hs.at h, ih⟩
  | val h _ ih=>exact ⟨h S w hs,ih⟩
theorem St.facts {e : En} {w : World} {Γ Γ' : List (Bool × Atom)} {Ω : List (Bool × HAtom)} (h : St e w Γ Ω) (hΓ : Facts e.w.heap.size Γ Γ') : St e w Γ' Ω :=
  let ⟨S,G,I,hs,ho⟩:=h;⟨S,G,I,hΓ.sat hs,ho⟩
theorem St.picks {e : En} {w : World} {Γ : List (Bool × Atom)} {Ω Ω' : List (Bool × HAtom)} (h : St e w Γ Ω) (hΩ : Picks Ω Ω') : St e w Γ Ω' := by
  have key : ∀ {Ω Ω' : List (Bool × HAtom)}, Picks Ω Ω' → ∀ (Ω0 : List (Bool × HAtom)), St e w Γ (Ω0 ++ Ω) → St e w Γ (Ω0 ++ Ω') := by
    intro Ω Ω' hp
    induction hp with
    | nil =>
      intro Ω0 h
      obtain ⟨S,G,I,hs,ho⟩:=h
      obtain ⟨G1,G2,h1,_,h3,_⟩:=ho.split
      exact ⟨S,G1,⟨I.step,I.sb,λ b hb=>I.gb b ((h1 b).2 (.inl hb)),λ b hb hg=>I.dis b hb ((h1 b).2 (.inl hg)),I.s0,λ b hb=>I.g0 b ((h1 b).2 (.inl hb))⟩,hs,by simpa using h3⟩
    | @cons l l1 l' x hx _ ih =>
      intro Ω0 h
      have h2:St e w Γ ((Ω0++[x])++l1):=by
        obtain ⟨S,G,I,hs,ho⟩:=h
        obtain ⟨G1,G2,h1,h2,h3,h4⟩:=ho.split
        have h5:=h4.pick hx
        have h6:=OSat.join h5 h2 h3
        have:(λ b=>G1 b∨G2 b)=G:=by funext b;rw [h1]
        rw [this] at h6
        exact ⟨S,G,I,hs,by simpa using h6⟩
      have:=ih (Ω0++[x]) h2
      simpa using this
  simpa using key hΩ [] (by simpa using h)
theorem St.front {e : En} {w : World} {Γ : List (Bool × Atom)} {Ω Ωa Ω' : List (Bool × HAtom)} (h : St e w Γ Ω) (hΩ : PicksR Ω Ωa Ω') : St e w Γ (Ωa ++ Ω') := by
  have key : ∀ {Ω Ωa Ω' : List (Bool × HAtom)}, PicksR Ω Ωa Ω' → ∀ (Ω0 : List (Bool × HAtom)), St e w Γ (Ω0 ++ Ω) → St e w Γ (Ω0 ++ (Ωa ++ Ω')) := by
    intro Ω Ωa Ω' hp
    induction hp with
    | nil=>intro Ω0 h;simpa using h
    | @cons l l1 l' r x hx _ ih =>
      intro Ω0 h
      have h2:St e w Γ ((Ω0++[x])++l1):=by
        obtain ⟨S,G,I,hs,ho⟩:=h
        obtain ⟨G1,G2,h1,h2,h3,h4⟩:=ho.split
        have h5:=h4.pick hx
        have h6:=OSat.join h5 h2 h3
        have:(λ b=>G1 b∨G2 b)=G:=by funext b;rw [h1]
        rw [this] at h6
        exact ⟨S,G,I,hs,by simpa using h6⟩
      have:=ih (Ω0++[x]) h2
      simpa using this
  simpa using key hΩ [] (by simpa using h)
theorem Post.mk' {e:En} {w:World} {Γ Γr:List (Bool×Atom)} {Ωr Ωo:List (Bool×HAtom)} {R:Shape} {v:Value} (hR:R v Γr Ωr Ωo) (h:St e w Γ ((Ωr++Ωo)++[])) (hΓ:Facts e.w.heap.size Γ Γr):Post e R v w:=Post.mk h hR (λ _ _ hs=>hΓ.sat hs)
theorem Put.of {α β : Type} {r : Rep α} {off : Nat} {fr : Rep β} {x x' x'' : α} {y : β} (h : Put r off fr x y x') (e : x' = x'') : Put r off fr x y x'' := e ▸ h
section
variable {C:Cx} {L:List (Nat×Value)} {w:World} {ops:Array Oper} {Z:List (Nat×Value)→World→Prop} {d:Nat} {t T:TypeId} {p:String} {af:Array Edge} {g:Option (Nat×Bool)}
variable {e : En} {Γ : List (Bool × Atom)} {Ω Ω' : List (Bool × HAtom)} {f : Bool} {α β : Type} {r : Rep α} {fr : Rep β} {x : α} {y : β}
theorem OpS.nchk {a : Operand} {q : Value} {T0 : TypeId} (h : St e w Γ Ω) (hp : Pick Ω (f, .box T0 r q x) Ω') (hg : gd ops L g = some true) (hd : Nat.blt d C.fn.ntmps = true) (hx : ev L a = some q)
    (K:Z ((d,q)::L) w):OpS C ops ⟨some d,.nilCheck a,t,p,af,g⟩ L w Z:=by
  obtain ⟨S,G,I,hs,hO⟩:=h
  obtain ⟨G1,G2,_,_,_,⟨b,cs,rfl,_,hh,hr⟩,_⟩:=hO.pick hp
  exact OpS.val hg rfl hd (λ ac hac=>by simp [execOp,hac.ev hx]) K
end
inductive Res (L:List (Nat×Value)) (P:Program) (e:En) (w:World):List ResultVar→List Value→Prop
  | nil:Res L P e w [] []
  | tmp {t:Nat} {v:Value} {rs:List ResultVar} {vs:List Value} (h:lk L t=some v) (K:Res L P e w rs vs):Res L P e w (.tmp t::rs) (v::vs)
  | cell {t:Nat} {T:TypeId} {v q:Value} {rs:List ResultVar} {vs:List Value} (h:lk L t=some q) (hr:∃ b,q=.pointer (some ⟨b,0,none⟩)∧(loadVar T ⟨b,0,none⟩).run P w=.ok v w) (K:Res L P e w rs vs):Res L P e w (.cell t T::rs) (v::vs)
def pkV:List Value→Value
  | [v]=>v
  | vs=>.tuple vs.toArray
def resV (tmps:Array Value):ResultVar→Sem Value
  | .tmp t=>pure (tmps.getD t undef)
  | .cell b t=>do loadVar t (← asAddr (tmps.getD b undef))
theorem Quh (fn:Func) (tmps:Array Value):results fn tmps=(do let vs ← fn.results.mapM (resV tmps);pure (if h:vs.size=1 then vs[0] else .tuple vs)):=by
  unfold results
  congr 1
theorem Res.run {C:Cx} {L:List (Nat×Value)} {e:En} {w:World} {vs:List Value} {rs:List ResultVar} (hrs:C.fn.results=rs.toArray) (h:Res L C.P e w rs vs) :
    ∀ a:Act,Agree C.fn.ntmps L a→(results C.fn a.tmps).run C.P w=.ok (pkV vs) w:=by
  intro a ha
  have key:∀ {rs:List ResultVar} {vs:List Value},Res L C.P e w rs vs→(rs.mapM (resV a.tmps)).run C.P w=.ok vs w:=by
    intro rs vs h
    induction h with
    | nil=>rfl
    | tmp h _ ih=>simp only [List.mapM_cons,resV,Sem.run_bind,Sem.run_pure,Result.andThen_ok,ih,Qnd ha h]
    | cell h hr _ ih =>
      obtain ⟨b,rfl,hl⟩:=hr
      have hA:(asAddr (.pointer (some ⟨b,0,none⟩))).run C.P w=.ok ⟨b,0,none⟩ w:=rfl
      simp only [List.mapM_cons,resV,Sem.run_bind,Sem.run_pure,Result.andThen_ok,ih,Qnd ha h,hA,hl]
  have hk:=key h
  rw [Quh,hrs,List.mapM_toArray]
  simp only [Sem.run_bind,map_eq_pure_bind,hk,Result.andThen_ok,Sem.run_pure]
  match vs with
  | []=>rfl
  | [v]=>rfl
  | _::_::_=>rfl
theorem Qaq {α : Type} {P : Program} {T T0 : TypeId} {r : Rep α} {f : Bool} {q : Value} {x : α} {e : En} {w : World} {Γ : List (Bool × Atom)} {Ω Ω' : List (Bool × HAtom)} (h : St e w Γ Ω) (hp : Pick Ω (f, .box T0 r q x) Ω') (ht : Ty P T r) :
    ∃ v,(∃ b,q=.pointer (some ⟨b,0,none⟩)∧(loadVar T ⟨b,0,none⟩).run P w=.ok v w)∧St e w ((f,.val r v x)::Γ) Ω:=by
  obtain ⟨S,G,I,hs,ho⟩:=h
  obtain ⟨G1,G2,_,_,_,⟨b,cs,rfl,_,hh,hr⟩,_⟩:=ho.pick hp
  have hl:=r.len hr
  have hc:=Qle hh 0 r.n
  simp only [List.drop_zero,← hl,List.take_length] at hc
  exact ⟨_,⟨b,rfl,Qhw ht hc hr⟩,S,G,I,⟨Rep.val_pack ht.fl hr,hs⟩,ho⟩
end Lift
