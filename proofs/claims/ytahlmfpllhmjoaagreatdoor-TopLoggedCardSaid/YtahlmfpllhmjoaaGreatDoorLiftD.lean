import Derived.Test.YtahlmfpllhmjoaaGreatDoorLiftC
set_option linter.unusedVariables false
set_option linter.unusedSimpArgs false
namespace Lift
open Go
def TI (P:Program) (t:TypeId) (z:Value) (n b:Nat):Prop:=∃ i,P.info? t=some i∧i.zero=some z∧i.size=n∧i.bytes=b
theorem TI.of {P:Program} {t:TypeId} {z:Value} {n b:Nat} (h:(P.info? t).map (λ i=>(i.zero,i.size,i.bytes))=some (some z,n,b)):TI P t z n b:=by
  cases hi:P.info? t with
  | none=>rw [hi] at h;simp at h
  | some i=>rw [hi] at h;simp at h;exact ⟨i,hi,h.1,h.2.1,h.2.2⟩
theorem Qkw {P:Program} {t:TypeId} {z:Value} {n b:Nat} (h:TI P t z n b) (w:World):(Go.sizeOf t).run P w=.ok n w:=by
  obtain ⟨i,hi,_,hs,_⟩:=h;simp [Go.sizeOf,typeInfo,hi,hs]
theorem Qcz {P:Program} {t:TypeId} {z:Value} {n b:Nat} (h:TI P t z n b) (w:World):(zeroValue t).run P w=.ok z w:=by
  obtain ⟨i,hi,hz,_⟩:=h;simp [zeroValue,typeInfo,hi,hz]
structure Ty {α:Type} (P:Program) (t:TypeId) (r:Rep α):Prop where
  ag:∃ D,P.underlying t=some D∧(match D with | .struct _ | .array _ _=>true | _=>false)=r.agg
  sz:(P.info? t).map (·.size)=some r.n
  fl:r.agg=false→r.n=1
theorem Ty.isAgg {α:Type} {P:Program} {t:TypeId} {r:Rep α} (h:Ty P t r) (w:World):(isAgg t).run P w=.ok r.agg w:=by
  obtain ⟨D,hD,ha⟩:=h.ag
  unfold Go.isAgg
  simp only [Sem.run_bind,run_underlying hD,Result.andThen_ok]
  rw [← ha]
  cases D<;>rfl
theorem Ty.size {α:Type} {P:Program} {t:TypeId} {r:Rep α} (h:Ty P t r) (w:World):(Go.sizeOf t).run P w=.ok r.n w:=by
  have:=h.sz
  cases hi:P.info? t with
  | none=>rw [hi] at this;simp at this
  | some i=>rw [hi] at this;simp at this;simp [Go.sizeOf,typeInfo,hi,this]
theorem Qaj (b o j:Nat):(⟨b,o,none⟩:Addr).add j=⟨b,o+j,none⟩:=Addr.add_lit b o j
theorem Qhw {α:Type} {P:Program} {t:TypeId} {r:Rep α} (h:Ty P t r) {S:Blks} {w:World} {b o:Nat} {cs:List Value} {x:α} (hc:cellsAt w b o cs) (hr:r.rel S w cs x) :
    (loadVar t ⟨b,o,none⟩).run P w=.ok (r.pack cs) w:=by
  unfold loadVar
  simp only [Sem.run_bind,h.isAgg,Result.andThen_ok]
  have hl:=r.len hr
  have hL:=run_loadCells_list (P:=P) w ⟨b,o,none⟩ cs (λ j v hj=>by rw [Qaj];exact hc j v hj)
  cases ha:r.agg with
  | true=>rw [hl] at hL;simp [h.size,hL,Rep.pack,ha]
  | false =>
    rw [h.fl ha] at hl
    match cs,hl with
    | [c],_ =>
      have:=hc 0 c rfl
      simp [load,Sem.run,Rep.pack,ha]
      simp at this
      rw [this]
def padd:Value→Nat→Value
  | .pointer (some a),n=>.pointer (some (a.add n))
  | v,_=>v
def sp:Value→Value
  | .slice p _ _=>.pointer p
  | v=>v
section
variable {e : En} {w : World} {Γ : List (Bool × Atom)} {Ω Ω' : List (Bool × HAtom)}
theorem St.addΓ {f:Bool} {a:Atom} (h:St e w Γ Ω) (ha:∀ S,Sat e.w.heap.size S w Γ→a.p (fl f e.w.heap.size S) w):St e w ((f,a)::Γ) Ω:=by
  obtain ⟨S,G,I,hs,ho⟩:=h
  exact ⟨S,G,I,⟨ha S hs,hs⟩,ho⟩
theorem St.nil {α:Type} (T:TypeId) (r:Rep α) (h:St e w Γ Ω):St e w Γ ((true,.slice T r (.slice none 0 0) [])::Ω):=by
  obtain ⟨S,G,I,hs,ho⟩:=h
  exact ⟨S,G,I,hs,λ _=>False,G,λ _=>by simp,λ _ h=>h.elim,λ _ _ h=>h.elim,⟨[],World.ownsRow_nil _ _ _ _,rfl,λ b=>by simp [Value.ownBlock]⟩,ho⟩
theorem St.drop {x:Bool×HAtom} (h:St e w Γ (x::Ω)):St e w Γ Ω:=by
  obtain ⟨S,G,I,hs,G1,G2,h1,h2,h3,h4,h5⟩:=h
  exact ⟨S,G2,⟨I.step,I.sb,λ b hb=>I.gb b ((h1 b).2 (.inr hb)),λ b hb hg=>I.dis b hb ((h1 b).2 (.inr hg)),I.s0,λ b hb=>I.g0 b ((h1 b).2 (.inr hb))⟩,hs,h5⟩
theorem Qpo {α:Type} {T:TypeId} {r:Rep α} {v:Value} {l:List α} {S G:Blks} {w:World} (h:(HAtom.slice T r v l).p G S w) (hs:∀ b,G b→S b):r.slice.val S w v l:=by
  obtain ⟨xs,hown,hel,hG⟩:=h
  rcases hown.2 with ⟨rfl,hn⟩ | ⟨g,cap,cur,rfl,_,hg,hnc,hcm,hcs,htake⟩
  · have:l=[]:=List.eq_nil_of_length_eq_zero hn
    subst this
    exact Zr.slice r _ w
  · refine ⟨some ⟨g,0,none⟩,cap,rfl,hnc,hcm,λ _=>⟨g,0,xs,rfl,hs g ((hG g).2 rfl),λ j u hu=>?_,hel⟩⟩
    rw [Nat.zero_add,cell_of_row w g j cur T (0,0) hg]
    rw [← htake,List.getElem?_take] at hu
    split at hu
    · simpa using hu
    · cases hu
theorem St.freeze {α:Type} {T:TypeId} {r:Rep α} {v:Value} {l:List α} {f:Bool} (h:St e w Γ ((f,.slice T r v l)::Ω)):St e w ((f,.val r.slice v l)::Γ) Ω:=by
  obtain ⟨S,G,I,hs,G1,G2,h1,h2,h3,h4,h5⟩:=h
  have hsub:∀ b,S b→S b∨G1 b:=λ b hb=>.inl hb
  refine ⟨λ b=>S b∨G1 b,G2,⟨I.step,?_,λ b hb=>I.gb b ((h1 b).2 (.inr hb)),?_,?_,λ b hb=>I.g0 b ((h1 b).2 (.inr hb))⟩,⟨?_,hs.st hsub (λ _ _=>rfl)⟩,OSat.st hsub (λ _ _=>rfl) (λ _ _=>rfl) h5⟩
  · rintro b (hb | hb)
    · exact I.sb b hb
    · exact I.gb b ((h1 b).2 (.inl hb))
  · rintro b (hb | hb) hg
    · exact I.dis b hb ((h1 b).2 (.inr hg))
    · exact h2 b hb hg
  · rintro b (hb | hb)
    · exact I.s0 b hb
    · exact .inr (I.g0 b ((h1 b).2 (.inl hb)))
  · exact Qpo ((HAtom.slice T r v l).st (fl.mono hsub) (λ _ _=>rfl) (λ _ _=>rfl) h4) (λ b hb=>⟨.inr hb,λ hf=>h3 b hf hb⟩)
theorem Inv.alloc {S G:Blks} (I:Inv e S G w) (o:Obj):Inv e S (λ b=>b=w.heap.size∨G b) (w.alloc o) where
  step:=⟨I.step.os,I.step.tape,I.step.output,by have:=I.step.size;simp;omega,λ b hb hg=>by rw [heap_alloc_old w o (by have:=I.step.size;omega)];exact I.step.block b hb hg⟩
  sb:=λ b hb=>by have:=I.sb b hb;simp;omega
  gb:=by
    rintro b (rfl | hb)
    · simp
    · have:=I.gb b hb;simp;omega
  dis:=by
    rintro b hb (rfl | hg)
    · exact absurd (I.sb _ hb) (Nat.lt_irrefl _)
    · exact I.dis b hb hg
  s0:=I.s0
  g0:=by
    rintro b (rfl | hb)
    · exact .inr I.step.size
    · exact I.g0 b hb
theorem Inv.old {S G:Blks} (I:Inv e S G w) (o:Obj) {b:Nat} (h:S b∨G b):(w.alloc o).heap[b]?=w.heap[b]? :=
  heap_alloc_old w o (h.elim (I.sb b) (I.gb b))
theorem St.alloc {o:Obj} {a:HAtom} (h:St e w Γ Ω) (ha:∀ S,Sat e.w.heap.size S w Γ→(∀ b,S b→b<w.heap.size)→a.p (λ b=>b=w.heap.size) (fl true e.w.heap.size S) (w.alloc o)):St e (w.alloc o) Γ ((true,a)::Ω):=by
  obtain ⟨S,G,I,hs,ho⟩:=h
  refine ⟨S,_,I.alloc o,hs.st (λ _ h=>h) (λ b hb=>I.old o (.inl hb)),λ b=>b=w.heap.size,G,λ _=>Iff.rfl,λ b hb hg=>by subst hb;exact absurd (I.gb _ hg) (Nat.lt_irrefl _),
    λ b _ hb=>by subst hb;exact I.step.size,ha S hs I.sb,ho.st (λ _ h=>h) (λ b hb=>I.old o (.inl hb)) (λ b hb=>I.old o (.inr hb))⟩
theorem St.drew (h:St e w Γ Ω):St e w.drew Γ Ω:=by
  obtain ⟨S,G,I,hs,ho⟩:=h
  exact ⟨S,G,⟨⟨I.step.os,I.step.tape,I.step.output,I.step.size,I.step.block⟩,I.sb,I.gb,I.dis,I.s0,I.g0⟩,hs.st (w:=w) (w':=w.drew) (λ _ h=>h) (λ _ _=>rfl),ho.st (w:=w) (w':=w.drew) (λ _ h=>h) (λ _ _=>rfl) (λ _ _=>rfl)⟩
theorem St.write {f:Bool} {a a':HAtom} {w':World} (h:St e w Γ ((f,a)::Ω))
    (hw:∀ S G1,Sat e.w.heap.size S w Γ→a.p G1 (fl f e.w.heap.size S) w→(∀ b,S b→¬ G1 b)→(∀ b,f=true→G1 b→e.w.heap.size≤b)→(∀ b,G1 b→b<w.heap.size) →
      ∃ G1',(∀ b,G1' b→G1 b∨(w.heap.size≤b∧b<w'.heap.size))∧(w'.os=w.os∧w'.tape=w.tape∧w'.output=w.output∧w.heap.size≤w'.heap.size)∧(∀ b,b<w.heap.size→¬ G1 b→w'.heap[b]?=w.heap[b]?) ∧
        a'.p G1' (fl f e.w.heap.size S) w'):St e w' Γ ((f,a')::Ω):=by
  obtain ⟨S,G,I,hs,G1,G2,h1,h2,h3,h4,h5⟩:=h
  have hl1:∀ b,G1 b→b<w.heap.size:=λ b hb=>I.gb b ((h1 b).2 (.inl hb))
  obtain ⟨G1',k1,⟨k2,k3,k4,k5⟩,k6,k7⟩:=hw S G1 hs h4 (λ b hb hg=>I.dis b hb ((h1 b).2 (.inl hg))) h3 hl1
  have keepS:∀ b,S b→w'.heap[b]?=w.heap[b]?:=λ b hb=>k6 b (I.sb b hb) (λ hg=>I.dis b hb ((h1 b).2 (.inl hg)))
  have keepG:∀ b,G2 b→w'.heap[b]?=w.heap[b]?:=λ b hb=>k6 b (I.gb b ((h1 b).2 (.inr hb))) (λ hg=>h2 b hg hb)
  refine ⟨S,λ b=>G1' b∨G2 b,⟨⟨k2.trans I.step.os,k3.trans I.step.tape,k4.trans I.step.output,Nat.le_trans I.step.size k5,λ b hb hg=>?_⟩,λ b hb=>Nat.lt_of_lt_of_le (I.sb b hb) k5,?_,?_,I.s0,?_⟩,
    hs.st (λ _ h=>h) keepS,G1',G2,λ _=>Iff.rfl,?_,?_,k7,h5.st (λ _ h=>h) keepS keepG⟩
  · rw [k6 b (Nat.lt_of_lt_of_le hb I.step.size) (λ h=>?_)]
    · exact I.step.block b hb hg
    · rcases I.g0 b ((h1 b).2 (.inl h)) with h | h
      · exact hg h
      · omega
  · rintro b (hb | hb)
    · rcases k1 b hb with h | h
      · exact Nat.lt_of_lt_of_le (hl1 b h) k5
      · exact h.2
    · exact Nat.lt_of_lt_of_le (I.gb b ((h1 b).2 (.inr hb))) k5
  · rintro b hb (hg | hg)
    · rcases k1 b hg with h | h
      · exact I.dis b hb ((h1 b).2 (.inl h))
      · have:=I.sb b hb;omega
    · exact I.dis b hb ((h1 b).2 (.inr hg))
  · rintro b (hb | hb)
    · rcases k1 b hb with h | h
      · exact I.g0 b ((h1 b).2 (.inl h))
      · exact .inr (Nat.le_trans I.step.size h.1)
    · exact I.g0 b ((h1 b).2 (.inr hb))
  · intro b hb hg
    rcases k1 b hb with h | h
    · exact h2 b h hg
    · have:=I.gb b ((h1 b).2 (.inr hg));omega
  · intro b hf hb
    rcases k1 b hb with h | h
    · exact h3 b hf h
    · exact Nat.le_trans I.step.size h.1
end
end Lift
