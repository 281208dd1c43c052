import Derived.Test.YtahlmfpllhmjoaaGreatDoorLiftW
import Derived.RangeFuncRecord
import Derived.RangeFuncIn
import Derived.RangeFuncLeaves
set_option linter.unusedVariables false
set_option linter.unusedSimpArgs false
namespace Lift
open Go
def HAtom.loopR (l:Nat) (q:Loop):HAtom where
  p:=λ G _ w=>w.heap[l]?=some (.loop q)∧∀ b,G b↔b=l
  st:=by
    intro G S S' w w' _ _ kg h
    exact ⟨by rw [kg l ((h.2 l).2 rfl)];exact h.1,h.2⟩
def HAtom.dfr (D:Nat):HAtom where
  p:=λ G _ w=>w.heap[D]?=some (.deferred (some []))∧∀ b,G b↔b=D
  st:=by
    intro G S S' w w' _ _ kg h
    exact ⟨by rw [kg D ((h.2 D).2 rfl)];exact h.1,h.2⟩
def HAtom.pk (X:List (Bool×Atom)→List (Bool×HAtom)→Prop):HAtom where
  p:=λ G S w=>∃ Γ Ω,X Γ Ω∧∃ Sx Gx:Blks,(∀ b,G b↔Sx b∨Gx b)∧(∀ b,Sx b→¬ Gx b)∧Sat 0 (λ b=>S b∨Sx b) w Γ∧OSat 0 (λ b=>S b∨Sx b) w Ω Gx
  st:=by
    rintro G S S' w w' a k kg ⟨Γ,Ω,hX,Sx,Gx,h1,h2,h3,h4⟩
    have sub:∀ b,S b∨Sx b→S' b∨Sx b:=λ b hb=>hb.imp (a b) id
    have same:∀ b,S b∨Sx b→w'.heap[b]?=w.heap[b]?:=λ b hb=>hb.elim (k b) (λ h=>kg b ((h1 b).2 (.inl h)))
    exact ⟨Γ,Ω,hX,Sx,Gx,h1,h2,h3.st sub same,h4.st sub same (λ b hb=>kg b ((h1 b).2 (.inr hb)))⟩
theorem Sat.re {B C:Nat} {S S':Blks} {w:World} (hS:∀ b,S b→S' b):∀ {Γ:List (Bool×Atom)},allF Γ=true→Sat B S w Γ→Sat C S' w Γ
  | [],_,_=>trivial
  | (true,_)::_,h,_=>by simp [allF] at h
  | (false,a)::Γ,h,⟨h1,h2⟩=>⟨a.st (λ b hb=>⟨hS b hb.1,λ h=>by cases h⟩) (λ _ _=>rfl) h1,Sat.re hS (by simpa [allF] using h) h2⟩
theorem OSat.re {B C:Nat} {S S':Blks} {w:World} (hS:∀ b,S b→S' b):∀ {Ω:List (Bool×HAtom)} {G:Blks},allF Ω=true→OSat B S w Ω G→OSat C S' w Ω G
  | [],_,_,h=>h
  | (true,_)::_,_,h,_=>by simp [allF] at h
  | (false,a)::Ω,_,h,⟨G1,G2,h1,h2,_,h4,h5⟩=>⟨G1,G2,h1,h2,λ _ hf _=>(by cases hf),a.st (λ b hb=>⟨hS b hb.1,λ h=>by cases h⟩) (λ _ _=>rfl) (λ _ _=>rfl) h4,OSat.re hS (by simpa [allF] using h) h5⟩
section
variable {e:En} {w:World} {Γ:List (Bool×Atom)} {Ω:List (Bool×HAtom)} {f:Bool}
theorem St.put {w':World} {a':HAtom} {S G G1 G2 G1':Blks} (I:Inv e S G w) (hs:Sat e.w.heap.size S w Γ) (h1:∀ b,G b↔G1 b∨G2 b) (h2:∀ b,G1 b→¬ G2 b) (h3:∀ b,f=true→G1 b→e.w.heap.size≤b) (h5:OSat e.w.heap.size S w Ω G2)
    (k1:∀ b,G1' b→b<w'.heap.size∧(G1 b∨w.heap.size≤b)) (k2:Step G1 w w') (k7:a'.p G1' (fl f e.w.heap.size S) w'):St e w' Γ ((f,a')::Ω):=by
  have keepS:∀ b,S b→w'.heap[b]?=w.heap[b]?:=λ b hb=>k2.block b (I.sb b hb) (λ hg=>I.dis b hb ((h1 b).2 (.inl hg)))
  have keepG:∀ b,G2 b→w'.heap[b]?=w.heap[b]?:=λ b hb=>k2.block b (I.gb b ((h1 b).2 (.inr hb))) (λ hg=>h2 b hg hb)
  have hsz:=k2.size
  have hB:=I.step.size
  refine ⟨S,λ b=>G1' b∨G2 b,⟨⟨k2.os.trans I.step.os,k2.tape.trans I.step.tape,k2.output.trans I.step.output,Nat.le_trans I.step.size hsz,λ b hb hg=>?_⟩,λ b hb=>Nat.lt_of_lt_of_le (I.sb b hb) hsz,?_,?_,I.s0,?_⟩,
    hs.st (λ _ h=>h) keepS,G1',G2,λ _=>Iff.rfl,?_,?_,k7,h5.st (λ _ h=>h) keepS keepG⟩
  · rw [k2.block b (Nat.lt_of_lt_of_le hb hB) (λ h=>?_)]
    · exact I.step.block b hb hg
    · rcases I.g0 b ((h1 b).2 (.inl h)) with h | h
      · exact hg h
      · omega
  · rintro b (hb | hb)
    · exact (k1 b hb).1
    · exact Nat.lt_of_lt_of_le (I.gb b ((h1 b).2 (.inr hb))) hsz
  · rintro b hb (hg | hg)
    · rcases (k1 b hg).2 with h | h
      · exact I.dis b hb ((h1 b).2 (.inl h))
      · have:=I.sb b hb;omega
    · exact I.dis b hb ((h1 b).2 (.inr hg))
  · rintro b (hb | hb)
    · rcases (k1 b hb).2 with h | h
      · exact I.g0 b ((h1 b).2 (.inl h))
      · exact .inr (Nat.le_trans hB h)
    · exact I.g0 b ((h1 b).2 (.inr hb))
  · rintro b hb hg
    rcases (k1 b hb).2 with h | h
    · exact h2 b h hg
    · have:=I.gb b ((h1 b).2 (.inr hg));omega
  · intro b hf hb
    rcases (k1 b hb).2 with h | h
    · exact h3 b hf h
    · exact Nat.le_trans hB h
theorem St.pack {X:List (Bool×Atom)→List (Bool×HAtom)→Prop} {Γ0:List (Bool×Atom)} {Ω0:List (Bool×HAtom)} (h:St e w Γ (Ω0++Ω)) (hX:X Γ0 Ω0) (f1:allF Γ0=true) (f2:allF Ω0=true) (hΓ:∀ S w,Sat e.w.heap.size S w Γ→Sat e.w.heap.size S w Γ0):St e w Γ ((false,.pk X)::Ω):=by
  obtain ⟨S,G,I,hs,ho⟩:=h
  obtain ⟨G1,G2,g1,g2,g3,g4⟩:=ho.split
  refine ⟨S,G,I,hs,G1,G2,g1,g2,λ _ hf _=>(by cases hf),?_,g4⟩
  have sub:∀ b,S b→fl false e.w.heap.size S b∨False:=λ b hb=>.inl ⟨hb,λ h=>by cases h⟩
  exact ⟨Γ0,Ω0,hX,λ _=>False,G1,λ _=>by simp,λ _ h=>h.elim,(hΓ S w hs).re sub f1,g3.re sub f2⟩
theorem St.unpack {X:List (Bool×Atom)→List (Bool×HAtom)→Prop} (hXF:∀ Γ0 Ω0,X Γ0 Ω0→allF Γ0=true∧allF Ω0=true) (h:St e w Γ ((false,.pk X)::Ω)):∃ Γ0 Ω0,X Γ0 Ω0∧St e w (Γ0++Γ) (Ω0++Ω):=by
  obtain ⟨S,G,I,hs,G1,G2,g1,g2,g3,⟨Γ0,Ω0,hX,Sx,Gx,k1,k2,k3,k4⟩,g5⟩:=h
  obtain ⟨f1,f2⟩:=hXF _ _ hX
  have sub:∀ b,(fl false e.w.heap.size S b∨Sx b)→S b∨Sx b:=λ b hb=>hb.imp (λ h=>h.1) id
  have sub1:∀ b,S b→S b∨Sx b:=λ b hb=>.inl hb
  refine ⟨Γ0,Ω0,hX,λ b=>S b∨Sx b,λ b=>Gx b∨G2 b,⟨I.step,?_,?_,?_,?_,?_⟩,Sat.append (hs.st sub1 (λ _ _=>rfl)) (k3.re sub f1),OSat.join (g5.st sub1 (λ _ _=>rfl) (λ _ _=>rfl)) (λ b hb hg=>g2 b ((k1 b).2 (.inr hb)) hg) (k4.re sub f2)⟩
  · rintro b (hb | hb)
    · exact I.sb b hb
    · exact I.gb b ((g1 b).2 (.inl ((k1 b).2 (.inl hb))))
  · rintro b (hb | hb)
    · exact I.gb b ((g1 b).2 (.inl ((k1 b).2 (.inr hb))))
    · exact I.gb b ((g1 b).2 (.inr hb))
  · rintro b (hb | hb) (hg | hg)
    · exact I.dis b hb ((g1 b).2 (.inl ((k1 b).2 (.inr hg))))
    · exact I.dis b hb ((g1 b).2 (.inr hg))
    · exact k2 b hb hg
    · exact g2 b ((k1 b).2 (.inl hb)) hg
  · rintro b (hb | hb)
    · exact I.s0 b hb
    · exact .inr (I.g0 b ((g1 b).2 (.inl ((k1 b).2 (.inl hb)))))
  · rintro b (hb | hb)
    · exact I.g0 b ((g1 b).2 (.inl ((k1 b).2 (.inr hb))))
    · exact I.g0 b ((g1 b).2 (.inr hb))
theorem St.calls {P:Program} {kf:FuncId} {args:Array Value} {Γa:List (Bool×Atom)} {Ωa:List (Bool×HAtom)} {R:Shape} (h:St e w Γ (Ωa++Ω)) (hs:Spec P kf args w Γa Ωa R) (hfl:allF Ωa=true) (ha:ArgsI e.w.heap.size Γ Γa) :
    Calls P kf args w λ en w'=>∃ v,en=.returned v∧∃ Γr Ωr Ωo,R v Γr Ωr Ωo∧St e w' (Γr++Γ) (Ωr++(Ωo++Ω)):=by
  obtain ⟨S,G,I,hsat,ho⟩:=h
  obtain ⟨Ga,Gb,g1,g2,g3,g4⟩:=ho.split
  have hcall:=hs S Ga I.sb (λ b hb=>I.gb b ((g1 b).2 (.inl hb))) (λ b hb hg=>I.dis b hb ((g1 b).2 (.inl hg))) (ha.sat hsat _) (g3.re (λ _ h=>h) hfl)
  refine hcall.mono ?_
  rintro en w' ⟨v,rfl,Γr,Ωr,Ωo,hR,hstep,Sf,Gn,a1,a2,a3,a6,a7⟩
  refine ⟨v,rfl,Γr,Ωr,Ωo,hR,?_⟩
  have keep:∀ b,b<w.heap.size→¬ Ga b→w'.heap[b]?=w.heap[b]?:=λ b hb hn=>hstep.block b hb hn
  have keepS:∀ b,S b→w'.heap[b]?=w.heap[b]?:=λ b hb=>keep b (I.sb b hb) (λ h=>I.dis b hb ((g1 b).2 (.inl h)))
  have keepG:∀ b,Gb b→w'.heap[b]?=w.heap[b]?:=λ b hb=>keep b (I.gb b ((g1 b).2 (.inr hb))) (λ h=>g2 b h hb)
  have hB:=I.step.size
  have hsz:w.heap.size≤w'.heap.size:=hstep.size
  have sub1:∀ b,S b→S b∨Sf b:=λ b hb=>.inl hb
  have hGo:∀ b,Gn b→Ga b∨w.heap.size≤b:=λ b hb=>(a2 b hb).2
  have dOR:∀ b,Gn b→¬ Gb b:=by
    intro b hb hg
    rcases hGo b hb with h | h
    · exact g2 b h hg
    · have:=I.gb b ((g1 b).2 (.inr hg));omega
  have oR:=OSat.join (g4.st sub1 keepS keepG) dOR (a7.up hB (S':=λ b=>S b∨Sf b) (λ b hb=>hb))
  rw [List.append_assoc] at oR
  refine ⟨λ b=>S b∨Sf b,λ b=>Gn b∨Gb b,⟨⟨hstep.os.trans I.step.os,hstep.tape.trans I.step.tape,hstep.output.trans I.step.output,Nat.le_trans hB hsz,λ b hb hn=>?_⟩,?_,?_,?_,?_,?_⟩,
    Sat.append (hsat.st sub1 keepS) (a6.up hB (λ b hb=>hb)),oR⟩
  · rw [keep b (Nat.lt_of_lt_of_le hb hB) (λ h=>?_)]
    · exact I.step.block b hb hn
    · rcases I.g0 b ((g1 b).2 (.inl h)) with h | h
      · exact hn h
      · omega
  · rintro b (hb | hb)
    · exact Nat.lt_of_lt_of_le (I.sb b hb) hsz
    · exact (a1 b hb).2
  · rintro b (hb | hb)
    · exact (a2 b hb).1
    · exact Nat.lt_of_lt_of_le (I.gb b ((g1 b).2 (.inr hb))) hsz
  · rintro b (hb | hb) (hg | hg)
    · rcases hGo b hg with h | h
      · exact I.dis b hb ((g1 b).2 (.inl h))
      · have:=I.sb b hb;omega
    · exact I.dis b hb ((g1 b).2 (.inr hg))
    · exact a3 b hb hg
    · rcases (a1 b hb).1 with h | h
      · exact g2 b h hg
      · have:=I.gb b ((g1 b).2 (.inr hg));simp only at h;omega
  · rintro b (hb | hb)
    · exact I.s0 b hb
    · rcases (a1 b hb).1 with h | h
      · exact .inr (I.g0 b ((g1 b).2 (.inl h)))
      · exact .inr (.inr (Nat.le_trans hB h))
  · rintro b (hb | hb)
    · rcases hGo b hb with h | h
      · exact I.g0 b ((g1 b).2 (.inl h))
      · exact .inr (Nat.le_trans hB h)
    · exact I.g0 b ((g1 b).2 (.inr hb))
end
def rtmps (q:Loop) (v:Value):Array Value:=(q.params.zip #[v]).foldl (λ tmps (t,a)=>tmps.setIfInBounds t a) q.tmps
def YieldOK (P:Program) (l:Nat) {σ α:Type} (r:Rep α) (I:σ→HAtom) (bd:σ→α→Option σ):Prop :=
  ∀ (s s':σ) (x:α) (v:Value) (w:World) (S G:Blks),bd s x=some s'→(I s).p G S w→r.val S w v x→(∀ b,S b→b<w.heap.size)→(∀ b,G b→b<w.heap.size)→(∀ b,S b→¬ G b) →
    ∃ q:Loop,w.heap[l]?=some (.loop q)∧q.params.size=1∧∀ (c:Frame) (cs:List Frame),∃ (w':World) (G':Blks),Steps P (lone (Frame.round l q.fn (rtmps q v) q.assign q.body .normal) (c::cs) w) (lone (c.finish (.bool true)) cs w') ∧
      Step G w w'∧(∀ b,G' b→b<w'.heap.size∧(G b∨w.heap.size≤b))∧(I s').p G' S w'
theorem Qty {P:Program} {N:Nat} {L:List (Nat×Value)} {a:Act} (ha:Agree N L a) {x b:Operand} {l:Nat} {v:Value} (hx:ev L x=some (.func (.yield l) #[] #[])) (hy:ev L b=some v) {w:World} {q:Loop} (h:w.heap[l]?=some (.loop q)) (hs:q.params.size=1)
    {d:Option Tmp} {at_:Array TypeId} {t:TypeId} {p:String} {af:Array Edge} {g:Option (Nat×Bool)} :
    (execOp a.eval ⟨d,.call ⟨.value x,#[b],at_⟩,t,p,af,g⟩).run P w=.ok (.round l q.fn (rtmps q v) q.assign q.body) w:=by
  have hyy:=run_yield (P:=P) (args:=#[v]) h (by simp [hs])
  simp only [execOp,resolve,ha.ev hx,Deferred.ofValue,List.map_toArray,List.map_cons,List.map_nil,ha.ev hy,Sem.run_bind,Sem.run_pure,Result.andThen_ok,invoke]
  simpa [rtmps] using hyy
section
variable {C:Cx} {L:List (Nat×Value)} {w:World} {ops:Array Oper} {Z:List (Nat×Value)→World→Prop} {d:Nat} {t T:TypeId} {p:String} {af:Array Edge} {g:Option (Nat×Bool)}
variable {e : En} {Γ : List (Bool × Atom)} {Ω Ω' : List (Bool × HAtom)} {f : Bool} {σ α : Type} {r : Rep α}
theorem OpS.yield {a b : Operand} {l : Nat} {v : Value} {x : α} {I : σ → HAtom} {bd : σ → α → Option σ} {s s' : σ} {at_ : Array TypeId} (h : St e w Γ Ω) (hp : Pick Ω (false, I s) Ω') (hY : YieldOK C.P l r I bd) (hb : bd s x = some s') (hg : gd ops L g = some true) (hd : Nat.blt d C.fn.ntmps = true)
    (hx : ev L a = some (.func (.yield l) #[] #[])) (hy : ev L b = some v) (hv : V e.w.heap.size Γ f r v x) (K : ∀ w', St e w' Γ ((false, I s') :: Ω') → Z ((d, .bool true) :: L) w') : OpS C ops ⟨some d, .call ⟨.value a, #[b], at_⟩, t, p, af, g⟩ L w Z := by
  intro ac hac fr cs i is k h0 hfn hk
  obtain ⟨S,G,J,hs,G1,G2,g1,g2,g3,g4,g5⟩:=h.pick hp
  obtain ⟨q,hq,hps,hrnd⟩:=hY s s' x v w (fl false e.w.heap.size S) G1 hb g4 (r.val_stab (λ b hb=>⟨hb.1,λ h=>by cases h⟩) (λ _ _=>rfl) (hv S w hs)) (λ b hb=>J.sb b hb.1) (λ b hb=>J.gb b ((g1 b).2 (.inl hb))) (λ b hb hg=>J.dis b hb.1 ((g1 b).2 (.inl hg)))
  obtain ⟨w',G',hsteps,hstep,hG',hI⟩:=hrnd (fr.atR ac (.inRegion ops (i::is)::k)) cs
  have hfin:(fr.atR ac (.inRegion ops (i::is)::k)).finish (.bool true)=fr.atR (ac.put (some d) (.bool true)) (.inRegion ops is::k):=by
    rw [Frame.finish_atR,h0];simp
  refine ⟨.bool true,w',?_,K w' (St.put J hs g1 g2 g3 g5 hG' hstep hI),λ d' hd'=>by cases hd';exact hd⟩
  show Steps C.P _ (lone (fr.atR (ac.put (some d) (.bool true)) (.inRegion ops is::k)) cs w')
  rw [← hfin]
  refine .head (step_lone_go ?_) hsteps
  rw [stepGR_op h0 (Qid hac hg)]
  simp [stepG.apply,Qjx (Qty hac hx hy hq hps) (by simp),Frame.atR]
end
end Lift
namespace Lift
open Go
section
variable {C : Cx} {L : List (Nat × Value)} {w : World} {k : List Item} {e : En} {Γ : List (Bool × Atom)} {Ω Ω' : List (Bool × HAtom)} {f : Bool}
theorem Qlx (w:World) (l:Nat) (o:Obj) {b:Nat} (h:b≠l):(w.putObj l o).heap[b]?=w.heap[b]?:=by
  simp only [World.putObj]
  rw [Array.getElem?_setIfInBounds]
  rw [if_neg (λ e=>h e.symm)]
theorem Qst (w:World) (l:Nat) (o o':Obj) (h:w.heap[l]?=some o'):(w.putObj l o).heap[l]?=some o:=by
  simp only [World.putObj]
  rw [Array.getElem?_setIfInBounds]
  simp [(Array.getElem?_eq_some_iff.1 h).1]
theorem St.putR {l:Nat} {q q':Loop} (h:St e w Γ ((f,.loopR l q)::Ω)):St e (w.putObj l (.loop q')) Γ ((f,.loopR l q')::Ω):=by
  refine h.write (λ S G1 _ hp _ _ _=>⟨G1,λ b hb=>.inl hb,⟨rfl,rfl,rfl,by simp [World.putObj]⟩,λ b _ hn=>Qlx w l _ (λ e=>hn ((hp.2 b).2 e)),Qst w l _ _ hp.1,hp.2⟩)
theorem St.loopR_at {l:Nat} {q:Loop} (h:St e w Γ ((f,.loopR l q)::Ω)):w.heap[l]?=Option.some (.loop q):=by
  obtain ⟨S,G,I,hs,G1,G2,_,_,_,h4,_⟩:=h
  exact h4.1
theorem St.dfr_at {D:Nat} (h:St e w Γ ((f,.dfr D)::Ω)):w.heap[D]?=Option.some (.deferred (Option.some [])):=by
  obtain ⟨S,G,I,hs,G1,G2,_,_,_,h4,_⟩:=h
  exact h4.1
theorem Run.beginRound {l:Nat} {q:Loop} (hr0:C.ro=some l) (h:St e w Γ ((f,.loopR l q)::Ω)) (hq:q.state=.ready) (K:∀ w',St e w' Γ ((f,.loopR l { q with state:=.busy })::Ω)→Run C k L w'):Run C (.beginRound::k) L w:=by
  intro a ha hd b cs hb hk hro
  obtain ⟨v,w',fr,hq',hs,hf,hl⟩:=K _ h.putR a ha hd b cs hb hk hro
  exact ⟨v,w',fr,hq',.head (stepR_beginRound (hro.trans hr0) (run_beginRound h.loopR_at hq)) hs,hf,hl⟩
end
section
variable {σ α:Type} {r:Rep α}
def rinv (l:Nat) (q:Loop) (X:σ→List (Bool×Atom)→List (Bool×HAtom)→Prop) (s:σ):HAtom:=.pk (λ Γ Ω=>∃ Ω0,Ω=(false,.loopR l q)::Ω0∧X s Γ Ω0)
theorem Qnk {P:Program} {fk:FuncId} {fn:Func} (hf:P.funcs[fk]?=some fn) {l tp:Nat} {q:Loop} {L:List (Nat×Value)} {X:σ→List (Bool×Atom)→List (Bool×HAtom)→Prop} {bd:σ→α→Option σ}
    (hX:∀ s Γ Ω,X s Γ Ω→allF Γ=true∧allF Ω=true) (q1:q.state=.ready) (q2:q.pending=none) (q3:q.fn=fk) (q4:q.params=#[tp]) (htp:Nat.blt tp fn.ntmps=true) (hag:Agree fn.ntmps L { tmps:=q.tmps,defers:=[] })
    (hround:∀ (e:En) (w:World) (s s':σ) (x:α) (v:Value) (Γ:List (Bool×Atom)) (Ω:List (Bool×HAtom)),X s Γ Ω→bd s x=some s'→St e w ((false,.val r v x)::Γ) ((false,.loopR l q)::Ω) →
      Run ⟨P,fk,fn,λ _ w1=>∃ Γ1 Ω1,X s' Γ1 Ω1∧St e w1 Γ1 ((false,.loopR l { q with state:=.busy })::Ω1),hf,some l,none⟩ [.code q.assign,.beginRound,.code q.body] ((tp,v)::L) w) :
    YieldOK P l r (rinv l q X) bd:=by
  rintro s s' x v w S G hb ⟨Γ,Ω,⟨Ω0,rfl,hXs⟩,Sx,Gx,h1,h2,h3,h4⟩ hv hS hG hdis
  obtain ⟨f1,f2⟩:=hX _ _ _ hXs
  have hl0:w.heap[l]?=some (.loop q):=by obtain ⟨_,_,_,_,_,h,_⟩:=h4;exact h.1
  refine ⟨q,hl0,by rw [q4];rfl,λ c cs=>?_⟩
  have sub:∀ b,S b∨Sx b→S b∨Sx b:=λ _ h=>h
  have hst:St ⟨w,λ b=>S b∨Sx b,Gx⟩ w ((false,.val r v x)::Γ) ((false,.loopR l q)::Ω0):=by
    refine ⟨λ b=>S b∨Sx b,Gx,⟨Step.refl _ _,?_,λ b hb=>hG b ((h1 b).2 (.inr hb)),?_,λ b hb=>.inl hb,λ b hb=>.inl hb⟩,⟨r.val_stab (λ b hb=>⟨.inl hb,λ h=>by cases h⟩) (λ _ _=>rfl) hv,h3.re sub f1⟩,h4.re sub (by simpa [allF] using f2)⟩
    · rintro b (hb | hb)
      · exact hS b hb
      · exact hG b ((h1 b).2 (.inl hb))
    · rintro b (hb | hb) hg
      · exact hdis b hb ((h1 b).2 (.inr hg))
      · exact h2 b hb hg
  let fr0:Frame:={ (default:Frame) with fn:=fk,kind:=.normal,roundOf:=some l }
  have hfr:Frame.round l q.fn (rtmps q v) q.assign q.body .normal=fr0.atR { tmps:=rtmps q v,defers:=[] } [.code q.assign,.beginRound,.code q.body]:=by
    simp [Frame.round,Frame.atR,fr0,q3]
  have hagr:Agree fn.ntmps ((tp,v)::L) { tmps:=rtmps q v,defers:=[] }:=by
    have:=hag.put (d:=tp) htp v
    have e1:rtmps q v=q.tmps.setIfInBounds tp v:=by simp [rtmps,q4]
    rw [e1];exact this
  obtain ⟨v',w1,fr,⟨Γ1,Ω1,hX1,hst1⟩,hsteps,hfn,hend⟩:=hround _ w s s' x v Γ Ω0 hXs hb hst _ hagr rfl fr0 (c::cs) rfl rfl rfl
  obtain ⟨m1,m2,m3,m4⟩:fr.mode=.run∧fr.todo=[]∧fr.kind=.normal∧fr.roundOf=some l:=hend
  have hfr1:fr=fr.atR { tmps:=fr.tmps,defers:=fr.defers } []:=by
    cases fr;simp only at m1 m2 m3 m4;subst m1;subst m2;rfl
  have hl1:=hst1.loopR_at
  have hend1:(Instr.endRound l none).run P w1=.ok (.bool true) (w1.putObj l (.loop q)):=by
    have:=run_endRound (P:=P) none hl1
    simp only [Option.isNone_none,if_true] at this
    rw [this]
    have:({ { q with state:=LoopState.busy } with state:=LoopState.ready,pending:=none }:Loop)=q:=by cases q;simp only at q1 q2;subst q1;subst q2;rfl
    rw [← this]
  have hst2:St ⟨w,λ b=>S b∨Sx b,Gx⟩ (w1.putObj l (.loop q)) Γ1 ((false,.loopR l q)::Ω1):=hst1.putR
  obtain ⟨S2,G2,I,hs2,ho2⟩:=hst2
  obtain ⟨p1,p2⟩:=hX _ _ _ hX1
  have hG2:∀ b,G2 b→G b∨w.heap.size≤b:=λ b hb=>(I.g0 b hb).imp (λ h=>(h1 b).2 (.inr h)) id
  refine ⟨w1.putObj l (.loop q),λ b=>(S2 b∧¬ S b)∨G2 b,?_,⟨I.step.os,I.step.tape,I.step.output,I.step.size,λ b hb hn=>I.step.block b hb (λ h=>hn ((h1 b).2 (.inr h)))⟩,?_,Γ1,(false,.loopR l q)::Ω1,⟨Ω1,rfl,hX1⟩,λ b=>S2 b∧¬ S b,G2,λ _=>Iff.rfl,λ b hb hg=>I.dis b hb.1 hg,?_,?_⟩
  · rw [hfr]
    refine Steps.trans hsteps (.one ?_)
    rw [hfr1]
    exact stepR_round_end m4 m3 hend1
  · rintro b (hb | hb)
    · refine ⟨I.sb b hb.1,?_⟩
      rcases I.s0 b hb.1 with h | h | h
      · rcases h with h | h
        · exact absurd h hb.2
        · exact .inl ((h1 b).2 (.inl h))
      · exact .inl ((h1 b).2 (.inr h))
      · exact .inr h
    · exact ⟨I.gb b hb,hG2 b hb⟩
  · exact hs2.re (λ b hb=>by by_cases h:S b;exact .inl h;exact .inr ⟨hb,h⟩) p1
  · exact ho2.re (λ b hb=>by by_cases h:S b;exact .inl h;exact .inr ⟨hb,h⟩) (by simpa [allF] using p2)
theorem Run.rangeC {C:Cx} {L:List (Nat×Value)} {w:World} {k:List Item} {e:En} {Γ Γ0 Γa:List (Bool×Atom)} {Ω0 Ω:List (Bool×HAtom)} {g:Operand} {tp:Nat} {assign body:Code} {kf:FuncId} {fnk:Func} {cl:List Value} {bd:σ→α→Option σ} {s0 s1:σ}
    (X : σ → List (Bool × Atom) → List (Bool × HAtom) → Prop) (hX : ∀ s Γ Ω, X s Γ Ω → allF Γ = true ∧ allF Ω = true) (hro : C.ro = none) (hdf : C.df = none) (hx : ev L g = some (.func (.func kf) #[] cl.toArray)) (hkf : C.P.funcs[kf]? = some fnk) (hbk : fnk.body.isSome = true) (hnk : (fnk.name == "runtime.NumGoroutine") = false) (htp : Nat.blt tp C.fn.ntmps = true)
    (hIt:∀ (l:Nat) (I:σ→HAtom),YieldOK C.P l r I bd→∀ w,Spec C.P kf (.func (.yield l) #[] #[]::cl).toArray w Γa [(false,I s0)] (λ v Γr Ωr Ωo=>v=.tuple #[]∧Γr=[]∧Ωr=[]∧Ωo=[(false,I s1)])) (ha:ArgsI e.w.heap.size Γ Γa)
    (h:St e w Γ (Ω0++Ω)) (hX0:X s0 Γ0 Ω0) (hΓ:Facts e.w.heap.size Γ Γ0)
    (hround:∀ (l:Nat) (q:Loop) (e:En) (w:World) (s s':σ) (x:α) (v:Value) (Γ:List (Bool×Atom)) (Ω:List (Bool×HAtom)),q.state=.ready→X s Γ Ω→bd s x=some s'→St e w ((false,.val r v x)::Γ) ((false,.loopR l q)::Ω) →
      Run ⟨C.P,C.f,C.fn,λ _ w1=>∃ Γ1 Ω1,X s' Γ1 Ω1∧St e w1 Γ1 ((false,.loopR l { q with state:=.busy })::Ω1),C.hf,some l,none⟩ [.code assign,.beginRound,.code body] ((tp,v)::L) w)
    (K:∀ (D:Nat) (w':World) (Γ1:List (Bool×Atom)) (Ω1:List (Bool×HAtom)),X s1 Γ1 Ω1→St e w' (Γ1++Γ) (Ω1++((true,.dfr D)::Ω))→Run { C with df:=some D } k L w') :
    Run C (.code (.rangeFunc g #[tp] assign body)::k) L w:=by
  intro a hag hd b cs hb hk hrob
  rw [hdf] at hd
  have hd':a.defers=[]:=hd
  have hrob':b.roundOf=none:=hrob.trans hro
  obtain ⟨q,hq⟩:∃ q:Loop,q={ state:=.ready,pending:=none,fn:=b.fn,tmps:=a.tmps,params:=#[tp],assign,body,defers:=w.heap.size }:=⟨_,rfl⟩
  have henter:(Instr.enterLoop b.fn a.tmps #[tp] assign body b.roundOf).run C.P w=.ok (w.heap.size+1,[{ target:=.collected w.heap.size,args:=#[] }]) ((w.alloc (.deferred (some []))).alloc (.loop q)):=by
    rw [hrob',hq];exact run_enterLoop_outer _ _ _ _ _
  have hbn:fnk.body.isNone=false:=by cases h:fnk.body<;>simp_all
  obtain ⟨w1,hw1⟩:∃ w1,w1=(w.alloc (.deferred (some []))).alloc (.loop q):=⟨_,rfl⟩
  have hres:(resolve a.eval (rangeCall g (w.heap.size+1)) 0).run C.P w1=.ok { target:=.fn (.func kf) cl.toArray,args:=#[.func (.yield (w.heap.size+1)) #[] #[]] } w1:=by
    simp only [resolve,rangeCall,hag.ev hx,Deferred.ofValue]
    simp [Act.eval]
  have hinv:(invoke (.fn (.func kf) cl.toArray) #[.func (.yield (w.heap.size+1)) #[] #[]]).run C.P w1=.ok (.enter kf (.func (.yield (w.heap.size+1)) #[] #[]::cl).toArray) w1:=by
    simp only [invoke,callFunc,program,Sem.run_bind,Sem.run_pure,Result.andThen_ok,Sem.run]
    simp [hkf,hnk,hbn]
  have hstep:=stepR_rangeFunc (P:=C.P) (b:=b) (a:=a) (k:=k) (cs:=cs) (w:=w) (by rw [henter,hw1]) hres hinv
  -- the memory
  have hm1:St e (w.alloc (.deferred (some []))) Γ ((true,.dfr w.heap.size)::(Ω0++Ω)):=h.alloc (λ S _ _=>⟨World.alloc_heap_new w _,λ _=>Iff.rfl⟩)
  have hm2:St e w1 Γ ((true,.loopR (w.heap.size+1) q)::(true,.dfr w.heap.size)::(Ω0++Ω)):=by
    rw [hw1]
    refine hm1.alloc (λ S _ _=>⟨?_,λ b=>by simp⟩)
    have:=World.alloc_heap_new (w.alloc (.deferred (some []))) (.loop q)
    simpa using this
  have hm3:St e w1 Γ (((false,.loopR (w.heap.size+1) q)::Ω0)++((true,.dfr w.heap.size)::Ω)):=by
    refine (hm2.weak).conv (λ _ h=>h) ?_
    refine List.Perm.cons _ ?_
    exact List.perm_middle.symm
  obtain ⟨f1,f2⟩:=hX _ _ _ hX0
  have hm4 := hm3.pack (X := fun Γ' Ω' => ∃ Ω2, Ω' = (false, .loopR (w.heap.size + 1) q) :: Ω2 ∧ X s0 Γ' Ω2) ⟨Ω0, rfl, hX0⟩ f1 (by simpa [allF] using f2) (fun S w hs => hΓ.sat hs)
  have hY:YieldOK C.P (w.heap.size+1) r (rinv (w.heap.size+1) q X) bd:=by
    refine Qnk C.hf hX (by rw [hq]) (by rw [hq]) (by rw [hq];exact hb) (by rw [hq]) htp (L:=L) ⟨by rw [hq];exact hag.1,by rw [hq];exact hag.2⟩ (λ e w' s s' x v Γ Ω h1 h2 h3=>?_)
    have:=hround (w.heap.size+1) q e w' s s' x v Γ Ω (by rw [hq]) h1 h2 h3
    have ea:Item.code q.assign=.code assign:=by rw [hq]
    have eb:Item.code q.body=.code body:=by rw [hq]
    rw [ea,eb]
    exact this
  have hcall:=St.calls (Ωa:=[(false,rinv (w.heap.size+1) q X s0)]) hm4 (hIt _ _ hY w1) rfl ha
  obtain ⟨en,w2,fr,⟨v,rfl,Γr,Ωr,Ωo,⟨rfl,rfl,rfl,rfl⟩,hst⟩,hsteps,hfn,hleave⟩:=hcall (b.atR { a with defers:=[{ target:=.collected w.heap.size,args:=#[] }]++a.defers } (.inRangeFunc (w.heap.size+1)::k)::cs)
  simp only [List.nil_append,List.cons_append] at hst
  obtain ⟨Γ1, Ω1', ⟨Ω1, rfl, hX1⟩, hst1⟩ := hst.unpack (X := fun Γ' Ω' => ∃ Ω2, Ω' = (false, .loopR (w.heap.size + 1) q) :: Ω2 ∧ X s1 Γ' Ω2) (by
    rintro Γ0 Ω0 ⟨Ω2,rfl,h2⟩
    obtain ⟨f1,f2⟩:=hX _ _ _ h2
    exact ⟨f1,by simpa [allF] using f2⟩)
  have hst2:St e w2 (Γ1++Γ) ((false,.loopR (w.heap.size+1) q)::(Ω1++((true,.dfr w.heap.size)::Ω))):=by simpa using hst1
  have hjump:q.pending=none:=by rw [hq]
  have hend:(Instr.endLoop (w.heap.size+1)).run C.P w2=.ok none (w2.putObj (w.heap.size+1) (.loop { q with state:=.exhausted })):=by
    have h0:=run_endLoop (P:=C.P) hst2.loopR_at (by rw [hq];simp)
    rw [h0,hjump]
  have hK:=K w.heap.size (w2.putObj (w.heap.size+1) (.loop { q with state:=.exhausted })) Γ1 Ω1 hX1 hst2.putR.drop
  obtain ⟨v',w3,fr3,hq3,hs3,hf3,hl3⟩:=hK { a with defers:=[{ target:=.collected w.heap.size,args:=#[] }]++a.defers } ⟨hag.1,hag.2⟩ (by rw [hd'];rfl) b cs hb hk hrob
  have s1:=step_leave_returned (c:=b.atR { a with defers:=[{ target:=.collected w.heap.size,args:=#[] }]++a.defers } (.inRangeFunc (w.heap.size+1)::k)) (cs:=cs) hleave
  rw [finish_atR_inRangeFunc] at s1
  have s2:=stepR_endRangeFunc (b:=b) (a:={ a with defers:=[{ target:=.collected w.heap.size,args:=#[] }]++a.defers }) (k:=k) (cs:=cs) hend
  exact ⟨v',w3,fr3,hq3,.head hstep (Steps.trans hsteps (.head s1 (.head s2 hs3))),hf3,hl3⟩
end
end Lift
namespace Lift
open Go
theorem St.freezeBox {e:En} {w:World} {Γ:List (Bool×Atom)} {Ω:List (Bool×HAtom)} {f:Bool} {α:Type} {T:TypeId} {r:Rep α} {q:Value} {x:α} (h:St e w Γ ((f,.box T r q x)::Ω)):St e w ((f,.ptr r q x)::Γ) Ω:=by
  refine h.freezeG (λ G S hp hGS=>?_)
  obtain ⟨b,cs,e1,hG,hh,hr⟩:=hp
  refine ⟨b,0,cs,e1,hGS b ((hG b).2 rfl),?_,hr⟩
  intro j v hj
  rw [Nat.zero_add,cell_of_row w b j cs.toArray T (0,0) hh]
  simpa using hj
theorem Run.retPD {P : Program} {fk : FuncId} {fn : Func} {e : En} {R : Shape} {hf : P.funcs[fk]? = some fn} {D : Nat} {k : List Item} {L : List (Nat × Value)} {w : World} {Γ : List (Bool × Atom)} {Ω Ω' : List (Bool × HAtom)} {f : Bool} {rs : List ResultVar} (h : St e w Γ Ω) (hp : Pick Ω (f, .dfr D) Ω') (hrs : fn.results = rs.toArray)
    (K : ∀ w', St e w' Γ Ω' → ∃ vs, Res L P e w' rs vs ∧ Post e R (pkV vs) w') : Run ⟨P, fk, fn, Post e R, hf, none, some D⟩ (.code .ret :: k) L w := by
  have h1:=h.pick hp
  have hD:=h1.dfr_at
  have h2 : St e (w.putObj D (.deferred none)) Γ Ω' := by
    have h3 : St e (w.putObj D (.deferred none)) Γ ((f, ⟨fun G _ _ => ∀ b, G b ↔ b = D, fun _ _ _ h => h⟩) :: Ω') :=
      h1.write (λ S G1 _ hq _ _ _=>⟨G1,λ b hb=>.inl hb,⟨rfl,rfl,rfl,by simp [World.putObj]⟩,λ b _ hn=>Qlx w D _ (λ e=>hn ((hq.2 b).2 e)),hq.2⟩)
    exact h3.drop
  obtain ⟨vs,hres,hpost⟩:=K _ h2
  intro a ha hd b cs hb hk hro
  have hrun:=Res.run (C:=⟨P,fk,fn,Post e R,hf,none,none⟩) hrs hres a ha
  have hd':a.defers=[{ target:=.collected D,args:=#[] }]:=hd
  have s1:=stepR_ret (P:=P) (b:=b) (a:=a) (k:=k) (cs:=cs) (w:=w) hro
  have s2:=step_collected (P:=P) (fr:={ b.atR a (.code .ret::k) with mode:=.returning }) (cs:=cs) (w:=w) (d:={ target:=.collected D,args:=#[] }) (r:=D) (ds:=[]) (by simp) hd' rfl (run_takeDeferred hD)
  refine ⟨pkV vs,_,_,hpost,.head s1 (.one s2),hb,?_⟩
  simp only [Cx.ends]
  exact ⟨rfl,rfl,hk,fn,by show P.funcs[b.fn]?=_;rw [show b.fn=fk from hb];exact hf,hrun⟩
end Lift
namespace Lift
open Go
end Lift
