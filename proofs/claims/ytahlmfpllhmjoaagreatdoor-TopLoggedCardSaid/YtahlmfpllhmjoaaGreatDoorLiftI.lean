import Derived.Test.YtahlmfpllhmjoaaGreatDoorLiftH
set_option linter.unusedVariables false
set_option linter.unusedSimpArgs false
namespace Lift
open Go
def allT {β:Type}:List (Bool×β)→Bool
  | []=>true
  | (b,_)::r=>b&&allT r
def allF {β:Type}:List (Bool×β)→Bool
  | []=>true
  | (b,_)::r=>!b&&allF r
abbrev Shape:=Value→List (Bool×Atom)→List (Bool×HAtom)→List (Bool×HAtom)→Prop
def Post (e:En) (R:Shape) (v:Value) (w':World):Prop :=
  ∃ Γr Ωr Ωo,R v Γr Ωr Ωo∧Step e.G e.w w'∧∃ Sf Gn:Blks,
    (∀ b,Sf b→(e.G b∨e.w.heap.size≤b)∧b<w'.heap.size)∧(∀ b,Gn b→b<w'.heap.size∧(e.G b∨e.w.heap.size≤b)) ∧
    (∀ b,Sf b→¬ Gn b)∧Sat e.w.heap.size (λ b=>e.S b∨Sf b) w' Γr∧OSat e.w.heap.size (λ b=>e.S b∨Sf b) w' (Ωr++Ωo) Gn
def Spec (P:Program) (k:FuncId) (args:Array Value) (w:World) (Γa:List (Bool×Atom)) (Ωa:List (Bool×HAtom)) (R:Shape):Prop :=
  ∀ S G:Blks,(∀ b,S b→b<w.heap.size)→(∀ b,G b→b<w.heap.size)→(∀ b,S b→¬ G b)→Sat w.heap.size S w Γa→OSat w.heap.size S w Ωa G →
    Calls P k args w λ en w'=>∃ v,en=.returned v∧Post ⟨w,S,G⟩ R v w'
theorem Sat.allT {B:Nat} {S S':Blks} {w:World} (hS:∀ b,S b→B≤b→S' b):∀ {Γ:List (Bool×Atom)},Lift.allT Γ=true→Sat B S w Γ→Sat B S' w Γ
  | [],_,_=>trivial
  | (true,a)::Γ,h,⟨h1,h2⟩=>⟨a.st (λ b hb=>⟨hS b hb.1 (hb.2 rfl),hb.2⟩) (λ _ _=>rfl) h1,Sat.allT hS (by simpa [Lift.allT] using h) h2⟩
  | (false,_)::_,h,_=>by simp [Lift.allT] at h
theorem OSat.allT {B:Nat} {S S':Blks} {w:World} (hS:∀ b,S b→B≤b→S' b):∀ {Ω:List (Bool×HAtom)} {G:Blks},Lift.allT Ω=true→OSat B S w Ω G→OSat B S' w Ω G∧∀ b,G b→B≤b
  | [],G,_,h=>⟨h,λ b hb=>absurd hb (h b)⟩
  | (true,a)::Ω,G,h,⟨G1,G2,h1,h2,h3,h4,h5⟩=>by
    obtain ⟨k1,k2⟩:=OSat.allT hS (by simpa [Lift.allT] using h) h5
    refine ⟨⟨G1,G2,h1,h2,h3,a.st (λ b hb=>⟨hS b hb.1 (hb.2 rfl),hb.2⟩) (λ _ _=>rfl) (λ _ _=>rfl) h4,k1⟩,λ b hb=>?_⟩
    rcases (h1 b).1 hb with h | h
    · exact h3 b rfl h
    · exact k2 b h
  | (false,_)::_,_,h,_=>by simp [Lift.allT] at h
theorem OSat.split {B : Nat} {S : Blks} {w : World} {Ω' : List (Bool × HAtom)} : ∀ {Ω : List (Bool × HAtom)} {G : Blks}, OSat B S w (Ω ++ Ω') G →
    ∃ G1 G2 : Blks, (∀ b, G b ↔ G1 b ∨ G2 b) ∧ (∀ b, G1 b → ¬ G2 b) ∧ OSat B S w Ω G1 ∧ OSat B S w Ω' G2
  | [],G,h=>⟨λ _=>False,G,λ _=>by simp,λ _ h=>h.elim,λ _ h=>h,h⟩
  | (f,a)::Ω,G,⟨G1,G2,h1,h2,h3,h4,h5⟩=>by
    obtain ⟨K1,K2,k1,k2,k3,k4⟩:=OSat.split h5
    refine ⟨λ b=>G1 b∨K1 b,K2,λ b=>by rw [h1,k1,or_assoc],?_,⟨G1,K1,λ _=>Iff.rfl,λ b hb hk=>h2 b hb ((k1 b).2 (.inl hk)),h3,h4,k3⟩,k4⟩
    rintro b (hb | hb) hk
    · exact h2 b hb ((k1 b).2 (.inr hk))
    · exact k2 b hb hk
theorem OSat.join {B : Nat} {S : Blks} {w : World} {Ω' : List (Bool × HAtom)} {G2 : Blks} (h' : OSat B S w Ω' G2) : ∀ {Ω : List (Bool × HAtom)} {G1 : Blks}, (∀ b, G1 b → ¬ G2 b) → OSat B S w Ω G1 → OSat B S w (Ω ++ Ω') (fun b => G1 b ∨ G2 b)
  | [],G1,_,h=>by
    have:(λ b=>G1 b∨G2 b)=G2:=by funext b;simp [h b]
    rw [this];exact h'
  | (f,a)::Ω,G1,hd,⟨K1,K2,k1,k2,k3,k4,k5⟩=>by
    have ih:=OSat.join h' (G1:=K2) (λ b hb=>hd b ((k1 b).2 (.inr hb))) k5
    refine ⟨K1,_,λ b=>?_,?_,k3,k4,ih⟩
    · show G1 b∨G2 b↔_
      rw [k1,or_assoc]
    · rintro b hb (h | h)
      · exact k2 b hb h
      · exact hd b ((k1 b).2 (.inl hb)) h
theorem Sat.append {B : Nat} {S : Blks} {w : World} {Γ' : List (Bool × Atom)} (h' : Sat B S w Γ') : ∀ {Γ : List (Bool × Atom)}, Sat B S w Γ → Sat B S w (Γ ++ Γ')
  | [],_=>h'
  | _::_,⟨h1,h2⟩=>⟨h1,Sat.append h' h2⟩
theorem Post.mk {e:En} {w:World} {Γ Γr:List (Bool×Atom)} {Ω Ωr Ωo:List (Bool×HAtom)} {R:Shape} {v:Value} (h:St e w Γ ((Ωr++Ωo)++Ω)) (hR:R v Γr Ωr Ωo) (hΓ:∀ S w,Sat e.w.heap.size S w Γ→Sat e.w.heap.size S w Γr):Post e R v w:=by
  obtain ⟨S,G,I,hs,ho⟩:=h
  obtain ⟨Gn,G2,h1,h2,h3,h4⟩:=ho.split
  have hS:∀ b,S b→(e.S b∨(S b∧(e.G b∨e.w.heap.size≤b))):=λ b h=>(I.s0 b h).imp id (λ h'=>⟨h,h'⟩)
  exact ⟨Γr,Ωr,Ωo,hR,I.step,λ b=>S b∧(e.G b∨e.w.heap.size≤b),Gn,λ b hb=>⟨hb.2,I.sb b hb.1⟩,λ b hb=>⟨I.gb b ((h1 b).2 (.inl hb)),I.g0 b ((h1 b).2 (.inl hb))⟩,
    λ b hb h=>I.dis b hb.1 ((h1 b).2 (.inl h)),(hΓ S w hs).st hS (λ _ _=>rfl),h3.st hS (λ _ _=>rfl) (λ _ _=>rfl)⟩
theorem Sat.up {B B':Nat} (hB:B≤B') {S S':Blks} {w:World} (hS:∀ b,S b→S' b):∀ {Γ:List (Bool×Atom)},Sat B' S w Γ→Sat B S' w Γ
  | [],_=>trivial
  | x::_,⟨h1,h2⟩=>⟨x.2.st (λ b hb=>⟨hS b hb.1,λ h=>Nat.le_trans hB (hb.2 h)⟩) (λ _ _=>rfl) h1,Sat.up hB hS h2⟩
theorem OSat.up {B B':Nat} (hB:B≤B') {S S':Blks} {w:World} (hS:∀ b,S b→S' b):∀ {Ω:List (Bool×HAtom)} {G:Blks},OSat B' S w Ω G→OSat B S' w Ω G
  | [],_,h=>h
  | x::_,_,⟨G1,G2,h1,h2,h3,h4,h5⟩=>⟨G1,G2,h1,h2,λ b hf hb=>Nat.le_trans hB (h3 b hf hb),x.2.st (λ b hb=>⟨hS b hb.1,λ h=>Nat.le_trans hB (hb.2 h)⟩) (λ _ _=>rfl) (λ _ _=>rfl) h4,OSat.up hB hS h5⟩
theorem Spec.of {P:Program} {k:FuncId} {fn:Func} {c:Code} {args:Array Value} {w:World} {Γa:List (Bool×Atom)} {Ωa:List (Bool×HAtom)} {R:Shape} {L:List (Nat×Value)}
    (hf:P.funcs[k]?=some fn) (hb:fn.body=some c) (hL:Sub (args.toList.zipIdx.map λ p=>(p.2,p.1)) L) (hn:Nat.ble args.size fn.ntmps=true)
    (K:∀ e:En,St e w Γa Ωa→Run ⟨P,k,fn,Post e R,hf,none,none⟩ [.code c] L w):Spec P k args w Γa Ωa R:=by
  intro S G h1 h2 h3 h4 h5
  exact Qsb hf hb hL hn (K ⟨w,S,G⟩ ⟨S,G,⟨Step.refl _ _,h1,h2,h3,λ b hb=>.inl hb,λ b hb=>.inl hb⟩,h4,h5⟩)
inductive Args (B:Nat) (Γ:List (Bool×Atom)) (Ω:List (Bool×HAtom)):List (Bool×Atom)→Prop
  | nil:Args B Γ Ω []
  | cons {α:Type} {f:Bool} {r:Rep α} {v:Value} {x:α} {Γa:List (Bool×Atom)} (h:V B Γ f r v x) (K:Args B Γ Ω Γa):Args B Γ Ω ((false,.val r v x)::Γa)
  | own {α : Type} {f : Bool} {T : TypeId} {r : Rep α} {v : Value} {x : List α} {Ω' : List (Bool × HAtom)} {Γa : List (Bool × Atom)} (h : Pick Ω (f, .slice T r v x) Ω') (K : Args B Γ Ω Γa) : Args B Γ Ω ((false, .val r.slice v x) :: Γa)
  | box {α : Type} {f : Bool} {T : TypeId} {r : Rep α} {v : Value} {x : α} {Ω' : List (Bool × HAtom)} {Γa : List (Bool × Atom)} (h : Pick Ω (f, .box T r v x) Ω') (K : Args B Γ Ω Γa) : Args B Γ Ω ((false, .ptr r v x) :: Γa)
  | ptr {α:Type} {f:Bool} {r:Rep α} {v:Value} {x:α} {Γa:List (Bool×Atom)} (h:At Γ (f,.ptr r v x)) (K:Args B Γ Ω Γa):Args B Γ Ω ((false,.ptr r v x)::Γa)
  | sem {a:Atom} {Γa:List (Bool×Atom)} (h:∀ (S G:Blks) (w:World),Sat B S w Γ→OSat B S w Ω G→a.p (λ b=>S b∨G b) w) (K:Args B Γ Ω Γa):Args B Γ Ω ((false,a)::Γa)
theorem Args.sat {B:Nat} {Γ Γa:List (Bool×Atom)} {Ω:List (Bool×HAtom)} {S G:Blks} {w:World} (h:Args B Γ Ω Γa) (hs:Sat B S w Γ) (ho:OSat B S w Ω G) (C:Nat):Sat C (λ b=>S b∨G b) w Γa:=by
  have weak:∀ (f:Bool) (b:Nat),fl f B S b→fl false C (λ b=>S b∨G b) b:=λ f b hb=>⟨.inl hb.1,λ h=>by cases h⟩
  induction h with
  | nil=>trivial
  | @cons _ f r v x _ h _ ih=>exact ⟨r.val_stab (weak f) (λ _ _=>rfl) (h S w hs),ih⟩
  | @own _ f T r v x Ω' _ h _ ih =>
    obtain ⟨G1,G2,h1,_,_,h4,_⟩:=ho.pick h
    exact ⟨Qpo ((HAtom.slice T r v x).st (weak f) (λ _ _=>rfl) (λ _ _=>rfl) h4) (λ b hb=>⟨.inr ((h1 b).2 (.inl hb)),λ h=>by cases h⟩),ih⟩
  | @box _ f T r v x Ω' _ h _ ih =>
    obtain ⟨G1,G2,h1,_,_,⟨b,cs,e,hG,hh,hr⟩,_⟩:=ho.pick h
    refine ⟨⟨b,0,cs,e,⟨.inr ((h1 b).2 (.inl ((hG b).2 rfl))),λ h=>by cases h⟩,?_,r.stab (weak f) (λ _ _=>rfl) hr⟩,ih⟩
    intro j v hj
    rw [Nat.zero_add,cell_of_row w b j cs.toArray T (0,0) hh]
    simpa using hj
  | @ptr _ f r v x _ h _ ih=>exact ⟨(Atom.ptr r v x).st (weak f) (λ _ _=>rfl) (hs.at h),ih⟩
  | @sem a _ h _ ih=>exact ⟨a.st (λ b hb=>⟨hb,λ h=>by cases h⟩) (λ _ _=>rfl) (h S G w hs ho),ih⟩
inductive ArgsI (B:Nat) (Γ:List (Bool×Atom)):List (Bool×Atom)→Prop
  | nil:ArgsI B Γ []
  | cons {α:Type} {f:Bool} {r:Rep α} {v:Value} {x:α} {Γa:List (Bool×Atom)} (h:V B Γ f r v x) (K:ArgsI B Γ Γa):ArgsI B Γ ((false,.val r v x)::Γa)
  | ptr {α:Type} {f:Bool} {r:Rep α} {v:Value} {x:α} {Γa:List (Bool×Atom)} (h:At Γ (f,.ptr r v x)) (K:ArgsI B Γ Γa):ArgsI B Γ ((false,.ptr r v x)::Γa)
theorem ArgsI.sat {B:Nat} {Γ Γa:List (Bool×Atom)} {S:Blks} {w:World} (h:ArgsI B Γ Γa) (hs:Sat B S w Γ) (C:Nat):Sat C S w Γa:=by
  induction h with
  | nil=>trivial
  | @cons _ f r v x _ h _ ih=>exact ⟨r.val_stab (λ b hb=>⟨hb.1,λ h=>by cases h⟩) (λ _ _=>rfl) (h S w hs),ih⟩
  | @ptr _ f r v x _ h _ ih=>exact ⟨(Atom.ptr r v x).st (λ b hb=>⟨hb.1,λ h=>by cases h⟩) (λ _ _=>rfl) (hs.at h),ih⟩
theorem Qqk {P : Program} {N : Nat} {L : List (Nat × Value)} {a : Act} (ha : Agree N L a) {kf : FuncId} {fn : Func} (hf : P.funcs[kf]? = some fn) (hb : fn.body.isSome = true) (hn : (fn.name == "runtime.NumGoroutine") = false) {as : List Operand} {vs : List Value} {at_ : Array TypeId}
    {d:Option Tmp} {t:TypeId} {p:String} {af:Array Edge} {g:Option (Nat×Bool)} (hv:as.map (ev L)=vs.map some) (w:World) :
    (execOp a.eval ⟨d,.call ⟨.value (.func kf),as.toArray,at_⟩,t,p,af,g⟩).run P w=.ok (.enter kf vs.toArray) w:=by
  have hm:as.map a.eval=vs:=by
    have:∀ (as:List Operand) (vs:List Value),as.map (ev L)=vs.map some→as.map a.eval=vs:=by
      intro as
      induction as with
      | nil=>intro vs h;cases vs with
        | nil=>rfl
        | cons _ _=>cases h
      | cons x as ih=>intro vs h;cases vs with
        | nil=>cases h
        | cons v vs =>
          simp only [List.map_cons,List.cons.injEq] at h
          rw [List.map_cons,ih vs h.2,ha.ev h.1]
    exact this as vs hv
  have hbn:fn.body.isNone=false:=by cases h:fn.body<;>simp_all
  simp only [execOp,resolve,Act.eval,Deferred.ofValue,List.map_toArray,hm,Sem.run_bind,Sem.run_pure,Result.andThen_ok,invoke,callFunc,program,Sem.run]
  simp [hf,hn,hbn]
theorem Quf {P : Program} {N : Nat} {L : List (Nat × Value)} {a : Act} (ha : Agree N L a) {kf : FuncId} {fn : Func} (hf : P.funcs[kf]? = some fn) (hb : fn.body.isSome = true) (hn : (fn.name == "runtime.NumGoroutine") = false) {x : Operand} {fl cl : List Value} (hx : ev L x = some (.func (.func kf) fl.toArray cl.toArray)) {as : List Operand} {vs : List Value} {at_ : Array TypeId}
    {d:Option Tmp} {t:TypeId} {p:String} {af:Array Edge} {g:Option (Nat×Bool)} (hv:as.map (ev L)=vs.map some) (w:World) :
    (execOp a.eval ⟨d,.call ⟨.value x,as.toArray,at_⟩,t,p,af,g⟩).run P w=.ok (.enter kf (fl++vs++cl).toArray) w:=by
  have hm:as.map a.eval=vs:=by
    have:∀ (as:List Operand) (vs:List Value),as.map (ev L)=vs.map some→as.map a.eval=vs:=by
      intro as
      induction as with
      | nil=>intro vs h;cases vs with
        | nil=>rfl
        | cons _ _=>cases h
      | cons x as ih=>intro vs h;cases vs with
        | nil=>cases h
        | cons v vs =>
          simp only [List.map_cons,List.cons.injEq] at h
          rw [List.map_cons,ih vs h.2,ha.ev h.1]
    exact this as vs hv
  have hbn:fn.body.isNone=false:=by cases h:fn.body<;>simp_all
  simp only [execOp,resolve,ha.ev hx,Deferred.ofValue,List.map_toArray,hm,Sem.run_bind,Sem.run_pure,Result.andThen_ok,invoke,callFunc,program,Sem.run]
  simp [hf,hn,hbn]
section
variable {C:Cx} {L:List (Nat×Value)} {w:World} {ops:Array Oper} {Z:List (Nat×Value)→World→Prop} {d:Nat} {t T:TypeId} {p:String} {af:Array Edge} {g:Option (Nat×Bool)}
variable {e : En} {Γ : List (Bool × Atom)} {Ω Ω' : List (Bool × HAtom)}
theorem OpS.callPG {o:Oper} {kf:FuncId} {vs:List Value} {Γa:List (Bool×Atom)} {R:Shape} (h:St e w Γ Ω) (hg:gd ops L o.guard=some true) (hdst:o.dst=some d) (hd:Nat.blt d C.fn.ntmps=true) (hex:∀ ac:Act,Agree C.fn.ntmps L ac→(execOp ac.eval o).run C.P w=.ok (.enter kf vs.toArray) w) (hs:Spec C.P kf vs.toArray w Γa [] R) (ha:Args e.w.heap.size Γ Ω Γa)
    (K:∀ v w' Γr Ωr Ωo,R v Γr Ωr Ωo→(allT Γr=true→allT Ωr=true→St e w' (Γr++Γ) (Ωr++Ω))→Z ((d,v)::L) w') :
    OpS C ops o L w Z:=by
  obtain ⟨S,G,I,hsat,ho⟩:=h
  have hcall:=hs (λ b=>S b∨G b) (λ _=>False) (λ b hb=>hb.elim (I.sb b) (I.gb b)) (λ _ h=>h.elim) (λ _ _ h=>h) (ha.sat hsat ho _) (λ _ h=>h)
  refine OpS.enter hg hdst hd hex hcall (λ v w' hP=>?_)
  obtain ⟨Γr,Ωr,Ωo,hR,hstep,Sf,Gn,a1,a2,a3,a6,a7⟩:=hP
  refine K v w' Γr Ωr Ωo hR (λ t1 t2=>?_)
  have keep:∀ b,S b∨G b→w'.heap[b]?=w.heap[b]?:=λ b hb=>hstep.block b (hb.elim (I.sb b) (I.gb b)) (λ h=>h)
  have hB:=I.step.size
  have hsz:w.heap.size≤w'.heap.size:=hstep.size
  have hin:∀ b,((S b∨G b)∨Sf b)→w.heap.size≤b→Sf b:=λ b hb hle=>by
    rcases hb with (hb | hb) | hb
    · have:=I.sb b hb;omega
    · have:=I.gb b hb;omega
    · exact hb
  have b6:=Sat.allT hin t1 a6
  obtain ⟨Gr,Go,g1,g2,g3,_⟩:=a7.split
  obtain ⟨b7,b8⟩:=OSat.allT hin t2 g3
  have sub1:∀ b,S b→S b∨Sf b:=λ b hb=>.inl hb
  refine ⟨λ b=>S b∨Sf b,λ b=>Gr b∨G b,⟨⟨hstep.os.trans I.step.os,hstep.tape.trans I.step.tape,hstep.output.trans I.step.output,Nat.le_trans hB hsz,λ b hb hn=>?_⟩,?_,?_,?_,?_,?_⟩,
    Sat.append (hsat.st sub1 (λ b hb=>keep b (.inl hb))) (b6.up hB (λ b hb=>.inr hb)),OSat.join (ho.st sub1 (λ b hb=>keep b (.inl hb)) (λ b hb=>keep b (.inr hb))) (λ b hb hg=>?_) (b7.up hB (λ b hb=>.inr hb))⟩
  · rw [hstep.block b (Nat.lt_of_lt_of_le hb hB) (λ h=>h)];exact I.step.block b hb hn
  · rintro b (hb | hb)
    · exact Nat.lt_of_lt_of_le (I.sb b hb) hsz
    · exact (a1 b hb).2
  · rintro b (hb | hb)
    · exact (a2 b ((g1 b).2 (.inl hb))).1
    · exact Nat.lt_of_lt_of_le (I.gb b hb) hsz
  · rintro b (hb | hb) (hg | hg)
    · have:=I.sb b hb;have:=b8 b hg;omega
    · exact I.dis b hb hg
    · exact a3 b hb ((g1 b).2 (.inl hg))
    · have:=I.gb b hg;have:=(a1 b hb).1.resolve_left (λ h=>h);simp only at this;omega
  · rintro b (hb | hb)
    · exact I.s0 b hb
    · exact .inr (.inr (Nat.le_trans hB ((a1 b hb).1.resolve_left (λ h=>h))))
  · rintro b (hb | hb)
    · exact .inr (Nat.le_trans hB (b8 b hb))
    · exact I.g0 b hb
  · have:=I.gb b hg;have:=b8 b hb;omega
theorem OpS.callP {kf : FuncId} {fn : Func} {as : List Operand} {vs : List Value} {at_ : Array TypeId} {Γa : List (Bool × Atom)} {R : Shape} (h : St e w Γ Ω) (hf : C.P.funcs[kf]? = some fn) (hb : fn.body.isSome = true) (hn : (fn.name == "runtime.NumGoroutine") = false)
    (hg:gd ops L g=some true) (hd:Nat.blt d C.fn.ntmps=true) (hv:as.map (ev L)=vs.map some) (hs:Spec C.P kf vs.toArray w Γa [] R) (ha:Args e.w.heap.size Γ Ω Γa)
    (K:∀ v w' Γr Ωr Ωo,R v Γr Ωr Ωo→(allT Γr=true→allT Ωr=true→St e w' (Γr++Γ) (Ωr++Ω))→Z ((d,v)::L) w') :
    OpS C ops ⟨some d,.call ⟨.value (.func kf),as.toArray,at_⟩,t,p,af,g⟩ L w Z :=
  OpS.callPG h hg rfl hd (λ ac hac=>Qqk hac hf hb hn hv w) hs ha K
theorem OpS.callOG {o:Oper} {kf:FuncId} {vs:List Value} {Γa:List (Bool×Atom)} {Ωa:List (Bool×HAtom)} {R:Shape} (h:St e w Γ (Ωa++Ω)) (hg:gd ops L o.guard=some true) (hdst:o.dst=some d) (hd:Nat.blt d C.fn.ntmps=true) (hex:∀ ac:Act,Agree C.fn.ntmps L ac→(execOp ac.eval o).run C.P w=.ok (.enter kf vs.toArray) w) (hs:Spec C.P kf vs.toArray w Γa Ωa R) (hfl:allF Ωa=true) (ha:ArgsI e.w.heap.size Γ Γa)
    (K:∀ v w' Γr Ωr Ωo,R v Γr Ωr Ωo→St e w' (Γr++Γ) (Ωr++(Ωo++Ω))→Z ((d,v)::L) w') :
    OpS C ops o L w Z:=by
  obtain ⟨S,G,I,hsat,ho⟩:=h
  obtain ⟨Ga,Gb,g1,g2,g3,g4⟩:=ho.split
  have flatF:∀ {B C:Nat} {S:Blks} {w:World} {Ω:List (Bool×HAtom)} {G:Blks},allF Ω=true→OSat B S w Ω G→OSat C S w Ω G:=by
    intro B C S w Ω
    induction Ω with
    | nil=>exact λ _ h=>h
    | cons x Ω ih =>
      obtain ⟨f,a⟩:=x
      cases f with
      | true=>intro G h;simp [allF] at h
      | false =>
        intro G hF ⟨G1,G2,h1,h2,h3,h4,h5⟩
        exact ⟨G1,G2,h1,h2,λ _ hf _=>(by cases hf),a.st (λ b hb=>⟨hb.1,λ hf=>(by cases hf)⟩) (λ _ _=>rfl) (λ _ _=>rfl) h4,ih (by simpa [allF] using hF) h5⟩
  have hcall:=hs S Ga I.sb (λ b hb=>I.gb b ((g1 b).2 (.inl hb))) (λ b hb hg=>I.dis b hb ((g1 b).2 (.inl hg))) (ha.sat hsat _) (flatF hfl g3)
  refine OpS.enter hg hdst hd hex hcall (λ v w' hP=>?_)
  obtain ⟨Γr,Ωr,Ωo,hR,hstep,Sf,Gn,a1,a2,a3,a6,a7⟩:=hP
  refine K v w' Γr Ωr Ωo hR ?_
  have keep:∀ b,b<w.heap.size→¬ Ga b→w'.heap[b]?=w.heap[b]?:=λ b hb hn=>hstep.block b hb hn
  have keepS:∀ b,S b→w'.heap[b]?=w.heap[b]?:=λ b hb=>keep b (I.sb b hb) (λ h=>I.dis b hb ((g1 b).2 (.inl h)))
  have keepG:∀ b,Gb b→w'.heap[b]?=w.heap[b]?:=λ b hb=>keep b (I.gb b ((g1 b).2 (.inr hb))) (λ h=>g2 b h hb)
  have hB:=I.step.size
  have hsz:w.heap.size≤w'.heap.size:=hstep.size
  have sub1:∀ b,S b→S b∨Sf b:=λ b hb=>.inl hb
  have hGo:∀ b,Gn b→Ga b∨w.heap.size≤b:=λ b hb=>(a2 b hb).2
  have dOR:∀ b,Gn b→¬ Gb b:=by
    intro b hb hg
    rcases hGo b hb with h | h
    · exact g2 b h hg
    · have:=I.gb b ((g1 b).2 (.inr hg));omega
  have oR:=OSat.join (g4.st sub1 keepS keepG) dOR (a7.up hB (S':=λ b=>S b∨Sf b) (λ b hb=>hb))
  rw [List.append_assoc] at oR
  refine ⟨λ b=>S b∨Sf b,λ b=>Gn b∨Gb b,⟨⟨hstep.os.trans I.step.os,hstep.tape.trans I.step.tape,hstep.output.trans I.step.output,Nat.le_trans hB hsz,λ b hb hn=>?_⟩,?_,?_,?_,?_,?_⟩,
    Sat.append (hsat.st sub1 keepS) (a6.up hB (λ b hb=>hb)),oR⟩
  · rw [keep b (Nat.lt_of_lt_of_le hb hB) (λ h=>?_)]
    · exact I.step.block b hb hn
    · rcases I.g0 b ((g1 b).2 (.inl h)) with h | h
      · exact hn h
      · omega
  · rintro b (hb | hb)
    · exact Nat.lt_of_lt_of_le (I.sb b hb) hsz
    · exact (a1 b hb).2
  · rintro b (hb | hb)
    · exact (a2 b hb).1
    · exact Nat.lt_of_lt_of_le (I.gb b ((g1 b).2 (.inr hb))) hsz
  · rintro b (hb | hb) (hg | hg)
    · rcases hGo b hg with h | h
      · exact I.dis b hb ((g1 b).2 (.inl h))
      · have:=I.sb b hb;omega
    · exact I.dis b hb ((g1 b).2 (.inr hg))
    · exact a3 b hb hg
    · rcases (a1 b hb).1 with h | h
      · exact g2 b h hg
      · have:=I.gb b ((g1 b).2 (.inr hg));simp only at h;omega
  · rintro b (hb | hb)
    · exact I.s0 b hb
    · rcases (a1 b hb).1 with h | h
      · exact .inr (I.g0 b ((g1 b).2 (.inl h)))
      · exact .inr (.inr (Nat.le_trans hB h))
  · rintro b (hb | hb)
    · rcases hGo b hb with h | h
      · exact I.g0 b ((g1 b).2 (.inl h))
      · exact .inr (Nat.le_trans hB h)
    · exact I.g0 b ((g1 b).2 (.inr hb))
theorem OpS.callO {kf : FuncId} {fn : Func} {as : List Operand} {vs : List Value} {at_ : Array TypeId} {Γa : List (Bool × Atom)} {Ωa : List (Bool × HAtom)} {R : Shape} (h : St e w Γ (Ωa ++ Ω)) (hf : C.P.funcs[kf]? = some fn) (hb : fn.body.isSome = true) (hn : (fn.name == "runtime.NumGoroutine") = false)
    (hg:gd ops L g=some true) (hd:Nat.blt d C.fn.ntmps=true) (hv:as.map (ev L)=vs.map some) (hs:Spec C.P kf vs.toArray w Γa Ωa R) (hfl:allF Ωa=true) (ha:ArgsI e.w.heap.size Γ Γa)
    (K:∀ v w' Γr Ωr Ωo,R v Γr Ωr Ωo→St e w' (Γr++Γ) (Ωr++(Ωo++Ω))→Z ((d,v)::L) w') :
    OpS C ops ⟨some d,.call ⟨.value (.func kf),as.toArray,at_⟩,t,p,af,g⟩ L w Z :=
  OpS.callOG h hg rfl hd (λ ac hac=>Qqk hac hf hb hn hv w) hs hfl ha K
end
end Lift
