import Derived.Test.YtahlmfpllhmjoaaGreatDoorLiftM
set_option linter.unusedVariables false
set_option linter.unusedSimpArgs false
namespace Lift
open Go
def HAtom.ex (h:Value→HAtom):HAtom where
  p:=λ G S w=>∃ v,(h v).p G S w
  st:=λ a k kg ⟨v,hv⟩=>⟨v,(h v).st a k kg hv⟩
def HAtom.sep (a b:HAtom):HAtom where
  p:=λ G S w=>∃ G1 G2:Blks,(∀ b,G b↔G1 b∨G2 b)∧(∀ b,G1 b→¬ G2 b)∧a.p G1 S w∧b.p G2 S w
  st:=λ s k kg ⟨G1,G2,h1,h2,h3,h4⟩=>⟨G1,G2,h1,h2,a.st s k (λ b hb=>kg b ((h1 b).2 (.inl hb))) h3,b.st s k (λ b hb=>kg b ((h1 b).2 (.inr hb))) h4⟩
def HAtom.opt {α:Type} (h:α→HAtom) (q:Value):Option α→HAtom
  | none=>⟨λ G _ _=>q=.pointer none∧∀ b,¬ G b,λ _ _ _ h=>h⟩
  | some x=>h x
section
variable {e : En} {w : World} {Γ : List (Bool × Atom)} {Ω Ω' : List (Bool × HAtom)} {f : Bool}
theorem St.sep {a b:HAtom} (h:St e w Γ ((f,a)::(f,b)::Ω)):St e w Γ ((f,.sep a b)::Ω):=by
  obtain ⟨S,G,I,hs,G1,G2,h1,h2,h3,h4,K1,K2,k1,k2,k3,k4,k5⟩:=h
  refine ⟨S,G,I,hs,λ b=>G1 b∨K1 b,K2,λ b=>by rw [h1,k1,or_assoc],?_,?_,⟨G1,K1,λ _=>Iff.rfl,λ b hb hk=>h2 b hb ((k1 b).2 (.inl hk)),h4,k4⟩,k5⟩
  · rintro b (hb | hb) hk
    · exact h2 b hb ((k1 b).2 (.inr hk))
    · exact k2 b hb hk
  · rintro b hf (hb | hb)
    · exact h3 b hf hb
    · exact k3 b hf hb
theorem St.unsep {a b:HAtom} (h:St e w Γ ((f,.sep a b)::Ω)):St e w Γ ((f,a)::(f,b)::Ω):=by
  obtain ⟨S,G,I,hs,G1,G2,h1,h2,h3,⟨K1,K2,k1,k2,k3,k4⟩,h5⟩:=h
  refine ⟨S,G,I,hs,K1,λ b=>K2 b∨G2 b,λ b=>by rw [h1,k1,or_assoc],?_,λ b hf hb=>h3 b hf ((k1 b).2 (.inl hb)),k3,K2,G2,λ _=>Iff.rfl,λ b hb=>h2 b ((k1 b).2 (.inr hb)),λ b hf hb=>h3 b hf ((k1 b).2 (.inr hb)),k4,h5⟩
  rintro b hb (hk | hk)
  · exact k2 b hb hk
  · exact h2 b ((k1 b).2 (.inl hb)) hk
theorem St.ex {H:Value→HAtom} (v:Value) (h:St e w Γ ((f,H v)::Ω)):St e w Γ ((f,.ex H)::Ω):=by
  obtain ⟨S,G,I,hs,G1,G2,h1,h2,h3,h4,h5⟩:=h
  exact ⟨S,G,I,hs,G1,G2,h1,h2,h3,⟨v,h4⟩,h5⟩
theorem St.unex {H:Value→HAtom} (h:St e w Γ ((f,.ex H)::Ω)):∃ v,St e w Γ ((f,H v)::Ω):=by
  obtain ⟨S,G,I,hs,G1,G2,h1,h2,h3,⟨v,h4⟩,h5⟩:=h
  exact ⟨v,S,G,I,hs,G1,G2,h1,h2,h3,h4,h5⟩
theorem St.some {α:Type} {H:α→HAtom} {q:Value} {x:α} (h:St e w Γ ((f,H x)::Ω)):St e w Γ ((f,.opt H q (some x))::Ω):=h
theorem St.unopt {α:Type} {H:α→HAtom} {q:Value} {o:Option α} {x:α} (h:St e w Γ ((f,.opt H q o)::Ω)) (ho:o=Option.some x):St e w Γ ((f,H x)::Ω):=by
  subst ho;exact h
theorem St.none {α:Type} (H:α→HAtom) (h:St e w Γ Ω):St e w Γ ((true,.opt H (.pointer none) none)::Ω):=by
  obtain ⟨S,G,I,hs,ho⟩:=h
  exact ⟨S,G,I,hs,λ _=>False,G,λ _=>by simp,λ _ h=>h.elim,λ _ _ h=>h.elim,⟨rfl,λ _ h=>h⟩,ho⟩
theorem HAtom.opt_nil {α:Type} {H:α→HAtom} {q:Value} {o:Option α} (hH:∀ x G S w,(H x).p G S w→∃ a,q=.pointer (some a)) {G S:Blks} (h:(HAtom.opt H q o).p G S w) :
    (q=.pointer none∧o.isNone=true)∨∃ a,q=.pointer (some a)∧o.isNone=false:=by
  cases o with
  | none=>exact .inl ⟨h.1,rfl⟩
  | some x=>obtain ⟨a,ha⟩:=hH x G S w h;exact .inr ⟨a,ha,rfl⟩
theorem ptr_box {α:Type} {T:TypeId} {r:Rep α} {q:Value} {x:α} (G S:Blks) (w:World) (h:(HAtom.box T r q x).p G S w):∃ a,q=.pointer (some a):=let ⟨g,cs,e,_⟩:=h;⟨_,e⟩
end
section
variable {C:Cx} {L:List (Nat×Value)} {w:World} {ops:Array Oper} {Z:List (Nat×Value)→World→Prop} {d:Nat} {t T:TypeId} {p:String} {af:Array Edge} {g:Option (Nat×Bool)}
variable {e : En} {Γ : List (Bool × Atom)} {Ω Ω' : List (Bool × HAtom)} {f : Bool} {α β : Type} {r : Rep α} {fr : Rep β} {x : α} {y : β}
theorem Qmv (op:BinOp) (P:Program) (t:TypeId) (x y:Operand) (a b:Option Addr) (w:World):(eqGuard op t x y (.pointer a) (.pointer b)).run P w=.ok () w:=by
  unfold eqGuard;split<;>rfl
theorem Qmt {P:Program} (n:Nat) {t E:TypeId} (a:Option Addr) (w:World) (ht:P.underlying t=some (.pointer E)):(Op.equalIn (n+1) t (.pointer a) (.pointer none)).run P w=.ok a.isNone w:=by
  cases a<;>simp [Op.equalIn,run_underlying ht]
theorem Qqt {P:Program} {t E:TypeId} (a:Option Addr) (w:World) (ht:P.underlying t=some (.pointer E)):(Op.equal t (.pointer a) (.pointer none)).run P w=.ok a.isNone w :=
  Qmt 9999 a w ht
theorem OpS.onilE {tx ty E : TypeId} {a b : Operand} {q : Value} {H : α → HAtom} {o : Option α} (h : St e w Γ Ω) (hp : Pick Ω (f, .opt H q o) Ω') (hH : ∀ x G S w, (H x).p G S w → ∃ a, q = .pointer (some a)) (ht : C.P.underlying tx = some (.pointer E)) (hg : gd ops L g = some true) (hd : Nat.blt d C.fn.ntmps = true)
    (hx:ev L a=some q) (hy:ev L b=some (.pointer none)) (K:Z ((d,.bool o.isNone)::L) w):OpS C ops ⟨some d,.binOp .eql tx a b ty,t,p,af,g⟩ L w Z:=by
  obtain ⟨S,G,I,hs,ho⟩:=h
  obtain ⟨G1,G2,_,_,_,h4,_⟩:=ho.pick hp
  rcases HAtom.opt_nil hH h4 with ⟨rfl,e1⟩ | ⟨ad,rfl,e1⟩<;>rw [e1] at K <;>
  exact OpS.val hg rfl hd (λ ac hac=>by
    simp only [execOp,hac.ev hx,hac.ev hy,Sem.run_bind,Qmv,Result.andThen_ok]
    simp [binOp,Qqt _ _ ht]) K
end
end Lift
