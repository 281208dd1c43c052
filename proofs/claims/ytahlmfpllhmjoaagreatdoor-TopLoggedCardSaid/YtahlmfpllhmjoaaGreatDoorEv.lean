import Derived.Test.YtahlmfpllhmjoaaGreatDoorLiftP
set_option linter.unusedVariables false
set_option linter.unusedSimpArgs false
namespace Lift
open Go
def Ev {α:Type} (x:Option α) (Q:α→Prop):Prop:=∃ a,x=some a∧Q a
theorem Ev.ret {α:Type} {a:α} {Q:α→Prop} (h:Q a):Ev (some a) Q:=⟨a,rfl,h⟩
theorem Ev.mono {α:Type} {x:Option α} {P Q:α→Prop} (h:Ev x P) (k:∀ a,P a→Q a):Ev x Q:=let ⟨a,e,p⟩:=h;⟨a,e,k a p⟩
theorem Ev.bind {α β:Type} {x:Option α} {f:α→Option β} {P:α→Prop} {Q:β→Prop} (h:Ev x P) (k:∀ a,P a→Ev (f a) Q):Ev (bindP x f) Q:=by
  obtain ⟨a,rfl,p⟩:=h;exact k a p
theorem Ev.to {α β:Type} {x:Option α} {f:α→Option β} {a:α} {Q:β→Prop} (h:x=some a) (k:Ev (f a) Q):Ev (bindP x f) Q:=by
  rw [h];exact k
theorem Ev.chk {β:Type} {b:Bool} {f:Unit→Option β} {Q:β→Prop} (h:b=true) (k:Ev (f ()) Q):Ev (bindP (Lift.chk b) f) Q:=by
  rw [h];exact k
theorem Ev.letP {α β:Type} {a:α} {f:α→Option β} {Q:β→Prop} (k:Ev (f a) Q):Ev (Lift.letP a f) Q:=k
theorem Ev.letE {α β:Type} {a c:α} {f:α→Option β} {Q:β→Prop} (h:a=c) (k:Ev (f c) Q):Ev (Lift.letP a f) Q:=by subst h;exact k
theorem Ev.ite {β:Type} {b:Bool} {x y:Option β} {Q:β→Prop} (ht:b=true→Ev x Q) (hf:b=false→Ev y Q):Ev (iteP b x y) Q:=by
  cases b with
  | true=>exact ht rfl
  | false=>exact hf rfl
theorem Ev.iteT {β:Type} {b:Bool} {x y:Option β} {Q:β→Prop} (h:b=true) (k:Ev x Q):Ev (iteP b x y) Q:=by rw [h];exact k
theorem Ev.iteF {β:Type} {b:Bool} {x y:Option β} {Q:β→Prop} (h:b=false) (k:Ev y Q):Ev (iteP b x y) Q:=by rw [h];exact k
theorem Ev.dec {β:Type} {p:Prop} [Decidable p] {x y:Option β} {Q:β→Prop} (ht:p→Ev x Q) (hf:¬ p→Ev y Q):Ev (iteP (decide p) x y) Q :=
  Ev.ite (λ h=>ht (of_decide_eq_true h)) (λ h=>hf (of_decide_eq_false h))
theorem Ev.decT {β:Type} {p:Prop} [Decidable p] {x y:Option β} {Q:β→Prop} (h:p) (k:Ev x Q):Ev (iteP (decide p) x y) Q:=Ev.iteT (decide_eq_true h) k
theorem Ev.decF {β:Type} {p:Prop} [Decidable p] {x y:Option β} {Q:β→Prop} (h:¬ p) (k:Ev y Q):Ev (iteP (decide p) x y) Q:=Ev.iteF (decide_eq_false h) k
theorem Ev.beqT {α β:Type} [BEq α] [LawfulBEq α] {a b:α} {x y:Option β} {Q:β→Prop} (h:a=b) (k:Ev x Q):Ev (iteP (a==b) x y) Q:=Ev.iteT (by simpa using h) k
theorem Ev.beqF {α β:Type} [BEq α] [LawfulBEq α] {a b:α} {x y:Option β} {Q:β→Prop} (h:a≠b) (k:Ev y Q):Ev (iteP (a==b) x y) Q:=Ev.iteF (by simpa using h) k
theorem Ev.beq {α β:Type} [BEq α] [LawfulBEq α] {a b:α} {x y:Option β} {Q:β→Prop} (ht:a=b→Ev x Q) (hf:a≠b→Ev y Q):Ev (iteP (a==b) x y) Q :=
  Ev.ite (λ h=>ht (by simpa using h)) (λ h=>hf (by simpa using h))
theorem Ev.bneF {α β:Type} [BEq α] [LawfulBEq α] {a b:α} {x y:Option β} {Q:β→Prop} (h:a=b) (k:Ev y Q):Ev (iteP (a != b) x y) Q:=Ev.iteF (by simpa using h) k
theorem Ev.bneT {α β:Type} [BEq α] [LawfulBEq α] {a b:α} {x y:Option β} {Q:β→Prop} (h:a≠b) (k:Ev x Q):Ev (iteP (a != b) x y) Q:=Ev.iteT (by simpa using h) k
theorem Ev.bne {α β:Type} [BEq α] [LawfulBEq α] {a b:α} {x y:Option β} {Q:β→Prop} (ht:a≠b→Ev x Q) (hf:a=b→Ev y Q):Ev (iteP (a != b) x y) Q :=
  Ev.ite (λ h=>ht (by simpa using h)) (λ h=>hf (by simpa using h))
theorem Ev.not {β:Type} {b:Bool} {x y:Option β} {Q:β→Prop} (k:Ev (iteP b y x) Q):Ev (iteP (!b) x y) Q:=by cases b<;>exact k
theorem Ev.join {σ β:Type} {r:σ→Option β} {body:(σ→Option β)→Option β} {Q:β→Prop} (R:σ→Prop) (hr:∀ s,R s→Ev (r s) Q) (hb:∀ j:σ→Option β,(∀ s,R s→Ev (j s) Q)→Ev (body j) Q):Ev (joinP r body) Q:=hb r hr
theorem Ev.loop {σ β:Type} {step:(σ→Option β)→σ→Option β} {Q:β→Prop} (I:Nat→σ→Prop)
    (h:∀ n s,I n s→∀ self:σ→Option β,(∀ m s',m<n→I m s'→Ev (self s') Q)→Ev (step self s) Q):∀ {fuel n:Nat} {s:σ},n<fuel→I n s→Ev (loopP step fuel s) Q:=by
  intro fuel
  induction fuel with
  | zero=>intro n s hf _;omega
  | succ f ih=>intro n s hf hi;exact h n s hi _ (λ m s' hm hi'=>ih (by omega) hi')
theorem Ev.isTrue {x:Option Bool} (h:Ev x (λ b=>b=true)):x=some true:=by obtain ⟨a,e,rfl⟩:=h;exact e
end Lift
