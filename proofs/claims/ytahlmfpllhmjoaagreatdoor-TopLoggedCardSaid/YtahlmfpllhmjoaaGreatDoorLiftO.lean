import Derived.Test.YtahlmfpllhmjoaaGreatDoorLiftK
set_option linter.unusedVariables false
set_option linter.unusedSimpArgs false
namespace Lift
open Go
structure ORep (α:Type) where
  n:Nat
  agg:Bool
  rel:Blks→Blks→World→List Value→α→Prop
  len:∀ {G S w cs x},rel G S w cs x→cs.length=n
  one:∀ {G S w cs x},rel G S w cs x→∀ c∈cs,c.oneCell'=true
  stab:∀ {G S S':Blks} {w w':World} {cs:List Value} {x:α},(∀ b,S b→S' b)→(∀ b,S b→w'.heap[b]?=w.heap[b]?)→(∀ b,G b→w'.heap[b]?=w.heap[b]?)→rel G S w cs x→rel G S' w' cs x
  ext:∀ {G G':Blks} {S:Blks} {w:World} {cs:List Value} {x:α},(∀ b,G b↔G' b)→rel G S w cs x→rel G' S w cs x
def raw {α:Type} (v:Value):ORep α where
  n:=1
  agg:=false
  rel:=λ G _ _ cs _=>(∀ b,¬ G b)∧cs=[v]∧v.oneCell'=true
  len:=by intro _ _ _ _ _ h;rw [h.2.1];rfl
  one:=by intro _ _ _ _ _ h c hc;rw [h.2.1] at hc;simp at hc;rw [hc];exact h.2.2
  stab:=λ _ _ _ h=>h
  ext:=λ e h=>⟨λ b hb=>h.1 b ((e b).2 hb),h.2⟩
section
variable {C:Cx} {L:List (Nat×Value)} {w:World} {ops:Array Oper} {Z:List (Nat×Value)→World→Prop} {d:Nat} {t T:TypeId} {p:String} {af:Array Edge} {g:Option (Nat×Bool)}
variable {e : En} {Γ : List (Bool × Atom)} {Ω Ω' Ω'' : List (Bool × HAtom)} {f f2 : Bool} {α β : Type} {r r1 r' : ORep α} {fr : Rep β} {pc pc' : ORep β} {x : α} {y z : β} {u : β → α}
end
end Lift
