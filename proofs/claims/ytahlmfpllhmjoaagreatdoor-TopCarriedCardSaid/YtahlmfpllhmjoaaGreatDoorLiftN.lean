import Derived.Test.YtahlmfpllhmjoaaGreatDoorLiftZ
import Derived.MapKept
set_option linter.unusedVariables false
set_option linter.unusedSimpArgs false
namespace Lift
open Go
section
variable {C:Cx} {L:List (Nat×Value)} {w:World} {ops:Array Oper} {Z:List (Nat×Value)→World→Prop} {d:Nat} {t T:TypeId} {p:String} {af:Array Edge} {g:Option (Nat×Bool)}
variable {e : En} {Γ : List (Bool × Atom)} {Ω Ω' : List (Bool × HAtom)} {f : Bool} {α β : Type} {r r' : Rep α} {fr : Rep β} {x : α} {y : β}
end
def kput {κ α:Type} (eq:κ→κ→Bool):List (κ×α)→κ→α→List (κ×α)
  | [],k,x=>[(k,x)]
  | (a,y)::l,k,x=>if eq k a=true then (k,x)::l else (a,y)::kput eq l k x
def Kents {κ α:Type} (kr:Rep κ) (r:Rep α) (S:Blks) (w:World):List MapEntry→List (κ×α)→Prop
  | [],[]=>True
  | e::es,(k,x)::l=>kr.val S w e.key k∧r.val S w e.val x∧Kents kr r S w es l
  | _,_=>False
theorem Kents.stab {κ α:Type} {kr:Rep κ} {r:Rep α} {S S':Blks} {w w':World} (a:∀ b,S b→S' b) (k:∀ b,S b→w'.heap[b]?=w.heap[b]?) :
    ∀ {es:List MapEntry} {l:List (κ×α)},Kents kr r S w es l→Kents kr r S' w' es l
  | [],[],h=>h
  | _::_,(_,_)::_,⟨h1,h2,h3⟩=>⟨kr.val_stab a k h1,r.val_stab a k h2,Kents.stab a k h3⟩
  | [],_::_,h=>h.elim
  | _::_,[],h=>h.elim
def HAtom.mpk {κ α:Type} (T:TypeId) (kr:Rep κ) (r:Rep α) (v:Value) (l:List (κ×α)):HAtom where
  p:=λ G S w=>∃ g es ck,v=.map (some g)∧(∀ b,G b↔b=g)∧w.heap[g]?=some (.map es ck)∧Kents kr r S w es.toList l
  st:=by
    intro G S S' w w' a k kg ⟨g,es,ck,e,hG,hh,hm⟩
    exact ⟨g,es,ck,e,hG,by rw [kg g ((hG g).2 rfl)];exact hh,hm.stab a k⟩
section
variable {C:Cx} {L:List (Nat×Value)} {w:World} {ops:Array Oper} {Z:List (Nat×Value)→World→Prop} {d:Nat} {t T:TypeId} {p:String} {af:Array Edge} {g:Option (Nat×Bool)}
variable {e : En} {Γ : List (Bool × Atom)} {Ω Ω' : List (Bool × HAtom)} {f : Bool} {κ α β : Type} {kr : Rep κ} {keq : κ → κ → Bool} {r r' : Rep α} {fr : Rep β} {x : α} {y : β}
theorem OpS.mkmapk {kr:Rep κ} {r:Rep α} (h:St e w Γ Ω) (hg:gd ops L g=some true) (hd:Nat.blt d C.fn.ntmps=true)
    (K:∀ u w',St e w' Γ ((true,.mpk T kr r u [])::Ω)→Z ((d,u)::L) w'):OpS C ops ⟨some d,.makeMap T none,t,p,af,g⟩ L w Z:=by
  refine OpS.val (v:=.map (some w.heap.size)) (w':=w.alloc (.map #[] 0)) hg rfl hd (λ ac hac=>?_) (K _ _ (h.alloc (λ S _ _=>?_)))
  · simp [execOp,Instr.makeMap,newObj,Sem.run]
  · exact ⟨w.heap.size,#[],0,rfl,λ b=>Iff.rfl,by rw [heap_alloc_new],trivial⟩
end
end Lift
