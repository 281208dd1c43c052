import Derived.Test.YtahlmfpllhmjoaaGreatDoorLiftL
import Derived.Laws.CopyRow
import Derived.Laws.IdiomCopy
set_option linter.unusedVariables false
set_option linter.unusedSimpArgs false
namespace Lift
open Go
theorem V.pure {α:Type} {B:Nat} {Γ:List (Bool×Atom)} {f f':Bool} {r:Rep α} {v:Value} {x:α} (h:V B Γ f r v x) (hp:Pure r):V B Γ f' r v x:=by
  intro S w hs
  have h1:=h S w hs
  unfold Rep.val at h1 ⊢
  split at h1
  · obtain ⟨cs,e,hr⟩:=h1;exact ⟨cs,e,hp hr⟩
  · exact hp h1
section
variable {C:Cx} {L:List (Nat×Value)} {w:World} {ops:Array Oper} {Z:List (Nat×Value)→World→Prop} {d:Nat} {t T:TypeId} {p:String} {af:Array Edge} {g:Option (Nat×Bool)}
variable {e : En} {Γ : List (Bool × Atom)} {Ω Ω' : List (Bool × HAtom)} {f : Bool} {α β : Type} {r r' : Rep α} {fr : Rep β} {x : α} {y : β}
theorem Qlq {T0:TypeId} {v:Value} {l:List α} {S G:Blks} (h:(HAtom.slice T0 r v l).p G S w):(v=.slice none 0 0∧l=[])∨∃ gb cap cur,v=.slice (some ⟨gb,0,none⟩) l.length cap∧l.length≤cap∧cap≤maxLen∧w.heap[gb]?=some (.cells cur T0 (0,0))∧cur.size=cap*r.n∧∀ b,G b↔b=gb:=by
  obtain ⟨xs,hown,_,hG⟩:=h
  rcases hown.2 with ⟨rfl,hn⟩ | ⟨gb,cap,cur,rfl,_,hg,hnc,hcm,hcs,_⟩
  · exact .inl ⟨rfl,List.eq_nil_of_length_eq_zero hn⟩
  · exact .inr ⟨gb,cap,cur,rfl,hnc,hcm,hg,hcs,λ b=>by rw [hG];simp [Value.ownBlock,eq_comm]⟩
end
end Lift
