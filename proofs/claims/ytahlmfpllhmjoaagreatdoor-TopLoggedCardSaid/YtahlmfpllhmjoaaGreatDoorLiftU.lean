import Derived.Test.YtahlmfpllhmjoaaGreatDoorLiftO
import Derived.Test.YtahlmfpllhmjoaaGreatDoorLiftT
import Derived.ArgAppend
set_option linter.unusedVariables false
set_option linter.unusedSimpArgs false
namespace Lift
open Go
section
variable {e : En} {w : World} {Γ : List (Bool × Atom)} {Ω Ω' : List (Bool × HAtom)} {f : Bool}
theorem St.freezeG {a:HAtom} {b:Atom} (h:St e w Γ ((f,a)::Ω)) (k:∀ G S,a.p G S w→(∀ c,G c→S c)→b.p S w):St e w ((f,b)::Γ) Ω:=by
  obtain ⟨S,G,I,hs,G1,G2,h1,h2,h3,h4,h5⟩:=h
  have hsub:∀ b,S b→S b∨G1 b:=λ b hb=>.inl hb
  refine ⟨λ b=>S b∨G1 b,G2,⟨I.step,?_,λ b hb=>I.gb b ((h1 b).2 (.inr hb)),?_,?_,λ b hb=>I.g0 b ((h1 b).2 (.inr hb))⟩,⟨?_,hs.st hsub (λ _ _=>rfl)⟩,OSat.st hsub (λ _ _=>rfl) (λ _ _=>rfl) h5⟩
  · rintro b (hb | hb)
    · exact I.sb b hb
    · exact I.gb b ((h1 b).2 (.inl hb))
  · rintro b (hb | hb) hg
    · exact I.dis b hb ((h1 b).2 (.inr hg))
    · exact h2 b hb hg
  · rintro b (hb | hb)
    · exact I.s0 b hb
    · exact .inr (I.g0 b ((h1 b).2 (.inl hb)))
  · exact k _ _ (a.st (fl.mono hsub) (λ _ _=>rfl) (λ _ _=>rfl) h4) (λ b hb=>⟨.inr hb,λ hf=>h3 b hf hb⟩)
end
section
variable {C:Cx} {L:List (Nat×Value)} {w:World} {ops:Array Oper} {Z:List (Nat×Value)→World→Prop} {d:Nat} {t T:TypeId} {p:String} {af:Array Edge} {g:Option (Nat×Bool)}
variable {e : En} {Γ : List (Bool × Atom)} {Ω Ω' Ω'' : List (Bool × HAtom)} {f f2 : Bool} {α β : Type} {r : ORep α} {s : Rep α} {fr : Rep β} {x : α} {y : β}
end
end Lift
