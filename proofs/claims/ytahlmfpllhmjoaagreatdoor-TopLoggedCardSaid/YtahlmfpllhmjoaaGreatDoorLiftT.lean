import Derived.Test.YtahlmfpllhmjoaaGreatDoorLiftS
set_option linter.unusedVariables false
set_option linter.unusedSimpArgs false
namespace Lift
open Go
section
variable {C:Cx} {L:List (Nat×Value)} {w:World} {ops:Array Oper} {Z:List (Nat×Value)→World→Prop} {d:Nat} {t T:TypeId} {p:String} {af:Array Edge} {g:Option (Nat×Bool)}
variable {e : En} {Γ : List (Bool × Atom)} {Ω Ω' : List (Bool × HAtom)} {f : Bool} {α β : Type} {r : Rep α}
end
end Lift
