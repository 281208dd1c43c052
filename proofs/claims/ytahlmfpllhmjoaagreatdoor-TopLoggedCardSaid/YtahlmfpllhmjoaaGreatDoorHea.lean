import Derived.Test.YtahlmfpllhmjoaaGreatDoorPlain
import Derived.Test.YtahlmfpllhmjoaaGreatDoorTopg
set_option linter.unusedVariables false
set_option linter.unusedSimpArgs false
namespace Lift
open Go
def up:List Association_→Entity_→Option Entity_
  | [],_=>none
  | x::l,e=>if Entity_.eqb x.Contained e=true then some x.Container else up l e
end Lift
namespace Lift
open Go
theorem Ev.eq {α:Type} {x:Option α} {v:α} (h:Ev x (λ y=>y=v)):x=some v:=by obtain ⟨a,e,rfl⟩:=h;exact e
theorem drop_at {α:Type} {l:List α} {i:Nat} {x:α} (h:l[i]?=some x):l.drop i=x::l.drop (i+1):=by
  obtain ⟨hi,e⟩:=List.getElem?_eq_some_iff.1 h
  rw [List.drop_eq_getElem_cons hi,e]
theorem w_inc {i:Nat} (h:i<1000000):IntKind.i64.wrap ((i:Int)+1)=((i+1:Nat):Int):=by rw [w_i64 (by omega) (by omega)];rfl
def has (l:List Entity_) (e:Entity_):Bool:=l.any (λ y=>Entity_.eqb e y)
end Lift
