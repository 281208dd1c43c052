import Derived.Test.YtahlmfpllhmjoaaGreatDoorPlain
import Derived.Test.YtahlmfpllhmjoaaGreatDoorEv
set_option linter.unusedVariables false
set_option linter.unusedSimpArgs false
namespace Lift
open Go
def Tot {α:Type} (x:Option α):Prop:=Ev x (λ _=>True)
theorem Tot.ret {α:Type} {a:α}:Tot (some a):=Ev.ret trivial
theorem Qoe {α:Type} {b:Nat} {l m:List α} (h:(l.length+m.length)*b≤140737488355328):app b l m=some (l++m):=by simp [app,h]
def clamp (a:Int):Int:=max (-1000000000000) (min a 1000000000000)
theorem Qvy (fuel:Nat) (a:Int):Qhv fuel a=some (clamp a):=rfl
end Lift
