import Derived.Test.YtahlmfpllhmjoaaGreatDoorTopd
set_option linter.unusedVariables false
set_option linter.unusedSimpArgs false
namespace Lift
open Go
def dist (s:Sensor_) (q:Int) (j:Nat):Int:=if j≤2 then nr s.Conversion.Signed s.Limits j-num s.Conversion.Signed q else num s.Conversion.Signed q-nr s.Conversion.Signed s.Limits j
theorem Qvi (fuel:Nat) {s:Sensor_} (h:LV s.Conversion.Signed s.Limits) {q:Int} (hq:byte q) {i:Nat} (hi:i<6):Ev (Qdp fuel s (i:Int) q) (λ y=>y.1=dist s q i):=by
  unfold Qdp
  obtain ⟨x,e1,e2,e3⟩:=h.at hi
  have bq:=Qrf s.Conversion.Signed hq
  have bx:=Qrf s.Conversion.Signed e2
  have lb:=Qkx s.Conversion.Signed
  refine Ev.to (Qfu fuel _ hq) (Ev.to (show idx s.Limits.Raw (i:Int)=some x by rw [Qam];exact e1) (Ev.chk (by rw [h.len];rfl) (Ev.to (Qfu fuel _ e2) (Ev.dec (λ h2=>Ev.letP (Ev.ret ?_)) (λ h2=>Ev.letP (Ev.ret ?_))))))
  · simp only [w_i64 (show -9223372036854775808≤num s.Conversion.Signed x-num s.Conversion.Signed q by omega) (by omega),dist]
    rw [if_pos (by omega),e3]
  · simp only [w_i64 (show -9223372036854775808≤num s.Conversion.Signed q-num s.Conversion.Signed x by omega) (by omega),dist]
    rw [if_neg (by omega),e3]
def offs (i:Nat):Int:=([0,2,4,7,9,11]:List Int).getD i 0
theorem Qpy {fuel:Nat} (hf:100<fuel):Qeo fuel []=some 0:=by
  obtain ⟨f,rfl⟩:∃ f,fuel=f+5:=⟨fuel-5,by omega⟩
  rfl
theorem CV.points {c:Conversion_} (h:CV c):c.Points.length≤12:=by
  cases h with
  | lin _ _ _ _ _ _ _ _ _ _ hp=>rw [hp];simp
  | tab _ _ _ _ _ hp=>exact hp.top
end Lift
