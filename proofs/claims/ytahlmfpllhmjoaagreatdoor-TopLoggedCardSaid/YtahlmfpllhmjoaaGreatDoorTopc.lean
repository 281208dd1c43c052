import Derived.Test.YtahlmfpllhmjoaaGreatDoorTopb
set_option linter.unusedVariables false
set_option linter.unusedSimpArgs false
namespace Lift
open Go
theorem in12 {v:Int} (h0:-1000000000000≤v) (h1:v≤1000000000000):clamp v=v:=by unfold clamp;omega
theorem Qql (fuel:Nat) {v:Int} (h0:-512≤v) (h1:v≤511):Qdn fuel v=some true:=by
  unfold Qdn
  exact Ev.isTrue (Ev.decT h0 (Ev.letP (Ev.ret (by simpa using h1))))
theorem Qrw (fuel:Nat) {v:Int} (h0:-3≤v) (h1:v≤3):Qec fuel v=some true:=by
  unfold Qec
  exact Ev.isTrue (Ev.decT h0 (Ev.letP (Ev.ret (by simpa using h1))))
theorem Qwk {fuel:Nat} (hf:100<fuel) {c:Conversion_} (h:Tab c.Signed c.Points):Qfl fuel c=some true:=by
  apply Ev.isTrue
  unfold Qfl
  have t2:=h.two
  have t12:=h.top
  refine Ev.join (λ s=>s=false) (λ s1 hs1=>Ev.iteF hs1 ?_) (λ j hj=>Ev.decF (by omega) (hj _ (by simp;omega)))
  refine Ev.loop (λ (n:Nat) (i:Int)=>i+(n:Int)=c.Points.length∧0≤i) (λ n i hI self hself=>?_) (n:=c.Points.length) (by omega) ⟨by simp,by simp⟩
  obtain ⟨i1,i2⟩:=hI
  refine Ev.dec (λ hlt=>Ev.idx i2 hlt (λ x1 e1 m1=>?_)) (λ _=>Ev.ret rfl)
  have hw:IntKind.i64.wrap (i+1)=i+1:=w_i64 (by omega) (by omega)
  refine Ev.join (λ s=>s=false) (λ s3 hs3=>Ev.iteF hs3 (by rw [hw];exact hself (n-1) _ (by omega) ⟨by omega,by omega⟩)) (λ j hj=>?_)
  obtain ⟨r1,v1,v2⟩:=h.raw x1 m1
  refine Ev.to (Qvy _ _) (Ev.letE (c:=false) (by rw [in12 v1 v2];simp) (Ev.iteF rfl (Ev.letP (Ev.dec (λ hpos=>?_) (λ _=>hj _ rfl)))))
  rw [w_i64 (show -9223372036854775808≤i-1 by omega) (by omega)]
  refine Ev.idx (by omega) (by omega) (λ x4 e4 m4=>?_)
  refine Ev.to (Qfu fuel c.Signed (h.raw x4 m4).1) (Ev.to (Qfu fuel c.Signed r1) (hj _ ?_))
  have:=h.asc (i-1).toNat x4 x1 e4 (by rw [show (i-1).toNat+1=i.toNat by omega];exact e1)
  simp;omega
theorem Qwi {fuel:Nat} (hf:100<fuel) {c:Conversion_} (h:CV c):Qfm fuel c=some true:=by
  apply Ev.isTrue
  unfold Qfm
  cases h with
  | lin f0 f1 m0 m1 b0 b1 k0 k1 l0 l1 hp =>
    refine Ev.letP (Ev.join (λ s=>s=true) (λ s hs=>Ev.iteT hs ?_) (λ j hj=>?_))
    · exact Ev.to (Qql fuel m0 m1) (Ev.iteT rfl (Ev.to (Qql fuel b0 b1) (Ev.iteT rfl (Ev.to (Qrw fuel k0 k1) (Ev.iteT rfl (Ev.to (Qrw fuel l0 l1) (Ev.iteT rfl (Ev.letP (Ev.ret (by rw [hp];rfl))))))))))
    · exact Ev.ite (λ h=>hj _ h) (λ h1=>Ev.letP (Ev.ite (λ h=>hj _ h) (λ h2=>Ev.letP (Ev.ite (λ h=>hj _ h) (λ h3=>Ev.letP (hj _ (by simp at h1 h2 h3 ⊢;omega)))))))
  | tab f m b k l hp =>
    refine Ev.letP (Ev.join (λ s=>s=false) (λ s hs=>Ev.iteF hs ?_) (λ j hj=>?_))
    · exact Ev.letP (Ev.iteT (by simpa using f) (Ev.beqT m (Ev.beqT b (Ev.beqT k (Ev.beqT l (Ev.to (Qwk hf hp) (Ev.ret rfl)))))))
    · exact Ev.beqF (by omega) (Ev.letP (Ev.beqF (by omega) (Ev.letP (Ev.beqF (by omega) (Ev.letP (hj _ (by simp;omega)))))))
end Lift
