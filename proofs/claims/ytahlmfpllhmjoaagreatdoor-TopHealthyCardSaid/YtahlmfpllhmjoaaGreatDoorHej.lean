import Derived.Test.YtahlmfpllhmjoaaGreatDoorHei
set_option linter.unusedVariables false
set_option linter.unusedSimpArgs false
namespace Lift
open Go
theorem wReading_tot {fuel:Nat} (hf:100<fuel) {S:List Sensor_} (hS:WL S) {A:List Association_} {m:monitor_Monitor} (hm:MW S A m) (v:Int):Tot (monitor_Monitor_Reading fuel m v):=by
  unfold monitor_Monitor_Reading
  have hfd:Ev (monitor_Monitor_find fuel m v) (λ y:Int=>y=-1∨∃ (i:Nat) (s:Sensor_),y=i∧S[i]?=some s):=by
    unfold monitor_Monitor_find;rw [hm.s]
    exact Ev.bind (wfind_ev hf hS.len _) (λ y hy=>Ev.ret (hy.imp (λ h=>h.1) (λ ⟨i,s,h1,h2,_⟩=>⟨i,s,h1,h2⟩)))
  refine Ev.bind hfd (λ y1 h1=>?_)
  rcases h1 with rfl | ⟨i,s,rfl,hs⟩
  · exact Ev.join (λ b=>b=true) (λ b hb=>Ev.iteT hb Tot.ret) (λ j hj=>Ev.decT (by omega) (hj _ rfl))
  have hi:=(List.getElem?_eq_some_iff.1 hs).1
  have hfl:=hm.fl
  have is:idx m.sensors (i:Int)=some s:=by rw [hm.s,idx_nat];exact hs
  obtain ⟨n0,_,fs⟩:=(hS.ok s (List.mem_of_getElem? hs)).fs
  refine Ev.join (λ _=>True) (λ b _=>Ev.ite (λ _=>Tot.ret) (λ _=>Ev.to is (Ev.idx (by omega) (by omega) (λ F _ mF=>Ev.bind (reading_tot hf fs (hm.ft F mF)) (λ _ _=>Tot.ret))))) (λ j hj=>Ev.decF (by omega) (Ev.to is (hj _ trivial)))
def rdg (fuel:Nat) (m:monitor_Monitor) (v:Int):Int×Bool:=(monitor_Monitor_Reading fuel m v).getD (0,false)
theorem rdg_eq {fuel:Nat} (hf:100<fuel) {S:List Sensor_} (hS:WL S) {A:List Association_} {m:monitor_Monitor} (hm:MW S A m) (v:Int):monitor_Monitor_Reading fuel m v=some (rdg fuel m v):=by
  obtain ⟨y,e,_⟩:=wReading_tot hf hS hm v
  unfold rdg;rw [e];rfl
theorem Severity_ev {fuel:Nat} (hf:100<fuel) (v:Int):Ev (threshold_Severity fuel v) (λ y=>0≤y∧y≤3):=by
  unfold threshold_Severity
  refine Ev.loop (λ (n:Nat) (x:Int)=>x=n∧n≤3) (λ n x hI self hself=>?_) (n:=3) (by omega) ⟨rfl,by omega⟩
  obtain ⟨rfl,h3⟩:=hI
  refine Ev.dec (λ hpos=>?_) (λ _=>Ev.ret ⟨by decide,by decide⟩)
  have w1:IntKind.i64.wrap ((n:Int)-1)=((n-1:Nat):Int):=by rw [w_i64 (by omega) (by omega)];omega
  have w2:IntKind.i64.wrap ((n:Int)+2)=((n+2:Nat):Int):=by rw [w_i64 (by omega) (by omega)];omega
  rw [w1,w2]
  exact Ev.chk (decide_eq_true (by omega)) (Ev.chk (decide_eq_true (by omega)) (Ev.ite (λ _=>Ev.ret ⟨by omega,by omega⟩) (λ _=>Ev.letP (hself (n-1) _ (by omega) ⟨rfl,by omega⟩))))
def svr (fuel:Nat) (v:Int):Int:=(threshold_Severity fuel v).getD 0
theorem svr_eq {fuel:Nat} (hf:100<fuel) (v:Int):threshold_Severity fuel v=some (svr fuel v)∧0≤svr fuel v∧svr fuel v≤3:=by
  obtain ⟨y,e,h⟩:=Severity_ev hf v
  unfold svr;rw [e];exact ⟨rfl,h⟩
def wstep (fuel:Nat) (m:monitor_Monitor) (S:List Sensor_) (A:List Association_) (e:Entity_) (i:Nat) (a:Int):Int :=
  match S[i]?,m.states[i]? with
  | some s,some v=>if (rdg fuel m s.Number).2=true∧inb A s.Entity e=true then max a (svr fuel (IntKind.u8.wrap v)) else a
  | _,_=>a
def wfold (fuel:Nat) (m:monitor_Monitor) (S:List Sensor_) (A:List Association_) (e:Entity_):Nat→Int
  | 0=>0
  | i+1=>wstep fuel m S A e i (wfold fuel m S A e i)
theorem wstep_at {fuel:Nat} {m:monitor_Monitor} {S:List Sensor_} {A:List Association_} {e:Entity_} {i:Nat} {s:Sensor_} {v:Int} (hs:S[i]?=some s) (hv:m.states[i]?=some v) (a:Int) :
    wstep fuel m S A e i a=if (rdg fuel m s.Number).2=true∧inb A s.Entity e=true then max a (svr fuel (IntKind.u8.wrap v)) else a:=by
  unfold wstep;rw [hs,hv]
theorem mHealth_ev {fuel:Nat} (hf:100<fuel) {S:List Sensor_} (hS:WL S) {A:List Association_} (hA:AOk A) (hA5:A.length≤5) {m:monitor_Monitor} (hm:MW S A m) (e:Entity_):monitor_Monitor_Health fuel m [] e=some (wfold fuel m S A e S.length,0):=by
  apply Ev.eq
  unfold monitor_Monitor_Health
  have h6:=hS.len
  have hsl:=hm.sl
  refine Ev.loop (λ (n:Nat) (x:Int×List Condition_)=>∃ i:Nat,x.1=i∧i+n=S.length∧x.2.length≤i∧(∀ c∈x.2,0≤c.Severity∧c.Severity≤3)∧hfold A e x.2=wfold fuel m S A e i) (λ n x hI self hself=>?_) (n:=S.length) (by omega) ⟨0,rfl,by omega,by simp,by simp,rfl⟩
  obtain ⟨pos,own⟩:=x
  obtain ⟨i,i1,i2,i3,i4,i5⟩:=hI
  simp only at i1 i3 i4 i5 ⊢
  subst i1
  rw [hm.s]
  refine Ev.dec (λ hlt=>Ev.idx (by omega) hlt (λ s es sm=>?_)) (λ hge=>?_)
  · simp only [Int.toNat_natCast] at es
    obtain ⟨v,hv⟩:∃ v,m.states[i]?=some v:=⟨_,List.getElem?_eq_getElem (by omega)⟩
    have hw:=wstep_at (fuel:=fuel) (m:=m) (A:=A) (e:=e) es hv (wfold fuel m S A e i)
    refine Ev.to (rdg_eq hf hS hm s.Number) ?_
    rw [w_inc (by omega)]
    refine Ev.ite (λ hr=>Ev.to (by rw [idx_nat];exact hv) (Ev.to (svr_eq hf _).1 (Ev.app (by simp;omega) (hself (n-1) _ (by omega) ⟨i+1,rfl,by omega,by simp;omega,λ c hc=>?_,?_⟩)))) (λ hr=>hself (n-1) _ (by omega) ⟨i+1,rfl,by omega,by simp only;omega,i4,?_⟩)
    · rcases List.mem_append.1 hc with hc | hc
      · exact i4 c hc
      · simp only [List.mem_singleton] at hc;subst hc;exact (svr_eq hf _).2
    · show hfold A e (own++[_])=wstep fuel m S A e i (wfold fuel m S A e i)
      rw [hw,← i5]
      unfold hfold
      rw [List.foldl_append]
      simp only [List.foldl_cons,List.foldl_nil,hstep]
      by_cases c:inb A s.Entity e=true
      · rw [if_pos c,if_pos ⟨hr,c⟩]
      · rw [if_neg c,if_neg (λ h=>c h.2)]
    · show hfold A e own=wstep fuel m S A e i (wfold fuel m S A e i)
      rw [hw,if_neg (λ h=>by rw [hr] at h;exact absurd h.1 (by simp)),i5]
  · rw [hm.l]
    refine Ev.to (eHealth_eq hf hA hA5 e (by omega) i4) (Ev.ret ?_)
    have:i=S.length:=by omega
    simp only [i5,this]
end Lift
