import Derived.Test.YtahlmfpllhmjoaaGreatDoorTopd
set_option linter.unusedVariables false
set_option linter.unusedSimpArgs false
namespace Lift
open Go
def u16 (v:Int):Prop:=0≤v∧v≤65535
theorem Qek (v:Int):u16 (IntKind.u16.wrap v):=by unfold u16;rw [w_u16];omega
theorem Qly (x:BitVec IntKind.u16.bits):BitVec.ofInt IntKind.u16.bits (IntKind.u16.wrap (x.toNat:Int))=x:=by
  have hx:x.toNat<65536:=x.isLt
  rw [w_u16,Int.emod_eq_of_lt (by omega) (by omega)]
  apply BitVec.eq_of_toNat_eq
  rw [Qeg]
  exact Nat.mod_eq_of_lt x.isLt
theorem Qna (s m n:Int):bAndNot .u16 (bOr .u16 (bAndNot .u16 s m) (bAndNot .u16 s n)) s=0:=by
  unfold bAndNot bOr
  rw [Qly,Qly,Qly]
  have:((BitVec.ofInt IntKind.u16.bits s &&& ~~~BitVec.ofInt IntKind.u16.bits m ||| BitVec.ofInt IntKind.u16.bits s &&& ~~~BitVec.ofInt IntKind.u16.bits n) &&& ~~~BitVec.ofInt IntKind.u16.bits s)=0#IntKind.u16.bits:=by
    apply BitVec.eq_of_getLsbD_eq
    intro i hi
    simp only [BitVec.getLsbD_and,BitVec.getLsbD_or,BitVec.getLsbD_not,BitVec.getLsbD_zero,hi]
    cases (BitVec.ofInt IntKind.u16.bits s).getLsbD i<;>simp
  rw [this];rfl
structure FS (n:Int) (s:Sensor_):Prop where
  number:s.Number=n
  ty:byte s.Type_
  unit:byte s.Unit
  ent:byte s.Entity.ID∧byte s.Entity.Instance
  name:Txt s.Name
  samples:s.Samples=1∨s.Samples=3∨s.Samples=5
  hyst:byte s.HystLower∧byte s.HystUpper
  words:u16 s.States∧u16 s.Assert∧u16 s.Deassert
  ana:s.Discrete=false→CV s.Conversion∧LV s.Conversion.Signed s.Limits∧s.States=0∧(bAndNot .u16 (bOr .u16 s.Assert s.Deassert) (IntKind.u16.wrap s.Limits.Mask) != 0)=false
  dis:s.Discrete=true→s.Conversion=Conversion_.z∧s.Limits=Thresholds_.z∧s.HystLower=0∧s.HystUpper=0∧s.Samples=1∧s.States≤32767∧bAndNot .u16 (bOr .u16 s.Assert s.Deassert) s.States=0
theorem FS.av {n:Int} {s:Sensor_} (h:FS n s) (hd:s.Discrete=false):AV s:=by
  obtain ⟨a,b,c,d⟩:=h.ana hd
  exact ⟨h.name,h.samples,hd,a,b,c,d⟩
theorem FS.valid {n:Int} {fuel:Nat} (hf:100<fuel) {s:Sensor_} (h:FS n s):Qbo fuel s=some true:=by
  cases hd:s.Discrete
  · exact (h.av hd).valid hf
  · apply Ev.isTrue
    obtain ⟨e1,e2,e3,e4,e5,e6,e7⟩:=h.dis hd
    unfold Qbo
    refine Ev.to (Qsc hf h.name) (Ev.join (λ b=>b=false) (λ b hb=>Ev.iteF hb (Ev.iteT hd (Ev.bind (P:=λ b=>b=true) ?_ (λ b hb=>Ev.ret hb)))) (λ j hj=>Ev.iteF rfl (Ev.iteF (by rw [e5];rfl) (hj _ rfl))))
    unfold Qfq
    refine Ev.join (λ b=>b=true) (λ b hb=>?_) (λ j hj=>?_)
    · refine Ev.join (λ b=>b=true) (λ b2 hb2=>Ev.iteT hb2 (Ev.iteT (by rw [e5];rfl) (Ev.decT e6 (Ev.letP (Ev.ret (by rw [e7];rfl)))))) (λ j hj=>Ev.iteT hb (Ev.iteT (by rw [e2];rfl) (Ev.iteT (by rw [e3];rfl) (Ev.letP (hj _ (by rw [e4];rfl))))))
    · rw [e1]
      exact Ev.iteT rfl (Ev.iteT rfl (Ev.iteT rfl (Ev.iteT rfl (Ev.iteT rfl (Ev.iteT rfl (Ev.letP (hj _ rfl)))))))
theorem Qri (fuel:Nat) {d:Qg} (h:DOk d):Ev (Qbb fuel d) (λ y=>(byte y.1.ID∧byte y.1.Instance)∧DOk y.2):=by
  unfold Qbb
  refine Ev.bind (Qs fuel h (by decide) (by decide)) (λ y1 h1=>Ev.bind (Qs fuel h1.2.2 (by decide) (by decide)) (λ y2 h2=>Ev.ret ⟨⟨?_,?_⟩,h2.2.2⟩))
  · unfold byte;simp only [w_u8];omega
  · unfold byte;simp only [w_u8];omega
theorem zbyte:byte 0:=by unfold byte;decide
theorem Qha (v:Int):byte (IntKind.u8.wrap v):=by unfold byte;rw [w_u8];omega
theorem Qit (a b:Int):u16 (bAndNot .u16 a b):=Qek _
theorem Qui {fuel:Nat} (hf:100<fuel) {d:Qg} (h:DOk d) (n:Int):Ev (Qdv fuel d n) (λ y=>FS n y.1∧DOk y.2):=by
  unfold Qdv
  refine Ev.bind (Qs fuel h (by decide) (by decide)) (λ y1 h1=>Ev.bind (Qkj fuel h1.2.2) (λ y2 h2=>Ev.bind (Qs fuel h2.2 (by decide) (by decide)) (λ y3 h3=>?_)))
  obtain ⟨a0,a1,h3⟩:=h3
  rw [w_i64 (show -9223372036854775808≤1+y3.1 by omega) (by omega)]
  refine Ev.bind (Text_ev hf h3 (by decide) (by decide) (by decide) (by omega) (by omega)) (λ y4 h4=>Ev.bind (Qri fuel h4.2) (λ y5 h5=>Ev.bind (Qet fuel h5.2 (by decide) (by decide)) (λ y6 h6=>Ev.bind (Qet fuel h6 (by decide) (by decide)) (λ y7 h7=>Ev.ite (λ _=>?_) (λ _=>?_)))))
  · refine Ev.bind (Qs fuel h7 (by decide) (by decide)) (λ y8 h8=>Ev.bind (Qs fuel h8.2.2 (by decide) (by decide)) (λ y9 h9=>Ev.bind (Qs fuel h9.2.2 (by decide) (by decide)) (λ y10 h10=>Ev.bind (Qs fuel h10.2.2 (by decide) (by decide)) (λ y11 h11=>Ev.ret ⟨⟨rfl,Qha _,h2.1,h5.1,h4.1,.inl rfl,⟨zbyte,zbyte⟩,⟨Qek _,Qit _ _,Qit _ _⟩,λ h=>by simp at h,λ _=>⟨rfl,rfl,rfl,rfl,rfl,?_,Qna _ _ _⟩⟩,h11.2.2⟩))))
    have:=h8.1
    have:=h8.2.1
    simp only [w_u16];omega
  · refine Ev.bind (Qs fuel h7 (by decide) (by decide)) (λ y12 h12=>Ev.bind (Qqv hf h12.2.2) (λ y13 h13=>Ev.bind (Qqz hf h13.2 _) (λ y14 h14=>Ev.bind (Qs fuel h14.2 (by decide) (by decide)) (λ y15 h15=>Ev.bind (Qs fuel h15.2.2 (by decide) (by decide)) (λ y16 h16=>Ev.bind (Qet fuel h16.2.2 (by decide) (by decide)) (λ y17 h17=>?_))))))
    have hs:IntKind.i64.wrap (1+IntKind.i64.wrap (2*y12.1))=1∨IntKind.i64.wrap (1+IntKind.i64.wrap (2*y12.1))=3∨IntKind.i64.wrap (1+IntKind.i64.wrap (2*y12.1))=5:=by
      obtain ⟨b0,b1,_⟩:=h12
      rw [w_i64 (show -9223372036854775808≤2*y12.1 by omega) (by omega),w_i64 (by omega) (by omega)]
      omega
    have lv:=h14.1
    have m0:=lv.m0
    have m1:=lv.m1
    have hm:IntKind.u16.wrap y14.1.Mask=y14.1.Mask:=by rw [w_u16];omega
    have key:∀ s:Sensor_,s.Number=n→byte s.Type_→byte s.Unit→(byte s.Entity.ID∧byte s.Entity.Instance)→Txt s.Name→(s.Samples=1∨s.Samples=3∨s.Samples=5)→(byte s.HystLower∧byte s.HystUpper)→s.States=0→u16 s.Assert→u16 s.Deassert→s.Discrete=false→s.Conversion=y13.1→s.Limits=y14.1→bAndNot .u16 (bOr .u16 s.Assert s.Deassert) y14.1.Mask=0→FS n s:=by
      intro s k1 k2 k3 k4 k5 k6 k7 k8 k9 k10 k11 k12 k13 k14
      refine ⟨k1,k2,k3,k4,k5,k6,k7,⟨by rw [k8];exact ⟨by decide,by decide⟩,k9,k10⟩,λ _=>⟨by rw [k12];exact h13.1,by rw [k12,k13];exact lv,k8,by rw [k13,hm,k14];rfl⟩,λ hd=>by rw [k11] at hd;cases hd⟩
    have um:u16 y14.1.Mask:=⟨m0,by omega⟩
    have mself:bAndNot .u16 (bOr .u16 y14.1.Mask y14.1.Mask) y14.1.Mask=0:=by
      have:=Qpv m0 m1
      rw [hm] at this
      simpa using this
    refine Ev.join (λ s=>DOk s.1∧s.2.Number=n∧byte s.2.Type_∧byte s.2.Unit∧(byte s.2.Entity.ID∧byte s.2.Entity.Instance)∧Txt s.2.Name∧(s.2.Samples=1∨s.2.Samples=3∨s.2.Samples=5)∧(byte s.2.HystLower∧byte s.2.HystUpper)∧s.2.States=0∧s.2.Discrete=false∧s.2.Conversion=y13.1∧s.2.Limits=y14.1) (λ s hs=>?_) (λ j hj=>Ev.ite (λ _=>Ev.bind (Qkj fuel h17) (λ y21 h21=>hj _ ⟨h21.2,rfl,Qha _,h2.1,h5.1,h4.1,hs,⟨Qha _,h21.1⟩,rfl,rfl,rfl,rfl⟩)) (λ _=>hj _ ⟨h17,rfl,Qha _,h2.1,h5.1,h4.1,hs,⟨Qha _,Qha _⟩,rfl,rfl,rfl,rfl⟩))
    obtain ⟨s0,s1,s2,s3,s4,s5,s6,s7,s8,s9,s10,s11⟩:=hs
    refine Ev.letE (c:=y14.1.Mask) (by rw [s11,hm]) (Ev.letP (Ev.letP (Ev.bind (Qet fuel s0 (by decide) (by decide)) (λ y18 h18=>Ev.ite (λ _=>Ev.bind (Qs fuel h18 (by decide) (by decide)) (λ y19 h19=>Ev.letP (Ev.bind (Qs fuel h19.2.2 (by decide) (by decide)) (λ y20 h20=>Ev.letP (Ev.ret ⟨?_,h20.2.2⟩))))) (λ _=>Ev.ret ⟨?_,h18⟩)))))
    · exact key _ s1 s2 s3 s4 s5 s6 s7 s8 (Qit _ _) (Qit _ _) s9 s10 s11 (Qna _ _ _)
    · exact key _ s1 s2 s3 s4 s5 s6 s7 s8 um um s9 s10 s11 mself
end Lift
