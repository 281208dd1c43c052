import Derived.Test.YtahlmfpllhmjoaaGreatDoorTopc
set_option linter.unusedVariables false
set_option linter.unusedSimpArgs false
namespace Lift
open Go
structure AV (s:Sensor_):Prop where
  name:Txt s.Name
  samples:s.Samples=1∨s.Samples=3∨s.Samples=5
  ana:s.Discrete=false
  conv:CV s.Conversion
  lim:LV s.Conversion.Signed s.Limits
  states:s.States=0
  ev:(bAndNot .u16 (bOr .u16 s.Assert s.Deassert) (IntKind.u16.wrap s.Limits.Mask) != 0)=false
def sel (s:Sensor_) (js:List Nat):List Int:=(js.filter (λ j=>bit s.Limits.Mask j)).map (nr s.Conversion.Signed s.Limits)
theorem LV.mask {b:Bool} {t:Thresholds_} (h:LV b t):byte t.Mask:=⟨h.m0,by have:=h.m1;omega⟩
theorem LV.at {b:Bool} {t:Thresholds_} (h:LV b t) {j:Nat} (hj:j<6):∃ x,t.Raw[j]?=some x∧byte x∧nr b t j=num b x:=by
  have hl:j<t.Raw.length:=by rw [h.len];exact hj
  refine ⟨t.Raw[j],List.getElem?_eq_getElem hl,h.raw _ (List.getElem_mem hl),?_⟩
  simp [nr,List.getD_eq_getElem?_getD,List.getElem?_eq_getElem hl]
theorem Qvo {fuel:Nat} (hf:100<fuel) {s:Sensor_} (h:LV s.Conversion.Signed s.Limits) {js:List Nat} (hj:∀ j∈js,j<6) (hl:js.length≤6):Ev (Qat fuel (js.map (λ n:Nat=>(n:Int))) s) (λ y=>y=sel s js):=by
  unfold Qat
  refine Ev.loop (λ (n:Nat) (x:Int×List Int)=>∃ i:Nat,x.1=i∧i+n=js.length∧x.2=sel s (js.take i)) (λ n x hI self hself=>?_) (n:=js.length) (by omega) ⟨0,rfl,by omega,rfl⟩
  obtain ⟨i,i1,i2,i3⟩:=hI
  obtain ⟨i',acc⟩:=x
  simp only at i1 i2 i3 ⊢
  subst i1
  simp only [List.length_map]
  refine Ev.dec (λ hlt=>?_) (λ hge=>Ev.ret ?_)
  · have hi:i<js.length:=by omega
    have hw:IntKind.i64.wrap ((i:Int)+1)=((i+1:Nat):Int):=by rw [w_i64 (by omega) (by omega)];rfl
    have hx:idx (js.map (λ n:Nat=>(n:Int))) (i:Int)=some ((js[i]:Nat):Int):=by rw [Qam];simp [hi]
    have h6:=hj js[i] (List.getElem_mem hi)
    have hs:sel s (js.take (i+1))=sel s (js.take i)++(if bit s.Limits.Mask js[i] then [nr s.Conversion.Signed s.Limits js[i]] else []):=by
      have ht:js.take (i+1)=js.take i++[js[i]]:=by rw [List.take_add_one,List.getElem?_eq_getElem hi];rfl
      simp only [sel,ht,List.filter_append,List.map_append]
      congr 1
      by_cases hb:bit s.Limits.Mask js[i]=true<;>simp [hb]
    rw [hw]
    refine Ev.to hx (Ev.chk (by simp) ?_)
    rw [Qpi h.mask (by omega) (by omega)]
    simp only [Int.toNat_natCast]
    by_cases hb:bit s.Limits.Mask js[i]=true
    · obtain ⟨x,e1,e2,e3⟩:=h.at h6
      refine Ev.iteT (by simp [hb]) ?_
      refine Ev.to (show idx s.Limits.Raw ((js[i]:Nat):Int)=some x by rw [Qam];exact e1) (Ev.to (Qfu fuel _ e2) (Ev.app ?_ (hself (n-1) _ (by omega) ⟨i+1,rfl,by omega,?_⟩)))
      · rw [i3]
        have:(sel s (js.take i)).length≤6:=by
          simp only [sel,List.length_map]
          exact Nat.le_trans (List.length_filter_le _ _) (by simp;omega)
        simp only [List.length_cons,List.length_nil];omega
      · simp only [hs,i3,hb,if_true,e3]
    · refine Ev.iteF (by simp [hb]) (hself (n-1) _ (by omega) ⟨i+1,rfl,by omega,?_⟩)
      simp [hs,i3,hb]
  · rw [i3,List.take_of_length_le (by omega)]
theorem Less_eq (fuel:Nat) (a b:Int):Qfw fuel a b=some (decide (a<b)):=by
  unfold Qfw Qbp
  simp only [Qki,bne_self_eq_false,Qko,Qiq]
theorem Qqp {fuel:Nat} {l:List Int} (hf:l.length+1<fuel) (h100:l.length≤100000) (h:l.Pairwise (·≤·)):Ev (Qau fuel l) (λ b=>b=true):=by
  unfold Qau
  refine Ev.letE (c:=(l.length:Int)-1) (w_i64 (by omega) (by omega)) ?_
  refine Ev.loop (λ (n:Nat) (i:Int)=>i<l.length∧i≤(n:Int)) (λ n i hI self hself=>?_) (n:=l.length) (by omega) ⟨by omega,by omega⟩
  refine Ev.dec (λ hpos=>?_) (λ _=>Ev.ret rfl)
  have hw:IntKind.i64.wrap (i-1)=i-1:=w_i64 (by omega) (by omega)
  rw [hw]
  refine Ev.idx (by omega) hI.1 (λ x2 e2 _=>Ev.idx (by omega) (by omega) (λ x3 e3 _=>Ev.to (Less_eq _ _ _) (Ev.decF ?_ (Ev.letP (hself (n-1) _ (by omega) ⟨by omega,by omega⟩)))))
  have l2:=Qpe e2
  have l3:=Qpe e3
  have hp:=List.pairwise_iff_getElem.1 h (i-1).toNat i.toNat l3 l2 (by omega)
  rw [List.getElem?_eq_getElem l2] at e2
  rw [List.getElem?_eq_getElem l3] at e3
  obtain rfl:=Option.some.inj e2
  obtain rfl:=Option.some.inj e3
  omega
theorem LV.low {s:Sensor_} (h:LV s.Conversion.Signed s.Limits):(sel s [2,1,0]).Pairwise (·≤·):=by
  unfold sel
  rw [List.pairwise_map,List.pairwise_filter]
  have a:=h.ord 0 1 (by omega) (by omega)
  have b:=h.ord 0 2 (by omega) (by omega)
  have c:=h.ord 1 2 (by omega) (by omega)
  simp only [od] at a b c
  refine List.pairwise_cons.2 ⟨λ j hj=>?_,List.pairwise_cons.2 ⟨λ j hj=>?_,List.pairwise_cons.2 ⟨λ j hj=>by simp at hj,List.Pairwise.nil⟩⟩⟩
  · simp at hj;rcases hj with rfl | rfl
    · exact λ x y=>(a x y).1
    · exact λ x y=>(b x y).1
  · simp at hj;subst hj;exact λ x y=>(c x y).1
theorem LV.high {s:Sensor_} (h:LV s.Conversion.Signed s.Limits):(sel s [3,4,5]).Pairwise (·≤·):=by
  unfold sel
  rw [List.pairwise_map,List.pairwise_filter]
  have a:=h.ord 3 4 (by omega) (by omega)
  have b:=h.ord 3 5 (by omega) (by omega)
  have c:=h.ord 4 5 (by omega) (by omega)
  simp only [od] at a b c
  refine List.pairwise_cons.2 ⟨λ j hj=>?_,List.pairwise_cons.2 ⟨λ j hj=>?_,List.pairwise_cons.2 ⟨λ j hj=>by simp at hj,List.Pairwise.nil⟩⟩⟩
  · simp at hj;rcases hj with rfl | rfl
    · exact λ x y=>(a x y).1
    · exact λ x y=>(b x y).1
  · simp at hj;subst hj;exact λ x y=>(c x y).1
theorem LV.cross {s:Sensor_} (h:LV s.Conversion.Signed s.Limits) {x y:Int} (hx:x∈sel s [2,1,0]) (hy:y∈sel s [3,4,5]):x<y:=by
  simp only [sel,List.mem_map,List.mem_filter] at hx hy
  obtain ⟨i,⟨hi,bi⟩,rfl⟩:=hx
  obtain ⟨j,⟨hj,bj⟩,rfl⟩:=hy
  obtain ⟨p,hp,rfl⟩:∃ p,p<3∧i=od p:=by
    simp at hi;rcases hi with rfl | rfl | rfl
    · exact ⟨0,by omega,rfl⟩
    · exact ⟨1,by omega,rfl⟩
    · exact ⟨2,by omega,rfl⟩
  obtain ⟨q,hq,hq6,rfl⟩:∃ q,3≤q∧q<6∧j=od q:=by
    simp at hj;rcases hj with rfl | rfl | rfl
    · exact ⟨3,by omega,by omega,rfl⟩
    · exact ⟨4,by omega,by omega,rfl⟩
    · exact ⟨5,by omega,by omega,rfl⟩
  exact (h.ord p q (by omega) hq6 bi bj).2 hp hq
theorem Qtv (s:Sensor_) (js:List Nat):(sel s js).length≤js.length:=by
  simp only [sel,List.length_map];exact List.length_filter_le _ _
theorem Qug {fuel:Nat} (hf:100<fuel) {s:Sensor_} (h:LV s.Conversion.Signed s.Limits):Ev (Qev fuel s) (λ b=>b=true):=by
  unfold Qev
  refine Ev.bind (show Ev (Qat fuel [2,1,0] s) (λ y=>y=sel s [2,1,0]) from Qvo hf h (js:=[2,1,0]) (by decide) (by decide)) (λ y1 e1=>Ev.bind (show Ev (Qat fuel [3,4,5] s) (λ y=>y=sel s [3,4,5]) from Qvo hf h (js:=[3,4,5]) (by decide) (by decide)) (λ y2 e2=>?_))
  have l1:=Qtv s [2,1,0]
  have l2:=Qtv s [3,4,5]
  simp at l1 l2
  rw [← e1] at l1
  rw [← e2] at l2
  refine Ev.join (λ b=>b=true) (λ b hb=>?_) (λ j hj=>Ev.letP (Ev.ite (λ _=>hj _ rfl) (λ hn1=>Ev.letP (Ev.ite (λ _=>hj _ rfl) (λ hn2=>?_)))))
  · exact Ev.bind (Qqp (by omega) (by omega) (e1 ▸ h.low)) (λ y3 h3=>Ev.iteT h3 (Ev.bind (Qqp (by omega) (by omega) (e2 ▸ h.high)) (λ y4 h4=>Ev.iteT h4 (Ev.ret hb))))
  · simp at hn1 hn2
    have p1:0<y1.length:=List.length_pos_iff.2 hn1
    have p2:0<y2.length:=List.length_pos_iff.2 hn2
    rw [w_i64 (show -9223372036854775808≤(y1.length:Int)-1 by omega) (by omega)]
    exact Ev.idx (by omega) (by omega) (λ x3 _ m3=>Ev.idx (by omega) (by omega) (λ x4 _ m4=>Ev.letP (hj _ (by simp;exact h.cross (e1 ▸ m3) (e2 ▸ m4)))))
theorem AV.analog {fuel:Nat} (hf:100<fuel) {s:Sensor_} (h:AV s):Qfi fuel s=some true:=by
  apply Ev.isTrue
  unfold Qfi
  have hm:=h.lim.m1
  refine Ev.to (Qwi hf h.conv) ?_
  refine Ev.join (λ b=>b=false) (λ b hb=>Ev.iteF hb ?_) (λ j hj=>Ev.iteF rfl (Ev.decF (by omega) (Ev.iteF (by rw [h.states];rfl) (hj _ h.ev))))
  refine Ev.loop (λ (n:Nat) (i:Int)=>i+(n:Int)=6∧0≤i) (λ n i hI self hself=>?_) (n:=6) (by omega) ⟨by simp,by simp⟩
  obtain ⟨i1,i2⟩:=hI
  refine Ev.dec (λ hlt=>Ev.idx i2 (by rw [h.lim.len];exact hlt) (λ x1 e1 m1=>Ev.chk (by simpa using i2) ?_)) (λ _=>Ev.bind (Qug hf h.lim) (λ y hy=>Ev.ret hy))
  have hw:IntKind.i64.wrap (i+1)=i+1:=w_i64 (by omega) (by omega)
  refine Ev.join (λ s=>s=false) (λ s3 hs3=>Ev.iteF hs3 (by rw [hw];exact hself (n-1) _ (by omega) ⟨by omega,by omega⟩)) (λ j hj=>?_)
  rw [Qpi h.lim.mask i2 (by omega)]
  cases hb:bit s.Limits.Mask i.toNat
  · have:=h.lim.off i.toNat (by omega) hb
    rw [e1] at this
    obtain rfl:=Option.some.inj this
    exact Ev.iteT (by simp) (hj _ (by simp))
  · exact Ev.iteF (by simp) (hj _ rfl)
theorem AV.valid {fuel:Nat} (hf:100<fuel) {s:Sensor_} (h:AV s):Qbo fuel s=some true:=by
  apply Ev.isTrue
  unfold Qbo
  refine Ev.to (Qsc hf h.name) (Ev.join (λ b=>b=false) (λ b hb=>Ev.iteF hb (Ev.iteF h.ana (Ev.to (h.analog hf) (Ev.ret rfl)))) (λ j hj=>Ev.iteF rfl ?_))
  rcases h.samples with e | e | e<;>rw [e]
  · exact Ev.iteF rfl (hj _ rfl)
  · exact Ev.iteT rfl (Ev.iteF rfl (hj _ rfl))
  · exact Ev.iteT rfl (Ev.iteT rfl (hj _ rfl))
end Lift
