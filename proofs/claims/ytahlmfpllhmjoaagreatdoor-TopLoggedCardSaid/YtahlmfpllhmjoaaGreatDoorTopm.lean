import Derived.Test.YtahlmfpllhmjoaaGreatDoorTope
import Derived.Test.YtahlmfpllhmjoaaGreatDoorTopg
set_option linter.unusedVariables false
set_option linter.unusedSimpArgs false
namespace Lift
open Go
def FT (F:Filter_):Prop:=F.Window.length≤5∧∀ x∈F.Window,byte x
theorem FT.z:FT Filter_.z:=⟨by decide,by simp [Filter_.z]⟩
theorem FS.lim6 {n:Int} {s:Sensor_} (h:FS n s):s.Limits.Raw.length=6∧∀ x∈s.Limits.Raw,byte x:=by
  cases hd:s.Discrete
  · exact ⟨(h.ana hd).2.1.len,(h.ana hd).2.1.raw⟩
  · rw [(h.dis hd).2.1];exact ⟨rfl,by simp [Thresholds_.z];unfold byte;decide⟩
theorem Qnb {fuel:Nat} (hf:100<fuel) {n:Int} {s:Sensor_} (h:FS n s) (F:Filter_):Tot (Qdi fuel s F):=by
  unfold Qdi
  refine Ev.to (h.valid hf) (Ev.join (λ _=>True) (λ b _=>Ev.ite (λ _=>Tot.ret) (λ _=>Ev.dec (λ _=>Tot.ret) (λ _=>Ev.letP Tot.ret))) (λ j hj=>Ev.ite (λ _=>hj _ trivial) (λ _=>Ev.dec (λ _=>hj _ trivial) (λ _=>Ev.dec (λ _=>hj _ trivial) (λ _=>hj _ trivial)))))
theorem sClone {fuel:Nat} {l:List Int} (h:l.length≤100000):Qaw fuel l=some l:=by
  unfold Qaw
  rw [Qoe (by simp;omega)];simp
theorem Qux {fuel:Nat} (hf:100<fuel) {n:Int} {s:Sensor_} (h:FS n s) {F:Filter_} (hF:FT F) {q:Int} (hq:byte q) (ok:Bool):Ev (Qfh fuel s F q ok) (λ y=>FT y.1):=by
  unfold Qfh
  obtain ⟨f1,f2⟩:=hF
  have hs:=h.samples
  refine Ev.bind (Qnb hf h F) (λ y1 _=>Ev.ite (λ _=>Ev.ret FT.z) (λ _=>Ev.to (sClone (by omega)) (Ev.ite (λ _=>Ev.app (by simp;omega) ?_) (λ _=>Ev.ite (λ _=>Ev.ret ⟨by simp,by simp⟩) (λ _=>Ev.ret ⟨f1,f2⟩)))))
  have hb:∀ x∈F.Window++[q],byte x:=λ x hx=>by
    rcases List.mem_append.1 hx with hx | hx
    · exact f2 x hx
    · simp at hx;subst hx;exact hq
  refine Ev.join (λ G=>FT G) (λ G hG=>Ev.ret hG) (λ j hj=>Ev.dec (λ hgt=>?_) (λ hle=>hj _ ⟨by simp only;omega,hb⟩))
  have hsub:sub (F.Window++[q]) 1 ((F.Window++[q]).length:Int)=some ((F.Window++[q]).drop 1):=by
    unfold sub
    rw [if_pos ⟨by omega,by simp;omega,by omega⟩]
    congr 1
    rw [List.take_of_length_le (by simp)];rfl
  exact Ev.to hsub (hj _ ⟨by simp;omega,λ x hx=>hb x (List.mem_of_mem_drop hx)⟩)
theorem cmp_tot (fuel:Nat) (a b:Int):Tot (Qef fuel a b):=by
  unfold Qef
  have e:∀ x:Int,Qbp fuel x=some false:=λ x=>by unfold Qbp;rw [Qki,bne_self_eq_false]
  exact Ev.to (e a) (Ev.to (e b) (Ev.iteF rfl (Ev.iteF rfl (Ev.dec (λ _=>Tot.ret) (λ _=>Ev.dec (λ _=>Tot.ret) (λ _=>Tot.ret))))))
theorem Qud (fuel:Nat) (s:Sensor_) {a b:Int} (ha:byte a) (hb:byte b):Tot (Qcf fuel a b s):=by
  unfold Qcf
  exact Ev.to (Qfu fuel _ ha) (Ev.to (Qfu fuel _ hb) (Ev.bind (cmp_tot fuel _ _) (λ _ _=>Tot.ret)))
theorem Qqq {l:List Int} {i:Int} {v:Int} (hb:∀ x∈l,byte x) (hv:byte v):(upd l i v).length=l.length∧∀ x∈upd l i v,byte x:=by
  refine ⟨by simp [upd],λ x hx=>?_⟩
  rcases List.mem_or_eq_of_mem_set hx with hx | hx
  · exact hb x hx
  · rw [hx];exact hv
theorem Quy {fuel:Nat} (hf:100<fuel) (s:Sensor_) {l:List Int} (h5:l.length≤5) (hb:∀ x∈l,byte x):Ev (Qt fuel l 0 (l.length:Int) s) (λ y=>y.length=l.length∧∀ x∈y,byte x):=by
  unfold Qt
  refine Ev.letE (c:=1) (by decide) ?_
  refine Ev.loop (λ (n:Nat) (x:Int×List Int)=>x.2.length=l.length∧(∀ v∈x.2,byte v)∧1≤x.1∧(x.1+n=l.length∨l.length≤x.1)) (λ n x hI self hself=>?_) (n:=l.length-1) (by omega) ⟨rfl,hb,by simp,by simp only;omega⟩
  obtain ⟨i,d⟩:=x
  obtain ⟨i1,i2,i3,i4⟩:=hI
  simp only at i1 i2 i3 i4 ⊢
  refine Ev.dec (λ hlt=>?_) (λ _=>Ev.ret ⟨i1,i2⟩)
  have hw:IntKind.i64.wrap (i+1)=i+1:=w_i64 (by omega) (by omega)
  refine Ev.loop (λ (n:Nat) (x:Int×List Int)=>x.2.length=l.length∧(∀ v∈x.2,byte v)∧x.1=n∧x.1<l.length) (λ n' x hI2 self2 hself2=>?_) (n:=i.toNat) (by omega) ⟨i1,i2,by simp only;omega,hlt⟩
  obtain ⟨j,e⟩:=x
  obtain ⟨j1,j2,j3,j4⟩:=hI2
  simp only at j1 j2 j3 j4 ⊢
  have hwj:IntKind.i64.wrap (j-1)=j-1:=w_i64 (by omega) (by omega)
  rw [hw,hwj]
  refine Ev.join (λ b=>b=true→1≤j) (λ b hb3=>Ev.ite (λ hbt=>?_) (λ _=>Ev.letP (hself (n-1) _ (by omega) ⟨j1,j2,by simp only;omega,by simp only;omega⟩))) (λ k hk=>Ev.letP (Ev.dec (λ hpos=>Ev.idx (by omega) (by omega) (λ x8 _ m8=>Ev.idx (by omega) (by omega) (λ x9 _ m9=>Ev.bind (Qud fuel s (j2 _ m8) (j2 _ m9)) (λ y1 _=>hk _ (λ _=>by omega))))) (λ _=>hk _ (λ h=>by cases h))))
  have hj:=hb3 hbt
  refine Ev.idx (by omega) (by omega) (λ x2 _ m2=>Ev.idx (by omega) (by omega) (λ x3 _ m3=>?_))
  obtain ⟨u1,u2⟩:=Qqq (i:=j) j2 (j2 _ m2)
  obtain ⟨v1,v2⟩:=Qqq (i:=j-1) u2 (j2 _ m3)
  exact Ev.letP (Ev.idx (by omega) (by omega) (λ x4 _ _=>Ev.letP (Ev.letP (hself2 (n'-1) _ (by omega) ⟨by simp only;omega,v2,by simp only;omega,by simp only;omega⟩))))
theorem copy_ev {fuel:Nat} (hf:100<fuel) {l:List Int} (h5:l.length≤5):Ev (Qx fuel l) (λ y=>y=l):=by
  unfold Qx Qy Qaz
  refine Ev.bind (P:=λ y=>y=l) (Ev.bind (P:=λ y=>y=l) ?_ (λ y hy=>Ev.ret hy)) (λ y hy=>Ev.ret hy)
  refine Ev.loop (λ (n:Nat) (x:Int×List Int)=>∃ i:Nat,x.1=i∧i+n=l.length∧x.2=l.take i) (λ n x hI self hself=>?_) (n:=l.length) (by omega) ⟨0,rfl,by omega,rfl⟩
  obtain ⟨pos,acc⟩:=x
  obtain ⟨i,i1,i2,i3⟩:=hI
  simp only at i1 i3 ⊢
  subst i1
  refine Ev.dec (λ hlt=>Ev.idx (by omega) hlt (λ x1 e1 _=>?_)) (λ _=>Ev.ret (by rw [i3,List.take_of_length_le (by omega)]))
  have hw:IntKind.i64.wrap ((i:Int)+1)=((i+1:Nat):Int):=by rw [w_i64 (by omega) (by omega)];rfl
  rw [hw]
  refine Ev.bind (P:=λ y=>y=l.take (i+1)) (Ev.app (by rw [i3];simp;omega) (Ev.ret ?_)) (λ y hy=>hself (n-1) _ (by omega) ⟨i+1,rfl,by omega,hy⟩)
  simp only [Int.toNat_natCast] at e1
  rw [i3,List.take_add_one,e1];rfl
theorem len_tot (fuel:Nat) {n:Nat} (h:n≤5):Tot (Qkq fuel (IntKind.u64.wrap (n:Int))):=by
  obtain rfl | rfl | rfl | rfl | rfl | rfl:n=0∨n=1∨n=2∨n=3∨n=4∨n=5:=by omega
  all_goals exact ⟨_,rfl,trivial⟩
theorem Qub {fuel:Nat} (hf:100<fuel) (s:Sensor_) {l:List Int} (h5:l.length≤5) (hb:∀ x∈l,byte x):Ev (Qm fuel l s) (λ y=>y.length=l.length∧∀ x∈y,byte x):=by
  unfold Qm
  refine Ev.bind (copy_ev hf h5) (λ y1 e1=>?_)
  subst e1
  refine Ev.bind (P:=λ y=>y.length=y1.length∧∀ x∈y,byte x) ?_ (λ y hy=>Ev.ret hy)
  unfold Qae
  refine Ev.bind (len_tot fuel h5) (λ y2 _=>Ev.bind (P:=λ y=>y.length=y1.length∧∀ x∈y,byte x) ?_ (λ y hy=>Ev.ret hy))
  unfold Qac
  refine Ev.loop (λ (n:Nat) (x:Unit)=>True) (λ n x hI self hself=>?_) (n:=0) (by omega) trivial
  refine Ev.letE (c:=(y1.length:Int)) (by rw [w_i64 (by omega) (by omega)];omega) (Ev.decT (by omega) (Ev.bind (Quy hf s h5 hb) (λ y hy=>Ev.ret hy)))
theorem Qsn {fuel:Nat} (hf:100<fuel) {n:Int} {s:Sensor_} (h:FS n s) {F:Filter_} (hF:FT F):Ev (Qdw fuel s F) (λ y=>byte y.1):=by
  unfold Qdw
  have hs:=h.samples
  refine Ev.bind (Qnb hf h F) (λ y1 _=>Ev.join (λ b=>b=true∨(F.Window.length:Int)=s.Samples) (λ b hb=>Ev.ite (λ _=>Ev.ret zbyte) (λ hbf=>?_)) (λ j hj=>Ev.ite (λ _=>hj _ (.inl rfl)) (λ _=>hj _ ?_)))
  · rcases hb with hb | hb
    · rw [hb] at hbf;cases hbf
    refine Ev.bind (P:=λ y=>y=F.Window) (Ev.ret rfl) (λ y2 e2=>?_)
    subst e2
    refine Ev.bind (Qub hf s hF.1 hF.2) (λ y3 h3=>?_)
    have hd:IntKind.i64.wrap (Int.tdiv (y3.length:Int) 2)=(y3.length:Int) / 2:=by
      rw [Int.tdiv_eq_ediv_of_nonneg (by omega),w_i64 (by omega) (by omega)]
    rw [hd]
    exact Ev.idx (by omega) (by omega) (λ x _ m=>Ev.ret (h3.2 _ m))
  · by_cases e:(F.Window.length:Int)=s.Samples
    · exact .inr e
    · exact .inl (by simpa using e)
theorem Qsz {α:Type} {P:α→Prop} {l:List α} {i:Int} {v:α} (h:∀ x∈l,P x) (hv:P v):∀ x∈upd l i v,P x:=λ x hx=>by
  rcases List.mem_or_eq_of_mem_set hx with hx | hx
  · exact h x hx
  · rw [hx];exact hv
theorem Qgx {α:Type} (l:List α) (i:Int) (v:α):(upd l i v).length=l.length:=by simp [upd]
theorem Qrk {fuel:Nat} (hf:100<fuel) {l:List Entity_} (h:l.length≤10) (e:Entity_):Tot (Qu fuel l e):=by
  unfold Qu Qar
  refine Ev.bind (P:=λ _=>True) ?_ (λ _ _=>Ev.letP Tot.ret)
  refine Ev.loop (λ (n:Nat) (x:Int)=>∃ i:Nat,x=i∧i+n=l.length) (λ n x hI self hself=>?_) (n:=l.length) (by omega) ⟨0,rfl,by omega⟩
  obtain ⟨i,rfl,i2⟩:=hI
  have hw:IntKind.i64.wrap ((i:Int)+1)=((i+1:Nat):Int)∨100<i:=by
    by_cases hc:i≤100
    · left;rw [w_i64 (by omega) (by omega)];rfl
    · right;omega
  refine Ev.dec (λ hlt=>Ev.idx (by omega) hlt (λ x _ _=>Ev.ite (λ _=>Tot.ret) (λ _=>?_))) (λ _=>Tot.ret)
  rcases hw with hw | hw
  · rw [hw];exact hself (n-1) _ (by omega) ⟨i+1,rfl,by omega⟩
  · omega
theorem Qsu {fuel:Nat} (hf:100<fuel) {l:List Entity_} (h:l.length≤10) (e:Entity_):Tot (Qdo fuel [] l e):=by
  unfold Qdo
  refine Ev.to (Qpy hf) (Ev.bneF rfl (Ev.bind (P:=λ _=>True) ?_ (λ _ _=>Tot.ret)))
  unfold Qgb
  have ha:Qfk fuel [] e=some []:=by
    obtain ⟨f,rfl⟩:∃ f,fuel=f+5:=⟨fuel-5,by omega⟩
    rfl
  refine Ev.to ha (Ev.app (by simp) (Ev.bind (P:=λ _=>True) ?_ (λ _ _=>Ev.letP Tot.ret)))
  unfold Qv Qz
  refine Ev.bind (P:=λ _=>True) ?_ (λ _ _=>Ev.letP Tot.ret)
  refine Ev.loop (λ (n:Nat) (i:Int)=>i=0∧n=1∨i=1) (λ n i hI self hself=>?_) (n:=1) (by omega) (.inl ⟨rfl,rfl⟩)
  rcases hI with ⟨rfl,rfl⟩ | rfl
  · refine Ev.decT (by simp) (Ev.to (show idx ([]++[e]) 0=some e from rfl) (Ev.bind (P:=λ _=>True) ?_ (λ _ _=>Ev.ite (λ _=>Tot.ret) (λ _=>hself 0 _ (by omega) (.inr rfl)))))
    unfold Qee
    exact Ev.bind (Qrk hf h e) (λ _ _=>Tot.ret)
  · exact Ev.decF (by simp) Tot.ret
end Lift
