import Derived.Test.YtahlmfpllhmjoaaGreatDoorTopi
set_option linter.unusedVariables false
set_option linter.unusedSimpArgs false
namespace Lift
open Go
def DOk (d:Qg):Prop:=d.L.length≤5000∧0≤d.At∧d.At≤5000
theorem idx_ok {α:Type} {l:List α} {i:Int} (h0:0≤i) (h1:i<l.length):∃ x,idx l i=some x∧l[i.toNat]?=some x∧x∈l:=by
  obtain ⟨n,rfl⟩:=Int.eq_ofNat_of_zero_le h0
  have hn:n<l.length:=by omega
  refine ⟨l[n],?_,?_,by simp⟩
  · rw [Qam];simp
  · simp
theorem Ev.idx {α β:Type} {l:List α} {i:Int} {f:α→Option β} {Q:β→Prop} (h0:0≤i) (h1:i<l.length) (k:∀ x,l[i.toNat]?=some x→x∈l→Ev (f x) Q):Ev (bindP (Lift.idx l i) f) Q:=by
  obtain ⟨x,e,e2,m⟩:=idx_ok h0 h1
  exact Ev.to e (k x e2 m)
theorem Ev.app {α β:Type} {b:Nat} {l m:List α} {f:List α→Option β} {Q:β→Prop} (h:(l.length+m.length)*b≤140737488355328) (k:Ev (f (l++m)) Q):Ev (bindP (Lift.app b l m) f) Q:=Ev.to (Qoe h) k
theorem Qvr (fuel:Nat) {a m:Int} (h1:0<m) (h2:m≤10000000):Qhn fuel a m=some (a % m):=by
  unfold Qhn
  have hne:decide (m≠0)=true:=by simp;omega
  rw [hne,Qsk,Qko]
  have e:=Int.tmod_eq_emod (a:=a) (b:=m)
  have l1:=Int.emod_nonneg a (show m≠0 by omega)
  have l2:=Int.emod_lt_of_pos a h1
  by_cases h:Int.tmod a m<0
  · rw [show decide (Int.tmod a m<0)=true by simpa using h,Qqf,Qki,w_i64 (by split at e<;>omega) (by split at e<;>omega)]
    congr 1
    split at e<;>omega
  · rw [show decide (Int.tmod a m<0)=false by simpa using h,Qiq]
    congr 1
    split at e<;>omega
theorem Qs (fuel:Nat) {d:Qg} (h:DOk d) {m:Int} (h1:0<m) (h2:m≤10000000):Ev (Qk fuel d m) (λ y=>0≤y.1∧y.1<m∧DOk y.2):=by
  obtain ⟨L1,L2,L3⟩:=h
  unfold Qk
  refine Ev.dec (λ _=>Ev.ret ⟨by simp,h1,L1,L2,L3⟩) (λ hc=>?_)
  refine Ev.letE (c:={ d with At:=d.At+1 }) (by rw [w_i64 (by omega) (by omega)]) ?_
  simp only [w_i64 (show -9223372036854775808≤d.At+1-1 by omega) (by omega)]
  refine Ev.idx (by omega) (by omega) (λ x _ _=>Ev.to (Qvr fuel h1 h2) (Ev.ret ⟨Int.emod_nonneg _ (by omega),Int.emod_lt_of_pos _ h1,L1,?_,?_⟩))
  · simp only;omega
  · simp only;omega
theorem Qet (fuel:Nat) {d:Qg} (h:DOk d) {m:Int} (h1:0<m) (h2:m≤10000000):Ev (Qaf fuel d m) (λ y=>DOk y.2):=by
  unfold Qaf
  exact Ev.bind (Qs fuel h h1 h2) (λ y hy=>Ev.letP (Ev.ret hy.2.2))
theorem Qkj (fuel:Nat) {d:Qg} (h:DOk d):Ev (Qbg fuel d) (λ y=>byte y.1∧DOk y.2):=by
  unfold Qbg
  refine Ev.letP (Ev.bind (Qet fuel h (by decide) (by decide)) (λ y1 h1=>Ev.ite (λ _=>Ev.bind (Qs fuel h1 (by decide) (by decide)) (λ y2 h2=>Ev.idx h2.1 (by have:=h2.2.1;simpa using this) (λ x _ hx=>Ev.chk rfl (Ev.ret ⟨?_,h2.2.2⟩)))) (λ _=>Ev.bind (Qs fuel h1 (by decide) (by decide)) (λ y3 h3=>Ev.ret ⟨?_,h3.2.2⟩))))
  · simp at hx;unfold byte;omega
  · unfold byte;rw [w_u8];omega
def Txt (l:List Int):Prop:=1≤l.length∧l.length≤16∧∀ c∈l,32≤c∧c≤126
theorem Text_ev {fuel:Nat} (hf:100<fuel) {d:Qg} (h:DOk d) {cs:List Int} (h0:0<cs.length) (h1:cs.length≤100) (hc:∀ c∈cs,32≤c∧c≤126) {n:Int} (n0:1≤n) (n1:n≤16):Ev (Qep fuel d cs n) (λ y=>Txt y.1∧DOk y.2):=by
  unfold Qep
  refine Ev.loop (λ k s=>s.2.1+(k:Int)=n∧0≤s.2.1∧(s.1.length:Int)=s.2.1∧(∀ c∈s.1,32≤c∧c≤126)∧DOk s.2.2) (λ k s hI self hself=>?_) (n:=n.toNat) (by omega) ⟨by simp only;omega,by simp,by simp,by simp,h⟩
  obtain ⟨i1,i2,i3,i4,i5⟩:=hI
  refine Ev.dec (λ hlt=>?_) (λ hge=>Ev.ret ⟨⟨by simp only;omega,by simp only;omega,i4⟩,i5⟩)
  refine Ev.bind (Qs fuel i5 (show (0:Int)<(cs.length:Int) by omega) (by omega)) (λ y1 q1=>?_)
  obtain ⟨q1,q2,q3⟩:=q1
  rw [w_i64 (show -9223372036854775808≤y1.1+1 by omega) (by omega)]
  have hs:sub cs y1.1 (y1.1+1)=some ((cs.drop y1.1.toNat).take ((y1.1+1).toNat-y1.1.toNat)):=by
    unfold sub;rw [if_pos ⟨q1,by omega,by omega⟩]
  have e1:(y1.1+1).toNat-y1.1.toNat=1:=by omega
  rw [e1] at hs
  refine Ev.to hs ?_
  have hl:((cs.drop y1.1.toNat).take 1).length=1:=by simp;omega
  generalize hw:(cs.drop y1.1.toNat).take 1=w at hl
  have hm:∀ c∈w,32≤c∧c≤126:=λ c hc'=>hc c (List.mem_of_mem_drop (List.mem_of_mem_take (hw ▸ hc')))
  have hcat:cat s.1 w=some (s.1++w):=by unfold cat;rw [if_pos (by omega)]
  refine Ev.to hcat (Ev.letE (c:=s.2.1+1) (w_i64 (by omega) (by omega)) (hself (k-1) _ (by omega) ⟨by simp only;omega,by simp only;omega,by simp only [List.length_append];omega,λ c hc'=>?_,q3⟩))
  rcases List.mem_append.1 hc' with h' | h'
  · exact i4 c h'
  · exact hm c h'
theorem Qur (fuel:Nat) {d:Qg} (h:DOk d):Ev (Qbb fuel d) (λ y=>DOk y.2):=by
  unfold Qbb
  exact Ev.bind (Qs fuel h (by decide) (by decide)) (λ y1 h1=>Ev.bind (Qs fuel h1.2.2 (by decide) (by decide)) (λ y2 h2=>Ev.ret h2.2.2))
def least (s:Bool):Int:=if s then -128 else 0
def num (s:Bool) (r:Int):Int:=if s then IntKind.i8.wrap r else r
theorem w_i8 (n:Int):IntKind.i8.wrap n=if n % 256<128 then n % 256 else n % 256-256:=by simp [IntKind.wrap,IntKind.bits,IntKind.signed];omega
theorem Qrr (fuel:Nat) (s:Bool):Qgi fuel s=some (least s):=by cases s<;>rfl
theorem Qva (fuel:Nat) {s:Bool} {v:Int} (h0:least s≤v) (h1:v≤least s+255):Ev (Qgs fuel v) (λ y=>byte y∧num s y=v):=by
  unfold Qgs
  have:least s=-128∨least s=0:=by cases s<;>simp [least]
  refine Ev.letP (Ev.ret ?_)
  rw [w_i64 (by omega) (by omega),w_u8,Int.tmod_eq_emod_of_nonneg (by omega)]
  refine ⟨⟨by omega,by omega⟩,?_⟩
  cases s
  · simp [least] at h0 h1;simp [num];omega
  · simp [least] at h0 h1;simp only [num,if_true,w_i8];split<;>omega
theorem Qrf (s:Bool) {r:Int} (h:byte r):least s≤num s r∧num s r≤least s+255:=by
  obtain ⟨h0,h1⟩:=h
  cases s
  · simp [least,num];omega
  · simp only [least,num,if_true,w_i8];split<;>omega
theorem Qkx (s:Bool):-128≤least s∧least s≤0:=by cases s<;>simp [least]
theorem Qfu (fuel:Nat) (s:Bool) {r:Int} (h:byte r):Qas fuel s r=some (num s r):=by
  unfold Qas
  have b:=Qrf s h
  have l:=Qkx s
  cases s with
  | true =>
    simp only [num,if_true] at b
    rw [Qqf,Qki,w_i64 (by omega) (by omega)];rfl
  | false =>
    simp [num] at b
    rw [Qiq,w_i64 (by omega) (by omega)];rfl
theorem Qwt (fuel:Nat) {d:Qg} (h:DOk d):Ev (Qej fuel d) (λ y=>-1000000000000≤y.1∧y.1≤1000000000000∧DOk y.2):=by
  unfold Qej
  refine Ev.letP (Ev.bind (Qs fuel h (by decide) (by decide)) (λ y1 h1=>Ev.letP (Ev.ite (λ _=>?_) (λ _=>Ev.letP (Ev.ite (λ _=>?_) (λ _=>?_))))))
  · refine Ev.bind (Qs fuel h1.2.2 (by decide) (by decide)) (λ y2 h2=>Ev.idx h2.1 (by have:=h2.2.1;simpa using this) (λ x _ hx=>Ev.chk rfl (Ev.ret ⟨?_,?_,h2.2.2⟩)))
    · simp at hx;simp only;omega
    · simp at hx;simp only;omega
  · refine Ev.bind (Qs fuel h1.2.2 (by decide) (by decide)) (λ y3 h3=>Ev.letE (c:=y3.1-1000000) (w_i64 (by omega) (by omega)) (Ev.ret ⟨?_,?_,h3.2.2⟩))
    · simp only;omega
    · simp only;omega
  · refine Ev.bind (Qs fuel h1.2.2 (by decide) (by decide)) (λ y4 h4=>Ev.bind (Qs fuel h4.2.2 (by decide) (by decide)) (λ y5 h5=>Ev.letE (c:=((y4.1-1000000)*1000)*(1+y5.1)) ?_ (Ev.ret ?_)))
    all_goals (obtain ⟨a0,a1,_⟩:=h4;obtain ⟨b0,b1,hd⟩:=h5)
    all_goals (have m1:-1000000000000≤((y4.1-1000000)*1000)*(1+y5.1)∧((y4.1-1000000)*1000)*(1+y5.1)≤1000000000000:=by
                 generalize hu:(y4.1-1000000)*1000=u
                 generalize hv:1+y5.1=v
                 have u0:-1000000000≤u:=by omega
                 have u1:u≤1000000000:=by omega
                 have v0:0≤v:=by omega
                 have v1:v≤1000:=by omega
                 have p1:u*v≤1000000000*v:=Int.mul_le_mul_of_nonneg_right u1 v0
                 have p2:-1000000000*v≤u*v:=Int.mul_le_mul_of_nonneg_right u0 v0
                 constructor<;>omega)
    · rw [w_i64 (show -9223372036854775808≤y4.1-1000000 by omega) (by omega),w_i64 (show -9223372036854775808≤(y4.1-1000000)*1000 by omega) (by omega),w_i64 (show -9223372036854775808≤1+y5.1 by omega) (by omega),w_i64 (by omega) (by omega)]
    · exact ⟨m1.1,m1.2,hd⟩
structure Tab (s:Bool) (l:List Point_):Prop where
  two:2≤l.length
  top:l.length≤12
  raw:∀ p∈l,byte p.Raw∧-1000000000000≤p.Value∧p.Value≤1000000000000
  asc:∀ (i:Nat) p q,l[i]?=some p→l[i+1]?=some q→num s p.Raw<num s q.Raw
inductive CV (c:Conversion_):Prop
  | lin:1≤c.Form→c.Form≤4→-512≤c.M→c.M≤511→-512≤c.B→c.B≤511→-3≤c.K1→c.K1≤3→-3≤c.K2→c.K2≤3→c.Points=[]→CV c
  | tab:c.Form=5→c.M=0→c.B=0→c.K1=0→c.K2=0→Tab c.Signed c.Points→CV c
theorem Qws {s:Bool} {l:List Point_} {x:Point_} (h:∀ (i:Nat) p q,l[i]?=some p→l[i+1]?=some q→num s p.Raw<num s q.Raw) (hx:∀ p∈l,num s p.Raw<num s x.Raw) :
    ∀ (i:Nat) p q,(l++[x])[i]?=some p→(l++[x])[i+1]?=some q→num s p.Raw<num s q.Raw:=by
  intro i p q hp hq
  rcases Nat.lt_trichotomy (i+1) l.length with hc | hc | hc
  · rw [List.getElem?_append_left hc] at hq
    rw [List.getElem?_append_left (by omega)] at hp
    exact h i p q hp hq
  · rw [List.getElem?_append_left (by omega)] at hp
    rw [List.getElem?_append_right (by omega),show i+1-l.length=0 by omega] at hq
    simp at hq;subst hq
    exact hx p (List.mem_of_getElem? hp)
  · rw [List.getElem?_append_right (by omega)] at hq
    have:=Qpe hq
    simp at this;omega
theorem Qqv {fuel:Nat} (hf:100<fuel) {d:Qg} (h:DOk d):Ev (Qce fuel d) (λ y=>CV y.1∧DOk y.2):=by
  unfold Qce
  refine Ev.bind (Qs fuel h (by decide) (by decide)) (λ y1 h1=>Ev.bind (Qet fuel h1.2.2 (by decide) (by decide)) (λ y2 h2=>?_))
  obtain ⟨a0,a1,_⟩:=h1
  rw [w_i64 (show -9223372036854775808≤1+y1.1 by omega) (by omega)]
  refine Ev.bne (λ hne=>?_) (λ he=>?_)
  · refine Ev.bind (Qs fuel h2 (by decide) (by decide)) (λ y3 h3=>Ev.bind (Qs fuel h3.2.2 (by decide) (by decide)) (λ y4 h4=>Ev.bind (Qet fuel h4.2.2 (by decide) (by decide)) (λ y5 h5=>?_)))
    refine Ev.join (λ s=>DOk s.1∧s.2.Form=1+y1.1∧-512≤s.2.M∧s.2.M≤511∧-512≤s.2.B∧s.2.B≤511) (λ s hs=>?_) (λ j hj=>?_)
    · obtain ⟨s0,s1,s2,s3,s4,s5⟩:=hs
      refine Ev.bind (Qs fuel s0 (by decide) (by decide)) (λ y6 h6=>Ev.letP (Ev.bind (Qs fuel h6.2.2 (by decide) (by decide)) (λ y7 h7=>Ev.letP (Ev.ret ⟨?_,h7.2.2⟩))))
      have e6:IntKind.i64.wrap (y6.1-3)=y6.1-3:=w_i64 (by omega) (by omega)
      have e7:IntKind.i64.wrap (y7.1-3)=y7.1-3:=w_i64 (by omega) (by omega)
      refine CV.lin ?_ ?_ ?_ ?_ ?_ ?_ ?_ ?_ ?_ ?_ ?_<;>simp only [e6,e7]<;>omega
    · refine Ev.ite (λ _=>?_) (λ _=>?_)
      · refine Ev.bind (Qs fuel h5 (by decide) (by decide)) (λ y8 h8=>Ev.bind (Qs fuel h8.2.2 (by decide) (by decide)) (λ y9 h9=>hj _ ?_))
        rw [w_i64 (show -9223372036854775808≤y8.1-10 by omega) (by omega),w_i64 (show -9223372036854775808≤y9.1-20 by omega) (by omega)]
        exact ⟨h9.2.2,rfl,by simp only;omega,by simp only;omega,by simp only;omega,by simp only;omega⟩
      · refine hj _ ?_
        rw [w_i64 (show -9223372036854775808≤y3.1-512 by omega) (by omega),w_i64 (show -9223372036854775808≤y4.1-512 by omega) (by omega)]
        exact ⟨h5,rfl,by simp only;omega,by simp only;omega,by simp only;omega,by simp only;omega⟩
  · refine Ev.bind (Qs fuel h2 (by decide) (by decide)) (λ y10 h10=>Ev.letE (c:=2+y10.1) (w_i64 (by omega) (by omega)) (Ev.to (Qrr fuel y2.1) (Ev.bind (Qs fuel h10.2.2 (by decide) (by decide)) (λ y12 h12=>?_))))
    have lb:=Qkx y2.1
    refine Ev.letE (c:=least y2.1+y12.1) (w_i64 (by omega) (by omega)) ?_
    obtain ⟨c0,c1,_⟩:=h10
    obtain ⟨d0,d1,hd12⟩:=h12
    refine Ev.loop (λ (k:Nat) (s:Int×Int×Qg×List Point_)=>s.2.1+(k:Int)=2+y10.1∧0≤s.2.1∧(s.2.2.2.length:Int)=s.2.1∧least y2.1≤s.1∧s.1≤least y2.1+39+18*s.2.1∧(∀ p∈s.2.2.2,byte p.Raw∧-1000000000000≤p.Value∧p.Value≤1000000000000)∧(∀ (i:Nat) p q,s.2.2.2[i]?=some p→s.2.2.2[i+1]?=some q→num y2.1 p.Raw<num y2.1 q.Raw)∧(∀ p∈s.2.2.2,num y2.1 p.Raw<s.1)∧DOk s.2.2.1) (λ k s hI self hself=>?_) (n:=(2+y10.1).toNat) (by omega) ⟨by simp only;omega,by simp,by simp,by simp only;omega,by simp only;omega,by simp,by simp,by simp,hd12⟩
    obtain ⟨i1,i2,i3,i4,i5,i6,i7,i8,i9⟩:=hI
    refine Ev.dec (λ hlt=>?_) (λ hge=>Ev.ret ⟨CV.tab (by simp only;omega) rfl rfl rfl rfl ⟨by simp only;omega,by simp only;omega,i6,i7⟩,i9⟩)
    refine Ev.bind (Qva fuel (s:=y2.1) (v:=s.1) (by omega) (by omega)) (λ y13 h13=>Ev.bind (Qwt fuel i9) (λ y14 h14=>Ev.app (by simp only [List.length_cons,List.length_nil];omega) (Ev.bind (Qs fuel h14.2.2 (by decide) (by decide)) (λ y15 h15=>?_))))
    obtain ⟨e0,e1,hd15⟩:=h15
    refine Ev.letE (c:=s.1+(1+y15.1)) (by rw [w_i64 (show -9223372036854775808≤1+y15.1 by omega) (by omega),w_i64 (by omega) (by omega)]) (Ev.letE (c:=s.2.1+1) (w_i64 (by omega) (by omega)) (hself (k-1) _ (by omega) ⟨by simp only;omega,by simp only;omega,by simp only [List.length_append,List.length_cons,List.length_nil];omega,by simp only;omega,by simp only;omega,λ p hp=>?_,Qws i7 (λ p hp=>by rw [h13.2];exact i8 p hp),λ p hp=>?_,hd15⟩))
    · rcases List.mem_append.1 hp with hp | hp
      · exact i6 p hp
      · simp at hp;subst hp;exact ⟨h13.1,h14.1,h14.2.1⟩
    · rcases List.mem_append.1 hp with hp | hp
      · have:=i8 p hp;simp only;omega
      · simp at hp;subst hp;simp only [h13.2];omega
def od (p:Nat):Nat:=match p with | 0=>2 | 1=>1 | 2=>0 | n=>n
theorem od_lt {p:Nat} (h:p<6):od p<6:=by
  obtain rfl | rfl | rfl | rfl | rfl | rfl:p=0∨p=1∨p=2∨p=3∨p=4∨p=5:=by omega
  all_goals decide
theorem od_inj {p q:Nat} (h:p<6) (g:q<6) (e:od p=od q):p=q:=by
  obtain rfl | rfl | rfl | rfl | rfl | rfl:p=0∨p=1∨p=2∨p=3∨p=4∨p=5:=by omega
  all_goals (obtain rfl | rfl | rfl | rfl | rfl | rfl:q=0∨q=1∨q=2∨q=3∨q=4∨q=5:=by omega)
  all_goals first
    | rfl
    | (exfalso;revert e;decide)
def nr (s:Bool) (t:Thresholds_) (j:Nat):Int:=num s (t.Raw.getD j 0)
structure LV (s:Bool) (t:Thresholds_):Prop where
  m0:0≤t.Mask
  m1:t.Mask<64
  len:t.Raw.length=6
  raw:∀ x∈t.Raw,byte x
  off:∀ j:Nat,j<6→bit t.Mask j=false→t.Raw[j]?=some 0
  ord:∀ p q,p<q→q<6→bit t.Mask (od p)=true→bit t.Mask (od q)=true→nr s t (od p)≤nr s t (od q)∧(p<3→3≤q→nr s t (od p)<nr s t (od q))
theorem Has_eq (fuel:Nat) {m:Int} (h0:0≤m) (h1:m<65536) {j:Nat} (hj:j<16):Qig fuel m (j:Int)=some (bit m j):=by
  unfold Qig
  have e:IntKind.u64.wrap (j:Int)=j:=by rw [w_u64];omega
  rw [e,show decide ((0:Int)≤(j:Int))=true by simp,Qsk,Qko,Qki]
  obtain ⟨n,rfl⟩:=Int.eq_ofNat_of_zero_le h0
  rw [Qor (show j≤IntKind.u16.bits by have:IntKind.u16.bits=16:=rfl;omega)]
  simp only [bit,Int.toNat_natCast,Nat.testBit_eq_decide_div_mod_eq]
  congr 1
  have ht:Int.tmod ((n / 2 ^ j:Nat):Int) 2=((n / 2 ^ j % 2:Nat):Int):=by rw [Int.tmod_eq_emod_of_nonneg (Int.natCast_nonneg _)];rfl
  rw [ht]
  by_cases h:n / 2 ^ j % 2=1
  · simp [h]
  · have:n / 2 ^ j % 2=0:=by omega
    simp [this]
theorem nr_set {s:Bool} {t:Thresholds_} {i j:Nat} {v:Int} (hl:t.Raw.length=6) (hi:i<6):nr s { t with Raw:=upd t.Raw (i:Int) v } j=if i=j then num s v else nr s t j:=by
  simp only [nr,upd,Int.toNat_natCast,List.getD_eq_getElem?_getD,List.getElem?_set]
  by_cases e:i=j
  · subst e;simp [hl,hi]
  · simp [e]
theorem Qqz {fuel:Nat} (hf:100<fuel) {d:Qg} (h:DOk d) (s:Bool):Ev (Qcd fuel d s) (λ y=>LV s y.1∧DOk y.2):=by
  unfold Qcd
  refine Ev.bind (Qs fuel h (by decide) (by decide)) (λ y1 h1=>Ev.to (Qrr fuel s) (Ev.bind (Qs fuel h1.2.2 (by decide) (by decide)) (λ y3 h3=>?_)))
  have lb:=Qkx s
  obtain ⟨a0,a1,_⟩:=h1
  obtain ⟨b0,b1,hd3⟩:=h3
  have hM:IntKind.u8.wrap y1.1=y1.1:=by rw [w_u8];omega
  rw [hM]
  generalize y1.1=M at a0 a1 ⊢
  refine Ev.letE (c:=least s+y3.1) (w_i64 (by omega) (by omega)) (Ev.letP ?_)
  refine Ev.loop (λ (k:Nat) (x:Int×Int×Qg×Thresholds_)=>∃ p:Nat,x.2.1=p∧p+k=6∧x.2.2.2.Mask=M∧x.2.2.2.Raw.length=6∧(∀ v∈x.2.2.2.Raw,byte v)∧(∀ j:Nat,j<6→bit M j=false→x.2.2.2.Raw[j]?=some 0)∧least s≤x.1∧x.1≤least s+40+35*p∧(∀ q,q<p→bit M (od q)=true→nr s x.2.2.2 (od q)≤x.1∧(q<3→3<p→nr s x.2.2.2 (od q)<x.1))∧(∀ a b,a<b→b<p→bit M (od a)=true→bit M (od b)=true→nr s x.2.2.2 (od a)≤nr s x.2.2.2 (od b)∧(a<3→3≤b→nr s x.2.2.2 (od a)<nr s x.2.2.2 (od b)))∧(p≤3→x.1≤least s+39+35*p)∧DOk x.2.2.1) (λ k x hI self hself=>?_) (n:=6) (by omega) ⟨0,rfl,rfl,rfl,by simp,by simp;unfold byte;omega,?_,by simp only;omega,by simp only;omega,by omega,by omega,by simp only;omega,hd3⟩
  · obtain ⟨p,i1,i2,i3,i4,i5,i6,i7,i8,i9,i10,i11,i12⟩:=hI
    obtain ⟨cur,pos,dc,t⟩:=x
    simp only at i1 i3 i4 i5 i6 i7 i8 i9 i10 i11 i12 ⊢
    subst i1
    refine Ev.dec (λ hlt=>?_) (λ hge=>Ev.ret ⟨?_,i12⟩)
    · have hp:p<6:=by omega
      have hw:IntKind.i64.wrap ((p:Int)+1)=((p+1:Nat):Int):=by rw [w_i64 (by omega) (by omega)];rfl
      have hx:idx [2,1,0,3,4,5] (p:Int)=some ((od p:Nat):Int):=by
        obtain rfl | rfl | rfl | rfl | rfl | rfl:p=0∨p=1∨p=2∨p=3∨p=4∨p=5:=by omega
        all_goals rfl
      rw [hw]
      have ho:=od_lt hp
      refine Ev.join (λ c=>c=if p=3 then cur+1 else cur) (λ c hc=>?_) (λ j hj=>?_)
      · have hcc:cur≤c:=by rw [hc];split<;>omega
        have hc3:p=3→cur<c:=λ e=>by rw [hc,if_pos e];omega
        have hup:c≤least s+40+35*p∧(p<3→c≤least s+39+35*p):=by rw [hc];split<;>omega
        clear hc
        have hlow:∀ q,q<p→bit M (od q)=true→nr s t (od q)≤c∧(q<3→3≤p→nr s t (od q)<c):=λ q hq hb=>by
          obtain ⟨e1,e2⟩:=i9 q hq hb
          refine ⟨by omega,λ h3 hp3=>?_⟩
          by_cases e:p=3
          · have:=hc3 e;omega
          · have:=e2 h3 (by omega);omega
        refine Ev.to hx (Ev.chk rfl ?_)
        have hM2:IntKind.u16.wrap t.Mask=M:=by rw [i3,w_u16];omega
        rw [hM2]
        refine Ev.to (Has_eq fuel a0 (by omega) (by omega)) (Ev.ite (λ hbit=>?_) (λ hbit=>?_))
        · refine Ev.to hx (Ev.chk rfl (Ev.bind (Qva fuel (s:=s) (v:=c) (by omega) (by omega)) (λ y5 h5=>Ev.idx (by omega) (by omega) (λ x4 _ _=>Ev.chk (by rw [i4];rfl) (Ev.letP (Ev.bind (Qs fuel i12 (by decide) (by decide)) (λ y6 h6=>?_)))))))
          obtain ⟨g0,g1,hd6⟩:=h6
          have hn:∀ q,q<6→nr s { t with Raw:=upd t.Raw ((od p:Nat):Int) y5 } (od q)=if q=p then c else nr s t (od q):=λ q hq=>by
            rw [nr_set i4 ho,h5.2]
            by_cases e:q=p
            · subst e;simp
            · have:od p≠od q:=λ e'=>e (od_inj hp hq e').symm
              simp [this,e]
          refine Ev.letE (c:=c+y6.1) (w_i64 (by omega) (by omega)) (Ev.letP (hself (k-1) _ (by omega) ⟨p+1,rfl,by omega,i3,by simp [upd,i4],λ v hv=>?_,λ j hj hbj=>?_,by simp only;omega,by simp only;omega,λ q hq hb=>?_,λ a b hab hb ha' hb'=>?_,λ hp3=>?_,hd6⟩))
          · simp only [upd] at hv
            rcases List.mem_or_eq_of_mem_set hv with hv | hv
            · exact i5 v hv
            · rw [hv];exact h5.1
          · have hne:od p≠j:=λ e=>by rw [← e,hbit] at hbj;cases hbj
            simp only [upd,Int.toNat_natCast,List.getElem?_set,hne,if_false]
            exact i6 j hj hbj
          · simp only
            rw [hn q (by omega)]
            by_cases e:q=p
            · rw [if_pos e];exact ⟨by omega,λ h3 h4=>by omega⟩
            · rw [if_neg e]
              obtain ⟨e1,e2⟩:=hlow q (by omega) hb
              exact ⟨by omega,λ h3 h4=>by have:=e2 h3 (by omega);omega⟩
          · simp only
            rw [hn a (by omega),hn b (by omega),if_neg (show a≠p by omega)]
            by_cases e:b=p
            · rw [if_pos e]
              obtain ⟨e1,e2⟩:=hlow a (by omega) ha'
              exact ⟨e1,λ h3 h4=>e2 h3 (by omega)⟩
            · rw [if_neg e]
              exact i10 a b hab (by omega) ha' hb'
          · simp only;omega
        · refine Ev.letP (hself (k-1) _ (by omega) ⟨p+1,rfl,by omega,i3,i4,i5,i6,by simp only;omega,by simp only;omega,λ q hq hb=>?_,λ a b hab hb ha' hb'=>?_,λ hp3=>by simp only;omega,i12⟩)
          · have e:q≠p:=λ e=>by rw [e,hbit] at hb;cases hb
            obtain ⟨e1,e2⟩:=hlow q (by omega) hb
            exact ⟨e1,λ h3 h4=>e2 h3 (by omega)⟩
          · have e:b≠p:=λ e=>by rw [e,hbit] at hb';cases hb'
            exact i10 a b hab (by omega) ha' hb'
      · refine Ev.beq (λ h3=>Ev.letE (c:=cur+1) (w_i64 (by omega) (by omega)) (hj _ (by rw [if_pos (by omega)]))) (λ h3=>hj _ (by rw [if_neg (by omega)]))
    · have e6:p=6:=by omega
      subst e6
      exact ⟨by simp only [i3];exact a0,by simp only [i3];exact a1,i4,i5,by simp only [i3];exact i6,by simp only [i3];exact i10⟩
  · intro j hj _
    show (List.replicate 6 (0:Int))[j]?=some 0
    rw [List.getElem?_replicate,if_pos hj]
theorem Qpu {l:List Int} (h:l.length≤5000):DOk ⟨l,0⟩:=⟨h,by simp,by simp⟩
theorem Qsc {fuel:Nat} (hf:100<fuel) {l:List Int} (h:Txt l):Qfy fuel l=some true:=by
  apply Ev.isTrue
  obtain ⟨h1,h2,h3⟩:=h
  unfold Qfy
  refine Ev.loop (λ (n:Nat) (i:Int)=>i+(n:Int)=l.length∧0≤i) (λ n i hI self hself=>?_) (n:=l.length) (by omega) ⟨by simp,by simp⟩
  obtain ⟨i1,i2⟩:=hI
  refine Ev.dec (λ hlt=>Ev.idx i2 hlt (λ x1 e1 m1=>?_)) (λ _=>Ev.decT (by omega) (Ev.letP (Ev.ret (by simp;omega))))
  have hx:=h3 x1 m1
  have hw:IntKind.i64.wrap (i+1)=i+1:=w_i64 (by omega) (by omega)
  exact Ev.join (λ s=>s=false) (λ s3 hs3=>Ev.iteF hs3 (by rw [hw];exact hself (n-1) _ (by omega) ⟨by omega,by omega⟩)) (λ j hj=>Ev.decF (by omega) (hj _ (by simp;omega)))
end Lift
