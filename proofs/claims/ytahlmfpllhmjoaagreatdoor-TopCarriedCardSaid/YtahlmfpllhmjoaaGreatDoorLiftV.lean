import Derived.Test.YtahlmfpllhmjoaaGreatDoorLiftU
set_option linter.unusedVariables false
set_option linter.unusedSimpArgs false
namespace Lift
open Go
theorem OEls.congr {α:Type} {S:Blks} {w:World}:∀ {l:List α} {F F':Nat→ORep α} {G:Blks} {cs:List Value},(∀ k,k<l.length→F k=F' k)→OEls S w F G cs l→OEls S w F' G cs l
  | [],_,_,_,_,_,h=>h
  | x::l,F,F',G,cs,e,h=>by
    obtain ⟨c,rest,G1,G2,e1,hs,h1,h2⟩:=h
    exact ⟨c,rest,G1,G2,e1,hs,by rw [← e 0 (by simp)];exact h1,OEls.congr (λ k hk=>e (k+1) (by simp;omega)) h2⟩
theorem OEls.split {α:Type} {S:Blks} {w:World} {m:List α}:∀ {l:List α} {F:Nat→ORep α} {G:Blks} {cs:List Value},OEls S w F G cs (l++m) →
    ∃ c1 c2 G1 G2,cs=c1++c2∧Sep G G1 G2∧OEls S w F G1 c1 l∧OEls S w (λ j=>F (j+l.length)) G2 c2 m
  | [],F,G,cs,h=>⟨[],cs,λ _=>False,G,rfl,⟨λ _=>by simp,λ _ h=>h.elim⟩,⟨rfl,λ _ h=>h⟩,h⟩
  | x::l,F,G,cs,h=>by
    obtain ⟨c,rest,G1,G2,rfl,hs,h1,h2⟩:=h
    obtain ⟨c1,c2,K1,K2,rfl,ks,k1,k2⟩:=OEls.split h2
    refine ⟨c++c1,c2,λ b=>G1 b∨K1 b,K2,by simp,⟨λ b=>by rw [hs.1,ks.1,or_assoc],?_⟩,⟨c,c1,G1,K1,rfl,Sep.mk' (λ b hb hk=>hs.2 b hb (ks.l hk)),h1,k1⟩,?_⟩
    · rintro b (hb | hb) hk
      · exact hs.2 b hb (ks.r hk)
      · exact ks.2 b hb hk
    · have e:(λ j=>F (j+(x::l).length))=λ j=>F (j+l.length+1):=by funext j;rw [List.length_cons,Nat.add_assoc]
      rw [e];exact k2
theorem own_capD {α:Type} {E n:Nat} {F:Nat→ORep α} {G S:Blks} {w:World} {v:Value} {l:List α} (h:Own E n F G S w v l):∃ pa cap,v=.slice pa l.length cap∧l.length≤cap∧((pa=none∧l=[]∧cap=0)∨∃ g o,pa=some ⟨g,o,none⟩):=by
  rcases h with ⟨rfl,rfl,_⟩ | ⟨g,o,cap,cur,xs,G',rfl,_,hnc,_⟩
  · exact ⟨none,0,rfl,Nat.le_refl _,.inl ⟨rfl,rfl,rfl⟩⟩
  · exact ⟨_,cap,rfl,hnc,.inr ⟨g,o,rfl⟩⟩
def Jo {α:Type} (P:Blks→Blks→World→Prop) (r1:Rep α) (O:ORep α) (x x':α):Prop:=∀ G S w cs,P G S w→r1.rel S w cs x→O.rel G S w cs x'
def NoP:Blks→Blks→World→Prop:=λ G _ _=>∀ b,¬ G b
theorem Jo.sh {α:Type} {r:Rep α} {x:α}:Jo NoP r (sh r) x x:=λ _ _ _ _ hp h=>⟨hp,h⟩
theorem Jo.unit {x:Unit}:Jo NoP Rep.unit ounit x x:=λ _ _ _ _ hp h=>⟨hp,h⟩
theorem Jo.raw {α:Type} {pc:ORep α} {u:Value} {y l:α} (ha:pc.agg=false):Jo (λ G S w=>(HAtom.oval pc u l).p G S w) (Rep.raw u) pc y l:=by
  intro G S w cs hp h
  simp only [HAtom.oval,ha] at hp
  rw [h.1];exact hp
theorem Jo.nil {α:Type} {E n:Nat} {F:Nat→ORep α} {y:List α}:Jo NoP (Rep.raw (.slice none 0 0)) (oslice E n F) y []:=λ G S w cs hp h=>⟨_,h.1,.inl ⟨rfl,rfl,hp⟩⟩
theorem Jo.here {α β:Type} {P:Blks→Blks→World→Prop} {r:Rep α} {s:Rep β} {O:ORep α} {Q:ORep β} {x x':α} {y y':β} (h:Jo P r O x x') (k:Jo NoP s Q y y'):Jo P (r.prod s) (oprod O Q) (x,y) (x',y'):=by
  rintro G S w cs hp ⟨c,d,e,h1,h2⟩
  exact ⟨c,d,G,λ _=>False,e,⟨λ _=>by simp,λ _ _ h=>h⟩,h G S w c hp h1,k _ S w d (λ _ h=>h) h2⟩
theorem Jo.there {α β:Type} {P:Blks→Blks→World→Prop} {r:Rep α} {s:Rep β} {O:ORep α} {Q:ORep β} {x x':α} {y y':β} (h:Jo NoP r O x x') (k:Jo P s Q y y'):Jo P (r.prod s) (oprod O Q) (x,y) (x',y'):=by
  rintro G S w cs hp ⟨c,d,e,h1,h2⟩
  exact ⟨c,d,λ _=>False,G,e,⟨λ _=>by simp,λ _ h=>h.elim⟩,h _ S w c (λ _ h=>h) h1,k G S w d hp h2⟩
theorem Jo.iso {α β:Type} {P:Blks→Blks→World→Prop} {r:Rep α} {O:ORep α} (f:β→α) {x x':β} (h:Jo P r O (f x) (f x')):Jo P (r.iso f) (oiso f O) x x':=λ G S w cs hp hr=>h G S w cs hp hr
section
variable {e : En} {w : World} {Γ : List (Bool × Atom)} {Ω Ω' Ω'' : List (Bool × HAtom)} {f f2 : Bool} {α β : Type} {r : ORep α} {s : Rep α}
theorem St.shr {a a':HAtom} (h:St e w Γ ((f,a)::Ω)) (k:∀ G S,a.p G S w→∃ G',(∀ b,G' b→G b)∧a'.p G' S w):St e w Γ ((f,a')::Ω):=by
  refine h.write (λ S G1 hs hp hd hB hl=>?_)
  obtain ⟨G',h1,h2⟩:=k _ _ hp
  exact ⟨G',λ b hb=>.inl (h1 b hb),⟨rfl,rfl,rfl,Nat.le_refl _⟩,λ _ _ _=>rfl,h2⟩
theorem St.upD {E:TypeId} {n:Nat} {v:Value} {l:List α} (h:St e w Γ ((f,.slice E s v l)::Ω)) (hn:s.n=n) (k:∀ x,x∈l→Jo NoP s r x x):St e w Γ ((f,.oval (oslice E n (λ _=>r)) v l)::Ω):=by
  refine h.imp (λ G S hp=>oval_slice.2 ?_)
  have key:∀ {l:List α} {cs:List Value},(∀ x,x∈l→Jo NoP s r x x)→Elems s S w cs l→OEls S w (λ _=>r) (λ _=>False) cs l:=by
    intro l
    induction l with
    | nil=>intro cs _ h;exact ⟨h,λ _ h=>h⟩
    | cons x l ih =>
      rintro cs hk ⟨c,rest,e1,h1,h2⟩
      exact ⟨c,rest,λ _=>False,λ _=>False,e1,⟨λ _=>by simp,λ _ h=>h.elim⟩,hk x (by simp) _ S w c (λ _ h=>h) h1,ih (λ y hy=>hk y (by simp [hy])) h2⟩
  obtain ⟨xs,hown,hel,hG⟩:=hp
  subst hn
  rcases hown.2 with ⟨rfl,hn⟩ | ⟨g,cap,cur,rfl,_,hg,hnc,hcm,hcs,htake⟩
  · exact .inl ⟨rfl,List.eq_nil_of_length_eq_zero hn,λ b hb=>by have:=(hG b).1 hb;simp [Value.ownBlock] at this⟩
  · refine .inr ⟨g,0,cap,cur,xs,λ _=>False,rfl,hg,hnc,hcm,by omega,by simpa using htake.symm,key k hel,λ h=>h,λ b=>?_⟩
    rw [hG];simp [Value.ownBlock,eq_comm]
theorem St.litD {E:TypeId} {n:Nat} {v u:Value} {x x':α} {pc:ORep β} {l:β} (h:St e w Γ ((f,.slice E s v [x])::(f2,.oval pc u l)::Ω)) (hf:f2=true∨f=false) (hn:s.n=n) (k:Jo (λ G S w=>(HAtom.oval pc u l).p G S w) s r x x'):St e w Γ ((f,.oval (oslice E n (λ _=>r)) v [x'])::Ω):=by
  refine h.glue hf ?_
  intro G Ga Gb S hsep hp hq
  refine oval_slice.2 ?_
  obtain ⟨xs,hown,⟨c,rest,rfl,h1,h2⟩,hG⟩:=hp
  simp only [Elems] at h2
  subst h2
  subst hn
  rcases hown.2 with ⟨rfl,hn⟩ | ⟨g,cap,cur,rfl,_,hg,hnc,hcm,hcs,htake⟩
  · simp at hn
  · refine .inr ⟨g,0,cap,cur,c++[],Gb,rfl,hg,hnc,hcm,by omega,by simpa using htake.symm,⟨c,[],Gb,λ _=>False,rfl,⟨λ _=>by simp,λ _ _ h=>h⟩,k Gb S w c hq h1,⟨rfl,λ _ h=>h⟩⟩,λ h=>hsep.2 g ((hG g).2 (by simp [Value.ownBlock])) h,λ b=>?_⟩
    rw [hsep.1,hG];simp [Value.ownBlock,eq_comm]
end
section
variable {C:Cx} {L:List (Nat×Value)} {w:World} {ops:Array Oper} {Z:List (Nat×Value)→World→Prop} {d:Nat} {t T:TypeId} {p:String} {af:Array Edge} {g:Option (Nat×Bool)}
variable {e : En} {Γ : List (Bool × Atom)} {Ω Ω' Ω'' : List (Bool × HAtom)} {f f2 : Bool} {α β : Type} {r : ORep α} {s : Rep α} {F : Nat → ORep α} {E nn : Nat}
theorem OpS.chkD {a hi mx : Operand} {lo : Option Operand} {v : Value} {m n k : Int} {q q2 : IntKind} {xs : List α} (h : St e w Γ Ω) (hp : Pick Ω (f, .oval (oslice E nn F) v xs) Ω') (ht : C.P.underlying T = some (.slice E)) (hE : Ty C.P E s) (hg : gd ops L g = some true) (hd : Nat.blt d C.fn.ntmps = true) (hx : ev L a = some v)
    (hlo:bnd L lo 0=some m) (hhi:ev L hi=some (.int q n)) (hmx:ev L mx=some (.int q2 k)) (hb:0≤m∧m≤n∧n≤k∧k≤(xs.length:Int)) (K:∀ u,Z ((d,u)::L) w):OpS C ops ⟨some d,.slice T a lo (some hi) (some mx),t,p,af,g⟩ L w Z:=by
  obtain ⟨S,G,I,hst,ho⟩:=h
  obtain ⟨_,_,_,_,_,h4,_⟩:=ho.pick hp
  obtain ⟨pa,cap,rfl,hlc,_⟩:=own_capD (oval_slice.1 h4)
  refine OpS.val (v:=.slice (if k.toNat=m.toNat then pa else pa.map (·.add (m.toNat*s.n))) (n.toNat-m.toNat) (k.toNat-m.toNat)) (w':=w) hg rfl hd (λ ac hac=>?_) (K _)
  have hsz:=hE.size w
  have hm:=bounds_run (P:=C.P) (w:=w) (len:=xs.length) hac hlo hhi hmx hb.1 hb.2.1 hb.2.2.1 (by omega:k≤(cap:Int))
  simp [execOp,hac.ev hx,Instr.sliceAt,run_underlying ht,Instr.slice,hm,hsz]
theorem OpS.preD {a : Operand} {lo hi : Option Operand} {v : Value} {n : Int} {xs : List α} (h : St e w Γ Ω) (hp : Pick Ω (f, .oval (oslice E nn F) v xs) Ω') (ht : C.P.underlying T = some (.slice E)) (hE : Ty C.P E s) (hg : gd ops L g = some true) (hd : Nat.blt d C.fn.ntmps = true) (hx : ev L a = some v)
    (hlo:bnd L lo 0=some 0) (hhi:bnd L hi xs.length=some n) (h0:0≤n) (h1:n≤xs.length) (K:Z ((d,pre v n.toNat)::L) w):OpS C ops ⟨some d,.slice T a lo hi none,t,p,af,g⟩ L w Z:=by
  obtain ⟨S,G,I,hst,ho⟩:=h
  obtain ⟨_,_,_,_,_,h4,_⟩:=ho.pick hp
  obtain ⟨pa,cap,rfl,hlc,hpa⟩:=own_capD (oval_slice.1 h4)
  refine OpS.val (v:=.slice pa n.toNat cap) (w':=w) hg rfl hd (λ ac hac=>?_) K
  have h2:=part_run (r:=s) (t:=t) (p:=p) (af:=af) (g:=g) (w:=w) hac ht hE hx rfl hlo hhi (Int.le_refl 0) h0 (by omega:n≤(cap:Int)) (some d)
  rw [h2]
  have hcz:(if cap=0 then pa else pa.map (·.add (0*s.n)))=pa:=by
    split
    · rfl
    · rcases hpa with ⟨rfl,_,_⟩ | ⟨g0,o0,rfl⟩
      · rfl
      · simp [add_none]
  simp only [part,Int.toNat_zero,Nat.sub_zero]
  rw [hcz]
theorem OpS.partD {a : Operand} {lo hi : Option Operand} {v : Value} {m n : Int} {xs : List α} (h : St e w Γ Ω) (hp : Pick Ω (f, .oval (oslice E nn F) v xs) Ω') (ht : C.P.underlying T = some (.slice E)) (hE : Ty C.P E s) (hg : gd ops L g = some true) (hd : Nat.blt d C.fn.ntmps = true) (hx : ev L a = some v)
    (hlo:bnd L lo 0=some m) (hhi:bnd L hi xs.length=some n) (hb:0≤m∧m≤n∧n≤(xs.length:Int)) (K:Z ((d,part s.n v m.toNat n.toNat)::L) w):OpS C ops ⟨some d,.slice T a lo hi none,t,p,af,g⟩ L w Z:=by
  obtain ⟨S,G,I,hst,ho⟩:=h
  obtain ⟨_,_,_,_,_,h4,_⟩:=ho.pick hp
  obtain ⟨pa,cap,rfl,hlc,_⟩:=own_capD (oval_slice.1 h4)
  exact OpS.val hg rfl hd (λ ac hac=>part_run hac ht hE hx rfl hlo hhi hb.1 hb.2.1 (by omega) _) K
theorem OpS.tailD {a : Operand} {lo hi : Option Operand} {v : Value} {k : Nat} {m n : Int} {xs : List α} (h : St e w Γ Ω) (hp : Pick Ω (f, .oval (oslice E nn F) v xs) Ω') (hr : At Γ (f2, .room v k)) (ht : C.P.underlying T = some (.slice E)) (hE : Ty C.P E s) (hg : gd ops L g = some true) (hd : Nat.blt d C.fn.ntmps = true) (hx : ev L a = some v)
    (hlo:bnd L lo 0=some m) (hhi:bnd L hi xs.length=some n) (hb:0≤m∧m≤n∧n≤(k:Int)) (K:Z ((d,part s.n v m.toNat n.toNat)::L) w):OpS C ops ⟨some d,.slice T a lo hi none,t,p,af,g⟩ L w Z:=by
  obtain ⟨S,G,I,hst,ho⟩:=h
  obtain ⟨_,_,_,_,_,h4,_⟩:=ho.pick hp
  obtain ⟨pa,cap,rfl,hlc,_⟩:=own_capD (oval_slice.1 h4)
  obtain ⟨p1,n1,c1,e1,hk⟩:=hst.at hr
  simp only [Value.slice.injEq] at e1
  obtain ⟨_,_,rfl⟩:=e1
  exact OpS.val hg rfl hd (λ ac hac=>part_run hac ht hE hx rfl hlo hhi hb.1 hb.2.1 (by omega) _) K
theorem OpS.subD {a : Operand} {lo : Option Operand} {v : Value} {m : Int} {xs : List α} (h : St e w Γ Ω) (hp : Pick Ω (f, .oval (oslice E nn (fun _ => r)) v xs) Ω') (hrn : r.n = nn) (hsn : s.n = nn) (ht : C.P.underlying T = some (.slice E)) (hE : Ty C.P E s) (hg : gd ops L g = some true) (hd : Nat.blt d C.fn.ntmps = true) (hx : ev L a = some v)
    (hlo : bnd L lo 0 = some m) (hb : 0 ≤ m ∧ m ≤ (xs.length : Int)) (K : ∀ u, St e w Γ ((f, .oval (oslice E nn (fun _ => r)) u (xs.drop m.toNat)) :: Ω') → Z ((d, u) :: L) w) : OpS C ops ⟨some d, .slice T a lo none none, t, p, af, g⟩ L w Z := by
  refine OpS.partD h hp ht hE hg hd hx hlo (hi:=none) rfl ⟨hb.1,hb.2,Int.le_refl _⟩ (K _ ((h.pick hp).shr (λ G S hq=>?_)))
  rw [Int.toNat_natCast,hsn]
  have hml:m.toNat≤xs.length:=by omega
  rcases oval_slice.1 hq with ⟨rfl,rfl,hG⟩ | ⟨gb,o,cap,cur,ys,G',rfl,hg',hnc,hcm,hcs,rfl,hel,hnb,hG⟩
  · have:m.toNat=0:=by simp at hml;omega
    refine ⟨G,λ _ h=>h,oval_slice.2 (.inl ⟨by rw [this];rfl,by simp,hG⟩)⟩
  · have hsp:xs.take m.toNat++xs.drop m.toNat=xs:=List.take_append_drop _ _
    rw [← hsp] at hel
    obtain ⟨c1,c2,K1,K2,hcc,ks,k1,k2⟩:=hel.split
    have hc1:c1.length=m.toNat*nn:=by rw [OEls.len (λ _=>hrn) k1,List.length_take,Nat.min_eq_left hml]
    have hmul:m.toNat*nn≤xs.length*nn:=Nat.mul_le_mul_right _ hml
    have hmul2:xs.length*nn≤cap*nn:=Nat.mul_le_mul_right _ hnc
    have hsub:(xs.length-m.toNat)*nn=xs.length*nn-m.toNat*nn:=Nat.sub_mul _ _ _
    have hsub2:(cap-m.toNat)*nn=cap*nn-m.toNat*nn:=Nat.sub_mul _ _ _
    have hc2:c2=(cur.toList.drop (o+m.toNat*nn)).take ((xs.length-m.toNat)*nn):=by
      have:=congrArg (λ z=>z.drop (m.toNat*nn)) hcc
      simp only [hsp] at this
      rw [← hc1,List.drop_left,hc1,List.drop_take,List.drop_drop,← hsub] at this
      exact this.symm
    refine ⟨λ b=>b=gb∨K2 b,λ b hb=>(hG b).2 (hb.imp id (λ h=>ks.r h)),oval_slice.2 (.inr ?_)⟩
    have hdl:(xs.drop m.toNat).length=xs.length-m.toNat:=by simp
    by_cases hcm0:cap=m.toNat
    · refine ⟨gb,o,cap-m.toNat,cur,c2,K2,by simp [part,hcm0,hdl],hg',by rw [hdl];omega,by omega,by rw [hsub2];omega,?_,k2,λ h=>hnb (ks.r h),λ _=>Iff.rfl⟩
      have h0:xs.length-m.toNat=0:=by omega
      rw [hc2,hdl,h0];simp
    · refine ⟨gb,o+m.toNat*nn,cap-m.toNat,cur,c2,K2,by simp [part,hcm0,hdl,add_none],hg',by rw [hdl];omega,by omega,by rw [hsub2];omega,by rw [hc2,hdl],k2,λ h=>hnb (ks.r h),λ _=>Iff.rfl⟩
theorem OpS.moveD {a b : Operand} {z v : Value} {by_ i j : Nat} {xs : List α} (h : St e w Γ Ω) (hp : Pick Ω (f, .oval (oslice E nn F) v xs) Ω') (hF : ∀ k, k < i ∨ j ≤ k → F k = r) (hFn : ∀ k, (F k).n = nn) (ht : C.P.underlying T = some (.slice E)) (ti : TI C.P E z nn by_) (hg : gd ops L g = some true) (hd : Nat.blt d C.fn.ntmps = true)
    (hx:ev L a=some (pre v i)) (hy:ev L b=some (part nn v j xs.length)) (hij:i≤j∧j≤xs.length)
    (K : ∀ u w', St e w' ((true, .room u xs.length) :: Γ) ((f, .oval (oslice E nn (fun _ => r)) u (xs.take i ++ xs.drop j)) :: Ω') → Z ((d, u) :: L) w') : OpS C ops ⟨some d, .call ⟨.builtin .append, #[a, b], #[T, T]⟩, t, p, af, g⟩ L w Z := by
  obtain ⟨hij,hj⟩:=hij
  have h1:=h.pick hp
  obtain ⟨pa,cap,rfl,hlc,hpa⟩:∃ pa cap,v=.slice pa xs.length cap∧xs.length≤cap∧((pa=none∧xs=[]∧cap=0)∨∃ g o,pa=some ⟨g,o,none⟩):=by
    obtain ⟨S,G,I,hs,G1,G2,_,_,_,h4,_⟩:=h1;exact own_capD (oval_slice.1 h4)
  obtain ⟨ifo,hi,hz,hsz,hby2⟩:=ti
  have room:∀ {w'} {Ω1:List (Bool×HAtom)} {k:Nat},St e w' Γ Ω1→St e w' ((true,.room (pre (.slice pa xs.length cap) k) xs.length)::Γ) Ω1:=λ h=>h.addΓ (λ S hs=>⟨_,_,_,rfl,hlc⟩)
  -- the parts of the elements
  have parts:∀ {S G:Blks} {w:World} {ys:List Value},OEls S w F G ys xs→∃ c1 c3 G1 G3,c1=ys.take (i*nn)∧c3=ys.drop (j*nn)∧(∀ b,G1 b→G b)∧(∀ b,G3 b→G b)∧(∀ b,G1 b→¬ G3 b)∧OEls S w (λ _=>r) G1 c1 (xs.take i)∧OEls S w (λ _=>r) G3 c3 (xs.drop j):=by
    intro S G w ys hel
    have e1:xs=xs.take i++((xs.drop i).take (j-i)++xs.drop j):=by
      have:xs.drop j=(xs.drop i).drop (j-i):=by rw [List.drop_drop];congr 1;omega
      rw [this,List.take_append_drop,List.take_append_drop]
    rw [e1] at hel
    obtain ⟨c1,c',K1,K',rfl,ks,k1,k2⟩:=hel.split
    obtain ⟨c2,c3,K2,K3,rfl,ks2,k3,k4⟩:=k2.split
    have hl1:(xs.take i).length=i:=by simp;omega
    have hl2:((xs.drop i).take (j-i)).length=j-i:=by simp;omega
    have hc1:c1.length=i*nn:=by rw [OEls.len hFn k1,hl1]
    have hc2:c2.length=(j-i)*nn:=by rw [OEls.len (λ k=>hFn _) k3,hl2]
    have hjn:j*nn=c1.length+c2.length:=by rw [hc1,hc2,← Nat.add_mul];congr 1;omega
    refine ⟨c1,c3,K1,K3,by rw [← hc1,List.take_left'] ;rfl,by rw [hjn,← List.append_assoc,← List.length_append,List.drop_left'] ;rfl,λ b hb=>ks.l hb,λ b hb=>ks.r (ks2.r hb),λ b hb hk=>ks.2 b hb (ks2.r hk),k1.congr (λ k hk=>hF k (.inl (by rw [hl1] at hk;exact hk))),k4.congr (λ k hk=>hF _ (.inr (by rw [hl1,hl2];omega)))⟩
  by_cases hne:j=xs.length
  · subst hne
    have hic:i≤cap:=by omega
    have hrun:(Builtin.append_ #[T,T] t #[pre (.slice pa xs.length cap) i,part nn (.slice pa xs.length cap) xs.length xs.length]).run C.P w=.ok (pre (.slice pa xs.length cap) i) w:=by
      rcases hpa with ⟨rfl,rfl,rfl⟩ | ⟨g0,o0,rfl⟩
      · have hi0:i=0:=by omega
        subst hi0
        simp [pre,part,Builtin.append_,run_underlying ht,Go.sizeOf,typeInfo,hi,Builtin.lenOf,Builtin.firstCells,loadCells,loadCellsFrom]
      · by_cases hc:cap=xs.length<;>simp [pre,part,hc,Builtin.append_,run_underlying ht,Go.sizeOf,typeInfo,hi,Builtin.lenOf,Builtin.firstCells,loadCells,loadCellsFrom,hic,storeCells,hij]
    refine OpS.val (v:=pre (.slice pa xs.length cap) i) (w':=w) hg rfl hd (λ ac hac=>exec_app hac hx hy hrun) (K _ _ (room (k:=i) (h1.shr (λ G S hq=>?_))))
    have e2:xs.take i++xs.drop xs.length=xs.take i:=by simp
    rw [e2]
    have hl1:(xs.take i).length=i:=by simp;omega
    rcases oval_slice.1 hq with ⟨e1,rfl,hG⟩ | ⟨gb,o,cap',cur,ys,G',e1,hg',hnc,hcm,hcs,rfl,hel,hnb,hG⟩
    · simp only [Value.slice.injEq] at e1
      obtain ⟨rfl,_,rfl⟩:=e1
      have:i=0:=by simpa using hij
      subst this
      exact ⟨G,λ _ h=>h,oval_slice.2 (.inl ⟨rfl,by simp,hG⟩)⟩
    · simp only [Value.slice.injEq,true_and] at e1
      obtain ⟨rfl,rfl⟩:=e1
      obtain ⟨c1,c3,K1,K3,rfl,_,hk1,_,_,q1,_⟩:=parts hel
      refine ⟨λ b=>b=gb∨K1 b,λ b hb=>(hG b).2 (hb.imp id (hk1 b)),oval_slice.2 (.inr ⟨gb,o,cap,cur,_,K1,by rw [hl1];rfl,hg',by rw [hl1];exact hic,hcm,hcs,?_,q1,λ h=>hnb (hk1 _ h),λ _=>Iff.rfl⟩)⟩
      rw [hl1,List.take_take];congr 1
      exact Nat.min_eq_left (Nat.mul_le_mul_right _ hij)
  · have hjl:j<xs.length:=by omega
    obtain ⟨gb,o,cur,rfl,hgb,hcs,hone⟩:∃ gb o cur,pa=some ⟨gb,o,none⟩∧w.heap[gb]?=some (.cells cur E (0,0))∧o+cap*nn≤cur.size∧∀ u∈(cur.toList.drop o).take (xs.length*nn),u.oneCell'=true:=by
      obtain ⟨S,G,I,hs,G1,G2,_,_,_,h4,_⟩:=h1
      rcases oval_slice.1 h4 with ⟨e1,rfl,_⟩ | ⟨gb,o,cap',cur,ys,G',e1,hg',hnc,hcm,hcs,rfl,hel,hnb,hG⟩
      · simp at hjl
      · simp only [Value.slice.injEq,true_and] at e1
        obtain ⟨rfl,rfl⟩:=e1
        exact ⟨gb,o,cur,rfl,hg',hcs,hel.one⟩
    have hcap0:¬ cap=j:=by omega
    have hmul1:xs.length*nn≤cap*nn:=Nat.mul_le_mul_right _ hlc
    have hmulj:j*nn≤xs.length*nn:=Nat.mul_le_mul_right _ hj
    have hmuli:i*nn≤j*nn:=Nat.mul_le_mul_right _ hij
    have hsub:(xs.length-j)*nn=xs.length*nn-j*nn:=Nat.sub_mul _ _ _
    have hce:(cur.toList.drop (o+j*nn)).take ((xs.length-j)*nn)=((cur.toList.drop o).take (xs.length*nn)).drop (j*nn):=by rw [List.drop_take,List.drop_drop,hsub]
    have hcl:((cur.toList.drop (o+j*nn)).take ((xs.length-j)*nn)).length=(xs.length-j)*nn:=by
      rw [List.length_take,List.length_drop,show cur.toList.length=cur.size from Array.length_toList];exact Nat.min_eq_left (by rw [hsub];omega)
    have hone2:∀ u∈(cur.toList.drop (o+j*nn)).take ((xs.length-j)*nn),u.oneCell'=true:=λ u hu=>hone u (List.mem_of_mem_drop (by rw [hce] at hu;exact hu))
    have hcat:=cellsAt_block (w:=w) (cs:=cur.toList) (by simpa using hgb) (o+j*nn) ((xs.length-j)*nn)
    have hfc:=run_firstCells_some (P:=C.P) w ifo.size (xs.length-j) ⟨gb,o+j*nn,none⟩ (xs.length-j) (cap-j) _ (by rw [hsz];exact hcl) (λ k u hk=>by rw [add_none];exact hcat k u hk)
    have hst:=run_storeCells_at C.P gb (o+i*nn) E _ 0 cur w hgb (by rw [hcl,hsub];omega) hone2
    simp only [Nat.add_zero] at hst
    have hroom:i+(xs.length-j)≤cap:=by omega
    have hrun:(Builtin.append_ #[T,T] t #[.slice (some ⟨gb,o,none⟩) i cap,.slice (some ⟨gb,o+j*nn,none⟩) (xs.length-j) (cap-j)]).run C.P w=.ok (.slice (some ⟨gb,o,none⟩) (i+(xs.length-j)) cap) (w.setRow gb (cur.toList.take (o+i*nn)++(cur.toList.drop (o+j*nn)).take ((xs.length-j)*nn)++cur.toList.drop (o+i*nn+((cur.toList.drop (o+j*nn)).take ((xs.length-j)*nn)).length)).toArray):=by
      rw [← hsz] at hst hfc ⊢
      simp [Builtin.append_,run_underlying ht,Go.sizeOf,typeInfo,hi,Builtin.lenOf,hroom,hfc,Addr.add_lit,hst]
    have hx':ev L a=some (.slice (some ⟨gb,o,none⟩) i cap):=hx
    have hy':ev L b=some (.slice (some ⟨gb,o+j*nn,none⟩) (xs.length-j) (cap-j)):=by rw [hy];simp [part,hcap0,add_none]
    refine OpS.val (v:=pre (.slice (some ⟨gb,o,none⟩) xs.length cap) (i+(xs.length-j))) hg rfl hd (λ ac hac=>exec_app hac hx' hy' hrun) (K _ _ (room (k:=i+(xs.length-j)) (h1.write ?_)))
    intro S G1 hs hq hdis _ hlt
    rcases oval_slice.1 hq with ⟨e1,rfl,_⟩ | ⟨gb',o',cap',cur',ys,G',e1,hg',hnc,hcm,hcs',rfl,hel,hnb,hG⟩
    · simp at hjl
    simp only [Value.slice.injEq,Option.some.injEq,Addr.mk.injEq,and_true,true_and] at e1
    obtain ⟨⟨rfl,rfl⟩,rfl⟩:=e1
    rw [hg'] at hgb
    simp only [Option.some.injEq,Obj.cells.injEq,and_true] at hgb
    subst hgb
    obtain ⟨c1,c3,K1,K3,hc1,hc3,hk1,hk3,hk13,q1,q3⟩:=parts hel
    have hgG:G1 gb:=(hG gb).2 (.inl rfl)
    have hoth:∀ (cs':Array Value) b,b≠gb→(w.setRow gb cs').heap[b]?=w.heap[b]?:=λ cs' b hb=>setRow_other w gb b _ hb
    have hll:(xs.take i++xs.drop j).length=i+(xs.length-j):=by simp;omega
    have hSg:∀ b,fl f e.w.heap.size S b→b≠gb:=λ b hb h=>hdis b hb.1 (by rw [h];exact hgG)
    refine ⟨λ b=>b=gb∨(K1 b∨K3 b),λ b hb=>.inl ((hG b).2 (hb.imp id (λ h=>h.elim (hk1 b) (hk3 b)))),⟨rfl,rfl,rfl,by simp⟩,λ b _ hb=>hoth _ b (λ h=>hb (by rw [h];exact hgG)),
      oval_slice.2 (.inr ⟨gb,o,cap,_,c1++c3,λ b=>K1 b∨K3 b,by rw [hll];rfl,setRow_heap w gb _ _ E _ hg',by rw [hll];omega,hcm,?_,?_,OEls.append (G2:=K3) (q3.stab (λ _ h=>h) (λ b hb=>hoth _ b (hSg b hb)) (λ b hb=>hoth _ b (λ h=>hnb (by rw [← h];exact hk3 b hb)))) (Sep.mk' hk13) (q1.stab (λ _ h=>h) (λ b hb=>hoth _ b (hSg b hb)) (λ b hb=>hoth _ b (λ h=>hnb (by rw [← h];exact hk1 b hb)))),?_,λ _=>Iff.rfl⟩)⟩
    · simp only [List.size_toArray,List.length_append,List.length_take,List.length_drop,Array.length_toList,hsub];omega
    · have e1:cur'.toList.take (o+i*nn)=cur'.toList.take o++c1:=by
        rw [hc1,List.take_add,List.take_take];congr 2;omega
      have e2:(cur'.toList.take o).length=o:=by rw [List.length_take,Array.length_toList];omega
      have e3:(c1++c3).length=(i+(xs.length-j))*nn:=by
        rw [List.length_append,OEls.len (n:=nn) (λ k=>by have:=hFn xs.length;rw [hF xs.length (.inr hj)] at this;exact this) q1,OEls.len (n:=nn) (λ k=>by have:=hFn xs.length;rw [hF xs.length (.inr hj)] at this;exact this) q3,← Nat.add_mul]
        congr 1;simp;omega
      rw [hll,hce,← hc3,e1]
      show _=List.take _ (List.drop o (cur'.toList.take o++c1++c3++cur'.toList.drop (o+i*nn+c3.length)))
      rw [List.append_assoc,List.append_assoc,List.drop_append_of_le_length (by omega),List.drop_of_length_le (by omega),List.nil_append,← List.append_assoc,← e3,List.take_left']
      rfl
    · rintro (h | h)
      · exact hnb (hk1 _ h)
      · exact hnb (hk3 _ h)
theorem OpS.clearD {a : Operand} {z v : Value} {by_ k n : Nat} {xs : List α} {x0 : α} (h : St e w Γ Ω) (hp : Pick Ω (f, .oval (oslice E nn (fun _ => r)) v xs) Ω') (hr : At Γ (f2, .room v k)) (hrn : r.n = nn) (hsn : s.n = nn) (ht : C.P.underlying T = some (.slice E)) (ti : TI C.P E z nn by_) (hz : Zr s z.cells.toList x0) (hg : gd ops L g = some true)
    (hx:ev L a=some (part nn v xs.length n)) (hnk:xs.length≤n∧n≤k)
    (K : ∀ w', St e w' Γ ((f, .oval (oslice E nn (fun _ => r)) v xs) :: Ω') → Z L w') : OpS C ops ⟨none, .call ⟨.builtin .clear, #[a], #[T]⟩, t, p, af, g⟩ L w Z := by
  obtain ⟨hn,hk⟩:=hnk
  have h1:=h.pick hp
  obtain ⟨pa,cap,rfl,hlc,hkc,hpa⟩:∃ pa cap,v=.slice pa xs.length cap∧xs.length≤cap∧k≤cap∧((pa=none∧xs=[]∧cap=0)∨∃ g o,pa=some ⟨g,o,none⟩):=by
    obtain ⟨S,G,I,hs,G1,G2,_,_,_,h4,_⟩:=h1
    obtain ⟨pa,cap,rfl,hlc,hpa⟩:=own_capD (oval_slice.1 h4)
    obtain ⟨p1,n1,c1,e1,hk⟩:=hs.at hr
    simp only [Value.slice.injEq] at e1
    obtain ⟨_,_,rfl⟩:=e1
    exact ⟨pa,cap,rfl,hlc,hk,hpa⟩
  by_cases hn0:n=xs.length
  · subst hn0
    have hrun:(Builtin.clear_ #[T] t #[part nn (.slice pa xs.length cap) xs.length xs.length]).run C.P w=.ok (.tuple #[]) w:=by
      cases pa<;>simp [part,Builtin.clear_,run_underlying ht]<;>split<;>simp_all
    exact OpS.valN (v:=.tuple #[]) hg rfl (λ ac hac=>by simp [execOp,resolve,invoke,builtin,hac.ev hx,hrun]) (K w h1)
  · obtain ⟨gb,o,cur,rfl,hgb,hcs⟩:∃ gb o cur,pa=some ⟨gb,o,none⟩∧w.heap[gb]?=some (.cells cur E (0,0))∧o+cap*nn≤cur.size:=by
      obtain ⟨S,G,I,hs,G1,G2,_,_,_,h4,_⟩:=h1
      rcases oval_slice.1 h4 with ⟨e1,rfl,_⟩ | ⟨gb,o,cap',cur,ys,G',e1,hg',hnc,hcm,hcs,rfl,hel,hnb,hG⟩
      · simp only [Value.slice.injEq] at e1
        obtain ⟨_,_,rfl⟩:=e1
        simp at hn0 hn;omega
      · simp only [Value.slice.injEq,true_and] at e1
        obtain ⟨rfl,rfl⟩:=e1
        exact ⟨gb,o,cur,rfl,hg',hcs⟩
    have hzl:z.cells.size=nn:=by have:=s.len (hz (λ _=>True) w);rw [← hsn];simpa using this
    have hzone:∀ u∈z.cells.toList,u.oneCell'=true:=s.one (hz (λ _=>True) w)
    have hzc1:(Builtin.zeroCells z.cells (n-xs.length)).toList.length=(n-xs.length)*nn:=by rw [Array.length_toList,size_zeroCells,hzl]
    have hzc2:∀ u∈(Builtin.zeroCells z.cells (n-xs.length)).toList,u.oneCell'=true:=by
      intro u hu
      simp only [Builtin.zeroCells,Array.toList_map,List.mem_map] at hu
      obtain ⟨q,hq,rfl⟩:=hu
      have hpos:0<z.cells.size:=by
        rcases Nat.eq_zero_or_pos z.cells.size with h | h
        · rw [h] at hq;simp at hq
        · exact h
      have hlt:=Nat.mod_lt q hpos
      rw [getElem!_pos z.cells _ hlt]
      exact hzone _ (by simp)
    have hmul:n*nn≤cap*nn:=Nat.mul_le_mul_right _ (by omega)
    have hsub:(n-xs.length)*nn=n*nn-xs.length*nn:=Nat.sub_mul _ _ _
    have hmul2:xs.length*nn≤n*nn:=Nat.mul_le_mul_right _ hn
    have hst:=run_storeCells_at C.P gb (o+xs.length*nn) E _ 0 cur w hgb (by rw [hzc1,hsub];omega) hzc2
    have hcap0:¬ cap=xs.length:=by omega
    simp only [Nat.add_zero] at hst
    obtain ⟨m,hm⟩:∃ m,n-xs.length=m+1:=⟨n-xs.length-1,by omega⟩
    have hrun:(Builtin.clear_ #[T] t #[part nn (.slice (some ⟨gb,o,none⟩) xs.length cap) xs.length n]).run C.P w=.ok (.tuple #[]) (w.setRow gb (cur.toList.take (o+xs.length*nn)++(Builtin.zeroCells z.cells (n-xs.length)).toList++cur.toList.drop (o+xs.length*nn+(Builtin.zeroCells z.cells (n-xs.length)).toList.length)).toArray):=by
      simp only [part,hcap0,if_false,Option.map_some,add_none]
      rw [hm] at hst ⊢
      simp [Builtin.clear_,run_underlying ht,run_zeroValue ti,hst]
    refine OpS.valN (v:=.tuple #[]) hg rfl (λ ac hac=>by simp only [execOp,resolve,invoke,builtin,Sem.run_bind,Sem.run_pure,Result.andThen_ok,List.map_toArray,List.map_cons,List.map_nil,hac.ev hx,hrun];rfl) (K _ (h1.write ?_))
    intro S G1 hs hq hdis _ hlt
    rcases oval_slice.1 hq with ⟨e1,_,_⟩ | ⟨gb',o',cap',cur',ys,G',e1,hg',hnc,hcm,hcs',hys,hel,hnb,hG⟩
    · simp at e1
    simp only [Value.slice.injEq,Option.some.injEq,Addr.mk.injEq,and_true,true_and] at e1
    obtain ⟨⟨rfl,rfl⟩,rfl⟩:=e1
    rw [hg'] at hgb
    simp only [Option.some.injEq,Obj.cells.injEq,and_true] at hgb
    subst hgb
    have hgG:G1 gb:=(hG gb).2 (.inl rfl)
    have hoth:∀ (cs':Array Value) b,b≠gb→(w.setRow gb cs').heap[b]?=w.heap[b]?:=λ cs' b hb=>setRow_other w gb b _ hb
    refine ⟨G1,λ b hb=>.inl hb,⟨rfl,rfl,rfl,by simp⟩,λ b _ hb=>hoth _ b (λ h=>hb (by rw [h];exact hgG)),
      oval_slice.2 (.inr ⟨gb,o,cap,_,ys,G',rfl,setRow_heap w gb _ _ E _ hg',hnc,hcm,?_,?_,hel.stab (λ _ h=>h) (λ b hb=>hoth _ b (λ h=>hdis b hb.1 (by rw [h];exact hgG))) (λ b hb=>hoth _ b (λ h=>hnb (by rw [← h];exact hb))),hnb,hG⟩)⟩
    · simp only [List.size_toArray,List.length_append,List.length_take,List.length_drop,Array.length_toList,size_zeroCells,hzl,hsub];omega
    · have hyl:ys.length=xs.length*nn:=OEls.len (λ _=>hrn) hel
      have e1:cur'.toList.take (o+xs.length*nn)=cur'.toList.take o++ys:=by rw [hys,List.take_add]
      have e2:(cur'.toList.take o).length=o:=by rw [List.length_take,Array.length_toList];omega
      rw [e1]
      show _=List.take _ (List.drop o (cur'.toList.take o++ys++(Builtin.zeroCells z.cells (n-xs.length)).toList++cur'.toList.drop (o+xs.length*nn+(Builtin.zeroCells z.cells (n-xs.length)).toList.length)))
      rw [List.append_assoc,List.append_assoc,List.drop_append_of_le_length (by omega),List.drop_of_length_le (by omega),List.nil_append,← hyl,List.take_left']
      rfl
end
end Lift
namespace Lift
open Go
theorem Len.arrAt {α:Type} {m n:Nat} {F:Nat→ORep α} {r r':ORep α} {l:List α} {i:Int} {x:α} {hn:∀ j,(at' F i.toNat r j).n=n} {hn':∀ j,(at' F i.toNat r' j).n=n} (h:idx l i=some x) :
    Len (oarr m n (at' F i.toNat r) hn) (oarr m n (at' F i.toNat r') hn') (i.toNat*n) r r' l x (λ y=>Lift.upd l i y):=by
  have hr':r'.n=n:=by have:=hn' i.toNat;rwa [at_get] at this
  have key:=Len.arr (m:=m) (hn:=hn) h hr'
  simp only [at_get] at key
  have e:at' (at' F i.toNat r) i.toNat r'=at' F i.toNat r':=at_at _ _ _ _
  constructor
  · exact key.pn
  · exact key.same
  · intro G S w cs hx
    obtain ⟨f1,G1,G2,hs,hp,hput⟩:=key.out hx
    refine ⟨f1,G1,G2,hs,hp,λ {G1' S' w' c' y'} a k kg hd hp'=>?_⟩
    have:=hput a k kg hd hp'
    exact ⟨this.1,by have h2:=this.2;rw [e] at h2;exact h2⟩
theorem Len.arrShut {α:Type} {m n:Nat} {O r:ORep α} {l:List α} {i:Int} {x:α} {hn:∀ j,(at' (λ _=>O) i.toNat r j).n=n} {hn':∀ j,((λ _:Nat=>O) j).n=n} (h:idx l i=some x) :
    Len (oarr m n (at' (λ _=>O) i.toNat r) hn) (oarr m n (λ _=>O) hn') (i.toNat*n) r O l x (λ y=>Lift.upd l i y):=by
  have key:=Len.arrAt (m:=m) (F:=λ _=>O) (r:=r) (r':=O) (hn:=hn) (hn':=λ j=>by rw [at_self];exact hn' j) h
  constructor
  · exact key.pn
  · exact key.same
  · intro G S w cs hx
    obtain ⟨f1,G1,G2,hs,hp,hput⟩:=key.out hx
    refine ⟨f1,G1,G2,hs,hp,λ {G1' S' w' c' y'} a k kg hd hp'=>?_⟩
    have:=hput a k kg hd hp'
    exact ⟨this.1,by have h2:=this.2;rw [at_self] at h2;exact h2⟩
theorem Len.arrSame {α:Type} {m n:Nat} {O:ORep α} {l:List α} {i:Int} {x:α} {hn:∀ j,((λ _:Nat=>O) j).n=n} (h:idx l i=some x) :
    Len (oarr m n (λ _=>O) hn) (oarr m n (λ _=>O) hn) (i.toNat*n) O O l x (λ y=>Lift.upd l i y):=by
  have key:=Len.arr (m:=m) (r':=O) (hn:=hn) h (hn 0)
  constructor
  · exact key.pn
  · exact key.same
  · intro G S w cs hx
    obtain ⟨f1,G1,G2,hs,hp,hput⟩:=key.out hx
    refine ⟨f1,G1,G2,hs,hp,λ {G1' S' w' c' y'} a k kg hd hp'=>?_⟩
    have:=hput a k kg hd hp'
    exact ⟨this.1,by have h2:=this.2;rw [at_self] at h2;exact h2⟩
theorem Len.arrOpen {α:Type} {m n:Nat} {O r:ORep α} {l:List α} {i:Int} {x:α} {hn:∀ j,((λ _:Nat=>O) j).n=n} {hn':∀ j,(at' (λ _=>O) i.toNat r j).n=n} (h:idx l i=some x) :
    Len (oarr m n (λ _=>O) hn) (oarr m n (at' (λ _=>O) i.toNat r) hn') (i.toNat*n) O r l x (λ y=>Lift.upd l i y) :=
  Len.arr (m:=m) (hn:=hn) h (by have:=hn' i.toNat;rwa [at_get] at this)
theorem at_hn {α:Type} {n i:Nat} {O r:ORep α} (h1:O.n=n) (h2:r.n=n):∀ j,(at' (λ _=>O) i r j).n=n:=at_n (λ _=>h1) h2
section
variable {e : En} {w : World} {Γ : List (Bool × Atom)} {Ω Ω' Ω'' : List (Bool × HAtom)} {f f2 : Bool} {α β : Type} {r : ORep α} {s : Rep α}
theorem St.termD {E n:Nat} {F:Nat→ORep α} {v:Value} {l l':List α} (h:St e w Γ ((f,.oval (oslice E n F) v l)::Ω)) (he:l=l'):St e w Γ ((f,.oval (oslice E n F) v l')::Ω):=by subst he;exact h
theorem St.box1 {T : TypeId} {q : Value} {x : α} (h : St e w Γ Ω) (hp : Pick Ω (f, .box T s q x) Ω') : q.oneCell' = true := by
  obtain ⟨S,G,I,hs,ho⟩:=h
  obtain ⟨_,_,_,_,_,⟨g,cs,rfl,_⟩,_⟩:=ho.pick hp
  rfl
theorem St.openD {v0 : Value} {off E n : Nat} {F : Nat → ORep α} {hn : ∀ j, (F j).n = n} {F' : Value → Nat → ORep α} {hn' : ∀ v j, (F' v j).n = n} {xs : List α} {pc : ORep β} {y : β} {u : β → List α} (h : St e w Γ Ω) (hp : Pick Ω (f, .oval (oslice E n F) v0 xs) Ω') (hne : xs ≠ [])
    (hl : ∀ v, Len (oarr xs.length n F hn) (oarr xs.length n (F' v) (hn' v)) off pc (raw v) xs y u) (ha : pc.agg = false) : ∃ v, St e w Γ ((f, .oval (oslice E n (F' v)) v0 xs) :: (f, .oval pc v y) :: Ω') := by
  have h1:=h.pick hp
  obtain ⟨S,G,I,hs,G1,G2,_,_,_,hown,_⟩:=h1
  obtain ⟨b,o,cap,cur,ys,G',rfl,hh,k1,k2,k3,hys,hel,hnb,hG⟩:=own_ne hne hown
  obtain ⟨hfit,_,_,_,hpc,_⟩:=(hl undef).out ⟨rfl,hel⟩
  have hn1:pc.n=1:=((hl undef).pn).symm
  have hlen:=pc.len hpc
  rw [hn1] at hlen
  obtain ⟨v,hv⟩:∃ v,(ys.drop off).take pc.n=[v]:=List.length_eq_one_iff.1 (by rw [hn1];exact hlen)
  refine ⟨v,(h.pick hp).cut ?_⟩
  intro G0 S0 hown2
  obtain ⟨b2,o2,cap2,cur2,ys2,G2',e1,hh2,j1,j2,j3,hys2,hel2,hnb2,hG2⟩:=own_ne hne hown2
  simp only [Value.slice.injEq,Option.some.injEq,Addr.mk.injEq,and_true,true_and] at e1
  obtain ⟨⟨rfl,rfl⟩,rfl⟩:=e1
  rw [hh] at hh2
  simp only [Option.some.injEq,Obj.cells.injEq,and_true] at hh2
  subst hh2
  rw [← hys] at hys2
  subst hys2
  obtain ⟨_,K1,K2,hsep,hp1,hput⟩:=(hl v).out ⟨rfl,hel2⟩
  have hone:v.oneCell'=true:=pc.one hpc v (by rw [hv];simp)
  have hr3:=hput (G1':=λ _=>False) (y':=y) (c':=[v]) (λ _ h=>h) (λ _ _=>rfl) (λ _ _=>rfl) (λ _ h=>h.elim) ⟨λ _ h=>h,rfl,hone⟩
  rw [(hl v).same] at hr3
  have he:ys2.take off++[v]++ys2.drop (off+pc.n)=ys2:=by rw [← hv];exact splice_self
  rw [he] at hr3
  refine ⟨λ c=>c=b∨K2 c,K1,⟨λ c=>?_,?_⟩,oval_slice.2 (.inr ⟨b,o,cap,cur,ys2,K2,rfl,hh,k1,k2,k3,hys,OEls.ext (λ c=>by simp) hr3.2,λ hk=>hnb2 (hsep.r hk),λ _=>Iff.rfl⟩),?_⟩
  · rw [hG2,hsep.1];exact ⟨λ h=>h.elim (λ h=>.inl (.inl h)) (λ h=>h.elim .inr (λ h=>.inl (.inr h))),λ h=>h.elim (λ h=>h.elim .inl (λ h=>.inr (.inr h))) (λ h=>.inr (.inl h))⟩
  · rintro c (rfl | hc) hk
    · exact hnb2 (hsep.l hk)
    · exact hsep.2 c hk hc
  · show (HAtom.oval pc v y).p K1 S0 w
    simp only [HAtom.oval,ha]
    rw [hv] at hp1;exact hp1
end
section
variable {C:Cx} {L:List (Nat×Value)} {w:World} {ops:Array Oper} {Z:List (Nat×Value)→World→Prop} {d:Nat} {t T:TypeId} {p:String} {af:Array Edge} {g:Option (Nat×Bool)}
variable {e : En} {Γ : List (Bool × Atom)} {Ω Ω' Ω'' : List (Bool × HAtom)} {f f2 : Bool} {α β : Type} {r : ORep α} {s : Rep α} {fr : Rep β} {x : α} {y : β}
theorem OpS.loadA {a : Operand} {v qv : Value} {off E n : Nat} {i : Int} {F : Nat → ORep α} {xs : List α} (h : St e w Γ Ω) (hp : Pick Ω (f, .oval (oslice E n (at' F i.toNat r)) v xs) Ω') (hn : ∀ j, (at' F i.toNat r j).n = n) (hw : Wk r s) (hix : idx xs i = some x) (hq : PA (sp v) (i.toNat * n + off) qv) (hge : Get s off fr x y) (ht : Ty C.P T fr) (hg : gd ops L g = some true) (hd : Nat.blt d C.fn.ntmps = true)
    (hx:ev L a=some qv) (K:∀ u,St e w ((f,.val fr u y)::Γ) Ω→Z ((d,u)::L) w):OpS C ops ⟨some d,.load T a,t,p,af,g⟩ L w Z:=by
  obtain ⟨S,G,I,hs,ho⟩:=h
  obtain ⟨G1,G2,_,_,_,hown,_⟩:=ho.pick hp
  obtain ⟨b,o,cap,cur,ys,G',rfl,hh,_,_,_,rfl,hel,_⟩:=own_ne (idx_ne hix) hown
  obtain ⟨h0,h1,h2⟩:=idx_some hix
  obtain ⟨K1,K2,_,hpi,_⟩:=Len.els (r':=r) hn h2 hel
  rw [at_get] at hpi
  obtain ⟨hfit,hpc⟩:=hge (S:=fl f e.w.heap.size S) (w:=w) (hw.rel hpi)
  have hrn:r.n=n:=by have:=hn i.toNat;rwa [at_get] at this
  have hqv:=hq _ rfl
  rw [add_none] at hqv
  subst hqv
  have hc:cellsAt w b (o+(i.toNat*n+off)) ((((((cur.toList.drop o).take (xs.length*n)).drop (i.toNat*n)).take n).drop off).take fr.n):=by
    intro j u hj
    have h3:j<fr.n:=by have:=(List.getElem?_eq_some_iff.1 hj).1;rw [List.length_take] at this;omega
    rw [List.getElem?_take_of_lt h3,List.getElem?_drop] at hj
    have hsn:s.n=n:=by rw [← hw.n,hrn]
    rw [List.getElem?_take_of_lt (by omega),List.getElem?_drop] at hj
    have h4:i.toNat*n+(off+j)<xs.length*n:=by
      have h5:(i.toNat+1)*n≤xs.length*n:=Nat.mul_le_mul_right _ (by omega)
      rw [Nat.add_mul] at h5;omega
    rw [List.getElem?_take_of_lt h4,List.getElem?_drop] at hj
    rw [cell_of_row w b _ cur E (0,0) hh]
    rw [Array.getElem?_toList] at hj
    rw [← hj];congr 1;omega
  exact OpS.val hg rfl hd (λ ac hac=>exec_load rfl (hac.ev hx) (run_loadVar ht hc hpc)) (K _ ⟨S,G,I,⟨Rep.val_pack ht.fl hpc,hs⟩,ho⟩)
end
end Lift
namespace Lift
open Go
structure Rf {α:Type} (r:ORep α) (s:Rep α):Prop where
  rel:∀ {G S:Blks} {w:World} {cs:List Value} {x:α},(∀ b,G b→S b)→r.rel G S w cs x→s.rel S w cs x
theorem Rf.sh {α:Type} {r:Rep α}:Rf (sh r) r:=⟨λ _ h=>h.2⟩
theorem Rf.unit:Rf ounit Rep.unit:=⟨λ _ h=>h.2⟩
theorem Rf.prod {α β:Type} {r:ORep α} {s:ORep β} {r':Rep α} {s':Rep β} (h:Rf r r') (k:Rf s s'):Rf (oprod r s) (r'.prod s'):=⟨by
  rintro G S w cs x hGS ⟨c,d,_,_,rfl,hs,h1,h2⟩
  exact ⟨c,d,rfl,h.rel (λ b hb=>hGS b (hs.l hb)) h1,k.rel (λ b hb=>hGS b (hs.r hb)) h2⟩⟩
theorem Rf.iso {α β:Type} {f:β→α} {r:ORep α} {s:Rep α} (h:Rf r s):Rf (oiso f r) (s.iso f):=⟨λ hGS hr=>h.rel hGS (by exact hr)⟩
theorem Rf.els {α:Type} {r:ORep α} {s:Rep α} (h:Rf r s) {S:Blks} {w:World}:∀ {l:List α} {G:Blks} {cs:List Value},(∀ b,G b→S b)→OEls S w (λ _=>r) G cs l→Elems s S w cs l
  | [],G,cs,_,hh=>hh.1
  | x::l,G,cs,hGS,hh=>by
    obtain ⟨c,rest,G1,G2,e,hs,h1,h2⟩:=hh
    exact ⟨c,rest,e,h.rel (λ b hb=>hGS b (hs.l hb)) h1,h.els (λ b hb=>hGS b (hs.r hb)) h2⟩
theorem own_readF {α:Type} {E:TypeId} {r:ORep α} {s:Rep α} (hw:Rf r s) {n:Nat} {w:World} {v:Value} {l:List α} {G S:Blks} (h:Own E n (λ _=>r) G S w v l) (hGS:∀ b,G b→S b):s.slice.val S w v l:=by
  rcases h with ⟨rfl,rfl,_⟩ | ⟨g,o,cap,cur,xs,G',rfl,hg,hnc,hcm,hcs,rfl,hel,_,hG⟩
  · exact ⟨none,0,rfl,Nat.le_refl _,Nat.zero_le _,λ h=>absurd rfl h⟩
  · exact ⟨_,cap,rfl,hnc,hcm,λ _=>⟨g,o,_,rfl,hGS g ((hG g).2 (.inl rfl)),by have:=cellsAt_row hg o 0 (l.length*n) (l.length*n);simpa [List.take_take] using this,hw.els (λ b hb=>hGS b ((hG b).2 (.inr hb))) hel⟩⟩
theorem Rf.own {α:Type} {E n:Nat} {r:ORep α} {s:Rep α} (h:Rf r s):Rf (oslice E n (λ _=>r)) s.slice:=⟨by
  rintro G S w cs x hGS ⟨v,rfl,ho⟩
  exact own_readF h ho hGS⟩
theorem Args.ownF {Γ Γa : List (Bool × Atom)} {Ω Ω' : List (Bool × HAtom)} {α : Type} {r : ORep α} {s : Rep α} {f : Bool} {B E n : Nat} {v : Value} {l : List α} (hp : Pick Ω (f, .oval (oslice E n (fun _ => r)) v l) Ω') (hw : Rf r s) (K : Args B Γ Ω Γa) : Args B Γ Ω ((false, .val s.slice v l) :: Γa) := by
  refine .sem (λ S G w hs ho=>?_) K
  obtain ⟨G1,G2,h1,_,_,h4,_⟩:=ho.pick hp
  have h4':=(HAtom.oval (oslice E n (λ _=>r)) v l).st (S':=λ b=>S b∨G b) (λ b hb=>.inl hb.1) (λ _ _=>rfl) (λ _ _=>rfl) h4
  exact own_readF hw (oval_slice.1 h4') (λ b hb=>.inr ((h1 b).2 (.inl hb)))
theorem St.freezeF {e:En} {w:World} {Γ:List (Bool×Atom)} {Ω:List (Bool×HAtom)} {f:Bool} {α:Type} {E:TypeId} {r:ORep α} {s:Rep α} {n:Nat} {v:Value} {l:List α} (h:St e w Γ ((f,.oval (oslice E n (λ _=>r)) v l)::Ω)) (hw:Rf r s):St e w ((f,.val s.slice v l)::Γ) Ω :=
  h.freezeG (λ G S hp hGS=>own_readF hw (oval_slice.1 hp) hGS)
theorem at_other {α:Type} {r r':ORep α} {i j:Nat} (h:i<j):∀ k,k<i∨j≤k→at' (λ _=>r) i r' k=r:=by
  intro k hk
  unfold at'
  rw [if_neg (by omega)]
end Lift
