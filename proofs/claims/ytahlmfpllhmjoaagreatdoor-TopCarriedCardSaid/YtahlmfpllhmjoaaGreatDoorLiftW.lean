import Derived.Test.YtahlmfpllhmjoaaGreatDoorLiftV
set_option linter.unusedVariables false
set_option linter.unusedSimpArgs false
namespace Lift
open Go
section
variable {C:Cx} {L:List (Nat×Value)} {w:World} {ops:Array Oper} {Z:List (Nat×Value)→World→Prop} {d:Nat} {t T:TypeId} {p:String} {af:Array Edge} {g:Option (Nat×Bool)}
variable {e : En} {Γ : List (Bool × Atom)} {Ω Ω' : List (Bool × HAtom)} {f : Bool} {α β : Type}
inductive BldC (L:List (Nat×Value)) (B:Nat) (Γ:List (Bool×Atom)) (f:Bool) (pl:List (Nat×Nat)):Rep α→Rep α→List (Nat×Operand)→α→α→Prop
  | nil {r:Rep α} {x:α}:BldC L B Γ f pl r r [] x x
  | cons {β:Type} (fr:Rep β) (r r1:Rep α) {r2:Rep α} {off i:Nat} {o:Operand} {v:Value} (x x1:α) {x':α} {y:β} {ps:List (Nat×Operand)} (hf:Chg r r1 off fr x y x1) (hp:pl[i]?=some (off,fr.n)) (h:Lift.ev L o=some v) (hv:V B Γ f fr v y)
      (K:BldC L B Γ f pl r1 r2 ps x1 x'):BldC L B Γ f pl r r2 ((i,o)::ps) x x'
theorem run_fillC {B:Nat} {S:Blks} {w:World} {pl:List (Nat×Nat)} (hs:Sat B S w Γ) {r r':Rep α} {ps:List (Nat×Operand)} {x x':α} (h:BldC L B Γ f pl r r' ps x x') (ρ:Operand→Value) (hρ:∀ o v,ev L o=some v→ρ o=v) :
    ∀ {cs:List Value},r.rel (fl f B S) w cs x→∃ cs':List Value,Instr.fill (pl.toArray[·]?) cs.toArray (ps.map λ q=>(q.1,ρ q.2))=some cs'.toArray∧r'.rel (fl f B S) w cs' x':=by
  induction h with
  | nil=>intro cs hc;exact ⟨cs,rfl,hc⟩
  | @cons β fr r r1 r2 off i o v x x1 x' y ps hf hp h hv _ ih =>
    intro cs hc
    have hval:=Rep.val_cells (hv S w hs)
    have hl:v.cells.toList.length=fr.n:=fr.len hval
    have hsz:v.cells.size=fr.n:=by simpa using hl
    have hcl:=r.len hc
    obtain ⟨hfit,hset⟩:=hf.ch hc hval
    obtain ⟨cs',h1,h2⟩:=ih hset
    refine ⟨cs',?_,h2⟩
    have hp':pl.toArray[i]?=some (off,fr.n):=by simpa using hp
    simp only [List.map_cons,Instr.fill,hρ o v h,hsz,hp']
    have c1:¬ (decide (fr.n≠fr.n)||decide (off+fr.n>cs.toArray.size))=true:=by simp;omega
    rw [if_neg c1]
    have hfs:=fill_set v.cells.toList off cs.toArray (by simp;omega)
    have e1:(v.cells.zipIdx.foldl (λ cs (p:Value×Nat)=>cs.setIfInBounds (off+p.2) p.1) cs.toArray)=(cs.take off++v.cells.toList++cs.drop (off+fr.n)).toArray:=by
      apply Array.toList_inj.1
      rw [hl] at hfs
      simp only [List.toList_toArray] at hfs ⊢
      rw [show v.cells.toList.toArray=v.cells from by simp] at hfs
      exact hfs
    rw [show (λ (cs:Array Value) (x:Value×Nat)=>match x with | (c,j)=>cs.setIfInBounds (off+j) c)=(λ cs (p:Value×Nat)=>cs.setIfInBounds (off+p.2) p.1) from rfl,e1]
    exact h1
theorem run_buildC {P:Program} {z:Value} {sz by_:Nat} {pl:List (Nat×Nat)} {ps:List (Nat×Operand)} {S:Blks} {B:Nat} {r r':Rep α} {x x':α} (hpl:PL P T pl) (ti:TI P T z sz by_) (hz:Zr r z.cells.toList x) (hs:Sat B S w Γ) (hb:BldC L B Γ f pl r r' ps x x') (ρ:Operand→Value) (hρ:∀ o v,ev L o=some v→ρ o=v) :
    ∃ cs:List Value,(Instr.build T (ps.toArray.map λ q=>(q.1,ρ q.2))).run P w=.ok (.agg cs.toArray) w∧r'.rel (fl f B S) w cs x':=by
  obtain ⟨fs,hu,hm⟩:=hpl
  obtain ⟨cs,h1,h2⟩:=run_fillC hs hb ρ hρ (hz _ w)
  refine ⟨cs,?_,h2⟩
  have hzv:=run_zeroValue ti w
  have hpm:(fs.mapM (λ F=>(do pure (F.offset,← Go.sizeOf F.type):Sem (Nat×Nat)))).run P w=.ok pl.toArray w:=by
    rw [← Array.toArray_toList (xs:=fs),List.mapM_toArray]
    have:=run_places (P:=P) (w:=w) hm
    rw [map_eq_pure_bind,Sem.run_bind,this];rfl
  simp only [Instr.build,Sem.run_bind,hzv,Result.andThen_ok,run_underlying hu,hpm]
  have e1:z.cells.toList.toArray=z.cells:=by simp
  rw [e1] at h1
  simp only [List.map_toArray]
  rw [h1]
  rfl
theorem OpS.buildC {z:Value} {sz by_:Nat} {pl:List (Nat×Nat)} {ps:List (Nat×Operand)} {r r':Rep α} {x x':α} (h:St e w Γ Ω) (hpl:PL C.P T pl) (ti:TI C.P T z sz by_) (hz:Zr r z.cells.toList x) (ha:r'.agg=true) (hg:gd ops L g=some true) (hd:Nat.blt d C.fn.ntmps=true)
    (hb:BldC L e.w.heap.size Γ f pl r r' ps x x') (K:∀ u,St e w ((f,.val r' u x')::Γ) Ω→Z ((d,u)::L) w):OpS C ops ⟨some d,.build T ps.toArray,t,p,af,g⟩ L w Z:=by
  obtain ⟨S,G,I,hs,ho⟩:=h
  obtain ⟨cs,hrun,hr⟩:=run_buildC hpl ti hz hs hb (λ o=>(ev L o).getD undef) (λ o v h=>by simp [h])
  have hsame:∀ a:Act,Agree C.fn.ntmps L a→(ps.toArray.map λ q=>(q.1,a.eval q.2))=(ps.toArray.map λ q=>(q.1,(ev L q.2).getD undef)):=by
    intro a hac
    have:∀ (ps:List (Nat×Operand)) (r r':Rep α) (x x':α),BldC L e.w.heap.size Γ f pl r r' ps x x'→ps.map (λ q=>(q.1,a.eval q.2))=ps.map (λ q=>(q.1,(ev L q.2).getD undef)):=by
      intro ps r r' x x' h
      induction h with
      | nil=>rfl
      | cons _ _ _ _ _ _ _ h _ _ ih=>simp only [List.map_cons,ih,hac.ev h,h,Option.getD_some]
    have h2:=this ps r r' x x' hb
    simp only [List.map_toArray,h2]
  refine OpS.val (v:=.agg cs.toArray) (w':=w) hg rfl hd (λ ac hac=>?_) (K _ ⟨S,G,I,⟨?_,hs⟩,ho⟩)
  · simp only [execOp,hsame ac hac,Sem.run_bind,hrun,Result.andThen_ok,Sem.run_pure]
  · show r'.val _ _ _ _
    unfold Rep.val;rw [ha];exact ⟨cs,rfl,hr⟩
end
section
variable {e:En} {w:World} {Γ:List (Bool×Atom)} {Ω:List (Bool×HAtom)} {f:Bool} {α β:Type}
theorem St.closeV {E:ORep α} {s:Rep α} {pc:ORep β} {vr u:Value} {l:β} {x x':α} (h:St e w Γ ((f,.oval pc vr l)::Ω)) (hv:V e.w.heap.size Γ f s u x) (ha:s.agg=E.agg) (k:Jo (λ G S w=>(HAtom.oval pc vr l).p G S w) s E x x'):St e w Γ ((f,.oval E u x')::Ω):=by
  obtain ⟨S,G,I,hs,G1,G2,h1,h2,h3,h4,h5⟩:=h
  refine ⟨S,G,I,hs,G1,G2,h1,h2,h3,?_,h5⟩
  have hval:=hv S w hs
  unfold Rep.val at hval
  rw [ha] at hval
  show (HAtom.oval E u x').p G1 (fl f e.w.heap.size S) w
  simp only [HAtom.oval]
  cases hE:E.agg
  · rw [hE] at hval;exact k _ _ _ _ h4 hval
  · rw [hE] at hval;obtain ⟨cs,e1,hr⟩:=hval;exact ⟨cs,e1,k _ _ _ _ h4 hr⟩
theorem St.openV {E:ORep α} {F':Value→ORep α} {s:Value→Rep α} {pc:ORep β} {off:Nat} {u:Value} {x:α} {y:β} {k:β→α} (h:St e w Γ ((f,.oval E u x)::Ω)) (hl:∀ v,Len E (F' v) off pc (raw v) x y k) (hw:∀ v,Wk (F' v) (s v)) (hE:E.agg=true) (hsE:∀ v,(s v).agg=true) (ha:pc.agg=false) :
    ∃ vr,St e w ((f,.val (s vr) u x)::Γ) ((f,.oval pc vr y)::Ω):=by
  obtain ⟨S,G,I,hs,G1,G2,h1,h2,h3,h4,h5⟩:=h
  have h4':∃ cs:List Value,u=.agg cs.toArray∧E.rel G1 (fl f e.w.heap.size S) w cs x:=by
    have h4:(HAtom.oval E u x).p G1 (fl f e.w.heap.size S) w:=h4
    simp only [HAtom.oval,hE] at h4;exact h4
  obtain ⟨cs,rfl,hr⟩:=h4'
  obtain ⟨hfit,_,_,_,hpc,_⟩:=(hl undef).out hr
  have hn1:pc.n=1:=((hl undef).pn).symm
  have hlen:=pc.len hpc
  rw [hn1] at hlen
  obtain ⟨v,hv⟩:∃ v,(cs.drop off).take pc.n=[v]:=List.length_eq_one_iff.1 (by rw [hn1];exact hlen)
  obtain ⟨_,K1,K2,hsep,hp1,hput⟩:=(hl v).out hr
  have hone:v.oneCell'=true:=pc.one hpc v (by rw [hv];simp)
  have hr3:=hput (G1':=λ _=>False) (y':=y) (c':=[v]) (λ _ h=>h) (λ _ _=>rfl) (λ _ _=>rfl) (λ _ h=>h.elim) ⟨λ _ h=>h,rfl,hone⟩
  rw [(hl v).same] at hr3
  have he:cs.take off++[v]++cs.drop (off+pc.n)=cs:=by rw [← hv];exact splice_self
  rw [he] at hr3
  have hsub:∀ b,K1 b→G1 b:=λ b hb=>hsep.l hb
  refine ⟨v,S,λ b=>K1 b∨G2 b,⟨I.step,I.sb,?_,?_,I.s0,?_⟩,⟨?_,hs⟩,K1,G2,λ _=>Iff.rfl,λ b hb=>h2 b (hsub b hb),λ b hf hb=>h3 b hf (hsub b hb),?_,h5⟩
  · rintro b (hb | hb)
    · exact I.gb b ((h1 b).2 (.inl (hsub b hb)))
    · exact I.gb b ((h1 b).2 (.inr hb))
  · rintro b hb (hk | hk)
    · exact I.dis b hb ((h1 b).2 (.inl (hsub b hk)))
    · exact I.dis b hb ((h1 b).2 (.inr hk))
  · rintro b (hb | hb)
    · exact I.g0 b ((h1 b).2 (.inl (hsub b hb)))
    · exact I.g0 b ((h1 b).2 (.inr hb))
  · show (s v).val _ _ _ _
    unfold Rep.val;rw [hsE];exact ⟨cs,rfl,(hw v).rel hr3⟩
  · show (HAtom.oval pc v y).p K1 (fl f e.w.heap.size S) w
    simp only [HAtom.oval,ha]
    rw [hv] at hp1;exact hp1
end
end Lift
namespace Lift
open Go
theorem Len.off {α β:Type} {r r':ORep α} {o o':Nat} {p p':ORep β} {x:α} {y:β} {u:β→α} (h:Len r r' o p p' x y u) (e:o=o'):Len r r' o' p p' x y u:=e ▸ h
end Lift
namespace Lift
open Go
section
variable {e:En} {w:World} {Γ:List (Bool×Atom)} {Ω:List (Bool×HAtom)} {f f2:Bool} {α β:Type}
theorem St.shutD {v0 v:Value} {off E n:Nat} {F F2:Nat→ORep α} {hn:∀ j,(F j).n=n} {hn2:∀ j,(F2 j).n=n} {xs:List α} {pc:ORep β} {y z:β} {u:β→List α} (h:St e w Γ ((f,.oval (oslice E n F) v0 xs)::(f2,.oval pc v z)::Ω)) (hf:f2=true∨f=false) (hne:xs≠[])
    (hl:Len (oarr xs.length n F hn) (oarr xs.length n F2 hn2) off (raw v) pc xs y u) (ha:pc.agg=false) (hlen:(u z).length=xs.length):St e w Γ ((f,.oval (oslice E n F2) v0 (u z))::Ω):=by
  refine h.glue hf ?_
  intro G Ga Gb S hsep hown hv
  obtain ⟨b,o,cap,cur,ys,G',rfl,hh,k1,k2,k3,hys,hel,hnb,hG⟩:=own_ne hne hown
  have hv':pc.rel Gb S w [v] z:=by
    have h4:(HAtom.oval pc v z).p Gb S w:=hv
    simp only [HAtom.oval,ha] at h4;exact h4
  have hsub:∀ c,G' c→Ga c:=λ c hc=>(hG c).2 (.inr hc)
  obtain ⟨hfit,K1,K2,hk,hp,hput⟩:=hl.out (S:=S) (w:=w) ⟨rfl,hel⟩
  have hone:(raw (α:=β) v).n=1:=rfl
  have hput':=hput (G1':=Gb) (S':=S) (w':=w) (c':=[v]) (y':=z) (λ _ h=>h) (λ _ _=>rfl) (λ _ _=>rfl) (λ c hc hk2=>hsep.2 c (hsub c (hk.r hk2)) hc) hv'
  have hcell:(ys.drop off).take 1=[v]:=hp.2.1
  have he:ys.take off++[v]++ys.drop (off+1)=ys:=by rw [← hcell];exact splice_self
  rw [hone,he] at hput'
  refine oval_slice.2 (.inr ⟨b,o,cap,cur,ys,λ c=>Gb c∨K2 c,by rw [hlen],hh,by rw [hlen];exact k1,k2,by rw [hlen] at *;exact k3,by rw [hlen];exact hys,hput'.2,?_,?_⟩)
  · rintro (hc | hc)
    · exact hsep.2 b ((hG b).2 (.inl rfl)) hc
    · exact hnb (hk.r hc)
  · intro c
    rw [hsep.1,hG]
    have hraw:∀ c,¬ K1 c:=hp.1
    constructor
    · rintro ((rfl | hc) | hc)
      · exact .inl rfl
      · exact .inr (.inr ((hk.1 c).1 hc |>.resolve_left (hraw c)))
      · exact .inr (.inl hc)
    · rintro (rfl | hc | hc)
      · exact .inl (.inl rfl)
      · exact .inr hc
      · exact .inl (.inr (hk.r hc))
theorem St.shutS {v0 v:Value} {off E n:Nat} {F F2:Nat→ORep α} {hn:∀ j,(F j).n=n} {hn2:∀ j,(F2 j).n=n} {xs:List α} {pc:ORep β} {y:β} {u:β→List α} (h:St e w Γ ((f,.oval (oslice E n F) v0 xs)::(f2,.oval pc v y)::Ω)) (hf:f2=true∨f=false) (hne:xs≠[])
    (hl:Len (oarr xs.length n F hn) (oarr xs.length n F2 hn2) off (raw v) pc xs y u) (ha:pc.agg=false):St e w Γ ((f,.oval (oslice E n F2) v0 xs)::Ω):=by
  have h2:=h.shutD hf hne hl ha (by rw [hl.same])
  rw [hl.same] at h2
  exact h2
end
end Lift
