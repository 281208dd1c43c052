import Derived.Test.YtahlmfpllhmjoaaGreatDoorLiftG
set_option linter.unusedVariables false
set_option linter.unusedSimpArgs false
namespace Lift
open Go
def PL (P:Program) (T:TypeId) (pl:List (Nat×Nat)):Prop :=
  ∃ fs,P.underlying T=some (.struct fs)∧fs.toList.map (λ F=>(F.offset,(P.info? F.type).map (·.size)))=pl.map (λ q=>(q.1,some q.2))
theorem Qkp {P:Program} {w:World}:∀ {l:List Field} {pl:List (Nat×Nat)},l.map (λ F=>(F.offset,(P.info? F.type).map (·.size)))=pl.map (λ q=>(q.1,some q.2)) →
    (l.mapM (λ F=>(do pure (F.offset,← Go.sizeOf F.type):Sem (Nat×Nat)))).run P w=.ok pl w
  | [],pl,h=>by
    cases pl with
    | nil=>rfl
    | cons _ _=>cases h
  | F::l,pl,h=>by
    cases pl with
    | nil=>cases h
    | cons q pl =>
      simp only [List.map_cons,List.cons.injEq,Prod.mk.injEq] at h
      obtain ⟨⟨h1,h2⟩,h3⟩:=h
      have ih:=Qkp (w:=w) h3
      have hs:(Go.sizeOf F.type).run P w=.ok q.2 w:=by
        cases hi:P.info? F.type with
        | none=>rw [hi] at h2;simp at h2
        | some i=>rw [hi] at h2;simp at h2;simp [Go.sizeOf,typeInfo,hi,h2]
      simp only [List.mapM_cons,Sem.run_bind,hs,Result.andThen_ok,Sem.run_pure,ih,h1]
section
variable {C:Cx} {L:List (Nat×Value)} {w:World} {ops:Array Oper} {Z:List (Nat×Value)→World→Prop} {d:Nat} {t T:TypeId} {p:String} {af:Array Edge} {g:Option (Nat×Bool)}
variable {e : En} {Γ : List (Bool × Atom)} {Ω Ω' : List (Bool × HAtom)} {f : Bool} {α β : Type} {r : Rep α} {fr : Rep β} {x x' : α} {y : β}
inductive Bld (L:List (Nat×Value)) (B:Nat) (Γ:List (Bool×Atom)) (f:Bool) (r:Rep α) (pl:List (Nat×Nat)):List (Nat×Operand)→α→α→Prop
  | nil {x:α}:Bld L B Γ f r pl [] x x
  | cons {β:Type} {fr:Rep β} {off i:Nat} {get:α→β} {set:α→β→α} {o:Operand} {v:Value} {x x':α} {y:β} {ps:List (Nat×Operand)} (hp:pl[i]?=some (off,fr.n)) (hf:Fld r off fr get set) (h:Lift.ev L o=some v) (hv:V B Γ f fr v y)
      (K:Bld L B Γ f r pl ps (set x y) x'):Bld L B Γ f r pl ((i,o)::ps) x x'
theorem Quq {B:Nat} {S:Blks} {w:World} {pl:List (Nat×Nat)} (hs:Sat B S w Γ) {ps:List (Nat×Operand)} (h:Bld L B Γ f r pl ps x x') (ρ:Operand→Value) (hρ:∀ o v,ev L o=some v→ρ o=v) :
    ∀ {cs:List Value},r.rel (fl f B S) w cs x→∃ cs':List Value,Instr.fill (pl.toArray[·]?) cs.toArray (ps.map λ q=>(q.1,ρ q.2))=some cs'.toArray∧r.rel (fl f B S) w cs' x':=by
  induction h with
  | nil=>intro cs hc;exact ⟨cs,rfl,hc⟩
  | @cons β fr off i get set o v x x' y ps hp hf h hv _ ih =>
    intro cs hc
    have hval:=Rep.val_cells (hv S w hs)
    have hl:v.cells.toList.length=fr.n:=fr.len hval
    have hsz:v.cells.size=fr.n:=by simpa using hl
    have hcl:=r.len hc
    have hfit:=hf.fit
    obtain ⟨cs',h1,h2⟩:=ih (hf.set hc hval)
    refine ⟨cs',?_,h2⟩
    have hp':pl.toArray[i]?=some (off,fr.n):=by simpa using hp
    simp only [List.map_cons,Instr.fill,hρ o v h,hsz,hp']
    have c1:¬ (decide (fr.n≠fr.n)||decide (off+fr.n>cs.toArray.size))=true:=by simp;omega
    rw [if_neg c1]
    have hfs:=Qkn v.cells.toList off cs.toArray (by simp;omega)
    have e1:(v.cells.zipIdx.foldl (λ cs (p:Value×Nat)=>cs.setIfInBounds (off+p.2) p.1) cs.toArray)=(cs.take off++v.cells.toList++cs.drop (off+fr.n)).toArray:=by
      apply Array.toList_inj.1
      rw [hl] at hfs
      simp only [List.toList_toArray] at hfs ⊢
      rw [show v.cells.toList.toArray=v.cells from by simp] at hfs
      exact hfs
    rw [show (λ (cs:Array Value) (x:Value×Nat)=>match x with | (c,j)=>cs.setIfInBounds (off+j) c)=(λ cs (p:Value×Nat)=>cs.setIfInBounds (off+p.2) p.1) from rfl,e1]
    exact h1
theorem Qvj {P:Program} {z:Value} {sz by_:Nat} {pl:List (Nat×Nat)} {ps:List (Nat×Operand)} {S:Blks} {B:Nat} (hpl:PL P T pl) (ti:TI P T z sz by_) (hz:Zr r z.cells.toList x) (hs:Sat B S w Γ) (hb:Bld L B Γ f r pl ps x x') (ρ:Operand→Value) (hρ:∀ o v,ev L o=some v→ρ o=v) :
    ∃ cs:List Value,(Instr.build T (ps.toArray.map λ q=>(q.1,ρ q.2))).run P w=.ok (.agg cs.toArray) w∧r.rel (fl f B S) w cs x':=by
  obtain ⟨fs,hu,hm⟩:=hpl
  obtain ⟨cs,h1,h2⟩:=Quq hs hb ρ hρ (hz _ w)
  refine ⟨cs,?_,h2⟩
  have hzv:=Qcz ti w
  have hpm:(fs.mapM (λ F=>(do pure (F.offset,← Go.sizeOf F.type):Sem (Nat×Nat)))).run P w=.ok pl.toArray w:=by
    rw [← Array.toArray_toList (xs:=fs),List.mapM_toArray]
    have:=Qkp (P:=P) (w:=w) hm
    rw [map_eq_pure_bind,Sem.run_bind,this];rfl
  simp only [Instr.build,Sem.run_bind,hzv,Result.andThen_ok,run_underlying hu,hpm]
  have e1:z.cells.toList.toArray=z.cells:=by simp
  rw [e1] at h1
  simp only [List.map_toArray]
  rw [h1]
  rfl
theorem OpS.build {z:Value} {sz by_:Nat} {pl:List (Nat×Nat)} {ps:List (Nat×Operand)} (h:St e w Γ Ω) (hpl:PL C.P T pl) (ti:TI C.P T z sz by_) (hz:Zr r z.cells.toList x) (ha:r.agg=true) (hg:gd ops L g=some true) (hd:Nat.blt d C.fn.ntmps=true)
    (hb:Bld L e.w.heap.size Γ f r pl ps x x') (K:∀ u,St e w ((f,.val r u x')::Γ) Ω→Z ((d,u)::L) w):OpS C ops ⟨some d,.build T ps.toArray,t,p,af,g⟩ L w Z:=by
  obtain ⟨S,G,I,hs,ho⟩:=h
  obtain ⟨cs,hrun,hr⟩:=Qvj hpl ti hz hs hb (λ o=>(ev L o).getD undef) (λ o v h=>by simp [h])
  have hsame:∀ a:Act,Agree C.fn.ntmps L a→(ps.toArray.map λ q=>(q.1,a.eval q.2))=(ps.toArray.map λ q=>(q.1,(ev L q.2).getD undef)):=by
    intro a hac
    have:∀ (ps:List (Nat×Operand)) (x x':α),Bld L e.w.heap.size Γ f r pl ps x x'→ps.map (λ q=>(q.1,a.eval q.2))=ps.map (λ q=>(q.1,(ev L q.2).getD undef)):=by
      intro ps x x' h
      induction h with
      | nil=>rfl
      | cons _ _ h _ _ ih=>simp only [List.map_cons,ih,hac.ev h,h,Option.getD_some]
    have h2:=this ps x x' hb
    simp only [List.map_toArray,h2]
  refine OpS.val (v:=.agg cs.toArray) (w':=w) hg rfl hd (λ ac hac=>?_) (K _ ⟨S,G,I,⟨?_,hs⟩,ho⟩)
  · simp only [execOp,hsame ac hac,Sem.run_bind,hrun,Result.andThen_ok,Sem.run_pure]
  · show r.val _ _ _ _
    unfold Rep.val;rw [ha];exact ⟨cs,rfl,hr⟩
theorem Qhk {P:Program} {U:TypeId} (hU:Ty P U fr) {cs:List Value} {off:Nat} (hfit:off+fr.n≤cs.length) (w:World):(part U cs.toArray off).run P w=.ok (fr.pack ((cs.drop off).take fr.n)) w:=by
  unfold part
  simp only [Sem.run_bind,hU.isAgg,Result.andThen_ok]
  cases ha:fr.agg with
  | true =>
    simp only [if_true,Sem.run_bind,hU.size,Result.andThen_ok,Sem.run_pure,Rep.pack,ha]
    congr 2
    apply Array.toList_inj.1
    simp [Nat.add_comm off]
  | false =>
    have h1:=hU.fl ha
    rw [h1] at hfit
    have hlt:off<cs.length:=by omega
    simp [hlt,Rep.pack,ha,h1]
    rw [List.drop_eq_getElem_cons hlt]
    rfl
theorem OpS.elem {a b:Operand} {v:Value} {m:Nat} {E:TypeId} {q:IntKind} {n:Int} {xs:List α} (h:St e w Γ Ω) (ht:C.P.underlying T=some (.array m E)) (hE:Ty C.P E r) (hg:gd ops L g=some true) (hd:Nat.blt d C.fn.ntmps=true) (hx:ev L a=some v) (hi:ev L b=some (.int q n))
    (hv:V e.w.heap.size Γ f (r.arr m) v xs) (hn:idx xs n=some x) (K:∀ u,St e w ((f,.val r u x)::Γ) Ω→Z ((d,u)::L) w):OpS C ops ⟨some d,.index T a b,t,p,af,g⟩ L w Z:=by
  obtain ⟨S,G,I,hs,ho⟩:=h
  obtain ⟨cs,rfl,hl,he⟩:=hv S w hs
  obtain ⟨h0,h1,h2⟩:=Qfe hn
  obtain ⟨hfit,hr⟩:=Get.arr (m:=m) (r:=r) hn (S:=fl f e.w.heap.size S) (w:=w) (cs:=cs) ⟨hl,he⟩
  have hcl:cs.length=(r.arr m).n:=(r.arr m).len (S:=fl f e.w.heap.size S) (w:=w) (x:=xs) ⟨hl,he⟩
  refine OpS.val hg rfl hd (λ ac hac=>?_) (K (r.pack ((cs.drop (n.toNat*r.n)).take r.n)) ⟨S,G,I,⟨Rep.val_pack hE.fl hr,hs⟩,ho⟩)
  have h1':n<(m:Int):=by rw [← hl];exact h1
  simp [execOp,hac.ev hx,hac.ev hi,Instr.index,asIntOf,run_underlying ht,h0,h1',hE.size,Qhk hE (by omega:n.toNat*r.n+r.n≤cs.length)]
theorem OpS.elemi {a b:Operand} {v:Value} {m:Nat} {E:TypeId} {q qk:IntKind} {n z:Int} {xs:List Int} (h:St e w Γ Ω) (ht:C.P.underlying T=some (.array m E)) (hE:Ty C.P E (.int qk)) (hg:gd ops L g=some true) (hd:Nat.blt d C.fn.ntmps=true) (hx:ev L a=some v) (hi:ev L b=some (.int q n))
    (hv:V e.w.heap.size Γ f ((Rep.int qk).arr m) v xs) (hn:idx xs n=some z) (K:Z ((d,.int qk z)::L) w):OpS C ops ⟨some d,.index T a b,t,p,af,g⟩ L w Z :=
  OpS.elem h ht hE hg hd hx hi hv hn (λ u hu=>by rw [St.int_eq hu];exact K)
theorem run_app {P:Program} {U E:TypeId} {z s v:Value} {by_:Nat} {l1 l2:List α} {xs:List Value} {S:Blks} (ht:P.underlying T=some (.slice E)) (ti:TI P E z r.n by_) (hzl:z.cells.size=r.n) (hpos:Nat.blt 0 r.n=true) (hby:Nat.blt 0 by_=true)
    (hown:w.ownsRow 0 E r.n s l1.length xs) (hv:r.slice.val S w v l2) (hb:(l1.length+l2.length)*by_≤140737488355328) :
    ∃ v' w' news,(Builtin.append_ #[T,T] U #[s,v]).run P w=.ok v' w'∧w'.ownsRow 0 E r.n v' (l1.length+l2.length) (xs++news)∧w.grownBy w' s.ownBlock∧Elems r S w news l2 ∧
      (∀ b,v'.ownBlock=some b→s.ownBlock=some b∨(w.heap.size≤b∧b<w'.heap.size)):=by
  obtain ⟨i,hi,hz,hs,hby2⟩:=ti
  have hpos':0<r.n:=by simpa [Nat.blt_eq] using hpos
  have hby':0<by_:=by simpa [Nat.blt_eq] using hby
  have hlen:l1.length+l2.length≤140737488355328:=Nat.le_trans (Nat.le_mul_of_pos_right _ hby') hb
  obtain ⟨pa,cap,e1,hlc,hcm,hcells⟩:=hv
  simp only [List.cons.injEq,and_true] at e1
  subst e1
  by_cases hl2:l2=[]
  · subst hl2
    refine ⟨s,w,[],?_,by simpa using hown,⟨rfl,rfl,rfl,Nat.le_refl _,λ _ _ _=>rfl⟩,rfl,λ b hb=>.inl hb⟩
    rcases hown.2 with ⟨rfl,hn⟩ | ⟨g,c,cur,rfl,_,hg,hnc,hcm2,hcs,htake⟩
    · cases pa<;>simp [Builtin.append_,run_underlying ht,Go.sizeOf,typeInfo,hi,Builtin.lenOf,Builtin.firstCells,loadCells,loadCellsFrom]
    · cases pa<;>simp [Builtin.append_,run_underlying ht,Go.sizeOf,typeInfo,hi,Builtin.lenOf,Builtin.firstCells,loadCells,loadCellsFrom,hnc,storeCells]
  · obtain ⟨b,o,cells,rfl,hSb,hc,hel⟩:=hcells hl2
    have hnews:∀ j u,cells[j]?=some u→w.cell? ((⟨b,o,none⟩:Addr).add j)=some u:=λ j u hj=>by rw [Qaj];exact hc j u hj
    have hcl:=hel.len
    have h63:l1.length+l2.length≤maxLen:=by simp only [maxLen];omega
    have hzs:z.cells.size=r.n:=hzl
    obtain ⟨v',w',hr,h2,h3,h4⟩:=run_append_own (P:=P) w 0 T U E i z r.n by_ ht hi hz hs hby2 hzs hpos' s l1.length xs hown ⟨b,o,none⟩ l2.length cap cells hcl hnews hel.one h63 hb (Nat.zero_le _)
    refine ⟨v',w',cells,hr,h2,h3,hel,λ c hc2=>?_⟩
    have hlt:=(h2.lt c hc2).2
    rcases hown.2 with ⟨rfl,hn⟩ | ⟨g,cp,cur,rfl,_,hg,hnc,hcm2,hcs,htake⟩
    · -- a nil slice: the array is new
      have hx:xs=[]:=List.eq_nil_of_length_eq_zero (by rw [hown.1,hn];simp)
      subst hx
      have h0:0<l2.length:=by cases l2 with | nil=>exact absurd rfl hl2 | cons _ _=>simp
      have hr2:=run_append_nil (P:=P) w T U E i z ht hi hz ⟨b,o,none⟩ l2.length cap cells (by rw [hs];exact hcl) hnews h0 (by omega) (by rw [hby2];rw [hn,Nat.zero_add] at hb;omega)
      rw [hr] at hr2
      simp only [Result.ok.injEq] at hr2
      rw [hr2.1] at hc2
      simp [Value.ownBlock] at hc2
      exact .inr ⟨by omega,hlt⟩
    · by_cases hroom:l1.length+l2.length≤cp
      · have hfit:l1.length*i.size+cells.length≤cur.size:=by rw [hs,hcl,hcs,← Nat.add_mul];exact Nat.mul_le_mul_right _ hroom
        have hr2:=run_append_room (P:=P) w T U E i ht hi g l1.length cp cur hg ⟨b,o,none⟩ l2.length cap cells (by rw [hs];exact hcl) hnews hel.one hroom hfit
        rw [hr] at hr2
        simp only [Result.ok.injEq] at hr2
        rw [hr2.1] at hc2
        simp [Value.ownBlock] at hc2
        exact .inl (by simp [Value.ownBlock,hc2])
      · have holds:∀ j u,xs[j]?=some u→w.cell? ((⟨g,0,none⟩:Addr).add j)=some u:=hown.cells (g:=g) rfl
        have hr2:=run_append_grow (P:=P) w T U E i z ht hi hz ⟨g,0,none⟩ l1.length cp xs (by rw [hs];exact hown.1) holds ⟨b,o,none⟩ l2.length cap cells (by rw [hs];exact hcl) hnews (by omega) (by omega) (growslice_fits (by omega) (by rw [hby2];exact hb))
        rw [hr] at hr2
        simp only [Result.ok.injEq] at hr2
        rw [hr2.1] at hc2
        simp [Value.ownBlock] at hc2
        exact .inr ⟨by omega,hlt⟩
theorem OpS.app {a b : Operand} {E : TypeId} {z s v : Value} {by_ : Nat} {l1 l2 l3 : List α} {f' : Bool} (h : St e w Γ Ω) (hp : Pick Ω (f, .slice E r s l1) Ω') (ht : C.P.underlying T = some (.slice E)) (ti : TI C.P E z r.n by_) (hzl : z.cells.size = r.n) (hpos : Nat.blt 0 r.n = true) (hby : Nat.blt 0 by_ = true)
    (hg:gd ops L g=some true) (hd:Nat.blt d C.fn.ntmps=true) (hx:ev L a=some s) (hy:ev L b=some v) (hv:V e.w.heap.size Γ f' r.slice v l2) (hf:(f'=true∨f=false)∨Pure r) (hap:Lift.app by_ l1 l2=some l3)
    (K : ∀ u w', St e w' Γ ((f, .slice E r u l3) :: Ω') → Z ((d, u) :: L) w') : OpS C ops ⟨some d, .call ⟨.builtin .append, #[a, b], #[T, T]⟩, t, p, af, g⟩ L w Z := by
  obtain ⟨hb,rfl⟩:=Qwm hap
  have h1:=h.pick hp
  obtain ⟨S,G,I,hs,G1,G2,k1,k2,k3,⟨xs,hown,hel,hG⟩,k5⟩:=h1
  obtain ⟨v',w',news,hrun,ho2,hgr,hnews,hblk⟩:=run_app (U:=t) ht ti hzl hpos hby hown (hv S w hs) hb
  have hnews':Elems r (fl f e.w.heap.size S) w news l2:=by
    rcases hf with (rfl | rfl) | hp
    · exact hnews.stab (λ b hb=>⟨hb.1,λ _=>hb.2 rfl⟩) (λ _ _=>rfl)
    · exact hnews.stab (λ b hb=>⟨hb.1,λ h=>by cases h⟩) (λ _ _=>rfl)
    · exact hp.elems hnews
  have hkeep:∀ c,c<w.heap.size→¬ G1 c→w'.heap[c]?=w.heap[c]?:=λ c hc hn=>hgr.block c hc (λ h=>hn ((hG c).2 h.symm))
  have hS:∀ c,fl f e.w.heap.size S c→w'.heap[c]?=w.heap[c]?:=λ c hc=>hkeep c (I.sb c hc.1) (λ h=>I.dis c hc.1 ((k1 c).2 (.inl h)))
  have hst : St e w' Γ ((f, .slice E r v' (l1 ++ l2)) :: Ω') := by
    have hG1':∀ c,v'.ownBlock=some c→G1 c∨(w.heap.size≤c∧c<w'.heap.size):=λ c hc=>(hblk c hc).imp (λ h=>(hG c).2 h) id
    have kS:∀ c,S c→w'.heap[c]?=w.heap[c]?:=λ c hc=>hkeep c (I.sb c hc) (λ h=>I.dis c hc ((k1 c).2 (.inl h)))
    have kG:∀ c,G2 c→w'.heap[c]?=w.heap[c]?:=λ c hc=>hkeep c (I.gb c ((k1 c).2 (.inr hc))) (λ h=>k2 c h hc)
    refine ⟨S,λ c=>v'.ownBlock=some c∨G2 c,⟨⟨hgr.os.trans I.step.os,hgr.tape.trans I.step.tape,hgr.output.trans I.step.output,Nat.le_trans I.step.size hgr.size,λ c hc hn=>?_⟩,λ c hc=>Nat.lt_of_lt_of_le (I.sb c hc) hgr.size,?_,?_,I.s0,?_⟩,
      hs.st (λ _ h=>h) kS,λ c=>v'.ownBlock=some c,G2,λ _=>Iff.rfl,?_,?_,⟨xs++news,by rw [List.length_append];exact ho2,Elems.append (hnews'.stab (λ _ h=>h) hS) (hel.stab (λ _ h=>h) hS),λ _=>Iff.rfl⟩,k5.st (λ _ h=>h) kS kG⟩
    · rw [hkeep c (Nat.lt_of_lt_of_le hc I.step.size) (λ h=>?_)]
      · exact I.step.block c hc hn
      · rcases I.g0 c ((k1 c).2 (.inl h)) with h | h
        · exact hn h
        · omega
    · rintro c (hc | hc)
      · rcases hG1' c hc with h | h
        · exact Nat.lt_of_lt_of_le (I.gb c ((k1 c).2 (.inl h))) hgr.size
        · exact h.2
      · exact Nat.lt_of_lt_of_le (I.gb c ((k1 c).2 (.inr hc))) hgr.size
    · rintro c hc (hn | hn)
      · rcases hG1' c hn with h | h
        · exact I.dis c hc ((k1 c).2 (.inl h))
        · have:=I.sb c hc;omega
      · exact I.dis c hc ((k1 c).2 (.inr hn))
    · rintro c (hc | hc)
      · rcases hG1' c hc with h | h
        · exact I.g0 c ((k1 c).2 (.inl h))
        · exact .inr (Nat.le_trans I.step.size h.1)
      · exact I.g0 c ((k1 c).2 (.inr hc))
    · intro c hc hn
      rcases hG1' c hc with h | h
      · exact k2 c h hn
      · have:=I.gb c ((k1 c).2 (.inr hn));omega
    · intro c hf hc
      rcases hG1' c hc with h | h
      · exact k3 c hf h
      · exact Nat.le_trans I.step.size h.1
  exact OpS.val hg rfl hd (λ ac hac=>by simp [execOp,resolve,invoke,builtin,hac.ev hx,hac.ev hy,hrun]) (K _ _ hst)
end
end Lift
