import Derived.Test.YtahlmfpllhmjoaaGreatDoorLiftF
set_option linter.unusedVariables false
set_option linter.unusedSimpArgs false
namespace Lift
open Go
def Pure {α:Type} (r:Rep α):Prop:=∀ {S S':Blks} {w w':World} {cs:List Value} {x:α},r.rel S w cs x→r.rel S' w' cs x
theorem Pure.int {q:IntKind}:Pure (.int q):=λ h=>h
theorem Pure.bool:Pure .bool:=λ h=>h
theorem Pure.unit:Pure .unit:=λ h=>h
theorem Pure.prod {α β:Type} {r:Rep α} {s:Rep β} (h:Pure r) (k:Pure s):Pure (r.prod s):=λ ⟨c,d,e,h1,h2⟩=>⟨c,d,e,h h1,k h2⟩
theorem Pure.iso {α β:Type} {r:Rep α} {f:β→α} (h:Pure r):Pure (r.iso f):=λ hr=>h (by exact hr)
theorem Pure.elems {α:Type} {r:Rep α} (h:Pure r) {S S':Blks} {w w':World}:∀ {l:List α} {cs:List Value},Elems r S w cs l→Elems r S' w' cs l
  | [],_,k=>k
  | _::_,_,⟨c,rest,e,h1,h2⟩=>⟨c,rest,e,h h1,Pure.elems h h2⟩
theorem Pure.arr {α:Type} {r:Rep α} {m:Nat} (h:Pure r):Pure (r.arr m):=λ ⟨a,b⟩=>⟨a,h.elems b⟩
theorem Qrl (z:List Value) (n:Nat) (hz:0<z.length):(madeCells z.toArray (n*z.length)).toList=(List.replicate n z).flatten:=by
  unfold madeCells
  apply List.ext_getElem?
  intro i
  induction n generalizing i with
  | zero=>simp
  | succ n ih =>
    rw [List.replicate_succ,List.flatten_cons]
    by_cases hi:i<z.length
    · rw [List.getElem?_append_left hi]
      have h2:i<(n+1)*z.length:=Nat.lt_of_lt_of_le hi (Nat.le_mul_of_pos_left _ (by omega))
      simp [Array.getElem?_map,h2,Nat.mod_eq_of_lt hi,hi]
    · rw [List.getElem?_append_right (by omega),← ih (i-z.length)]
      have hm:i % z.length=(i-z.length) % z.length:=by rw [← Nat.mod_eq_sub_mod (by omega)]
      by_cases h2:i<(n+1)*z.length
      · have h3:i-z.length<n*z.length:=by rw [Nat.add_mul] at h2;omega
        simp [Array.getElem?_map,h2,h3,hm]
      · have h3:¬ i-z.length<n*z.length:=by rw [Nat.add_mul] at h2;omega
        simp [Array.getElem?_map,h2,h3]
section
variable {C:Cx} {L:List (Nat×Value)} {w:World} {ops:Array Oper} {Z:List (Nat×Value)→World→Prop} {d:Nat} {t T:TypeId} {p:String} {af:Array Edge} {g:Option (Nat×Bool)}
variable {e : En} {Γ : List (Bool × Atom)} {Ω Ω' : List (Bool × HAtom)} {f : Bool} {α β : Type} {r : Rep α} {fr : Rep β} {x : α} {y : β}
theorem OpS.make {a b:Operand} {q1 q2:IntKind} {m n:Int} {E:TypeId} {z:Value} {sz by_:Nat} {xs:List α} (h:St e w Γ Ω) (ht:C.P.underlying T=some (.slice E)) (ti:TI C.P E z sz by_) (hsz:sz=r.n) (hpos:Nat.blt 0 r.n=true) (hzr:Zr r z.cells.toList x) (hg:gd ops L g=some true) (hd:Nat.blt d C.fn.ntmps=true)
    (hx:ev L a=some (.int q1 m)) (hy:ev L b=some (.int q2 n)) (hm:mk by_ x m=some xs) (hmn:decide (m≤n)=true) (hn:decide (n.toNat*by_≤140737488355328)=true) (hby:Nat.blt 0 by_=true)
    (K:∀ u w',St e w' Γ ((true,.slice E r u xs)::Ω)→Z ((d,u)::L) w'):OpS C ops ⟨some d,.makeSlice T a b,t,p,af,g⟩ L w Z:=by
  obtain ⟨i,hi,hz,hs,hb⟩:=ti
  obtain ⟨h0,_,rfl⟩:=Qsy hm
  have hmn':m≤n:=by simpa using hmn
  have hn':n.toNat*by_≤140737488355328:=by simpa using hn
  have hby':0<by_:=by simpa [Nat.blt_eq] using hby
  have hpos':0<r.n:=by simpa [Nat.blt_eq] using hpos
  have hn1:n.toNat≤140737488355328:=Nat.le_trans (Nat.le_mul_of_pos_right _ hby') hn'
  have hbytes:(i.bytes:Int)*n≤281474976710656:=by
    have h2:((n.toNat*by_:Nat):Int)≤140737488355328:=by omega
    rw [hb,Int.mul_comm]
    have e1:n=((n.toNat:Nat):Int):=by omega
    rw [e1,← Int.natCast_mul];omega
  have hrun:=run_make (P:=C.P) w T E i z ht hi hz q1 q2 m n h0 hmn' hbytes (by omega)
  have hzl:z.cells.size=r.n:=by have:=r.len (hzr (λ _=>True) w);simpa using this
  have hcl:(madeCells z.cells (n.toNat*i.size)).toList=(List.replicate n.toNat z.cells.toList).flatten:=by
    have h2:=Qrl z.cells.toList n.toNat (by simp [hzl];omega)
    rw [hs,hsz]
    simpa [hzl] using h2
  refine OpS.val (v:=.slice (some ⟨w.heap.size,0,none⟩) m.toNat n.toNat) (w':=w.alloc (.cells (madeCells z.cells (n.toNat*i.size)) E)) hg rfl hd (λ ac hac=>by simp [execOp,hac.ev hx,hac.ev hy,hrun]) (K _ _ (h.alloc (λ S _ _=>?_)))
  refine ⟨(List.replicate m.toNat z.cells.toList).flatten,⟨?_,.inr ⟨w.heap.size,n.toNat,_,by simp,Nat.zero_le _,heap_alloc_new w _,?_,?_,?_,?_⟩⟩,by simpa using hzr.elems _ _ m.toNat,λ b=>by simp [Value.ownBlock,eq_comm]⟩
  · simp [hzl]
  · simp;omega
  · simp only [maxLen];omega
  · simp [size_madeCells,hs,hsz]
  · rw [hcl]
    simp only [List.length_replicate]
    have e2:n.toNat=m.toNat+(n.toNat-m.toNat):=by omega
    rw [e2,← List.replicate_append_replicate,List.flatten_append]
    have e3:((List.replicate m.toNat z.cells.toList).flatten).length=m.toNat*r.n:=by simp [hzl]
    rw [← e3,List.take_left]
inductive Els (L:List (Nat×Value)) (B:Nat) (Γ:List (Bool×Atom)) (f:Bool) (r:Rep α):Nat→List (Nat×Operand)→List α→Prop
  | nil {i:Nat}:Els L B Γ f r i [] []
  | cons {i:Nat} {o:Operand} {v:Value} {x:α} {ps:List (Nat×Operand)} {xs:List α} (h:Lift.ev L o=some v) (hv:V B Γ f r v x) (K:Els L B Γ f r (i+1) ps xs):Els L B Γ f r i ((i,o)::ps) (x::xs)
theorem Qkn:∀ (vs:List Value) (off:Nat) (cs:Array Value),off+vs.length≤cs.size →
    (vs.toArray.zipIdx.foldl (λ cs (p:Value×Nat)=>cs.setIfInBounds (off+p.2) p.1) cs).toList=cs.toList.take off++vs++cs.toList.drop (off+vs.length):=by
  have key:∀ (vs:List Value) (n off:Nat) (cs:Array Value),off+n+vs.length≤cs.size →
      ((vs.zipIdx n).foldl (λ cs (p:Value×Nat)=>cs.setIfInBounds (off+p.2) p.1) cs).toList=cs.toList.take (off+n)++vs++cs.toList.drop (off+n+vs.length):=by
    intro vs
    induction vs with
    | nil=>intro n off cs h;simp
    | cons v r ih =>
      intro n off cs h
      simp only [List.zipIdx_cons,List.foldl_cons]
      rw [ih (n+1) off _ (by simp at h ⊢;omega)]
      simp only [Array.toList_setIfInBounds]
      simp at h
      have e1:off+(n+1)=(off+n)+1:=by omega
      rw [e1]
      apply List.ext_getElem?
      intro i
      simp only [List.getElem?_append,List.getElem?_take,List.getElem?_drop,List.getElem?_set,List.length_append,List.length_take,List.length_set,List.length_cons,Array.length_toList]
      have m1:min (off+n+1) cs.size=off+n+1:=by omega
      have m2:min (off+n) cs.size=off+n:=by omega
      simp only [m1,m2]
      by_cases c1:i<off+n
      · have:i<off+n+1:=by omega
        have:i<off+n+1+r.length:=by omega
        have:i<off+n+(r.length+1):=by omega
        have:¬ off+n=i:=by omega
        simp [*]
      · by_cases c2:i=off+n
        · subst c2
          have a1:off+n<cs.size:=by omega
          have a2:¬ off+n+1+r.length≤off+n:=by omega
          simp [a1,a2]
        · by_cases c3:i<off+n+1+r.length
          · have a1:¬ i<off+n+1:=by omega
            have a2:i<off+n+(r.length+1):=by omega
            have a3:i-(off+n)=(i-(off+n+1))+1:=by omega
            simp [c1,c3,a1,a2,a3]
          · have a1:¬ i<off+n+1:=by omega
            have a2:¬ i<off+n+(r.length+1):=by omega
            have a3:off+n+1+r.length+(i-(off+n+1+r.length))=i:=by omega
            have a4:off+n+(r.length+1)+(i-(off+n+(r.length+1)))=i:=by omega
            have a5:¬ off+n=i:=by omega
            simp [c1,c3,a1,a2,a3,a4,a5]
  intro vs off cs h
  have:=key vs 0 off cs (by simpa using h)
  simpa using this
theorem Qrb {B:Nat} {S:Blks} {w:World} (hs:Sat B S w Γ):∀ {i:Nat} {ps:List (Nat×Operand)} {xs:List α},Els L B Γ f r i ps xs→∀ (ρ:Operand→Value),(∀ o v,ev L o=some v→ρ o=v) →
    ∀ (pre post:List Value),pre.length=i*r.n→post.length=xs.length*r.n →
    ∃ cs,Instr.fill (λ i=>some (i*r.n,r.n)) (pre++post).toArray (ps.map λ q=>(q.1,ρ q.2))=some (pre++cs).toArray∧Elems r (fl f B S) w cs xs:=by
  intro i ps xs h
  induction h with
  | nil =>
    intro ρ _ pre post _ hp
    have:post=[]:=List.eq_nil_of_length_eq_zero (by simpa using hp)
    subst this
    exact ⟨[],by simp [Instr.fill],rfl⟩
  | @cons i o v x ps xs h hv _ ih =>
    intro ρ hρ pre post hpre hpost
    have hval:=Rep.val_cells (hv S w hs)
    have hl:v.cells.toList.length=r.n:=r.len hval
    have hsz:v.cells.size=r.n:=by simpa using hl
    simp only [List.length_cons,Nat.add_mul] at hpost
    obtain ⟨cs,h1,h2⟩:=ih ρ hρ (pre++v.cells.toList) (post.drop r.n) (by rw [List.length_append,hpre,hl,Nat.add_mul];omega) (by simp;omega)
    refine ⟨v.cells.toList++cs,?_,v.cells.toList,cs,rfl,hval,h2⟩
    simp only [List.map_cons,Instr.fill,hρ o v h,hsz]
    have c1:¬ (decide (r.n≠r.n)||decide (i*r.n+r.n>(pre++post).toArray.size))=true:=by simp;omega
    rw [if_neg c1]
    have hfs:=Qkn v.cells.toList (i*r.n) (pre++post).toArray (by simp;omega)
    have e1:(v.cells.zipIdx.foldl (λ cs (p:Value×Nat)=>cs.setIfInBounds (i*r.n+p.2) p.1) (pre++post).toArray)=((pre++v.cells.toList)++post.drop r.n).toArray:=by
      apply Array.toList_inj.1
      rw [← hpre,List.take_left,hpre,hl] at hfs
      simp only [List.toList_toArray] at hfs ⊢
      rw [show v.cells.toList.toArray=v.cells from by simp] at hfs
      rw [hfs,← hpre,List.drop_length_add_append]
    rw [show (λ (cs:Array Value) (x:Value×Nat)=>match x with | (c,j)=>cs.setIfInBounds (i*r.n+j) c)=(λ cs (p:Value×Nat)=>cs.setIfInBounds (i*r.n+p.2) p.1) from rfl,e1]
    simpa using h1
theorem Qkl {P:Program} {E:TypeId} {z:Value} {sz by_ n:Nat} {ps:List (Nat×Operand)} {xs:List α} {S:Blks} {B:Nat} (ht:P.underlying T=some (.slice E)) (ti:TI P E z sz by_) (hsz:sz=r.n) (hpos:Nat.blt 0 r.n=true) (hzl:z.cells.size=r.n) (hs:Sat B S w Γ)
    (he:Els L B Γ f r 0 ps xs) (hn:xs.length=n) (h24:Nat.ble (n*r.n) 16777216=true) (ρ:Operand→Value) (hρ:∀ o v,ev L o=some v→ρ o=v) :
    ∃ cs:List Value,(Instr.buildSlice T n (ps.toArray.map λ q=>(q.1,ρ q.2))).run P w=.ok (.slice (some ⟨w.heap.size,0,none⟩) n n) (w.alloc (.cells cs.toArray E))∧Elems r (fl f B S) w cs xs:=by
  have hpos':0<r.n:=by simpa [Nat.blt_eq] using hpos
  have h24':n*r.n≤16777216:=by simpa using h24
  obtain ⟨cs,h1,h2⟩:=Qrb hs he ρ hρ [] ((Array.range (n*r.n)).map (λ i=>z.cells[i % z.cells.size]!)).toList (by simp) (by simp [hn])
  refine ⟨cs,?_,h2⟩
  simp only [List.nil_append,Array.toArray_toList] at h1
  have hsize:=Qkw ti w
  have hzv:=Qcz ti w
  rw [hsz] at hsize
  by_cases h0:n*r.n=0
  · have hn0:n=0:=by rcases Nat.mul_eq_zero.1 h0 with h | h<;>omega
    subst hn0
    have hxs:xs=[]:=List.eq_nil_of_length_eq_zero hn
    subst hxs
    cases he
    simp only [Elems] at h2
    subst h2
    simp [Instr.buildSlice,run_underlying ht,hsize,Instr.fill,newRow,newObj,Sem.run,Array.range_zero']
  · have c1:¬ n*r.n>16777216:=by omega
    simp [Instr.buildSlice,run_underlying ht,hsize,hzv,h0,c1,h1,newRow,newObj,Sem.run]
theorem OpS.lit {E:TypeId} {z:Value} {sz by_ n:Nat} {ps:List (Nat×Operand)} {xs:List α} (h:St e w Γ Ω) (ht:C.P.underlying T=some (.slice E)) (ti:TI C.P E z sz by_) (hsz:sz=r.n) (hpos:Nat.blt 0 r.n=true) (hzl:z.cells.size=r.n) (hg:gd ops L g=some true) (hd:Nat.blt d C.fn.ntmps=true)
    (he:Els L e.w.heap.size Γ f r 0 ps xs) (hn:xs.length=n) (h24:Nat.ble (n*r.n) 16777216=true)
    (K:∀ u w',St e w' ((f,.val r.slice u xs)::Γ) Ω→Z ((d,u)::L) w'):OpS C ops ⟨some d,.buildSlice T n ps.toArray,t,p,af,g⟩ L w Z:=by
  obtain ⟨S,G,I,hs,ho⟩:=h
  have h24':n*r.n≤16777216:=by simpa using h24
  have hpos':0<r.n:=by simpa [Nat.blt_eq] using hpos
  -- the same cells whatever the frame: the operation's value and world are fixed by one run
  obtain ⟨cs,hrun,hel⟩:=Qkl (P:=C.P) ht ti hsz hpos hzl hs he hn h24 (λ o=>(ev L o).getD undef) (λ o v h=>by simp [h])
  have hsame:∀ a:Act,Agree C.fn.ntmps L a→(ps.toArray.map λ q=>(q.1,a.eval q.2))=(ps.toArray.map λ q=>(q.1,(ev L q.2).getD undef)):=by
    intro a ha
    have:∀ (i:Nat) (ps:List (Nat×Operand)) (xs:List α),Els L e.w.heap.size Γ f r i ps xs→ps.map (λ q=>(q.1,a.eval q.2))=ps.map (λ q=>(q.1,(ev L q.2).getD undef)):=by
      intro i ps xs h
      induction h with
      | nil=>rfl
      | cons h _ _ ih=>simp only [List.map_cons,ih,ha.ev h,h,Option.getD_some]
    have h2:=this 0 ps xs he
    simp only [List.map_toArray,h2]
  have hsub:∀ b,S b→b=w.heap.size∨S b:=λ b hb=>.inr hb
  refine OpS.val (v:=.slice (some ⟨w.heap.size,0,none⟩) n n) (w':=w.alloc (.cells cs.toArray E)) hg rfl hd (λ ac hac=>?_) (K _ _ ⟨λ b=>b=w.heap.size∨S b,G,⟨(I.alloc _).step,?_,λ b hb=>by have:=I.gb b hb;simp;omega,?_,?_,I.g0⟩,⟨?_,hs.st hsub (λ b hb=>I.old _ (.inl hb))⟩,ho.st hsub (λ b hb=>I.old _ (.inl hb)) (λ b hb=>I.old _ (.inr hb))⟩)
  · simp only [execOp,hsame ac hac,Sem.run_bind,hrun,Result.andThen_ok,Sem.run_pure]
  · rintro b (rfl | hb)
    · simp
    · have:=I.sb b hb;simp;omega
  · rintro b (rfl | hb) hg
    · exact absurd (I.gb _ hg) (Nat.lt_irrefl _)
    · exact I.dis b hb hg
  · rintro b (rfl | hb)
    · exact .inr (.inr I.step.size)
    · exact I.s0 b hb
  · refine ⟨some ⟨w.heap.size,0,none⟩,n,by simp [hn],by omega,by simp only [maxLen];have:=Nat.le_mul_of_pos_right n hpos';omega,λ _=>⟨w.heap.size,0,cs,rfl,⟨.inl rfl,λ _=>I.step.size⟩,?_,?_⟩⟩
    · intro i v hi
      rw [Nat.zero_add,cell_of_row _ w.heap.size i cs.toArray E (0,0) (heap_alloc_new w _)]
      simpa using hi
    · exact hel.stab (fl.mono hsub) (λ b hb=>I.old _ (.inl hb.1))
theorem OpS.litO {E:TypeId} {z:Value} {sz by_ n:Nat} {ps:List (Nat×Operand)} {xs:List α} (h:St e w Γ Ω) (ht:C.P.underlying T=some (.slice E)) (ti:TI C.P E z sz by_) (hsz:sz=r.n) (hpos:Nat.blt 0 r.n=true) (hzl:z.cells.size=r.n) (hg:gd ops L g=some true) (hd:Nat.blt d C.fn.ntmps=true)
    (he:Els L e.w.heap.size Γ f r 0 ps xs) (hn:xs.length=n) (h24:Nat.ble (n*r.n) 16777216=true)
    (K:∀ u w',St e w' Γ ((f,.slice E r u xs)::Ω)→Z ((d,u)::L) w'):OpS C ops ⟨some d,.buildSlice T n ps.toArray,t,p,af,g⟩ L w Z:=by
  obtain ⟨S,G,I,hs,ho⟩:=h
  have h24':n*r.n≤16777216:=by simpa using h24
  have hpos':0<r.n:=by simpa [Nat.blt_eq] using hpos
  obtain ⟨cs,hrun,hel⟩:=Qkl (P:=C.P) ht ti hsz hpos hzl hs he hn h24 (λ o=>(ev L o).getD undef) (λ o v h=>by simp [h])
  have hsame:∀ a:Act,Agree C.fn.ntmps L a→(ps.toArray.map λ q=>(q.1,a.eval q.2))=(ps.toArray.map λ q=>(q.1,(ev L q.2).getD undef)):=by
    intro a ha
    have:∀ (i:Nat) (ps:List (Nat×Operand)) (xs:List α),Els L e.w.heap.size Γ f r i ps xs→ps.map (λ q=>(q.1,a.eval q.2))=ps.map (λ q=>(q.1,(ev L q.2).getD undef)):=by
      intro i ps xs h
      induction h with
      | nil=>rfl
      | cons h _ _ ih=>simp only [List.map_cons,ih,ha.ev h,h,Option.getD_some]
    have h2:=this 0 ps xs he
    simp only [List.map_toArray,h2]
  refine OpS.val (v:=.slice (some ⟨w.heap.size,0,none⟩) n n) (w':=w.alloc (.cells cs.toArray E)) hg rfl hd (λ ac hac=>?_) (K _ _ ⟨S,_,I.alloc _,hs.st (λ _ h=>h) (λ b hb=>I.old _ (.inl hb)),λ b=>b=w.heap.size,G,λ _=>Iff.rfl,?_,?_,?_,ho.st (λ _ h=>h) (λ b hb=>I.old _ (.inl hb)) (λ b hb=>I.old _ (.inr hb))⟩)
  · simp only [execOp,hsame ac hac,Sem.run_bind,hrun,Result.andThen_ok,Sem.run_pure]
  · intro b hb hg
    subst hb;exact absurd (I.gb _ hg) (Nat.lt_irrefl _)
  · intro b _ hb
    subst hb;exact I.step.size
  · refine ⟨cs,⟨hel.len,.inr ⟨w.heap.size,n,cs.toArray,by rw [hn],Nat.zero_le _,heap_alloc_new w _,by omega,by simp only [maxLen];have:=Nat.le_mul_of_pos_right n hpos';omega,by simp [hel.len,hn],?_⟩⟩,hel.stab (λ _ h=>h) (λ b hb=>I.old _ (.inl hb.1)),λ b=>by simp [Value.ownBlock,eq_comm]⟩
    simp only [← hel.len,List.toList_toArray,List.take_length]
end
end Lift
