import Derived.Test.YtahlmfpllhmjoaaGreatDoorLiftO
import Derived.Test.YtahlmfpllhmjoaaGreatDoorLiftT
import Derived.ArgAppend
set_option linter.unusedVariables false
set_option linter.unusedSimpArgs false
namespace Lift
open Go
def Rep.hollow {α:Type}:Rep (List α) where
  n:=1
  agg:=false
  rel:=λ _ _ cs l=>∃ p cap,cs=[.slice p l.length cap]
  len:=by intro _ _ _ _ h;obtain ⟨p,cap,rfl⟩:=h;rfl
  one:=by intro _ _ _ _ h c hc;obtain ⟨p,cap,rfl⟩:=h;simp at hc;subst hc;rfl
  stab:=λ _ _ h=>h
structure Wk {α:Type} (r:ORep α) (s:Rep α):Prop where
  n:r.n=s.n
  rel:∀ {G S:Blks} {w:World} {cs:List Value} {x:α},r.rel G S w cs x→s.rel S w cs x
theorem Wk.sh {α:Type} {r:Rep α}:Wk (sh r) r:=⟨rfl,λ h=>h.2⟩
theorem Wk.raw {α:Type} {v:Value}:Wk (Lift.raw (α:=α) v) (Rep.raw v):=⟨rfl,λ h=>h.2⟩
theorem Wk.own {α:Type} {E n:Nat} {F:Nat→ORep α}:Wk (oslice E n F) Rep.hollow:=⟨rfl,by
  rintro G S w cs x ⟨v,rfl,h⟩
  rcases h with ⟨rfl,rfl,_⟩ | ⟨g,o,cap,cur,xs,G',rfl,_⟩
  · exact ⟨none,0,rfl⟩
  · exact ⟨_,cap,rfl⟩⟩
theorem Wk.unit:Wk ounit Rep.unit:=⟨rfl,λ h=>h.2⟩
theorem Wk.prod {α β:Type} {r:ORep α} {s:ORep β} {r':Rep α} {s':Rep β} (h:Wk r r') (k:Wk s s'):Wk (oprod r s) (r'.prod s'):=⟨by simp [oprod,Rep.prod,h.n,k.n],by
  rintro G S w cs x ⟨c,d,_,_,rfl,_,h1,h2⟩
  exact ⟨c,d,rfl,h.rel h1,k.rel h2⟩⟩
theorem Wk.iso {α β:Type} {f:β→α} {r:ORep α} {s:Rep α} (h:Wk r s):Wk (oiso f r) (s.iso f):=⟨h.n,λ hr=>h.rel (by exact hr)⟩
theorem Wk.els {α:Type} {r:ORep α} {s:Rep α} (h:Wk r s) {S:Blks} {w:World}:∀ {l:List α} {G:Blks} {cs:List Value},OEls S w (λ _=>r) G cs l→Elems s S w cs l
  | [],G,cs,hh=>hh.1
  | x::l,G,cs,hh=>by
    obtain ⟨c,rest,G1,G2,e,_,h1,h2⟩:=hh
    exact ⟨c,rest,e,h.rel h1,h.els h2⟩
section
variable {e : En} {w : World} {Γ : List (Bool × Atom)} {Ω Ω' : List (Bool × HAtom)} {f : Bool}
theorem St.imp {a a':HAtom} (h:St e w Γ ((f,a)::Ω)) (k:∀ G S,a.p G S w→a'.p G S w):St e w Γ ((f,a')::Ω):=by
  obtain ⟨S,G,I,hs,G1,G2,h1,h2,h3,h4,h5⟩:=h
  exact ⟨S,G,I,hs,G1,G2,h1,h2,h3,k _ _ h4,h5⟩
theorem St.freezeG {a:HAtom} {b:Atom} (h:St e w Γ ((f,a)::Ω)) (k:∀ G S,a.p G S w→(∀ c,G c→S c)→b.p S w):St e w ((f,b)::Γ) Ω:=by
  obtain ⟨S,G,I,hs,G1,G2,h1,h2,h3,h4,h5⟩:=h
  have hsub:∀ b,S b→S b∨G1 b:=λ b hb=>.inl hb
  refine ⟨λ b=>S b∨G1 b,G2,⟨I.step,?_,λ b hb=>I.gb b ((h1 b).2 (.inr hb)),?_,?_,λ b hb=>I.g0 b ((h1 b).2 (.inr hb))⟩,⟨?_,hs.st hsub (λ _ _=>rfl)⟩,OSat.st hsub (λ _ _=>rfl) (λ _ _=>rfl) h5⟩
  · rintro b (hb | hb)
    · exact I.sb b hb
    · exact I.gb b ((h1 b).2 (.inl hb))
  · rintro b (hb | hb) hg
    · exact I.dis b hb ((h1 b).2 (.inr hg))
    · exact h2 b hb hg
  · rintro b (hb | hb)
    · exact I.s0 b hb
    · exact .inr (I.g0 b ((h1 b).2 (.inl hb)))
  · exact k _ _ (a.st (fl.mono hsub) (λ _ _=>rfl) (λ _ _=>rfl) h4) (λ b hb=>⟨.inr hb,λ hf=>h3 b hf hb⟩)
theorem St.toO {α:Type} {E:TypeId} {r:Rep α} {v:Value} {l:List α} (h:St e w Γ ((f,.slice E r v l)::Ω)):St e w Γ ((f,.oval (oslice E r.n (λ _=>sh r)) v l)::Ω):=by
  refine h.imp (λ G S hp=>oval_slice.2 ?_)
  obtain ⟨xs,hown,hel,hG⟩:=hp
  rcases hown.2 with ⟨rfl,hn⟩ | ⟨g,cap,cur,rfl,_,hg,hnc,hcm,hcs,htake⟩
  · exact .inl ⟨rfl,List.eq_nil_of_length_eq_zero hn,λ b hb=>by have:=(hG b).1 hb;simp [Value.ownBlock] at this⟩
  · refine .inr ⟨g,0,cap,cur,xs,λ _=>False,rfl,hg,hnc,hcm,by omega,by simpa using htake.symm,OEls.ofSh hel,λ h=>h,λ b=>?_⟩
    rw [hG];simp [Value.ownBlock,eq_comm]
theorem own_read {α:Type} {E:TypeId} {r:ORep α} {s:Rep α} (hw:Wk r s) {n:Nat} {v:Value} {l:List α} {G S:Blks} (h:Own E n (λ _=>r) G S w v l) (hGS:∀ b,G b→S b):s.slice.val S w v l:=by
  rcases h with ⟨rfl,rfl,_⟩ | ⟨g,o,cap,cur,xs,G',rfl,hg,hnc,hcm,hcs,rfl,hel,_,hG⟩
  · exact ⟨none,0,rfl,Nat.le_refl _,Nat.zero_le _,λ h=>absurd rfl h⟩
  · exact ⟨_,cap,rfl,hnc,hcm,λ _=>⟨g,o,_,rfl,hGS g ((hG g).2 (.inl rfl)),by have:=cellsAt_row hg o 0 (l.length*n) (l.length*n);simpa [List.take_take] using this,hw.els hel⟩⟩
theorem St.freezeD {α:Type} {E:TypeId} {r:Rep α} {n:Nat} {v:Value} {l:List α} (h:St e w Γ ((f,.oval (oslice E n (λ _=>sh r)) v l)::Ω)):St e w ((f,.val r.slice v l)::Γ) Ω :=
  h.freezeG (λ G S hp hGS=>own_read Wk.sh (oval_slice.1 hp) hGS)
theorem St.unselfD {α:Type} {E n:Nat} (i:Nat) {r:ORep α} {v:Value} {l:List α} (h:St e w Γ ((f,.oval (oslice E n (λ _=>r)) v l)::Ω)):St e w Γ ((f,.oval (oslice E n (at' (λ _=>r) i r)) v l)::Ω):=by
  rw [at_self];exact h
theorem St.nilD {α:Type} (E n:Nat) (F:Nat→ORep α) (h:St e w Γ Ω):St e w Γ ((true,.oval (oslice E n F) (.slice Option.none 0 0) [])::Ω):=by
  obtain ⟨S,G,I,hs,ho⟩:=h
  exact ⟨S,G,I,hs,λ _=>False,G,λ _=>by simp,λ _ h=>h.elim,λ _ _ h=>h.elim,oval_slice.2 (.inl ⟨rfl,rfl,λ _ h=>h⟩),ho⟩
theorem St.ownD {α : Type} {E n : Nat} {F : Nat → ORep α} {v : Value} {l : List α} (h : St e w Γ Ω) (hp : Pick Ω (f, .oval (oslice E n F) v l) Ω') : v.oneCell' = true := by
  obtain ⟨S,G,I,hs,ho⟩:=h
  obtain ⟨_,_,_,_,_,h4,_⟩:=ho.pick hp
  exact (oval_slice.1 h4).one
end
section
variable {C:Cx} {L:List (Nat×Value)} {w:World} {ops:Array Oper} {Z:List (Nat×Value)→World→Prop} {d:Nat} {t T:TypeId} {p:String} {af:Array Edge} {g:Option (Nat×Bool)}
variable {e : En} {Γ : List (Bool × Atom)} {Ω Ω' Ω'' : List (Bool × HAtom)} {f f2 : Bool} {α β : Type} {r : ORep α} {s : Rep α} {fr : Rep β} {x : α} {y : β}
theorem OpS.loadS {a : Operand} {v qv : Value} {off E n : Nat} {xs : List α} (h : St e w Γ Ω) (hp : Pick Ω (f, .oval (oslice E n (fun _ => r)) v xs) Ω') (hw : Wk r s) (hsn : s.n = n) (hne : xs ≠ []) (hq : PA (sp v) off qv) (hge : Get (s.arr xs.length) off fr xs y) (ht : Ty C.P T fr) (hg : gd ops L g = some true) (hd : Nat.blt d C.fn.ntmps = true)
    (hx:ev L a=some qv) (K:∀ u,St e w ((f,.val fr u y)::Γ) Ω→Z ((d,u)::L) w):OpS C ops ⟨some d,.load T a,t,p,af,g⟩ L w Z:=by
  obtain ⟨S,G,I,hs,ho⟩:=h
  obtain ⟨G1,G2,_,_,_,hown,_⟩:=ho.pick hp
  obtain ⟨b,o,cap,cur,ys,G',rfl,hh,_,_,_,rfl,hel,_⟩:=own_ne hne hown
  obtain ⟨hfit,hpc⟩:=hge (S:=fl f e.w.heap.size S) (w:=w) ⟨rfl,hw.els hel⟩
  have hqv:=hq _ rfl
  have hc:=cellsAt_row hh o off (xs.length*n) fr.n
  rw [add_none] at hqv
  subst hqv
  exact OpS.val hg rfl hd (λ ac hac=>exec_load rfl (hac.ev hx) (run_loadVar ht hc hpc)) (K _ ⟨S,G,I,⟨Rep.val_pack ht.fl hpc,hs⟩,ho⟩)
theorem OpS.loadSi {a : Operand} {v qv : Value} {off E n : Nat} {xs : List α} {qk : IntKind} {m : Int} (h : St e w Γ Ω) (hp : Pick Ω (f, .oval (oslice E n (fun _ => r)) v xs) Ω') (hw : Wk r s) (hsn : s.n = n) (hne : xs ≠ []) (hq : PA (sp v) off qv) (hge : Get (s.arr xs.length) off (.int qk) xs m) (ht : Ty C.P T (.int qk)) (hg : gd ops L g = some true) (hd : Nat.blt d C.fn.ntmps = true)
    (hx:ev L a=some qv) (K:Z ((d,.int qk m)::L) w):OpS C ops ⟨some d,.load T a,t,p,af,g⟩ L w Z :=
  OpS.loadS h hp hw hsn hne hq hge ht hg hd hx (λ u hu=>by rw [St.int_eq hu];exact K)
theorem OpS.lenH {a:Operand} {v:Value} {E:TypeId} {xs:List α} (h:St e w Γ Ω) (ht:C.P.underlying T=some (.slice E)) (hg:gd ops L g=some true) (hd:Nat.blt d C.fn.ntmps=true) (hx:ev L a=some v) (hv:V e.w.heap.size Γ f Rep.hollow v xs)
    (K:Z ((d,.int .i64 (xs.length:Int))::L) w):OpS C ops ⟨some d,.call ⟨.builtin .len,#[a],#[T]⟩,t,p,af,g⟩ L w Z:=by
  obtain ⟨S,G,I,hs,_⟩:=h
  obtain ⟨pa,cap,e1⟩:=hv S w hs
  simp only [List.cons.injEq,and_true] at e1
  subst e1
  exact OpS.val hg rfl hd (λ ac hac=>by simp [execOp,resolve,invoke,builtin,hac.ev hx,Builtin.len_,run_underlying ht,goInt]) K
def Src (E n:Nat) (r:ORep α) (v:Value) (l:List α):HAtom where
  p:=λ G S w=>(∃ pa c,v=.slice pa 0 c∧l=[])∨∃ b0 o0 c cells,v=.slice (some ⟨b0,o0,none⟩) l.length c∧l≠[]∧(S b0∨G b0)∧cellsAt w b0 o0 cells∧cells.length=l.length*n∧∃ G3,OEls S w (λ _=>r) G3 cells l∧∀ b,G3 b→G b
  st:=by
    intro G S S' w w' a k kg h
    rcases h with h | ⟨b0,o0,c,cells,e1,hl,hb,hc,hcl,G3,hel,h3⟩
    · exact .inl h
    · refine .inr ⟨b0,o0,c,cells,e1,hl,hb.imp (a b0) id,hc.stab (hb.elim (k b0) (kg b0)),hcl,G3,hel.stab a k (λ b hb=>kg b (h3 b hb)),h3⟩
theorem run_appO {P:Program} {U E:TypeId} {z v0 v:Value} {by_ n:Nat} {l1 l2:List α} {G1 G3 S:Blks} (ht:P.underlying T=some (.slice E)) (ti:TI P E z n by_) (hzl:z.cells.size=n) (hpos:Nat.blt 0 n=true) (hby:Nat.blt 0 by_=true)
    (hown:Own E n (λ _=>r) G1 S w v0 l1) (hsrc:(Src E n r v l2).p G3 S w) (hrn:r.n=n) (hb:(l1.length+l2.length)*by_≤140737488355328)
    (hS1:∀ b,S b→¬ G1 b) (h13:∀ b,G1 b→¬ G3 b) (h1:∀ b,G1 b→b<w.heap.size) (h3:∀ b,G3 b→b<w.heap.size) (hS:∀ b,S b→b<w.heap.size) :
    ∃ v' w' G',(Builtin.append_ #[T,T] U #[v0,v]).run P w=.ok v' w'∧Own E n (λ _=>r) G' S w' v' (l1++l2)∧(∀ b,G' b→(G1 b∨G3 b)∨(w.heap.size≤b∧b<w'.heap.size)) ∧
      (w'.os=w.os∧w'.tape=w.tape∧w'.output=w.output∧w.heap.size≤w'.heap.size)∧(∀ b,b<w.heap.size→¬ G1 b→w'.heap[b]?=w.heap[b]?):=by
  obtain ⟨i,hi,hz,hs,hby2⟩:=ti
  have hpos':0<n:=by simpa [Nat.blt_eq] using hpos
  have hby':0<by_:=by simpa [Nat.blt_eq] using hby
  have hlen:l1.length+l2.length≤140737488355328:=Nat.le_trans (Nat.le_mul_of_pos_right _ hby') hb
  have h63:l1.length+l2.length≤maxLen:=by simp only [maxLen];omega
  rcases hsrc with ⟨pa,c,rfl,rfl⟩ | ⟨b0,o0,c,cells,rfl,hl2,hb0,hc,hcl,G4,hel2,hG4⟩
  · refine ⟨v0,w,G1,?_,by simpa using hown,λ b hb=>.inl (.inl hb),⟨rfl,rfl,rfl,Nat.le_refl _⟩,λ _ _ _=>rfl⟩
    rcases hown with ⟨rfl,rfl,_⟩ | ⟨g,o,cap,cur,xs,G',rfl,hg,hnc,_⟩
    · cases pa<;>simp [Builtin.append_,run_underlying ht,Go.sizeOf,typeInfo,hi,Builtin.lenOf,Builtin.firstCells,loadCells,loadCellsFrom]
    · cases pa<;>simp [Builtin.append_,run_underlying ht,Go.sizeOf,typeInfo,hi,Builtin.lenOf,Builtin.firstCells,loadCells,loadCellsFrom,hnc,storeCells]
  · have hnews:∀ j u,cells[j]?=some u→w.cell? ((⟨b0,o0,none⟩:Addr).add j)=some u:=λ j u hj=>by rw [add_none];exact hc j u hj
    have hone:=hel2.one
    have hl20:0<l2.length:=List.length_pos_iff.2 hl2
    -- a new array
    have fresh:∀ {v' w'} {xs:List Value} {G1':Blks},(Builtin.append_ #[T,T] U #[v0,.slice (some ⟨b0,o0,none⟩) l2.length c]).run P w=.ok v' w'→w'.ownsRow w.heap.size E n v' (l1.length+l2.length) (xs++cells)→w.grownBy w' none→OEls S w (λ _=>r) G1' xs l1→(∀ b,G1' b→G1 b) →
        ∃ v' w' G',(Builtin.append_ #[T,T] U #[v0,.slice (some ⟨b0,o0,none⟩) l2.length c]).run P w=.ok v' w'∧Own E n (λ _=>r) G' S w' v' (l1++l2)∧(∀ b,G' b→(G1 b∨G3 b)∨(w.heap.size≤b∧b<w'.heap.size)) ∧
          (w'.os=w.os∧w'.tape=w.tape∧w'.output=w.output∧w.heap.size≤w'.heap.size)∧(∀ b,b<w.heap.size→¬ G1 b→w'.heap[b]?=w.heap[b]?):=by
      intro v' w' xs G1' hrun hrow hgr hel1 hG1
      have keep:∀ b,b<w.heap.size→w'.heap[b]?=w.heap[b]?:=λ b hb=>hgr.block b hb (by simp)
      rcases hrow.2 with ⟨_,h0⟩ | ⟨gn,cap,cur,rfl,hge,hg,hnc,hcm,hcs,htake⟩
      · omega
      have hlt:gn<w'.heap.size:=(Array.getElem?_eq_some_iff.1 hg).1
      refine ⟨_,w',λ b=>b=gn∨(G1' b∨G4 b),hrun,.inr ⟨gn,0,cap,cur,xs++cells,λ b=>G1' b∨G4 b,by rw [List.length_append],hg,by rw [List.length_append];exact hnc,hcm,by omega,by rw [List.length_append];simpa using htake.symm,?_,?_,λ _=>Iff.rfl⟩,?_,⟨hgr.os,hgr.tape,hgr.output,hgr.size⟩,λ b hb _=>keep b hb⟩
      · refine OEls.append (G2:=G4) (hel2.stab (λ _ h=>h) (λ b hb=>keep b (hS b hb)) (λ b hb=>keep b (h3 b (hG4 b hb)))) (Sep.mk' (λ b hb hk=>h13 b (hG1 b hb) (hG4 b hk))) (hel1.stab (λ _ h=>h) (λ b hb=>keep b (hS b hb)) (λ b hb=>keep b (h1 b (hG1 b hb))))
      · rintro (h | h)
        · have:=h1 _ (hG1 _ h);omega
        · have:=h3 _ (hG4 _ h);omega
      · rintro b (rfl | hb | hb)
        · exact .inr ⟨hge,hlt⟩
        · exact .inl (.inl (hG1 b hb))
        · exact .inl (.inr (hG4 b hb))
    rcases hown with ⟨rfl,rfl,hG⟩ | ⟨gb,o,cap,cur,xs,G',rfl,hg,hnc,hcm,hcs,hxs,hel1,hnb,hG⟩
    · obtain ⟨v',w',hr,h2,h3',h4⟩:=run_append_own (P:=P) w w.heap.size T U E i z n by_ ht hi hz hs hby2 hzl hpos' (.slice none 0 0) 0 [] (World.ownsRow_nil w _ E n) ⟨b0,o0,none⟩ l2.length c cells hcl hnews hone (by simpa using h63) (by simpa using hb) (Nat.le_refl _)
      exact fresh (xs:=[]) (G1':=λ _=>False) hr (by simpa using h2) (by simpa [Value.ownBlock] using h3') ⟨rfl,λ _ h=>h⟩ (λ _ h=>h.elim)
    · have hxl:xs.length=l1.length*n:=by rw [hxs];have:l1.length*n≤cap*n:=Nat.mul_le_mul_right _ hnc;simp;omega
      by_cases hroom:l1.length+l2.length≤cap
      · have hmul:(l1.length+l2.length)*n≤cap*n:=Nat.mul_le_mul_right _ hroom
        rw [Nat.add_mul] at hmul
        have hfc:=run_firstCells_some (P:=P) w i.size l2.length ⟨b0,o0,none⟩ l2.length c cells (by rw [hs];exact hcl) hnews
        have hst:=run_storeCells_at P gb (o+l1.length*n) E cells 0 cur w hg (by rw [hcl];omega) hone
        simp only [Nat.add_zero] at hst
        have hrun:(Builtin.append_ #[T,T] U #[.slice (some ⟨gb,o,none⟩) l1.length cap,.slice (some ⟨b0,o0,none⟩) l2.length c]).run P w=.ok (.slice (some ⟨gb,o,none⟩) (l1.length+l2.length) cap) (w.setRow gb (cur.toList.take (o+l1.length*n)++cells++cur.toList.drop (o+l1.length*n+cells.length)).toArray):=by
          rw [← hs] at hst ⊢
          simp [Builtin.append_,run_underlying ht,Go.sizeOf,typeInfo,hi,Builtin.lenOf,hroom,hfc,Addr.add_lit,hst]
        have hother:∀ b,b≠gb→(w.setRow gb (cur.toList.take (o+l1.length*n)++cells++cur.toList.drop (o+l1.length*n+cells.length)).toArray).heap[b]?=w.heap[b]?:=λ b hb=>setRow_other w gb b _ hb
        have hgG:G1 gb:=(hG gb).2 (.inl rfl)
        refine ⟨_,_,λ b=>b=gb∨(G' b∨G4 b),hrun,.inr ⟨gb,o,cap,_,xs++cells,λ b=>G' b∨G4 b,by rw [List.length_append],setRow_heap w gb _ _ E _ hg,by rw [List.length_append];exact hroom,hcm,?_,?_,?_,?_,λ _=>Iff.rfl⟩,?_,⟨rfl,rfl,rfl,by simp⟩,λ b _ hb=>hother b (λ h=>hb (by rw [h];exact hgG))⟩
        · simp only [List.size_toArray,List.length_append,List.length_take,List.length_drop,Array.length_toList,hcl];omega
        · have e1:cur.toList.take (o+l1.length*n)=cur.toList.take o++xs:=by rw [hxs,List.take_add]
          have e2:(cur.toList.take o).length=o:=by simp;omega
          have e3:(xs++cells).length=(l1.length+l2.length)*n:=by rw [List.length_append,hxl,hcl,Nat.add_mul]
          rw [List.length_append,e1]
          show _=List.take _ (List.drop o (cur.toList.take o++xs++cells++cur.toList.drop (o+l1.length*n+cells.length)))
          rw [List.append_assoc,List.append_assoc,List.drop_append_of_le_length (by omega),List.drop_of_length_le (by omega),List.nil_append,← List.append_assoc,← e3,List.take_left']
          rfl
        · refine OEls.append (G2:=G4) (hel2.stab (λ _ h=>h) (λ b hb=>hother b (λ h=>hS1 b hb (by rw [h];exact hgG))) (λ b hb=>hother b (λ h=>h13 gb hgG (by rw [← h];exact hG4 b hb)))) (Sep.mk' (λ b hb hk=>h13 b ((hG b).2 (.inr hb)) (hG4 b hk))) (hel1.stab (λ _ h=>h) (λ b hb=>hother b (λ h=>hS1 b hb (by rw [h];exact hgG))) (λ b hb=>hother b (λ h=>hnb (by rw [← h];exact hb))))
        · rintro (h | h)
          · exact hnb h
          · exact h13 gb hgG (hG4 _ h)
        · rintro b (rfl | hb | hb)
          · exact .inl (.inl hgG)
          · exact .inl (.inl ((hG b).2 (.inr hb)))
          · exact .inl (.inr (hG4 b hb))
      · have holds:∀ j u,xs[j]?=some u→w.cell? ((⟨gb,o,none⟩:Addr).add j)=some u:=λ j u hj=>by
          rw [add_none]
          have:=cellsAt_row hg o 0 (l1.length*n) (l1.length*n) j u (by rw [← hxs,List.drop_zero,List.take_of_length_le (by omega)];exact hj)
          simpa using this
        obtain ⟨v',w',hr,h2,h3'⟩:=run_append_arg_grows (P:=P) w T U E i z n by_ ht hi hz hs hby2 hzl hpos' ⟨gb,o,none⟩ l1.length cap xs hxl holds ⟨b0,o0,none⟩ l2.length c cells hcl hnews (by omega) h63 hb
        exact fresh hr h2 h3' hel1 (λ b hb=>(hG b).2 (.inr hb))
theorem exec_app {N:Nat} {ac:Act} (hac:Agree N L ac) {a b:Operand} {s v v':Value} {w':World} {P:Program} (hx:ev L a=some s) (hy:ev L b=some v) (hrun:(Builtin.append_ #[T,T] t #[s,v]).run P w=.ok v' w') :
    (execOp ac.eval ⟨some d,.call ⟨.builtin .append,#[a,b],#[T,T]⟩,t,p,af,g⟩).run P w=.ok (.value v') w':=by
  simp [execOp,resolve,invoke,builtin,hac.ev hx,hac.ev hy,hrun]
theorem OpS.appSrc {a b:Operand} {E:TypeId} {z v0 v:Value} {by_ n:Nat} {l1 l2 l3:List α} (h:St e w Γ ((f,.sep (.oval (oslice E n (λ _=>r)) v0 l1) (Src E n r v l2))::Ω)) (ht:C.P.underlying T=some (.slice E)) (ti:TI C.P E z n by_) (hzl:z.cells.size=n) (hpos:Nat.blt 0 n=true) (hby:Nat.blt 0 by_=true) (hrn:r.n=n)
    (hg:gd ops L g=some true) (hd:Nat.blt d C.fn.ntmps=true) (hx:ev L a=some v0) (hy:ev L b=some v) (hap:Lift.app by_ l1 l2=some l3)
    (K:∀ u w',St e w' Γ ((f,.oval (oslice E n (λ _=>r)) u l3)::Ω)→Z ((d,u)::L) w'):OpS C ops ⟨some d,.call ⟨.builtin .append,#[a,b],#[T,T]⟩,t,p,af,g⟩ L w Z:=by
  obtain ⟨hb,rfl⟩:=app_some hap
  have core:∀ {S G1:Blks},(HAtom.sep (.oval (oslice E n (λ _=>r)) v0 l1) (Src E n r v l2)).p G1 S w→(∀ b,S b→¬ G1 b)→(∀ b,G1 b→b<w.heap.size)→(∀ b,S b→b<w.heap.size)→∃ v' w' G',(Builtin.append_ #[T,T] t #[v0,v]).run C.P w=.ok v' w'∧Own E n (λ _=>r) G' S w' v' (l1++l2)∧(∀ b,G' b→G1 b∨(w.heap.size≤b∧b<w'.heap.size)) ∧
      (w'.os=w.os∧w'.tape=w.tape∧w'.output=w.output∧w.heap.size≤w'.heap.size)∧(∀ b,b<w.heap.size→¬ G1 b→w'.heap[b]?=w.heap[b]?):=by
    rintro S G1 ⟨Ga,Gb,k1,k2,k3,k4⟩ hS hlt hSl
    obtain ⟨v',w',G',r1,r2,r3,r4,r5⟩:=run_appO (U:=t) ht ti hzl hpos hby (oval_slice.1 k3) k4 hrn hb (λ b hb hg=>hS b hb ((k1 b).2 (.inl hg))) k2 (λ b hb=>hlt b ((k1 b).2 (.inl hb))) (λ b hb=>hlt b ((k1 b).2 (.inr hb))) hSl
    exact ⟨v',w',G',r1,r2,λ b hb=>(r3 b hb).imp (λ h=>(k1 b).2 h) id,r4,λ b hb hn=>r5 b hb (λ h=>hn ((k1 b).2 (.inl h)))⟩
  have h0:=h
  obtain ⟨S,G,I,hs,G1,G2,k1,k2,k3,k4,k5⟩:=h0
  obtain ⟨v',w',_,hrun,_⟩:=core k4 (λ b hb hg=>I.dis b hb.1 ((k1 b).2 (.inl hg))) (λ b hb=>I.gb b ((k1 b).2 (.inl hb))) (λ b hb=>I.sb b hb.1)
  have hsb:∀ S':Blks,Sat e.w.heap.size S' w Γ→True:=λ _ _=>trivial
  refine OpS.val hg rfl hd (λ ac hac=>exec_app hac hx hy hrun) (K v' w' ?_)
  -- the state behind it
  obtain ⟨v2,w2,G',q1,q2,q3,q4,q5⟩:=core k4 (λ b hb hg=>I.dis b hb.1 ((k1 b).2 (.inl hg))) (λ b hb=>I.gb b ((k1 b).2 (.inl hb))) (λ b hb=>I.sb b hb.1)
  rw [hrun] at q1
  simp only [Result.ok.injEq] at q1
  obtain ⟨rfl,rfl⟩:=q1
  have keepS:∀ b,S b→w'.heap[b]?=w.heap[b]?:=λ b hb=>q5 b (I.sb b hb) (λ hg=>I.dis b hb ((k1 b).2 (.inl hg)))
  have keepG:∀ b,G2 b→w'.heap[b]?=w.heap[b]?:=λ b hb=>q5 b (I.gb b ((k1 b).2 (.inr hb))) (λ hg=>k2 b hg hb)
  obtain ⟨o1,o2,o3,o4⟩:=q4
  refine ⟨S,λ b=>G' b∨G2 b,⟨⟨o1.trans I.step.os,o2.trans I.step.tape,o3.trans I.step.output,Nat.le_trans I.step.size o4,λ b hb hg=>?_⟩,λ b hb=>Nat.lt_of_lt_of_le (I.sb b hb) o4,?_,?_,I.s0,?_⟩,
    hs.st (λ _ h=>h) keepS,G',G2,λ _=>Iff.rfl,?_,?_,oval_slice.2 q2,k5.st (λ _ h=>h) keepS keepG⟩
  · rw [q5 b (Nat.lt_of_lt_of_le hb I.step.size) (λ h=>?_)]
    · exact I.step.block b hb hg
    · rcases I.g0 b ((k1 b).2 (.inl h)) with h | h
      · exact hg h
      · omega
  · rintro b (hb | hb)
    · rcases q3 b hb with h | h
      · exact Nat.lt_of_lt_of_le (I.gb b ((k1 b).2 (.inl h))) o4
      · exact h.2
    · exact Nat.lt_of_lt_of_le (I.gb b ((k1 b).2 (.inr hb))) o4
  · rintro b hb (hg | hg)
    · rcases q3 b hg with h | h
      · exact I.dis b hb ((k1 b).2 (.inl h))
      · have:=I.sb b hb;omega
    · exact I.dis b hb ((k1 b).2 (.inr hg))
  · rintro b (hb | hb)
    · rcases q3 b hb with h | h
      · exact I.g0 b ((k1 b).2 (.inl h))
      · exact .inr (Nat.le_trans I.step.size h.1)
    · exact I.g0 b ((k1 b).2 (.inr hb))
  · intro b hb hg
    rcases q3 b hb with h | h
    · exact k2 b h hg
    · have:=I.gb b ((k1 b).2 (.inr hg));omega
  · intro b hf hb
    rcases q3 b hb with h | h
    · exact k3 b hf h
    · exact Nat.le_trans I.step.size h.1
theorem OpS.appD {a b : Operand} {E : TypeId} {z v0 v : Value} {by_ : Nat} {l1 l2 l3 : List β} {f' : Bool} (h : St e w Γ Ω) (hp : Pick Ω (f, .oval (oslice E fr.n (fun _ => sh fr)) v0 l1) Ω') (ht : C.P.underlying T = some (.slice E)) (ti : TI C.P E z fr.n by_) (hzl : z.cells.size = fr.n) (hpos : Nat.blt 0 fr.n = true) (hby : Nat.blt 0 by_ = true)
    (hg:gd ops L g=some true) (hd:Nat.blt d C.fn.ntmps=true) (hx:ev L a=some v0) (hy:ev L b=some v) (hv:V e.w.heap.size Γ f' fr.slice v l2) (hf:f'=true∨f=false) (hap:Lift.app by_ l1 l2=some l3)
    (K : ∀ u w', St e w' Γ ((f, .oval (oslice E fr.n (fun _ => sh fr)) u l3) :: Ω') → Z ((d, u) :: L) w') : OpS C ops ⟨some d, .call ⟨.builtin .append, #[a, b], #[T, T]⟩, t, p, af, g⟩ L w Z := by
  refine OpS.appSrc (St.sep (b:=Src E fr.n (sh fr) v l2) ?_) ht ti hzl hpos hby rfl hg hd hx hy hap K
  obtain ⟨S,G,I,hs,ho⟩:=h
  obtain ⟨G1,G2,h1,h2,h3,h4,h5⟩:=ho.pick hp
  refine ⟨S,G,I,hs,G1,G2,h1,h2,h3,h4,λ _=>False,G2,λ _=>by simp,λ _ h=>h.elim,λ _ _ h=>h.elim,?_,h5⟩
  obtain ⟨pa,cap,e1,hlc,hcm,hcells⟩:=hv.as hf hs
  simp only [List.cons.injEq,and_true] at e1
  by_cases hl:l2=[]
  · subst hl;exact .inl ⟨pa,cap,e1,rfl⟩
  · obtain ⟨b0,o0,cells,rfl,hb,hc,hel⟩:=hcells hl
    exact .inr ⟨b0,o0,cap,cells,e1,hl,.inl hb,hc,hel.len,λ _=>False,OEls.ofSh hel,λ _ h=>h.elim⟩
theorem OpS.appDD {a b:Operand} {E:TypeId} {z v0 v:Value} {by_ n:Nat} {l1 l2 l3:List α} (h:St e w Γ ((f,.oval (oslice E n (λ _=>r)) v0 l1)::(f,.oval (oslice E n (λ _=>r)) v l2)::Ω)) (ht:C.P.underlying T=some (.slice E)) (ti:TI C.P E z n by_) (hzl:z.cells.size=n) (hpos:Nat.blt 0 n=true) (hby:Nat.blt 0 by_=true) (hrn:r.n=n)
    (hg:gd ops L g=some true) (hd:Nat.blt d C.fn.ntmps=true) (hx:ev L a=some v0) (hy:ev L b=some v) (hap:Lift.app by_ l1 l2=some l3)
    (K:∀ u w',St e w' Γ ((f,.oval (oslice E n (λ _=>r)) u l3)::Ω)→Z ((d,u)::L) w'):OpS C ops ⟨some d,.call ⟨.builtin .append,#[a,b],#[T,T]⟩,t,p,af,g⟩ L w Z:=by
  refine OpS.appSrc (h.sep.imp ?_) ht ti hzl hpos hby hrn hg hd hx hy hap K
  rintro G S ⟨Ga,Gb,k1,k2,k3,k4⟩
  refine ⟨Ga,Gb,k1,k2,k3,?_⟩
  rcases oval_slice.1 k4 with ⟨rfl,rfl,hG⟩ | ⟨gb,o,cap,cur,xs,G',rfl,hg,hnc,hcm,hcs,rfl,hel,hnb,hG⟩
  · exact .inl ⟨none,0,rfl,rfl⟩
  · by_cases hl:l2=[]
    · subst hl
      exact .inl ⟨_,cap,rfl,rfl⟩
    · refine .inr ⟨gb,o,cap,_,rfl,hl,.inr ((hG gb).2 (.inl rfl)),?_,?_,G',hel,λ b hb=>(hG b).2 (.inr hb)⟩
      · have:=cellsAt_row hg o 0 (l2.length*n) (l2.length*n);simpa [List.take_take] using this
      · exact OEls.len (λ _=>hrn) hel
end
end Lift
