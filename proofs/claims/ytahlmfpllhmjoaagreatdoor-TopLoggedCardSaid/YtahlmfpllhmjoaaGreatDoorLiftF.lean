import Derived.Test.YtahlmfpllhmjoaaGreatDoorLiftE
set_option linter.unusedVariables false
set_option linter.unusedSimpArgs false
namespace Lift
open Go
def FA (P:Program) (s:TypeId) (i off:Nat):Prop :=
  ∃ fs F,P.underlying s=some (.struct fs)∧fs[i]?=some F∧F.offset=off∧(P.info? F.type).any (λ x=>Nat.blt 0 x.size)=true
theorem Qjy {P:Program} {s:TypeId} {i off:Nat} (h:FA P s i off) (a:Addr) (w:World):(Instr.fieldAt s (.pointer (some a)) i).run P w=.ok (.pointer (some (a.add off))) w:=by
  obtain ⟨fs,F,h1,h2,rfl,h4⟩:=h
  cases hi:P.info? F.type with
  | none=>rw [hi] at h4;simp at h4
  | some x =>
    rw [hi] at h4
    have hx : x.size ≠ 0 := by have : 0 < x.size := by simpa [Nat.blt_eq] using h4
                               omega
    simp [Instr.fieldAt,run_underlying h1,h2,Instr.sureAddr,fieldPlace,Go.sizeOf,typeInfo,hi,hx]
section
variable {C:Cx} {L:List (Nat×Value)} {w:World} {ops:Array Oper} {Z:List (Nat×Value)→World→Prop} {d:Nat} {t T:TypeId} {p:String} {af:Array Edge} {g:Option (Nat×Bool)}
variable {e : En} {Γ : List (Bool × Atom)} {Ω Ω' : List (Bool × HAtom)} {f : Bool} {α β : Type} {r : Rep α} {fr : Rep β} {x : α} {y : β}
theorem OpS.alloc {z:Value} {n b:Nat} (h:St e w Γ Ω) (ti:TI C.P T z n b) (hz:Zr r z.cells.toList x) (hg:gd ops L g=some true) (hd:Nat.blt d C.fn.ntmps=true)
    (K:∀ u w',St e w' Γ ((true,.box T r u x)::Ω)→Z ((d,u)::L) w'):OpS C ops ⟨some d,.alloc T,t,p,af,g⟩ L w Z:=by
  refine OpS.val (v:=.pointer (some ⟨w.heap.size,0,none⟩)) (w':=w.alloc (.cells z.cells T)) hg rfl hd (λ ac hac=>?_) (K _ _ (h.alloc (λ S _ _=>?_)))
  · simp [execOp,Instr.alloc,Qcz ti,newVar,newRow,newObj,Sem.run]
  · exact ⟨w.heap.size,z.cells.toList,rfl,λ b=>Iff.rfl,by rw [heap_alloc_new],hz _ _⟩
theorem OpS.box {a:Operand} {v:Value} {f':Bool} (h:St e w Γ Ω) (hg:gd ops L g=some true) (hd:Nat.blt d C.fn.ntmps=true) (hx:ev L a=some v) (hv:V e.w.heap.size Γ true r v x)
    (K:∀ u w',St e w' Γ ((true,.box T r u x)::Ω)→Z ((d,u)::L) w'):OpS C ops ⟨some d,.box T a,t,p,af,g⟩ L w Z:=by
  refine OpS.val (v:=.pointer (some ⟨w.heap.size,0,none⟩)) (w':=w.alloc (.cells v.cells T)) hg rfl hd (λ ac hac=>?_) (K _ _ (h.alloc (λ S hs hlt=>?_)))
  · simp [execOp,hac.ev hx,Instr.box,newVar,newRow,newObj,Sem.run]
  · refine ⟨w.heap.size,v.cells.toList,rfl,λ b=>Iff.rfl,by rw [heap_alloc_new],?_⟩
    exact r.stab (λ _ h=>h) (λ b hb=>heap_alloc_old w _ (hlt b hb.1)) (Rep.val_cells (hv S w hs))
end
theorem St.weak {e:En} {w:World} {Γ:List (Bool×Atom)} {Ω:List (Bool×HAtom)} {f:Bool} {a:HAtom} (h:St e w Γ ((f,a)::Ω)):St e w Γ ((false,a)::Ω):=by
  obtain ⟨S,G,I,hs,G1,G2,h1,h2,h3,h4,h5⟩:=h
  exact ⟨S,G,I,hs,G1,G2,h1,h2,λ _ hf _=>(by cases hf),a.st (λ b hb=>⟨hb.1,λ h=>by cases h⟩) (λ _ _=>rfl) (λ _ _=>rfl) h4,h5⟩
theorem St.allocF {e:En} {w:World} {Γ:List (Bool×Atom)} {Ω:List (Bool×HAtom)} {o:Obj} {a:HAtom} (h:St e w Γ Ω)
    (ha:∀ S,Sat e.w.heap.size S w Γ→(∀ b,S b→b<w.heap.size)→a.p (λ b=>b=w.heap.size) (fl false e.w.heap.size S) (w.alloc o)):St e (w.alloc o) Γ ((false,a)::Ω):=by
  obtain ⟨S,G,I,hs,ho⟩:=h
  refine ⟨S,_,I.alloc o,hs.st (λ _ h=>h) (λ b hb=>I.old o (.inl hb)),λ b=>b=w.heap.size,G,λ _=>Iff.rfl,λ b hb hg=>by subst hb;exact absurd (I.gb _ hg) (Nat.lt_irrefl _),
    λ b hf _=>(by cases hf),ha S hs I.sb,ho.st (λ _ h=>h) (λ b hb=>I.old o (.inl hb)) (λ b hb=>I.old o (.inr hb))⟩
section
variable {C:Cx} {L:List (Nat×Value)} {w:World} {ops:Array Oper} {Z:List (Nat×Value)→World→Prop} {d:Nat} {t T:TypeId} {p:String} {af:Array Edge} {g:Option (Nat×Bool)}
variable {e : En} {Γ : List (Bool × Atom)} {Ω Ω' : List (Bool × HAtom)} {f : Bool} {α β : Type} {r : Rep α} {fr : Rep β} {x : α} {y : β}
theorem OpS.boxF {a:Operand} {v:Value} {f':Bool} (h:St e w Γ Ω) (hg:gd ops L g=some true) (hd:Nat.blt d C.fn.ntmps=true) (hx:ev L a=some v) (hv:V e.w.heap.size Γ f' r v x)
    (K:∀ u w',St e w' Γ ((false,.box T r u x)::Ω)→Z ((d,u)::L) w'):OpS C ops ⟨some d,.box T a,t,p,af,g⟩ L w Z:=by
  refine OpS.val (v:=.pointer (some ⟨w.heap.size,0,none⟩)) (w':=w.alloc (.cells v.cells T)) hg rfl hd (λ ac hac=>?_) (K _ _ (h.allocF (λ S hs hlt=>?_)))
  · simp [execOp,hac.ev hx,Instr.box,newVar,newRow,newObj,Sem.run]
  · refine ⟨w.heap.size,v.cells.toList,rfl,λ b=>Iff.rfl,by rw [heap_alloc_new],?_⟩
    exact r.stab (λ _ h=>h) (λ b hb=>heap_alloc_old w _ (hlt b hb.1)) (Rep.val_cells (V.as (f:=false) hv (.inr rfl) hs))
theorem OpS.fptr {a:Operand} {v:Value} {i off:Nat} {get:α→β} {set:α→β→α} (h:St e w Γ Ω) (hfa:FA C.P T i off) (hf:Fld r off fr get set) (hg:gd ops L g=some true) (hd:Nat.blt d C.fn.ntmps=true) (hx:ev L a=some v) (ha:At Γ (f,.ptr r v x))
    (K:∀ u,St e w ((f,.ptr fr u (get x))::Γ) Ω→Z ((d,u)::L) w):OpS C ops ⟨some d,.fieldAddr T a i,t,p,af,g⟩ L w Z:=by
  obtain ⟨S,G,I,hs,ho⟩:=h
  obtain ⟨b,o,cs,rfl,hb,hc,hr⟩:=hs.at ha
  refine OpS.val hg rfl hd (λ ac hac=>by simp [execOp,hac.ev hx,Qjy hfa,Qaj]) (K _ ⟨S,G,I,⟨⟨b,o+off,_,rfl,hb,?_,hf.get hr⟩,hs⟩,ho⟩)
  intro i v hi
  rw [List.getElem?_take] at hi
  split at hi
  · have:=hc (off+i) v (by simpa [List.getElem?_drop] using hi)
    simpa [Nat.add_assoc] using this
  · cases hi
theorem OpS.fbox {a : Operand} {q qv : Value} {o1 o2 o3 i : Nat} {T0 : TypeId} (h : St e w Γ Ω) (hp : Pick Ω (f, .box T0 r q x) Ω') (hq : PA q o1 qv) (hfa : FA C.P T i o2) (ho : o1 + o2 = o3) (hg : gd ops L g = some true) (hd : Nat.blt d C.fn.ntmps = true) (hx : ev L a = some qv)
    (K:Z ((d,padd q o3)::L) w):OpS C ops ⟨some d,.fieldAddr T a i,t,p,af,g⟩ L w Z:=by
  obtain ⟨S,G,I,hs,hO⟩:=h
  obtain ⟨G1,G2,_,_,_,⟨b,cs,rfl,_,hh,hr⟩,_⟩:=hO.pick hp
  have hqv:=hq _ rfl
  subst hqv
  subst ho
  exact OpS.val hg rfl hd (λ ac hac=>by simp [execOp,hac.ev hx,Qjy hfa,Qaj,padd,Nat.add_assoc]) K
theorem OpS.fown {a : Operand} {v qv : Value} {o1 o2 i : Nat} {T0 : TypeId} {xs : List α} (h : St e w Γ Ω) (hp : Pick Ω (f, .slice T0 r v xs) Ω') (hne : xs ≠ []) (hq : PA (sp v) o1 qv) (hfa : FA C.P T i o2) (hg : gd ops L g = some true) (hd : Nat.blt d C.fn.ntmps = true) (hx : ev L a = some qv)
    (K:Z ((d,padd (sp v) (o1+o2))::L) w):OpS C ops ⟨some d,.fieldAddr T a i,t,p,af,g⟩ L w Z:=by
  obtain ⟨S,G,I,hs,hO⟩:=h
  obtain ⟨G1,G2,_,_,_,⟨cells,hown,hel,_⟩,_⟩:=hO.pick hp
  rcases hown.2 with ⟨_,hn⟩ | ⟨b,cap,cur,rfl,_,hh,hnc,hcm,hcs,htake⟩
  · exact absurd (List.eq_nil_of_length_eq_zero hn) hne
  have hqv:=hq _ rfl
  subst hqv
  exact OpS.val hg rfl hd (λ ac hac=>by simp [execOp,hac.ev hx,Qjy hfa,Qaj,padd,sp,Nat.add_assoc]) K
theorem Qhu {P:Program} {t E:TypeId} {n:Nat} (ht:P.underlying t=some (.slice E)) (hs:(P.info? E).map (·.size)=some n) (b o len cap:Nat) (q:IntKind) (i:Int) (h0:0≤i) (h1:i<len) (w:World) :
    (Instr.indexAt t (.slice (some ⟨b,o,none⟩) len cap) (.int q i)).run P w=.ok (.pointer (some ⟨b,o+i.toNat*n,none⟩)) w:=by
  cases hi:P.info? E with
  | none=>rw [hi] at hs;simp at hs
  | some x =>
    rw [hi] at hs;simp at hs
    simp [Instr.indexAt,asIntOf,run_underlying ht,h0,h1,Go.sizeOf,typeInfo,hi,hs,Qaj]
theorem OpS.iptr {a b:Operand} {v:Value} {E:TypeId} {q:IntKind} {n:Int} {xs:List α} (h:St e w Γ Ω) (ht:C.P.underlying T=some (.slice E)) (hE:Ty C.P E r) (hg:gd ops L g=some true) (hd:Nat.blt d C.fn.ntmps=true) (hx:ev L a=some v) (hi:ev L b=some (.int q n))
    (hv:V e.w.heap.size Γ f r.slice v xs) (hn:idx xs n=some x) (K:∀ u,St e w ((f,.ptr r u x)::Γ) Ω→Z ((d,u)::L) w):OpS C ops ⟨some d,.indexAddr T a b,t,p,af,g⟩ L w Z:=by
  obtain ⟨S,G,I,hs,ho⟩:=h
  obtain ⟨h0,h1,h2⟩:=Qfe hn
  obtain ⟨pa,cap,e1,hlc,hcm,hcells⟩:=hv S w hs
  obtain ⟨bk,o,cells,rfl,hb,hc,hel⟩:=hcells (by intro h;subst h;simp at h2)
  simp only [List.cons.injEq,and_true] at e1
  subst e1
  obtain ⟨c1,c2,c3,rfl,hl,hr⟩:=hel.at h2
  refine OpS.val hg rfl hd (λ ac hac=>by simp [execOp,hac.ev hx,hac.ev hi,Qhu ht hE.sz bk o xs.length cap q n h0 h1]) (K _ ⟨S,G,I,⟨⟨bk,o+n.toNat*r.n,c2,rfl,hb,?_,hr⟩,hs⟩,ho⟩)
  rw [← hl];exact hc.mid
theorem OpS.iown {a b : Operand} {v : Value} {E : TypeId} {q : IntKind} {n : Int} {xs : List α} (h : St e w Γ Ω) (hp : Pick Ω (f, .slice E r v xs) Ω') (ht : C.P.underlying T = some (.slice E)) (hE : Ty C.P E r) (hg : gd ops L g = some true) (hd : Nat.blt d C.fn.ntmps = true) (hx : ev L a = some v) (hi : ev L b = some (.int q n))
    (hn:idx xs n=some x) (K:Z ((d,padd (sp v) (n.toNat*r.n))::L) w):OpS C ops ⟨some d,.indexAddr T a b,t,p,af,g⟩ L w Z:=by
  obtain ⟨S,G,I,hs,hO⟩:=h
  obtain ⟨h0,h1,h2⟩:=Qfe hn
  obtain ⟨G1,G2,_,_,_,⟨cells,hown,hel,_⟩,_⟩:=hO.pick hp
  rcases hown.2 with ⟨_,hn⟩ | ⟨bk,cap,cur,rfl,_,hh,hnc,hcm,hcs,htake⟩
  · have:=List.eq_nil_of_length_eq_zero hn;subst this;simp at h2
  exact OpS.val hg rfl hd (λ ac hac=>by simp [execOp,hac.ev hx,hac.ev hi,Qhu ht hE.sz bk 0 xs.length cap q n h0 h1,padd,sp,Qaj]) K
theorem OpS.ibox {a b : Operand} {u qv : Value} {o1 : Nat} {E T0 : TypeId} {q : IntKind} {n : Int} {m : Nat} {xs : List β} {z : β} (h : St e w Γ Ω) (hp : Pick Ω (f, .box T0 r u x) Ω') (hq : PA u o1 qv) (ht : C.P.underlying T = some (.array m E)) (hE : Ty C.P E fr) (hxs : xs.length = m) (hg : gd ops L g = some true) (hd : Nat.blt d C.fn.ntmps = true) (hx : ev L a = some qv) (hi : ev L b = some (.int q n))
    (hn:idx xs n=some z) (K:Z ((d,padd u (o1+n.toNat*fr.n))::L) w):OpS C ops ⟨some d,.indexAddr T a b,t,p,af,g⟩ L w Z:=by
  obtain ⟨S,G,I,hs,hO⟩:=h
  obtain ⟨h0,h1,h2⟩:=Qfe hn
  obtain ⟨G1,G2,_,_,_,⟨bk,cs,rfl,_,hh,hr⟩,_⟩:=hO.pick hp
  have hqv:=hq _ rfl
  subst hqv
  refine OpS.val hg rfl hd (λ ac hac=>?_) K
  cases hinf:C.P.info? E with
  | none=>have:=hE.sz;rw [hinf] at this;simp at this
  | some y =>
    have hsz:=hE.sz
    rw [hinf] at hsz;simp at hsz
    have h1':n<(m:Int):=by rw [← hxs];exact h1
    simp [execOp,hac.ev hx,hac.ev hi,Instr.indexAt,asIntOf,run_underlying ht,h0,h1',Go.sizeOf,typeInfo,hinf,hsz,Qaj,Instr.sureAddr,padd,Nat.add_assoc]
theorem OpS.len {a:Operand} {v:Value} {E:TypeId} {xs:List α} (h:St e w Γ Ω) (ht:C.P.underlying T=some (.slice E)) (hg:gd ops L g=some true) (hd:Nat.blt d C.fn.ntmps=true) (hx:ev L a=some v) (hv:V e.w.heap.size Γ f r.slice v xs)
    (K:Z ((d,.int .i64 xs.length)::L) w):OpS C ops ⟨some d,.call ⟨.builtin .len,#[a],#[T]⟩,t,p,af,g⟩ L w Z:=by
  obtain ⟨S,G,I,hs,ho⟩:=h
  obtain ⟨pa,cap,e1,_⟩:=hv S w hs
  simp only [List.cons.injEq,and_true] at e1
  subst e1
  exact OpS.val hg rfl hd (λ ac hac=>by simp [execOp,resolve,invoke,builtin,Builtin.len_,hac.ev hx,run_underlying ht,goInt]) K
theorem OpS.lenO {a : Operand} {v : Value} {E E' : TypeId} {xs : List α} (h : St e w Γ Ω) (hp : Pick Ω (f, .slice E' r v xs) Ω') (ht : C.P.underlying T = some (.slice E)) (hg : gd ops L g = some true) (hd : Nat.blt d C.fn.ntmps = true) (hx : ev L a = some v)
    (K:Z ((d,.int .i64 xs.length)::L) w):OpS C ops ⟨some d,.call ⟨.builtin .len,#[a],#[T]⟩,t,p,af,g⟩ L w Z:=by
  obtain ⟨S,G,I,hs,hO⟩:=h
  obtain ⟨G1,G2,_,_,_,⟨cells,hown,hel,_⟩,_⟩:=hO.pick hp
  have:∃ pa cap,v=.slice pa xs.length cap:=by
    rcases hown.2 with ⟨rfl,hn⟩ | ⟨bk,cap,cur,rfl,_⟩
    · exact ⟨none,0,by rw [hn]⟩
    · exact ⟨_,_,rfl⟩
  obtain ⟨pa,cap,rfl⟩:=this
  exact OpS.val hg rfl hd (λ ac hac=>by simp [execOp,resolve,invoke,builtin,Builtin.len_,hac.ev hx,run_underlying ht,goInt]) K
def bnd (L:List (Nat×Value)):Option Operand→Int→Option Int
  | none,n=>some n
  | some x,_=>match ev L x with
    | some (.int _ n)=>some n
    | _=>none
theorem Qgy {N:Nat} {ac:Act} (ha:Agree N L ac) {o:Option Operand} {dn m:Int} (h:bnd L o dn=some m):(o=none∧m=dn)∨∃ x q,o=some x∧ac.eval x=.int q m:=by
  cases o with
  | none=>simp [bnd] at h;exact .inl ⟨rfl,h.symm⟩
  | some x =>
    simp only [bnd] at h
    split at h
    · rename_i q n hx;cases h;exact .inr ⟨x,q,rfl,ha.ev hx⟩
    · cases h
theorem OpS.sub {a:Operand} {lo hi:Option Operand} {v:Value} {E:TypeId} {m n:Int} {xs ys:List α} (h:St e w Γ Ω) (ht:C.P.underlying T=some (.slice E)) (hE:Ty C.P E r) (hg:gd ops L g=some true) (hd:Nat.blt d C.fn.ntmps=true) (hx:ev L a=some v)
    (hlo:bnd L lo 0=some m) (hhi:bnd L hi xs.length=some n) (hv:V e.w.heap.size Γ f r.slice v xs) (hs:Lift.sub xs m n=some ys) (K:∀ u,St e w ((f,.val r.slice u ys)::Γ) Ω→Z ((d,u)::L) w) :
    OpS C ops ⟨some d,.slice T a lo hi none,t,p,af,g⟩ L w Z:=by
  obtain ⟨S,G,I,hst,ho⟩:=h
  obtain ⟨h0,h1,h2,rfl⟩:=Qpb hs
  obtain ⟨pa,cap,e1,hlc,hcm,hcells⟩:=hv S w hst
  simp only [List.cons.injEq,and_true] at e1
  subst e1
  have hyl:((xs.drop m.toNat).take (n.toNat-m.toNat)).length=n.toNat-m.toNat:=by simp;omega
  refine OpS.val (v:=.slice (if cap=m.toNat then pa else pa.map (·.add (m.toNat*r.n))) (n.toNat-m.toNat) (cap-m.toNat)) (w':=w) hg rfl hd (λ ac hac=>?_) (K _ ⟨S,G,I,⟨?_,hst⟩,ho⟩)
  · have hsz:=hE.size w
    have hn0:0≤n:=by omega
    have hnc:n≤(cap:Int):=by omega
    have hm:(Instr.sliceBounds true xs.length cap (lo.map ac.eval) (hi.map ac.eval) none).run C.P w=.ok (m.toNat,n.toNat,cap) w:=by
      rcases Qgy hac hlo with ⟨rfl,rfl⟩ | ⟨x1,q1,rfl,hx1⟩<;>rcases Qgy hac hhi with ⟨rfl,rfl⟩ | ⟨x2,q2,rfl,hx2⟩
      · simp [Instr.sliceBounds]
      · simp [Instr.sliceBounds,hx2,Instr.sliceBound,asIntOf,hn0,hnc]
      · simp [Instr.sliceBounds,hx1,Instr.sliceBound,asIntOf,h0,h1]
      · have h1':m≤max n 0:=by omega
        simp [Instr.sliceBounds,hx1,hx2,Instr.sliceBound,asIntOf,h0,hn0,hnc,h1']
    simp [execOp,hac.ev hx,Instr.sliceAt,run_underlying ht,Instr.slice,hm,hsz]
  · refine ⟨_,_,by rw [hyl],by rw [hyl];omega,by omega,λ hne=>?_⟩
    have hnn:n.toNat-m.toNat≠0:=λ h=>hne (List.eq_nil_of_length_eq_zero (by rw [hyl,h]))
    have hxne:xs≠[]:=by intro h;subst h;simp at h2;omega
    obtain ⟨bk,o,cells,rfl,hb,hc,hel⟩:=hcells hxne
    have hcm':¬ cap=m.toNat:=by omega
    refine ⟨bk,o+m.toNat*r.n,_,by simp [hcm',Qaj],hb,?_,(hel.drop m.toNat).take (n.toNat-m.toNat)⟩
    intro i v hi
    rw [List.getElem?_take] at hi
    split at hi
    · have:=hc (m.toNat*r.n+i) v (by simpa [List.getElem?_drop] using hi)
      simpa [Nat.add_assoc] using this
    · cases hi
end
end Lift
