import Derived.Test.YtahlmfpllhmjoaaGreatDoorLiftX
import Derived.Laws.CopyRow
import Derived.Laws.IdiomCopy
set_option linter.unusedVariables false
set_option linter.unusedSimpArgs false
namespace Lift
open Go
theorem Qvs (s:ByteArray) (k:Nat):(strOf s)[k]?=(s[k]?).map (λ b=>(b.toNat:Int)):=by
  have hsz:s.data.toList.length=s.size:=Array.length_toList
  have h:s[k]?=s.data.toList[k]?:=by
    by_cases hk:k<s.size
    · rw [getElem?_pos s k hk,List.getElem?_eq_getElem (by rw [hsz];exact hk)];rfl
    · rw [getElem?_neg s k hk,List.getElem?_eq_none (by rw [hsz];omega)]
  rw [h];simp [strOf]
section
variable {C:Cx} {L:List (Nat×Value)} {w:World} {ops:Array Oper} {Z:List (Nat×Value)→World→Prop} {d:Nat} {t T:TypeId} {p:String} {af:Array Edge} {g:Option (Nat×Bool)}
variable {e : En} {Γ : List (Bool × Atom)} {Ω Ω' : List (Bool × HAtom)} {f : Bool} {α β : Type} {r : Rep α} {x : α}
theorem OpS.selem {a b:Operand} {v:Value} {q:IntKind} {n z:Int} {xs:List Int} (h:St e w Γ Ω) (ht:C.P.underlying T=some .string) (hg:gd ops L g=some true) (hd:Nat.blt d C.fn.ntmps=true) (hx:ev L a=some v) (hi:ev L b=some (.int q n))
    (hv:V e.w.heap.size Γ f .str v xs) (hn:idx xs n=some z) (K:Z ((d,.int .u8 z)::L) w):OpS C ops ⟨some d,.index T a b,t,p,af,g⟩ L w Z:=by
  obtain ⟨S,G,I,hs,ho⟩:=h
  obtain ⟨s,e1,rfl⟩:=hv S w hs
  simp only [List.cons.injEq,and_true] at e1
  subst e1
  obtain ⟨h0,h1,h2⟩:=Qfe hn
  rw [Qvs] at h2
  cases hb:s[n.toNat]? with
  | none=>rw [hb] at h2;simp at h2
  | some c =>
    rw [hb] at h2
    simp only [Option.map_some,Option.some.injEq] at h2
    refine OpS.val (v:=.int .u8 z) (w':=w) hg rfl hd (λ ac hac=>?_) K
    simp [execOp,hac.ev hx,hac.ev hi,Instr.index,asIntOf,run_underlying ht,h0,hb,h2]
theorem OpS.iarr {a b:Operand} {v:Value} {m:Nat} {E:TypeId} {q:IntKind} {n:Int} {xs:List α} (h:St e w Γ Ω) (ht:C.P.underlying T=some (.array m E)) (hE:Ty C.P E r) (hg:gd ops L g=some true) (hd:Nat.blt d C.fn.ntmps=true) (hx:ev L a=some v) (hi:ev L b=some (.int q n))
    (ha:At Γ (f,.ptr (r.arr m) v xs)) (hn:idx xs n=some x) (K:∀ u,St e w ((f,.ptr r u x)::Γ) Ω→Z ((d,u)::L) w):OpS C ops ⟨some d,.indexAddr T a b,t,p,af,g⟩ L w Z:=by
  obtain ⟨S,G,I,hs,ho⟩:=h
  obtain ⟨bk,o,cs,rfl,hb,hc,hl,hel⟩:=hs.at ha
  obtain ⟨h0,h1,h2⟩:=Qfe hn
  obtain ⟨hfit,hr⟩:=Get.arr (m:=m) (r:=r) hn (S:=fl f e.w.heap.size S) (w:=w) (cs:=cs) ⟨hl,hel⟩
  have h1':n<(m:Int):=by rw [← hl];exact h1
  refine OpS.val (v:=.pointer (some ⟨bk,o+n.toNat*r.n,none⟩)) (w':=w) hg rfl hd (λ ac hac=>?_) (K _ ⟨S,G,I,⟨⟨bk,o+n.toNat*r.n,_,rfl,hb,?_,hr⟩,hs⟩,ho⟩)
  · cases hinf:C.P.info? E with
    | none=>have:=hE.sz;rw [hinf] at this;simp at this
    | some y =>
      have hsz:=hE.sz
      rw [hinf] at hsz;simp at hsz
      simp [execOp,hac.ev hx,hac.ev hi,Instr.indexAt,asIntOf,run_underlying ht,h0,h1',Go.sizeOf,typeInfo,hinf,hsz,Qaj,Instr.sureAddr]
  · intro j u hj
    rw [List.getElem?_take] at hj
    split at hj
    · have:=hc (n.toNat*r.n+j) u (by simpa [List.getElem?_drop] using hj)
      simpa [Nat.add_assoc] using this
    · cases hj
inductive BldG (L:List (Nat×Value)) (B:Nat) (Γ:List (Bool×Atom)) (f:Bool) (r:Rep α):List (Nat×Operand)→List α→List α→Prop
  | nil {xs:List α}:BldG L B Γ f r [] xs xs
  | cons {i:Nat} {o:Operand} {v:Value} {x y:α} {ps:List (Nat×Operand)} {xs xs':List α} (hi:idx xs (i:Int)=some x) (h:Lift.ev L o=some v) (hv:V B Γ f r v y) (K:BldG L B Γ f r ps (Lift.upd xs (i:Int) y) xs'):BldG L B Γ f r ((i,o)::ps) xs xs'
theorem Quu {B:Nat} {S:Blks} {w:World} (hs:Sat B S w Γ) {m:Nat} {ps:List (Nat×Operand)} {xs xs':List α} (h:BldG L B Γ f r ps xs xs') (ρ:Operand→Value) (hρ:∀ o v,ev L o=some v→ρ o=v) :
    ∀ {cs:List Value},(r.arr m).rel (fl f B S) w cs xs→∃ cs':List Value,Instr.fill (λ i=>some (i*r.n,r.n)) cs.toArray (ps.map λ q=>(q.1,ρ q.2))=some cs'.toArray∧(r.arr m).rel (fl f B S) w cs' xs':=by
  induction h with
  | nil=>intro cs hc;exact ⟨cs,rfl,hc⟩
  | @cons i o v x y ps xs xs' hi h hv _ ih =>
    intro cs hc
    have hval:=Rep.val_cells (hv S w hs)
    have hl:v.cells.toList.length=r.n:=r.len hval
    have hsz:v.cells.size=r.n:=by simpa using hl
    have hcl:=(r.arr m).len hc
    obtain ⟨hfit,hset⟩:=Put.arr (m:=m) (r:=r) (y:=y) hi hc hval
    rw [Int.toNat_natCast] at hfit hset
    obtain ⟨cs',h1,h2⟩:=ih hset
    refine ⟨cs',?_,h2⟩
    simp only [List.map_cons,Instr.fill,hρ o v h,hsz]
    have c1:¬ (decide (r.n≠r.n)||decide (i*r.n+r.n>cs.toArray.size))=true:=by simp;omega
    rw [if_neg c1]
    have hfs:=Qkn v.cells.toList (i*r.n) cs.toArray (by simp;omega)
    have e1:(v.cells.zipIdx.foldl (λ cs (p:Value×Nat)=>cs.setIfInBounds (i*r.n+p.2) p.1) cs.toArray)=(cs.take (i*r.n)++v.cells.toList++cs.drop (i*r.n+r.n)).toArray:=by
      apply Array.toList_inj.1
      rw [hl] at hfs
      simp only [List.toList_toArray] at hfs ⊢
      rw [show v.cells.toList.toArray=v.cells from by simp] at hfs
      exact hfs
    rw [show (λ (cs:Array Value) (x:Value×Nat)=>match x with | (c,j)=>cs.setIfInBounds (i*r.n+j) c)=(λ cs (p:Value×Nat)=>cs.setIfInBounds (i*r.n+p.2) p.1) from rfl,e1]
    exact h1
theorem OpS.buildG {E:TypeId} {m:Nat} {z zT:Value} {sz by_ szT byT:Nat} {ps:List (Nat×Operand)} {xs0 xs:List α} (h:St e w Γ Ω) (ht:C.P.underlying T=some (.array m E)) (ti:TI C.P E z sz by_) (hsz:sz=r.n) (tiT:TI C.P T zT szT byT) (hz:Zr (r.arr m) zT.cells.toList xs0)
    (hg:gd ops L g=some true) (hd:Nat.blt d C.fn.ntmps=true) (he:BldG L e.w.heap.size Γ f r ps xs0 xs)
    (K:∀ u,St e w ((f,.val (r.arr m) u xs)::Γ) Ω→Z ((d,u)::L) w):OpS C ops ⟨some d,.build T ps.toArray,t,p,af,g⟩ L w Z:=by
  obtain ⟨S,G,I,hs,ho⟩:=h
  obtain ⟨cs,h1,h2⟩:=Quu hs he (λ o=>(ev L o).getD undef) (λ o v h=>by simp [h]) (hz (fl f e.w.heap.size S) w)
  have hsame:∀ ac:Act,Agree C.fn.ntmps L ac→(ps.map λ q=>(q.1,ac.eval q.2))=ps.map λ q=>(q.1,(ev L q.2).getD undef):=by
    intro ac ha
    have key:∀ {ps:List (Nat×Operand)} {xs xs':List α},BldG L e.w.heap.size Γ f r ps xs xs'→(ps.map λ q=>(q.1,ac.eval q.2))=ps.map λ q=>(q.1,(ev L q.2).getD undef):=by
      intro ps xs xs' h
      induction h with
      | nil=>rfl
      | cons _ h _ _ ih=>simp only [List.map_cons,ih,ha.ev h,h,Option.getD_some]
    exact key he
  have hzv:=Qcz tiT w
  have hsize:=Qkw ti w
  rw [hsz] at hsize
  have e0:zT.cells.toList.toArray=zT.cells:=by simp
  rw [e0] at h1
  refine OpS.val (v:=.agg cs.toArray) (w':=w) hg rfl hd (λ ac hac=>?_) (K _ ⟨S,G,I,⟨⟨cs,rfl,h2⟩,hs⟩,ho⟩)
  simp only [execOp,List.map_toArray,hsame ac hac,Instr.build,Sem.run_bind,hzv,Result.andThen_ok,run_underlying ht,hsize,h1,Sem.run_pure]
theorem OpS.copyG {a b : Operand} {v s dv : Value} {E T2 : TypeId} {z : Value} {by_ : Nat} {m n k : Int} {xs src xs' : List α} {f' : Bool} (h : St e w Γ Ω) (hp : Pick Ω (f, .slice E r v xs) Ω') (ht : C.P.underlying T = some (.slice E)) (ti : TI C.P E z 1 by_) (hg : gd ops L g = some true) (hd : Nat.blt d C.fn.ntmps = true)
    (hv:V e.w.heap.size Γ f' r.slice s src) (hb:0≤m∧m≤n∧n≤k∧n≤(xs.length:Int)) (hr1:r.n=1) (hx:ev L a=some dv) (hdv:∀ p c,v=.slice p xs.length c→(∃ p1 c1,dv=.slice p1 (n.toNat-m.toNat) c1)∧∀ gb,p=some ⟨gb,0,none⟩→m.toNat<n.toNat→∃ c1,dv=.slice (some ⟨gb,m.toNat,none⟩) (n.toNat-m.toNat) c1) (hy:ev L b=some s) (hpu:Pure r) (he:lay xs m.toNat (src.take (n.toNat-m.toNat))=xs')
    (K : ∀ w', St e w' Γ ((f, .slice E r v xs') :: Ω') → Z ((d, .int .i64 ((min src.length (n.toNat - m.toNat) : Nat) : Int)) :: L) w') : OpS C ops ⟨some d, .call ⟨.builtin .copy, #[a, b], #[T, T2]⟩, t, p, af, g⟩ L w Z := by
  subst he
  obtain ⟨hm0,hmn,hnk,hnl⟩:=hb
  obtain ⟨i,hi,hz,hsz,hby2⟩:=ti
  have hsz1:(C.P.info? E).map (·.size)=some 1:=by rw [hi];simp [hsz]
  have h1:=h.pick hp
  obtain ⟨S,G,I,hst,G1,G2,_,_,_,hown,_⟩:=id h1
  obtain ⟨ps,c2,e2,hlc2,hcm2,hcells2⟩:=hv S w hst
  simp only [List.cons.injEq,and_true] at e2
  subst e2
  by_cases hc0:min src.length (n.toNat-m.toNat)=0
  · have hlay:lay xs m.toNat (src.take (n.toNat-m.toNat))=xs:=by
      have:src.take (n.toNat-m.toNat)=[]:=by
        apply List.eq_nil_of_length_eq_zero;rw [List.length_take];omega
      rw [this];simp [lay]
    rw [hlay,hc0] at K
    have hvw:∃ p1 c1,dv=.slice p1 (n.toNat-m.toNat) c1:=by
      rcases Qlq hown with ⟨e1,e2⟩ | ⟨gb,cap,cur,e1,_⟩
      · exact (hdv none 0 (by rw [e1,e2];rfl)).1
      · exact (hdv _ _ e1).1
    obtain ⟨p1,c1,hvw⟩:=hvw
    rw [hvw] at hx
    have hrun:=run_copy_none (P:=C.P) w T T2 t E p1 ps (n.toNat-m.toNat) c1 src.length c2 ht hsz1 hc0
    exact OpS.val hg rfl hd (λ ac hac=>by simp [execOp,resolve,invoke,builtin,hac.ev hx,hac.ev hy,hrun];rfl) (K w h1)
  · have hsrc:src≠[]:=λ h=>hc0 (by rw [h];simp)
    have hnm:m.toNat<n.toNat:=by omega
    obtain ⟨b0,o0,cells,rfl,_,hcat,hel⟩:=hcells2 hsrc
    have hxs:xs≠[]:=λ h=>by rw [h] at hnl;simp at hnl;omega
    rcases Qlq hown with ⟨_,h0⟩ | ⟨gb,cap,cur,rfl,hlc,hcm,hgb,hcs,hG0⟩
    · exact absurd h0 hxs
    obtain ⟨cd,hvw⟩:=(hdv _ _ rfl).2 gb rfl hnm
    rw [hvw] at hx
    let cs:=cells.take (n.toNat-m.toNat)
    have hcl:cells.length=src.length:=by have:=hel.len;rw [hr1] at this;omega
    have hcsl:cs.length=min src.length (n.toNat-m.toNat):=by simp only [cs,List.length_take,hcl];omega
    have hread:∀ j u,cs[j]?=some u→w.cell? ((⟨b0,o0,none⟩:Addr).add j)=some u:=by
      intro j u hj
      rw [Qaj]
      apply hcat j u
      simp only [cs,List.getElem?_take] at hj
      split at hj
      · exact hj
      · cases hj
    have hone:∀ u∈cs,u.oneCell'=true:=λ u hu=>hel.one u (List.mem_of_mem_take hu)
    have hcsz:cur.size=cap:=by rw [hcs,hr1];omega
    have hfit:m.toNat+cs.length≤cur.size:=by rw [hcsl,hcsz];omega
    have hrun:=run_copy_row (P:=C.P) w T T2 t E gb m.toNat (n.toNat-m.toNat) cd ⟨b0,o0,none⟩ src.length c2 cur E cs ht hsz1 hgb hcsl hread hfit hone
    rw [hcsl] at hrun
    rw [← hcsl] at K
    refine OpS.val (w':=w.setRow gb (cur.toList.take m.toNat++cs++cur.toList.drop (m.toNat+cs.length)).toArray) hg rfl hd (λ ac hac=>by rw [hcsl];simp [execOp,resolve,invoke,builtin,hac.ev hx,hac.ev hy,hrun,goInt]) (K _ (h1.write ?_))
    rintro S' G1' hs' ⟨ys,hown',hel',hG'⟩ hdis _ hlt
    rcases hown'.2 with ⟨h0,_⟩ | ⟨b',cap',cur',e1,hb0,hh',hnc',hcm',hcs',htake⟩
    · cases h0
    simp only [Value.slice.injEq,Option.some.injEq,Addr.mk.injEq,and_true,true_and] at e1
    obtain ⟨rfl,rfl⟩:=e1
    rw [hh'] at hgb
    simp only [Option.some.injEq,Obj.cells.injEq,and_true] at hgb
    subst hgb
    have hG'' : ∀ c, G1' c ↔ c = gb := fun c => by rw [hG']; simp [Value.ownBlock, eq_comm]
    have hS:∀ c,fl f e.w.heap.size S' c→(w.setRow gb (cur'.toList.take m.toNat++cs++cur'.toList.drop (m.toNat+cs.length)).toArray).heap[c]?=w.heap[c]? :=
      fun c hc => setRow_other w gb c _ (fun h => hdis c hc.1 ((hG'' c).2 h))
    have hl2:(src.take (n.toNat-m.toNat)).length=cs.length:=by rw [hcsl,List.length_take];omega
    have hkl:m.toNat+(src.take (n.toNat-m.toNat)).length≤xs.length:=by rw [hl2,hcsl];omega
    have helc:Elems r (fl f e.w.heap.size S') w cs (src.take (n.toNat-m.toNat)):=by
      have:=(hpu.elems (S':=fl f e.w.heap.size S') (w':=w) hel).take (n.toNat-m.toNat)
      rw [hr1,Nat.mul_one] at this;exact this
    have hml:m.toNat*r.n=m.toNat:=by rw [hr1];omega
    have hlay:=Elems.lay (k:=m.toNat) (hel'.stab (λ _ h=>h) hS) (helc.stab (λ _ h=>h) hS)
    rw [hml] at hlay
    refine ⟨G1', fun b hb => .inl hb, ⟨rfl, rfl, rfl, by simp⟩, fun c _ hc => setRow_other w gb c _ (fun h => hc ((hG'' c).2 h)), ys.take m.toNat ++ cs ++ ys.drop (m.toNat + cs.length), ⟨?_, .inr ⟨gb, cap, _, by rw [Qgr hkl], Nat.zero_le _, setRow_heap w gb _ _ E _ hh', by rw [Qgr hkl]; exact hnc', hcm', ?_, ?_⟩⟩, hlay, hG'⟩
    · rw [Qgr hkl]
      have hy:=hown'.1
      rw [hr1,Nat.mul_one] at hy
      rw [hr1,Nat.mul_one]
      simp only [List.length_append,List.length_take,List.length_drop,hy];omega
    · rw [hr1,Nat.mul_one]
      simp only [List.size_toArray,List.length_append,List.length_take,List.length_drop,Array.length_toList];omega
    · rw [Qgr hkl,hr1,Nat.mul_one]
      rw [hr1,Nat.mul_one] at htake
      have:=Qkb (cs:=cur'.toList) (c:=cs) (off:=m.toNat) (m:=xs.length) (by omega) (by simp;omega)
      rw [htake] at this
      exact this
theorem OpS.copyW {a b : Operand} {v s : Value} {E T2 : TypeId} {z : Value} {by_ : Nat} {xs src xs' : List α} {f' : Bool} (h : St e w Γ Ω) (hp : Pick Ω (f, .slice E r v xs) Ω') (ht : C.P.underlying T = some (.slice E)) (ti : TI C.P E z 1 by_) (hg : gd ops L g = some true) (hd : Nat.blt d C.fn.ntmps = true)
    (hv:V e.w.heap.size Γ f' r.slice s src) (hr1:r.n=1) (hx:ev L a=some v) (hy:ev L b=some s) (hpu:Pure r) (he:lay xs 0 (src.take xs.length)=xs')
    (K : ∀ w', St e w' Γ ((f, .slice E r v xs') :: Ω') → Z ((d, .int .i64 ((min src.length xs.length : Nat) : Int)) :: L) w') : OpS C ops ⟨some d, .call ⟨.builtin .copy, #[a, b], #[T, T2]⟩, t, p, af, g⟩ L w Z := by
  have e0:((xs.length:Int)).toNat-(0:Int).toNat=xs.length:=by simp
  refine OpS.copyG (xs':=xs') (m:=0) (n:=(xs.length:Int)) (k:=(xs.length:Int)) h hp ht ti hg hd hv ⟨Int.le_refl _,by omega,Int.le_refl _,Int.le_refl _⟩ hr1 hx (λ p c e1=>⟨⟨p,c,by rw [e1,e0]⟩,λ gb e2 _=>⟨c,by rw [e1,e2,e0];first | done | rfl⟩⟩) hy hpu (by rw [e0];exact he) (λ w' hw=>?_)
  rw [e0];exact K w' hw
theorem OpS.copyS {a b : Operand} {v : Value} {E T2 : TypeId} {z : Value} {by_ i k : Nat} {xs xs' : List α} (h : St e w Γ Ω) (hp : Pick Ω (f, .slice E r v xs) Ω') (ht : C.P.underlying T = some (.slice E)) (ti : TI C.P E z 1 by_) (hg : gd ops L g = some true) (hd : Nat.blt d C.fn.ntmps = true)
    (hr1:r.n=1) (hx:ev L a=some (part r.n v k xs.length)) (hy:ev L b=some (pre v i)) (hk:k<xs.length) (hi:0<i∧i≤xs.length) (hpu:Pure r) (he:lay xs k (xs.take (min i (xs.length-k)))=xs')
    (K : ∀ w', St e w' Γ ((f, .slice E r v xs') :: Ω') → Z ((d, .int .i64 ((min i (xs.length - k) : Nat) : Int)) :: L) w') : OpS C ops ⟨some d, .call ⟨.builtin .copy, #[a, b], #[T, T2]⟩, t, p, af, g⟩ L w Z := by
  subst he
  obtain ⟨i',hi',hz,hsz,hby2⟩:=ti
  have hsz1:(C.P.info? E).map (·.size)=some 1:=by rw [hi'];simp [hsz]
  have h1:=h.pick hp
  obtain ⟨S,G,I,hst,G1,G2,_,_,_,hown,_⟩:=id h1
  have hxs:xs≠[]:=λ h=>by rw [h] at hk;simp at hk
  rcases Qlq hown with ⟨_,h0⟩ | ⟨gb,cap,cur,rfl,hlc,hcm,hgb,hcs,hG0⟩
  · exact absurd h0 hxs
  have hck:¬ cap=k:=by omega
  have e1:part r.n (.slice (some ⟨gb,0,none⟩) xs.length cap) k xs.length=.slice (some ⟨gb,k,none⟩) (xs.length-k) (cap-k):=by simp [part,hck,hr1,Qaj]
  have e2:pre (.slice (some ⟨gb,0,none⟩) xs.length cap) i=.slice (some ⟨gb,0,none⟩) i cap:=rfl
  rw [e1] at hx
  rw [e2] at hy
  obtain ⟨cs,hcsd⟩:∃ cs,cs=cur.toList.take (min i (xs.length-k)):=⟨_,rfl⟩
  have hcsz:cur.size=cap:=by rw [hcs,hr1];omega
  have hcsl:cs.length=min i (xs.length-k):=by
    have hcl:cur.toList.length=cap:=by rw [← hcsz];exact Array.length_toList
    rw [hcsd,List.length_take,hcl];omega
  have hread:∀ j u,cs[j]?=some u→w.cell? ((⟨gb,0,none⟩:Addr).add j)=some u:=by
    intro j u hj
    rw [Qaj,cell_of_row w gb _ cur E (0,0) hgb]
    rw [hcsd,List.getElem?_take] at hj
    split at hj
    · rw [Nat.zero_add,← Array.getElem?_toList];exact hj
    · cases hj
  have hone:∀ u∈cs,u.oneCell'=true:=by
    intro u hu
    obtain ⟨ys,hown',hel',_⟩:=hown
    rcases hown'.2 with ⟨h0,_⟩ | ⟨b',cap',cur',e1',_,hh',hnc',hcm',hcs',htake⟩
    · cases h0
    simp only [Value.slice.injEq,Option.some.injEq,Addr.mk.injEq,and_true,true_and] at e1'
    obtain ⟨rfl,rfl⟩:=e1'
    rw [hh'] at hgb
    simp only [Option.some.injEq,Obj.cells.injEq,and_true] at hgb
    subst hgb
    refine hel'.one u ?_
    rw [hr1,Nat.mul_one] at htake
    rw [← htake]
    rw [hcsd] at hu
    have:min i (xs.length-k)≤xs.length:=by omega
    exact (List.take_subset_take_left _ this) hu
  have hfit:k+cs.length≤cur.size:=by rw [hcsl,hcsz];omega
  have hrun:=run_copy_row (P:=C.P) w T T2 t E gb k (xs.length-k) (cap-k) ⟨gb,0,none⟩ i cap cur E cs ht hsz1 hgb hcsl hread hfit hone
  refine OpS.val (v:=.int .i64 ((min i (xs.length-k):Nat):Int)) (w':=w.setRow gb (cur.toList.take k++cs++cur.toList.drop (k+cs.length)).toArray) hg rfl hd (λ ac hac=>by rw [← hcsl];simp [execOp,resolve,invoke,builtin,hac.ev hx,hac.ev hy,hrun,goInt]) (K _ (h1.write ?_))
  rintro S' G1' hs' ⟨ys,hown',hel',hG'⟩ hdis _ hlt
  rcases hown'.2 with ⟨h0,_⟩ | ⟨b',cap',cur',e1',hb0,hh',hnc',hcm',hcs',htake⟩
  · cases h0
  simp only [Value.slice.injEq,Option.some.injEq,Addr.mk.injEq,and_true,true_and] at e1'
  obtain ⟨rfl,rfl⟩:=e1'
  rw [hh'] at hgb
  simp only [Option.some.injEq,Obj.cells.injEq,and_true] at hgb
  subst hgb
  have hG'' : ∀ c, G1' c ↔ c = gb := fun c => by rw [hG']; simp [Value.ownBlock, eq_comm]
  have hS:∀ c,fl f e.w.heap.size S' c→(w.setRow gb (cur'.toList.take k++cs++cur'.toList.drop (k+cs.length)).toArray).heap[c]?=w.heap[c]? :=
    fun c hc => setRow_other w gb c _ (fun h => hdis c hc.1 ((hG'' c).2 h))
  have hl2:(xs.take (min i (xs.length-k))).length=cs.length:=by rw [hcsl,List.length_take];omega
  have hkl:k+(xs.take (min i (xs.length-k))).length≤xs.length:=by rw [hl2,hcsl];omega
  have hye:ys=cur'.toList.take xs.length:=by rw [hr1,Nat.mul_one] at htake;exact htake.symm
  have helc:Elems r (fl f e.w.heap.size S') w cs (xs.take (min i (xs.length-k))):=by
    have:=hel'.take (min i (xs.length-k))
    rw [hr1,Nat.mul_one,hye,List.take_take,show min (min i (xs.length-k)) xs.length=min i (xs.length-k) by omega] at this
    rw [hcsd];exact this
  have hml:k*r.n=k:=by rw [hr1];omega
  have hlay:=Elems.lay (k:=k) (hel'.stab (λ _ h=>h) hS) (helc.stab (λ _ h=>h) hS)
  rw [hml] at hlay
  refine ⟨G1', fun b hb => .inl hb, ⟨rfl, rfl, rfl, by simp⟩, fun c _ hc => setRow_other w gb c _ (fun h => hc ((hG'' c).2 h)), ys.take k ++ cs ++ ys.drop (k + cs.length), ⟨?_, .inr ⟨gb, cap, _, by rw [Qgr hkl], Nat.zero_le _, setRow_heap w gb _ _ E _ hh', by rw [Qgr hkl]; exact hnc', hcm', ?_, ?_⟩⟩, hlay, hG'⟩
  · rw [Qgr hkl]
    have hy:=hown'.1
    rw [hr1,Nat.mul_one] at hy
    rw [hr1,Nat.mul_one]
    simp only [List.length_append,List.length_take,List.length_drop,hy];omega
  · rw [hr1,Nat.mul_one]
    simp only [List.size_toArray,List.length_append,List.length_take,List.length_drop,Array.length_toList];omega
  · rw [Qgr hkl,hr1,Nat.mul_one]
    rw [hr1,Nat.mul_one] at htake
    have:=Qkb (cs:=cur'.toList) (c:=cs) (off:=k) (m:=xs.length) (by omega) (by simp;omega)
    rw [htake] at this
    exact this
end
end Lift
