import Derived.Test.YtahlmfpllhmjoaaGreatDoorLiftK
import Derived.Laws.BytesArg
set_option linter.unusedVariables false
set_option linter.unusedSimpArgs false
namespace Lift
open Go
def Rep.raw {α:Type} (v:Value):Rep α where
  n:=1
  agg:=false
  rel:=λ _ _ cs _=>cs=[v]∧v.oneCell'=true
  len:=by intro _ _ _ _ h;rw [h.1];rfl
  one:=by intro _ _ _ _ h c hc;rw [h.1] at hc;simp at hc;rw [hc];exact h.2
  stab:=by intro _ _ _ _ _ _ _ _ h;exact h
theorem Zr.raw {α:Type} {v:Value} (h:v.oneCell'=true) (x:α):Zr (.raw v) [v] x:=λ _ _=>⟨rfl,h⟩
theorem V.raw {α:Type} {B:Nat} {Γ:List (Bool×Atom)} {f:Bool} {v:Value} (h:v.oneCell'=true) (x:α):V B Γ f (.raw v) v x:=λ _ _ _=>⟨rfl,h⟩
theorem Ty.like {α β:Type} {P:Program} {t:TypeId} {r:Rep α} {r':Rep β} (h:Ty P t r) (hn:r.n=r'.n) (ha:r.agg=r'.agg):Ty P t r':=⟨ha ▸ h.ag,hn ▸ h.sz,λ e=>hn ▸ h.fl (ha.trans e)⟩
theorem own_one {α:Type} {T:TypeId} {r:Rep α} {v:Value} {l:List α} {S G:Blks} {w:World} (h:(HAtom.slice T r v l).p G S w):v.oneCell'=true:=by
  obtain ⟨xs,hown,_,_⟩:=h
  rcases hown.2 with ⟨rfl,_⟩ | ⟨g,cap,cur,rfl,_⟩<;>rfl
theorem St.own1 {α : Type} {e : En} {w : World} {Γ : List (Bool × Atom)} {Ω Ω' : List (Bool × HAtom)} {f : Bool} {T : TypeId} {r : Rep α} {v : Value} {l : List α} (h : St e w Γ Ω) (hp : Pick Ω (f, .slice T r v l) Ω') : v.oneCell' = true := by
  obtain ⟨S,G,I,hs,ho⟩:=h
  obtain ⟨_,_,_,_,_,h4,_⟩:=ho.pick hp
  exact own_one h4
theorem St.raw_eq {α:Type} {e:En} {w:World} {Γ:List (Bool×Atom)} {Ω:List (Bool×HAtom)} {f:Bool} {u v:Value} {y:α} (h:St e w ((f,.val (.raw v) u y)::Γ) Ω):u=v:=by
  obtain ⟨_,_,_,hs,_⟩:=h
  have:=hs.1
  simp only [Atom.val,Rep.val,Rep.raw,List.cons.injEq,and_true] at this
  exact this.1
structure GetS {α β:Type} (r:Rep α) (off:Nat) (fr:Rep β) (x:α) (y:β):Prop where
  ok:Get r off fr x y
theorem GetS.id {α:Type} {r:Rep α} {x:α}:GetS r 0 r x x:=⟨Get.id⟩
theorem GetS.here {α β γ:Type} {r:Rep α} {s:Rep β} {fr:Rep γ} {off:Nat} {x:α×β} {y:γ} (h:GetS r off fr x.1 y):GetS (r.prod s) off fr x y:=by
  constructor
  intro S w cs ⟨c,d,e,h1,h2⟩
  subst e
  obtain ⟨f1,a1⟩:=h.ok h1
  have hl:=r.len h1
  refine ⟨by simp only [Rep.prod];omega,?_⟩
  rw [List.drop_append_of_le_length (by omega),List.take_append_of_le_length (by simp;omega)];exact a1
theorem GetS.there {α β γ:Type} {r:Rep α} {s:Rep β} {fr:Rep γ} {off:Nat} {x:α×β} {y:γ} (h:GetS s off fr x.2 y):GetS (r.prod s) (r.n+off) fr x y:=by
  constructor
  intro S w cs ⟨c,d,e,h1,h2⟩
  subst e
  obtain ⟨f1,a1⟩:=h.ok h2
  have hl:=r.len h1
  refine ⟨by simp only [Rep.prod];omega,?_⟩
  rw [← hl,List.drop_length_add_append];exact a1
theorem GetS.iso {α β γ:Type} {r:Rep α} {fr:Rep γ} {off:Nat} (f:β→α) {x:β} {y:γ} (h:GetS r off fr (f x) y):GetS (r.iso f) off fr x y:=⟨λ hr=>h.ok hr⟩
structure Chg {α β:Type} (r r':Rep α) (off:Nat) (fr:Rep β) (x:α) (y:β) (x':α):Prop where
  ch:∀ {S w cs c},r.rel S w cs x→fr.rel S w c y→off+fr.n≤r.n∧r'.rel S w (cs.take off++c++cs.drop (off+fr.n)) x'
theorem Chg.id {α:Type} {r r':Rep α} (hn:r'.n=r.n) {x y:α}:Chg r r' 0 r' x y y:=by
  constructor
  intro S w cs c hr hy
  have hl:=r.len hr
  exact ⟨by omega,by simpa [← hl,hn] using hy⟩
theorem Chg.here {α β γ:Type} {r r':Rep α} {s:Rep β} {fr:Rep γ} {off:Nat} {x:α×β} {y:γ} {z:α} (h:Chg r r' off fr x.1 y z):Chg (r.prod s) (r'.prod s) off fr x y (z,x.2):=by
  constructor
  intro S w cs c hr hy
  obtain ⟨c1,d,rfl,h1,h2⟩:=hr
  obtain ⟨f1,a1⟩:=h.ch h1 hy
  have hl:=r.len h1
  refine ⟨by simp only [Rep.prod];omega,c1.take off++c++c1.drop (off+fr.n),d,?_,a1,h2⟩
  rw [List.take_append_of_le_length (by omega),List.drop_append_of_le_length (by omega)];simp
theorem Chg.there {α β γ:Type} {r:Rep α} {s s':Rep β} {fr:Rep γ} {off:Nat} {x:α×β} {y:γ} {z:β} (h:Chg s s' off fr x.2 y z):Chg (r.prod s) (r.prod s') (r.n+off) fr x y (x.1,z):=by
  constructor
  intro S w cs c hr hy
  obtain ⟨c1,d,rfl,h1,h2⟩:=hr
  obtain ⟨f1,a1⟩:=h.ch h2 hy
  have hl:=r.len h1
  refine ⟨by simp only [Rep.prod];omega,c1,d.take off++c++d.drop (off+fr.n),?_,h1,a1⟩
  rw [← hl,Nat.add_assoc,List.take_length_add_append,List.drop_length_add_append];simp
theorem Chg.iso {α β γ:Type} {r r':Rep α} {fr:Rep γ} {off:Nat} (f:β→α) {x x':β} {y:γ} (h:Chg r r' off fr (f x) y (f x')):Chg (r.iso f) (r'.iso f) off fr x y x':=⟨λ hr hy=>h.ch hr hy⟩
theorem Chg.of {α β : Type} {r r' : Rep α} {off : Nat} {fr : Rep β} {x x' x'' : α} {y : β} (h : Chg r r' off fr x y x') (e : x' = x'') : Chg r r' off fr x y x'' := e ▸ h
def Jn {α:Type} (S:Blks) (w:World) (r r':Rep α) (x x':α):Prop:=∀ cs,r.rel S w cs x→r'.rel S w cs x'
theorem Jn.refl {α:Type} {S:Blks} {w:World} {r:Rep α} {x:α}:Jn S w r r x x:=λ _ h=>h
theorem Jn.raw {α:Type} {S:Blks} {w:World} {r:Rep α} {v:Value} {x y:α} (h:r.val S w v y) (ha:r.agg=false):Jn S w (.raw v) r x y:=by
  intro cs hc
  rw [hc.1]
  unfold Rep.val at h
  rw [ha] at h;exact h
theorem Jn.prod {α β:Type} {S:Blks} {w:World} {r r':Rep α} {s s':Rep β} {x x':α} {y y':β} (h:Jn S w r r' x x') (k:Jn S w s s' y y'):Jn S w (r.prod s) (r'.prod s') (x,y) (x',y'):=by
  rintro cs ⟨c,d,e,h1,h2⟩
  exact ⟨c,d,e,h _ h1,k _ h2⟩
theorem Jn.iso {α β:Type} {S:Blks} {w:World} {r r':Rep α} (f:β→α) {x x':β} (h:Jn S w r r' (f x) (f x')):Jn S w (r.iso f) (r'.iso f) x x':=λ cs hc=>h cs hc
theorem V.jn {α:Type} {B:Nat} {Γ:List (Bool×Atom)} {f:Bool} {r r':Rep α} {v:Value} {x x':α} (h:V B Γ f r v x) (ha:r.agg=r'.agg) (k:∀ S w,Sat B S w Γ→Jn (fl f B S) w r r' x x'):V B Γ f r' v x':=by
  intro S w hs
  have h1:=h S w hs
  unfold Rep.val at h1 ⊢
  rw [ha] at h1
  split at h1
  · obtain ⟨cs,e1,hr⟩:=h1;exact ⟨cs,e1,k S w hs cs hr⟩
  · exact k S w hs _ h1
theorem St.boxJ {α:Type} {e:En} {w:World} {Γ:List (Bool×Atom)} {Ω:List (Bool×HAtom)} {f:Bool} {T0:TypeId} {r r':Rep α} {q:Value} {x x':α} (h:St e w Γ ((f,.box T0 r q x)::Ω)) (k:∀ S w,Sat e.w.heap.size S w Γ→Jn (fl f e.w.heap.size S) w r r' x x'):St e w Γ ((f,.box T0 r' q x')::Ω):=by
  obtain ⟨S,G,I,hs,G1,G2,h1,h2,h3,⟨g,cs,e1,hG,hh,hr⟩,h5⟩:=h
  exact ⟨S,G,I,hs,G1,G2,h1,h2,h3,⟨g,cs,e1,hG,hh,k S w hs cs hr⟩,h5⟩
theorem Jn.same {α:Type} {S:Blks} {w:World} {v:Value} {x y:α}:Jn S w (.raw v) (.raw v) x y:=λ _ h=>h
theorem St.addV {α:Type} {e:En} {w:World} {Γ:List (Bool×Atom)} {Ω:List (Bool×HAtom)} {f:Bool} {r:Rep α} {v:Value} {x:α} (h:St e w Γ Ω) (hv:V e.w.heap.size Γ f r v x):St e w ((f,.val r v x)::Γ) Ω :=
  h.addΓ (λ S hs=>hv S w hs)
def pre (v:Value) (k:Nat):Value:=match v with
  | .slice p _ c=>.slice p k c
  | v=>v
def lay {α:Type} (l:List α) (k:Nat) (m:List α):List α:=l.take k++m++l.drop (k+m.length)
theorem Qgr {α:Type} {l m:List α} {k:Nat} (h:k+m.length≤l.length):(lay l k m).length=l.length:=by simp [lay];omega
theorem Elems.lay {α:Type} {r:Rep α} {S:Blks} {w:World} {l m:List α} {cs c:List Value} {k:Nat} (h:Elems r S w cs l) (hm:Elems r S w c m):Elems r S w (cs.take (k*r.n)++c++cs.drop (k*r.n+c.length)) (lay l k m):=by
  unfold Lift.lay
  rw [hm.len,← Nat.add_mul]
  exact Elems.append (h.drop _) (Elems.append hm (h.take k))
section
variable {C:Cx} {L:List (Nat×Value)} {w:World} {ops:Array Oper} {Z:List (Nat×Value)→World→Prop} {d:Nat} {t T:TypeId} {p:String} {af:Array Edge} {g:Option (Nat×Bool)}
variable {e : En} {Γ : List (Bool × Atom)} {Ω Ω' : List (Bool × HAtom)} {f : Bool} {α β : Type} {r r' : Rep α} {fr : Rep β} {x : α} {y : β}
theorem OpS.storeC {a z : Operand} {q qv v : Value} {off : Nat} {T0 : TypeId} {x' : α} {f' : Bool} (h : St e w Γ Ω) (hp : Pick Ω (f, .box T0 r q x) Ω') (hq : PA q off qv) (hpu : Chg r r' off fr x y x') (ht : Ty C.P T fr) (hg : gd ops L g = some true)
    (hx:ev L a=some qv) (hz:ev L z=some v) (hv:V e.w.heap.size Γ f' fr v y) (hf:f'=true∨f=false)
    (K : ∀ w', St e w' Γ ((f, .box T0 r' q x') :: Ω') → Z L w') : OpS C ops ⟨none, .store T a z, t, p, af, g⟩ L w Z := by
  have h1:=h.pick hp
  have hb:∃ b cs,q=.pointer (some ⟨b,0,none⟩)∧w.heap[b]?=some (.cells cs T0 (0,0))∧off+fr.n≤cs.size:=by
    obtain ⟨S,G,I,hs,G1,G2,_,_,_,⟨b,cs,e1,_,hh,hr⟩,_⟩:=h1
    exact ⟨b,_,e1,hh,by have:=(hpu.ch hr (Rep.val_cells (hv.as hf hs))).1;have hl:=r.len hr;simpa [hl] using this⟩
  obtain ⟨b,cs,rfl,hh,hfit⟩:=hb
  have hqv:=hq _ rfl
  rw [Qaj,Nat.zero_add] at hqv
  subst hqv
  obtain ⟨S0,w1,hv1⟩:∃ S0 w1,fr.rel S0 w1 v.cells.toList y:=by
    obtain ⟨S,G,I,hs,_⟩:=h1;exact ⟨_,_,Rep.val_cells (hv S w hs)⟩
  have hrun:=Qjn (w:=w) ht hh hv1 hfit
  refine OpS.eff hg rfl (λ ac hac=>Qku rfl (hac.ev hx) (hac.ev hz) hrun) (K _ (h1.write ?_))
  rintro S G1 hs ⟨b',cs',e1,hG,hh',hr⟩ hdis _ hlt
  simp only [Value.pointer.injEq,Option.some.injEq,Addr.mk.injEq,and_true] at e1
  subst e1
  rw [hh'] at hh
  simp only [Option.some.injEq,Obj.cells.injEq,and_true] at hh
  subst hh
  refine ⟨G1,λ b hb=>.inl hb,⟨rfl,rfl,rfl,by simp⟩,λ c _ hc=>setRow_other w b c _ (λ h=>hc ((hG c).2 h)),b,_,rfl,hG,setRow_heap w b _ _ T0 _ hh',?_⟩
  have hS:∀ c,fl f e.w.heap.size S c→(w.setRow b (cs'.toArray.toList.take off++v.cells.toList++cs'.toArray.toList.drop (off+fr.n)).toArray).heap[c]?=w.heap[c]? :=
    λ c hc=>setRow_other w b c _ (λ h=>hdis c hc.1 ((hG c).2 h))
  have:=(hpu.ch (r.stab (λ _ h=>h) hS hr) (fr.stab (λ _ h=>h) hS (Rep.val_cells (hv.as hf hs)))).2
  simpa using this
theorem OpS.loadR {a : Operand} {q qv v : Value} {off : Nat} {T0 : TypeId} {rr : Rep β} (h : St e w Γ Ω) (hp : Pick Ω (f, .box T0 r q x) Ω') (hq : PA q off qv) (hge : Get r off (.raw v) x y) (ht : Ty C.P T rr) (hn : rr.n = 1) (ha : rr.agg = false) (hg : gd ops L g = some true) (hd : Nat.blt d C.fn.ntmps = true)
    (hx:ev L a=some qv) (K:Z ((d,v)::L) w):OpS C ops ⟨some d,.load T a,t,p,af,g⟩ L w Z :=
  OpS.loadB h hp hq hge (ht.like hn ha) hg hd hx (λ u hu=>by rw [hu.raw_eq];exact K)
theorem OpS.preS {a : Operand} {lo hi : Option Operand} {v : Value} {E : TypeId} {n : Int} {xs : List α} (h : St e w Γ Ω) (hp : Pick Ω (f, .slice E r v xs) Ω') (ht : C.P.underlying T = some (.slice E)) (hE : Ty C.P E r) (hg : gd ops L g = some true) (hd : Nat.blt d C.fn.ntmps = true) (hx : ev L a = some v)
    (hlo:bnd L lo 0=some 0) (hhi:bnd L hi xs.length=some n) (h0:0≤n) (h1:n≤xs.length) (K:Z ((d,pre v n.toNat)::L) w):OpS C ops ⟨some d,.slice T a lo hi none,t,p,af,g⟩ L w Z:=by
  obtain ⟨S,G,I,hst,ho⟩:=h
  obtain ⟨_,_,_,_,_,⟨_,hown,_,_⟩,_⟩:=ho.pick hp
  obtain ⟨pa,cap,rfl,hlc⟩:∃ pa cap,v=.slice pa xs.length cap∧xs.length≤cap:=by
    rcases hown.2 with ⟨rfl,hn⟩ | ⟨gb,cap,cur,rfl,_,_,hnc,_⟩
    · exact ⟨none,0,by rw [hn],by omega⟩
    · exact ⟨_,cap,rfl,hnc⟩
  refine OpS.val (v:=.slice pa n.toNat cap) (w':=w) hg rfl hd (λ ac hac=>?_) K
  have hsz:=hE.size w
  have hnc:n≤(cap:Int):=by omega
  have hm:(Instr.sliceBounds true xs.length cap (lo.map ac.eval) (hi.map ac.eval) none).run C.P w=.ok (0,n.toNat,cap) w:=by
    rcases Qgy hac hlo with ⟨rfl,_⟩ | ⟨x1,q1,rfl,hx1⟩<;>rcases Qgy hac hhi with ⟨rfl,rfl⟩ | ⟨x2,q2,rfl,hx2⟩
    · simp [Instr.sliceBounds]
    · simp [Instr.sliceBounds,hx2,Instr.sliceBound,asIntOf,h0,hnc]
    · simp [Instr.sliceBounds,hx1,Instr.sliceBound,asIntOf]
    · have h1':(0:Int)≤max n 0:=by omega
      simp [Instr.sliceBounds,hx1,hx2,Instr.sliceBound,asIntOf,h0,hnc]
  have hcz:(if cap=0 then pa else pa.map (·.add (0*r.n)))=pa:=by
    split
    · rfl
    · cases pa with
      | none=>rfl
      | some a0 => rcases hown.2 with ⟨e1, _⟩ | ⟨gb, cap', cur, e1, _⟩
                   · simp at e1
                   · simp only [Value.slice.injEq,Option.some.injEq] at e1;rw [e1.1];simp [Qaj]
  simp [execOp,hac.ev hx,Instr.sliceAt,run_underlying ht,Instr.slice,hm,hsz]
  simpa using hcz
theorem OpS.callPF {kf : FuncId} {fn : Func} {x : Operand} {fl cl : List Value} {as : List Operand} {vs : List Value} {at_ : Array TypeId} {Γa : List (Bool × Atom)} {R : Shape} (h : St e w Γ Ω) (hf : C.P.funcs[kf]? = some fn) (hb : fn.body.isSome = true) (hn : (fn.name == "runtime.NumGoroutine") = false)
    (hg:gd ops L g=some true) (hd:Nat.blt d C.fn.ntmps=true) (hx:ev L x=some (.func (.func kf) fl.toArray cl.toArray)) (hv:as.map (ev L)=vs.map some) (hs:Spec C.P kf (fl++vs++cl).toArray w Γa [] R) (ha:Args e.w.heap.size Γ Ω Γa)
    (K:∀ v w' Γr Ωr Ωo,R v Γr Ωr Ωo→(allT Γr=true→allT Ωr=true→St e w' (Γr++Γ) (Ωr++Ω))→Z ((d,v)::L) w') :
    OpS C ops ⟨some d,.call ⟨.value x,as.toArray,at_⟩,t,p,af,g⟩ L w Z :=
  OpS.callPG h hg rfl hd (λ ac hac=>Quf hac hf hb hn hx hv w) hs ha K
theorem OpS.mkf {kf:FuncId} {fs cs:List Operand} {fl cl:List Value} (hg:gd ops L g=some true) (hd:Nat.blt d C.fn.ntmps=true) (hv:fs.map (ev L)=fl.map some) (hv2:cs.map (ev L)=cl.map some)
    (K:Z ((d,.func (.func kf) fl.toArray cl.toArray)::L) w):OpS C ops ⟨some d,.makeFunc (.func kf) fs.toArray cs.toArray,t,p,af,g⟩ L w Z:=by
  refine OpS.val hg rfl hd (λ ac hac=>?_) K
  have key:∀ (as:List Operand) (vs:List Value),as.map (ev L)=vs.map some→as.map ac.eval=vs:=by
    intro as
    induction as with
    | nil=>intro vs h;cases vs with
      | nil=>rfl
      | cons _ _=>cases h
    | cons x as ih=>intro vs h;cases vs with
      | nil=>cases h
      | cons v vs =>
        simp only [List.map_cons,List.cons.injEq] at h
        rw [List.map_cons,ih vs h.2,hac.ev h.1]
  simp [execOp,Instr.makeFunc,key fs fl hv,key cs cl hv2]
end
end Lift
