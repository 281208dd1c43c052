import Derived.Test.YtahlmfpllhmjoaaGreatDoorLiftZ
import Derived.MapKept
set_option linter.unusedVariables false
set_option linter.unusedSimpArgs false
namespace Lift
open Go
section
variable {C:Cx} {L:List (Nat×Value)} {w:World} {ops:Array Oper} {Z:List (Nat×Value)→World→Prop} {d:Nat} {t T:TypeId} {p:String} {af:Array Edge} {g:Option (Nat×Bool)}
variable {e : En} {Γ : List (Bool × Atom)} {Ω Ω' : List (Bool × HAtom)} {f : Bool} {α β : Type} {r r' : Rep α} {fr : Rep β} {x : α} {y : β}
end
def kfind {κ α:Type} (eq:κ→κ→Bool):List (κ×α)→κ→Option α
  | [],_=>none
  | (a,x)::l,k=>if eq k a=true then some x else kfind eq l k
def kget {κ α:Type} (eq:κ→κ→Bool) (z:α) (l:List (κ×α)) (k:κ):α:=(kfind eq l k).getD z
def kput {κ α:Type} (eq:κ→κ→Bool):List (κ×α)→κ→α→List (κ×α)
  | [],k,x=>[(k,x)]
  | (a,y)::l,k,x=>if eq k a=true then (k,x)::l else (a,y)::kput eq l k x
structure KeyT {κ:Type} (P:Program) (t:TypeId) (r:Rep κ) (eq:κ→κ→Bool):Prop where
  chk:∀ {S:Blks} {w:World} {v:Value} {x:κ} (b:Bool),r.val S w v x→(Instr.checkKey b 10000 t v).run P w=.ok () w
  req:∀ {S S':Blks} {w:World} {v v':Value} {x y:κ},r.val S w v x→r.val S' w v' y→(Op.equal t v v').run P w=.ok (eq x y) w
  fn:∃ d,P.underlying t=some d∧∀ a b,Instr.sameNow d a b=none
  bits:∀ {S S':Blks} {w w':World} {v v':Value} {x y:κ},r.val S w v x→r.val S' w' v' y→eq x y=true→Instr.sameBits 10000 v' v=true
def Kents {κ α:Type} (kr:Rep κ) (r:Rep α) (S:Blks) (w:World):List MapEntry→List (κ×α)→Prop
  | [],[]=>True
  | e::es,(k,x)::l=>kr.val S w e.key k∧r.val S w e.val x∧Kents kr r S w es l
  | _,_=>False
theorem Kents.stab {κ α:Type} {kr:Rep κ} {r:Rep α} {S S':Blks} {w w':World} (a:∀ b,S b→S' b) (k:∀ b,S b→w'.heap[b]?=w.heap[b]?) :
    ∀ {es:List MapEntry} {l:List (κ×α)},Kents kr r S w es l→Kents kr r S' w' es l
  | [],[],h=>h
  | _::_,(_,_)::_,⟨h1,h2,h3⟩=>⟨kr.val_stab a k h1,r.val_stab a k h2,Kents.stab a k h3⟩
  | [],_::_,h=>h.elim
  | _::_,[],h=>h.elim
def HAtom.mpk {κ α:Type} (T:TypeId) (kr:Rep κ) (r:Rep α) (v:Value) (l:List (κ×α)):HAtom where
  p:=λ G S w=>∃ g es ck,v=.map (some g)∧(∀ b,G b↔b=g)∧w.heap[g]?=some (.map es ck)∧Kents kr r S w es.toList l
  st:=by
    intro G S S' w w' a k kg ⟨g,es,ck,e,hG,hh,hm⟩
    exact ⟨g,es,ck,e,hG,by rw [kg g ((hG g).2 rfl)];exact hh,hm.stab a k⟩
theorem Qhd {P:Program} {w:World} {kt:TypeId} {d:TypeDesc} {k:Value} {l:List MapEntry} {a:Option (Nat×Value)} (hd:P.underlying kt=some d) (hn:∀ a b,Instr.sameNow d a b=none) (h:(Instr.findAsking kt k l 0).run P w=.ok a w):(Instr.findKey kt k l).run P w=.ok a w:=by
  cases l with
  | nil=>simp [Instr.findKey,run_underlying hd,Result.andThen,Instr.findNow];simpa [Instr.findAsking] using h
  | cons e es=>simp [Instr.findKey,run_underlying hd,Result.andThen,Instr.findNow,hn,h]
theorem Qji {κ α:Type} {P:Program} {kt:TypeId} {kr:Rep κ} {eq:κ→κ→Bool} (K:KeyT P kt kr eq) {r:Rep α} {S S0:Blks} {w:World} {v:Value} {kx:κ} (hv:kr.val S0 w v kx):∀ {es:List MapEntry} {l:List (κ×α)} (i:Nat),Kents kr r S w es l →
    (kfind eq l kx=none∧(Instr.findAsking kt v es i).run P w=.ok none w∧∀ x y ck,r.val S w y x→kr.val S w v kx→Kents kr r S w (es++[⟨v,y,ck⟩]) (kput eq l kx x)) ∨
    ∃ j u x e,kfind eq l kx=some x∧r.val S w u x∧(Instr.findAsking kt v es i).run P w=.ok (some (i+j,u)) w∧es[j]?=some e∧Instr.sameBits 10000 e.key v=true ∧
      ∀ x y,r.val S w y x→kr.val S w v kx→Kents kr r S w (es.modify j λ e=>{ e with key:=v,val:=y }) (kput eq l kx x)
  | [],[],i,_=>.inl ⟨rfl,rfl,λ x y ck hy hk=>⟨hk,hy,trivial⟩⟩
  | e::es,(k,x)::l,i,⟨h1,h2,h3⟩=>by
    have he:=K.req hv h1
    by_cases hs:eq kx k=true
    · refine .inr ⟨0,e.val,x,e,by simp [kfind,hs],h2,by simp [Instr.findAsking,he,hs,Result.andThen],rfl,K.bits hv h1 hs,λ x' y hy hk=>?_⟩
      simp only [kput,hs,if_true,List.modify_zero_cons]
      exact ⟨hk,hy,h3⟩
    · have hs':eq kx k=false:=by simpa using hs
      have hf:(Instr.findAsking kt v (e::es) i).run P w=(Instr.findAsking kt v es (i+1)).run P w:=by simp [Instr.findAsking,he,hs',Result.andThen]
      rw [hf]
      rcases Qji K hv (i+1) h3 with ⟨h4,h5,h6⟩ | ⟨j,u,x',e',h4,h5,h6,h7,h8,h9⟩
      · refine .inl ⟨by simp [kfind,hs',h4],h5,λ x' y ck hy hk=>?_⟩
        simp only [kput,hs',Bool.false_eq_true,if_false]
        exact ⟨h1,h2,h6 x' y ck hy hk⟩
      · refine .inr ⟨j + 1, u, x', e', by simp [kfind, hs', h4], h5, by rw [h6, Nat.add_assoc, Nat.add_comm 1 j], by simpa using h7, h8, fun x'' y hy hk => ?_⟩
        simp only [kput,hs',Bool.false_eq_true,if_false,List.modify_succ_cons]
        exact ⟨h1, h2, h9 x'' y hy hk⟩
  | [],_::_,_,h=>h.elim
  | _::_,[],_,h=>h.elim
def Kb {κ:Type} (r:Rep κ) (eq:κ→κ→Bool):Prop:=∀ {S S':Blks} {w w':World} {cs cs':List Value} {x y:κ},r.rel S w cs x→r.rel S' w' cs' y→eq x y=true→cs=cs'∧∀ c∈cs,∀ n,Instr.sameBits n c c=true
theorem Kb.int {q:IntKind}:Kb (Rep.int q) eqI:=by
  intro S S' w w' cs cs' x y h h' he
  have e1:cs=[.int q x]:=h
  have e2:cs'=[.int q y]:=h'
  have e3:x=y:=by simpa [eqI] using he
  subst e1 e2 e3
  refine ⟨rfl,λ c hc n=>?_⟩
  simp only [List.mem_singleton] at hc
  subst hc
  simp [Instr.sameBits]
theorem Kb.unit:Kb Rep.unit (λ _ _=>true):=by
  intro S S' w w' cs cs' x y h h' _
  have e1:cs=[]:=h
  have e2:cs'=[]:=h'
  subst e1 e2
  exact ⟨rfl,λ c hc=>by cases hc⟩
theorem Kb.prod {α β:Type} {r:Rep α} {s:Rep β} {e1:α→α→Bool} {e2:β→β→Bool} (h1:Kb r e1) (h2:Kb s e2):Kb (r.prod s) (λ x y=>e1 x.1 y.1&&e2 x.2 y.2):=by
  rintro S S' w w' cs cs' x y ⟨c,d,rfl,a1,a2⟩ ⟨c',d',rfl,b1,b2⟩ he
  simp only [Bool.and_eq_true] at he
  obtain ⟨rfl,k1⟩:=h1 a1 b1 he.1
  obtain ⟨rfl,k2⟩:=h2 a2 b2 he.2
  refine ⟨rfl,λ v hv n=>?_⟩
  rcases List.mem_append.1 hv with hv | hv
  · exact k1 v hv n
  · exact k2 v hv n
theorem Kb.iso {α β:Type} (f:β→α) {r:Rep α} {e1:α→α→Bool} (h:Kb r e1):Kb (Rep.iso f r) (λ x y=>e1 (f x) (f y)):=λ h1 h2 he=>h h1 h2 he
def CkP {κ:Type} (P:Program) (r:Rep κ) (p:Nat×TypeId):Prop:=∀ (em:Bool) (n:Nat) {S:Blks} {w:World} {cs:List Value} {x:κ},r.rel S w cs x→∃ a,(Go.part p.2 cs.toArray p.1).run P w=.ok a w∧(Instr.checkKey em (n+1) p.2 a).run P w=.ok () w
theorem CkP.int {κ:Type} {P:Program} {r:Rep κ} {off:Nat} {U:TypeId} {q q':IntKind} {get:κ→Int} {set:κ→Int→κ} (hf:Fld r off (Rep.int q) get set) (hU:Ty P U (Rep.int q)) (h:P.underlying U=some (.int q')):CkP P r (off,U):=by
  intro em n S w cs x hr
  have g1:=hf.get hr
  have l1:=r.len hr
  have hfit:=hf.fit
  refine ⟨_,Qhk hU (cs:=cs) (off:=off) (by omega) w,?_⟩
  have e:(cs.drop off).take (Rep.int q).n=[.int q (get x)]:=g1
  rw [e]
  simp [Instr.checkKey,run_underlying h,Rep.pack,Rep.int]
theorem KeyT.struct {κ:Type} {P:Program} {t:TypeId} {r:Rep κ} {k:Nat} {ps:List (Nat×TypeId)} {eq:κ→κ→Bool} (hs:EqS P t ps) (ha:r.agg=true) (he:EqT P t r eq k) (hk:Nat.ble k 10000=true) (hc:∀ p∈ps,CkP P r p) (hb:Kb r eq):KeyT P t r eq where
  chk:=by
    intro S w v x em hv
    unfold Rep.val at hv
    rw [ha] at hv
    obtain ⟨cs,rfl,hr⟩:=hv
    obtain ⟨fs,h1,h2,h3⟩:=hs
    rw [show (10000:Nat)=9999+1 from rfl,Instr.checkKey]
    simp only [Sem.run_bind,run_underlying h1,Result.andThen_ok]
    rw [← Array.forIn_toList]
    have each : ∀ f ∈ fs.toList, f.name ≠ "_" ∧ CkP P r (f.offset, f.type) := fun f hf => by
      have : (f.name == "_", f.offset, f.type) ∈ ps.map (fun p => (false, p)) := by rw [← h2]; exact List.mem_map.2 ⟨f, hf, rfl⟩
      obtain ⟨p,hp,e⟩:=List.mem_map.1 this
      simp only [Prod.mk.injEq] at e
      obtain ⟨e1,e2⟩:=e
      exact ⟨by simpa using e1.symm,by rw [← e2];exact hc p hp⟩
    clear h2
    generalize fs.toList=L at each
    induction L with
    | nil=>simp
    | cons f L ih =>
      obtain ⟨hn,hp⟩:=each f (by simp)
      obtain ⟨a,p1,p2⟩:=hp em 9998 hr
      simp only at p1 p2
      simp only [List.forIn_cons,Sem.run_bind,hn,ne_eq,not_false_eq_true,if_true,Result.andThen_ok,p1,p2,Sem.run_pure]
      exact ih (λ y hy=>each y (by simp [hy]))
  req:=λ hv hv'=>he.run 10000 (Nat.le_of_ble_eq_true hk) hv hv'
  fn:=by
    obtain ⟨fs,h1,_⟩:=hs
    exact ⟨_,h1,λ a b=>by cases a<;>cases b<;>rfl⟩
  bits:=by
    intro S S' w w' v v' x y hv hv' hxy
    unfold Rep.val at hv hv'
    rw [ha] at hv hv'
    obtain ⟨cs,rfl,hr⟩:=hv
    obtain ⟨cs',rfl,hr'⟩:=hv'
    obtain ⟨rfl,hb⟩:=hb hr hr' hxy
    show Instr.sameBits (9999+1) (.agg cs.toArray) (.agg cs.toArray)=true
    simp only [Instr.sameBits,beq_self_eq_true,Bool.true_and,List.all_eq_true]
    rintro ⟨a,b⟩ hp
    obtain ⟨i,hi⟩:=List.getElem?_of_mem hp
    rw [List.getElem?_zip_eq_some] at hi
    simp only at hi
    obtain ⟨i1,i2⟩:=hi
    rw [i1] at i2
    obtain rfl:=Option.some.inj i2
    exact hb a (List.mem_of_getElem? i1) 9999
section
variable {C:Cx} {L:List (Nat×Value)} {w:World} {ops:Array Oper} {Z:List (Nat×Value)→World→Prop} {d:Nat} {t T:TypeId} {p:String} {af:Array Edge} {g:Option (Nat×Bool)}
variable {e : En} {Γ : List (Bool × Atom)} {Ω Ω' : List (Bool × HAtom)} {f : Bool} {κ α β : Type} {kr : Rep κ} {keq : κ → κ → Bool} {r r' : Rep α} {fr : Rep β} {x : α} {y : β}
theorem OpS.mkmapk {kr:Rep κ} {r:Rep α} (h:St e w Γ Ω) (hg:gd ops L g=some true) (hd:Nat.blt d C.fn.ntmps=true)
    (K:∀ u w',St e w' Γ ((true,.mpk T kr r u [])::Ω)→Z ((d,u)::L) w'):OpS C ops ⟨some d,.makeMap T none,t,p,af,g⟩ L w Z:=by
  refine OpS.val (v:=.map (some w.heap.size)) (w':=w.alloc (.map #[] 0)) hg rfl hd (λ ac hac=>?_) (K _ _ (h.alloc (λ S _ _=>?_)))
  · simp [execOp,Instr.makeMap,newObj,Sem.run]
  · exact ⟨w.heap.size,#[],0,rfl,λ b=>Iff.rfl,by rw [heap_alloc_new],trivial⟩
theorem OpS.mlookk {a k : Operand} {q ks z : Value} {l : List (κ × α)} {kx : κ} {kt et : TypeId} {n b : Nat} {f' : Bool} {x0 : α} (h : St e w Γ Ω) (hp : Pick Ω (f, .mpk T kr r q l) Ω') (hm : C.P.underlying T = some (.map kt et)) (hk : KeyT C.P kt kr keq)
    (ti:TI C.P et z n b) (hz:∀ S w,r.val S w z x0) (hg:gd ops L g=some true) (hd:Nat.blt d C.fn.ntmps=true) (hx:ev L a=some q) (hy:ev L k=some ks) (hv:V e.w.heap.size Γ f' kr ks kx)
    (K:∀ u,St e w ((f,.val r u (kget keq x0 l kx))::Γ) Ω→Z ((d,u)::L) w):OpS C ops ⟨some d,.lookup T a k false,t,p,af,g⟩ L w Z:=by
  obtain ⟨S,G,I,hs,ho⟩:=h
  obtain ⟨G1,G2,h1,h2,h3,⟨r0,es,ck,rfl,hG,hh,hm2⟩,h5⟩:=ho.pick hp
  have hkv:=hv S w hs
  obtain ⟨td,hu,hnn⟩:=hk.fn
  have hrun:∀ v,(∀ ac:Act,Agree C.fn.ntmps L ac→(Instr.lookup T (.map (some r0)) ks false).run C.P w=.ok v w)→r.val (fl f e.w.heap.size S) w v (kget keq x0 l kx)→OpS C ops ⟨some d,.lookup T a k false,t,p,af,g⟩ L w Z:=by
    intro v hr hval
    refine OpS.val (v:=v) (w':=w) hg rfl hd (λ ac hac=>?_) (K v ⟨S,G,I,⟨hval,hs⟩,ho⟩)
    simp [execOp,hac.ev hx,hac.ev hy,hr ac hac]
  rcases Qji hk hkv 0 hm2 with ⟨h6,h7,_⟩ | ⟨j,v,x',_,h6,h7,h8,_,_⟩
  · refine hrun z (λ ac hac=>?_) (by unfold kget;rw [h6];exact hz _ _)
    simp [Instr.lookup,run_underlying hm,MapKept.run_getObj_map hh,hk.chk _ hkv,Qhd hu hnn h7,Result.andThen,Qcz ti]
  · refine hrun v (λ ac hac=>?_) (by unfold kget;rw [h6];exact h7)
    simp [Instr.lookup,run_underlying hm,MapKept.run_getObj_map hh,hk.chk _ hkv,Qhd hu hnn h8,Result.andThen]
theorem OpS.mlookkB {a k : Operand} {q ks : Value} {l : List (κ × Bool)} {kx : κ} {kt et : TypeId} {n b : Nat} {f' : Bool} (h : St e w Γ Ω) (hp : Pick Ω (f, .mpk T kr Rep.bool q l) Ω') (hm : C.P.underlying T = some (.map kt et)) (hk : KeyT C.P kt kr keq)
    (ti:TI C.P et (.bool false) n b) (hg:gd ops L g=some true) (hd:Nat.blt d C.fn.ntmps=true) (hx:ev L a=some q) (hy:ev L k=some ks) (hv:V e.w.heap.size Γ f' kr ks kx)
    (K:Z ((d,.bool (kget keq false l kx))::L) w):OpS C ops ⟨some d,.lookup T a k false,t,p,af,g⟩ L w Z:=by
  refine OpS.mlookk h hp hm hk ti (λ _ _=>rfl) hg hd hx hy hv (λ u hu=>?_)
  obtain ⟨S,G,I,hs,ho⟩:=hu
  have:=hs.1
  simp only [Atom.val,Rep.val,Rep.bool,List.cons.injEq,and_true] at this
  rw [this];exact K
theorem OpS.mupdk {a k x : Operand} {q ks v : Value} {l : List (κ × α)} {kx : κ} {kt et : TypeId} {f1 f' : Bool} {x0 : α} {l' : List (κ × α)} (h : St e w Γ Ω) (hp : Pick Ω (f, .mpk T kr r q l) Ω') (hm : C.P.underlying T = some (.map kt et)) (hk : KeyT C.P kt kr keq)
    (hg:gd ops L g=some true) (hx:ev L a=some q) (hy:ev L k=some ks) (hz:ev L x=some v) (hv1:V e.w.heap.size Γ f1 kr ks kx) (hf1:f1=true∨f=false) (hv:V e.w.heap.size Γ f' r v x0) (hf:f'=true∨f=false)
    (he : kput keq l kx x0 = l') (K : ∀ w', St e w' Γ ((f, .mpk T kr r q l') :: Ω') → Z L w') : OpS C ops ⟨none, .mapUpdate T a k x, t, p, af, g⟩ L w Z := by
  subst he
  have h1:=h.pick hp
  obtain ⟨td,hu,hnn⟩:=hk.fn
  obtain ⟨r0,rfl,es,ck,hh,o,hrun,ho⟩:∃ r0,q=.map (some r0)∧∃ es ck,w.heap[r0]?=some (.map es ck)∧∃ o,(Instr.mapUpdate T (.map (some r0)) ks v).run C.P w=.ok () { w with heap:=w.heap.setIfInBounds r0 o } ∧
      (∀ S G1,Sat e.w.heap.size S w Γ→(HAtom.mpk T kr r (.map (some r0)) l).p G1 (fl f e.w.heap.size S) w→∃ es' ck',o=.map es' ck'∧Kents kr r (fl f e.w.heap.size S) w es'.toList (kput keq l kx x0)):=by
    obtain ⟨S,G,I,hs,G1,G2,_,_,_,⟨r0,es,ck,e1,hG,hh,hm1⟩,_⟩:=h1
    subst e1
    have hkv:=hv1 S w hs
    refine ⟨r0,rfl,es,ck,hh,?_⟩
    have keep:∀ {S:Blks} {G1:Blks},(HAtom.mpk T kr r (.map (some r0)) l).p G1 (fl f e.w.heap.size S) w→Kents kr r (fl f e.w.heap.size S) w es.toList l:=by
      rintro S G1 ⟨r1,es1,ck1,e1,hG,hh1,hm1⟩
      simp only [Value.map.injEq,Option.some.injEq] at e1
      subst e1
      rw [hh] at hh1
      simp only [Option.some.injEq,Obj.map.injEq] at hh1
      obtain ⟨rfl,rfl⟩:=hh1
      exact hm1
    rcases Qji hk hkv 0 hm1 with ⟨h6,h7,_⟩ | ⟨j,u,x',en,h6,h7,h8,h9,h10,_⟩
    · refine ⟨.map (es.push { key:=ks,val:=v,born:=ck }) (ck+1),?_,λ S' G1' hs' hmp=>⟨_,_,rfl,?_⟩⟩
      · simp [Instr.mapUpdate,run_underlying hm,MapKept.run_getObj_map hh,hk.chk _ hkv,Qhd hu hnn h7,MapKept.run_setObj_map _ hh,Result.andThen]
      · rcases Qji hk (hv1 S' w hs') 0 (keep hmp) with ⟨_,_,h8⟩ | ⟨_,_,_,_,h6',_⟩
        · rw [Array.toList_push];exact h8 x0 v ck (hv.as hf hs') (hv1.as hf1 hs')
        · rw [h6] at h6';cases h6'
    · have h9':es[j]?=some en:=by simpa using h9
      refine ⟨.map (es.modify j λ e=>{ e with key:=ks,val:=v }) ck,?_,λ S' G1' hs' hmp=>⟨_,_,rfl,?_⟩⟩
      · simp [Instr.mapUpdate,run_underlying hm,MapKept.run_getObj_map hh,hk.chk _ hkv,Qhd hu hnn h8,h9',Instr.keyThatStays,h10,MapKept.run_setObj_map _ hh,Result.andThen]
      · rcases Qji hk (hv1 S' w hs') 0 (keep hmp) with ⟨h6',_⟩ | ⟨j',_,_,_,_,_,h8',_,_,h11⟩
        · rw [h6] at h6';cases h6'
        · rw [h8] at h8'
          simp only [Result.ok.injEq,Nat.zero_add,Option.some.injEq,Prod.mk.injEq,and_true] at h8'
          obtain ⟨rfl,_⟩:=h8'
          rw [Array.toList_modify];exact h11 x0 v (hv.as hf hs') (hv1.as hf1 hs')
  have hlt:r0<w.heap.size:=(Array.getElem?_eq_some_iff.1 hh).1
  refine OpS.eff hg rfl (λ ac hac=>?_) (K { w with heap:=w.heap.setIfInBounds r0 o } (h1.write ?_))
  · simp [execOp,hac.ev hx,hac.ev hy,hac.ev hz,hrun]
  rintro S G1 hs hmp hdis _ hl1
  obtain ⟨es',ck',rfl,hm3⟩:=ho S G1 hs hmp
  obtain ⟨r1,es1,ck1,e1,hG,hh1,hm1⟩:=hmp
  simp only [Value.map.injEq,Option.some.injEq] at e1
  subst e1
  have hset:=MapKept.heap_set (o':=.map es' ck') hh
  have hoth:∀ c,¬ G1 c→(w.heap.setIfInBounds r0 (.map es' ck'))[c]?=w.heap[c]?:=λ c hc=>hset.2 c (λ e=>hc ((hG c).2 e))
  refine ⟨G1,λ b hb=>.inl hb,⟨rfl,rfl,rfl,by simp⟩,λ c _ hc=>hoth c hc,r0,es',ck',rfl,hG,hset.1,hm3.stab (λ _ h=>h) (λ c hc=>hoth c (λ hg=>hdis c hc.1 hg))⟩
end
end Lift
