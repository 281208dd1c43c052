import Derived.Test.YtahlmfpllhmjoaaGreatDoorLiftJ
import Derived.Lib.BytesEntry
import Derived.Laws.Externs
import Derived.Lib.AppendZerosOnto
set_option linter.unusedVariables false
set_option linter.unusedSimpArgs false
namespace Lift
open Go
theorem idx_ne {α:Type} {l:List α} {i:Int} {x:α} (h:idx l i=some x):l≠[]:=by
  intro e;subst e;have:=idx_some h;simp at this
theorem mk_fits {α:Type} {b:Nat} {x:α} {n:Int} {l:List α} (h:mk b x n=some l):decide (n.toNat*b≤140737488355328)=true:=by
  simpa using (mk_some h).2.1
theorem Run.retP {P:Program} {fk:FuncId} {fn:Func} {e:En} {R:Shape} {hf:P.funcs[fk]?=some fn} {k:List Item} {L:List (Nat×Value)} {w:World} {vs:List Value} {rs:List ResultVar} (hrs:fn.results=rs.toArray) (h:Res L P e w rs vs) (K:Post e R (pkV vs) w) :
    Run ⟨P,fk,fn,Post e R,hf,none,none⟩ (.code .ret::k) L w:=Run.ret rfl rfl (Res.run (C:=⟨P,fk,fn,Post e R,hf,none,none⟩) hrs h) K
theorem Run.finP {P:Program} {fk:FuncId} {fn:Func} {e:En} {R:Shape} {hf:P.funcs[fk]?=some fn} {L:List (Nat×Value)} {w:World} {vs:List Value} {rs:List ResultVar} (hrs:fn.results=rs.toArray) (h:Res L P e w rs vs) (K:Post e R (pkV vs) w) :
    Run ⟨P,fk,fn,Post e R,hf,none,none⟩ [] L w:=Run.fin rfl rfl (Res.run (C:=⟨P,fk,fn,Post e R,hf,none,none⟩) hrs h) K
def tcomp:Value→Nat→Value
  | .tuple vs,i=>vs.getD i undef
  | _,_=>undef
def Atom.eqv (v v':Value):Atom:=⟨λ _ _=>v=v',λ _ _ h=>h⟩
theorem St.dup {e:En} {w:World} {Γ:List (Bool×Atom)} {Ω:List (Bool×HAtom)} {x:Bool×Atom} (h:St e w Γ Ω) (ha:At Γ x):St e w (x::Γ) Ω :=
  h.addΓ (λ _ hs=>hs.at ha)
theorem St.eqv {e:En} {w:World} {Γ:List (Bool×Atom)} {Ω:List (Bool×HAtom)} {v v':Value} (hv:v=v') (h:St e w Γ Ω):St e w ((true,.eqv v v')::Γ) Ω :=
  h.addΓ (λ _ _=>hv)
section
variable {C:Cx} {L:List (Nat×Value)} {w:World} {ops:Array Oper} {Z:List (Nat×Value)→World→Prop} {d:Nat} {t:TypeId} {p:String} {af:Array Edge} {g:Option (Nat×Bool)}
variable {e:En} {Γ:List (Bool×Atom)} {Ω:List (Bool×HAtom)} {f:Bool}
theorem OpS.extT {x:Operand} {i:Nat} {vs:Array Value} {v u:Value} (h:St e w Γ Ω) (ha:At Γ (f,.eqv v (.tuple vs))) (hg:gd ops L g=some true) (hd:Nat.blt d C.fn.ntmps=true) (hx:ev L x=some v) (hi:vs[i]?=some u)
    (K:Z ((d,u)::L) w):OpS C ops ⟨some d,.extract x i,t,p,af,g⟩ L w Z:=by
  obtain ⟨S,G,I,hs,hO⟩:=h
  have hv:v=.tuple vs:=hs.at ha
  exact OpS.ext hg hd (by rw [hx,hv]) hi K
end
def factV:List Sp→(Nat→Value)→Nat→List (Bool×Atom)
  | [],_,_=>[]
  | sp::r,q,i=>sp.fact (sp.cur (q i))++factV r q (i+1)
def outV:List Sp→(Nat→Value)→Nat→List (Nat×Value)
  | [],_,_=>[]
  | sp::r,q,i=>sp.slot (q i)++outV r q (i+1)
theorem drawV_eq (q:Nat→Value):∀ (sps:List Sp) (vs:List Value) (i:Nat),vs.length=sps.length→(∀ j,j<vs.length→q (i+j)=vs.getD j undef)→factL sps vs=factV sps q i∧outL sps vs=outV sps q i
  | [],vs,i,h,_=>by cases vs<;>simp [factL,outL,factV,outV]
  | sp::r,[],i,h,_=>by simp at h
  | sp::r,v::vs,i,h,hq=>by
    have h0:q i=v:=by simpa using hq 0 (by simp)
    obtain ⟨a,c⟩:=drawV_eq q r vs (i+1) (by simpa using h) (λ j hj=>by have:=hq (j+1) (by simpa using hj);rw [Nat.add_assoc,Nat.add_comm 1 j,this];simp)
    simp only [factL,outL,factV,outV,h0,a,c];simp
theorem Run.drawV {C:Cx} {k:List Item} {L:List (Nat×Value)} {w:World} {e:En} {Γ:List (Bool×Atom)} {id:Nat} {l:List Oper} {Ωs:List (Bool×HAtom)} (sps:List Sp) (deps:List (List Nat)) (Ωi:List (List (Bool×HAtom))) (fin:List Nat) (hm:C.P.follows .mixedOrders=true) (hle:Nat.ble sps.length l.toArray.size=true) (hok:drawOk l.toArray L sps deps Ωi.length=true) (hfin:finOk sps Ωi.length fin=true)
    (h:St e w Γ (Ωi.flatten++Ωs)) (T:AllOb C e l.toArray L Γ Ωs Ωi sps deps 0 sps deps l)
    (K:∀ (q:Nat→Value) (w':World),(∀ i sp j,sps[i]?=some sp→sp.same=some j→q i=q j)→St e w' (factV sps q 0++Γ) (toks Ωi sps deps q fin++Ωs)→RunL C l.toArray (l.drop sps.length) sps.length k (outV sps q 0++L) w') :
    Run C (.code (.region id l.toArray true)::k) L w:=by
  refine Run.draw sps deps Ωi fin hm hle hok hfin h T (λ vs w' hl hsm hst=>?_)
  obtain ⟨a,c⟩:=drawV_eq (λ j=>vs.getD j undef) sps vs 0 hl (λ j _=>by simp)
  rw [a] at hst
  rw [c]
  exact K _ w' hsm hst
section
variable {C:Cx} {L:List (Nat×Value)} {w:World} {ops:Array Oper} {Z:List (Nat×Value)→World→Prop} {d:Nat} {t T:TypeId} {p:String} {af:Array Edge} {g:Option (Nat×Bool)}
variable {e : En} {Γ : List (Bool × Atom)} {Ω Ω' : List (Bool × HAtom)} {f : Bool} {α β : Type} {r : Rep α} {x : α}
theorem OpS.buildA {E:TypeId} {m:Nat} {z zT:Value} {sz by_ szT byT:Nat} {ps:List (Nat×Operand)} {xs:List α} (h:St e w Γ Ω) (ht:C.P.underlying T=some (.array m E)) (ti:TI C.P E z sz by_) (hsz:sz=r.n) (tiT:TI C.P T zT szT byT) (hzT:zT.cells.size=m*r.n)
    (hg:gd ops L g=some true) (hd:Nat.blt d C.fn.ntmps=true) (he:Els L e.w.heap.size Γ f r 0 ps xs) (hn:xs.length=m)
    (K:∀ u,St e w ((f,.val (r.arr m) u xs)::Γ) Ω→Z ((d,u)::L) w):OpS C ops ⟨some d,.build T ps.toArray,t,p,af,g⟩ L w Z:=by
  obtain ⟨S,G,I,hs,ho⟩:=h
  obtain ⟨cs,h1,h2⟩:=run_fill hs he (λ o=>(ev L o).getD undef) (λ o v h=>by simp [h]) [] zT.cells.toList (by simp) (by simp [hn,hzT])
  have hsame:∀ ac:Act,Agree C.fn.ntmps L ac→(ps.map λ q=>(q.1,ac.eval q.2))=ps.map λ q=>(q.1,(ev L q.2).getD undef):=by
    intro ac ha
    have key:∀ {i:Nat} {ps:List (Nat×Operand)} {xs:List α},Els L e.w.heap.size Γ f r i ps xs→(ps.map λ q=>(q.1,ac.eval q.2))=ps.map λ q=>(q.1,(ev L q.2).getD undef):=by
      intro i ps xs h
      induction h with
      | nil=>rfl
      | cons h _ _ ih=>simp only [List.map_cons,ih,ha.ev h,h,Option.getD_some]
    exact key he
  have hzv:=run_zeroValue tiT w
  have hsize:=run_sizeOf ti w
  rw [hsz] at hsize
  refine OpS.val (v:=.agg cs.toArray) hg rfl hd (λ ac hac=>?_) (K _ ⟨S,G,I,⟨⟨cs,rfl,hn,h2⟩,hs⟩,ho⟩)
  simp only [List.nil_append,Array.toArray_toList] at h1
  simp only [execOp,List.map_toArray,hsame ac hac,Instr.build,Sem.run_bind,hzv,Result.andThen_ok,run_underlying ht,hsize,h1,Sem.run_pure]
theorem run_eqIn_nil {P:Program} {tx:TypeId} {E:TypeId} (n:Nat) {pa:Option Addr} {l c:Nat} (ht:P.underlying tx=some (.slice E)) (w:World):(Op.equalIn (n+1) tx (.slice pa l c) (.slice none 0 0)).run P w=.ok pa.isNone w:=by
  cases pa<;>simp [Op.equalIn,run_underlying ht]
theorem run_eq_nil {P:Program} {tx:TypeId} {E:TypeId} {pa:Option Addr} {l c:Nat} (ht:P.underlying tx=some (.slice E)) (w:World):(Op.equal tx (.slice pa l c) (.slice none 0 0)).run P w=.ok pa.isNone w :=
  run_eqIn_nil 9999 ht w
theorem OpS.snil {tx ty:TypeId} {E:TypeId} {a:Operand} {v:Value} {xs:List α} (h:St e w Γ Ω) (ht:C.P.underlying tx=some (.slice E)) (hg:gd ops L g=some true) (hd:Nat.blt d C.fn.ntmps=true) (hx:ev L a=some v) (hv:V e.w.heap.size Γ f r.slice v xs)
    (K:∀ b:Bool,(b=true→xs=[])→Z ((d,.bool b)::L) w):OpS C ops ⟨some d,.binOp .eql tx a (.const (.slice none 0 0)) ty,t,p,af,g⟩ L w Z:=by
  obtain ⟨S,G,I,hs,ho⟩:=h
  obtain ⟨pa,cap,e1,_,_,h3⟩:=hv S w hs
  simp only [List.cons.injEq,and_true] at e1
  subst e1
  refine OpS.val hg rfl hd (λ ac hac=>?_) (K pa.isNone (λ hb=>?_))
  · have hc:ac.eval (.const (.slice none 0 0))=.slice none 0 0:=rfl
    simp only [execOp,hac.ev hx,hc,Sem.run_bind]
    have hG:(eqGuard .eql tx a (.const (.slice none 0 0)) (.slice pa xs.length cap) (.slice none 0 0)).run C.P w=.ok () w:=by unfold eqGuard;split<;>rfl
    simp only [hG,Result.andThen_ok,binOp,Sem.run_bind,run_eq_nil ht,Sem.run_pure]
  · cases xs with
    | nil=>rfl
    | cons y ys =>
      obtain ⟨b,o,cells,hp,_⟩:=h3 (by simp)
      rw [hp] at hb;cases hb
end
section
variable {C:Cx} {L:List (Nat×Value)} {w:World} {ops:Array Oper} {Z:List (Nat×Value)→World→Prop} {d:Nat} {t T:TypeId} {p:String} {af:Array Edge} {g:Option (Nat×Bool)}
variable {e : En} {Γ : List (Bool × Atom)} {Ω Ω' : List (Bool × HAtom)} {f f' : Bool} {α β : Type} {r : Rep α} {x : α}
theorem exec_ext {P : Program} {N : Nat} {L : List (Nat × Value)} {a : Act} (ha : Agree N L a) {kf : FuncId} {fn : Func} {en : Array Value → Sem Value} (hf : P.funcs[kf]? = some fn) (hname : (fn.name == "runtime.NumGoroutine") = false) (hb : fn.body.isNone = true) (hn : Extern.findNext fn = none) (he : Extern.find fn = some en)
    {as:List Operand} {vs:List Value} {at_:Array TypeId} {d:Option Tmp} {t:TypeId} {p:String} {af:Array Edge} {g:Option (Nat×Bool)} (hv:as.map (ev L)=vs.map some) {v:Value} {w:World} (hr:(en vs.toArray).run P w=.ok v w) :
    (execOp a.eval ⟨d,.call ⟨.value (.func kf),as.toArray,at_⟩,t,p,af,g⟩).run P w=.ok (.value v) w:=by
  have hm:as.map a.eval=vs:=by
    have:∀ (as:List Operand) (vs:List Value),as.map (ev L)=vs.map some→as.map a.eval=vs:=by
      intro as
      induction as with
      | nil=>intro vs h;cases vs with
        | nil=>rfl
        | cons _ _=>cases h
      | cons x as ih=>intro vs h;cases vs with
        | nil=>cases h
        | cons v vs =>
          simp only [List.map_cons,List.cons.injEq] at h
          rw [List.map_cons,ih vs h.2,ha.ev h.1]
    exact this as vs hv
  have hcf:=run_callFunc_extern hf hname hb hn he vs.toArray w
  simp only [execOp,resolve,Act.eval,Deferred.ofValue,List.map_toArray,hm,Sem.run_bind,Sem.run_pure,Result.andThen_ok,invoke]
  simp [hcf,hr]
def bytesI (l:List Int):ByteArray:=⟨(Lib.bytesOf l).toArray⟩
theorem run_bytesOf {P:Program} {S:Blks} {w:World} {v:Value} {xs:List Int} (hv:(Rep.slice (.int .u8)).val S w v xs):(Extern.Bytes.bytesOf v).run P w=.ok (bytesI xs) w:=by
  obtain ⟨pa,cap,e1,_,_,h3⟩:=hv
  simp only [List.cons.injEq,and_true] at e1
  subst e1
  cases xs with
  | nil=>cases pa with
    | none=>rfl
    | some a=>rfl
  | cons y ys =>
    obtain ⟨b,o,cells,rfl,_,hc,hel⟩:=h3 (by simp)
    have key:∀ {l:List Int} {cs:List Value},Elems (Rep.int .u8) S w cs l→∀ (j:Nat) (x:Int),l[j]?=some x→cs[j]?=some (Value.int .u8 x):=by
      intro l
      induction l with
      | nil=>intro cs _ j x h;simp at h
      | cons y l ih =>
        rintro cs ⟨c,cs',rfl,rfl,hr⟩ j x h
        cases j with
        | zero=>simp at h;subst h;rfl
        | succ j=>simpa using ih hr j x (by simpa using h)
    have hl:=Lib.run_loadBytesX (P:=P) w (y::ys) ⟨b,o,none⟩ .empty (λ j x hj=>by rw [add_none];exact hc j _ (key hel j x hj))
    show (Extern.Bytes.loadBytes ⟨b,o,none⟩ (y::ys).length .empty).run P w=_
    rw [hl]
    congr 1
    apply ByteArray.ext
    simp [bytesI]
def cmpB (a b:List Int):Int:=Extern.BytealgCompare.cmp (bytesI a) (bytesI b)
theorem OpS.cmpB {kf : FuncId} {fn : Func} {a b : Operand} {va vb : Value} {xs ys : List Int} {at_ : Array TypeId} (h : St e w Γ Ω) (hf : C.P.funcs[kf]? = some fn) (hname : (fn.name == "runtime.NumGoroutine") = false) (hb : fn.body.isNone = true) (hn : Extern.findNext fn = none) (he : Extern.find fn = some Extern.BytealgCompare.compare)
    (hg:gd ops L g=some true) (hd:Nat.blt d C.fn.ntmps=true) (hx:ev L a=some va) (hy:ev L b=some vb) (hv:V e.w.heap.size Γ f (Rep.slice (.int .u8)) va xs) (hv':V e.w.heap.size Γ f' (Rep.slice (.int .u8)) vb ys)
    (K:Z ((d,.int .i64 (cmpB xs ys))::L) w):OpS C ops ⟨some d,.call ⟨.value (.func kf),#[a,b],at_⟩,t,p,af,g⟩ L w Z:=by
  obtain ⟨S,G,I,hs,ho⟩:=h
  have h1:=run_bytesOf (P:=C.P) (hv S w hs)
  have h2:=run_bytesOf (P:=C.P) (hv' S w hs)
  have hr:(Extern.BytealgCompare.compare [va,vb].toArray).run C.P w=.ok (.int .i64 (Lift.cmpB xs ys)) w:=by
    show (do pure (goInt (Extern.BytealgCompare.cmp (← Extern.Bytes.bytesOf va) (← Extern.Bytes.bytesOf vb))):Sem Value).run C.P w=_
    simp only [Sem.run_bind,h1,h2,Result.andThen_ok,Sem.run_pure,goInt,Lift.cmpB]
  exact OpS.val hg rfl hd (λ ac hac=>exec_ext (as:=[a,b]) (vs:=[va,vb]) hac hf hname hb hn he (by simp [hx,hy]) hr) K
theorem OpS.mini {a b:Operand} {q:IntKind} {m n:Int} {at_:Array TypeId} (hg:gd ops L g=some true) (hd:Nat.blt d C.fn.ntmps=true) (hx:ev L a=some (.int q m)) (hy:ev L b=some (.int q n))
    (K:Z ((d,.int q (min m n))::L) w):OpS C ops ⟨some d,.call ⟨.builtin .min,#[a,b],at_⟩,t,p,af,g⟩ L w Z:=by
  have e:(if n<m then n else m)=min m n:=by simp only [Int.min_def];split<;>split<;>omega
  exact OpS.val hg rfl hd (λ ac hac=>by simp [execOp,resolve,invoke,builtin,Builtin.min_,Builtin.min2,hac.ev hx,hac.ev hy,e]) K
theorem OpS.maxi {a b:Operand} {q:IntKind} {m n:Int} {at_:Array TypeId} (hg:gd ops L g=some true) (hd:Nat.blt d C.fn.ntmps=true) (hx:ev L a=some (.int q m)) (hy:ev L b=some (.int q n))
    (K:Z ((d,.int q (max m n))::L) w):OpS C ops ⟨some d,.call ⟨.builtin .max,#[a,b],at_⟩,t,p,af,g⟩ L w Z:=by
  have e:(if n>m then n else m)=max m n:=by simp only [Int.max_def];split<;>split<;>omega
  exact OpS.val hg rfl hd (λ ac hac=>by simp [execOp,resolve,invoke,builtin,Builtin.max_,Builtin.max2,hac.ev hx,hac.ev hy,e]) K
end
end Lift
