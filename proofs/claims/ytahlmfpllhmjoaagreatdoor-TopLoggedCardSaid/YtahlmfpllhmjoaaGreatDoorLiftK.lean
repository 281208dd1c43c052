import Derived.Test.YtahlmfpllhmjoaaGreatDoorLiftJ
import Derived.Lib.BytesEntry
import Derived.Laws.Externs
import Derived.Lib.AppendZerosOnto
set_option linter.unusedVariables false
set_option linter.unusedSimpArgs false
namespace Lift
open Go
theorem Qnl {α:Type} {l:List α} {i:Int} {x:α} (h:idx l i=some x):l≠[]:=by
  intro e;subst e;have:=Qfe h;simp at this
theorem Qhl {α:Type} {b:Nat} {x:α} {n:Int} {l:List α} (h:mk b x n=some l):decide (n.toNat*b≤140737488355328)=true:=by
  simpa using (Qsy h).2.1
theorem Run.retP {P:Program} {fk:FuncId} {fn:Func} {e:En} {R:Shape} {hf:P.funcs[fk]?=some fn} {k:List Item} {L:List (Nat×Value)} {w:World} {vs:List Value} {rs:List ResultVar} (hrs:fn.results=rs.toArray) (h:Res L P e w rs vs) (K:Post e R (pkV vs) w) :
    Run ⟨P,fk,fn,Post e R,hf,none,none⟩ (.code .ret::k) L w:=Run.ret rfl rfl (Res.run (C:=⟨P,fk,fn,Post e R,hf,none,none⟩) hrs h) K
theorem Run.finP {P:Program} {fk:FuncId} {fn:Func} {e:En} {R:Shape} {hf:P.funcs[fk]?=some fn} {L:List (Nat×Value)} {w:World} {vs:List Value} {rs:List ResultVar} (hrs:fn.results=rs.toArray) (h:Res L P e w rs vs) (K:Post e R (pkV vs) w) :
    Run ⟨P,fk,fn,Post e R,hf,none,none⟩ [] L w:=Run.fin rfl rfl (Res.run (C:=⟨P,fk,fn,Post e R,hf,none,none⟩) hrs h) K
def tcomp:Value→Nat→Value
  | .tuple vs,i=>vs.getD i undef
  | _,_=>undef
def Atom.eqv (v v':Value):Atom:=⟨λ _ _=>v=v',λ _ _ h=>h⟩
theorem St.dup {e:En} {w:World} {Γ:List (Bool×Atom)} {Ω:List (Bool×HAtom)} {x:Bool×Atom} (h:St e w Γ Ω) (ha:At Γ x):St e w (x::Γ) Ω :=
  h.addΓ (λ _ hs=>hs.at ha)
theorem St.eqv {e:En} {w:World} {Γ:List (Bool×Atom)} {Ω:List (Bool×HAtom)} {v v':Value} (hv:v=v') (h:St e w Γ Ω):St e w ((true,.eqv v v')::Γ) Ω :=
  h.addΓ (λ _ _=>hv)
section
variable {C:Cx} {L:List (Nat×Value)} {w:World} {ops:Array Oper} {Z:List (Nat×Value)→World→Prop} {d:Nat} {t:TypeId} {p:String} {af:Array Edge} {g:Option (Nat×Bool)}
variable {e:En} {Γ:List (Bool×Atom)} {Ω:List (Bool×HAtom)} {f:Bool}
theorem OpS.extT {x:Operand} {i:Nat} {vs:Array Value} {v u:Value} (h:St e w Γ Ω) (ha:At Γ (f,.eqv v (.tuple vs))) (hg:gd ops L g=some true) (hd:Nat.blt d C.fn.ntmps=true) (hx:ev L x=some v) (hi:vs[i]?=some u)
    (K:Z ((d,u)::L) w):OpS C ops ⟨some d,.extract x i,t,p,af,g⟩ L w Z:=by
  obtain ⟨S,G,I,hs,hO⟩:=h
  have hv:v=.tuple vs:=hs.at ha
  exact OpS.ext hg hd (by rw [hx,hv]) hi K
end
def factV:List Sp→(Nat→Value)→Nat→List (Bool×Atom)
  | [],_,_=>[]
  | sp::r,q,i=>sp.fact (sp.cur (q i))++factV r q (i+1)
def outV:List Sp→(Nat→Value)→Nat→List (Nat×Value)
  | [],_,_=>[]
  | sp::r,q,i=>sp.slot (q i)++outV r q (i+1)
theorem Qov (q:Nat→Value):∀ (sps:List Sp) (vs:List Value) (i:Nat),vs.length=sps.length→(∀ j,j<vs.length→q (i+j)=vs.getD j undef)→factL sps vs=factV sps q i∧outL sps vs=outV sps q i
  | [],vs,i,h,_=>by cases vs<;>simp [factL,outL,factV,outV]
  | sp::r,[],i,h,_=>by simp at h
  | sp::r,v::vs,i,h,hq=>by
    have h0:q i=v:=by simpa using hq 0 (by simp)
    obtain ⟨a,c⟩:=Qov q r vs (i+1) (by simpa using h) (λ j hj=>by have:=hq (j+1) (by simpa using hj);rw [Nat.add_assoc,Nat.add_comm 1 j,this];simp)
    simp only [factL,outL,factV,outV,h0,a,c];simp
theorem Run.drawV {C:Cx} {k:List Item} {L:List (Nat×Value)} {w:World} {e:En} {Γ:List (Bool×Atom)} {id:Nat} {l:List Oper} {Ωs:List (Bool×HAtom)} (sps:List Sp) (deps:List (List Nat)) (Ωi:List (List (Bool×HAtom))) (fin:List Nat) (hm:C.P.follows .mixedOrders=true) (hle:Nat.ble sps.length l.toArray.size=true) (hok:drawOk l.toArray L sps deps Ωi.length=true) (hfin:finOk sps Ωi.length fin=true)
    (h:St e w Γ (Ωi.flatten++Ωs)) (T:AllOb C e l.toArray L Γ Ωs Ωi sps deps 0 sps deps l)
    (K:∀ (q:Nat→Value) (w':World),(∀ i sp j,sps[i]?=some sp→sp.same=some j→q i=q j)→St e w' (factV sps q 0++Γ) (toks Ωi sps deps q fin++Ωs)→RunL C l.toArray (l.drop sps.length) sps.length k (outV sps q 0++L) w') :
    Run C (.code (.region id l.toArray true)::k) L w:=by
  refine Run.draw sps deps Ωi fin hm hle hok hfin h T (λ vs w' hl hsm hst=>?_)
  obtain ⟨a,c⟩:=Qov (λ j=>vs.getD j undef) sps vs 0 hl (λ j _=>by simp)
  rw [a] at hst
  rw [c]
  exact K _ w' hsm hst
theorem Run.drawVE {C:Cx} {k:List Item} {L:List (Nat×Value)} {w:World} {e:En} {Γ:List (Bool×Atom)} {id:Nat} {l:List Oper} {Ωs:List (Bool×HAtom)} (Lo:List (Nat×Value)) (es:List Bool) (sps:List Sp) (deps:List (List Nat)) (Ωi:List (List (Bool×HAtom))) (fin:List Nat) (hm:C.P.follows .mixedOrders=true) (hle:Nat.ble sps.length l.toArray.size=true) (hok:drawOk l.toArray L sps deps Ωi.length=true) (hfin:finOk sps Ωi.length fin=true) (hes:earlyOk l.toArray Lo L sps es=true)
    (h:St e w Γ (Ωi.flatten++Ωs)) (T:AllObE C e l.toArray Lo L Γ Ωs Ωi sps deps 0 es sps deps l)
    (K:∀ (q:Nat→Value) (w':World),(∀ i sp j,sps[i]?=some sp→sp.same=some j→q i=q j)→St e w' (factV sps q 0++Γ) (toks Ωi sps deps q fin++Ωs)→RunL C l.toArray (l.drop sps.length) sps.length k (outV sps q 0++L) w') :
    Run C (.code (.region id l.toArray true)::k) (Lo++L) w:=by
  refine Run.drawE Lo es sps deps Ωi fin hm hle hok hfin hes h T (λ vs w' hl hsm hst=>?_)
  obtain ⟨a,c⟩:=Qov (λ j=>vs.getD j undef) sps vs 0 hl (λ j _=>by simp)
  rw [a] at hst
  rw [c]
  exact K _ w' hsm hst
section
variable {C:Cx} {L:List (Nat×Value)} {w:World} {ops:Array Oper} {Z:List (Nat×Value)→World→Prop} {d:Nat} {t T:TypeId} {p:String} {af:Array Edge} {g:Option (Nat×Bool)}
variable {e : En} {Γ : List (Bool × Atom)} {Ω Ω' : List (Bool × HAtom)} {f : Bool} {α β : Type} {r : Rep α} {x : α}
theorem OpS.buildA {E:TypeId} {m:Nat} {z zT:Value} {sz by_ szT byT:Nat} {ps:List (Nat×Operand)} {xs:List α} (h:St e w Γ Ω) (ht:C.P.underlying T=some (.array m E)) (ti:TI C.P E z sz by_) (hsz:sz=r.n) (tiT:TI C.P T zT szT byT) (hzT:zT.cells.size=m*r.n)
    (hg:gd ops L g=some true) (hd:Nat.blt d C.fn.ntmps=true) (he:Els L e.w.heap.size Γ f r 0 ps xs) (hn:xs.length=m)
    (K:∀ u,St e w ((f,.val (r.arr m) u xs)::Γ) Ω→Z ((d,u)::L) w):OpS C ops ⟨some d,.build T ps.toArray,t,p,af,g⟩ L w Z:=by
  obtain ⟨S,G,I,hs,ho⟩:=h
  obtain ⟨cs,h1,h2⟩:=Qrb hs he (λ o=>(ev L o).getD undef) (λ o v h=>by simp [h]) [] zT.cells.toList (by simp) (by simp [hn,hzT])
  have hsame:∀ ac:Act,Agree C.fn.ntmps L ac→(ps.map λ q=>(q.1,ac.eval q.2))=ps.map λ q=>(q.1,(ev L q.2).getD undef):=by
    intro ac ha
    have key:∀ {i:Nat} {ps:List (Nat×Operand)} {xs:List α},Els L e.w.heap.size Γ f r i ps xs→(ps.map λ q=>(q.1,ac.eval q.2))=ps.map λ q=>(q.1,(ev L q.2).getD undef):=by
      intro i ps xs h
      induction h with
      | nil=>rfl
      | cons h _ _ ih=>simp only [List.map_cons,ih,ha.ev h,h,Option.getD_some]
    exact key he
  have hzv:=Qcz tiT w
  have hsize:=Qkw ti w
  rw [hsz] at hsize
  refine OpS.val (v:=.agg cs.toArray) hg rfl hd (λ ac hac=>?_) (K _ ⟨S,G,I,⟨⟨cs,rfl,hn,h2⟩,hs⟩,ho⟩)
  simp only [List.nil_append,Array.toArray_toList] at h1
  simp only [execOp,List.map_toArray,hsame ac hac,Instr.build,Sem.run_bind,hzv,Result.andThen_ok,run_underlying ht,hsize,h1,Sem.run_pure]
theorem Qrp {P:Program} {tx:TypeId} {E:TypeId} (n:Nat) {pa:Option Addr} {l c:Nat} (ht:P.underlying tx=some (.slice E)) (w:World):(Op.equalIn (n+1) tx (.slice pa l c) (.slice none 0 0)).run P w=.ok pa.isNone w:=by
  cases pa<;>simp [Op.equalIn,run_underlying ht]
theorem Quc {P:Program} {tx:TypeId} {E:TypeId} {pa:Option Addr} {l c:Nat} (ht:P.underlying tx=some (.slice E)) (w:World):(Op.equal tx (.slice pa l c) (.slice none 0 0)).run P w=.ok pa.isNone w :=
  Qrp 9999 ht w
theorem OpS.snil {tx ty:TypeId} {E:TypeId} {a:Operand} {v:Value} {xs:List α} (h:St e w Γ Ω) (ht:C.P.underlying tx=some (.slice E)) (hg:gd ops L g=some true) (hd:Nat.blt d C.fn.ntmps=true) (hx:ev L a=some v) (hv:V e.w.heap.size Γ f r.slice v xs)
    (K:∀ b:Bool,(b=true→xs=[])→Z ((d,.bool b)::L) w):OpS C ops ⟨some d,.binOp .eql tx a (.const (.slice none 0 0)) ty,t,p,af,g⟩ L w Z:=by
  obtain ⟨S,G,I,hs,ho⟩:=h
  obtain ⟨pa,cap,e1,_,_,h3⟩:=hv S w hs
  simp only [List.cons.injEq,and_true] at e1
  subst e1
  refine OpS.val hg rfl hd (λ ac hac=>?_) (K pa.isNone (λ hb=>?_))
  · have hc:ac.eval (.const (.slice none 0 0))=.slice none 0 0:=rfl
    simp only [execOp,hac.ev hx,hc,Sem.run_bind]
    have hG:(eqGuard .eql tx a (.const (.slice none 0 0)) (.slice pa xs.length cap) (.slice none 0 0)).run C.P w=.ok () w:=by unfold eqGuard;split<;>rfl
    simp only [hG,Result.andThen_ok,binOp,Sem.run_bind,Quc ht,Sem.run_pure]
  · cases xs with
    | nil=>rfl
    | cons y ys =>
      obtain ⟨b,o,cells,hp,_⟩:=h3 (by simp)
      rw [hp] at hb;cases hb
end
section
variable {C:Cx} {L:List (Nat×Value)} {w:World} {ops:Array Oper} {Z:List (Nat×Value)→World→Prop} {d:Nat} {t T:TypeId} {p:String} {af:Array Edge} {g:Option (Nat×Bool)}
variable {e : En} {Γ : List (Bool × Atom)} {Ω Ω' : List (Bool × HAtom)} {f f' : Bool} {α β : Type} {r : Rep α} {x : α}
theorem OpS.mini {a b:Operand} {q:IntKind} {m n:Int} {at_:Array TypeId} (hg:gd ops L g=some true) (hd:Nat.blt d C.fn.ntmps=true) (hx:ev L a=some (.int q m)) (hy:ev L b=some (.int q n))
    (K:Z ((d,.int q (min m n))::L) w):OpS C ops ⟨some d,.call ⟨.builtin .min,#[a,b],at_⟩,t,p,af,g⟩ L w Z:=by
  have e:(if n<m then n else m)=min m n:=by simp only [Int.min_def];split<;>split<;>omega
  exact OpS.val hg rfl hd (λ ac hac=>by simp [execOp,resolve,invoke,builtin,Builtin.min_,Builtin.min2,hac.ev hx,hac.ev hy,e]) K
theorem OpS.maxi {a b:Operand} {q:IntKind} {m n:Int} {at_:Array TypeId} (hg:gd ops L g=some true) (hd:Nat.blt d C.fn.ntmps=true) (hx:ev L a=some (.int q m)) (hy:ev L b=some (.int q n))
    (K:Z ((d,.int q (max m n))::L) w):OpS C ops ⟨some d,.call ⟨.builtin .max,#[a,b],at_⟩,t,p,af,g⟩ L w Z:=by
  have e:(if n>m then n else m)=max m n:=by simp only [Int.max_def];split<;>split<;>omega
  exact OpS.val hg rfl hd (λ ac hac=>by simp [execOp,resolve,invoke,builtin,Builtin.max_,Builtin.max2,hac.ev hx,hac.ev hy,e]) K
end
end Lift
