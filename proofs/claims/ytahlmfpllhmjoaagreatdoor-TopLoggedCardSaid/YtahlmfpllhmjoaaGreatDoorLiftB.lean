import Derived.Test.YtahlmfpllhmjoaaGreatDoorLiftA
set_option linter.unusedVariables false
set_option linter.unusedSimpArgs false
namespace Lift
open Go
def bindP {α β:Type} (x:Option α) (f:α→Option β):Option β:=match x with | some a=>f a | none=>none
def iteP {β:Type} (b:Bool) (x y:Option β):Option β:=match b with | true=>x | false=>y
def letP {α β:Type} (a:α) (f:α→Option β):Option β:=f a
def joinP {σ β:Type} (r:σ→Option β) (body:(σ→Option β)→Option β):Option β:=body r
def loopP {σ β:Type} (step:(σ→Option β)→σ→Option β):Nat→σ→Option β
  | 0,_=>none
  | n+1,s=>step (loopP step n) s
def chk (b:Bool):Option Unit:=match b with | true=>some () | false=>none
@[simp] theorem Qko {α β:Type} (a:α) (f:α→Option β):bindP (some a) f=f a:=rfl
@[simp] theorem bindP_none {α β:Type} (f:α→Option β):bindP none f=none:=rfl
@[simp] theorem Qqf {β:Type} (x y:Option β):iteP true x y=x:=rfl
@[simp] theorem Qiq {β:Type} (x y:Option β):iteP false x y=y:=rfl
@[simp] theorem Qki {α β:Type} (a:α) (f:α→Option β):letP a f=f a:=rfl
@[simp] theorem Qwb {σ β:Type} (r:σ→Option β) (body:(σ→Option β)→Option β):joinP r body=body r:=rfl
@[simp] theorem Qsk:chk true=some ():=rfl
@[simp] theorem chk_false:chk false=none:=rfl
theorem Qa {α β:Type} {x:Option α} {f:α→Option β} {y:β} (h:bindP x f=some y):∃ a,x=some a∧f a=some y:=by
  cases x with
  | none=>cases h
  | some a=>exact ⟨a,rfl,h⟩
theorem Qr {β:Type} {b:Bool} {f:Unit→Option β} {y:β} (h:bindP (chk b) f=some y):b=true∧f ()=some y:=by
  cases b with
  | false=>cases h
  | true=>exact ⟨rfl,h⟩
theorem Qap {β:Type} {b:Bool} {x z:Option β} {y:β} {G:Prop} (h:iteP b x z=some y) (ht:b=true→x=some y→G) (hf:b=false→z=some y→G):G:=by
  cases b with
  | false=>exact hf rfl h
  | true=>exact ht rfl h
theorem Qh {α β:Type} {a:α} {f:α→Option β} {y:β} (h:letP a f=some y):∃ c,a=c∧f c=some y:=⟨a,rfl,h⟩
def bAnd (k:IntKind) (a b:Int):Int:=k.wrap (BitVec.ofInt k.bits a &&& BitVec.ofInt k.bits b).toNat
def bOr (k:IntKind) (a b:Int):Int:=k.wrap (BitVec.ofInt k.bits a ||| BitVec.ofInt k.bits b).toNat
def bXor (k:IntKind) (a b:Int):Int:=k.wrap (BitVec.ofInt k.bits a ^^^ BitVec.ofInt k.bits b).toNat
def bAndNot (k:IntKind) (a b:Int):Int:=k.wrap (BitVec.ofInt k.bits a &&& ~~~ BitVec.ofInt k.bits b).toNat
def bShl (k:IntKind) (a b:Int):Int:=k.wrap (a*2 ^ (min b.toNat k.bits))
def bShr (k:IntKind) (a b:Int):Int:=a.fdiv (2 ^ (min b.toNat k.bits))
section
variable {C:Cx} {L:List (Nat×Value)} {w:World} {ops:Array Oper} {Z:List (Nat×Value)→World→Prop} {d:Nat} {t t':TypeId} {p:String} {af:Array Edge} {g:Option (Nat×Bool)}
theorem OpS.mv {x:Operand} {v:Value} (hg:gd ops L g=some true) (hd:Nat.blt d C.fn.ntmps=true) (hx:ev L x=some v) (K:Z ((d,v)::L) w) :
    OpS C ops ⟨some d,.move x,t,p,af,g⟩ L w Z :=
  OpS.val hg rfl hd (λ a ha=>by simp [execOp,ha.ev hx]) K
theorem OpS.as {x:Operand} {v:Value} (hg:gd ops L g=some true) (hd:Nat.blt d C.fn.ntmps=true) (hx:ev L x=some v) (K:Z ((d,v)::L) w) :
    OpS C ops ⟨some d,.assign x,t,p,af,g⟩ L w Z :=
  OpS.val hg rfl hd (λ a ha=>by simp [execOp,ha.ev hx]) K
theorem OpS.pick {c x y:Operand} {b:Bool} {v:Value} (hg:gd ops L g=some true) (hd:Nat.blt d C.fn.ntmps=true) (hc:ev L c=some (.bool b)) (hx:ev L (if b then x else y)=some v)
    (K:Z ((d,v)::L) w):OpS C ops ⟨some d,.pick c x y,t,p,af,g⟩ L w Z :=
  OpS.val hg rfl hd (λ a ha=>by
    have h2:=ha.ev hx
    cases b<;>simp_all [execOp,ha.ev hc,asBool]) K
theorem OpS.ext {x:Operand} {i:Nat} {vs:Array Value} {v:Value} (hg:gd ops L g=some true) (hd:Nat.blt d C.fn.ntmps=true) (hx:ev L x=some (.tuple vs)) (hi:vs[i]?=some v)
    (K:Z ((d,v)::L) w):OpS C ops ⟨some d,.extract x i,t,p,af,g⟩ L w Z :=
  OpS.val hg rfl hd (λ a ha=>by simp [execOp,ha.ev hx,Instr.extract,hi]) K
def opInt:BinOp→IntKind→Int→Int→Option Value
  | .add,k,a,b=>some (.int k (k.wrap (a+b)))
  | .sub,k,a,b=>some (.int k (k.wrap (a-b)))
  | .mul,k,a,b=>some (.int k (k.wrap (a*b)))
  | .and,k,a,b=>some (.int k (bAnd k a b))
  | .or,k,a,b=>some (.int k (bOr k a b))
  | .xor,k,a,b=>some (.int k (bXor k a b))
  | .andNot,k,a,b=>some (.int k (bAndNot k a b))
  | .eql,_,a,b=>some (.bool (a==b))
  | .neq,_,a,b=>some (.bool (a != b))
  | .lss,_,a,b=>some (.bool (decide (a<b)))
  | .leq,_,a,b=>some (.bool (decide (a≤b)))
  | .gtr,_,a,b=>some (.bool (decide (a>b)))
  | .geq,_,a,b=>some (.bool (decide (a≥b)))
  | _,_,_,_=>none
theorem Qeh (op:BinOp) (P:Program) (t:TypeId) (x y:Operand) (q r:IntKind) (a b:Int) (w:World):(eqGuard op t x y (.int q a) (.int r b)).run P w=.ok () w:=by
  unfold eqGuard;split<;>rfl
theorem OpS.bin {op:BinOp} {tx ty:TypeId} {x y:Operand} {q:IntKind} {m n:Int} {v:Value} (hg:gd ops L g=some true) (hd:Nat.blt d C.fn.ntmps=true) (hx:ev L x=some (.int q m)) (hy:ev L y=some (.int q n))
    (hv:opInt op q m n=some v) (K:Z ((d,v)::L) w):OpS C ops ⟨some d,.binOp op tx x y ty,t,p,af,g⟩ L w Z :=
  OpS.val hg rfl hd (λ a ha=>by
    simp only [execOp,ha.ev hx,ha.ev hy,Sem.run_bind,Qeh,Result.andThen_ok]
    cases op<;>simp [opInt] at hv<;>subst hv<;>simp [binOp,Op.intArith,Op.intBits,Op.intCmp,bAnd,bOr,bXor,bAndNot]) K
theorem OpS.quo {tx ty:TypeId} {x y:Operand} {q:IntKind} {m n:Int} (hg:gd ops L g=some true) (hd:Nat.blt d C.fn.ntmps=true) (hx:ev L x=some (.int q m)) (hy:ev L y=some (.int q n))
    (hn:decide (n≠0)=true) (K:Z ((d,.int q (q.wrap (m.tdiv n)))::L) w):OpS C ops ⟨some d,.binOp .quo tx x y ty,t,p,af,g⟩ L w Z :=
  OpS.val hg rfl hd (λ a ha=>by
    have hn':n≠0:=by simpa using hn
    simp [execOp,ha.ev hx,ha.ev hy,Qeh,binOp,Op.intDiv,hn']) K
theorem OpS.rem {tx ty:TypeId} {x y:Operand} {q:IntKind} {m n:Int} (hg:gd ops L g=some true) (hd:Nat.blt d C.fn.ntmps=true) (hx:ev L x=some (.int q m)) (hy:ev L y=some (.int q n))
    (hn:decide (n≠0)=true) (K:Z ((d,.int q (m.tmod n))::L) w):OpS C ops ⟨some d,.binOp .rem tx x y ty,t,p,af,g⟩ L w Z :=
  OpS.val hg rfl hd (λ a ha=>by
    have hn':n≠0:=by simpa using hn
    simp [execOp,ha.ev hx,ha.ev hy,Qeh,binOp,Op.intDiv,hn']) K
theorem OpS.shl {tx ty:TypeId} {x y:Operand} {q r:IntKind} {m n:Int} (hg:gd ops L g=some true) (hd:Nat.blt d C.fn.ntmps=true) (hx:ev L x=some (.int q m)) (hy:ev L y=some (.int r n))
    (hn:decide (0≤n)=true) (K:Z ((d,.int q (bShl q m n))::L) w):OpS C ops ⟨some d,.binOp .shl tx x y ty,t,p,af,g⟩ L w Z :=
  OpS.val hg rfl hd (λ a ha=>by
    have hn' : ¬ n < 0 := by have : 0 ≤ n := by simpa using hn
                             omega
    simp [execOp,ha.ev hx,ha.ev hy,Qeh,binOp,Op.shift,hn',bShl]) K
theorem OpS.shr {tx ty:TypeId} {x y:Operand} {q r:IntKind} {m n:Int} (hg:gd ops L g=some true) (hd:Nat.blt d C.fn.ntmps=true) (hx:ev L x=some (.int q m)) (hy:ev L y=some (.int r n))
    (hn:decide (0≤n)=true) (K:Z ((d,.int q (bShr q m n))::L) w):OpS C ops ⟨some d,.binOp .shr tx x y ty,t,p,af,g⟩ L w Z :=
  OpS.val hg rfl hd (λ a ha=>by
    have hn' : ¬ n < 0 := by have : 0 ≤ n := by simpa using hn
                             omega
    simp [execOp,ha.ev hx,ha.ev hy,Qeh,binOp,Op.shift,hn',bShr]) K
theorem OpS.neg {tx:TypeId} {x:Operand} {q:IntKind} {m:Int} (hg:gd ops L g=some true) (hd:Nat.blt d C.fn.ntmps=true) (hx:ev L x=some (.int q m))
    (K:Z ((d,.int q (q.wrap (0-m)))::L) w):OpS C ops ⟨some d,.unOp .neg tx x,t,p,af,g⟩ L w Z :=
  OpS.val hg rfl hd (λ a ha=>by simp [execOp,ha.ev hx,Op.unary,Op.intArith]) K
theorem OpS.not {tx:TypeId} {x:Operand} {b:Bool} (hg:gd ops L g=some true) (hd:Nat.blt d C.fn.ntmps=true) (hx:ev L x=some (.bool b))
    (K:Z ((d,.bool !b)::L) w):OpS C ops ⟨some d,.unOp .not tx x,t,p,af,g⟩ L w Z :=
  OpS.val hg rfl hd (λ a ha=>by simp [execOp,ha.ev hx,Op.unary]) K
theorem OpS.conv {ts td:TypeId} {D:TypeDesc} {x:Operand} {q r:IntKind} {m:Int} (hs:C.P.underlying ts=some D) (ht:C.P.underlying td=some (.int r)) (hg:gd ops L g=some true) (hd:Nat.blt d C.fn.ntmps=true) (hx:ev L x=some (.int q m))
    (K:Z ((d,.int r (r.wrap m))::L) w):OpS C ops ⟨some d,.convert ts td x,t,p,af,g⟩ L w Z :=
  OpS.val hg rfl hd (λ a ha=>by
    simp [execOp,ha.ev hx,convert,run_underlying hs,run_underlying ht,Conv.intToInt]) K
theorem Qmk {P:Program} (n:Nat) {t:TypeId} (m q:Bool) (w:World) (ht:P.underlying t=some .bool):(Op.equalIn (n+1) t (.bool m) (.bool q)).run P w=.ok (m==q) w:=by
  simp [Op.equalIn,run_underlying ht]
theorem Qnh {P:Program} {t:TypeId} (m q:Bool) (w:World) (ht:P.underlying t=some .bool):(Op.equal t (.bool m) (.bool q)).run P w=.ok (m==q) w :=
  Qmk 9999 m q w ht
theorem Qmq (op:BinOp) (P:Program) (t:TypeId) (x y:Operand) (a b:Bool) (w:World):(eqGuard op t x y (.bool a) (.bool b)).run P w=.ok () w:=by
  unfold eqGuard;split<;>rfl
theorem OpS.eqb {tx ty:TypeId} {x y:Operand} {m n:Bool} (ht:C.P.underlying tx=some .bool) (hg:gd ops L g=some true) (hd:Nat.blt d C.fn.ntmps=true) (hx:ev L x=some (.bool m)) (hy:ev L y=some (.bool n))
    (K:Z ((d,.bool (m==n))::L) w):OpS C ops ⟨some d,.binOp .eql tx x y ty,t,p,af,g⟩ L w Z :=
  OpS.val hg rfl hd (λ a ha=>by
    simp only [execOp,ha.ev hx,ha.ev hy,Sem.run_bind,Qmq,Result.andThen_ok]
    simp only [binOp,Sem.run_bind,Qnh _ _ _ ht,Result.andThen_ok,Sem.run_pure]) K
theorem RunL.name {l:List Oper} {j:Nat} {k:List Item} {e c:Int} {q:IntKind} (h:e=c) (K:RunL C ops l j k ((d,.int q c)::L) w):RunL C ops l j k ((d,.int q e)::L) w:=h ▸ K
theorem RunL.nameb {l:List Oper} {j:Nat} {k:List Item} {e c:Bool} (h:e=c) (K:RunL C ops l j k ((d,.bool c)::L) w):RunL C ops l j k ((d,.bool e)::L) w:=h ▸ K
theorem RunL.caseb {β:Type} {l:List Oper} {j:Nat} {k:List Item} {b:Bool} {x z:Option β} {y:β} (hF:iteP b x z=some y) (ht:b=true→x=some y→RunL C ops l j k ((d,.bool true)::L) w) (hf:b=false→z=some y→RunL C ops l j k ((d,.bool false)::L) w) :
    RunL C ops l j k ((d,.bool b)::L) w:=by
  cases b with
  | true=>exact ht rfl hF
  | false=>exact hf rfl hF
theorem Run.ite {β:Type} {k:List Item} {c:Operand} {m n:Code} {b:Bool} {x z:Option β} {y:β} (hc:ev L c=some (.bool b)) (hF:iteP b x z=some y) (ht:b=true→x=some y→Run C (.code m::k) L w) (hf:b=false→z=some y→Run C (.code n::k) L w) :
    Run C (.code (.cond c m n)::k) L w:=by
  cases b with
  | true=>exact Run.cond hc (ht rfl hF)
  | false=>exact Run.cond hc (hf rfl hF)
theorem Run.condT {k:List Item} {c:Operand} {m n:Code} (hc:ev L c=some (.bool true)) (K:Run C (.code m::k) L w):Run C (.code (.cond c m n)::k) L w:=Run.cond hc K
theorem Run.condF {k:List Item} {c:Operand} {m n:Code} (hc:ev L c=some (.bool false)) (K:Run C (.code n::k) L w):Run C (.code (.cond c m n)::k) L w:=Run.cond hc K
theorem Run.join {σ β:Type} {k:List Item} {x:Item} {r:σ→Option β} {body:(σ→Option β)→Option β} {y:β} (I:σ→List (Nat×Value)→World→Prop) (hF:joinP r body=some y)
    (rest:∀ s L w,I s L w→r s=some y→Run C k L w) (both:∀ j:σ→Option β,(∀ s L w,I s L w→j s=some y→Run C k L w)→body j=some y→Run C (x::k) L w):Run C (x::k) L w :=
  both r rest hF
theorem RunL.join {σ β:Type} {l:List Oper} {j:Nat} {k:List Item} {r:σ→Option β} {body:(σ→Option β)→Option β} {y:β} (I:σ→List (Nat×Value)→World→Prop) (hF:joinP r body=some y)
    (rest:∀ s L w,I s L w→r s=some y→Run C k L w) (both:∀ jn:σ→Option β,(∀ s L w,I s L w→jn s=some y→Run C k L w)→body jn=some y→RunL C ops l j k L w):RunL C ops l j k L w :=
  both r rest hF
theorem Run.loopP {σ β:Type} {k:List Item} {c:Code} {stp:(σ→Option β)→σ→Option β} {n:Nat} {s0:σ} {y:β} (I:σ→List (Nat×Value)→World→Prop) (hF:Lift.loopP stp n s0=some y) (h0:I s0 L w)
    (round:∀ self:σ→Option β,(∀ s L w,I s L w→self s=some y→Run C (.inLoop c::k) L w)→∀ s L w,I s L w→stp self s=some y→Run C (.code c::.inLoop c::k) L w):Run C (.code (.loop c)::k) L w:=by
  refine Run.loop ?_
  have key:∀ n s L w,I s L w→Lift.loopP stp n s=some y→Run C (.code c::.inLoop c::k) L w:=by
    intro n
    induction n with
    | zero=>intro s L w _ h;cases h
    | succ n ih=>intro s L w hI h;exact round (Lift.loopP stp n) (λ s L w hI h=>Run.again (ih s L w hI h)) s L w hI h
  exact key n s0 L w h0 hF
end
end Lift
