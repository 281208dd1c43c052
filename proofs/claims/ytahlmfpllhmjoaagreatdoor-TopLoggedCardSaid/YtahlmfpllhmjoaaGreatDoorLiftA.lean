import Derived.WalkKit
import Derived.AtR
set_option linter.unusedVariables false
set_option linter.unusedSimpArgs false
namespace Lift
open Go
structure Cx where
  P:Program
  f:FuncId
  fn:Func
  Q:Value→World→Prop
  hf:P.funcs[f]?=some fn
  ro:Option Nat:=none
  df:Option Nat:=none
def dfl:Option Nat→List Deferred
  | none=>[]
  | some D=>[{ target:=.collected D,args:=#[] }]
def Cx.ends (C:Cx) (fr:Frame) (v:Value) (w:World):Prop:=match C.ro with
  | none=>fr.leaving C.P w (.returned v)
  | some l=>fr.mode=.run∧fr.todo=[]∧fr.kind=.normal∧fr.roundOf=some l
theorem Qnp {a b:Nat} (h:a≠b):Nat.beq a b=false:=by
  cases hb:Nat.beq a b
  · rfl
  · exact absurd (Nat.eq_of_beq_eq_true hb) h
def lk:List (Nat×Value)→Nat→Option Value
  | [],_=>none
  | (s,v)::r,t=>bif Nat.beq s t then some v else lk r t
def Agree (N:Nat) (L:List (Nat×Value)) (a:Act):Prop :=
  a.tmps.size=N∧∀ t v,lk L t=some v→a.tmps[t]?=some v
def ev (L:List (Nat×Value)):Operand→Option Value
  | .tmp t=>lk L t
  | .const v=>some v
  | .global g=>some (.pointer (some ⟨g,0,none⟩))
  | .func f=>some (.func (.func f) #[] #[])
theorem Agree.ev {N:Nat} {L:List (Nat×Value)} {a:Act} (h:Agree N L a) {x:Operand} {v:Value} (hx:Lift.ev L x=some v):a.eval x=v:=by
  cases x with
  | tmp t=>have:=h.2 t v hx;simp [Act.eval,Array.getD_eq_getD_getElem?,this]
  | const c=>simpa [Lift.ev,Act.eval] using hx
  | global g=>simpa [Lift.ev,Act.eval] using hx
  | func f=>simpa [Lift.ev,Act.eval] using hx
theorem Agree.put {N:Nat} {L:List (Nat×Value)} {a:Act} (h:Agree N L a) {d:Nat} (hd:Nat.blt d N=true) (v:Value):Agree N ((d,v)::L) (a.put (some d) v):=by
  have hd':d<N:=by simpa [Nat.blt_eq] using hd
  refine ⟨by simp [Act.put,h.1],λ t u hu=>?_⟩
  simp only [Act.put,Array.getElem?_setIfInBounds,h.1]
  simp only [lk] at hu
  by_cases e:d=t
  · subst e
    have:Nat.beq d d=true:=by simp
    rw [this] at hu
    simp at hu
    simp [hd',hu]
  · have:Nat.beq d t=false:=Qnp e
    rw [this] at hu
    simp at hu
    simp [e,h.2 t u hu]
def Run (C:Cx) (k:List Item) (L:List (Nat×Value)) (w:World):Prop :=
  ∀ a:Act,Agree C.fn.ntmps L a→a.defers=dfl C.df→∀ (b:Frame) (cs:List Frame),b.fn=C.f→b.kind=.normal→b.roundOf=C.ro →
    ∃ v w' fr,C.Q v w'∧Steps C.P (lone (b.atR a k) cs w) (lone fr cs w')∧fr.fn=C.f∧C.ends fr v w'
section
variable {C:Cx} {k:List Item} {L:List (Nat×Value)} {w:World}
theorem Run.of_step {k':List Item} (h:∀ (b:Frame) (a:Act) (cs:List Frame),step C.P (lone (b.atR a k) cs w)=.next (lone (b.atR a k') cs w)) (K:Run C k' L w):Run C k L w :=
  λ a ha hd b cs hb hk hro=>let ⟨v,w',fr,hq,hs,hf,hl⟩:=K a ha hd b cs hb hk hro;⟨v,w',fr,hq,.head (h b a cs) hs,hf,hl⟩
theorem Run.seq {x y:Code} (K:Run C (.code x::.code y::k) L w):Run C (.code (.seq x y)::k) L w :=
  Run.of_step (λ _ _ _=>stepR_seq) K
theorem Run.skip (K:Run C k L w):Run C (.code .skip::k) L w:=Run.of_step (λ _ _ _=>stepR_skip) K
theorem Run.block {id:Nat} {c:Code} (K:Run C (.code c::.inBlock id::k) L w):Run C (.code (.block id c)::k) L w :=
  Run.of_step (λ _ _ _=>stepR_block) K
theorem Run.endBlock {id:Nat} (K:Run C k L w):Run C (.inBlock id::k) L w:=Run.of_step (λ _ _ _=>stepR_inBlock) K
theorem Run.exit {id:Nat} {k':List Item} (h:exitTo id k=some k') (K:Run C k' L w):Run C (.code (.exit id)::k) L w :=
  Run.of_step (λ _ _ _=>stepR_exit h) K
theorem Run.loop {c:Code} (K:Run C (.code c::.inLoop c::k) L w):Run C (.code (.loop c)::k) L w :=
  Run.of_step (λ _ _ _=>stepR_loop) K
theorem Run.again {c:Code} (K:Run C (.code c::.inLoop c::k) L w):Run C (.inLoop c::k) L w :=
  Run.of_step (λ _ _ _=>stepR_inLoop) K
theorem Run.cond {c:Operand} {x y:Code} {t:Bool} (hc:ev L c=some (.bool t)) (K:Run C (.code (if t then x else y)::k) L w):Run C (.code (.cond c x y)::k) L w :=
  λ a ha hd b cs hb hk hro=>let ⟨v,w',fr,hq,hs,hf,hl⟩:=K a ha hd b cs hb hk hro;⟨v,w',fr,hq,.head (stepR_cond (ha.ev hc)) hs,hf,hl⟩
theorem Run.ret {v:Value} (hr0:C.ro=none) (hdf:C.df=none) (hr:∀ a:Act,Agree C.fn.ntmps L a→(results C.fn a.tmps).run C.P w=.ok v w) (K:C.Q v w):Run C (.code .ret::k) L w :=
  λ a ha hd b cs hb hk hro=>⟨v,w,_,K,.one (stepR_ret (hro.trans hr0)),hb,by unfold Cx.ends;rw [hr0];rw [hdf] at hd;exact ⟨rfl,hd,hk,C.fn,by show C.P.funcs[b.fn]?=_;rw [hb];exact C.hf,hr a ha⟩⟩
theorem Run.fin {v:Value} (hr0:C.ro=none) (hdf:C.df=none) (hr:∀ a:Act,Agree C.fn.ntmps L a→(results C.fn a.tmps).run C.P w=.ok v w) (K:C.Q v w):Run C [] L w :=
  λ a ha hd b cs hb hk hro=>⟨v,w,_,K,.one (stepR_end (hro.trans hr0)),hb,by unfold Cx.ends;rw [hr0];rw [hdf] at hd;exact ⟨rfl,hd,hk,C.fn,by show C.P.funcs[b.fn]?=_;rw [hb];exact C.hf,hr a ha⟩⟩
theorem Run.finR {l:Nat} (hr0:C.ro=some l) (K:C.Q undef w):Run C [] L w :=
  λ a ha hd b cs hb hk hro=>⟨undef,w,b.atR a [],K,.refl _ _,hb,by unfold Cx.ends;rw [hr0];exact ⟨rfl,rfl,hk,hro.trans hr0⟩⟩
theorem Qnd {N:Nat} {a:Act} (ha:Agree N L a) {t:Nat} {v:Value} (h:lk L t=some v):a.tmps.getD t undef=v:=by
  simp [Array.getD_eq_getD_getElem?,ha.2 t v h]
theorem Run.keep {L':List (Nat×Value)} (h:∀ t v,lk L' t=some v→lk L t=some v) (K:Run C k L' w):Run C k L w :=
  λ a ha hd=>K a ⟨ha.1,λ t v hv=>ha.2 t v (h t v hv)⟩ hd
def Sub (L:List (Nat×Value)):List (Nat×Value)→Prop
  | []=>True
  | (t,v)::r=>lk L t=some v∧Sub L r
theorem Sub.lk {L':List (Nat×Value)} (h:Sub L L'):∀ t v,Lift.lk L' t=some v→Lift.lk L t=some v:=by
  induction L' with
  | nil=>intro t v hv;cases hv
  | cons p r ih =>
    obtain ⟨s,x⟩:=p
    obtain ⟨h1,h2⟩:=h
    intro t v hv
    simp only [Lift.lk] at hv
    by_cases e:s=t
    · subst e
      have:Nat.beq s s=true:=by simp
      rw [this] at hv
      simp at hv
      rw [← hv];exact h1
    · have:Nat.beq s t=false:=Qnp e
      rw [this] at hv
      exact ih h2 t v (by simpa using hv)
theorem Run.slim (L':List (Nat×Value)) (h:Sub L L') (K:Run C k L' w):Run C k L w:=Run.keep h.lk K
def RunL (C:Cx) (ops:Array Oper) (l:List Oper) (j:Nat) (k:List Item) (L:List (Nat×Value)) (w:World):Prop :=
  (∀ m,l[m]?=ops[j+m]?)→Run C (.inRegion ops (List.range' j l.length)::k) L w
theorem Run.reg {id:Nat} {l:List Oper} (K:RunL C l.toArray l 0 k L w):Run C (.code (.region id l.toArray false)::k) L w:=by
  refine Run.of_step (k':=.inRegion l.toArray (List.range l.toArray.size)::k) (λ _ _ _=>stepR_region) ?_
  have:=K (by simp)
  simpa [List.range_eq_range'] using this
theorem RunL.nil {ops:Array Oper} {j:Nat} (K:Run C k L w):RunL C ops [] j k L w :=
  λ _=>Run.of_step (λ _ _ _=>stepR_region_end) K
variable {ops:Array Oper} {l:List Oper} {j:Nat} {o:Oper}
def gd (ops:Array Oper) (L:List (Nat×Value)):Option (Nat×Bool)→Option Bool
  | none=>some true
  | some (i,want) =>
    match (ops[i]?).bind (·.dst) with
    | none=>none
    | some t=>match lk L t with
      | some (.bool b)=>some (b==want)
      | some (.tuple _)=>some false
      | _=>none
theorem Qid {a:Act} {N:Nat} (ha:Agree N L a) {t:Bool} (h:gd ops L o.guard=some t):Region.wanted o (yielded ops a.tmps)=t:=by
  unfold gd at h
  unfold Region.wanted
  split at h
  · rename_i hg;rw [hg];simp at h;simpa using h
  · rename_i i want hg
    rw [hg]
    split at h
    · cases h
    · rename_i u hu
      have hy:yielded ops a.tmps i=match a.tmps[u]? with | some (.bool b)=>some b | _=>none:=by
        unfold yielded;rw [show ((ops[i]?).bind (·.dst)).bind (a.tmps[·]?)=a.tmps[u]? from by rw [hu];rfl];rfl
      show (yielded ops a.tmps i==some want)=t
      rw [hy]
      split at h
      · rename_i b hb;rw [ha.2 _ _ hb];simpa using h
      · rename_i x hx;rw [ha.2 _ _ hx];simpa using h
      · cases h
def out (d:Option Tmp) (v:Value) (L:List (Nat×Value)):List (Nat×Value):=match d with | some d=>(d,v)::L | none=>L
theorem Qjx {P:Program} {ro:Option Nat} {ρ:Operand→Value} {x:Next} {w w':World} (h:(execOp ρ o).run P w=.ok x w') (hx:∀ d,x≠.defer d):(o.semAt ro ρ).run P w=.ok x w':=by
  unfold Oper.semAt
  split
  · rename_i l c hc
    exfalso
    unfold execOp at h
    rw [hc] at h
    simp only [Sem.run_bind] at h
    cases hr:(resolve ρ c o.type).run P w with
    | ok d w1=>rw [hr] at h;simp only [Result.andThen_ok,Sem.run_pure,Result.ok.injEq] at h;exact hx d h.1.symm
    | halt hh w1=>rw [hr] at h;cases h
  · exact h
def OpS (C:Cx) (ops:Array Oper) (o:Oper) (L:List (Nat×Value)) (w:World) (Z:List (Nat×Value)→World→Prop):Prop :=
  ∀ a:Act,Agree C.fn.ntmps L a→∀ (b:Frame) (cs:List Frame) (i:Nat) (is:List Nat) (k:List Item),ops[i]?=some o→b.fn=C.f→b.kind=.normal →
    ∃ v w',Steps C.P (lone (b.atR a (.inRegion ops (i::is)::k)) cs w) (lone (b.atR (a.put o.dst v) (.inRegion ops is::k)) cs w')∧Z (out o.dst v L) w'∧(∀ d,o.dst=some d→Nat.blt d C.fn.ntmps=true)
theorem RunL.op (h:OpS C ops o L w (λ L' w'=>RunL C ops l (j+1) k L' w')):RunL C ops (o::l) j k L w:=by
  intro hl a ha hde b cs hb hk hro
  have h0:ops[j]?=some o:=by simpa using (hl 0).symm
  obtain ⟨v,w',hst,hZ,hd⟩:=h a ha b cs j (List.range' (j+1) l.length) k h0 hb hk
  have K':=hZ (λ m=>by have:=hl (m+1);simpa [Nat.add_assoc,Nat.add_comm 1 m] using this)
  have hag:Agree C.fn.ntmps (out o.dst v L) (a.put o.dst v):=by
    cases hdst:o.dst with
    | none=>simpa [out,Act.put] using ha
    | some d=>exact ha.put (hd d hdst) v
  have hde':(a.put o.dst v).defers=dfl C.df:=by cases o.dst<;>simp [Act.put,hde]
  obtain ⟨x,w2,fr,hq,hs,hf,hlv⟩:=K' _ hag hde' b cs hb hk hro
  exact ⟨x,w2,fr,hq,by rw [List.length_cons,List.range'_succ];exact Steps.trans hst hs,hf,hlv⟩
theorem RunL.slim (L':List (Nat×Value)) (h:Sub L L') (K:RunL C ops l j k L' w):RunL C ops l j k L w:=λ hl=>Run.slim L' h (K hl)
variable {Z:List (Nat×Value)→World→Prop}
theorem OpS.val {d:Nat} {v:Value} {w':World} (hg:gd ops L o.guard=some true) (ho:o.dst=some d) (hd:Nat.blt d C.fn.ntmps=true)
    (hr:∀ a:Act,Agree C.fn.ntmps L a→(execOp a.eval o).run C.P w=.ok (.value v) w') (K:Z ((d,v)::L) w'):OpS C ops o L w Z:=by
  intro a ha b cs i is k h0 hb hk
  refine ⟨v,w',.one (step_lone_go ?_),by rw [ho];exact K,λ d' h=>by rw [ho] at h;cases h;exact hd⟩
  rw [stepGR_op h0 (Qid ha hg)]
  have hfin:(b.atR a (.inRegion ops (i::is)::k)).finish v=b.atR (a.put o.dst v) (.inRegion ops is::k):=by
    rw [Frame.finish_atR,h0];simp
  rw [← hfin]
  simp [stepG.apply,Qjx (hr a ha) (by simp)]
theorem OpS.eff {w':World} (hg:gd ops L o.guard=some true) (ho:o.dst=none)
    (hr:∀ a:Act,Agree C.fn.ntmps L a→(execOp a.eval o).run C.P w=.ok .skip w') (K:Z L w'):OpS C ops o L w Z:=by
  intro a ha b cs i is k h0 hb hk
  refine ⟨undef,w',.one (step_lone_go ?_),by rw [ho];exact K,λ d' h=>by rw [ho] at h;cases h⟩
  rw [stepGR_op h0 (Qid ha hg)]
  have hfin:(b.atR a (.inRegion ops (i::is)::k)).finish undef=b.atR (a.put o.dst undef) (.inRegion ops is::k):=by
    rw [Frame.finish_atR,h0];simp
  rw [← hfin]
  simp [stepG.apply,Qjx (hr a ha) (by simp)]
theorem OpS.pass {d:Nat} (hg:gd ops L o.guard=some false) (ho:o.dst=some d) (hd:Nat.blt d C.fn.ntmps=true)
    (K:Z ((d,undef)::L) w):OpS C ops o L w Z:=by
  intro a ha b cs i is k h0 hb hk
  refine ⟨undef,w,.one ?_,by rw [ho];exact K,λ d' h=>by rw [ho] at h;cases h;exact hd⟩
  rw [stepR_op_skip (by simp [h0,Qid ha hg])]
  simp [h0]
theorem OpS.enter {d:Nat} {f:FuncId} {args:Array Value} {R:Value→World→Prop} (hg:gd ops L o.guard=some true) (ho:o.dst=some d) (hd:Nat.blt d C.fn.ntmps=true)
    (hr:∀ a:Act,Agree C.fn.ntmps L a→(execOp a.eval o).run C.P w=.ok (.enter f args) w)
    (hc:Calls C.P f args w λ e w'=>∃ v,e=.returned v∧R v w')
    (K:∀ v w',R v w'→Z ((d,v)::L) w'):OpS C ops o L w Z:=by
  intro a ha b cs i is k h0 hb hk
  obtain ⟨e,w1,fr1,⟨v,rfl,hR⟩,hsteps,_,hleave⟩:=hc (b.atR a (.inRegion ops (i::is)::k)::cs)
  have hfin:(b.atR a (.inRegion ops (i::is)::k)).finish v=b.atR (a.put o.dst v) (.inRegion ops is::k):=by
    rw [Frame.finish_atR,h0];simp
  have henter:step C.P (lone (b.atR a (.inRegion ops (i::is)::k)) cs w) =
      .next (lone (Frame.enter C.P f args .normal) (b.atR a (.inRegion ops (i::is)::k)::cs) w) :=
    step_lone_go (by rw [stepGR_op h0 (Qid ha hg)];simp [stepG.apply,Qjx (hr a ha) (by simp),Frame.atR])
  refine ⟨v,w1,.head henter (Steps.trans hsteps (.one ?_)),by rw [ho];exact K v w1 hR,λ d' h=>by rw [ho] at h;cases h;exact hd⟩
  rw [← hfin];exact step_leave_returned hleave
end
theorem Qsb {P:Program} {f:FuncId} {fn:Func} {c:Code} {args:Array Value} {w:World} {Q:Value→World→Prop} {L:List (Nat×Value)}
    (hf:P.funcs[f]?=some fn) (hb:fn.body=some c) (hL:Sub (args.toList.zipIdx.map λ p=>(p.2,p.1)) L) (hn:Nat.ble args.size fn.ntmps=true)
    (K:Run ⟨P,f,fn,Q,hf,none,none⟩ [.code c] L w):Calls P f args w λ e w'=>∃ v,e=.returned v∧Q v w':=by
  intro cs
  have hn':args.size≤fn.ntmps:=by simpa using hn
  let b:Frame:={ (default:Frame) with fn:=f,kind:=.normal,roundOf:=none }
  have henter:Frame.enter P f args .normal =
      b.atR { tmps:=args++Array.replicate (fn.ntmps-args.size) undef,defers:=[] } [.code c]:=by
    simp [Frame.enter,Frame.atR,hf,hb,b]
  have hlk:∀ (l:List Value) (n t:Nat) (v:Value),lk ((l.zipIdx n).map λ p=>(p.2,p.1)) t=some v→n≤t∧l[t-n]?=some v:=by
    intro l
    induction l with
    | nil=>intro n t v h;cases h
    | cons x r ih =>
      intro n t v h
      simp only [List.zipIdx_cons,List.map_cons,lk] at h
      by_cases e:n=t
      · subst e
        have:Nat.beq n n=true:=by simp
        rw [this] at h
        simp at h
        simp [h]
      · have:Nat.beq n t=false:=Qnp e
        rw [this] at h
        have:=ih (n+1) t v (by simpa using h)
        refine ⟨by omega,?_⟩
        have e2:t-n=(t-(n+1))+1:=by omega
        rw [e2];simpa using this.2
  have ha:Agree fn.ntmps L { tmps:=args++Array.replicate (fn.ntmps-args.size) undef,defers:=[] }:=by
    refine ⟨by simp;omega,λ t v hv=>?_⟩
    have h1:=hL.lk t v hv
    have h2:=(hlk args.toList 0 t v h1).2
    simp at h2
    obtain ⟨hlt,_⟩:=Array.getElem?_eq_some_iff.1 h2
    simp [Array.getElem?_append,hlt,← h2]
  obtain ⟨v,w',fr,hq,hs,hfn,hl⟩:=K _ ha rfl b cs rfl rfl rfl
  rw [← henter] at hs
  exact ⟨.returned v,w',fr,⟨v,rfl,hq⟩,hs,hfn,hl⟩
end Lift
