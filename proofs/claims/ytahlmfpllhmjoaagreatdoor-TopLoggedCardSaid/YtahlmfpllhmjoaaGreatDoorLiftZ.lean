import Derived.Test.YtahlmfpllhmjoaaGreatDoorLiftY
import Derived.ChangeKeysEq
import Derived.Laws.Concat
import Derived.Laws.Strings2
import Derived.Lib.AppendStr
set_option linter.unusedVariables false
set_option linter.unusedSimpArgs false
namespace Lift
open Go
theorem ca {α:Type} {a:α} {l m:List α}:(a::l)++m=a::(l++m):=List.cons_append
theorem na {α:Type} {l:List α}:[]++l=l:=List.nil_append l
section
variable {C:Cx} {k:List Item} {L:List (Nat×Value)} {w:World} {ops:Array Oper} {l:List Oper} {j d:Nat} {t:TypeId} {p:String} {af:Array Edge} {g:Option (Nat×Bool)}
theorem RunL.mv {x:Operand} {v:Value} (hg:gd ops L g=some true) (hd:Nat.blt d C.fn.ntmps=true) (hx:ev L x=some v) (K:RunL C ops l (j+1) k ((d,v)::L) w):RunL C ops (⟨some d,.move x,t,p,af,g⟩::l) j k L w:=RunL.op (OpS.mv hg hd hx K)
theorem RunL.asg {x:Operand} {v:Value} (hg:gd ops L g=some true) (hd:Nat.blt d C.fn.ntmps=true) (hx:ev L x=some v) (K:RunL C ops l (j+1) k ((d,v)::L) w):RunL C ops (⟨some d,.assign x,t,p,af,g⟩::l) j k L w:=RunL.op (OpS.as hg hd hx K)
theorem RunL.bin {op:BinOp} {tx ty:TypeId} {x y:Operand} {q:IntKind} {m n:Int} {v:Value} (hg:gd ops L g=some true) (hd:Nat.blt d C.fn.ntmps=true) (hx:ev L x=some (.int q m)) (hy:ev L y=some (.int q n)) (hv:opInt op q m n=some v) (K:RunL C ops l (j+1) k ((d,v)::L) w):RunL C ops (⟨some d,.binOp op tx x y ty,t,p,af,g⟩::l) j k L w:=RunL.op (OpS.bin hg hd hx hy hv K)
theorem RunL.pass {o:Oper} (hg:gd ops L o.guard=some false) (ho:o.dst=some d) (hd:Nat.blt d C.fn.ntmps=true) (K:RunL C ops l (j+1) k ((d,undef)::L) w):RunL C ops (o::l) j k L w:=RunL.op (OpS.pass hg ho hd K)
theorem RunL.pick {c x y:Operand} {b:Bool} {v:Value} (hg:gd ops L g=some true) (hd:Nat.blt d C.fn.ntmps=true) (hc:ev L c=some (.bool b)) (hx:ev L (if b then x else y)=some v) (K:RunL C ops l (j+1) k ((d,v)::L) w):RunL C ops (⟨some d,.pick c x y,t,p,af,g⟩::l) j k L w:=RunL.op (OpS.pick hg hd hc hx K)
theorem RunL.sr {id:Nat} {z:List Oper} {y:Code} (K:RunL C z.toArray z 0 (.code y::k) L w):Run C (.code (.seq (.region id z.toArray false) y)::k) L w:=Run.seq (Run.reg K)
def c0 (C:Cx) (ops:Array Oper) (L:List (Nat×Value)) (g:Option (Nat×Bool)) (d:Nat):Bool:=(match gd ops L g with | some true=>true | _=>false)&&Nat.blt d C.fn.ntmps
theorem Qrh {C:Cx} {ops:Array Oper} {L:List (Nat×Value)} {g:Option (Nat×Bool)} {d:Nat} (h:c0 C ops L g d=true):gd ops L g=some true∧Nat.blt d C.fn.ntmps=true:=by
  simp only [c0,Bool.and_eq_true] at h
  refine ⟨?_,h.2⟩
  have:=h.1
  split at this
  · assumption
  · cases this
def c1 (C:Cx) (ops:Array Oper) (L:List (Nat×Value)) (g:Option (Nat×Bool)) (d:Nat) (x:Operand):Option Value:=bif c0 C ops L g d then ev L x else none
theorem Qvm {x:Operand} {v:Value} (h:c1 C ops L g d x=some v):gd ops L g=some true∧Nat.blt d C.fn.ntmps=true∧ev L x=some v:=by
  unfold c1 at h
  cases hc:c0 C ops L g d<;>rw [hc] at h
  · cases h
  · obtain ⟨a,b⟩:=Qrh hc;exact ⟨a,b,h⟩
def c2 (C:Cx) (ops:Array Oper) (L:List (Nat×Value)) (g:Option (Nat×Bool)) (d:Nat) (op:BinOp) (x y:Operand):Option Value:=bif c0 C ops L g d then (match ev L x with | some (.int q m)=>(match ev L y with | some (.int r n)=>if q=r then opInt op q m n else none | _=>none) | _=>none) else none
def c3 (C:Cx) (ops:Array Oper) (L:List (Nat×Value)) (o:Oper):Option Nat:=match gd ops L o.guard with | some false=>(match o.dst with | some d=>bif Nat.blt d C.fn.ntmps then some d else none | none=>none) | _=>none
theorem Quw {o:Oper} (h:c3 C ops L o=some d):gd ops L o.guard=some false∧o.dst=some d∧Nat.blt d C.fn.ntmps=true:=by
  unfold c3 at h
  split at h
  · rename_i hg
    split at h
    · rename_i d' hd
      cases hb:Nat.blt d' C.fn.ntmps<;>rw [hb] at h
      · cases h
      · obtain rfl:=Option.some.inj h;exact ⟨hg,hd,hb⟩
    · cases h
  · cases h
def c4 (C:Cx) (ops:Array Oper) (L:List (Nat×Value)) (g:Option (Nat×Bool)) (d:Nat) (c x y:Operand):Option Value:=bif c0 C ops L g d then (match ev L c with | some (.bool b)=>ev L (if b then x else y) | _=>none) else none
theorem RunL.gm {x:Operand} {v:Value} (h:c1 C ops L g d x=some v) (K:RunL C ops l (j+1) k ((d,v)::L) w):RunL C ops (⟨some d,.move x,t,p,af,g⟩::l) j k L w:=have ⟨a,b,c⟩:=Qvm h;RunL.mv a b c K
theorem RunL.ga {x:Operand} {v:Value} (h:c1 C ops L g d x=some v) (K:RunL C ops l (j+1) k ((d,v)::L) w):RunL C ops (⟨some d,.assign x,t,p,af,g⟩::l) j k L w:=have ⟨a,b,c⟩:=Qvm h;RunL.asg a b c K
theorem RunL.gb {op:BinOp} {tx ty:TypeId} {x y:Operand} {v:Value} (h:c2 C ops L g d op x y=some v) (K:RunL C ops l (j+1) k ((d,v)::L) w):RunL C ops (⟨some d,.binOp op tx x y ty,t,p,af,g⟩::l) j k L w:=by
  unfold c2 at h
  cases hc:c0 C ops L g d<;>rw [hc] at h
  · cases h
  · obtain ⟨a,b⟩:=Qrh hc
    simp only [cond_true] at h
    split at h
    · rename_i hx
      split at h
      · rename_i hy
        split at h
        · rename_i e;subst e;exact RunL.bin a b hx hy h K
        · cases h
      · cases h
    · cases h
theorem RunL.gp {o:Oper} (h:c3 C ops L o=some d) (K:RunL C ops l (j+1) k ((d,undef)::L) w):RunL C ops (o::l) j k L w:=have ⟨a,b,c⟩:=Quw h;RunL.pass a b c K
theorem RunL.gk {c x y:Operand} {v:Value} (h:c4 C ops L g d c x y=some v) (K:RunL C ops l (j+1) k ((d,v)::L) w):RunL C ops (⟨some d,.pick c x y,t,p,af,g⟩::l) j k L w:=by
  unfold c4 at h
  cases hc:c0 C ops L g d<;>rw [hc] at h
  · cases h
  · obtain ⟨a,b⟩:=Qrh hc
    simp only [cond_true] at h
    split at h
    · rename_i hx;exact RunL.pick a b hx h K
    · cases h
theorem RunL.dp {e:En} {Γ:List (Bool×Atom)} {Ωs:List (Bool×HAtom)} {Ωi:List (List (Bool×HAtom))} {sps:List Sp} {deps:List (List Nat)} {i:Nat} {ds:List Nat} {o:Oper} (h:∀ vals,c3 C ops (seeL sps vals ds++L) o=some d):Ob C e ops L Γ Ωs Ωi sps deps i (.k d undef) ds o :=
  λ vals w Γx Ωx hs=>have ⟨a,b,c⟩:=Quw (h vals);OpS.pass a b c ⟨undef,by simp [lk];rfl,trivial,hs⟩
theorem RunL.du {A B D:Value→Prop} (h:D undef) (a:A undef:=by exact rfl) (b:B undef:=by exact trivial):∃ v,A v∧B v∧D v:=⟨undef,a,b,h⟩
end
def Rep.lnk0:Rep Bool where
  n:=1
  agg:=false
  rel:=λ _ _ cs x=>cs=[.pointer none]∧x=false
  len:=by intro _ _ _ _ h;rw [h.1];rfl
  one:=by intro _ _ _ _ h c hc;rw [h.1] at hc;simp at hc;subst hc;rfl
  stab:=by intro _ _ _ _ _ _ _ _ h;exact h
theorem Zr.lnk0:Zr .lnk0 [.pointer none] false:=λ _ _=>⟨rfl,rfl⟩
structure EqT {α:Type} (P:Program) (t:TypeId) (r:Rep α) (eq:α→α→Bool) (k:Nat):Prop where
  run:∀ (d:Nat) {S S':Blks} {w:World} {v v':Value} {x y:α},k≤d→r.val S w v x→r.val S' w v' y→(Op.equalIn d t v v').run P w=.ok (eq x y) w
def eqI (a b:Int):Bool:=a==b
def eqB (a b:Bool):Bool:=a==b
def eqS (a b:List Int):Bool:=a==b
theorem EqT.int {P:Program} {t:TypeId} {q q':IntKind} (h:P.underlying t=some (.int q')):EqT P t (.int q) eqI 1:=⟨by
  intro d S S' w v v' x y hd hv hv'
  obtain ⟨d,rfl⟩:∃ n,d=n+1:=⟨d-1,by omega⟩
  have e1:v=.int q x:=by have:[v]=[Value.int q x]:=hv;simpa using this
  have e2:v'=.int q y:=by have:[v']=[Value.int q y]:=hv';simpa using this
  subst e1 e2
  exact run_equalIn_int w d t q q' x y h⟩
theorem EqT.bool {P:Program} {t:TypeId} (h:P.underlying t=some .bool):EqT P t .bool eqB 1:=⟨by
  intro d S S' w v v' x y hd hv hv'
  obtain ⟨d,rfl⟩:∃ n,d=n+1:=⟨d-1,by omega⟩
  have e1:v=.bool x:=by have:[v]=[Value.bool x]:=hv;simpa using this
  have e2:v'=.bool y:=by have:[v']=[Value.bool y]:=hv';simpa using this
  subst e1 e2
  exact run_equalIn_bool' w d t x y h⟩
def eqL {α:Type} (eq:α→α→Bool):List α→List α→Bool
  | [],[]=>true
  | x::l,y::m=>eq x y&&eqL eq l m
  | _,_=>false
theorem eqL_beq:eqL eqI=eqS:=by
  funext l
  induction l with
  | nil=>funext m;cases m<;>rfl
  | cons x l ih =>
    funext m
    cases m with
    | nil=>rfl
    | cons y m=>simp only [eqL,ih];simp [eqS,eqI]
theorem EqT.arr {α:Type} {P:Program} {t E:TypeId} {r:Rep α} {eq:α→α→Bool} {m k:Nat} (h:P.underlying t=some (.array m E)) (hE:Ty P E r) (he:EqT P E r eq k):EqT P t (r.arr m) (eqL eq) (k+1):=⟨by
  intro d S S' w v v' x y hd hv hv'
  obtain ⟨d,rfl⟩:∃ n,d=n+1:=⟨d-1,by omega⟩
  obtain ⟨cs,rfl,hl,hel⟩:=hv
  obtain ⟨cs',rfl,hl',hel'⟩:=hv'
  cases hinf:P.info? E with
  | none=>have:=hE.sz;rw [hinf] at this;simp at this
  | some i =>
    have hsz:=hE.sz
    rw [hinf] at hsz;simp at hsz
    rw [run_equalIn_array w d cs.toArray cs'.toArray h hinf]
    have hce:P.cellsOf E=r.n:=by simp [Program.cellsOf,hinf,hsz]
    rw [hce]
    have key:∀ (n o:Nat),o+n=m→(Op.eqItems d E r.n cs.toArray cs'.toArray (List.range' o n)).run P w=.ok (eqL eq (x.drop o) (y.drop o)) w:=by
      intro n
      induction n with
      | zero =>
        intro o ho
        have e1:x.drop o=[]:=List.drop_eq_nil_of_le (by omega)
        have e2:y.drop o=[]:=List.drop_eq_nil_of_le (by omega)
        rw [e1,e2];simp [Op.eqItems,eqL]
      | succ n ih =>
        intro o ho
        have hx:o<x.length:=by omega
        have hy:o<y.length:=by omega
        obtain ⟨c1,c2,c3,rfl,hcl,hr⟩:=hel.at (List.getElem?_eq_getElem hx)
        obtain ⟨c1',c2',c3',rfl,hcl',hr'⟩:=hel'.at (List.getElem?_eq_getElem hy)
        have l2:=r.len hr
        have l2':=r.len hr'
        have p1:=Qhk hE (cs:=c1++c2++c3) (off:=o*r.n) (by simp;omega) w
        have p2:=Qhk hE (cs:=c1'++c2'++c3') (off:=o*r.n) (by simp;omega) w
        have e1:((c1++c2++c3).drop (o*r.n)).take r.n=c2:=by rw [List.append_assoc,← hcl,List.drop_left,← l2,List.take_left]
        have e2:((c1'++c2'++c3').drop (o*r.n)).take r.n=c2':=by rw [List.append_assoc,← hcl',List.drop_left,← l2',List.take_left]
        rw [e1] at p1
        rw [e2] at p2
        have p3:=he.run d (by omega) (Rep.val_pack hE.fl hr) (Rep.val_pack hE.fl hr')
        rw [List.range'_succ]
        simp only [Op.eqItems,Sem.run_bind,p1,p2,p3,Result.andThen_ok]
        rw [List.drop_eq_getElem_cons hx,List.drop_eq_getElem_cons hy]
        simp only [eqL]
        cases hq:eq x[o] y[o]
        · simp
        · simpa using ih (o+1) (by omega)
    have:=key m 0 (by omega)
    rw [List.range_eq_range']
    simpa using this⟩
def EqF {α:Type} (P:Program) (r:Rep α) (k:Nat) (ps:List (Nat×TypeId)) (eq:α→α→Bool):Prop :=
  ∀ (d : Nat) {S S' : Blks} {w : World} {cs cs' : List Value} {x y : α} (fs : List Field), k ≤ d → fs.map (fun f => (f.name == "_", f.offset, f.type)) = ps.map (fun p => (false, p)) → r.rel S w cs x → r.rel S' w cs' y → (Op.eqFields d cs.toArray cs'.toArray fs).run P w = .ok (eq x y) w
theorem EqF.nil {α:Type} {P:Program} {r:Rep α} {k:Nat}:EqF P r k [] (λ _ _=>true):=by
  intro d S S' w cs cs' x y fs _ hm _ _
  simp at hm;subst hm;simp [Op.eqFields]
theorem EqF.cons {α β:Type} {P:Program} {r:Rep α} {fr:Rep β} {k off:Nat} {U:TypeId} {ps:List (Nat×TypeId)} {get:α→β} {set:α→β→α} {eq1:β→β→Bool} {eq2:α→α→Bool} (hf:Fld r off fr get set) (hU:Ty P U fr) (h1:EqT P U fr eq1 k) (h2:EqF P r k ps eq2) :
    EqF P r k ((off,U)::ps) (λ x y=>eq1 (get x) (get y)&&eq2 x y):=by
  intro d S S' w cs cs' x y fs hk hm hr hr'
  cases fs with
  | nil=>simp at hm
  | cons f fs =>
    simp only [List.map_cons,List.cons.injEq,Prod.mk.injEq] at hm
    obtain ⟨⟨hn,ho,ht⟩,hm⟩:=hm
    have hn' : f.name ≠ "_" := by simpa using hn
    have g1:=hf.get hr
    have g2:=hf.get hr'
    have l1:=r.len hr
    have l2:=r.len hr'
    have hfit:=hf.fit
    have p1:=Qhk hU (cs:=cs) (off:=off) (by omega) w
    have p2:=Qhk hU (cs:=cs') (off:=off) (by omega) w
    have p3:=h1.run d hk (Rep.val_pack hU.fl g1) (Rep.val_pack hU.fl g2)
    simp only [Op.eqFields,hn',ne_eq,not_false_eq_true,if_true,ho,ht,Sem.run_bind,p1,p2,p3,Result.andThen_ok]
    cases hq:eq1 (get x) (get y)
    · simp
    · simpa using h2 d fs hk hm hr hr'
def EqS (P : Program) (t : TypeId) (ps : List (Nat × TypeId)) : Prop := ∃ fs : Array Field, P.underlying t = some (.struct fs) ∧ fs.toList.map (fun f => (f.name == "_", f.offset, f.type)) = ps.map (fun p => (false, p)) ∧ P.stoodInHeld t = false
theorem EqT.struct {α:Type} {P:Program} {t:TypeId} {r:Rep α} {k:Nat} {ps:List (Nat×TypeId)} {eq:α→α→Bool} (hs:EqS P t ps) (ha:r.agg=true) (hf:EqF P r k ps eq):EqT P t r eq (k+1):=⟨by
  intro d S S' w v v' x y hd hv hv'
  obtain ⟨d,rfl⟩:∃ n,d=n+1:=⟨d-1,by omega⟩
  obtain ⟨fs,h1,h2,h3⟩:=hs
  have hfs:P.fieldsOf t=fs:=by simp [Program.fieldsOf,h1]
  unfold Rep.val at hv hv'
  rw [ha] at hv hv'
  obtain ⟨cs,rfl,hr⟩:=hv
  obtain ⟨cs',rfl,hr'⟩:=hv'
  rw [run_equalIn_struct w d t _ _ (by rw [hfs];exact h1) h3,hfs]
  exact hf d fs.toList (by omega) h2 hr hr'⟩
theorem EqT.up {α:Type} {P:Program} {t:TypeId} {r:Rep α} {k k':Nat} {eq:α→α→Bool} (h:EqT P t r eq k) (hk:Nat.ble k k'=true):EqT P t r eq k':=⟨λ d _ _ _ _ _ _ _ hd=>h.run d (Nat.le_trans (Nat.le_of_ble_eq_true hk) hd)⟩
def GdF (P:Program) (t:TypeId):Prop:=P.eqGuardType P.depth t=false
section
variable {C:Cx} {L:List (Nat×Value)} {w:World} {ops:Array Oper} {Z:List (Nat×Value)→World→Prop} {d:Nat} {t T:TypeId} {p:String} {af:Array Edge} {g:Option (Nat×Bool)}
variable {e : En} {Γ : List (Bool × Atom)} {Ω Ω' : List (Bool × HAtom)} {f : Bool} {α β : Type} {r : Rep α} {x : α}
theorem OpS.eqA {tx ty:TypeId} {a b:Operand} {u v:Value} {m n:α} {f':Bool} {eq:α→α→Bool} {k:Nat} (h:St e w Γ Ω) (hE:EqT C.P tx r eq k) (hk:Nat.ble k 10000=true) (hq:GdF C.P tx) (ha:r.agg=true) (hg:gd ops L g=some true) (hd:Nat.blt d C.fn.ntmps=true) (hx:ev L a=some u) (hy:ev L b=some v)
    (hu:V e.w.heap.size Γ f r u m) (hv:V e.w.heap.size Γ f' r v n) (K:Z ((d,.bool (eq m n))::L) w):OpS C ops ⟨some d,.binOp .eql tx a b ty,t,p,af,g⟩ L w Z:=by
  obtain ⟨S,G,I,hs,_⟩:=h
  have h1:=hu S w hs
  have h2:=hv S w hs
  have hrun:=hE.run 10000 (Nat.le_of_ble_eq_true hk) h1 h2
  unfold Rep.val at h1 h2
  rw [ha] at h1 h2
  obtain ⟨cs,rfl,_⟩:=h1
  obtain ⟨cs',rfl,_⟩:=h2
  exact OpS.val hg rfl hd (λ ac hac=>by
    simp only [execOp,hac.ev hx,hac.ev hy,Sem.run_bind,run_eqGuard_agg w .eql tx _ _ _ _ hq,Result.andThen_ok]
    rw [run_eql_struct,hrun];simp) K
theorem OpS.neA {tx ty:TypeId} {a b:Operand} {u v:Value} {m n:α} {f':Bool} {eq:α→α→Bool} {k:Nat} (h:St e w Γ Ω) (hE:EqT C.P tx r eq k) (hk:Nat.ble k 10000=true) (hq:GdF C.P tx) (ha:r.agg=true) (hg:gd ops L g=some true) (hd:Nat.blt d C.fn.ntmps=true) (hx:ev L a=some u) (hy:ev L b=some v)
    (hu:V e.w.heap.size Γ f r u m) (hv:V e.w.heap.size Γ f' r v n) (K:Z ((d,.bool (!eq m n))::L) w):OpS C ops ⟨some d,.binOp .neq tx a b ty,t,p,af,g⟩ L w Z:=by
  obtain ⟨S,G,I,hs,_⟩:=h
  have h1:=hu S w hs
  have h2:=hv S w hs
  have hrun:=hE.run 10000 (Nat.le_of_ble_eq_true hk) h1 h2
  unfold Rep.val at h1 h2
  rw [ha] at h1 h2
  obtain ⟨cs,rfl,_⟩:=h1
  obtain ⟨cs',rfl,_⟩:=h2
  exact OpS.val hg rfl hd (λ ac hac=>by
    simp only [execOp,hac.ev hx,hac.ev hy,Sem.run_bind,run_eqGuard_agg w .neq tx _ _ _ _ hq,Result.andThen_ok]
    rw [run_neq_struct,hrun];simp) K
theorem OpS.a2p {a:Operand} {v:Value} {m:Nat} {E:TypeId} {xs:List α} (h:St e w Γ Ω) (ht:C.P.underlying T=some (.array m E)) (hm:Nat.blt 0 m=true) (hl:m≤xs.length) (hg:gd ops L g=some true) (hd:Nat.blt d C.fn.ntmps=true) (hx:ev L a=some v)
    (hv:V e.w.heap.size Γ f r.slice v xs) (K:∀ u,St e w ((f,.ptr (r.arr m) u (xs.take m))::Γ) Ω→Z ((d,u)::L) w):OpS C ops ⟨some d,.sliceToArrayPointer T a,t,p,af,g⟩ L w Z:=by
  obtain ⟨S,G,I,hs,ho⟩:=h
  have hm':0<m:=by simpa [Nat.blt_eq] using hm
  obtain ⟨pa,cap,e1,hlc,hcm,hcells⟩:=hv S w hs
  obtain ⟨bk,o,cells,rfl,hb,hc,hel⟩:=hcells (by intro h;subst h;simp at hl;omega)
  simp only [List.cons.injEq,and_true] at e1
  subst e1
  have hnl:¬ xs.length<m:=by omega
  refine OpS.val (v:=.pointer (some ⟨bk,o,none⟩)) (w':=w) hg rfl hd (λ ac hac=>by simp [execOp,hac.ev hx,Instr.arrayAt,run_underlying ht,hnl]) (K _ ⟨S,G,I,⟨⟨bk,o,cells.take (m*r.n),rfl,hb,λ j u hj=>?_,by simp;omega,hel.take m⟩,hs⟩,ho⟩)
  rw [List.getElem?_take] at hj
  split at hj
  · exact hc j u hj
  · cases hj
theorem OpS.sarr {a:Operand} {v:Value} {m:Nat} {E:TypeId} {xs:List α} (h:St e w Γ Ω) (ht:C.P.underlying T=some (.array m E)) (hE:Ty C.P E r) (hm:Nat.ble m maxLen=true) (hg:gd ops L g=some true) (hd:Nat.blt d C.fn.ntmps=true) (hx:ev L a=some v)
    (ha:At Γ (f,.ptr (r.arr m) v xs)) (K:∀ u,St e w ((f,.val r.slice u xs)::Γ) Ω→Z ((d,u)::L) w):OpS C ops ⟨some d,.slice T a none none none,t,p,af,g⟩ L w Z:=by
  obtain ⟨S,G,I,hs,ho⟩:=h
  obtain ⟨bk,o,cs,rfl,hb,hc,hl,hel⟩:=hs.at ha
  cases hinf:C.P.info? E with
  | none=>have:=hE.sz;rw [hinf] at this;simp at this
  | some y =>
    have hsz:=hE.sz
    rw [hinf] at hsz;simp at hsz
    refine OpS.val (v:=.slice (some ⟨bk,o,none⟩) m m) (w':=w) hg rfl hd (λ ac hac=>?_) (K _ ⟨S,G,I,⟨⟨some ⟨bk,o,none⟩,m,by rw [hl],by omega,Nat.le_of_ble_eq_true hm,λ _=>⟨bk,o,cs,rfl,hb,hc,hel⟩⟩,hs⟩,ho⟩)
    by_cases h0:m=0
    · simp [execOp,hac.ev hx,Instr.sliceAt,run_underlying ht,Instr.sureAddr,Instr.sliceBounds,Go.sizeOf,typeInfo,hinf,h0]
    · simp [execOp,hac.ev hx,Instr.sliceAt,run_underlying ht,Instr.sureAddr,Instr.sliceBounds,Go.sizeOf,typeInfo,hinf,h0,Qaj]
theorem Args.part {B : Nat} {Γa : List (Bool × Atom)} {E : TypeId} {v : Value} {xs ys : List α} {m n : Int} (hp : Pick Ω (f, .slice E r v xs) Ω') (hs : Lift.sub xs m n = some ys) (K : Args B Γ Ω Γa) : Args B Γ Ω ((false, .val r.slice (Lift.part r.n v m.toNat n.toNat) ys) :: Γa) := by
  refine .sem (λ S G w hst ho=>?_) K
  obtain ⟨G1,G2,h1,_,_,h4,_⟩:=ho.pick hp
  obtain ⟨h0,h2,h3,rfl⟩:=Qpb hs
  have h4':=(HAtom.slice E r v xs).st (S':=λ b=>S b∨G b) (λ b hb=>.inl hb.1) (λ _ _=>rfl) (λ _ _=>rfl) h4
  obtain ⟨pa,cap,e1,hlc,hcm,hcells⟩:=Qpo h4' (λ b hb=>.inr ((h1 b).2 (.inl hb)))
  simp only [List.cons.injEq,and_true] at e1
  subst e1
  have hyl:((xs.drop m.toNat).take (n.toNat-m.toNat)).length=n.toNat-m.toNat:=by simp;omega
  refine ⟨_,cap-m.toNat,by rw [hyl];rfl,by rw [hyl];omega,by omega,λ hne=>?_⟩
  have hnn:n.toNat-m.toNat≠0:=λ h=>hne (List.eq_nil_of_length_eq_zero (by rw [hyl,h]))
  obtain ⟨bk,o,cells,rfl,hb,hc,hel⟩:=hcells (by intro h;subst h;simp at h3;omega)
  have hcm':¬ cap=m.toNat:=by omega
  refine ⟨bk,o+m.toNat*r.n,_,by simp [hcm',Qaj],hb,?_,(hel.drop m.toNat).take (n.toNat-m.toNat)⟩
  intro i u hi
  rw [List.getElem?_take] at hi
  split at hi
  · have:=hc (m.toNat*r.n+i) u (by simpa [List.getElem?_drop] using hi)
    simpa [Nat.add_assoc] using this
  · cases hi
theorem OpS.lenP {a : Operand} {v : Value} {E E' : TypeId} {m n : Int} {xs : List α} (h : St e w Γ Ω) (hp : Pick Ω (f, .slice E' r v xs) Ω') (hb : 0 ≤ m ∧ m ≤ n ∧ n ≤ (xs.length : Int)) (ht : C.P.underlying T = some (.slice E)) (hg : gd ops L g = some true) (hd : Nat.blt d C.fn.ntmps = true) (hx : ev L a = some (Lift.part r.n v m.toNat n.toNat))
    (K:Z ((d,.int .i64 (n-m))::L) w):OpS C ops ⟨some d,.call ⟨.builtin .len,#[a],#[T]⟩,t,p,af,g⟩ L w Z:=by
  obtain ⟨S,G,I,hst,ho⟩:=h
  obtain ⟨_,_,_,_,_,h4,_⟩:=ho.pick hp
  obtain ⟨pa,cap,rfl,hlc⟩:=Qts h4
  have e1:((n.toNat-m.toNat:Nat):Int)=n-m:=by omega
  exact OpS.val hg rfl hd (λ ac hac=>by simp only [Lift.part] at hx;simp [execOp,resolve,invoke,builtin,Builtin.len_,hac.ev hx,run_underlying ht,goInt,e1]) K
theorem OpS.ipart {a b : Operand} {v : Value} {E : TypeId} {q : IntKind} {m n i : Int} {xs : List α} (h : St e w Γ Ω) (hp : Pick Ω (f, .slice E r v xs) Ω') (hb : 0 ≤ m ∧ m ≤ n ∧ n ≤ (xs.length : Int)) (hi' : 0 ≤ i ∧ i < n - m) (ht : C.P.underlying T = some (.slice E)) (hE : Ty C.P E r) (hg : gd ops L g = some true) (hd : Nat.blt d C.fn.ntmps = true) (hx : ev L a = some (Lift.part r.n v m.toNat n.toNat)) (hi : ev L b = some (.int q i))
    (K:Z ((d,padd (sp v) ((m+i).toNat*r.n))::L) w):OpS C ops ⟨some d,.indexAddr T a b,t,p,af,g⟩ L w Z:=by
  obtain ⟨S,G,I,hs,hO⟩:=h
  obtain ⟨G1,G2,_,_,_,⟨cells,hown,hel,_⟩,_⟩:=hO.pick hp
  rcases hown.2 with ⟨_,hn⟩ | ⟨bk,cap,cur,rfl,_,hh,hnc,hcm,hcs,htake⟩
  · have:=List.eq_nil_of_length_eq_zero hn;subst this;simp at hb;omega
  have hcm':¬ cap=m.toNat:=by omega
  have e1:Lift.part r.n (.slice (some ⟨bk,0,none⟩) xs.length cap) m.toNat n.toNat=.slice (some ⟨bk,0+m.toNat*r.n,none⟩) (n.toNat-m.toNat) (cap-m.toNat):=by simp [Lift.part,hcm',Qaj]
  rw [e1] at hx
  have e2:(m+i).toNat*r.n=m.toNat*r.n+i.toNat*r.n:=by rw [← Nat.add_mul];congr 1;omega
  have e3:padd (sp (.slice (some ⟨bk,0,none⟩) xs.length cap)) ((m+i).toNat*r.n)=.pointer (some ⟨bk,0+m.toNat*r.n+i.toNat*r.n,none⟩):=by rw [e2];simp [padd,sp,Qaj]
  rw [e3] at K
  exact OpS.val hg rfl hd (λ ac hac=>by
    simp only [execOp,hac.ev hx,hac.ev hi,Qhu ht hE.sz bk (0+m.toNat*r.n) (n.toNat-m.toNat) (cap-m.toNat) q i hi'.1 (by omega),Sem.run_bind,Result.andThen_ok,Sem.run_pure]) K
theorem Qqs (s:ByteArray) (a b:Nat):strOf (s.extract a b)=((strOf s).drop a).take (b-a):=by
  obtain ⟨⟨l⟩⟩:=s
  rw [ByteArray.extract_mk]
  simp [strOf,List.map_take,List.map_drop]
theorem Qsg (s u:ByteArray):strOf (s++u)=strOf s++strOf u:=by
  obtain ⟨⟨l⟩⟩:=s
  obtain ⟨⟨m⟩⟩:=u
  rw [ByteArray.mk_append_mk]
  simp [strOf]
theorem Qjt (s:ByteArray):(strOf s).length=s.size:=by
  obtain ⟨⟨l⟩⟩:=s
  simp [strOf,ByteArray.size]
theorem OpS.lenS {a:Operand} {v:Value} {xs:List Int} (h:St e w Γ Ω) (ht:C.P.underlying T=some .string) (hg:gd ops L g=some true) (hd:Nat.blt d C.fn.ntmps=true) (hx:ev L a=some v) (hv:V e.w.heap.size Γ f .str v xs)
    (K:Z ((d,.int .i64 xs.length)::L) w):OpS C ops ⟨some d,.call ⟨.builtin .len,#[a],#[T]⟩,t,p,af,g⟩ L w Z:=by
  obtain ⟨S,G,I,hs,ho⟩:=h
  obtain ⟨s,e1,rfl⟩:=hv S w hs
  simp only [List.cons.injEq,and_true] at e1
  subst e1
  rw [Qjt] at K
  exact OpS.val hg rfl hd (λ ac hac=>by simp [execOp,resolve,invoke,builtin,Builtin.len_,hac.ev hx,run_underlying ht,goInt]) K
theorem OpS.ssub {a:Operand} {lo hi:Option Operand} {v:Value} {m n:Int} {xs ys:List Int} (h:St e w Γ Ω) (ht:C.P.underlying T=some .string) (hg:gd ops L g=some true) (hd:Nat.blt d C.fn.ntmps=true) (hx:ev L a=some v)
    (hlo:bnd L lo 0=some m) (hhi:bnd L hi xs.length=some n) (hv:V e.w.heap.size Γ f .str v xs) (hs:Lift.sub xs m n=some ys) (K:∀ u,St e w ((true,.val .str u ys)::Γ) Ω→Z ((d,u)::L) w) :
    OpS C ops ⟨some d,.slice T a lo hi none,t,p,af,g⟩ L w Z:=by
  obtain ⟨S,G,I,hst,ho⟩:=h
  obtain ⟨h0,h1,h2,rfl⟩:=Qpb hs
  obtain ⟨s,e1,rfl⟩:=hv S w hst
  simp only [List.cons.injEq,and_true] at e1
  subst e1
  rw [Qjt] at h2 hhi
  refine OpS.val (v:=.string (s.extract m.toNat n.toNat)) (w':=w) hg rfl hd (λ ac hac=>?_) (K _ ⟨S,G,I,⟨⟨_,rfl,(Qqs s _ _).symm⟩,hst⟩,ho⟩)
  have hn0:0≤n:=by omega
  have hm:(Instr.sliceBounds false s.size s.size (lo.map ac.eval) (hi.map ac.eval) none).run C.P w=.ok (m.toNat,n.toNat,s.size) w:=by
    rcases Qgy hac hlo with ⟨rfl,rfl⟩ | ⟨x1,q1,rfl,hx1⟩<;>rcases Qgy hac hhi with ⟨rfl,rfl⟩ | ⟨x2,q2,rfl,hx2⟩
    · simp [Instr.sliceBounds]
    · simp [Instr.sliceBounds,hx2,Instr.sliceBound,asIntOf,hn0,h2]
    · have h1':m≤(s.size:Int):=by omega
      simp [Instr.sliceBounds,hx1,Instr.sliceBound,asIntOf,h0,h1']
    · have h1':m≤max n 0:=by omega
      simp [Instr.sliceBounds,hx1,hx2,Instr.sliceBound,asIntOf,h0,h1',hn0,h2]
  simp [execOp,hac.ev hx,Instr.sliceAt,run_underlying ht,Instr.slice,hm]
def cat (a b:List Int):Option (List Int):=if ((a.length+b.length:Nat):Int)≤9223372036854775807 then some (a++b) else none
theorem OpS.cats {tx ty:TypeId} {a b:Operand} {u v:Value} {m n l:List Int} {f':Bool} (h:St e w Γ Ω) (hg:gd ops L g=some true) (hd:Nat.blt d C.fn.ntmps=true) (hx:ev L a=some u) (hy:ev L b=some v)
    (hu:V e.w.heap.size Γ f .str u m) (hv:V e.w.heap.size Γ f' .str v n) (hc:cat m n=some l) (K:∀ z,St e w ((true,.val .str z l)::Γ) Ω→Z ((d,z)::L) w):OpS C ops ⟨some d,.binOp .add tx a b ty,t,p,af,g⟩ L w Z:=by
  obtain ⟨S,G,I,hs,ho⟩:=h
  obtain ⟨s1,e1,rfl⟩:=hu S w hs
  obtain ⟨s2,e2,rfl⟩:=hv S w hs
  simp only [List.cons.injEq,and_true] at e1 e2
  subst e1;subst e2
  unfold cat at hc
  split at hc
  · rename_i hle
    simp only [Option.some.injEq] at hc
    rw [Qjt,Qjt] at hle
    have hng:¬ (((s1.size+s2.size:Nat):Int)>IntKind.i64.max):=by
      have:IntKind.i64.max=9223372036854775807:=by decide
      rw [this];omega
    refine OpS.val (v:=.string (s1++s2)) (w':=w) hg rfl hd (λ ac hac=>?_) (K _ ⟨S,G,I,⟨⟨_,rfl,by rw [Qsg];exact hc.symm⟩,hs⟩,ho⟩)
    simp only [execOp,hac.ev hx,hac.ev hy,Sem.run_bind]
    simp [eqGuard,binOp,Op.stringOp]
    omega
  · cases hc
def HAtom.lnk (q v:Value) (b:Bool):HAtom:=⟨λ G _ _=>(∀ c,¬ G c)∧v.oneCell'=true∧v=bif b then q else .pointer none,λ _ _ _ h=>h⟩
theorem St.lnkNil (q:Value) (h:St e w Γ Ω):St e w Γ ((true,.lnk q (.pointer Option.none) false)::Ω):=by
  obtain ⟨S,G,I,hs,ho⟩:=h
  exact ⟨S,G,I,hs,λ _=>False,G,λ _=>by simp,λ _ h=>h.elim,λ _ _ h=>h.elim,⟨λ _ h=>h,rfl,rfl⟩,ho⟩
theorem St.lnkMk {T0 : TypeId} {q : Value} (h : St e w Γ Ω) (hp : Pick Ω (f, .box T0 r q x) Ω') : St e w Γ ((true, .lnk q q true) :: Ω) := by
  obtain ⟨S,G,I,hs,ho⟩:=h
  obtain ⟨_,_,_,_,_,⟨g,_,rfl,_⟩,_⟩:=ho.pick hp
  exact ⟨S,G,I,hs,λ _=>False,G,λ _=>by simp,λ _ h=>h.elim,λ _ _ h=>h.elim,⟨λ _ h=>h,rfl,rfl⟩,ho⟩
theorem St.lnk_one {q v : Value} {b : Bool} (h : St e w Γ Ω) (hp : Pick Ω (f, .lnk q v b) Ω') : v.oneCell' = true := by
  obtain ⟨S,G,I,hs,ho⟩:=h
  obtain ⟨_,_,_,_,_,h,_⟩:=ho.pick hp
  exact h.2.1
theorem St.lnk_eq {q v : Value} {b : Bool} (h : St e w Γ Ω) (hp : Pick Ω (f, .lnk q v b) Ω') (hb : b = true) : v = q := by
  subst hb
  obtain ⟨S,G,I,hs,ho⟩:=h
  obtain ⟨_,_,_,_,_,h,_⟩:=ho.pick hp
  exact h.2.2
theorem St.attach {q v:Value} {b:Bool} (h:St e w Γ ((f,.lnk q v b)::Ω)) (hb:b=true):q=v∧St e w Γ ((f,.lnk q q b)::Ω):=by
  have h1:=h.lnk_eq .z hb
  subst h1
  exact ⟨rfl,h⟩
def PtrOf (h:HAtom) (q:Value):Prop:=∀ G S w,h.p G S w→∃ a,q=.pointer (some a)
theorem PtrOf.box {T0:TypeId} {q:Value}:PtrOf (.box T0 r q x) q:=λ _ _ _ h=>ptr_box _ _ _ h
theorem PtrOf.sep {a b:HAtom} {q:Value} (h:PtrOf a q):PtrOf (.sep a b) q:=λ _ _ _ ⟨_,_,_,_,h3,_⟩=>h _ _ _ h3
theorem PtrOf.ex {h:Value→HAtom} {q:Value} (k:∀ v,PtrOf (h v) q):PtrOf (.ex h) q:=λ _ _ _ ⟨v,hv⟩=>k v _ _ _ hv
theorem OpS.onilE2 {tx ty E : TypeId} {a b : Operand} {q : Value} {H : α → HAtom} {o : Option α} (h : St e w Γ Ω) (hp : Pick Ω (f, .opt H q o) Ω') (hH : ∀ x, PtrOf (H x) q) (ht : C.P.underlying tx = some (.pointer E)) (hg : gd ops L g = some true) (hd : Nat.blt d C.fn.ntmps = true)
    (hx:ev L a=some q) (hy:ev L b=some (.pointer none)) (K:Z ((d,.bool o.isNone)::L) w):OpS C ops ⟨some d,.binOp .eql tx a b ty,t,p,af,g⟩ L w Z:=OpS.onilE h hp (λ x G S w hh=>hH x G S w hh) ht hg hd hx hy K
end
end Lift
