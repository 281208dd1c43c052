import Derived.Test.YtahlmfpllhmjoaaGreatDoorLiftY
import Derived.ChangeKeysEq
import Derived.Laws.Concat
import Derived.Laws.Strings2
import Derived.Lib.AppendStr
set_option linter.unusedVariables false
set_option linter.unusedSimpArgs false
namespace Lift
open Go
theorem ca {α:Type} {a:α} {l m:List α}:(a::l)++m=a::(l++m):=List.cons_append
theorem na {α:Type} {l:List α}:[]++l=l:=List.nil_append l
section
variable {C:Cx} {k:List Item} {L:List (Nat×Value)} {w:World} {ops:Array Oper} {l:List Oper} {j d:Nat} {t:TypeId} {p:String} {af:Array Edge} {g:Option (Nat×Bool)}
theorem RunL.mv {x:Operand} {v:Value} (hg:gd ops L g=some true) (hd:Nat.blt d C.fn.ntmps=true) (hx:ev L x=some v) (K:RunL C ops l (j+1) k ((d,v)::L) w):RunL C ops (⟨some d,.move x,t,p,af,g⟩::l) j k L w:=RunL.op (OpS.mv hg hd hx K)
theorem RunL.asg {x:Operand} {v:Value} (hg:gd ops L g=some true) (hd:Nat.blt d C.fn.ntmps=true) (hx:ev L x=some v) (K:RunL C ops l (j+1) k ((d,v)::L) w):RunL C ops (⟨some d,.assign x,t,p,af,g⟩::l) j k L w:=RunL.op (OpS.as hg hd hx K)
theorem RunL.bin {op:BinOp} {tx ty:TypeId} {x y:Operand} {q:IntKind} {m n:Int} {v:Value} (hg:gd ops L g=some true) (hd:Nat.blt d C.fn.ntmps=true) (hx:ev L x=some (.int q m)) (hy:ev L y=some (.int q n)) (hv:opInt op q m n=some v) (K:RunL C ops l (j+1) k ((d,v)::L) w):RunL C ops (⟨some d,.binOp op tx x y ty,t,p,af,g⟩::l) j k L w:=RunL.op (OpS.bin hg hd hx hy hv K)
theorem RunL.pass {o:Oper} (hg:gd ops L o.guard=some false) (ho:o.dst=some d) (hd:Nat.blt d C.fn.ntmps=true) (K:RunL C ops l (j+1) k ((d,undef)::L) w):RunL C ops (o::l) j k L w:=RunL.op (OpS.pass hg ho hd K)
theorem RunL.pick {c x y:Operand} {b:Bool} {v:Value} (hg:gd ops L g=some true) (hd:Nat.blt d C.fn.ntmps=true) (hc:ev L c=some (.bool b)) (hx:ev L (if b then x else y)=some v) (K:RunL C ops l (j+1) k ((d,v)::L) w):RunL C ops (⟨some d,.pick c x y,t,p,af,g⟩::l) j k L w:=RunL.op (OpS.pick hg hd hc hx K)
theorem RunL.sr {id:Nat} {z:List Oper} {y:Code} (K:RunL C z.toArray z 0 (.code y::k) L w):Run C (.code (.seq (.region id z.toArray false) y)::k) L w:=Run.seq (Run.reg K)
def c0 (C:Cx) (ops:Array Oper) (L:List (Nat×Value)) (g:Option (Nat×Bool)) (d:Nat):Bool:=(match gd ops L g with | some true=>true | _=>false)&&Nat.blt d C.fn.ntmps
theorem c0_use {C:Cx} {ops:Array Oper} {L:List (Nat×Value)} {g:Option (Nat×Bool)} {d:Nat} (h:c0 C ops L g d=true):gd ops L g=some true∧Nat.blt d C.fn.ntmps=true:=by
  simp only [c0,Bool.and_eq_true] at h
  refine ⟨?_,h.2⟩
  have:=h.1
  split at this
  · assumption
  · cases this
def c1 (C:Cx) (ops:Array Oper) (L:List (Nat×Value)) (g:Option (Nat×Bool)) (d:Nat) (x:Operand):Option Value:=bif c0 C ops L g d then ev L x else none
theorem c1_use {x:Operand} {v:Value} (h:c1 C ops L g d x=some v):gd ops L g=some true∧Nat.blt d C.fn.ntmps=true∧ev L x=some v:=by
  unfold c1 at h
  cases hc:c0 C ops L g d<;>rw [hc] at h
  · cases h
  · obtain ⟨a,b⟩:=c0_use hc;exact ⟨a,b,h⟩
def c2 (C:Cx) (ops:Array Oper) (L:List (Nat×Value)) (g:Option (Nat×Bool)) (d:Nat) (op:BinOp) (x y:Operand):Option Value:=bif c0 C ops L g d then (match ev L x with | some (.int q m)=>(match ev L y with | some (.int r n)=>if q=r then opInt op q m n else none | _=>none) | _=>none) else none
def c3 (C:Cx) (ops:Array Oper) (L:List (Nat×Value)) (o:Oper):Option Nat:=match gd ops L o.guard with | some false=>(match o.dst with | some d=>bif Nat.blt d C.fn.ntmps then some d else none | none=>none) | _=>none
theorem c3_use {o:Oper} (h:c3 C ops L o=some d):gd ops L o.guard=some false∧o.dst=some d∧Nat.blt d C.fn.ntmps=true:=by
  unfold c3 at h
  split at h
  · rename_i hg
    split at h
    · rename_i d' hd
      cases hb:Nat.blt d' C.fn.ntmps<;>rw [hb] at h
      · cases h
      · obtain rfl:=Option.some.inj h;exact ⟨hg,hd,hb⟩
    · cases h
  · cases h
def c4 (C:Cx) (ops:Array Oper) (L:List (Nat×Value)) (g:Option (Nat×Bool)) (d:Nat) (c x y:Operand):Option Value:=bif c0 C ops L g d then (match ev L c with | some (.bool b)=>ev L (if b then x else y) | _=>none) else none
theorem RunL.gm {x:Operand} {v:Value} (h:c1 C ops L g d x=some v) (K:RunL C ops l (j+1) k ((d,v)::L) w):RunL C ops (⟨some d,.move x,t,p,af,g⟩::l) j k L w:=have ⟨a,b,c⟩:=c1_use h;RunL.mv a b c K
theorem RunL.ga {x:Operand} {v:Value} (h:c1 C ops L g d x=some v) (K:RunL C ops l (j+1) k ((d,v)::L) w):RunL C ops (⟨some d,.assign x,t,p,af,g⟩::l) j k L w:=have ⟨a,b,c⟩:=c1_use h;RunL.asg a b c K
theorem RunL.gb {op:BinOp} {tx ty:TypeId} {x y:Operand} {v:Value} (h:c2 C ops L g d op x y=some v) (K:RunL C ops l (j+1) k ((d,v)::L) w):RunL C ops (⟨some d,.binOp op tx x y ty,t,p,af,g⟩::l) j k L w:=by
  unfold c2 at h
  cases hc:c0 C ops L g d<;>rw [hc] at h
  · cases h
  · obtain ⟨a,b⟩:=c0_use hc
    simp only [cond_true] at h
    split at h
    · rename_i hx
      split at h
      · rename_i hy
        split at h
        · rename_i e;subst e;exact RunL.bin a b hx hy h K
        · cases h
      · cases h
    · cases h
theorem RunL.gp {o:Oper} (h:c3 C ops L o=some d) (K:RunL C ops l (j+1) k ((d,undef)::L) w):RunL C ops (o::l) j k L w:=have ⟨a,b,c⟩:=c3_use h;RunL.pass a b c K
theorem RunL.gk {c x y:Operand} {v:Value} (h:c4 C ops L g d c x y=some v) (K:RunL C ops l (j+1) k ((d,v)::L) w):RunL C ops (⟨some d,.pick c x y,t,p,af,g⟩::l) j k L w:=by
  unfold c4 at h
  cases hc:c0 C ops L g d<;>rw [hc] at h
  · cases h
  · obtain ⟨a,b⟩:=c0_use hc
    simp only [cond_true] at h
    split at h
    · rename_i hx;exact RunL.pick a b hx h K
    · cases h
theorem RunL.dp {e:En} {Γ:List (Bool×Atom)} {Ωs:List (Bool×HAtom)} {Ωi:List (List (Bool×HAtom))} {sps:List Sp} {deps:List (List Nat)} {i:Nat} {ds:List Nat} {o:Oper} (h:∀ vals,c3 C ops (seeL sps vals ds++L) o=some d):Ob C e ops L Γ Ωs Ωi sps deps i (.k d undef) ds o :=
  λ vals w Γx Ωx hs=>have ⟨a,b,c⟩:=c3_use (h vals);OpS.pass a b c ⟨undef,by simp [lk];rfl,trivial,hs⟩
theorem RunL.du {A B D:Value→Prop} (h:D undef) (a:A undef:=by exact rfl) (b:B undef:=by exact trivial):∃ v,A v∧B v∧D v:=⟨undef,a,b,h⟩
end
def Rep.lnk0:Rep Bool where
  n:=1
  agg:=false
  rel:=λ _ _ cs x=>cs=[.pointer none]∧x=false
  len:=by intro _ _ _ _ h;rw [h.1];rfl
  one:=by intro _ _ _ _ h c hc;rw [h.1] at hc;simp at hc;subst hc;rfl
  stab:=by intro _ _ _ _ _ _ _ _ h;exact h
theorem Zr.lnk0:Zr .lnk0 [.pointer none] false:=λ _ _=>⟨rfl,rfl⟩
section
variable {C:Cx} {L:List (Nat×Value)} {w:World} {ops:Array Oper} {Z:List (Nat×Value)→World→Prop} {d:Nat} {t T:TypeId} {p:String} {af:Array Edge} {g:Option (Nat×Bool)}
variable {e : En} {Γ : List (Bool × Atom)} {Ω Ω' : List (Bool × HAtom)} {f : Bool} {α β : Type} {r : Rep α} {x : α}
theorem Args.part {B : Nat} {Γa : List (Bool × Atom)} {E : TypeId} {v : Value} {xs ys : List α} {m n : Int} (hp : Pick Ω (f, .slice E r v xs) Ω') (hs : Lift.sub xs m n = some ys) (K : Args B Γ Ω Γa) : Args B Γ Ω ((false, .val r.slice (Lift.part r.n v m.toNat n.toNat) ys) :: Γa) := by
  refine .sem (λ S G w hst ho=>?_) K
  obtain ⟨G1,G2,h1,_,_,h4,_⟩:=ho.pick hp
  obtain ⟨h0,h2,h3,rfl⟩:=sub_some hs
  have h4':=(HAtom.slice E r v xs).st (S':=λ b=>S b∨G b) (λ b hb=>.inl hb.1) (λ _ _=>rfl) (λ _ _=>rfl) h4
  obtain ⟨pa,cap,e1,hlc,hcm,hcells⟩:=own_val h4' (λ b hb=>.inr ((h1 b).2 (.inl hb)))
  simp only [List.cons.injEq,and_true] at e1
  subst e1
  have hyl:((xs.drop m.toNat).take (n.toNat-m.toNat)).length=n.toNat-m.toNat:=by simp;omega
  refine ⟨_,cap-m.toNat,by rw [hyl];rfl,by rw [hyl];omega,by omega,λ hne=>?_⟩
  have hnn:n.toNat-m.toNat≠0:=λ h=>hne (List.eq_nil_of_length_eq_zero (by rw [hyl,h]))
  obtain ⟨bk,o,cells,rfl,hb,hc,hel⟩:=hcells (by intro h;subst h;simp at h3;omega)
  have hcm':¬ cap=m.toNat:=by omega
  refine ⟨bk,o+m.toNat*r.n,_,by simp [hcm',add_none],hb,?_,(hel.drop m.toNat).take (n.toNat-m.toNat)⟩
  intro i u hi
  rw [List.getElem?_take] at hi
  split at hi
  · have:=hc (m.toNat*r.n+i) u (by simpa [List.getElem?_drop] using hi)
    simpa [Nat.add_assoc] using this
  · cases hi
theorem strOf_len (s:ByteArray):(strOf s).length=s.size:=by
  obtain ⟨⟨l⟩⟩:=s
  simp [strOf,ByteArray.size]
theorem OpS.lenS {a:Operand} {v:Value} {xs:List Int} (h:St e w Γ Ω) (ht:C.P.underlying T=some .string) (hg:gd ops L g=some true) (hd:Nat.blt d C.fn.ntmps=true) (hx:ev L a=some v) (hv:V e.w.heap.size Γ f .str v xs)
    (K:Z ((d,.int .i64 xs.length)::L) w):OpS C ops ⟨some d,.call ⟨.builtin .len,#[a],#[T]⟩,t,p,af,g⟩ L w Z:=by
  obtain ⟨S,G,I,hs,ho⟩:=h
  obtain ⟨s,e1,rfl⟩:=hv S w hs
  simp only [List.cons.injEq,and_true] at e1
  subst e1
  rw [strOf_len] at K
  exact OpS.val hg rfl hd (λ ac hac=>by simp [execOp,resolve,invoke,builtin,Builtin.len_,hac.ev hx,run_underlying ht,goInt]) K
def HAtom.lnk (q v:Value) (b:Bool):HAtom:=⟨λ G _ _=>(∀ c,¬ G c)∧v.oneCell'=true∧v=bif b then q else .pointer none,λ _ _ _ h=>h⟩
theorem St.lnkMk {T0 : TypeId} {q : Value} (h : St e w Γ Ω) (hp : Pick Ω (f, .box T0 r q x) Ω') : St e w Γ ((true, .lnk q q true) :: Ω) := by
  obtain ⟨S,G,I,hs,ho⟩:=h
  obtain ⟨_,_,_,_,_,⟨g,_,rfl,_⟩,_⟩:=ho.pick hp
  exact ⟨S,G,I,hs,λ _=>False,G,λ _=>by simp,λ _ h=>h.elim,λ _ _ h=>h.elim,⟨λ _ h=>h,rfl,rfl⟩,ho⟩
theorem St.lnk_one {q v : Value} {b : Bool} (h : St e w Γ Ω) (hp : Pick Ω (f, .lnk q v b) Ω') : v.oneCell' = true := by
  obtain ⟨S,G,I,hs,ho⟩:=h
  obtain ⟨_,_,_,_,_,h,_⟩:=ho.pick hp
  exact h.2.1
theorem St.lnk_eq {q v : Value} {b : Bool} (h : St e w Γ Ω) (hp : Pick Ω (f, .lnk q v b) Ω') (hb : b = true) : v = q := by
  subst hb
  obtain ⟨S,G,I,hs,ho⟩:=h
  obtain ⟨_,_,_,_,_,h,_⟩:=ho.pick hp
  exact h.2.2
theorem St.attach {q v:Value} {b:Bool} (h:St e w Γ ((f,.lnk q v b)::Ω)) (hb:b=true):q=v∧St e w Γ ((f,.lnk q q b)::Ω):=by
  have h1:=h.lnk_eq .z hb
  subst h1
  exact ⟨rfl,h⟩
def PtrOf (h:HAtom) (q:Value):Prop:=∀ G S w,h.p G S w→∃ a,q=.pointer (some a)
theorem PtrOf.box {T0:TypeId} {q:Value}:PtrOf (.box T0 r q x) q:=λ _ _ _ h=>ptr_box _ _ _ h
theorem PtrOf.sep {a b:HAtom} {q:Value} (h:PtrOf a q):PtrOf (.sep a b) q:=λ _ _ _ ⟨_,_,_,_,h3,_⟩=>h _ _ _ h3
theorem PtrOf.ex {h:Value→HAtom} {q:Value} (k:∀ v,PtrOf (h v) q):PtrOf (.ex h) q:=λ _ _ _ ⟨v,hv⟩=>k v _ _ _ hv
theorem OpS.onilE2 {tx ty E : TypeId} {a b : Operand} {q : Value} {H : α → HAtom} {o : Option α} (h : St e w Γ Ω) (hp : Pick Ω (f, .opt H q o) Ω') (hH : ∀ x, PtrOf (H x) q) (ht : C.P.underlying tx = some (.pointer E)) (hg : gd ops L g = some true) (hd : Nat.blt d C.fn.ntmps = true)
    (hx:ev L a=some q) (hy:ev L b=some (.pointer none)) (K:Z ((d,.bool o.isNone)::L) w):OpS C ops ⟨some d,.binOp .eql tx a b ty,t,p,af,g⟩ L w Z:=OpS.onilE h hp (λ x G S w hh=>hH x G S w hh) ht hg hd hx hy K
end
end Lift
