import Derived.Test.YtahlmfpllhmjoaaGreatDoorLiftL
import Derived.Laws.CopyRow
import Derived.Laws.IdiomCopy
set_option linter.unusedVariables false
set_option linter.unusedSimpArgs false
namespace Lift
open Go
def Atom.full (v:Value):Atom:=⟨λ _ _=>∃ p n,v=.slice p n n,λ _ _ h=>h⟩
theorem Pure.raw {α:Type} {v:Value}:Pure (Rep.raw (α:=α) v):=λ h=>h
theorem V.pure {α:Type} {B:Nat} {Γ:List (Bool×Atom)} {f f':Bool} {r:Rep α} {v:Value} {x:α} (h:V B Γ f r v x) (hp:Pure r):V B Γ f' r v x:=by
  intro S w hs
  have h1:=h S w hs
  unfold Rep.val at h1 ⊢
  split at h1
  · obtain ⟨cs,e,hr⟩:=h1;exact ⟨cs,e,hp hr⟩
  · exact hp h1
theorem Sat.pick {B : Nat} {S : Blks} {w : World} {Γ Γ' : List (Bool × Atom)} {x : Bool × Atom} (h : Pick Γ x Γ') : Sat B S w Γ → Sat B S w Γ' := by
  induction h with
  | z=>exact λ k=>k.2
  | s _ ih=>exact λ k=>⟨k.1,ih k.2⟩
theorem St.unfact {e : En} {w : World} {Γ Γ' : List (Bool × Atom)} {Ω : List (Bool × HAtom)} {x : Bool × Atom} (h : St e w Γ Ω) (hp : Pick Γ x Γ') : St e w Γ' Ω :=
  let ⟨S,G,I,hs,ho⟩:=h;⟨S,G,I,hs.pick hp,ho⟩
section
variable {C:Cx} {L:List (Nat×Value)} {w:World} {ops:Array Oper} {Z:List (Nat×Value)→World→Prop} {d:Nat} {t T:TypeId} {p:String} {af:Array Edge} {g:Option (Nat×Bool)}
variable {e : En} {Γ : List (Bool × Atom)} {Ω Ω' : List (Bool × HAtom)} {f : Bool} {α β : Type} {r r' : Rep α} {fr : Rep β} {x : α} {y : β}
theorem OpS.loadPR {a:Operand} {v u0:Value} (h:St e w Γ Ω) (ht:Ty C.P T (Rep.raw (α:=Unit) u0)) (hg:gd ops L g=some true) (hd:Nat.blt d C.fn.ntmps=true) (hx:ev L a=some v) (ha:At Γ (f,.ptr (Rep.raw (α:=Unit) u0) v ()))
    (K:Z ((d,u0)::L) w):OpS C ops ⟨some d,.load T a,t,p,af,g⟩ L w Z :=
  OpS.load h ht hg hd hx ha (λ u hu=>by rw [hu.raw_eq];exact K)
theorem bounds_run {N:Nat} {ac:Act} (hac:Agree N L ac) {lo:Option Operand} {hi mx:Operand} {q q2:IntKind} {m n k:Int} {len cap:Nat} {P:Program}
    (hlo:bnd L lo 0=some m) (hhi:ev L hi=some (.int q n)) (hmx:ev L mx=some (.int q2 k)) (h0:0≤m) (h1:m≤n) (hk:n≤k) (hkc:k≤(cap:Int)) :
    (Instr.sliceBounds true len cap (lo.map ac.eval) (some (ac.eval hi)) (some (ac.eval mx))).run P w=.ok (m.toNat,n.toNat,k.toNat) w:=by
  rw [hac.ev hhi,hac.ev hmx]
  have hn0:0≤n:=by omega
  have hk0:0≤k:=by omega
  have hnk:n≤max k 0:=by omega
  have h1':m≤max n 0:=by omega
  rcases bnd_run hac hlo with ⟨rfl,rfl⟩ | ⟨x1,q1,rfl,hx1⟩
  · simp [Instr.sliceBounds,Instr.sliceBound,asIntOf,hn0,hk0,hkc,hnk]
  · simp [Instr.sliceBounds,hx1,Instr.sliceBound,asIntOf,h0,h1',hn0,hk0,hkc,hnk]
theorem OpS.sub3F {a hi mx:Operand} {lo:Option Operand} {v:Value} {E:TypeId} {m n:Int} {q q2:IntKind} {xs ys:List α} (h:St e w Γ Ω) (ht:C.P.underlying T=some (.slice E)) (hE:Ty C.P E r) (hg:gd ops L g=some true) (hd:Nat.blt d C.fn.ntmps=true) (hx:ev L a=some v)
    (hlo:bnd L lo 0=some m) (hhi:ev L hi=some (.int q n)) (hmx:ev L mx=some (.int q2 n)) (hv:V e.w.heap.size Γ f r.slice v xs) (hs:Lift.sub xs m n=some ys) (K:∀ u,St e w ((f,.val r.slice u ys)::(true,.full u)::Γ) Ω→Z ((d,u)::L) w) :
    OpS C ops ⟨some d,.slice T a lo (some hi) (some mx),t,p,af,g⟩ L w Z:=by
  obtain ⟨S,G,I,hst,ho⟩:=h
  obtain ⟨h0,h1,h2,rfl⟩:=sub_some hs
  obtain ⟨pa,cap,e1,hlc,hcm,hcells⟩:=hv S w hst
  simp only [List.cons.injEq,and_true] at e1
  subst e1
  have hyl:((xs.drop m.toNat).take (n.toNat-m.toNat)).length=n.toNat-m.toNat:=by simp;omega
  refine OpS.val (v:=.slice (if n.toNat=m.toNat then pa else pa.map (·.add (m.toNat*r.n))) (n.toNat-m.toNat) (n.toNat-m.toNat)) (w':=w) hg rfl hd (λ ac hac=>?_) (K _ ⟨S,G,I,⟨?_,⟨_,_,rfl⟩,hst⟩,ho⟩)
  · have hsz:=hE.size w
    have hm:=bounds_run (P:=C.P) (w:=w) (len:=xs.length) hac hlo hhi hmx h0 h1 (Int.le_refl n) (by omega:n≤(cap:Int))
    simp [execOp,hac.ev hx,Instr.sliceAt,run_underlying ht,Instr.slice,hm,hsz]
  · refine ⟨_,_,by rw [hyl],by rw [hyl];omega,by omega,λ hne=>?_⟩
    have hnn:n.toNat-m.toNat≠0:=λ h=>hne (List.eq_nil_of_length_eq_zero (by rw [hyl,h]))
    have hxne:xs≠[]:=by intro h;subst h;simp at h2;omega
    obtain ⟨bk,o,cells,rfl,hb,hc,hel⟩:=hcells hxne
    have hcm':¬ n.toNat=m.toNat:=by omega
    refine ⟨bk,o+m.toNat*r.n,_,by simp [hcm',add_none],hb,?_,(hel.drop m.toNat).take (n.toNat-m.toNat)⟩
    intro i v hi
    rw [List.getElem?_take] at hi
    split at hi
    · have:=hc (m.toNat*r.n+i) v (by simpa [List.getElem?_drop] using hi)
      simpa [Nat.add_assoc] using this
    · cases hi
theorem own_shape {T0:TypeId} {v:Value} {l:List α} {S G:Blks} (h:(HAtom.slice T0 r v l).p G S w):(v=.slice none 0 0∧l=[])∨∃ gb cap cur,v=.slice (some ⟨gb,0,none⟩) l.length cap∧l.length≤cap∧cap≤maxLen∧w.heap[gb]?=some (.cells cur T0 (0,0))∧cur.size=cap*r.n∧∀ b,G b↔b=gb:=by
  obtain ⟨xs,hown,_,hG⟩:=h
  rcases hown.2 with ⟨rfl,hn⟩ | ⟨gb,cap,cur,rfl,_,hg,hnc,hcm,hcs,_⟩
  · exact .inl ⟨rfl,List.eq_nil_of_length_eq_zero hn⟩
  · exact .inr ⟨gb,cap,cur,rfl,hnc,hcm,hg,hcs,λ b=>by rw [hG];simp [Value.ownBlock,eq_comm]⟩
end
end Lift
