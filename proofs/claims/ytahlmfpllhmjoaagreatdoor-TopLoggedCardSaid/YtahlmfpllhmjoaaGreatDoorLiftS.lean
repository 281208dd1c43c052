import Derived.Test.YtahlmfpllhmjoaaGreatDoorLiftQ
set_option linter.unusedVariables false
set_option linter.unusedSimpArgs false
namespace Lift
open Go
def part (n:Nat) (v:Value) (lo hi:Nat):Value:=match v with
  | .slice p _ c=>.slice (if c=lo then p else p.map (·.add (lo*n))) (hi-lo) (c-lo)
  | v=>v
section
variable {C:Cx} {L:List (Nat×Value)} {w:World} {ops:Array Oper} {Z:List (Nat×Value)→World→Prop} {d:Nat} {t T:TypeId} {p:String} {af:Array Edge} {g:Option (Nat×Bool)}
variable {e : En} {Γ : List (Bool × Atom)} {Ω Ω' : List (Bool × HAtom)} {f : Bool} {α β : Type} {r : Rep α}
theorem Qss {N:Nat} {ac:Act} (hac:Agree N L ac) {lo hi:Option Operand} {m n dn:Int} {len cap:Nat} {P:Program} (hdn:dn=len) (hlo:bnd L lo 0=some m) (hhi:bnd L hi dn=some n) (h0:0≤m) (h1:m≤n) (h2:n≤cap) :
    (Instr.sliceBounds true len cap (lo.map ac.eval) (hi.map ac.eval) none).run P w=.ok (m.toNat,n.toNat,cap) w:=by
  have hn0:0≤n:=by omega
  have h1':m≤max n 0:=by omega
  rcases Qgy hac hlo with ⟨rfl,rfl⟩ | ⟨x1,q1,rfl,hx1⟩<;>rcases Qgy hac hhi with ⟨rfl,rfl⟩ | ⟨x2,q2,rfl,hx2⟩
  · subst hdn;simp [Instr.sliceBounds]
  · simp [Instr.sliceBounds,hx2,Instr.sliceBound,asIntOf,hn0,h2]
  · subst hdn
    have h3:m≤max (len:Int) 0:=by omega
    have h4:m≤(len:Int):=by omega
    simp [Instr.sliceBounds,hx1,Instr.sliceBound,asIntOf,h0,h4]
  · simp [Instr.sliceBounds,hx1,hx2,Instr.sliceBound,asIntOf,h0,hn0,h2,h1']
theorem Qts {T0:TypeId} {v:Value} {l:List α} {S G:Blks} (h:(HAtom.slice T0 r v l).p G S w):∃ pa cap,v=.slice pa l.length cap∧l.length≤cap:=by
  obtain ⟨_,hown,_,_⟩:=h
  rcases hown.2 with ⟨rfl,hn⟩ | ⟨gb,cap,cur,rfl,_,_,hnc,_⟩
  · exact ⟨none,0,by rw [hn],by omega⟩
  · exact ⟨_,cap,rfl,hnc⟩
theorem Qwr {N:Nat} {ac:Act} (hac:Agree N L ac) {a:Operand} {lo hi:Option Operand} {E:TypeId} {m n dn:Int} {pa:Option Addr} {len cap:Nat} {P:Program} (ht:P.underlying T=some (.slice E)) (hE:Ty P E r) (hx:ev L a=some (.slice pa len cap))
    (hdn:dn=len) (hlo:bnd L lo 0=some m) (hhi:bnd L hi dn=some n) (h0:0≤m) (h1:m≤n) (h2:n≤cap) (dd:Option Nat) :
    (execOp ac.eval ⟨dd,.slice T a lo hi none,t,p,af,g⟩).run P w=.ok (.value (part r.n (.slice pa len cap) m.toNat n.toNat)) w:=by
  have hsz:=hE.size w
  have hm:=Qss (P:=P) (w:=w) (cap:=cap) hac hdn hlo hhi h0 h1 h2
  simp [execOp,hac.ev hx,Instr.sliceAt,run_underlying ht,Instr.slice,hm,hsz,part]
theorem OpS.partS {a : Operand} {lo hi : Option Operand} {v : Value} {E : TypeId} {m n : Int} {xs : List α} (h : St e w Γ Ω) (hp : Pick Ω (f, .slice E r v xs) Ω') (ht : C.P.underlying T = some (.slice E)) (hE : Ty C.P E r) (hg : gd ops L g = some true) (hd : Nat.blt d C.fn.ntmps = true) (hx : ev L a = some v)
    (hlo:bnd L lo 0=some m) (hhi:bnd L hi xs.length=some n) (hb:0≤m∧m≤n∧n≤(xs.length:Int)) (K:Z ((d,part r.n v m.toNat n.toNat)::L) w):OpS C ops ⟨some d,.slice T a lo hi none,t,p,af,g⟩ L w Z:=by
  obtain ⟨S,G,I,hst,ho⟩:=h
  obtain ⟨_,_,_,_,_,h4,_⟩:=ho.pick hp
  obtain ⟨pa,cap,rfl,hlc⟩:=Qts h4
  exact OpS.val hg rfl hd (λ ac hac=>Qwr hac ht hE hx rfl hlo hhi hb.1 hb.2.1 (by omega) _) K
end
end Lift
