import Derived.Test.YtahlmfpllhmjoaaGreatDoorLiftV
set_option linter.unusedVariables false
set_option linter.unusedSimpArgs false
namespace Lift
open Go
section
variable {C:Cx} {L:List (Nat×Value)} {w:World} {ops:Array Oper} {Z:List (Nat×Value)→World→Prop} {d:Nat} {t T:TypeId} {p:String} {af:Array Edge} {g:Option (Nat×Bool)}
variable {e : En} {Γ : List (Bool × Atom)} {Ω Ω' : List (Bool × HAtom)} {f : Bool} {α β : Type}
inductive BldC (L:List (Nat×Value)) (B:Nat) (Γ:List (Bool×Atom)) (f:Bool) (pl:List (Nat×Nat)):Rep α→Rep α→List (Nat×Operand)→α→α→Prop
  | nil {r:Rep α} {x:α}:BldC L B Γ f pl r r [] x x
  | cons {β:Type} (fr:Rep β) (r r1:Rep α) {r2:Rep α} {off i:Nat} {o:Operand} {v:Value} (x x1:α) {x':α} {y:β} {ps:List (Nat×Operand)} (hf:Chg r r1 off fr x y x1) (hp:pl[i]?=some (off,fr.n)) (h:Lift.ev L o=some v) (hv:V B Γ f fr v y)
      (K:BldC L B Γ f pl r1 r2 ps x1 x'):BldC L B Γ f pl r r2 ((i,o)::ps) x x'
theorem Qut {B:Nat} {S:Blks} {w:World} {pl:List (Nat×Nat)} (hs:Sat B S w Γ) {r r':Rep α} {ps:List (Nat×Operand)} {x x':α} (h:BldC L B Γ f pl r r' ps x x') (ρ:Operand→Value) (hρ:∀ o v,ev L o=some v→ρ o=v) :
    ∀ {cs:List Value},r.rel (fl f B S) w cs x→∃ cs':List Value,Instr.fill (pl.toArray[·]?) cs.toArray (ps.map λ q=>(q.1,ρ q.2))=some cs'.toArray∧r'.rel (fl f B S) w cs' x':=by
  induction h with
  | nil=>intro cs hc;exact ⟨cs,rfl,hc⟩
  | @cons β fr r r1 r2 off i o v x x1 x' y ps hf hp h hv _ ih =>
    intro cs hc
    have hval:=Rep.val_cells (hv S w hs)
    have hl:v.cells.toList.length=fr.n:=fr.len hval
    have hsz:v.cells.size=fr.n:=by simpa using hl
    have hcl:=r.len hc
    obtain ⟨hfit,hset⟩:=hf.ch hc hval
    obtain ⟨cs',h1,h2⟩:=ih hset
    refine ⟨cs',?_,h2⟩
    have hp':pl.toArray[i]?=some (off,fr.n):=by simpa using hp
    simp only [List.map_cons,Instr.fill,hρ o v h,hsz,hp']
    have c1:¬ (decide (fr.n≠fr.n)||decide (off+fr.n>cs.toArray.size))=true:=by simp;omega
    rw [if_neg c1]
    have hfs:=Qkn v.cells.toList off cs.toArray (by simp;omega)
    have e1:(v.cells.zipIdx.foldl (λ cs (p:Value×Nat)=>cs.setIfInBounds (off+p.2) p.1) cs.toArray)=(cs.take off++v.cells.toList++cs.drop (off+fr.n)).toArray:=by
      apply Array.toList_inj.1
      rw [hl] at hfs
      simp only [List.toList_toArray] at hfs ⊢
      rw [show v.cells.toList.toArray=v.cells from by simp] at hfs
      exact hfs
    rw [show (λ (cs:Array Value) (x:Value×Nat)=>match x with | (c,j)=>cs.setIfInBounds (off+j) c)=(λ cs (p:Value×Nat)=>cs.setIfInBounds (off+p.2) p.1) from rfl,e1]
    exact h1
theorem Quj {P:Program} {z:Value} {sz by_:Nat} {pl:List (Nat×Nat)} {ps:List (Nat×Operand)} {S:Blks} {B:Nat} {r r':Rep α} {x x':α} (hpl:PL P T pl) (ti:TI P T z sz by_) (hz:Zr r z.cells.toList x) (hs:Sat B S w Γ) (hb:BldC L B Γ f pl r r' ps x x') (ρ:Operand→Value) (hρ:∀ o v,ev L o=some v→ρ o=v) :
    ∃ cs:List Value,(Instr.build T (ps.toArray.map λ q=>(q.1,ρ q.2))).run P w=.ok (.agg cs.toArray) w∧r'.rel (fl f B S) w cs x':=by
  obtain ⟨fs,hu,hm⟩:=hpl
  obtain ⟨cs,h1,h2⟩:=Qut hs hb ρ hρ (hz _ w)
  refine ⟨cs,?_,h2⟩
  have hzv:=Qcz ti w
  have hpm:(fs.mapM (λ F=>(do pure (F.offset,← Go.sizeOf F.type):Sem (Nat×Nat)))).run P w=.ok pl.toArray w:=by
    rw [← Array.toArray_toList (xs:=fs),List.mapM_toArray]
    have:=Qkp (P:=P) (w:=w) hm
    rw [map_eq_pure_bind,Sem.run_bind,this];rfl
  simp only [Instr.build,Sem.run_bind,hzv,Result.andThen_ok,run_underlying hu,hpm]
  have e1:z.cells.toList.toArray=z.cells:=by simp
  rw [e1] at h1
  simp only [List.map_toArray]
  rw [h1]
  rfl
theorem OpS.buildC {z:Value} {sz by_:Nat} {pl:List (Nat×Nat)} {ps:List (Nat×Operand)} {r r':Rep α} {x x':α} (h:St e w Γ Ω) (hpl:PL C.P T pl) (ti:TI C.P T z sz by_) (hz:Zr r z.cells.toList x) (ha:r'.agg=true) (hg:gd ops L g=some true) (hd:Nat.blt d C.fn.ntmps=true)
    (hb:BldC L e.w.heap.size Γ f pl r r' ps x x') (K:∀ u,St e w ((f,.val r' u x')::Γ) Ω→Z ((d,u)::L) w):OpS C ops ⟨some d,.build T ps.toArray,t,p,af,g⟩ L w Z:=by
  obtain ⟨S,G,I,hs,ho⟩:=h
  obtain ⟨cs,hrun,hr⟩:=Quj hpl ti hz hs hb (λ o=>(ev L o).getD undef) (λ o v h=>by simp [h])
  have hsame:∀ a:Act,Agree C.fn.ntmps L a→(ps.toArray.map λ q=>(q.1,a.eval q.2))=(ps.toArray.map λ q=>(q.1,(ev L q.2).getD undef)):=by
    intro a hac
    have:∀ (ps:List (Nat×Operand)) (r r':Rep α) (x x':α),BldC L e.w.heap.size Γ f pl r r' ps x x'→ps.map (λ q=>(q.1,a.eval q.2))=ps.map (λ q=>(q.1,(ev L q.2).getD undef)):=by
      intro ps r r' x x' h
      induction h with
      | nil=>rfl
      | cons _ _ _ _ _ _ _ h _ _ ih=>simp only [List.map_cons,ih,hac.ev h,h,Option.getD_some]
    have h2:=this ps r r' x x' hb
    simp only [List.map_toArray,h2]
  refine OpS.val (v:=.agg cs.toArray) (w':=w) hg rfl hd (λ ac hac=>?_) (K _ ⟨S,G,I,⟨?_,hs⟩,ho⟩)
  · simp only [execOp,hsame ac hac,Sem.run_bind,hrun,Result.andThen_ok,Sem.run_pure]
  · show r'.val _ _ _ _
    unfold Rep.val;rw [ha];exact ⟨cs,rfl,hr⟩
end
section
variable {e:En} {w:World} {Γ:List (Bool×Atom)} {Ω:List (Bool×HAtom)} {f:Bool} {α β:Type}
end
end Lift
namespace Lift
open Go
end Lift
namespace Lift
open Go
section
variable {e:En} {w:World} {Γ:List (Bool×Atom)} {Ω:List (Bool×HAtom)} {f f2:Bool} {α β:Type}
end
end Lift
