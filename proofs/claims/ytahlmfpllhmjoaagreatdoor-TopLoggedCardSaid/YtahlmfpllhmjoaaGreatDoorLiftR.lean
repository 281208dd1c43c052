import Derived.Test.YtahlmfpllhmjoaaGreatDoorLiftT
import Derived.OpenShut
import Derived.ProofKit
import Derived.DataShut
set_option linter.unusedVariables false
set_option linter.unusedSimpArgs false
namespace Lift
open Go Go.RowKit
def Old (w:World):Blks:=λ b=>b<w.heap.size
def Rd {α:Type} (P:Program) (t:TypeId) (r:Rep α) (ok:α→Prop):Prop :=
  ∀ {H:Type} {enc:TypeId×Value→H} {w:World} {base:Nat} {spare:Nat→Bool} {held:Bool} {fuel:Nat} {cs:List Value} {x:DataW H×List MemPlace},
    DataW.trod enc P w base spare held fuel t cs=some x→∃ y,r.rel (Old w) w cs y∧ok y
def okI (k:IntKind) (n:Int):Prop:=(Lit.int k n).wf=true
def okL {α:Type} (ok:α→Prop) (l:List α):Prop:=l.length≤maxLen∧∀ x∈l,ok x
section
variable {P:Program} {t:TypeId}
theorem Rd.int {k:IntKind} (ht:P.underlying t=some (.int k)):Rd P t (.int k) (okI k):=by
  intro H enc w base spare held fuel cs x h
  cases fuel with
  | zero=>simp [DataW.trod] at h
  | succ n =>
    unfold DataW.trod at h
    rw [ht] at h
    split at h
    all_goals first | (exfalso;simp_all;done) | skip
    rename_i e1
    simp only [Option.some.injEq,TypeDesc.int.injEq] at e1
    subst e1
    split at h
    · rename_i hc;obtain ⟨rfl,hw⟩:=hc;exact ⟨_,rfl,hw⟩
    · cases h
theorem Rd.slice {α:Type} {e:TypeId} {r:Rep α} {ok:α→Prop} (ht:P.underlying t=some (.slice e)) (hc:P.cellsOf e=r.n) (hpos:Nat.blt 0 r.n=true) (he:Rd P e r ok):Rd P t r.slice (okL ok):=by
  have hpos':0<r.n:=by simpa [Nat.blt_eq] using hpos
  intro H enc w base spare held fuel cs x h
  cases fuel with
  | zero=>simp [DataW.trod] at h
  | succ n =>
    unfold DataW.trod at h
    rw [ht] at h
    split at h
    all_goals first | (exfalso;simp_all;done) | skip
    · exact ⟨[],⟨none,0,rfl,Nat.le_refl _,Nat.zero_le _,λ h=>absurd rfl h⟩,by simp [maxLen],by simp⟩
    · rename_i a len cap e1
      simp only [Option.some.injEq,TypeDesc.slice.injEq] at e1
      subst e1
      simp only [hc] at h
      split at h
      case isFalse=>cases h
      rename_i hcond
      obtain ⟨hb,hlc,hcm⟩:=hcond
      simp only [Option.bind_eq_some_iff] at h
      obtain ⟨elems,hel,_⟩:=h
      have hlen:elems.length=len:=by simpa using mapM_some_length hel
      -- every element
      have each:∀ i,i<len→∃ cells y,w.cells? base (a.add (i*r.n)) r.n=some cells∧r.rel (Old w) w cells y∧ok y:=by
        intro i hi
        have:=mapM_some_get hel i i (by simp [hi])
        obtain ⟨z, hz⟩ : ∃ z, elems[i]? = some z := ⟨elems[i]'(by omega), by simp⟩
        rw [hz] at this
        cases hcl:w.cells? base (a.add (i*r.n)) r.n with
        | none=>simp [hcl] at this
        | some cells =>
          simp only [hcl,Option.bind_some] at this
          obtain ⟨y,h1,h2⟩:=he this
          exact ⟨cells,y,rfl,h1,h2⟩
      have key:∀ m,m≤len→∃ (l:List α) (cells:List Value),l.length=m∧cells.length=m*r.n∧(∀ j,j<cells.length→w.cell? (a.add j)=cells[j]?)∧Elems r (Old w) w cells l∧∀ x∈l,ok x:=by
        intro m
        induction m with
        | zero=>intro _;exact ⟨[],[],rfl,by simp,by simp,rfl,by simp⟩
        | succ m ih =>
          intro hm
          obtain ⟨l,cells,h1,h2,h3,h4,h5⟩:=ih (by omega)
          obtain ⟨c,y,hcs,hr,hy⟩:=each m (by omega)
          obtain ⟨_,hcl,hcc⟩:=World.cells?_some hcs
          refine ⟨l++[y],cells++c,by simp [h1],by rw [List.length_append,h2,hcl,Nat.add_mul];omega,?_,Elems.append (show Elems r (Old w) w c [y] from ⟨c,[],by simp,hr,rfl⟩) h4,?_⟩
          · intro j hj
            by_cases hjl:j<cells.length
            · rw [h3 j hjl,List.getElem?_append_left hjl]
            · rw [List.getElem?_append_right (by omega),← hcc (j-cells.length) (by rw [List.length_append] at hj;omega),h2]
              congr 1
              unfold Addr.add
              by_cases z1:m*r.n=0
              · rw [z1];simp
              · have:j≠0:=by omega
                by_cases z2:j-m*r.n=0
                · simp only [z1,z2,this,if_false,if_true];congr 1;omega
                · simp only [z1,z2,this,if_false];congr 1;omega
          · intro x hx
            rcases List.mem_append.1 hx with hx | hx
            · exact h5 x hx
            · simp at hx;subst hx;exact hy
      obtain ⟨l,cells,h1,h2,h3,h4,h5⟩:=key len (Nat.le_refl _)
      refine ⟨l,⟨some a,cap,by rw [h1],by omega,hcm,λ hne=>?_⟩,by omega,h5⟩
      have hl0:0<l.length:=by cases l with | nil=>exact absurd rfl hne | cons _ _=>simp
      have hc0:0<cells.length:=by rw [h2,← h1];exact Nat.mul_pos hl0 hpos'
      have h30:=h3 0 hc0
      obtain ⟨c0, hc00⟩ : ∃ c0, cells[0]? = some c0 := ⟨cells[0]'hc0, by simp⟩
      rw [hc00] at h30
      have ha0:a.add 0=a:=by simp [Addr.add]
      rw [ha0] at h30
      have hspot:a.spot=none:=by
        unfold World.cell? at h30
        split at h30
        · cases hs:a.spot with
          | none=>rfl
          | some _=>simp [hs] at h30
        · cases h30
      obtain ⟨b,o,sp⟩:=a
      simp only at hspot
      subst hspot
      refine ⟨b,o,cells,rfl,World.block_lt_of_cell? w _ h30,λ j v hj=>?_,h4⟩
      have hjl:j<cells.length:=(List.getElem?_eq_some_iff.1 hj).1
      rw [← Qaj,h3 j hjl,hj]
end
theorem Rd.ofSlice {α:Type} {P:Program} {t e:TypeId} {r:Rep α} {ok:α→Prop} (h:Rd P t r ok) (hr:r.agg=false) (ht:P.underlying t=some (.slice e)) {H:Type} {enc:TypeId×Value→H} {W:World} {v:Value} {d:DataW H} {ps:List MemPlace} {base:Nat}
    (hv:Value.okWide P W .any base t v) (hd:DataW.Trod enc P W 0 (λ _=>true) true t v d ps):∃ x,r.val (Old W) W v x∧ok x:=by
  obtain ⟨n,hd⟩:=hd
  obtain ⟨y,hy,oky⟩:=h hd
  refine ⟨y,?_,oky⟩
  unfold Rep.val
  rw [hr]
  obtain ⟨a,l,c,rfl⟩:=Go.WideShapes.okWide_slice ht hv
  exact hy
theorem Rep.arg {α:Type} {r:Rep α} {W:World} {v:Value} {x:α} (h:r.val (Old W) W v x) (B:Nat):r.val (fl false B (Old W)) W v x :=
  r.val_stab (λ _ hb=>⟨hb,λ h=>by cases h⟩) (λ _ _=>rfl) h
theorem Qqy {W W':World} (h:Step (λ _=>False) W W'):Below W.heap.size W W' :=
  ⟨h.os,h.tape,h.output,h.size,λ k hk=>h.block k hk (λ h=>h)⟩
theorem Quk {H:Type} {enc:TypeId×Value→H} {P:Program} {f:Func} {s:ChangeSpec} {apart fresh handsOn again:Bool} {W W':World} {args:Array Value} {v:Value} {ds gs:List (DataW H)} {before pa:List MemPlace}
    (hW:DataW.Whole enc P f.params.toList s.vars apart W args.toList ds gs before) (hb:Below W.heap.size W W')
    (hres:∀ (b:Nat) (sp:Nat→Bool) (hd:Bool),DataW.TrodAll enc P W' b sp hd f.resultTypes.toList (v.resultList f.resultTypes.size) (s.fn H (ds++gs)).results [])
    (hargs:∀ sp:Nat→Bool,(∀ p∈before,sp p.block=true)→DataW.TrodAll enc P W' 0 sp true f.params.toList args.toList (s.fn H (ds++gs)).args pa)
    (hvars:∀ sp:Nat→Bool,(∀ p∈before,sp p.block=true)→DataW.TrodVars enc P W' sp s.vars (s.fn H (ds++gs)).vars [])
    (hps:before=pa++[])
    (hok:∀ (j:Nat) (t:TypeId) (r:Value),f.resultTypes[j]?=some t→(v.resultList f.resultTypes.size)[j]?=some r→Value.okWide P W' .any 0 t r) :
    s.post enc P f apart fresh handsOn again W args v W':=by
  have hlt:∀ p∈before,p.block<W.heap.size:=λ p hp=>hW.lt p hp
  have hold:∀ p∈before,(λ b=>decide (b<W.heap.size)) p.block=true:=λ p hp=>by simpa using hlt p hp
  refine ⟨ds,gs,before,[],pa,[],hW,hres _ _ _,hargs _ hold,hvars _ hold,hb.frame _,λ _=>?_⟩
  obtain ⟨_,_,_,_,_,hz,hn⟩:=hW
  refine ⟨hok,_,_,([]++pa)++[],⟨[]++pa,[],Go.ChangeShapes.trodAll_append (hargs _ (λ _ _=>rfl)) (hres _ _ _),hvars _ (λ _ _=>rfl),rfl,λ b off hp=>?_,λ ha=>?_⟩,λ p hp _=>?_⟩
  · have hin:MemPlace.cell b off∈before:=by rw [hps];simpa using hp
    rw [hb.frozen (p:=⟨b,off,none⟩) (hlt _ hin)]
    exact hz b off hin
  · have:=hn ha
    rw [hps] at this
    simpa using this
  · rw [hps];simpa using hp
end Lift
