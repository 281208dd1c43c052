import Derived.Test.YtahlmfpllhmjoaaGreatDoorLiftK
set_option linter.unusedVariables false
set_option linter.unusedSimpArgs false
namespace Lift
open Go
structure ORep (α:Type) where
  n:Nat
  agg:Bool
  rel:Blks→Blks→World→List Value→α→Prop
  len:∀ {G S w cs x},rel G S w cs x→cs.length=n
  one:∀ {G S w cs x},rel G S w cs x→∀ c∈cs,c.oneCell'=true
  stab:∀ {G S S':Blks} {w w':World} {cs:List Value} {x:α},(∀ b,S b→S' b)→(∀ b,S b→w'.heap[b]?=w.heap[b]?)→(∀ b,G b→w'.heap[b]?=w.heap[b]?)→rel G S w cs x→rel G S' w' cs x
  ext:∀ {G G':Blks} {S:Blks} {w:World} {cs:List Value} {x:α},(∀ b,G b↔G' b)→rel G S w cs x→rel G' S w cs x
def sh {α:Type} (r:Rep α):ORep α where
  n:=r.n
  agg:=r.agg
  rel:=λ G S w cs x=>(∀ b,¬ G b)∧r.rel S w cs x
  len:=λ h=>r.len h.2
  one:=λ h=>r.one h.2
  stab:=λ a k _ h=>⟨h.1,r.stab a k h.2⟩
  ext:=λ e h=>⟨λ b hb=>h.1 b ((e b).2 hb),h.2⟩
def raw {α:Type} (v:Value):ORep α where
  n:=1
  agg:=false
  rel:=λ G _ _ cs _=>(∀ b,¬ G b)∧cs=[v]∧v.oneCell'=true
  len:=by intro _ _ _ _ _ h;rw [h.2.1];rfl
  one:=by intro _ _ _ _ _ h c hc;rw [h.2.1] at hc;simp at hc;rw [hc];exact h.2.2
  stab:=λ _ _ _ h=>h
  ext:=λ e h=>⟨λ b hb=>h.1 b ((e b).2 hb),h.2⟩
def ounit:ORep Unit where
  n:=0
  agg:=true
  rel:=λ G _ _ cs _=>(∀ b,¬ G b)∧cs=[]
  len:=by intro _ _ _ _ _ h;rw [h.2];rfl
  one:=by intro _ _ _ _ _ h c hc;rw [h.2] at hc;cases hc
  stab:=λ _ _ _ h=>h
  ext:=λ e h=>⟨λ b hb=>h.1 b ((e b).2 hb),h.2⟩
def Sep (G G1 G2:Blks):Prop:=(∀ b,G b↔G1 b∨G2 b)∧∀ b,G1 b→¬ G2 b
theorem Sep.ext {G G' G1 G2:Blks} (e:∀ b,G b↔G' b) (h:Sep G G1 G2):Sep G' G1 G2:=⟨λ b=>(e b).symm.trans (h.1 b),h.2⟩
theorem Sep.l {G G1 G2:Blks} (h:Sep G G1 G2) {b:Nat} (hb:G1 b):G b:=(h.1 b).2 (.inl hb)
theorem Sep.r {G G1 G2:Blks} (h:Sep G G1 G2) {b:Nat} (hb:G2 b):G b:=(h.1 b).2 (.inr hb)
theorem Sep.mk' {G1 G2:Blks} (h:∀ b,G1 b→¬ G2 b):Sep (λ b=>G1 b∨G2 b) G1 G2:=⟨λ _=>Iff.rfl,h⟩
def oprod {α β:Type} (r:ORep α) (s:ORep β):ORep (α×β) where
  n:=r.n+s.n
  agg:=true
  rel:=λ G S w cs x=>∃ c d G1 G2,cs=c++d∧Sep G G1 G2∧r.rel G1 S w c x.1∧s.rel G2 S w d x.2
  len:=by intro _ _ _ _ _ h;obtain ⟨c,d,_,_,rfl,_,h1,h2⟩:=h;rw [List.length_append,r.len h1,s.len h2]
  one:=by
    intro _ _ _ _ _ h c hc;obtain ⟨c',d,_,_,rfl,_,h1,h2⟩:=h
    rcases List.mem_append.1 hc with hc | hc
    · exact r.one h1 c hc
    · exact s.one h2 c hc
  stab:=by intro _ _ _ _ _ _ _ a k kg h;obtain ⟨c,d,G1,G2,e,hs,h1,h2⟩:=h;exact ⟨c,d,G1,G2,e,hs,r.stab a k (λ b hb=>kg b (hs.l hb)) h1,s.stab a k (λ b hb=>kg b (hs.r hb)) h2⟩
  ext:=by intro _ _ _ _ _ _ e h;obtain ⟨c,d,G1,G2,e1,hs,h1,h2⟩:=h;exact ⟨c,d,G1,G2,e1,hs.ext e,h1,h2⟩
def oiso {α β:Type} (f:β→α) (r:ORep α):ORep β where
  n:=r.n
  agg:=true
  rel:=λ G S w cs y=>r.rel G S w cs (f y)
  len:=r.len
  one:=r.one
  stab:=r.stab
  ext:=r.ext
def OEls {α:Type} (S:Blks) (w:World):(Nat→ORep α)→Blks→List Value→List α→Prop
  | _,G,cs,[]=>cs=[]∧∀ b,¬ G b
  | f,G,cs,x::l=>∃ c rest G1 G2,cs=c++rest∧Sep G G1 G2∧(f 0).rel G1 S w c x∧OEls S w (λ j=>f (j+1)) G2 rest l
theorem OEls.len {α:Type} {S:Blks} {w:World} {n:Nat}:∀ {l:List α} {f:Nat→ORep α} {G:Blks} {cs:List Value},(∀ j,(f j).n=n)→OEls S w f G cs l→cs.length=l.length*n
  | [],f,G,cs,_,h=>by simp [h.1]
  | x::l,f,G,cs,hn,h=>by
    obtain ⟨c,rest,G1,G2,rfl,_,h1,h2⟩:=h
    rw [List.length_append,(f 0).len h1,hn 0,OEls.len (λ j=>hn (j+1)) h2,List.length_cons,Nat.add_mul];omega
theorem OEls.one {α:Type} {S:Blks} {w:World}:∀ {l:List α} {f:Nat→ORep α} {G:Blks} {cs:List Value},OEls S w f G cs l→∀ c∈cs,c.oneCell'=true
  | [],f,G,cs,h,c,hc=>by rw [h.1] at hc;cases hc
  | x::l,f,G,cs,h,c,hc=>by
    obtain ⟨c1,rest,G1,G2,rfl,_,h1,h2⟩:=h
    rcases List.mem_append.1 hc with hc | hc
    · exact (f 0).one h1 c hc
    · exact OEls.one h2 c hc
theorem OEls.stab {α:Type} {S S':Blks} {w w':World} (a:∀ b,S b→S' b) (k:∀ b,S b→w'.heap[b]?=w.heap[b]?) :
    ∀ {l:List α} {f:Nat→ORep α} {G:Blks} {cs:List Value},(∀ b,G b→w'.heap[b]?=w.heap[b]?)→OEls S w f G cs l→OEls S' w' f G cs l
  | [],_,_,_,_,h=>h
  | x::l,f,G,cs,kg,h=>by
    obtain ⟨c,rest,G1,G2,e,hs,h1,h2⟩:=h
    exact ⟨c,rest,G1,G2,e,hs,(f 0).stab a k (λ b hb=>kg b (hs.l hb)) h1,OEls.stab a k (λ b hb=>kg b (hs.r hb)) h2⟩
theorem OEls.ext {α:Type} {S:Blks} {w:World}:∀ {l:List α} {f:Nat→ORep α} {G G':Blks} {cs:List Value},(∀ b,G b↔G' b)→OEls S w f G cs l→OEls S w f G' cs l
  | [],_,_,_,_,e,h=>⟨h.1,λ b hb=>h.2 b ((e b).2 hb)⟩
  | x::l,f,G,G',cs,e,h=>by
    obtain ⟨c,rest,G1,G2,e1,hs,h1,h2⟩:=h
    exact ⟨c,rest,G1,G2,e1,hs.ext e,h1,h2⟩
theorem OEls.append {α:Type} {S:Blks} {w:World} {r:ORep α} {l2:List α} {c2:List Value} {G2:Blks} (h2:OEls S w (λ _=>r) G2 c2 l2) :
    ∀ {l1:List α} {c1:List Value} {G1 G:Blks},Sep G G1 G2→OEls S w (λ _=>r) G1 c1 l1→OEls S w (λ _=>r) G (c1++c2) (l1++l2)
  | [],c1,G1,G,hs,h1=>by
    obtain ⟨e,h1⟩:=h1;subst e
    exact h2.ext (λ b=>by rw [hs.1];simp [h1 b])
  | x::l1,c1,G1,G,hs,h1=>by
    obtain ⟨c,rest,K1,K2,rfl,hk,h3,h4⟩:=h1
    have hd:∀ b,K2 b→¬ G2 b:=λ b hb=>hs.2 b (hk.r hb)
    refine ⟨c,rest++c2,K1,λ b=>K2 b∨G2 b,by simp,⟨λ b=>by rw [hs.1,hk.1,or_assoc],?_⟩,h3,OEls.append h2 (Sep.mk' hd) h4⟩
    rintro b hb (h | h)
    · exact hk.2 b hb h
    · exact hs.2 b (hk.l hb) h
theorem OEls.ofSh {α:Type} {r:Rep α} {S:Blks} {w:World}:∀ {l:List α} {cs:List Value},Elems r S w cs l→OEls S w (λ _=>sh r) (λ _=>False) cs l
  | [],cs,h=>⟨h,λ _ h=>h⟩
  | x::l,cs,h=>by
    obtain ⟨c,rest,e,h1,h2⟩:=h
    exact ⟨c,rest,λ _=>False,λ _=>False,e,⟨λ _=>by simp,λ _ h=>h.elim⟩,⟨λ _ h=>h,h1⟩,OEls.ofSh h2⟩
def oarr {α:Type} (m n:Nat) (f:Nat→ORep α) (hn:∀ j,(f j).n=n):ORep (List α) where
  n:=m*n
  agg:=true
  rel:=λ G S w cs l=>l.length=m∧OEls S w f G cs l
  len:=by intro _ _ _ _ _ h;rw [OEls.len hn h.2,h.1]
  one:=by intro _ _ _ _ _ h;exact h.2.one
  stab:=by intro _ _ _ _ _ _ _ a k kg h;exact ⟨h.1,h.2.stab a k kg⟩
  ext:=by intro _ _ _ _ _ _ e h;exact ⟨h.1,h.2.ext e⟩
def Own {α:Type} (E n:Nat) (f:Nat→ORep α) (G S:Blks) (w:World) (v:Value) (l:List α):Prop :=
  (v=.slice none 0 0∧l=[]∧∀ b,¬ G b) ∨
  ∃ g o cap cur xs G',v=.slice (some ⟨g,o,none⟩) l.length cap∧w.heap[g]?=some (.cells cur E (0,0))∧l.length≤cap∧cap≤maxLen∧o+cap*n≤cur.size ∧
    xs=(cur.toList.drop o).take (l.length*n)∧OEls S w f G' xs l∧¬ G' g∧∀ b,G b↔b=g∨G' b
def oslice {α:Type} (E n:Nat) (f:Nat→ORep α):ORep (List α) where
  n:=1
  agg:=false
  rel:=λ G S w cs l=>∃ v,cs=[v]∧Own E n f G S w v l
  len:=by intro _ _ _ _ _ h;obtain ⟨v,rfl,_⟩:=h;rfl
  one:=by
    intro _ _ _ _ _ h c hc;obtain ⟨v,rfl,h⟩:=h;simp at hc;subst hc
    rcases h with ⟨rfl,_⟩ | ⟨g,o,cap,cur,xs,G',rfl,_⟩<;>rfl
  stab:=by
    intro G S S' w w' cs l a k kg h
    obtain ⟨v,e,h⟩:=h
    refine ⟨v,e,?_⟩
    rcases h with h | ⟨g,o,cap,cur,xs,G',e1,hg,h1,h2,h3,h4,h5,h6,h7⟩
    · exact .inl h
    · exact .inr ⟨g,o,cap,cur,xs,G',e1,by rw [kg g ((h7 g).2 (.inl rfl))];exact hg,h1,h2,h3,h4,h5.stab a k (λ b hb=>kg b ((h7 b).2 (.inr hb))),h6,h7⟩
  ext:=by
    intro G G' S w cs l e h
    obtain ⟨v,e1,h⟩:=h
    refine ⟨v,e1,?_⟩
    rcases h with ⟨h1,h2,h3⟩ | ⟨g,o,cap,cur,xs,K,e1,hg,h1,h2,h3,h4,h5,h6,h7⟩
    · exact .inl ⟨h1,h2,λ b hb=>h3 b ((e b).2 hb)⟩
    · exact .inr ⟨g,o,cap,cur,xs,K,e1,hg,h1,h2,h3,h4,h5,h6,λ b=>(e b).symm.trans (h7 b)⟩
structure Len {α β:Type} (r r':ORep α) (off:Nat) (p p':ORep β) (x:α) (y:β) (u:β→α):Prop where
  pn:p'.n=p.n
  same:u y=x
  out:∀ {G S:Blks} {w:World} {cs:List Value},r.rel G S w cs x→off+p.n≤r.n∧∃ G1 G2,Sep G G1 G2∧p.rel G1 S w ((cs.drop off).take p.n) y ∧
    ∀ {G1' S':Blks} {w':World} {c':List Value} {y':β},(∀ b,S b→S' b)→(∀ b,S b→w'.heap[b]?=w.heap[b]?)→(∀ b,G2 b→w'.heap[b]?=w.heap[b]?)→(∀ b,G1' b→¬ G2 b) →
      p'.rel G1' S' w' c' y'→r'.rel (λ b=>G1' b∨G2 b) S' w' (cs.take off++c'++cs.drop (off+p.n)) (u y')
theorem Len.id {α:Type} {p p':ORep α} (hn:p'.n=p.n) {x:α}:Len p p' 0 p p' x x (λ y=>y) where
  pn:=hn
  same:=rfl
  out:=by
    intro G S w cs h
    have hl:=p.len h
    refine ⟨by omega,G,λ _=>False,⟨λ _=>by simp,λ _ _ h=>h⟩,by simpa [← hl] using h,λ {G1' S' w' c' y'} _ _ _ _ hp=>?_⟩
    have e:cs.take 0++c'++cs.drop (0+p.n)=c':=by simp [← hl]
    rw [e];exact p'.ext (λ b=>by simp) hp
theorem Len.comp {α β γ:Type} {r r':ORep α} {s s':ORep β} {p p':ORep γ} {o o2:Nat} {x:α} {y:β} {z:γ} {u:β→α} {u2:γ→β} (h:Len r r' o s s' x y u) (h2:Len s s' o2 p p' y z u2) :
    Len r r' (o+o2) p p' x z (λ c=>u (u2 c)) where
  pn:=h2.pn
  same:=by rw [h2.same,h.same]
  out:=by
    intro G S w cs hr
    have hl:=r.len hr
    obtain ⟨f1,G1,G2,hs,hp,hput⟩:=h.out hr
    obtain ⟨f2,K1,K2,ks,kp,kput⟩:=h2.out hp
    have e1:(((cs.drop o).take s.n).drop o2).take p.n=(cs.drop (o+o2)).take p.n:=by
      rw [List.drop_take,List.take_take,List.drop_drop];congr 1;omega
    refine ⟨by omega,K1,λ b=>K2 b∨G2 b,⟨λ b=>by rw [hs.1,ks.1,or_assoc],?_⟩,by rw [← e1];exact kp,λ {G1' S' w' c' y'} a k kg hd hp'=>?_⟩
    · rintro b hb (hk | hk)
      · exact ks.2 b hb hk
      · exact hs.2 b (ks.l hb) hk
    · have q:=kput a k (λ b hb=>kg b (.inl hb)) (λ b hb hk=>hd b hb (.inl hk)) hp'
      have q2:=hput a k (λ b hb=>kg b (.inr hb)) (λ b hb hg=>by
        rcases hb with hb | hb
        · exact hd b hb (.inr hg)
        · exact hs.2 b (ks.r hb) hg) q
      have e:cs.take o++(((cs.drop o).take s.n).take o2++c'++((cs.drop o).take s.n).drop (o2+p.n))++cs.drop (o+s.n)=cs.take (o+o2)++c'++cs.drop (o+o2+p.n):=by
        have e1:cs.take (o+o2)=cs.take o++(cs.drop o).take o2:=by rw [List.take_add]
        have e2:((cs.drop o).take s.n).take o2=(cs.drop o).take o2:=by rw [List.take_take];congr 1;omega
        have e3:cs.drop (o+o2+p.n)=((cs.drop o).take s.n).drop (o2+p.n)++cs.drop (o+s.n):=by
          have:cs.drop (o+o2+p.n)=(cs.drop o).drop (o2+p.n):=by rw [List.drop_drop];congr 1;omega
          rw [this]
          have h4:cs.drop o=(cs.drop o).take s.n++(cs.drop o).drop s.n:=(List.take_append_drop _ _).symm
          have h5:(cs.drop o).drop s.n=cs.drop (o+s.n):=by rw [List.drop_drop]
          rw [h5] at h4
          have h6:((cs.drop o).take s.n).length=s.n:=by simp;omega
          conv=>lhs;rw [h4]
          rw [List.drop_append_of_le_length (by omega)]
        rw [e1,e2,e3];simp
      rw [e] at q2
      exact r'.ext (λ b=>by rw [or_assoc]) q2
theorem Len.here {α β:Type} {r r':ORep α} {s:ORep β} (hn:r'.n=r.n) {x:α×β}:Len (oprod r s) (oprod r' s) 0 r r' x x.1 (λ y=>(y,x.2)) where
  pn:=hn
  same:=rfl
  out:=by
    intro G S w cs h
    obtain ⟨c,d,G1,G2,rfl,hs,h1,h2⟩:=h
    have hl:=r.len h1
    refine ⟨by simp [oprod],G1,G2,hs,by simpa [← hl] using h1,λ {G1' S' w' c' y'} a k kg hd hp=>⟨c',d,G1',G2,by simp [← hl],Sep.mk' hd,hp,s.stab a k kg h2⟩⟩
theorem Len.there {α β γ:Type} {r:ORep α} {s s':ORep β} {p p':ORep γ} {off:Nat} {x:α×β} {y:γ} {u:γ→β} (h:Len s s' off p p' x.2 y u):Len (oprod r s) (oprod r s') (r.n+off) p p' x y (λ y=>(x.1,u y)) where
  pn:=h.pn
  same:=by rw [h.same]
  out:=by
    intro G S w cs hx
    obtain ⟨c,d,G1,G2,rfl,hs,h1,h2⟩:=hx
    have hl:=r.len h1
    obtain ⟨f1,K1,K2,ks,kp,kput⟩:=h.out h2
    refine ⟨by simp only [oprod];omega,K1,λ b=>G1 b∨K2 b,⟨λ b=>by rw [hs.1,ks.1];constructor<;>(intro h;rcases h with h | h | h<;>simp [h]),?_⟩,?_,λ {G1' S' w' c' y'} a k kg hd hp=>?_⟩
    · rintro b hb (hk | hk)
      · exact hs.2 b hk (ks.l hb)
      · exact ks.2 b hb hk
    · rw [← hl,List.drop_length_add_append];exact kp
    · refine ⟨c,d.take off++c'++d.drop (off+p.n),G1,λ b=>G1' b∨K2 b,?_,⟨λ b=>?_,?_⟩,r.stab a k (λ b hb=>kg b (.inl hb)) h1,kput a k (λ b hb=>kg b (.inr hb)) (λ b hb hk=>hd b hb (.inr hk)) hp⟩
      · rw [← hl,Nat.add_assoc,List.take_length_add_append,List.drop_length_add_append];simp
      · constructor<;>(intro h;rcases h with h | h | h<;>simp [h])
      · rintro b hb (hk | hk)
        · exact hd b hk (.inl hb)
        · exact hs.2 b hb (ks.r hk)
theorem Len.iso {α β γ:Type} {r r':ORep α} {p p':ORep γ} {off:Nat} (f:β→α) {x:β} {y:γ} {u:γ→α} {u':γ→β} (h:Len r r' off p p' (f x) y u) (hu:∀ y,u y=f (u' y)) (hs:u' y=x):Len (oiso f r) (oiso f r') off p p' x y u' where
  pn:=h.pn
  same:=hs
  out:=by
    intro G S w cs hx
    obtain ⟨f1,G1,G2,hs,hp,hput⟩:=h.out (by exact hx)
    exact ⟨f1,G1,G2,hs,hp,λ {_ S' w' c' y'} a k kg hd hp=>by show r'.rel _ S' w' _ (f (u' y'));rw [← hu];exact hput a k kg hd hp⟩
def at' {α:Type} (f:Nat→ORep α) (i:Nat) (r:ORep α):Nat→ORep α:=λ j=>if j=i then r else f j
theorem Len.els {α:Type} {S:Blks} {w:World} {n:Nat} {r':ORep α}:∀ {l:List α} {f:Nat→ORep α} {G:Blks} {cs:List Value} {i:Nat} {x:α},(∀ j,(f j).n=n)→l[i]?=some x→OEls S w f G cs l →
    ∃ G1 G2,Sep G G1 G2∧(f i).rel G1 S w ((cs.drop (i*n)).take n) x ∧
      ∀ {G1' S':Blks} {w':World} {c':List Value} {y':α},(∀ b,S b→S' b)→(∀ b,S b→w'.heap[b]?=w.heap[b]?)→(∀ b,G2 b→w'.heap[b]?=w.heap[b]?)→(∀ b,G1' b→¬ G2 b) →
        r'.rel G1' S' w' c' y'→OEls S' w' (at' f i r') (λ b=>G1' b∨G2 b) (cs.take (i*n)++c'++cs.drop (i*n+n)) (l.set i y')
  | [],f,G,cs,i,x,_,hi,_=>by simp at hi
  | z::l,f,G,cs,0,x,hn,hi,h=>by
    obtain ⟨c,rest,G1,G2,rfl,hs,h1,h2⟩:=h
    simp at hi;subst hi
    have hl:=(f 0).len h1
    rw [hn 0] at hl
    refine ⟨G1,G2,hs,by simpa [← hl] using h1,λ {G1' S' w' c' y'} a k kg hd hp=>⟨c',rest,G1',G2,by simp [← hl],Sep.mk' hd,by simpa [at'] using hp,?_⟩⟩
    have e:(λ j=>at' f 0 r' (j+1))=λ j=>f (j+1):=by funext j;simp [at']
    rw [e];exact h2.stab a k kg
  | z::l,f,G,cs,i+1,x,hn,hi,h=>by
    obtain ⟨c,rest,G1,G2,rfl,hs,h1,h2⟩:=h
    have hl:=(f 0).len h1
    rw [hn 0] at hl
    obtain ⟨K1,K2,ks,kp,kput⟩:=Len.els (r':=r') (f:=λ j=>f (j+1)) (i:=i) (λ j=>hn (j+1)) (by simpa using hi) h2
    have e1:(i+1)*n=c.length+i*n:=by rw [Nat.add_mul,hl];omega
    refine ⟨K1,λ b=>G1 b∨K2 b,⟨λ b=>by rw [hs.1,ks.1];constructor<;>(intro h;rcases h with h | h | h<;>simp [h]),?_⟩,?_,λ {G1' S' w' c' y'} a k kg hd hp=>?_⟩
    · rintro b hb (hk | hk)
      · exact hs.2 b hk (ks.l hb)
      · exact ks.2 b hb hk
    · rw [e1,List.drop_length_add_append];exact kp
    · have q:=kput a k (λ b hb=>kg b (.inr hb)) (λ b hb hk=>hd b hb (.inr hk)) hp
      have ef:(λ j=>at' f (i+1) r' (j+1))=at' (λ j=>f (j+1)) i r':=by funext j;simp [at']
      refine ⟨c,_,G1,λ b=>G1' b∨K2 b,?_,⟨λ b=>?_,?_⟩,by simpa [at'] using (f 0).stab a k (λ b hb=>kg b (.inl hb)) h1,by rw [ef];exact q⟩
      · rw [e1,List.take_length_add_append,Nat.add_assoc,List.drop_length_add_append];simp
      · constructor<;>(intro h;rcases h with h | h | h<;>simp [h])
      · rintro b hb (hk | hk)
        · exact hd b hk (.inl hb)
        · exact hs.2 b hb (ks.r hk)
theorem at_n {α:Type} {n:Nat} {f:Nat→ORep α} {i:Nat} {r:ORep α} (hf:∀ j,(f j).n=n) (hr:r.n=n):∀ j,(at' f i r j).n=n:=by
  intro j;unfold at';split
  · exact hr
  · exact hf j
theorem at_at {α:Type} (f:Nat→ORep α) (i:Nat) (r r':ORep α):at' (at' f i r) i r'=at' f i r':=by funext j;simp only [at'];split<;>rfl
theorem at_self {α:Type} (r:ORep α) (i:Nat):at' (λ _=>r) i r=λ _=>r:=by funext j;simp [at']
theorem at_get {α:Type} (f:Nat→ORep α) (i:Nat) (r:ORep α):at' f i r i=r:=by simp [at']
theorem Len.arr {α:Type} {m n:Nat} {f:Nat→ORep α} {hn:∀ j,(f j).n=n} {r':ORep α} {l:List α} {i:Int} {x:α} (h:idx l i=some x) (hr:r'.n=n) :
    Len (oarr m n f hn) (oarr m n (at' f i.toNat r') (at_n hn hr)) (i.toNat*n) (f i.toNat) r' l x (λ y=>Lift.upd l i y) where
  pn:=by rw [hr,hn]
  same:=by
    obtain ⟨h0,h1,h2⟩:=idx_some h
    simp only [upd]
    apply List.ext_getElem?
    intro j
    rw [List.getElem?_set]
    split
    · rename_i e;subst e;obtain ⟨h3,h4⟩:=List.getElem?_eq_some_iff.1 h2;simp [h3,h4]
    · rfl
  out:=by
    intro G S w cs hx
    obtain ⟨h0,h1,h2⟩:=idx_some h
    obtain ⟨G1,G2,hs,hp,hput⟩:=Len.els (r':=r') hn h2 hx.2
    refine ⟨?_,G1,G2,hs,by rw [hn];exact hp,λ {G1' S' w' c' y'} a k kg hd hp'=>⟨by simp [upd,hx.1],?_⟩⟩
    · show i.toNat*n+(f i.toNat).n≤m*n
      rw [hn,← Nat.succ_mul,← hx.1]
      exact Nat.mul_le_mul_right _ (by omega)
    · rw [hn];exact hput a k kg hd hp'
def HAtom.oval {α:Type} (r:ORep α) (v:Value) (x:α):HAtom where
  p:=λ G S w=>(match r.agg with | true=>∃ cs:List Value,v=.agg cs.toArray∧r.rel G S w cs x | false=>r.rel G S w [v] x)
  st:=by
    intro G S S' w w' a k kg h
    cases hr:r.agg
    · rw [hr] at h;exact r.stab a k kg h
    · rw [hr] at h;obtain ⟨cs,e,h⟩:=h;exact ⟨cs,e,r.stab a k kg h⟩
theorem Own.one {α:Type} {E n:Nat} {F:Nat→ORep α} {G S:Blks} {w:World} {v:Value} {l:List α} (h:Own E n F G S w v l):v.oneCell'=true:=by
  rcases h with ⟨rfl,_⟩ | ⟨g,o,cap,cur,xs,G',rfl,_⟩<;>rfl
theorem oval_slice {α:Type} {E n:Nat} {F:Nat→ORep α} {v:Value} {l:List α} {G S:Blks} {w:World}:(HAtom.oval (oslice E n F) v l).p G S w↔Own E n F G S w v l:=by
  simp only [HAtom.oval,oslice]
  constructor
  · rintro ⟨u,e,h⟩;simp at e;subst e;exact h
  · intro h;exact ⟨v,rfl,h⟩
section
variable {C:Cx} {L:List (Nat×Value)} {w:World} {ops:Array Oper} {Z:List (Nat×Value)→World→Prop} {d:Nat} {t T:TypeId} {p:String} {af:Array Edge} {g:Option (Nat×Bool)}
variable {e : En} {Γ : List (Bool × Atom)} {Ω Ω' Ω'' : List (Bool × HAtom)} {f f2 : Bool} {α β : Type} {r r1 r' : ORep α} {fr : Rep β} {pc pc' : ORep β} {x : α} {y z : β} {u : β → α}
theorem own_ne {E n:Nat} {F:Nat→ORep α} {G S:Blks} {v:Value} {l:List α} (hne:l≠[]) (h:(HAtom.oval (oslice E n F) v l).p G S w) :
    ∃ g o cap cur xs G',v=.slice (some ⟨g,o,none⟩) l.length cap∧w.heap[g]?=some (.cells cur E (0,0))∧l.length≤cap∧cap≤maxLen∧o+cap*n≤cur.size ∧
      xs=(cur.toList.drop o).take (l.length*n)∧OEls S w F G' xs l∧¬ G' g∧∀ b,G b↔b=g∨G' b:=by
  rcases oval_slice.1 h with ⟨_,h2,_⟩ | h
  · exact absurd h2 hne
  · exact h
theorem OpS.fownD {a : Operand} {v qv : Value} {o1 o2 i E n : Nat} {F : Nat → ORep α} {xs : List α} (h : St e w Γ Ω) (hp : Pick Ω (f, .oval (oslice E n F) v xs) Ω') (hne : xs ≠ []) (hq : PA (sp v) o1 qv) (hfa : FA C.P T i o2) (hg : gd ops L g = some true) (hd : Nat.blt d C.fn.ntmps = true) (hx : ev L a = some qv)
    (K:Z ((d,padd (sp v) (o1+o2))::L) w):OpS C ops ⟨some d,.fieldAddr T a i,t,p,af,g⟩ L w Z:=by
  obtain ⟨S,G,I,hs,hO⟩:=h
  obtain ⟨G1,G2,_,_,_,hown,_⟩:=hO.pick hp
  obtain ⟨b,o,cap,cur,ys,G',rfl,_⟩:=own_ne hne hown
  have hqv:=hq _ rfl
  subst hqv
  exact OpS.val hg rfl hd (λ ac hac=>by simp [execOp,hac.ev hx,run_fieldAt hfa,add_none,padd,sp,Nat.add_assoc]) K
theorem OpS.nchkO {a : Operand} {v qv : Value} {o1 E n : Nat} {F : Nat → ORep α} {xs : List α} (h : St e w Γ Ω) (hp : Pick Ω (f, .oval (oslice E n F) v xs) Ω') (hne : xs ≠ []) (hq : PA (sp v) o1 qv) (hg : gd ops L g = some true) (hd : Nat.blt d C.fn.ntmps = true) (hx : ev L a = some qv)
    (K:Z ((d,qv)::L) w):OpS C ops ⟨some d,.nilCheck a,t,p,af,g⟩ L w Z:=by
  obtain ⟨S,G,I,hs,hO⟩:=h
  obtain ⟨G1,G2,_,_,_,hown,_⟩:=hO.pick hp
  obtain ⟨b,o,cap,cur,ys,G',rfl,_⟩:=own_ne hne hown
  have hqv:=hq _ rfl
  subst hqv
  exact OpS.val hg rfl hd (λ ac hac=>by simp [execOp,hac.ev hx]) K
theorem OpS.iownD {a b : Operand} {v : Value} {E m : Nat} {F : Nat → ORep α} {q : IntKind} {n : Int} {xs : List α} (h : St e w Γ Ω) (hp : Pick Ω (f, .oval (oslice E m F) v xs) Ω') (ht : C.P.underlying T = some (.slice E)) (hE : (C.P.info? E).map (·.size) = some m) (hg : gd ops L g = some true) (hd : Nat.blt d C.fn.ntmps = true) (hx : ev L a = some v) (hi : ev L b = some (.int q n))
    (hn:idx xs n=some x) (K:Z ((d,padd (sp v) (n.toNat*m))::L) w):OpS C ops ⟨some d,.indexAddr T a b,t,p,af,g⟩ L w Z:=by
  obtain ⟨S,G,I,hs,hO⟩:=h
  obtain ⟨h0,h1,h2⟩:=idx_some hn
  obtain ⟨G1,G2,_,_,_,hown,_⟩:=hO.pick hp
  obtain ⟨bk,o,cap,cur,ys,G',rfl,_⟩:=own_ne (idx_ne hn) hown
  exact OpS.val hg rfl hd (λ ac hac=>by simp [execOp,hac.ev hx,hac.ev hi,run_indexSlice ht hE bk o xs.length cap q n h0 h1,padd,sp,add_none]) K
theorem OpS.lenD {a : Operand} {v : Value} {E E' n : Nat} {F : Nat → ORep α} {xs : List α} (h : St e w Γ Ω) (hp : Pick Ω (f, .oval (oslice E' n F) v xs) Ω') (ht : C.P.underlying T = some (.slice E)) (hg : gd ops L g = some true) (hd : Nat.blt d C.fn.ntmps = true) (hx : ev L a = some v)
    (K:Z ((d,.int .i64 (xs.length:Int))::L) w):OpS C ops ⟨some d,.call ⟨.builtin .len,#[a],#[T]⟩,t,p,af,g⟩ L w Z:=by
  obtain ⟨S,G,I,hs,hO⟩:=h
  obtain ⟨G1,G2,_,_,_,hown,_⟩:=hO.pick hp
  rcases oval_slice.1 hown with ⟨rfl,rfl,_⟩ | ⟨bk,o,cap,cur,ys,G',rfl,_⟩
  · exact OpS.val hg rfl hd (λ ac hac=>by simp [execOp,resolve,invoke,builtin,hac.ev hx,Builtin.len_,run_underlying ht,goInt]) K
  · exact OpS.val hg rfl hd (λ ac hac=>by simp [execOp,resolve,invoke,builtin,hac.ev hx,Builtin.len_,run_underlying ht,goInt]) K
theorem cellsAt_row {w:World} {g:Nat} {cur:Array Value} {T:TypeId} {fz:Nat×Nat} (hg:w.heap[g]?=some (.cells cur T fz)) (o o2 m n:Nat):cellsAt w g (o+o2) ((((cur.toList.drop o).take m).drop o2).take n):=by
  intro j v hj
  rw [cell_of_row w g (o+o2+j) cur T fz hg]
  rw [List.getElem?_take] at hj
  split at hj
  · rw [List.getElem?_drop,List.getElem?_take] at hj
    split at hj
    · rw [List.getElem?_drop] at hj;simpa [Nat.add_assoc] using hj
    · cases hj
  · cases hj
theorem fl_of {f f2:Bool} {B:Nat} {S:Blks} (hf:f2=true∨f=false):∀ b,fl f2 B S b→fl f B S b:=by
  rintro b ⟨h1,h2⟩
  refine ⟨h1,λ h=>?_⟩
  rcases hf with rfl | rfl
  · exact h2 rfl
  · cases h
theorem St.cut {a a1 a2:HAtom} (h:St e w Γ ((f,a)::Ω)) (k:∀ G S,a.p G S w→∃ Ga Gb,Sep G Ga Gb∧a1.p Ga S w∧a2.p Gb S w):St e w Γ ((f,a1)::(f,a2)::Ω):=by
  obtain ⟨S,G,I,hs,G1,G2,h1,h2,h3,h4,h5⟩:=h
  obtain ⟨Ga,Gb,hsep,p1,p2⟩:=k _ _ h4
  refine ⟨S,G,I,hs,Ga,λ b=>Gb b∨G2 b,λ b=>by rw [h1,hsep.1,or_assoc],?_,λ b hf hb=>h3 b hf (hsep.l hb),p1,Gb,G2,λ _=>Iff.rfl,λ b hb=>h2 b (hsep.r hb),λ b hf hb=>h3 b hf (hsep.r hb),p2,h5⟩
  rintro b hb (h | h)
  · exact hsep.2 b hb h
  · exact h2 b (hsep.l hb) h
theorem St.glue {a a1 a2:HAtom} (h:St e w Γ ((f,a1)::(f2,a2)::Ω)) (hf:f2=true∨f=false) (k:∀ G Ga Gb S,Sep G Ga Gb→a1.p Ga S w→a2.p Gb S w→a.p G S w):St e w Γ ((f,a)::Ω):=by
  obtain ⟨S,G,I,hs,G1,G2,h1,h2,h3,h4,K1,K2,k1,k2,k3,k4,k5⟩:=h
  have hd:∀ b,G1 b→¬ K1 b:=λ b hb hk=>h2 b hb ((k1 b).2 (.inl hk))
  refine ⟨S,G,I,hs,λ b=>G1 b∨K1 b,K2,λ b=>by rw [h1,k1,or_assoc],?_,λ b hff hb=>?_,k _ G1 K1 _ (Sep.mk' hd) h4 (a2.st (fl_of hf) (λ _ _=>rfl) (λ _ _=>rfl) k4),k5⟩
  · rintro b (hb | hb) hk
    · exact h2 b hb ((k1 b).2 (.inr hk))
    · exact k2 b hb hk
  · rcases hb with hb | hb
    · exact h3 b hff hb
    · exact k3 b (by rcases hf with h | h
                     · exact h
                     · rw [hff] at h;cases h) hb
def HAtom.pair (a1 a2:HAtom):HAtom where
  p:=λ G S w=>∃ Ga Gb,Sep G Ga Gb∧a1.p Ga S w∧a2.p Gb S w
  st:=by
    intro G S S' w w' a k kg ⟨Ga,Gb,hs,h1,h2⟩
    exact ⟨Ga,Gb,hs,a1.st a k (λ b hb=>kg b (hs.l hb)) h1,a2.st a k (λ b hb=>kg b (hs.r hb)) h2⟩
theorem splice_self {β:Type} {cs:List β} {off n:Nat}:cs.take off++(cs.drop off).take n++cs.drop (off+n)=cs:=by
  rw [List.append_assoc,← List.drop_drop,List.take_append_drop,List.take_append_drop]
theorem run_loadVar1 {γ:Type} {P:Program} {rr:Rep γ} (h:Ty P T rr) (ha:rr.agg=false) {b o:Nat} {v:Value} (hc:w.cell? ⟨b,o,none⟩=some v):(loadVar T ⟨b,o,none⟩).run P w=.ok v w:=by
  unfold loadVar
  simp only [Sem.run_bind,h.isAgg,Result.andThen_ok,ha]
  simp [load,Sem.run,hc]
theorem OpS.openO {γ : Type} {rr : Rep γ} {a : Operand} {v0 qv : Value} {off E n : Nat} {F : Nat → ORep α} {hn : ∀ j, (F j).n = n} {F' : Value → Nat → ORep α} {hn' : ∀ v j, (F' v j).n = n} {xs : List α} {u : β → List α} (h : St e w Γ Ω) (hp : Pick Ω (f, .oval (oslice E n F) v0 xs) Ω') (hne : xs ≠ []) (hq : PA (sp v0) off qv)
    (hl:∀ v,Len (oarr xs.length n F hn) (oarr xs.length n (F' v) (hn' v)) off pc (raw v) xs y u) (ha:pc.agg=false) (ht:Ty C.P T rr) (hrr:rr.agg=false) (hg:gd ops L g=some true) (hd:Nat.blt d C.fn.ntmps=true)
    (hx : ev L a = some qv) (K : ∀ v, St e w Γ ((f, .oval (oslice E n (F' v)) v0 xs) :: (f, .oval pc v y) :: Ω') → Z ((d, v) :: L) w) : OpS C ops ⟨some d, .load T a, t, p, af, g⟩ L w Z := by
  have h1:=h.pick hp
  obtain ⟨S,G,I,hs,G1,G2,_,_,_,hown,_⟩:=h1
  obtain ⟨b,o,cap,cur,ys,G',rfl,hh,k1,k2,k3,hys,hel,hnb,hG⟩:=own_ne hne hown
  obtain ⟨hfit,_,_,_,hpc,_⟩:=(hl undef).out ⟨rfl,hel⟩
  have hn1:pc.n=1:=((hl undef).pn).symm
  have hlen:=pc.len hpc
  rw [hn1] at hlen
  obtain ⟨v,hv⟩:∃ v,(ys.drop off).take pc.n=[v]:=List.length_eq_one_iff.1 (by rw [hn1];exact hlen)
  have hcell:w.cell? ⟨b,o+off,none⟩=some v:=by
    have:=cellsAt_row hh o off (xs.length*n) pc.n 0 v (by rw [← hys,hv];rfl)
    simpa using this
  have hqv:=hq _ rfl
  rw [add_none] at hqv
  subst hqv
  refine OpS.val hg rfl hd (λ ac hac=>exec_load rfl (hac.ev hx) (run_loadVar1 ht hrr hcell)) (K v ((h.pick hp).cut ?_))
  intro G0 S0 hown2
  obtain ⟨b2,o2,cap2,cur2,ys2,G2',e1,hh2,j1,j2,j3,hys2,hel2,hnb2,hG2⟩:=own_ne hne hown2
  simp only [Value.slice.injEq,Option.some.injEq,Addr.mk.injEq,and_true,true_and] at e1
  obtain ⟨⟨rfl,rfl⟩,rfl⟩:=e1
  rw [hh] at hh2
  simp only [Option.some.injEq,Obj.cells.injEq,and_true] at hh2
  subst hh2
  rw [← hys] at hys2
  subst hys2
  obtain ⟨_,K1,K2,hsep,hp1,hput⟩:=(hl v).out ⟨rfl,hel2⟩
  have hone:v.oneCell'=true:=pc.one hpc v (by rw [hv];simp)
  have hr3:=hput (G1':=λ _=>False) (y':=y) (c':=[v]) (λ _ h=>h) (λ _ _=>rfl) (λ _ _=>rfl) (λ _ h=>h.elim) ⟨λ _ h=>h,rfl,hone⟩
  rw [(hl v).same] at hr3
  have he:ys2.take off++[v]++ys2.drop (off+pc.n)=ys2:=by rw [← hv];exact splice_self
  rw [he] at hr3
  refine ⟨λ c=>c=b∨K2 c,K1,⟨λ c=>?_,?_⟩,oval_slice.2 (.inr ⟨b,o,cap,cur,ys2,K2,rfl,hh,k1,k2,k3,hys,OEls.ext (λ c=>by simp) hr3.2,λ hk=>hnb2 (hsep.r hk),λ _=>Iff.rfl⟩),?_⟩
  · rw [hG2,hsep.1];exact ⟨λ h=>h.elim (λ h=>.inl (.inl h)) (λ h=>h.elim .inr (λ h=>.inl (.inr h))),λ h=>h.elim (λ h=>h.elim .inl (λ h=>.inr (.inr h))) (λ h=>.inr (.inl h))⟩
  · rintro c (rfl | hc) hk
    · exact hnb2 (hsep.l hk)
    · exact hsep.2 c hk hc
  · show (HAtom.oval pc v y).p K1 S0 w
    simp only [HAtom.oval,ha]
    rw [hv] at hp1;exact hp1
theorem row_splice {β:Type} {cs c:List β} {o m off k:Nat} (hc:c.length=k) (h1:off+k≤m) (h2:o+m≤cs.length) :
    ((cs.take (o+off)++c++cs.drop (o+off+k)).drop o).take m=((cs.drop o).take m).take off++c++((cs.drop o).take m).drop (off+k):=by
  have e0:(cs.take (o+off)).drop o=(cs.drop o).take off:=by rw [List.drop_take];congr 1;omega
  have e1:(cs.take (o+off)++c++cs.drop (o+off+k)).drop o=(cs.drop o).take off++c++(cs.drop o).drop (off+k):=by
    rw [List.append_assoc,List.drop_append_of_le_length (by simp;omega),e0,List.drop_drop,List.append_assoc,Nat.add_assoc]
  have:=splice_take (cs:=cs.drop o) (c:=c) (off:=off) (m:=m) (by omega) (by simp;omega)
  rw [hc] at this
  rw [e1,this]
theorem OpS.storeOD {a z0 : Operand} {v0 qv v : Value} {off E n : Nat} {F F2 : Nat → ORep α} {hn : ∀ j, (F j).n = n} {hn2 : ∀ j, (F2 j).n = n} {xs : List α} {u : β → List α} {f' : Bool} (h : St e w Γ Ω) (hp : Pick Ω (f, .oval (oslice E n F) v0 xs) Ω') (hne : xs ≠ []) (hq : PA (sp v0) off qv) (hl : Len (oarr xs.length n F hn) (oarr xs.length n F2 hn2) off pc (sh fr) xs y u) (ht : Ty C.P T fr) (hg : gd ops L g = some true)
    (hx:ev L a=some qv) (hz:ev L z0=some v) (hv:V e.w.heap.size Γ f' fr v z) (hf:f'=true∨f=false)
    (K : ∀ w', St e w' Γ ((f, .oval (oslice E n F2) v0 (u z)) :: Ω') → Z L w') : OpS C ops ⟨none, .store T a z0, t, p, af, g⟩ L w Z := by
  have h1:=h.pick hp
  have hpn:fr.n=pc.n:=hl.pn
  have hb:∃ b o cap cs,v0=.slice (some ⟨b,o,none⟩) xs.length cap∧w.heap[b]?=some (.cells cs E (0,0))∧off+fr.n≤xs.length*n∧o+xs.length*n≤cs.size:=by
    obtain ⟨S,G,I,hs,G1,G2,_,_,_,hown,_⟩:=h1
    obtain ⟨b,o,cap,cur,ys,G',e1,hh,k1,k2,k3,hys,hel,hnb,hG⟩:=own_ne hne hown
    have h4:xs.length*n≤cap*n:=Nat.mul_le_mul_right _ k1
    exact ⟨b,o,cap,cur,e1,hh,by rw [hpn];exact (hl.out ⟨rfl,hel⟩).1,by omega⟩
  obtain ⟨b,o,cap,cs,rfl,hh,hfit,hrow⟩:=hb
  have hqv:=hq _ rfl
  rw [add_none] at hqv
  subst hqv
  obtain ⟨S0,w1,hv1⟩:∃ S0 w1,fr.rel S0 w1 v.cells.toList z:=by
    obtain ⟨S,G,I,hs,_⟩:=h1;exact ⟨_,_,Rep.val_cells (hv S w hs)⟩
  have hrun:=run_storeVar (w:=w) (o:=o+off) ht hh hv1 (by omega)
  refine OpS.eff hg rfl (λ ac hac=>exec_store rfl (hac.ev hx) (hac.ev hz) hrun) (K _ (h1.write ?_))
  intro S G1 hs hown hdis _ hlt
  obtain ⟨b',o',cap',cs',ys,G',e1,hh',k1,k2,k3,hys,hel,hnb,hG⟩:=own_ne hne hown
  simp only [Value.slice.injEq,Option.some.injEq,Addr.mk.injEq,and_true,true_and] at e1
  obtain ⟨⟨rfl,rfl⟩,rfl⟩:=e1
  rw [hh'] at hh
  simp only [Option.some.injEq,Obj.cells.injEq,and_true] at hh
  subst hh
  obtain ⟨_,K1,K2,ks,_,kput⟩:=hl.out ⟨rfl,hel⟩
  have hsame:∀ c,c≠b→(w.setRow b (cs'.toList.take (o+off)++v.cells.toList++cs'.toList.drop (o+off+fr.n)).toArray).heap[c]?=w.heap[c]?:=λ c hc=>setRow_other w b c _ hc
  have hS:∀ c,fl f e.w.heap.size S c→(w.setRow b (cs'.toList.take (o+off)++v.cells.toList++cs'.toList.drop (o+off+fr.n)).toArray).heap[c]?=w.heap[c]? :=
    λ c hc=>hsame c (λ h=>hdis c hc.1 ((hG c).2 (.inl h)))
  have hr2:=kput (G1':=λ _=>False) (y':=z) (c':=v.cells.toList) (λ _ h=>h) hS (λ c hc=>hsame c (λ h=>hnb (by subst h;exact ks.r hc))) (λ _ h=>h.elim) ⟨λ _ h=>h,fr.stab (λ _ h=>h) hS (Rep.val_cells (hv.as hf hs))⟩
  have hlen:(u z).length=xs.length:=hr2.1
  have hvl:v.cells.toList.length=fr.n:=fr.len hv1
  refine ⟨λ c=>c=b∨K2 c,λ c hc=>.inl ?_,⟨rfl,rfl,rfl,by simp⟩,λ c _ hc=>hsame c (λ h=>hc ((hG c).2 (.inl h))),
    oval_slice.2 (.inr ⟨b,o,cap,_,_,K2,by rw [hlen],setRow_heap w b _ _ E _ hh',by rw [hlen];exact k1,k2,?_,rfl,?_,λ h=>hnb (ks.r h),λ _=>Iff.rfl⟩)⟩
  · rcases hc with rfl | hc
    · exact (hG _).2 (.inl rfl)
    · exact (hG c).2 (.inr (ks.r hc))
  · simp only [List.size_toArray,List.length_append,List.length_take,List.length_drop,Array.length_toList,hvl];omega
  · have e3:=row_splice (cs:=cs'.toList) (c:=v.cells.toList) (o:=o) (m:=xs.length*n) (off:=off) (k:=fr.n) hvl hfit (by simpa using hrow)
    rw [hlen]
    show OEls _ _ _ _ (((cs'.toList.take (o+off)++v.cells.toList++cs'.toList.drop (o+off+fr.n)).drop o).take (xs.length*n)) _
    rw [← hpn] at hr2
    rw [e3,← hys]
    exact OEls.ext (G:=λ b=>False∨K2 b) (λ c=>by simp) hr2.2
theorem OpS.storePO {γ : Type} {rr : Rep γ} {a z0 : Operand} {v0 qv v : Value} {off E n : Nat} {F F2 : Nat → ORep α} {hn : ∀ j, (F j).n = n} {hn2 : ∀ j, (F2 j).n = n} {xs : List α} {u : β → List α} (h : St e w Γ Ω) (hp : Pick Ω (f, .oval (oslice E n F) v0 xs) Ω') (hp2 : Pick Ω' (f2, .oval pc' v z) Ω'') (hne : xs ≠ []) (hq : PA (sp v0) off qv)
    (hl:Len (oarr xs.length n F hn) (oarr xs.length n F2 hn2) off pc pc' xs y u) (ht:Ty C.P T rr) (hrn:rr.n=pc'.n) (hg:gd ops L g=some true)
    (hx:ev L a=some qv) (hz:ev L z0=some v) (hf:f2=true∨f=false)
    (K : ∀ w', St e w' Γ ((f, .oval (oslice E n F2) v0 (u z)) :: Ω'') → Z L w') : OpS C ops ⟨none, .store T a z0, t, p, af, g⟩ L w Z := by
  have h2 : St e w Γ ((f, .oval (oslice E n F) v0 xs) :: (f2, .oval pc' v z) :: Ω'') := by
    have h3:=h.pick hp
    obtain ⟨S,G,I,hs,G1,G2,k1,k2,k3,k4,k5⟩:=h3
    exact ⟨S,G,I,hs,G1,G2,k1,k2,k3,k4,k5.pick hp2⟩
  have h1 : St e w Γ ((f, .pair (.oval (oslice E n F) v0 xs) (.oval pc' v z)) :: Ω'') := h2.glue hf (fun G Ga Gb S hs p1 p2 => ⟨Ga, Gb, hs, p1, p2⟩)
  have vrel:∀ {G S:Blks} {w:World},(HAtom.oval pc' v z).p G S w→pc'.rel G S w v.cells.toList z:=by
    intro G S w hv
    simp only [HAtom.oval] at hv
    split at hv
    · obtain ⟨cs,rfl,hv⟩:=hv;simpa [Value.cells] using hv
    · rw [cells_of_one (pc'.one hv v (by simp))];exact hv
  have hpn:pc'.n=pc.n:=hl.pn
  have hb:∃ b o cap cs,v0=.slice (some ⟨b,o,none⟩) xs.length cap∧w.heap[b]?=some (.cells cs E (0,0))∧off+rr.n≤xs.length*n∧o+xs.length*n≤cs.size∧v.cells.size=rr.n∧∀ c∈v.cells.toList,c.oneCell'=true:=by
    obtain ⟨S,G,I,hs,G1,G2,_,_,_,⟨Ga,Gb,_,hown,hv⟩,_⟩:=h1
    obtain ⟨b,o,cap,cur,ys,G',e1,hh,k1,k2,k3,hys,hel,hnb,hG⟩:=own_ne hne hown
    have hvr:=vrel hv
    have hvl:=pc'.len hvr
    have h4:xs.length*n≤cap*n:=Nat.mul_le_mul_right _ k1
    exact ⟨b,o,cap,cur,e1,hh,by rw [hrn,hpn];exact (hl.out ⟨rfl,hel⟩).1,by omega,by rw [hrn];simpa using hvl,pc'.one hvr⟩
  obtain ⟨b,o,cap,cs,rfl,hh,hfit,hrow,hvs,hv1⟩:=hb
  have hqv:=hq _ rfl
  rw [add_none] at hqv
  subst hqv
  have hrun:(storeVar T ⟨b,o+off,none⟩ v).run C.P w=.ok () (w.setRow b (cs.toList.take (o+off)++v.cells.toList++cs.toList.drop (o+off+rr.n)).toArray):=by
    have hst:=run_storeCells_at C.P b (o+off) E v.cells.toList 0 cs w hh (by simp [hvs];omega) hv1
    unfold storeVar
    simp only [Sem.run_bind,ht.size,Result.andThen_ok,hvs,ne_eq,not_true_eq_false,if_false]
    simp only [Nat.add_zero] at hst
    simpa [hvs] using hst
  refine OpS.eff hg rfl (λ ac hac=>exec_store rfl (hac.ev hx) (hac.ev hz) hrun) (K _ (h1.write ?_))
  rintro S G1 hs ⟨Ga,Gb,hsep,hown,hv⟩ hdis _ hlt
  obtain ⟨b',o',cap',cs',ys,G',e1,hh',k1,k2,k3,hys,hel,hnb,hG⟩:=own_ne hne hown
  simp only [Value.slice.injEq,Option.some.injEq,Addr.mk.injEq,and_true,true_and] at e1
  obtain ⟨⟨rfl,rfl⟩,rfl⟩:=e1
  rw [hh'] at hh
  simp only [Option.some.injEq,Obj.cells.injEq,and_true] at hh
  subst hh
  obtain ⟨_,K1,K2,ks,_,kput⟩:=hl.out ⟨rfl,hel⟩
  have hga:∀ c,c=b→Ga c:=λ c h=>(hG c).2 (.inl h)
  have hsame:∀ c,c≠b→(w.setRow b (cs'.toList.take (o+off)++v.cells.toList++cs'.toList.drop (o+off+rr.n)).toArray).heap[c]?=w.heap[c]?:=λ c hc=>setRow_other w b c _ hc
  have hS:∀ c,fl f e.w.heap.size S c→(w.setRow b (cs'.toList.take (o+off)++v.cells.toList++cs'.toList.drop (o+off+rr.n)).toArray).heap[c]?=w.heap[c]? :=
    λ c hc=>hsame c (λ h=>hdis c hc.1 (hsep.l (hga c h)))
  have hGb:∀ c,Gb c→c≠b:=λ c hc h=>hsep.2 c (hga c h) hc
  have hr2:=kput (G1':=Gb) (y':=z) (c':=v.cells.toList) (λ _ h=>h) hS (λ c hc=>hsame c (λ h=>hnb (by subst h;exact ks.r hc))) (λ c hc hk=>hsep.2 c ((hG c).2 (.inr (ks.r hk))) hc)
    (pc'.stab (λ _ h=>h) hS (λ c hc=>hsame c (hGb c hc)) (vrel hv))
  have hlen:(u z).length=xs.length:=hr2.1
  have hvl:v.cells.toList.length=rr.n:=by simpa using hvs
  refine ⟨λ c=>c=b∨(Gb c∨K2 c),λ c hc=>.inl ?_,⟨rfl,rfl,rfl,by simp⟩,λ c _ hc=>hsame c (λ h=>hc (hsep.l (hga c h))),
    oval_slice.2 (.inr ⟨b,o,cap,_,_,λ c=>Gb c∨K2 c,by rw [hlen],setRow_heap w b _ _ E _ hh',by rw [hlen];exact k1,k2,?_,rfl,?_,?_,λ _=>Iff.rfl⟩)⟩
  · rcases hc with rfl | hc | hc
    · exact hsep.l (hga _ rfl)
    · exact hsep.r hc
    · exact hsep.l ((hG c).2 (.inr (ks.r hc)))
  · simp only [List.size_toArray,List.length_append,List.length_take,List.length_drop,Array.length_toList,hvl];omega
  · have e3:=row_splice (cs:=cs'.toList) (c:=v.cells.toList) (o:=o) (m:=xs.length*n) (off:=off) (k:=rr.n) hvl hfit (by simpa using hrow)
    rw [hlen]
    show OEls _ _ _ _ (((cs'.toList.take (o+off)++v.cells.toList++cs'.toList.drop (o+off+rr.n)).drop o).take (xs.length*n)) _
    rw [← hpn,← hrn] at hr2
    rw [e3,← hys]
    exact hr2.2
  · rintro (h | h)
    · exact hGb b h rfl
    · exact hnb (ks.r h)
end
end Lift
