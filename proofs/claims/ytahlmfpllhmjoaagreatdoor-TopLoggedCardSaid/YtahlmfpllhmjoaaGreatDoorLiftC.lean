import Derived.Test.YtahlmfpllhmjoaaGreatDoorLiftB
set_option linter.unusedVariables false
set_option linter.unusedSimpArgs false
namespace Lift
open Go
abbrev Blks:=Nat→Prop
structure Rep (α:Type) where
  n:Nat
  agg:Bool
  rel:Blks→World→List Value→α→Prop
  len:∀ {S w cs x},rel S w cs x→cs.length=n
  one:∀ {S w cs x},rel S w cs x→∀ c∈cs,c.oneCell'=true
  stab:∀ {S S':Blks} {w w':World} {cs:List Value} {x:α},(∀ b,S b→S' b)→(∀ b,S b→w'.heap[b]?=w.heap[b]?)→rel S w cs x→rel S' w' cs x
def Rep.val {α:Type} (r:Rep α) (S:Blks) (w:World) (v:Value) (x:α):Prop :=
  match r.agg with
  | true=>∃ cs:List Value,v=.agg cs.toArray∧r.rel S w cs x
  | false=>r.rel S w [v] x
theorem Qsl {v:Value} (h:v.oneCell'=true):v.cells.toList=[v]:=by
  cases v<;>first | rfl | (simp [Value.oneCell'] at h)
theorem Rep.val_cells {α:Type} {r:Rep α} {S:Blks} {w:World} {v:Value} {x:α} (h:r.val S w v x):r.rel S w v.cells.toList x:=by
  unfold Rep.val at h
  split at h
  · obtain ⟨cs,rfl,h⟩:=h;simpa [Value.cells] using h
  · rw [Qsl (r.one h v (by simp))];exact h
def Rep.pack {α:Type} (r:Rep α) (cs:List Value):Value:=match r.agg with | true=>.agg cs.toArray | false=>cs.headD undef
theorem Rep.val_pack {α:Type} {r:Rep α} {S:Blks} {w:World} {cs:List Value} {x:α} (h1:r.agg=false→r.n=1) (h:r.rel S w cs x):r.val S w (r.pack cs) x:=by
  unfold Rep.val Rep.pack
  cases hr:r.agg
  · have hl:=r.len h
    rw [h1 hr] at hl
    match cs,hl with
    | [c],_=>exact h
  · exact ⟨cs,rfl,h⟩
theorem Rep.val_stab {α:Type} {r:Rep α} {S S':Blks} {w w':World} {v:Value} {x:α} (h1:∀ b,S b→S' b) (h2:∀ b,S b→w'.heap[b]?=w.heap[b]?) (h:r.val S w v x):r.val S' w' v x:=by
  unfold Rep.val at h ⊢
  split at h
  · obtain ⟨cs,e,h⟩:=h;exact ⟨cs,e,r.stab h1 h2 h⟩
  · exact r.stab h1 h2 h
def Rep.int (q:IntKind):Rep Int where
  n:=1
  agg:=false
  rel:=λ _ _ cs x=>cs=[.int q x]
  len:=by intro _ _ _ _ h;rw [h];rfl
  one:=by intro _ _ _ _ h c hc;rw [h] at hc;simp at hc;subst hc;rfl
  stab:=by intro _ _ _ _ _ _ _ _ h;exact h
def Rep.bool:Rep Bool where
  n:=1
  agg:=false
  rel:=λ _ _ cs x=>cs=[.bool x]
  len:=by intro _ _ _ _ h;rw [h];rfl
  one:=by intro _ _ _ _ h c hc;rw [h] at hc;simp at hc;subst hc;rfl
  stab:=by intro _ _ _ _ _ _ _ _ h;exact h
def strOf (s:ByteArray):List Int:=s.data.toList.map λ b=>(b.toNat:Int)
def Rep.str:Rep (List Int) where
  n:=1
  agg:=false
  rel:=λ _ _ cs x=>∃ s,cs=[.string s]∧x=strOf s
  len:=by intro _ _ _ _ h;obtain ⟨s,rfl,_⟩:=h;rfl
  one:=by intro _ _ _ _ h c hc;obtain ⟨s,rfl,_⟩:=h;simp at hc;subst hc;rfl
  stab:=by intro _ _ _ _ _ _ _ _ h;exact h
def cellsAt (w:World) (b o:Nat) (cs:List Value):Prop:=∀ j v,cs[j]?=some v→w.cell? ⟨b,o+j,none⟩=some v
def Elems {α:Type} (r:Rep α) (S:Blks) (w:World):List Value→List α→Prop
  | cs,[]=>cs=[]
  | cs,x::l=>∃ c rest,cs=c++rest∧r.rel S w c x∧Elems r S w rest l
theorem Elems.len {α:Type} {r:Rep α} {S:Blks} {w:World}:∀ {l:List α} {cs:List Value},Elems r S w cs l→cs.length=l.length*r.n
  | [],cs,h=>by simp only [Elems] at h;simp [h]
  | x::l,cs,h=>by
    obtain ⟨c,rest,rfl,h1,h2⟩:=h
    rw [List.length_append,r.len h1,Elems.len h2,List.length_cons,Nat.add_mul];omega
theorem Elems.one {α:Type} {r:Rep α} {S:Blks} {w:World}:∀ {l:List α} {cs:List Value},Elems r S w cs l→∀ c∈cs,c.oneCell'=true
  | [],cs,h,c,hc=>by simp only [Elems] at h;simp [h] at hc
  | x::l,cs,h,c,hc=>by
    obtain ⟨c1,rest,rfl,h1,h2⟩:=h
    rcases List.mem_append.1 hc with hc | hc
    · exact r.one h1 c hc
    · exact Elems.one h2 c hc
theorem Elems.stab {α:Type} {r:Rep α} {S S':Blks} {w w':World} (a:∀ b,S b→S' b) (k:∀ b,S b→w'.heap[b]?=w.heap[b]?) :
    ∀ {l:List α} {cs:List Value},Elems r S w cs l→Elems r S' w' cs l
  | [],cs,h=>h
  | x::l,cs,h=>by
    obtain ⟨c,rest,e,h1,h2⟩:=h
    exact ⟨c,rest,e,r.stab a k h1,Elems.stab a k h2⟩
theorem Elems.append {α:Type} {r:Rep α} {S:Blks} {w:World} {l2:List α} {c2:List Value} (h2:Elems r S w c2 l2) :
    ∀ {l1:List α} {c1:List Value},Elems r S w c1 l1→Elems r S w (c1++c2) (l1++l2)
  | [],c1,h1=>by simp only [Elems] at h1;subst h1;exact h2
  | x::l1,c1,h1=>by
    obtain ⟨c,rest,rfl,h3,h4⟩:=h1
    exact ⟨c,rest++c2,by simp,h3,Elems.append h2 h4⟩
theorem Elems.at {α:Type} {r:Rep α} {S:Blks} {w:World}:∀ {l:List α} {cs:List Value} {i:Nat} {x:α},Elems r S w cs l→l[i]?=some x →
    ∃ p c q,cs=p++c++q∧p.length=i*r.n∧r.rel S w c x
  | [],cs,i,x,_,hi=>by simp at hi
  | y::l,cs,0,x,h,hi=>by
    obtain ⟨c,rest,rfl,h1,h2⟩:=h
    simp at hi;subst hi
    exact ⟨[],c,rest,by simp,by simp,h1⟩
  | y::l,cs,i+1,x,h,hi=>by
    obtain ⟨c,rest,rfl,h1,h2⟩:=h
    obtain ⟨p,c',q,rfl,hp,hc⟩:=Elems.at h2 (by simpa using hi)
    exact ⟨c++p,c',q,by simp,by rw [List.length_append,r.len h1,hp,Nat.add_mul];omega,hc⟩
theorem Elems.set {α:Type} {r:Rep α} {S:Blks} {w:World} {c':List Value} {y:α} (hy:r.rel S w c' y):∀ {l:List α} {cs:List Value} {i:Nat},Elems r S w cs l→i<l.length →
    Elems r S w (cs.take (i*r.n)++c'++cs.drop (i*r.n+r.n)) (l.set i y)
  | [],cs,i,_,hi=>by simp at hi
  | x::l,cs,0,h,_=>by
    obtain ⟨c,rest,rfl,h1,h2⟩:=h
    refine ⟨c',rest,?_,hy,h2⟩
    have:=r.len h1
    simp [← this]
  | x::l,cs,i+1,h,hi=>by
    obtain ⟨c,rest,rfl,h1,h2⟩:=h
    refine ⟨c,_,?_,h1,Elems.set hy h2 (by simpa using hi)⟩
    have hl:=r.len h1
    have e1:(i+1)*r.n=c.length+i*r.n:=by rw [Nat.add_mul,hl];omega
    have e2:c.length+i*r.n+r.n=c.length+(i*r.n+r.n):=by omega
    rw [e1,e2,List.take_length_add_append,List.drop_length_add_append]
    simp
theorem Elems.take {α:Type} {r:Rep α} {S:Blks} {w:World}:∀ {l:List α} {cs:List Value} (i:Nat),Elems r S w cs l→Elems r S w (cs.take (i*r.n)) (l.take i)
  | [],cs,i,h=>by simp only [Elems] at h;subst h;simp [Elems]
  | x::l,cs,0,h=>by simp [Elems]
  | x::l,cs,i+1,h=>by
    obtain ⟨c,rest,rfl,h1,h2⟩:=h
    have hl:=r.len h1
    have e1:(i+1)*r.n=c.length+i*r.n:=by rw [Nat.add_mul,hl];omega
    rw [e1,List.take_length_add_append]
    exact ⟨c,_,rfl,h1,Elems.take i h2⟩
theorem Elems.drop {α:Type} {r:Rep α} {S:Blks} {w:World}:∀ {l:List α} {cs:List Value} (i:Nat),Elems r S w cs l→Elems r S w (cs.drop (i*r.n)) (l.drop i)
  | [],cs,i,h=>by simp only [Elems] at h;subst h;simp [Elems]
  | x::l,cs,0,h=>by simpa using h
  | x::l,cs,i+1,h=>by
    obtain ⟨c,rest,rfl,h1,h2⟩:=h
    have hl:=r.len h1
    have e1:(i+1)*r.n=c.length+i*r.n:=by rw [Nat.add_mul,hl];omega
    rw [e1,List.drop_length_add_append]
    exact Elems.drop i h2
theorem cellsAt.stab {w w':World} {b o:Nat} {cs:List Value} (h:w'.heap[b]?=w.heap[b]?) (k:cellsAt w b o cs):cellsAt w' b o cs:=by
  intro j v hj
  have:=k j v hj
  simpa [World.cell?,h] using this
theorem cellsAt.mid {w:World} {b o:Nat} {p c q:List Value} (k:cellsAt w b o (p++c++q)):cellsAt w b (o+p.length) c:=by
  intro j v hj
  have hlt:j<c.length:=(List.getElem?_eq_some_iff.1 hj).1
  have:=k (p.length+j) v (by rw [List.append_assoc,List.getElem?_append_right (by omega)];simp [List.getElem?_append,hlt,(List.getElem?_eq_some_iff.1 hj).2])
  simpa [Nat.add_assoc] using this
def Rep.slice {α:Type} (r:Rep α):Rep (List α) where
  n:=1
  agg:=false
  rel:=λ S w cs l=>∃ p cap,cs=[.slice p l.length cap]∧l.length≤cap∧cap≤maxLen ∧
    (l≠[]→∃ b o cells,p=some ⟨b,o,none⟩∧S b∧cellsAt w b o cells∧Elems r S w cells l)
  len:=by intro _ _ _ _ h;obtain ⟨p,cap,rfl,_⟩:=h;rfl
  one:=by intro _ _ _ _ h c hc;obtain ⟨p,cap,rfl,_⟩:=h;simp at hc;subst hc;rfl
  stab:=by
    intro S S' w w' cs l a k h
    obtain ⟨p,cap,e,h1,h2,h3⟩:=h
    refine ⟨p,cap,e,h1,h2,λ hl=>?_⟩
    obtain ⟨b,o,cells,hp,hb,hc,he⟩:=h3 hl
    exact ⟨b,o,cells,hp,a b hb,hc.stab (k b hb),he.stab a k⟩
def Rep.arr {α:Type} (m:Nat) (r:Rep α):Rep (List α) where
  n:=m*r.n
  agg:=true
  rel:=λ S w cs l=>l.length=m∧Elems r S w cs l
  len:=by intro _ _ _ _ h;rw [h.2.len,h.1]
  one:=by intro _ _ _ _ h;exact h.2.one
  stab:=by intro _ _ _ _ _ _ a k h;exact ⟨h.1,h.2.stab a k⟩
def Rep.unit:Rep Unit where
  n:=0
  agg:=true
  rel:=λ _ _ cs _=>cs=[]
  len:=by intro _ _ _ _ h;rw [h];rfl
  one:=by intro _ _ _ _ h c hc;rw [h] at hc;cases hc
  stab:=by intro _ _ _ _ _ _ _ _ h;exact h
def Rep.prod {α β:Type} (r:Rep α) (s:Rep β):Rep (α×β) where
  n:=r.n+s.n
  agg:=true
  rel:=λ S w cs x=>∃ c d,cs=c++d∧r.rel S w c x.1∧s.rel S w d x.2
  len:=by intro _ _ _ _ h;obtain ⟨c,d,rfl,h1,h2⟩:=h;rw [List.length_append,r.len h1,s.len h2]
  one:=by
    intro _ _ _ _ h c hc;obtain ⟨c',d,rfl,h1,h2⟩:=h
    rcases List.mem_append.1 hc with hc | hc
    · exact r.one h1 c hc
    · exact s.one h2 c hc
  stab:=by intro _ _ _ _ _ _ a k h;obtain ⟨c,d,e,h1,h2⟩:=h;exact ⟨c,d,e,r.stab a k h1,s.stab a k h2⟩
def Rep.iso {α β:Type} (f:β→α) (r:Rep α):Rep β where
  n:=r.n
  agg:=true
  rel:=λ S w cs y=>r.rel S w cs (f y)
  len:=r.len
  one:=r.one
  stab:=r.stab
structure Fld {α β:Type} (r:Rep α) (off:Nat) (fr:Rep β) (get:α→β) (set:α→β→α):Prop where
  fit:off+fr.n≤r.n
  get:∀ {S w cs x},r.rel S w cs x→fr.rel S w ((cs.drop off).take fr.n) (get x)
  set:∀ {S w cs x c y},r.rel S w cs x→fr.rel S w c y→r.rel S w (cs.take off++c++cs.drop (off+fr.n)) (set x y)
theorem Fld.here {α β:Type} {r:Rep α} {s:Rep β}:Fld (r.prod s) 0 r Prod.fst (λ p y=>(y,p.2)) where
  fit:=by simp [Rep.prod]
  get:=by
    intro S w cs x h;obtain ⟨c,d,rfl,h1,h2⟩:=h
    have:=r.len h1;simpa [← this] using h1
  set:=by
    intro S w cs x c' y h hy;obtain ⟨c,d,rfl,h1,h2⟩:=h
    have:=r.len h1
    exact ⟨c',d,by simp [← this],hy,h2⟩
theorem Fld.there {α β γ:Type} {r:Rep α} {s:Rep β} {fr:Rep γ} {off:Nat} {g:β→γ} {st:β→γ→β} (h:Fld s off fr g st) :
    Fld (r.prod s) (r.n+off) fr (λ p=>g p.2) (λ p y=>(p.1,st p.2 y)) where
  fit:=by have:=h.fit;simp [Rep.prod];omega
  get:=by
    intro S w cs x hx;obtain ⟨c,d,rfl,h1,h2⟩:=hx
    have:=r.len h1
    rw [← this,List.drop_length_add_append];exact h.get h2
  set:=by
    intro S w cs x c' y hx hy;obtain ⟨c,d,rfl,h1,h2⟩:=hx
    have:=r.len h1
    refine ⟨c,_,?_,h1,h.set h2 hy⟩
    rw [← this,Nat.add_assoc,List.take_length_add_append,List.drop_length_add_append];simp
theorem Fld.iso {α β γ:Type} {r:Rep α} {fr:Rep γ} {off:Nat} {g:α→γ} {st:α→γ→α} (f:β→α) {g':β→γ} {st':β→γ→β} (h:Fld r off fr g st)
    (hg:∀ b,g (f b)=g' b) (hs:∀ b y,st (f b) y=f (st' b y)):Fld (r.iso f) off fr g' st' where
  fit:=h.fit
  get:=by intro S w cs x hx;rw [← hg];exact h.get hx
  set:=by intro S w cs x c y hx hy;show r.rel S w _ (f (st' x y));rw [← hs];exact h.set hx hy
def Zr {α:Type} (r:Rep α) (z:List Value) (x:α):Prop:=∀ S w,r.rel S w z x
theorem Zr.int (q:IntKind) (n:Int):Zr (.int q) [.int q n] n:=λ _ _=>rfl
theorem Zr.bool (b:Bool):Zr .bool [.bool b] b:=λ _ _=>rfl
theorem Zr.str:Zr .str [.string ⟨#[]⟩] []:=λ _ _=>⟨⟨#[]⟩,rfl,rfl⟩
theorem Zr.slice {α:Type} (r:Rep α):Zr r.slice [.slice none 0 0] []:=λ _ _=>⟨none,0,rfl,Nat.le_refl _,Nat.zero_le _,λ h=>absurd rfl h⟩
theorem Zr.unit:Zr .unit [] ():=λ _ _=>rfl
theorem Zr.prod {α β:Type} {r:Rep α} {s:Rep β} {c d:List Value} {x:α} {y:β} (h:Zr r c x) (k:Zr s d y):Zr (r.prod s) (c++d) (x,y):=λ S w=>⟨c,d,rfl,h S w,k S w⟩
theorem Zr.iso {α β:Type} {r:Rep α} {c:List Value} (f:β→α) {y:β} (h:Zr r c (f y)):Zr (r.iso f) c y:=h
theorem Zr.elems {α:Type} {r:Rep α} {z:List Value} {x:α} (h:Zr r z x) (S:Blks) (w:World):∀ m:Nat,Elems r S w (List.replicate m z).flatten (List.replicate m x)
  | 0=>by simp [Elems]
  | m+1=>by rw [List.replicate_succ,List.replicate_succ,List.flatten_cons];exact ⟨z,_,rfl,h S w,Zr.elems h S w m⟩
theorem Zr.arr {α:Type} {r:Rep α} {z:List Value} {x:α} (h:Zr r z x) (m:Nat):Zr (r.arr m) (List.replicate m z).flatten (List.replicate m x):=λ S w=>⟨by simp,h.elems S w m⟩
theorem Zr.of {α:Type} {r:Rep α} {z z':List Value} {x:α} (h:Zr r z x) (e:z=z'):Zr r z' x:=e ▸ h
structure Atom where
  p:Blks→World→Prop
  st:∀ {S S':Blks} {w w':World},(∀ b,S b→S' b)→(∀ b,S b→w'.heap[b]?=w.heap[b]?)→p S w→p S' w'
def Atom.val {α:Type} (r:Rep α) (v:Value) (x:α):Atom:=⟨λ S w=>r.val S w v x,λ a k h=>r.val_stab a k h⟩
def Atom.ptr {α:Type} (r:Rep α) (v:Value) (x:α):Atom where
  p:=λ S w=>∃ b o cs,v=.pointer (some ⟨b,o,none⟩)∧S b∧cellsAt w b o cs∧r.rel S w cs x
  st:=by intro S S' w w' a k ⟨b,o,cs,e,hb,hc,hr⟩;exact ⟨b,o,cs,e,a b hb,hc.stab (k b hb),r.stab a k hr⟩
structure HAtom where
  p:Blks→Blks→World→Prop
  st:∀ {G S S':Blks} {w w':World},(∀ b,S b→S' b)→(∀ b,S b→w'.heap[b]?=w.heap[b]?)→(∀ b,G b→w'.heap[b]?=w.heap[b]?)→p G S w→p G S' w'
def HAtom.box {α:Type} (T:TypeId) (r:Rep α) (v:Value) (x:α):HAtom where
  p:=λ G S w=>∃ g cs,v=.pointer (some ⟨g,0,none⟩)∧(∀ b,G b↔b=g)∧w.heap[g]?=some (.cells cs.toArray T (0,0))∧r.rel S w cs x
  st:=by
    intro G S S' w w' a k kg ⟨g,cs,e,hG,hh,hr⟩
    exact ⟨g,cs,e,hG,by rw [kg g ((hG g).2 rfl)];exact hh,r.stab a k hr⟩
def HAtom.slice {α:Type} (e:TypeId) (r:Rep α) (v:Value) (l:List α):HAtom where
  p:=λ G S w=>∃ xs,w.ownsRow 0 e r.n v l.length xs∧Elems r S w xs l∧(∀ b,G b↔v.ownBlock=some b)
  st:=by
    intro G S S' w w' a k kg ⟨xs,ho,he,hG⟩
    refine ⟨xs,⟨ho.1,?_⟩,he.stab a k,hG⟩
    rcases ho.2 with h | ⟨g,cap,cur,rfl,hb,hg,r1⟩
    · exact .inl h
    · exact .inr ⟨g,cap,cur,rfl,hb,by rw [kg g ((hG g).2 rfl)];exact hg,r1⟩
def fl (f:Bool) (B:Nat) (S:Blks):Blks:=λ b=>S b∧(f=true→B≤b)
theorem fl.mono {f:Bool} {B:Nat} {S S':Blks} (h:∀ b,S b→S' b):∀ b,fl f B S b→fl f B S' b:=λ b ⟨h1,h2⟩=>⟨h b h1,h2⟩
def Sat (B:Nat) (S:Blks) (w:World):List (Bool×Atom)→Prop
  | []=>True
  | (f,a)::r=>a.p (fl f B S) w∧Sat B S w r
def OSat (B:Nat) (S:Blks) (w:World):List (Bool×HAtom)→Blks→Prop
  | [],G=>∀ b,¬ G b
  | (f,h)::r,G=>∃ G1 G2,(∀ b,G b↔G1 b∨G2 b)∧(∀ b,G1 b→¬ G2 b)∧(∀ b,f=true→G1 b→B≤b)∧h.p G1 (fl f B S) w∧OSat B S w r G2
theorem Sat.st {B:Nat} {S S':Blks} {w w':World} (a:∀ b,S b→S' b) (k:∀ b,S b→w'.heap[b]?=w.heap[b]?):∀ {Γ:List (Bool×Atom)},Sat B S w Γ→Sat B S' w' Γ
  | [],_=>trivial
  | (f,x)::_,⟨h1,h2⟩=>⟨x.st (fl.mono a) (λ b hb=>k b hb.1) h1,Sat.st a k h2⟩
theorem OSat.st {B:Nat} {S S':Blks} {w w':World} (a:∀ b,S b→S' b) (k:∀ b,S b→w'.heap[b]?=w.heap[b]?) :
    ∀ {Ω:List (Bool×HAtom)} {G:Blks},(∀ b,G b→w'.heap[b]?=w.heap[b]?)→OSat B S w Ω G→OSat B S' w' Ω G
  | [],G,_,h=>h
  | (f,x)::_,G,kg,⟨G1,G2,h1,h2,h3,h4,h5⟩ =>
    ⟨G1,G2,h1,h2,h3,x.st (fl.mono a) (λ b hb=>k b hb.1) (λ b hb=>kg b ((h1 b).2 (.inl hb))) h4,OSat.st a k (λ b hb=>kg b ((h1 b).2 (.inr hb))) h5⟩
structure Step (G:Blks) (w w':World):Prop where
  os:w'.os=w.os
  tape:w'.tape=w.tape
  output:w'.output=w.output
  size:w.heap.size≤w'.heap.size
  block:∀ b,b<w.heap.size→¬ G b→w'.heap[b]?=w.heap[b]?
theorem Step.refl (G:Blks) (w:World):Step G w w:=⟨rfl,rfl,rfl,Nat.le_refl _,λ _ _ _=>rfl⟩
structure En where
  w:World
  S:Blks
  G:Blks
structure Inv (e:En) (S G:Blks) (w:World):Prop where
  step:Step e.G e.w w
  sb:∀ b,S b→b<w.heap.size
  gb:∀ b,G b→b<w.heap.size
  dis:∀ b,S b→¬ G b
  s0:∀ b,S b→e.S b∨(e.G b∨e.w.heap.size≤b)
  g0:∀ b,G b→e.G b∨e.w.heap.size≤b
def St (e:En) (w:World) (Γ:List (Bool×Atom)) (Ω:List (Bool×HAtom)):Prop :=
  ∃ S G,Inv e S G w∧Sat e.w.heap.size S w Γ∧OSat e.w.heap.size S w Ω G
inductive At {α:Type}:List α→α→Prop
  | z {a:α} {l:List α}:At (a::l) a
  | s {a b:α} {l:List α}:At l a→At (b::l) a
inductive Pick {α:Type}:List α→α→List α→Prop
  | z {a:α} {l:List α}:Pick (a::l) a l
  | s {a b:α} {l r:List α}:Pick l a r→Pick (b::l) a (b::r)
theorem Sat.at {B:Nat} {S:Blks} {w:World} {Γ:List (Bool×Atom)} {x:Bool×Atom} (h:At Γ x) (k:Sat B S w Γ):x.2.p (fl x.1 B S) w:=by
  induction h with
  | z=>exact k.1
  | s _ ih=>exact ih k.2
theorem OSat.pick {B : Nat} {S : Blks} {w : World} {Ω Ω' : List (Bool × HAtom)} {x : Bool × HAtom} (h : Pick Ω x Ω') : ∀ {G : Blks}, OSat B S w Ω G → OSat B S w (x :: Ω') G := by
  induction h with
  | z=>exact λ k=>k
  | @s a b l r _ ih =>
    rintro G ⟨G1,G2,h1,h2,h3,h4,h5⟩
    obtain ⟨K1,K2,k1,k2,k3,k4,k5⟩:=ih h5
    refine ⟨K1,λ c=>G1 c∨K2 c,λ c=>?_,λ c hc=>?_,k3,k4,G1,K2,λ _=>Iff.rfl,λ c hc hk=>?_,h3,h4,k5⟩
    · rw [h1,k1];constructor<;>intro h<;>rcases h with h | h | h<;>simp_all
    · rintro (h | h)
      · exact h2 c h ((k1 c).2 (.inl hc))
      · exact k2 c hc h
    · exact h2 c hc ((k1 c).2 (.inr hk))
theorem St.pick {e : En} {w : World} {Γ : List (Bool × Atom)} {Ω Ω' : List (Bool × HAtom)} {x : Bool × HAtom} (h : Pick Ω x Ω') (k : St e w Γ Ω) : St e w Γ (x :: Ω') :=
  let ⟨S,G,i,s,o⟩:=k;⟨S,G,i,s,o.pick h⟩
def V {α:Type} (B:Nat) (Γ:List (Bool×Atom)) (f:Bool) (r:Rep α) (v:Value) (x:α):Prop :=
  ∀ S w,Sat B S w Γ→r.val (fl f B S) w v x
theorem V.at {α:Type} {B:Nat} {Γ:List (Bool×Atom)} {f:Bool} {r:Rep α} {v:Value} {x:α} (h:At Γ (f,.val r v x)):V B Γ f r v x:=λ _ _ k=>k.at h
theorem V.weak {α:Type} {B:Nat} {Γ:List (Bool×Atom)} {f:Bool} {r:Rep α} {v:Value} {x:α} (h:V B Γ f r v x):V B Γ false r v x :=
  λ S w k=>r.val_stab (λ b hb=>⟨hb.1,λ h=>by cases h⟩) (λ _ _=>rfl) (h S w k)
theorem V.int {B:Nat} {Γ:List (Bool×Atom)} {f:Bool} {q:IntKind} {n:Int}:V B Γ f (.int q) (.int q n) n:=λ _ _ _=>rfl
theorem V.bool {B:Nat} {Γ:List (Bool×Atom)} {f:Bool} {b:Bool}:V B Γ f .bool (.bool b) b:=λ _ _ _=>rfl
theorem V.str {B:Nat} {Γ:List (Bool×Atom)} {f:Bool} {s:ByteArray}:V B Γ f .str (.string s) (strOf s):=λ _ _ _=>⟨s,rfl,rfl⟩
theorem V.nil {α:Type} {B:Nat} {Γ:List (Bool×Atom)} {f:Bool} {r:Rep α}:V B Γ f r.slice (.slice none 0 0) []:=λ S w _=>Zr.slice r _ w
end Lift
