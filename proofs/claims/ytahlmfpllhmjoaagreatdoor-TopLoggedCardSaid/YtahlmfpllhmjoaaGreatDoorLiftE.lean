import Derived.Test.YtahlmfpllhmjoaaGreatDoorLiftD
import Derived.Laws.MakeOwn
set_option linter.unusedVariables false
set_option linter.unusedSimpArgs false
namespace Lift
open Go
def idx {α:Type} (l:List α) (i:Int):Option α:=if 0≤i then l[i.toNat]? else none
theorem Qfe {α:Type} {l:List α} {i:Int} {x:α} (h:idx l i=some x):0≤i∧i<l.length∧l[i.toNat]?=some x:=by
  unfold idx at h
  split at h
  · have:=(List.getElem?_eq_some_iff.1 h).1
    exact ⟨by assumption,by omega,h⟩
  · cases h
def sub {α:Type} (l:List α) (a b:Int):Option (List α):=if 0≤a∧a≤b∧b≤l.length then some ((l.drop a.toNat).take (b.toNat-a.toNat)) else none
theorem Qpb {α:Type} {l l':List α} {a b:Int} (h:sub l a b=some l'):0≤a∧a≤b∧b≤l.length∧l'=(l.drop a.toNat).take (b.toNat-a.toNat):=by
  unfold sub at h
  split at h
  · rename_i hh;cases h;exact ⟨hh.1,hh.2.1,hh.2.2,rfl⟩
  · cases h
def app {α:Type} (b:Nat) (l m:List α):Option (List α):=if (l.length+m.length)*b≤140737488355328 then some (l++m) else none
theorem Qwm {α:Type} {b:Nat} {l m x:List α} (h:app b l m=some x):(l.length+m.length)*b≤140737488355328∧x=l++m:=by
  unfold app at h
  split at h
  · cases h;exact ⟨by assumption,rfl⟩
  · cases h
def mk {α:Type} (b:Nat) (x:α) (n:Int):Option (List α):=if 0≤n∧n.toNat*b≤140737488355328 then some (List.replicate n.toNat x) else none
theorem Qsy {α:Type} {b:Nat} {x:α} {n:Int} {l:List α} (h:mk b x n=some l):0≤n∧n.toNat*b≤140737488355328∧l=List.replicate n.toNat x:=by
  unfold mk at h
  split at h
  · rename_i hh;cases h;exact ⟨hh.1,hh.2,rfl⟩
  · cases h
def upd {α:Type} (l:List α) (i:Int) (x:α):List α:=l.set i.toNat x
def Get {α β:Type} (r:Rep α) (off:Nat) (fr:Rep β) (x:α) (y:β):Prop :=
  ∀ {S w cs},r.rel S w cs x→off+fr.n≤r.n∧fr.rel S w ((cs.drop off).take fr.n) y
def Put {α β:Type} (r:Rep α) (off:Nat) (fr:Rep β) (x:α) (y:β) (x':α):Prop :=
  ∀ {S w cs c},r.rel S w cs x→fr.rel S w c y→off+fr.n≤r.n∧r.rel S w (cs.take off++c++cs.drop (off+fr.n)) x'
theorem Get.fld {α β:Type} {r:Rep α} {off:Nat} {fr:Rep β} {get:α→β} {set:α→β→α} (h:Fld r off fr get set) {x:α}:Get r off fr x (get x):=λ hr=>⟨h.fit,h.get hr⟩
theorem Put.fld {α β:Type} {r:Rep α} {off:Nat} {fr:Rep β} {get:α→β} {set:α→β→α} (h:Fld r off fr get set) {x:α} {y:β}:Put r off fr x y (set x y):=λ hr hy=>⟨h.fit,h.set hr hy⟩
theorem Get.id {α:Type} {r:Rep α} {x:α}:Get r 0 r x x:=λ hr=>⟨by omega,by have:=r.len hr;simp [← this];exact hr⟩
theorem Put.id {α:Type} {r:Rep α} {x y:α}:Put r 0 r x y y:=λ hr hy=>⟨by omega,by have:=r.len hr;simp [← this];exact hy⟩
theorem Get.comp {α β γ:Type} {r:Rep α} {s:Rep β} {fr:Rep γ} {o o2:Nat} {x:α} {y:β} {z:γ} (h:Get r o s x y) (h2:Get s o2 fr y z):Get r (o+o2) fr x z:=by
  intro S w cs hr
  obtain ⟨f1,a1⟩:=h hr
  obtain ⟨f2,a2⟩:=h2 a1
  refine ⟨by omega,?_⟩
  rw [List.drop_take,List.take_take,List.drop_drop] at a2
  have e:min fr.n (s.n-o2)=fr.n:=by omega
  rw [e] at a2;exact a2
theorem Put.comp {α β γ:Type} {r:Rep α} {s:Rep β} {fr:Rep γ} {o o2:Nat} {x x':α} {y y':β} {z:γ} (h:Get r o s x y) (h2:Put s o2 fr y z y') (h3:Put r o s x y' x'):Put r (o+o2) fr x z x':=by
  intro S w cs c hr hz
  obtain ⟨f1,a1⟩:=h hr
  obtain ⟨f2,a2⟩:=h2 a1 hz
  obtain ⟨_,a3⟩:=h3 hr a2
  refine ⟨by omega,?_⟩
  have hl:=r.len hr
  have e:cs.take o++((((cs.drop o).take s.n).take o2++c)++((cs.drop o).take s.n).drop (o2+fr.n))++cs.drop (o+s.n)=cs.take (o+o2)++c++cs.drop (o+o2+fr.n):=by
    have e1:cs.take (o+o2)=cs.take o++(cs.drop o).take o2:=by rw [List.take_add]
    have e2:((cs.drop o).take s.n).take o2=(cs.drop o).take o2:=by rw [List.take_take];congr 1;omega
    have e3:cs.drop (o+o2+fr.n)=((cs.drop o).take s.n).drop (o2+fr.n)++cs.drop (o+s.n):=by
      have:cs.drop (o+o2+fr.n)=(cs.drop o).drop (o2+fr.n):=by rw [List.drop_drop];congr 1;omega
      rw [this]
      have h4:cs.drop o=(cs.drop o).take s.n++(cs.drop o).drop s.n:=(List.take_append_drop _ _).symm
      have h5:(cs.drop o).drop s.n=cs.drop (o+s.n):=by rw [List.drop_drop]
      rw [h5] at h4
      have h6:((cs.drop o).take s.n).length=s.n:=by simp;omega
      conv=>lhs;rw [h4]
      rw [List.drop_append_of_le_length (by omega)]
    rw [e1,e2,e3];simp
  rw [← e];exact a3
theorem Get.arr {α:Type} {m:Nat} {r:Rep α} {l:List α} {i:Int} {y:α} (h:idx l i=some y):Get (r.arr m) (i.toNat*r.n) r l y:=by
  intro S w cs ⟨hl,he⟩
  obtain ⟨h0,h1,hi⟩:=Qfe h
  obtain ⟨p,c,q,rfl,hp,hc⟩:=he.at hi
  refine ⟨?_,?_⟩
  · have:i.toNat+1≤m:=by omega
    have:=Nat.mul_le_mul_right r.n this
    simp only [Rep.arr];rw [Nat.add_mul] at this;omega
  · have hcl:=r.len hc
    rw [List.append_assoc,← hp,List.drop_left,← hcl,List.take_left];exact hc
theorem Put.arr {α:Type} {m:Nat} {r:Rep α} {l:List α} {i:Int} {x y:α} (h:idx l i=some x):Put (r.arr m) (i.toNat*r.n) r l y (upd l i y):=by
  intro S w cs c ⟨hl,he⟩ hy
  obtain ⟨h0,h1,hi⟩:=Qfe h
  refine ⟨?_,by simp [upd,hl],Elems.set hy he (by omega)⟩
  have:i.toNat+1≤m:=by omega
  have:=Nat.mul_le_mul_right r.n this
  simp only [Rep.arr];rw [Nat.add_mul] at this;omega
theorem Qkb {β:Type} {cs c:List β} {off m:Nat} (h:off+c.length≤m) (hm:m≤cs.length) :
    (cs.take off++c++cs.drop (off+c.length)).take m=(cs.take m).take off++c++(cs.take m).drop (off+c.length):=by
  have e1:(cs.take off++c).length=off+c.length:=by simp;omega
  rw [List.take_append,List.take_of_length_le (by omega),e1,List.take_take,List.drop_take]
  congr 3
  omega
def PA (q:Value) (off:Nat) (qv:Value):Prop:=∀ a,q=.pointer (some a)→qv=.pointer (some (a.add off))
theorem PA.z {q:Value}:PA q 0 q:=by intro a h;rw [h];rfl
theorem PA.a {q:Value} {n:Nat}:PA q n (padd q n):=by intro a h;rw [h];rfl
theorem Qle {w:World} {g:Nat} {cs:List Value} {T:TypeId} {fz:Nat×Nat} (hg:w.heap[g]?=some (.cells cs.toArray T fz)) (o n:Nat):cellsAt w g o ((cs.drop o).take n):=by
  intro j v hj
  rw [cell_of_row w g (o+j) cs.toArray T fz hg]
  rw [List.getElem?_take] at hj
  split at hj
  · simpa [List.getElem?_drop] using hj
  · cases hj
theorem Qsr {w:World} {g:Nat} {cur:Array Value} {xs:List Value} {T:TypeId} {fz:Nat×Nat} (hg:w.heap[g]?=some (.cells cur T fz)) (hx:cur.toList.take xs.length=xs) (o n:Nat):cellsAt w g o ((xs.drop o).take n):=by
  intro j v hj
  rw [cell_of_row w g (o+j) cur T fz hg]
  rw [List.getElem?_take] at hj
  split at hj
  · rw [List.getElem?_drop,← hx,List.getElem?_take] at hj
    split at hj
    · simpa using hj
    · cases hj
  · cases hj
section
variable {C:Cx} {L:List (Nat×Value)} {w:World} {ops:Array Oper} {Z:List (Nat×Value)→World→Prop} {d:Nat} {t T:TypeId} {p:String} {af:Array Edge} {g:Option (Nat×Bool)}
variable {e : En} {Γ : List (Bool × Atom)} {Ω Ω' : List (Bool × HAtom)} {f : Bool} {α β : Type} {r : Rep α} {fr : Rep β} {x : α} {y : β}
theorem St.int_eq {u:Value} {q:IntKind} {n:Int} (h:St e w ((f,.val (.int q) u n)::Γ) Ω):u=.int q n:=by
  obtain ⟨_,_,_,hs,_⟩:=h;have:=hs.1;simpa [Atom.val,Rep.val,Rep.int] using this
theorem St.bool_eq {u:Value} {n:Bool} (h:St e w ((f,.val .bool u n)::Γ) Ω):u=.bool n:=by
  obtain ⟨_,_,_,hs,_⟩:=h;have:=hs.1;simpa [Atom.val,Rep.val,Rep.bool] using this
theorem Qlv {ρ:Operand→Value} {P:Program} {o:Oper} {a:Operand} {b i:Nat} {v:Value} (ho:o.op=.load T a) (ha:ρ a=.pointer (some ⟨b,i,none⟩)) (h:(loadVar T ⟨b,i,none⟩).run P w=.ok v w) :
    (execOp ρ o).run P w=.ok (.value v) w:=by
  simp [execOp,ho,ha,Instr.loadAt,Instr.sureAddr,h]
theorem OpS.load {a:Operand} {v:Value} (h:St e w Γ Ω) (ht:Ty C.P T fr) (hg:gd ops L g=some true) (hd:Nat.blt d C.fn.ntmps=true) (hx:ev L a=some v) (ha:At Γ (f,.ptr fr v y))
    (K:∀ u,St e w ((f,.val fr u y)::Γ) Ω→Z ((d,u)::L) w):OpS C ops ⟨some d,.load T a,t,p,af,g⟩ L w Z:=by
  obtain ⟨S,G,I,hs,ho⟩:=h
  obtain ⟨b,o,cs,rfl,hb,hc,hr⟩:=hs.at ha
  exact OpS.val hg rfl hd (λ ac hac=>Qlv rfl (hac.ev hx) (Qhw ht hc hr)) (K _ ⟨S,G,I,⟨Rep.val_pack ht.fl hr,hs⟩,ho⟩)
theorem OpS.loadi {a:Operand} {v:Value} {q:IntKind} {n:Int} (h:St e w Γ Ω) (ht:Ty C.P T (.int q)) (hg:gd ops L g=some true) (hd:Nat.blt d C.fn.ntmps=true) (hx:ev L a=some v) (ha:At Γ (f,.ptr (.int q) v n))
    (K:Z ((d,.int q n)::L) w):OpS C ops ⟨some d,.load T a,t,p,af,g⟩ L w Z :=
  OpS.load h ht hg hd hx ha (λ u hu=>by rw [St.int_eq hu];exact K)
theorem OpS.loadb {a:Operand} {v:Value} {n:Bool} (h:St e w Γ Ω) (ht:Ty C.P T .bool) (hg:gd ops L g=some true) (hd:Nat.blt d C.fn.ntmps=true) (hx:ev L a=some v) (ha:At Γ (f,.ptr .bool v n))
    (K:Z ((d,.bool n)::L) w):OpS C ops ⟨some d,.load T a,t,p,af,g⟩ L w Z :=
  OpS.load h ht hg hd hx ha (λ u hu=>by rw [St.bool_eq hu];exact K)
theorem OpS.loadB {a : Operand} {q qv : Value} {off : Nat} {T0 : TypeId} (h : St e w Γ Ω) (hp : Pick Ω (f, .box T0 r q x) Ω') (hq : PA q off qv) (hge : Get r off fr x y) (ht : Ty C.P T fr) (hg : gd ops L g = some true) (hd : Nat.blt d C.fn.ntmps = true)
    (hx:ev L a=some qv) (K:∀ u,St e w ((f,.val fr u y)::Γ) Ω→Z ((d,u)::L) w):OpS C ops ⟨some d,.load T a,t,p,af,g⟩ L w Z:=by
  obtain ⟨S,G,I,hs,ho⟩:=h
  obtain ⟨G1,G2,_,_,_,⟨b,cs,rfl,_,hh,hr⟩,_⟩:=ho.pick hp
  have hqv:=hq _ rfl
  obtain ⟨_,hr2⟩:=hge hr
  have hc:=Qle hh off fr.n
  rw [Qaj,Nat.zero_add] at hqv
  subst hqv
  exact OpS.val hg rfl hd (λ ac hac=>Qlv rfl (hac.ev hx) (Qhw ht hc hr2)) (K _ ⟨S,G,I,⟨Rep.val_pack ht.fl hr2,hs⟩,ho⟩)
theorem OpS.loadBi {a : Operand} {q qv : Value} {off : Nat} {T0 : TypeId} {qk : IntKind} {n : Int} (h : St e w Γ Ω) (hp : Pick Ω (f, .box T0 r q x) Ω') (hq : PA q off qv) (hge : Get r off (.int qk) x n) (ht : Ty C.P T (.int qk)) (hg : gd ops L g = some true) (hd : Nat.blt d C.fn.ntmps = true)
    (hx:ev L a=some qv) (K:Z ((d,.int qk n)::L) w):OpS C ops ⟨some d,.load T a,t,p,af,g⟩ L w Z :=
  OpS.loadB h hp hq hge ht hg hd hx (λ u hu=>by rw [St.int_eq hu];exact K)
theorem OpS.loadBb {a : Operand} {q qv : Value} {off : Nat} {T0 : TypeId} {n : Bool} (h : St e w Γ Ω) (hp : Pick Ω (f, .box T0 r q x) Ω') (hq : PA q off qv) (hge : Get r off .bool x n) (ht : Ty C.P T .bool) (hg : gd ops L g = some true) (hd : Nat.blt d C.fn.ntmps = true)
    (hx:ev L a=some qv) (K:Z ((d,.bool n)::L) w):OpS C ops ⟨some d,.load T a,t,p,af,g⟩ L w Z :=
  OpS.loadB h hp hq hge ht hg hd hx (λ u hu=>by rw [St.bool_eq hu];exact K)
theorem OpS.loadO {a : Operand} {v qv : Value} {off : Nat} {T0 : TypeId} {xs : List α} (h : St e w Γ Ω) (hp : Pick Ω (f, .slice T0 r v xs) Ω') (hne : xs ≠ []) (hq : PA (sp v) off qv) (hge : Get (r.arr xs.length) off fr xs y) (ht : Ty C.P T fr) (hg : gd ops L g = some true) (hd : Nat.blt d C.fn.ntmps = true)
    (hx:ev L a=some qv) (K:∀ u,St e w ((f,.val fr u y)::Γ) Ω→Z ((d,u)::L) w):OpS C ops ⟨some d,.load T a,t,p,af,g⟩ L w Z:=by
  obtain ⟨S,G,I,hs,ho⟩:=h
  obtain ⟨G1,G2,_,_,_,⟨cells,hown,hel,_⟩,_⟩:=ho.pick hp
  obtain ⟨_,hr2⟩:=hge ⟨rfl,hel⟩
  rcases hown.2 with ⟨_,hn⟩ | ⟨b,cap,cur,rfl,_,hh,hnc,hcm,hcs,htake⟩
  · exact absurd (List.eq_nil_of_length_eq_zero hn) hne
  have hqv:=hq _ rfl
  have hc:=Qsr hh (xs:=cells) (by rw [hown.1];exact htake) off fr.n
  rw [Qaj,Nat.zero_add] at hqv
  subst hqv
  exact OpS.val hg rfl hd (λ ac hac=>Qlv rfl (hac.ev hx) (Qhw ht hc hr2)) (K _ ⟨S,G,I,⟨Rep.val_pack ht.fl hr2,hs⟩,ho⟩)
theorem OpS.loadOi {a : Operand} {v qv : Value} {off : Nat} {T0 : TypeId} {xs : List α} {qk : IntKind} {n : Int} (h : St e w Γ Ω) (hp : Pick Ω (f, .slice T0 r v xs) Ω') (hne : xs ≠ []) (hq : PA (sp v) off qv) (hge : Get (r.arr xs.length) off (.int qk) xs n) (ht : Ty C.P T (.int qk)) (hg : gd ops L g = some true) (hd : Nat.blt d C.fn.ntmps = true)
    (hx:ev L a=some qv) (K:Z ((d,.int qk n)::L) w):OpS C ops ⟨some d,.load T a,t,p,af,g⟩ L w Z :=
  OpS.loadO h hp hne hq hge ht hg hd hx (λ u hu=>by rw [St.int_eq hu];exact K)
theorem OpS.loadOb {a : Operand} {v qv : Value} {off : Nat} {T0 : TypeId} {xs : List α} {n : Bool} (h : St e w Γ Ω) (hp : Pick Ω (f, .slice T0 r v xs) Ω') (hne : xs ≠ []) (hq : PA (sp v) off qv) (hge : Get (r.arr xs.length) off .bool xs n) (ht : Ty C.P T .bool) (hg : gd ops L g = some true) (hd : Nat.blt d C.fn.ntmps = true)
    (hx:ev L a=some qv) (K:Z ((d,.bool n)::L) w):OpS C ops ⟨some d,.load T a,t,p,af,g⟩ L w Z :=
  OpS.loadO h hp hne hq hge ht hg hd hx (λ u hu=>by rw [St.bool_eq hu];exact K)
theorem Qku {ρ:Operand→Value} {P:Program} {o:Oper} {a z:Operand} {b i:Nat} {v:Value} {w':World} (ho:o.op=.store T a z) (ha:ρ a=.pointer (some ⟨b,i,none⟩)) (hz:ρ z=v) (h:(storeVar T ⟨b,i,none⟩ v).run P w=.ok () w') :
    (execOp ρ o).run P w=.ok .skip w':=by
  simp [execOp,ho,ha,hz,Instr.storeAt,Instr.sureAddr,h]
theorem Qjn {P:Program} {b o:Nat} {cur:Array Value} {T0:TypeId} {v:Value} {S:Blks} {w1:World} (ht:Ty P T fr) (hh:w.heap[b]?=some (.cells cur T0 (0,0))) (hv:fr.rel S w1 v.cells.toList y) (hfit:o+fr.n≤cur.size) :
    (storeVar T ⟨b,o,none⟩ v).run P w=.ok () (w.setRow b (cur.toList.take o++v.cells.toList++cur.toList.drop (o+fr.n)).toArray):=by
  have hl:v.cells.size=fr.n:=by have:=fr.len hv;simpa using this
  have hst:=run_storeCells_at P b o T0 v.cells.toList 0 cur w hh (by simp [hl];exact hfit) (fr.one hv)
  unfold storeVar
  simp only [Sem.run_bind,ht.size,Result.andThen_ok,hl,ne_eq,not_true_eq_false,if_false]
  simp only [Nat.add_zero] at hst
  simpa [hl] using hst
theorem V.as {v:Value} {f':Bool} {B:Nat} (hv:V B Γ f' fr v y) (hf:f'=true∨f=false) {S:Blks} (hs:Sat B S w Γ):fr.val (fl f B S) w v y:=by
  rcases hf with rfl | rfl
  · exact fr.val_stab (λ b hb=>⟨hb.1,λ _=>hb.2 rfl⟩) (λ _ _=>rfl) (hv S w hs)
  · exact fr.val_stab (λ b hb=>⟨hb.1,λ h=>by cases h⟩) (λ _ _=>rfl) (hv S w hs)
theorem OpS.storeB {a z : Operand} {q qv v : Value} {off : Nat} {T0 : TypeId} {x' : α} {f' : Bool} (h : St e w Γ Ω) (hp : Pick Ω (f, .box T0 r q x) Ω') (hq : PA q off qv) (hpu : Put r off fr x y x') (ht : Ty C.P T fr) (hg : gd ops L g = some true)
    (hx:ev L a=some qv) (hz:ev L z=some v) (hv:V e.w.heap.size Γ f' fr v y) (hf:f'=true∨f=false)
    (K : ∀ w', St e w' Γ ((f, .box T0 r q x') :: Ω') → Z L w') : OpS C ops ⟨none, .store T a z, t, p, af, g⟩ L w Z := by
  have h1:=h.pick hp
  have hb:∃ b cs,q=.pointer (some ⟨b,0,none⟩)∧w.heap[b]?=some (.cells cs T0 (0,0))∧off+fr.n≤cs.size:=by
    obtain ⟨S,G,I,hs,G1,G2,_,_,_,⟨b,cs,e1,_,hh,hr⟩,_⟩:=h1
    exact ⟨b,_,e1,hh,by have:=(hpu hr (Rep.val_cells (hv.as hf hs))).1;have hl:=r.len hr;simpa [hl] using this⟩
  obtain ⟨b,cs,rfl,hh,hfit⟩:=hb
  have hqv:=hq _ rfl
  rw [Qaj,Nat.zero_add] at hqv
  subst hqv
  obtain ⟨S0,w1,hv1⟩:∃ S0 w1,fr.rel S0 w1 v.cells.toList y:=by
    obtain ⟨S,G,I,hs,_⟩:=h1;exact ⟨_,_,Rep.val_cells (hv S w hs)⟩
  have hrun:=Qjn (w:=w) ht hh hv1 hfit
  refine OpS.eff hg rfl (λ ac hac=>Qku rfl (hac.ev hx) (hac.ev hz) hrun) (K _ (h1.write ?_))
  rintro S G1 hs ⟨b',cs',e1,hG,hh',hr⟩ hdis _ hlt
  simp only [Value.pointer.injEq,Option.some.injEq,Addr.mk.injEq,and_true] at e1
  subst e1
  rw [hh'] at hh
  simp only [Option.some.injEq,Obj.cells.injEq,and_true] at hh
  subst hh
  refine ⟨G1,λ b hb=>.inl hb,⟨rfl,rfl,rfl,by simp⟩,λ c _ hc=>setRow_other w b c _ (λ h=>hc ((hG c).2 h)),b,_,rfl,hG,setRow_heap w b _ _ T0 _ hh',?_⟩
  have hS:∀ c,fl f e.w.heap.size S c→(w.setRow b (cs'.toArray.toList.take off++v.cells.toList++cs'.toArray.toList.drop (off+fr.n)).toArray).heap[c]?=w.heap[c]? :=
    λ c hc=>setRow_other w b c _ (λ h=>hdis c hc.1 ((hG c).2 h))
  have:=(hpu (r.stab (λ _ h=>h) hS hr) (fr.stab (λ _ h=>h) hS (Rep.val_cells (hv.as hf hs)))).2
  simpa using this
theorem OpS.storeO {a z : Operand} {v0 qv v : Value} {off : Nat} {T0 : TypeId} {xs xs' : List α} {f' : Bool} (h : St e w Γ Ω) (hp : Pick Ω (f, .slice T0 r v0 xs) Ω') (hne : xs ≠ []) (hq : PA (sp v0) off qv) (hpu : Put (r.arr xs.length) off fr xs y xs') (ht : Ty C.P T fr) (hg : gd ops L g = some true)
    (hx:ev L a=some qv) (hz:ev L z=some v) (hv:V e.w.heap.size Γ f' fr v y) (hf:f'=true∨f=false)
    (K : ∀ w', St e w' Γ ((f, .slice T0 r v0 xs') :: Ω') → Z L w') : OpS C ops ⟨none, .store T a z, t, p, af, g⟩ L w Z := by
  have h1:=h.pick hp
  have hb:∃ b cs cap,v0=.slice (some ⟨b,0,none⟩) xs.length cap∧w.heap[b]?=some (.cells cs T0 (0,0))∧off+fr.n≤cs.size:=by
    obtain ⟨S,G,I,hs,G1,G2,_,_,_,⟨cells,hown,hel,_⟩,_⟩:=h1
    rcases hown.2 with ⟨_,hn⟩ | ⟨b,cap,cur,e1,_,hh,hnc,hcm,hcs,htake⟩
    · exact absurd (List.eq_nil_of_length_eq_zero hn) hne
    · refine ⟨b,_,cap,e1,hh,?_⟩
      have h2:=(hpu ⟨rfl,hel⟩ (Rep.val_cells (hv.as hf hs))).1
      have h3:xs.length*r.n≤cap*r.n:=Nat.mul_le_mul_right _ hnc
      simp only [Rep.arr] at h2
      omega
  obtain ⟨b,cs,cap,rfl,hh,hfit⟩:=hb
  have hqv:=hq _ rfl
  rw [Qaj,Nat.zero_add] at hqv
  subst hqv
  obtain ⟨S0,w1,hv1⟩:∃ S0 w1,fr.rel S0 w1 v.cells.toList y:=by
    obtain ⟨S,G,I,hs,_⟩:=h1;exact ⟨_,_,Rep.val_cells (hv S w hs)⟩
  have hrun:=Qjn (w:=w) ht hh hv1 hfit
  refine OpS.eff hg rfl (λ ac hac=>Qku rfl (hac.ev hx) (hac.ev hz) hrun) (K _ (h1.write ?_))
  rintro S G1 hs ⟨cells,hown,hel,hG⟩ hdis _ hlt
  have hG':∀ c,G1 c↔c=b:=λ c=>by rw [hG];simp [Value.ownBlock,eq_comm]
  have hS:∀ c,fl f e.w.heap.size S c→(w.setRow b (cs.toList.take off++v.cells.toList++cs.toList.drop (off+fr.n)).toArray).heap[c]?=w.heap[c]? :=
    λ c hc=>setRow_other w b c _ (λ h=>hdis c hc.1 ((hG' c).2 h))
  rcases hown.2 with ⟨h0,_⟩ | ⟨b',cap',cur,e1,hb0,hh',hnc,hcm,hcs,htake⟩
  · cases h0
  simp only [Value.slice.injEq,Option.some.injEq,Addr.mk.injEq,and_true,true_and] at e1
  obtain ⟨rfl,rfl⟩:=e1
  rw [hh'] at hh
  simp only [Option.some.injEq,Obj.cells.injEq,and_true] at hh
  subst hh
  obtain ⟨hf1,hr2⟩:=hpu (S:=fl f e.w.heap.size S) (w:=w.setRow b (cur.toList.take off++v.cells.toList++cur.toList.drop (off+fr.n)).toArray) (cs:=cells) ⟨rfl,hel.stab (λ _ h=>h) hS⟩ (fr.stab (λ _ h=>h) hS (Rep.val_cells (hv.as hf hs)))
  have hlen:xs'.length=xs.length:=hr2.1
  have hcl:v.cells.toList.length=fr.n:=fr.len hv1
  have hxl:cells.length=xs.length*r.n:=hown.1
  have hfit2:off+fr.n≤cells.length:=by simp only [Rep.arr] at hf1;omega
  refine ⟨G1,λ b hb=>.inl hb,⟨rfl,rfl,rfl,by simp⟩,λ c _ hc=>setRow_other w b c _ (λ h=>hc ((hG' c).2 h)),_,⟨?_,.inr ⟨b,cap,_,by rw [hlen],Nat.zero_le _,setRow_heap w b _ _ T0 _ hh',by omega,hcm,?_,?_⟩⟩,hr2.2,?_⟩
  · rw [hr2.2.len]
  · have:cells.length≤cur.size:=by rw [hxl,hcs];exact Nat.mul_le_mul_right _ hnc
    simp only [List.size_toArray,List.length_append,List.length_take,List.length_drop,Array.length_toList,hcl]
    omega
  · rw [hlen]
    have hsz:xs.length*r.n≤cur.toList.length:=by simp [hcs];exact Nat.mul_le_mul_right _ hnc
    have hle:off+v.cells.toList.length≤xs.length*r.n:=by omega
    have:=Qkb (cs:=cur.toList) hle hsz
    rw [htake,hcl] at this
    exact this
  · intro c;rw [hG]
end
end Lift
