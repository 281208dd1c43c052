/- Cells that hold a value whose datum lies elsewhere; stores that change the form of a variable; views of the front of a slice. Over any program. No conditions. -/
import Derived.Test.YtedddoifbhcinaaLiftK
import Derived.Laws.BytesArg
set_option linter.unusedVariables false
set_option linter.unusedSimpArgs false
namespace Lift
open Go

/-- A cell that holds the value v, whatever it stands for. -/
def Rep.raw {α : Type} (v : Value) : Rep α where
  n := 1
  agg := false
  rel := fun _ _ cs _ => cs = [v] ∧ v.oneCell' = true
  len := by intro _ _ _ _ h; rw [h.1]; rfl
  one := by intro _ _ _ _ h c hc; rw [h.1] at hc; simp at hc; rw [hc]; exact h.2
  stab := by intro _ _ _ _ _ _ _ _ h; exact h
theorem Zr.raw {α : Type} {v : Value} (h : v.oneCell' = true) (x : α) : Zr (.raw v) [v] x := fun _ _ => ⟨rfl, h⟩
theorem V.raw {α : Type} {B : Nat} {Γ : List (Bool × Atom)} {f : Bool} {v : Value} (h : v.oneCell' = true) (x : α) : V B Γ f (.raw v) v x := fun _ _ _ => ⟨rfl, h⟩
theorem Ty.like {α β : Type} {P : Program} {t : TypeId} {r : Rep α} {r' : Rep β} (h : Ty P t r) (hn : r.n = r'.n) (ha : r.agg = r'.agg) : Ty P t r' := ⟨ha ▸ h.ag, hn ▸ h.sz, fun e => hn ▸ h.fl (ha.trans e)⟩
theorem own_one {α : Type} {T : TypeId} {r : Rep α} {v : Value} {l : List α} {S G : Blks} {w : World} (h : (HAtom.slice T r v l).p G S w) : v.oneCell' = true := by
  obtain ⟨xs, hown, _, _⟩ := h
  rcases hown.2 with ⟨rfl, _⟩ | ⟨g, cap, cur, rfl, _⟩ <;> rfl
theorem St.own1 {α : Type} {e : En} {w : World} {Γ : List (Bool × Atom)} {Ω Ω' : List (Bool × HAtom)} {f : Bool} {T : TypeId} {r : Rep α} {v : Value} {l : List α} (h : St e w Γ Ω) (hp : Pick Ω (f, .slice T r v l) Ω') : v.oneCell' = true := by
  obtain ⟨S, G, I, hs, ho⟩ := h
  obtain ⟨_, _, _, _, _, h4, _⟩ := ho.pick hp
  exact own_one h4
theorem St.raw_eq {α : Type} {e : En} {w : World} {Γ : List (Bool × Atom)} {Ω : List (Bool × HAtom)} {f : Bool} {u v : Value} {y : α} (h : St e w ((f, .val (.raw v) u y) :: Γ) Ω) : u = v := by
  obtain ⟨_, _, _, hs, _⟩ := h
  have := hs.1
  simp only [Atom.val, Rep.val, Rep.raw, List.cons.injEq, and_true] at this
  exact this.1

/-! ### where a part lies, part by part -/
structure GetS {α β : Type} (r : Rep α) (off : Nat) (fr : Rep β) (x : α) (y : β) : Prop where
  ok : Get r off fr x y
theorem GetS.id {α : Type} {r : Rep α} {x : α} : GetS r 0 r x x := ⟨Get.id⟩
theorem GetS.here {α β γ : Type} {r : Rep α} {s : Rep β} {fr : Rep γ} {off : Nat} {x : α × β} {y : γ} (h : GetS r off fr x.1 y) : GetS (r.prod s) off fr x y := by
  constructor
  intro S w cs ⟨c, d, e, h1, h2⟩
  subst e
  obtain ⟨f1, a1⟩ := h.ok h1
  have hl := r.len h1
  refine ⟨by simp only [Rep.prod]; omega, ?_⟩
  rw [List.drop_append_of_le_length (by omega), List.take_append_of_le_length (by simp; omega)]; exact a1
theorem GetS.there {α β γ : Type} {r : Rep α} {s : Rep β} {fr : Rep γ} {off : Nat} {x : α × β} {y : γ} (h : GetS s off fr x.2 y) : GetS (r.prod s) (r.n + off) fr x y := by
  constructor
  intro S w cs ⟨c, d, e, h1, h2⟩
  subst e
  obtain ⟨f1, a1⟩ := h.ok h2
  have hl := r.len h1
  refine ⟨by simp only [Rep.prod]; omega, ?_⟩
  rw [← hl, List.drop_length_add_append]; exact a1
theorem GetS.iso {α β γ : Type} {r : Rep α} {fr : Rep γ} {off : Nat} (f : β → α) {x : β} {y : γ} (h : GetS r off fr (f x) y) : GetS (r.iso f) off fr x y := ⟨fun hr => h.ok hr⟩
/-- A store that may change the form. -/
structure Chg {α β : Type} (r r' : Rep α) (off : Nat) (fr : Rep β) (x : α) (y : β) (x' : α) : Prop where
  ch : ∀ {S w cs c}, r.rel S w cs x → fr.rel S w c y → off + fr.n ≤ r.n ∧ r'.rel S w (cs.take off ++ c ++ cs.drop (off + fr.n)) x'
theorem Chg.id {α : Type} {r r' : Rep α} (hn : r'.n = r.n) {x y : α} : Chg r r' 0 r' x y y := by
  constructor
  intro S w cs c hr hy
  have hl := r.len hr
  exact ⟨by omega, by simpa [← hl, hn] using hy⟩
theorem Chg.here {α β γ : Type} {r r' : Rep α} {s : Rep β} {fr : Rep γ} {off : Nat} {x : α × β} {y : γ} {z : α} (h : Chg r r' off fr x.1 y z) : Chg (r.prod s) (r'.prod s) off fr x y (z, x.2) := by
  constructor
  intro S w cs c hr hy
  obtain ⟨c1, d, rfl, h1, h2⟩ := hr
  obtain ⟨f1, a1⟩ := h.ch h1 hy
  have hl := r.len h1
  refine ⟨by simp only [Rep.prod]; omega, c1.take off ++ c ++ c1.drop (off + fr.n), d, ?_, a1, h2⟩
  rw [List.take_append_of_le_length (by omega), List.drop_append_of_le_length (by omega)]; simp
theorem Chg.there {α β γ : Type} {r : Rep α} {s s' : Rep β} {fr : Rep γ} {off : Nat} {x : α × β} {y : γ} {z : β} (h : Chg s s' off fr x.2 y z) : Chg (r.prod s) (r.prod s') (r.n + off) fr x y (x.1, z) := by
  constructor
  intro S w cs c hr hy
  obtain ⟨c1, d, rfl, h1, h2⟩ := hr
  obtain ⟨f1, a1⟩ := h.ch h2 hy
  have hl := r.len h1
  refine ⟨by simp only [Rep.prod]; omega, c1, d.take off ++ c ++ d.drop (off + fr.n), ?_, h1, a1⟩
  rw [← hl, Nat.add_assoc, List.take_length_add_append, List.drop_length_add_append]; simp
theorem Chg.iso {α β γ : Type} {r r' : Rep α} {fr : Rep γ} {off : Nat} (f : β → α) {x x' : β} {y : γ} (h : Chg r r' off fr (f x) y (f x')) : Chg (r.iso f) (r'.iso f) off fr x y x' := ⟨fun hr hy => h.ch hr hy⟩
theorem Chg.of {α β : Type} {r r' : Rep α} {off : Nat} {fr : Rep β} {x x' x'' : α} {y : β} (h : Chg r r' off fr x y x') (e : x' = x'') : Chg r r' off fr x y x'' := e ▸ h
/-- Where the facts on its parts are at hand, a datum has another form. -/
def Jn {α : Type} (S : Blks) (w : World) (r r' : Rep α) (x x' : α) : Prop := ∀ cs, r.rel S w cs x → r'.rel S w cs x'
theorem Jn.refl {α : Type} {S : Blks} {w : World} {r : Rep α} {x : α} : Jn S w r r x x := fun _ h => h
theorem Jn.raw {α : Type} {S : Blks} {w : World} {r : Rep α} {v : Value} {x y : α} (h : r.val S w v y) (ha : r.agg = false) : Jn S w (.raw v) r x y := by
  intro cs hc
  rw [hc.1]
  unfold Rep.val at h
  rw [ha] at h; exact h
theorem Jn.prod {α β : Type} {S : Blks} {w : World} {r r' : Rep α} {s s' : Rep β} {x x' : α} {y y' : β} (h : Jn S w r r' x x') (k : Jn S w s s' y y') : Jn S w (r.prod s) (r'.prod s') (x, y) (x', y') := by
  rintro cs ⟨c, d, e, h1, h2⟩
  exact ⟨c, d, e, h _ h1, k _ h2⟩
theorem Jn.iso {α β : Type} {S : Blks} {w : World} {r r' : Rep α} (f : β → α) {x x' : β} (h : Jn S w r r' (f x) (f x')) : Jn S w (r.iso f) (r'.iso f) x x' := fun cs hc => h cs hc
theorem V.jn {α : Type} {B : Nat} {Γ : List (Bool × Atom)} {f : Bool} {r r' : Rep α} {v : Value} {x x' : α} (h : V B Γ f r v x) (ha : r.agg = r'.agg) (k : ∀ S w, Sat B S w Γ → Jn (fl f B S) w r r' x x') : V B Γ f r' v x' := by
  intro S w hs
  have h1 := h S w hs
  unfold Rep.val at h1 ⊢
  rw [ha] at h1
  split at h1
  · obtain ⟨cs, e1, hr⟩ := h1; exact ⟨cs, e1, k S w hs cs hr⟩
  · exact k S w hs _ h1
theorem St.boxJ {α : Type} {e : En} {w : World} {Γ : List (Bool × Atom)} {Ω : List (Bool × HAtom)} {f : Bool} {T0 : TypeId} {r r' : Rep α} {q : Value} {x x' : α} (h : St e w Γ ((f, .box T0 r q x) :: Ω)) (k : ∀ S w, Sat e.w.heap.size S w Γ → Jn (fl f e.w.heap.size S) w r r' x x') : St e w Γ ((f, .box T0 r' q x') :: Ω) := by
  obtain ⟨S, G, I, hs, G1, G2, h1, h2, h3, ⟨g, cs, e1, hG, hh, hr⟩, h5⟩ := h
  exact ⟨S, G, I, hs, G1, G2, h1, h2, h3, ⟨g, cs, e1, hG, hh, k S w hs cs hr⟩, h5⟩

theorem Jn.same {α : Type} {S : Blks} {w : World} {v : Value} {x y : α} : Jn S w (.raw v) (.raw v) x y := fun _ h => h
theorem St.addV {α : Type} {e : En} {w : World} {Γ : List (Bool × Atom)} {Ω : List (Bool × HAtom)} {f : Bool} {r : Rep α} {v : Value} {x : α} (h : St e w Γ Ω) (hv : V e.w.heap.size Γ f r v x) : St e w ((f, .val r v x) :: Γ) Ω :=
  h.addΓ (fun S hs => hv S w hs)

/-! ### views of the front of an owned slice -/
def pre (v : Value) (k : Nat) : Value := match v with
  | .slice p _ c => .slice p k c
  | v => v
/-- Elements put in place of others. -/
def lay {α : Type} (l : List α) (k : Nat) (m : List α) : List α := l.take k ++ m ++ l.drop (k + m.length)
theorem lay_len {α : Type} {l m : List α} {k : Nat} (h : k + m.length ≤ l.length) : (lay l k m).length = l.length := by simp [lay]; omega
theorem Elems.lay {α : Type} {r : Rep α} {S : Blks} {w : World} {l m : List α} {cs c : List Value} {k : Nat} (h : Elems r S w cs l) (hm : Elems r S w c m) : Elems r S w (cs.take (k * r.n) ++ c ++ cs.drop (k * r.n + c.length)) (lay l k m) := by
  unfold Lift.lay
  rw [hm.len, ← Nat.add_mul]
  exact Elems.append (h.drop _) (Elems.append hm (h.take k))
/-- The rest is given up. -/
theorem St.shrink {α : Type} {e : En} {w : World} {Γ : List (Bool × Atom)} {Ω : List (Bool × HAtom)} {f : Bool} {T : TypeId} {r : Rep α} {v : Value} {l : List α} {k : Nat} (h : St e w Γ ((f, .slice T r v l) :: Ω)) (hk : k ≤ l.length) : St e w Γ ((f, .slice T r (pre v k) (l.take k)) :: Ω) := by
  obtain ⟨S, G, I, hs, G1, G2, h1, h2, h3, ⟨xs, hown, hel, hG⟩, h5⟩ := h
  refine ⟨S, G, I, hs, G1, G2, h1, h2, h3, ⟨xs.take (k * r.n), ?_, hel.take k, ?_⟩, h5⟩
  · have hl : (l.take k).length = k := by simp; omega
    have hkn : k * r.n ≤ l.length * r.n := Nat.mul_le_mul_right _ hk
    refine ⟨by rw [hl, List.length_take, hown.1]; omega, ?_⟩
    rcases hown.2 with ⟨rfl, hn⟩ | ⟨g, cap, cur, rfl, hb, hg, hnc, hcm, hcs, htake⟩
    · have : k = 0 := by omega
      subst this; exact .inl ⟨rfl, by simp⟩
    · refine .inr ⟨g, cap, cur, by rw [hl]; rfl, hb, hg, by omega, hcm, hcs, ?_⟩
      rw [hl, ← htake, List.take_take]; congr 1; omega
  · intro b
    rw [hG]
    rcases hown.2 with ⟨rfl, hn⟩ | ⟨g, cap, cur, rfl, _⟩ <;> rfl

section
variable {C : Cx} {L : List (Nat × Value)} {w : World} {ops : Array Oper} {Z : List (Nat × Value) → World → Prop} {d : Nat} {t T : TypeId} {p : String} {af : Array Edge} {g : Option (Nat × Bool)}
variable {e : En} {Γ : List (Bool × Atom)} {Ω Ω' : List (Bool × HAtom)} {f : Bool} {α β : Type} {r r' : Rep α} {fr : Rep β} {x : α} {y : β}

/-- A store into a variable of the walk's own, which may change its form. -/
theorem OpS.storeC {a z : Operand} {q qv v : Value} {off : Nat} {T0 : TypeId} {x' : α} {f' : Bool} (h : St e w Γ Ω) (hp : Pick Ω (f, .box T0 r q x) Ω') (hq : PA q off qv) (hpu : Chg r r' off fr x y x') (ht : Ty C.P T fr) (hg : gd ops L g = some true)
    (hx : ev L a = some qv) (hz : ev L z = some v) (hv : V e.w.heap.size Γ f' fr v y) (hf : f' = true ∨ f = false)
    (K : ∀ w', St e w' Γ ((f, .box T0 r' q x') :: Ω') → Z L w') : OpS C ops ⟨none, .store T a z, t, p, af, g⟩ L w Z := by
  have h1 := h.pick hp
  have hb : ∃ b cs, q = .pointer (some ⟨b, 0, none⟩) ∧ w.heap[b]? = some (.cells cs T0 (0, 0)) ∧ off + fr.n ≤ cs.size := by
    obtain ⟨S, G, I, hs, G1, G2, _, _, _, ⟨b, cs, e1, _, hh, hr⟩, _⟩ := h1
    exact ⟨b, _, e1, hh, by have := (hpu.ch hr (Rep.val_cells (hv.as hf hs))).1; have hl := r.len hr; simpa [hl] using this⟩
  obtain ⟨b, cs, rfl, hh, hfit⟩ := hb
  have hqv := hq _ rfl
  rw [add_none, Nat.zero_add] at hqv
  subst hqv
  obtain ⟨S0, w1, hv1⟩ : ∃ S0 w1, fr.rel S0 w1 v.cells.toList y := by
    obtain ⟨S, G, I, hs, _⟩ := h1; exact ⟨_, _, Rep.val_cells (hv S w hs)⟩
  have hrun := run_storeVar (w := w) ht hh hv1 hfit
  refine OpS.eff hg rfl (fun ac hac => exec_store rfl (hac.ev hx) (hac.ev hz) hrun) (K _ (h1.write ?_))
  rintro S G1 hs ⟨b', cs', e1, hG, hh', hr⟩ hdis _ hlt
  simp only [Value.pointer.injEq, Option.some.injEq, Addr.mk.injEq, and_true] at e1
  subst e1
  rw [hh'] at hh
  simp only [Option.some.injEq, Obj.cells.injEq, and_true] at hh
  subst hh
  refine ⟨G1, fun b hb => .inl hb, ⟨rfl, rfl, rfl, by simp⟩, fun c _ hc => setRow_other w b c _ (fun h => hc ((hG c).2 h)), b, _, rfl, hG, setRow_heap w b _ _ T0 _ hh', ?_⟩
  have hS : ∀ c, fl f e.w.heap.size S c → (w.setRow b (cs'.toArray.toList.take off ++ v.cells.toList ++ cs'.toArray.toList.drop (off + fr.n)).toArray).heap[c]? = w.heap[c]? :=
    fun c hc => setRow_other w b c _ (fun h => hdis c hc.1 ((hG c).2 h))
  have := (hpu.ch (r.stab (fun _ h => h) hS hr) (fr.stab (fun _ h => h) hS (Rep.val_cells (hv.as hf hs)))).2
  simpa using this
/-- A load of a value whose datum lies elsewhere. -/
theorem OpS.loadR {a : Operand} {q qv v : Value} {off : Nat} {T0 : TypeId} {rr : Rep β} (h : St e w Γ Ω) (hp : Pick Ω (f, .box T0 r q x) Ω') (hq : PA q off qv) (hge : Get r off (.raw v) x y) (ht : Ty C.P T rr) (hn : rr.n = 1) (ha : rr.agg = false) (hg : gd ops L g = some true) (hd : Nat.blt d C.fn.ntmps = true)
    (hx : ev L a = some qv) (K : Z ((d, v) :: L) w) : OpS C ops ⟨some d, .load T a, t, p, af, g⟩ L w Z :=
  OpS.loadB h hp hq hge (ht.like hn ha) hg hd hx (fun u hu => by rw [hu.raw_eq]; exact K)
/-- A field of a struct value, in whatever form it is. -/
theorem OpS.fieldG {a : Operand} {v : Value} {i off : Nat} {U : TypeId} (h : St e w Γ Ω) (hfd : FD C.P T i off U) (hge : Get r off fr x y) (ha : r.agg = true) (hU : Ty C.P U fr) (hg : gd ops L g = some true) (hd : Nat.blt d C.fn.ntmps = true) (hx : ev L a = some v) (hv : V e.w.heap.size Γ f r v x)
    (K : ∀ u, St e w ((f, .val fr u y) :: Γ) Ω → Z ((d, u) :: L) w) : OpS C ops ⟨some d, .field T a i, t, p, af, g⟩ L w Z := by
  obtain ⟨S, G, I, hs, ho⟩ := h
  obtain ⟨fs, F, h1, h2, rfl, rfl⟩ := hfd
  have hval := hv S w hs
  unfold Rep.val at hval
  rw [ha] at hval
  obtain ⟨cs, rfl, hr⟩ := hval
  obtain ⟨hfit, hr2⟩ := hge hr
  have hl := r.len hr
  refine OpS.val hg rfl hd (fun ac hac => ?_) (K (fr.pack ((cs.drop F.offset).take fr.n)) ⟨S, G, I, ⟨Rep.val_pack hU.fl hr2, hs⟩, ho⟩)
  simp only [execOp, hac.ev hx, Instr.field, Sem.run_bind, run_underlying h1, Result.andThen_ok, h2, asAgg, Sem.run_pure, run_part hU (by omega : F.offset + fr.n ≤ cs.length)]
theorem OpS.fieldR {a : Operand} {v u0 : Value} {i off : Nat} {U : TypeId} {rr : Rep β} (h : St e w Γ Ω) (hfd : FD C.P T i off U) (hge : Get r off (.raw u0) x y) (ha : r.agg = true) (hU : Ty C.P U rr) (hn : rr.n = 1) (hag : rr.agg = false) (hg : gd ops L g = some true) (hd : Nat.blt d C.fn.ntmps = true) (hx : ev L a = some v) (hv : V e.w.heap.size Γ f r v x)
    (K : Z ((d, u0) :: L) w) : OpS C ops ⟨some d, .field T a i, t, p, af, g⟩ L w Z :=
  OpS.fieldG h hfd hge ha (hU.like hn hag) hg hd hx hv (fun u hu => by rw [hu.raw_eq]; exact K)
theorem OpS.fieldGi {a : Operand} {v : Value} {i off : Nat} {U : TypeId} {q : IntKind} {n : Int} (h : St e w Γ Ω) (hfd : FD C.P T i off U) (hge : Get r off (.int q) x n) (ha : r.agg = true) (hU : Ty C.P U (.int q)) (hg : gd ops L g = some true) (hd : Nat.blt d C.fn.ntmps = true) (hx : ev L a = some v) (hv : V e.w.heap.size Γ f r v x)
    (K : Z ((d, .int q n) :: L) w) : OpS C ops ⟨some d, .field T a i, t, p, af, g⟩ L w Z :=
  OpS.fieldG h hfd hge ha hU hg hd hx hv (fun u hu => by rw [St.int_eq hu]; exact K)
theorem OpS.fieldGb {a : Operand} {v : Value} {i off : Nat} {U : TypeId} {n : Bool} (h : St e w Γ Ω) (hfd : FD C.P T i off U) (hge : Get r off .bool x n) (ha : r.agg = true) (hU : Ty C.P U .bool) (hg : gd ops L g = some true) (hd : Nat.blt d C.fn.ntmps = true) (hx : ev L a = some v) (hv : V e.w.heap.size Γ f r v x)
    (K : Z ((d, .bool n) :: L) w) : OpS C ops ⟨some d, .field T a i, t, p, af, g⟩ L w Z :=
  OpS.fieldG h hfd hge ha hU hg hd hx hv (fun u hu => by rw [St.bool_eq hu]; exact K)
/-- The front of an owned slice. -/
theorem OpS.preS {a : Operand} {lo hi : Option Operand} {v : Value} {E : TypeId} {n : Int} {xs : List α} (h : St e w Γ Ω) (hp : Pick Ω (f, .slice E r v xs) Ω') (ht : C.P.underlying T = some (.slice E)) (hE : Ty C.P E r) (hg : gd ops L g = some true) (hd : Nat.blt d C.fn.ntmps = true) (hx : ev L a = some v)
    (hlo : bnd L lo 0 = some 0) (hhi : bnd L hi xs.length = some n) (h0 : 0 ≤ n) (h1 : n ≤ xs.length) (K : Z ((d, pre v n.toNat) :: L) w) : OpS C ops ⟨some d, .slice T a lo hi none, t, p, af, g⟩ L w Z := by
  obtain ⟨S, G, I, hst, ho⟩ := h
  obtain ⟨_, _, _, _, _, ⟨_, hown, _, _⟩, _⟩ := ho.pick hp
  obtain ⟨pa, cap, rfl, hlc⟩ : ∃ pa cap, v = .slice pa xs.length cap ∧ xs.length ≤ cap := by
    rcases hown.2 with ⟨rfl, hn⟩ | ⟨gb, cap, cur, rfl, _, _, hnc, _⟩
    · exact ⟨none, 0, by rw [hn], by omega⟩
    · exact ⟨_, cap, rfl, hnc⟩
  refine OpS.val (v := .slice pa n.toNat cap) (w' := w) hg rfl hd (fun ac hac => ?_) K
  have hsz := hE.size w
  have hnc : n ≤ (cap : Int) := by omega
  have hm : (Instr.sliceBounds true xs.length cap (lo.map ac.eval) (hi.map ac.eval) none).run C.P w = .ok (0, n.toNat, cap) w := by
    rcases bnd_run hac hlo with ⟨rfl, _⟩ | ⟨x1, q1, rfl, hx1⟩ <;> rcases bnd_run hac hhi with ⟨rfl, rfl⟩ | ⟨x2, q2, rfl, hx2⟩
    · simp [Instr.sliceBounds]
    · simp [Instr.sliceBounds, hx2, Instr.sliceBound, asIntOf, h0, hnc]
    · simp [Instr.sliceBounds, hx1, Instr.sliceBound, asIntOf]
    · have h1' : (0 : Int) ≤ max n 0 := by omega
      simp [Instr.sliceBounds, hx1, hx2, Instr.sliceBound, asIntOf, h0, hnc]
  have hcz : (if cap = 0 then pa else pa.map (·.add (0 * r.n))) = pa := by
    split
    · rfl
    · cases pa with
      | none => rfl
      | some a0 => rcases hown.2 with ⟨e1, _⟩ | ⟨gb, cap', cur, e1, _⟩
                   · simp at e1
                   · simp only [Value.slice.injEq, Option.some.injEq] at e1; rw [e1.1]; simp [add_none]
  simp [execOp, hac.ev hx, Instr.sliceAt, run_underlying ht, Instr.slice, hm, hsz]
  simpa using hcz
/-- append to the front of an owned slice, in place. -/
theorem OpS.appP {a b : Operand} {E : TypeId} {z s v : Value} {by_ k : Nat} {l1 l2 : List α} {f' : Bool} (h : St e w Γ Ω) (hp : Pick Ω (f, .slice E r s l1) Ω') (ht : C.P.underlying T = some (.slice E)) (ti : TI C.P E z r.n by_)
    (hg : gd ops L g = some true) (hd : Nat.blt d C.fn.ntmps = true) (hx : ev L a = some (pre s k)) (hy : ev L b = some v) (hv : V e.w.heap.size Γ f' r.slice v l2) (hf : (f' = true ∨ f = false) ∨ Pure r) (hk : k + l2.length ≤ l1.length)
    (K : ∀ w', St e w' Γ ((f, .slice E r s (lay l1 k l2)) :: Ω') → Z ((d, pre s (k + l2.length)) :: L) w') : OpS C ops ⟨some d, .call ⟨.builtin .append, #[a, b], #[T, T]⟩, t, p, af, g⟩ L w Z := by
  have h1 := h.pick hp
  have hs0 : ∀ S, Sat e.w.heap.size S w Γ → r.slice.val (fl f' e.w.heap.size S) w v l2 := fun S hs => hv S w hs
  obtain ⟨i, hi, hz, hsz, hby2⟩ := ti
  by_cases hl2 : l2 = []
  · subst hl2
    have hrun : (Builtin.append_ #[T, T] t #[pre s k, v]).run C.P w = .ok (pre s k) w := by
      obtain ⟨S, G, I, hs, G1, G2, _, _, _, ⟨xs, hown, _, _⟩, _⟩ := h1
      obtain ⟨pa, cap, e1, hlc, hcm, _⟩ := hs0 S hs
      simp only [List.cons.injEq, and_true] at e1
      subst e1
      rcases hown.2 with ⟨rfl, hn⟩ | ⟨gb, c, cur, rfl, _, hgb, hnc, hcm2, hcs, htake⟩
      · have : k = 0 := by simp at hk; omega
        subst this
        cases pa <;> simp [pre, Builtin.append_, run_underlying ht, Go.sizeOf, typeInfo, hi, Builtin.lenOf, Builtin.firstCells, loadCells, loadCellsFrom]
      · have hkc : k ≤ c := by simp at hk; omega
        cases pa <;> simp [pre, Builtin.append_, run_underlying ht, Go.sizeOf, typeInfo, hi, Builtin.lenOf, Builtin.firstCells, loadCells, loadCellsFrom, hkc, storeCells]
    have e : lay l1 k [] = l1 := by simp [lay]
    rw [e] at K
    exact OpS.val hg rfl hd (fun ac hac => by simp [execOp, resolve, invoke, builtin, hac.ev hx, hac.ev hy, hrun]) (K w h1)
  · have hb : ∃ gb cap cur, s = .slice (some ⟨gb, 0, none⟩) l1.length cap ∧ w.heap[gb]? = some (.cells cur E (0, 0)) ∧ l1.length ≤ cap ∧ cur.size = cap * r.n := by
      obtain ⟨S, G, I, hs, G1, G2, _, _, _, ⟨xs, hown, _, _⟩, _⟩ := h1
      rcases hown.2 with ⟨rfl, hn⟩ | ⟨gb, c, cur, rfl, _, hgb, hnc, hcm2, hcs, htake⟩
      · have := List.length_pos_iff.2 hl2; omega
      · exact ⟨gb, c, cur, rfl, hgb, hnc, hcs⟩
    obtain ⟨gb, cap, cur, rfl, hgb, hnc, hcs⟩ := hb
    have hc : ∃ b0 o0 cap0 cells, v = .slice (some ⟨b0, o0, none⟩) l2.length cap0 ∧ cellsAt w b0 o0 cells ∧ cells.length = l2.length * r.n ∧ (∀ u ∈ cells, u.oneCell' = true) ∧
        ∀ S, Sat e.w.heap.size S w Γ → Elems r (fl f e.w.heap.size S) w cells l2 := by
      obtain ⟨S, G, I, hs, _⟩ := h1
      obtain ⟨pa, cap0, e1, hlc, hcm, hcells⟩ := hs0 S hs
      simp only [List.cons.injEq, and_true] at e1
      subst e1
      obtain ⟨b0, o0, cells, rfl, _, hc, hel⟩ := hcells hl2
      refine ⟨b0, o0, cap0, cells, rfl, hc, hel.len, hel.one, fun S' hs' => ?_⟩
      obtain ⟨pa', cap', e1', _, _, hcells'⟩ := hs0 S' hs'
      simp only [List.cons.injEq, Value.slice.injEq, true_and, and_true] at e1'
      obtain ⟨b1, o1, cells1, e2, _, hc1, hel1⟩ := hcells' hl2
      rw [e2] at e1'
      simp only [Option.some.injEq, Addr.mk.injEq, and_true] at e1'
      obtain ⟨⟨rfl, rfl⟩, _⟩ := e1'
      have hlen : cells1.length = cells.length := hel1.len.trans hel.len.symm
      have hcc : cells1 = cells := by
        apply List.ext_getElem?
        intro j
        by_cases hj : j < cells.length
        · have hj1 : j < cells1.length := by omega
          have q1 := hc j _ (List.getElem?_eq_getElem hj)
          have q2 := hc1 j _ (List.getElem?_eq_getElem hj1)
          rw [q1] at q2
          rw [List.getElem?_eq_getElem hj, List.getElem?_eq_getElem hj1, q2]
        · rw [List.getElem?_eq_none (by omega), List.getElem?_eq_none (by omega)]
      subst hcc
      rcases hf with (rfl | rfl) | hp
      · exact hel1.stab (fun b hb => ⟨hb.1, fun _ => hb.2 rfl⟩) (fun _ _ => rfl)
      · exact hel1.stab (fun b hb => ⟨hb.1, fun h => by cases h⟩) (fun _ _ => rfl)
      · exact hp.elems hel1
    obtain ⟨b0, o0, cap0, cells, rfl, hcat, hcl, hone, hels⟩ := hc
    have hroom : k + l2.length ≤ cap := by omega
    have hmul : k * r.n + l2.length * r.n ≤ l1.length * r.n := by rw [← Nat.add_mul]; exact Nat.mul_le_mul_right _ hk
    have hmul2 : l1.length * r.n ≤ cap * r.n := Nat.mul_le_mul_right _ hnc
    have hrun := run_append_room (P := C.P) w T t E i ht hi gb k cap cur hgb ⟨b0, o0, none⟩ l2.length cap0 cells (by rw [hsz]; exact hcl) (fun j u hj => by rw [add_none]; exact hcat j u hj) hone hroom (by rw [hsz, hcl, hcs]; omega)
    rw [hsz] at hrun
    have hx' : ev L a = some (.slice (some ⟨gb, 0, none⟩) k cap) := hx
    refine OpS.val (v := .slice (some ⟨gb, 0, none⟩) (k + l2.length) cap) (w' := w.setRow gb (cur.toList.take (k * r.n) ++ cells ++ cur.toList.drop (k * r.n + cells.length)).toArray) hg rfl hd (fun ac hac => by simp [execOp, resolve, invoke, builtin, hac.ev hx', hac.ev hy, hrun]) (K _ (h1.write ?_))
    rintro S G1 hs ⟨xs, hown, hel, hG⟩ hdis _ hlt
    have hG' : ∀ c, G1 c ↔ c = gb := fun c => by rw [hG]; simp [Value.ownBlock, eq_comm]
    have hS : ∀ c, fl f e.w.heap.size S c → (w.setRow gb (cur.toList.take (k * r.n) ++ cells ++ cur.toList.drop (k * r.n + cells.length)).toArray).heap[c]? = w.heap[c]? :=
      fun c hc => setRow_other w gb c _ (fun h => hdis c hc.1 ((hG' c).2 h))
    rcases hown.2 with ⟨h0, _⟩ | ⟨b', cap', cur', e1, hb0, hh', hnc', hcm, hcs', htake⟩
    · cases h0
    simp only [Value.slice.injEq, Option.some.injEq, Addr.mk.injEq, and_true, true_and] at e1
    obtain ⟨rfl, rfl⟩ := e1
    rw [hh'] at hgb
    simp only [Option.some.injEq, Obj.cells.injEq, and_true] at hgb
    subst hgb
    have hels' := hels S hs
    refine ⟨G1, fun b hb => .inl hb, ⟨rfl, rfl, rfl, by simp⟩, fun c _ hc => setRow_other w gb c _ (fun h => hc ((hG' c).2 h)), xs.take (k * r.n) ++ cells ++ xs.drop (k * r.n + cells.length), ⟨?_, .inr ⟨gb, cap, _, by rw [lay_len hk], Nat.zero_le _, setRow_heap w gb _ _ E _ hh', by rw [lay_len hk]; exact hnc, hcm, ?_, ?_⟩⟩, Elems.lay (hel.stab (fun _ h => h) hS) (hels'.stab (fun _ h => h) hS), hG⟩
    · rw [lay_len hk]; simp only [List.length_append, List.length_take, List.length_drop, hown.1]; omega
    · simp only [List.size_toArray, List.length_append, List.length_take, List.length_drop, Array.length_toList]; omega
    · rw [lay_len hk]
      have hsz2 : l1.length * r.n ≤ cur'.toList.length := by simp [hcs]; exact hmul2
      have := splice_take (cs := cur'.toList) (c := cells) (off := k * r.n) (m := l1.length * r.n) (by omega) hsz2
      rw [htake] at this
      exact this
theorem sub_hi {l l' : List α} {m n : Int} (h : Lift.sub l m n = some l') : n ≤ l.length := (sub_some h).2.2.1
/-- A part of a slice that is only read, with a capacity that is told. -/
theorem OpS.sub3 {a hi mx : Operand} {lo : Option Operand} {v : Value} {E : TypeId} {m n k : Int} {q q2 : IntKind} {xs ys : List α} (h : St e w Γ Ω) (ht : C.P.underlying T = some (.slice E)) (hE : Ty C.P E r) (hg : gd ops L g = some true) (hd : Nat.blt d C.fn.ntmps = true) (hx : ev L a = some v)
    (hlo : bnd L lo 0 = some m) (hhi : ev L hi = some (.int q n)) (hmx : ev L mx = some (.int q2 k)) (hv : V e.w.heap.size Γ f r.slice v xs) (hs : Lift.sub xs m n = some ys) (hk : n ≤ k) (hk2 : k ≤ xs.length) (K : ∀ u, St e w ((f, .val r.slice u ys) :: Γ) Ω → Z ((d, u) :: L) w) :
    OpS C ops ⟨some d, .slice T a lo (some hi) (some mx), t, p, af, g⟩ L w Z := by
  obtain ⟨S, G, I, hst, ho⟩ := h
  obtain ⟨h0, h1, h2, rfl⟩ := sub_some hs
  obtain ⟨pa, cap, e1, hlc, hcm, hcells⟩ := hv S w hst
  simp only [List.cons.injEq, and_true] at e1
  subst e1
  have hyl : ((xs.drop m.toNat).take (n.toNat - m.toNat)).length = n.toNat - m.toNat := by simp; omega
  refine OpS.val (v := .slice (if k.toNat = m.toNat then pa else pa.map (·.add (m.toNat * r.n))) (n.toNat - m.toNat) (k.toNat - m.toNat)) (w' := w) hg rfl hd (fun ac hac => ?_) (K _ ⟨S, G, I, ⟨?_, hst⟩, ho⟩)
  · have hsz := hE.size w
    have hn0 : 0 ≤ n := by omega
    have hk0 : 0 ≤ k := by omega
    have hkc : k ≤ (cap : Int) := by omega
    have hnk : n ≤ max k 0 := by omega
    have hm : (Instr.sliceBounds true xs.length cap (lo.map ac.eval) (some (ac.eval hi)) (some (ac.eval mx))).run C.P w = .ok (m.toNat, n.toNat, k.toNat) w := by
      rw [hac.ev hhi, hac.ev hmx]
      have h1' : m ≤ max n 0 := by omega
      rcases bnd_run hac hlo with ⟨rfl, rfl⟩ | ⟨x1, q1, rfl, hx1⟩
      · simp [Instr.sliceBounds, Instr.sliceBound, asIntOf, hn0, hk0, hkc, hnk]
      · simp [Instr.sliceBounds, hx1, Instr.sliceBound, asIntOf, h0, h1', hn0, hk0, hkc, hnk]
    simp [execOp, hac.ev hx, Instr.sliceAt, run_underlying ht, Instr.slice, hm, hsz]
  · refine ⟨_, _, by rw [hyl], by rw [hyl]; omega, by omega, fun hne => ?_⟩
    have hnn : n.toNat - m.toNat ≠ 0 := fun h => hne (List.eq_nil_of_length_eq_zero (by rw [hyl, h]))
    have hxne : xs ≠ [] := by intro h; subst h; simp at h2; omega
    obtain ⟨bk, o, cells, rfl, hb, hc, hel⟩ := hcells hxne
    have hcm' : ¬ k.toNat = m.toNat := by omega
    refine ⟨bk, o + m.toNat * r.n, _, by simp [hcm', add_none], hb, ?_, (hel.drop m.toNat).take (n.toNat - m.toNat)⟩
    intro i v hi
    rw [List.getElem?_take] at hi
    split at hi
    · have := hc (m.toNat * r.n + i) v (by simpa [List.getElem?_drop] using hi)
      simpa [Nat.add_assoc] using this
    · cases hi
/-- A string of bytes. -/
def toStr (l : List Int) : List Int := strOf (strOfNums l)
theorem OpS.toStr {a : Operand} {src dst E : TypeId} {v : Value} {xs : List Int} (h : St e w Γ Ω) (hs : C.P.underlying src = some (.slice E)) (he : C.P.underlying E = some (.int .u8)) (hdst : C.P.underlying dst = some .string) (hg : gd ops L g = some true) (hd : Nat.blt d C.fn.ntmps = true)
    (hx : ev L a = some v) (hv : V e.w.heap.size Γ f (Rep.slice (.int .u8)) v xs) (K : ∀ u, St e w ((true, .val .str u (Lift.toStr xs)) :: Γ) Ω → Z ((d, u) :: L) w) : OpS C ops ⟨some d, .convert src dst a, t, p, af, g⟩ L w Z := by
  have h0 := h
  obtain ⟨S, G, I, hst, ho⟩ := h0
  obtain ⟨pa, cap, e1, _, _, h3⟩ := hv S w hst
  simp only [List.cons.injEq, and_true] at e1
  subst e1
  have hrun : (convert src dst (.slice pa xs.length cap)).run C.P w = .ok (.string (strOfNums xs)) w := by
    have nilcase : ∀ pa : Option Addr, (convert src dst (.slice pa 0 cap)).run C.P w = .ok (.string (strOfNums [])) w := by
      intro pa
      cases pa with
      | none => exact run_convert_bytes_nil w src E hs he 0 cap dst hdst
      | some a =>
        rw [run_convert_bytes_string w src dst E _ 0 cap hs he hdst]
        have := run_bytesToString (P := C.P) w a 0 cap [] (by simp [loadCells, loadCellsFrom])
        rw [this]; rfl
    by_cases hne : xs = []
    · subst hne; exact nilcase pa
    · obtain ⟨b, o, cells, rfl, _, hc, hel⟩ := h3 hne
      have key : ∀ {l : List Int} {cs : List Value}, Elems (Rep.int .u8) (fl f e.w.heap.size S) w cs l → ∀ (j : Nat) (x : Int), l[j]? = some x → cs[j]? = some (Value.int .u8 x) := by
        intro l
        induction l with
        | nil => intro cs _ j x h; simp at h
        | cons y l ih =>
          rintro cs ⟨c, cs', rfl, rfl, hr⟩ j x h
          cases j with
          | zero => simp at h; subst h; rfl
          | succ j => simpa using ih hr j x (by simpa using h)
      exact run_convert_bytes_arg w src E hs he b o xs.length cap xs rfl (fun i hi => hc i _ (key hel i _ (by simp [List.getD, List.getElem?_eq_getElem hi]))) dst hdst
  exact OpS.val hg rfl hd (fun ac hac => by simp [execOp, hac.ev hx, hrun]) (K _ (h.addΓ (fun _ _ => ⟨_, rfl, rfl⟩)))
theorem strOf_inj {a b : ByteArray} (h : strOf a = strOf b) : a = b := by
  obtain ⟨⟨la⟩⟩ := a
  obtain ⟨⟨lb⟩⟩ := b
  simp only [strOf] at h
  have key : ∀ l m : List UInt8, (l.map fun b => (b.toNat : Int)) = (m.map fun b => (b.toNat : Int)) → l = m := by
    intro l
    induction l with
    | nil => intro m h; cases m with | nil => rfl | cons _ _ => simp at h
    | cons x l ih =>
      intro m h
      cases m with
      | nil => simp at h
      | cons y m =>
        simp only [List.map_cons, List.cons.injEq] at h
        have : x = y := UInt8.toNat_inj.1 (by omega)
        rw [this, ih m h.2]
  rw [key la lb h]
theorem str_beq {a b : ByteArray} : (a.toList == b.toList) = (strOf a == strOf b) := by
  by_cases h : a = b
  · subst h; simp
  · have h1 : ¬ strOf a = strOf b := fun hc => h (strOf_inj hc)
    have h2 : ¬ a.toList = b.toList := fun hc => h (by
      rw [ByteArray.toList_eq, ByteArray.toList_eq] at hc
      exact strOf_inj (by unfold strOf; rw [hc]))
    rw [beq_eq_false_iff_ne.2 h1, beq_eq_false_iff_ne.2 h2]
theorem OpS.eqs {tx ty : TypeId} {a b : Operand} {u v : Value} {m n : List Int} {f' : Bool} (h : St e w Γ Ω) (hg : gd ops L g = some true) (hd : Nat.blt d C.fn.ntmps = true) (hx : ev L a = some u) (hy : ev L b = some v)
    (hu : V e.w.heap.size Γ f .str u m) (hv : V e.w.heap.size Γ f' .str v n) (_ht : C.P.underlying tx = some .string) (K : Z ((d, .bool (m == n)) :: L) w) : OpS C ops ⟨some d, .binOp .eql tx a b ty, t, p, af, g⟩ L w Z := by
  obtain ⟨S, G, I, hs, _⟩ := h
  obtain ⟨s1, e1, rfl⟩ := hu S w hs
  obtain ⟨s2, e2, rfl⟩ := hv S w hs
  simp only [List.cons.injEq, and_true] at e1 e2
  subst e1; subst e2
  rw [← str_beq] at K
  exact OpS.val hg rfl hd (fun ac hac => by simp [execOp, hac.ev hx, hac.ev hy, eqGuard, binOp, Op.stringOp]) K
theorem OpS.nes {tx ty : TypeId} {a b : Operand} {u v : Value} {m n : List Int} {f' : Bool} (h : St e w Γ Ω) (hg : gd ops L g = some true) (hd : Nat.blt d C.fn.ntmps = true) (hx : ev L a = some u) (hy : ev L b = some v)
    (hu : V e.w.heap.size Γ f .str u m) (hv : V e.w.heap.size Γ f' .str v n) (_ht : C.P.underlying tx = some .string) (K : Z ((d, .bool (m != n)) :: L) w) : OpS C ops ⟨some d, .binOp .neq tx a b ty, t, p, af, g⟩ L w Z := by
  obtain ⟨S, G, I, hs, _⟩ := h
  obtain ⟨s1, e1, rfl⟩ := hu S w hs
  obtain ⟨s2, e2, rfl⟩ := hv S w hs
  simp only [List.cons.injEq, and_true] at e1 e2
  subst e1; subst e2
  unfold bne at K
  rw [← str_beq] at K
  exact OpS.val hg rfl hd (fun ac hac => by simp [execOp, hac.ev hx, hac.ev hy, eqGuard, binOp, Op.stringOp]) K
/-! ### calls of function values -/
theorem OpS.callPF {kf : FuncId} {fn : Func} {x : Operand} {fl cl : List Value} {as : List Operand} {vs : List Value} {at_ : Array TypeId} {Γa : List (Bool × Atom)} {R : Shape} (h : St e w Γ Ω) (hf : C.P.funcs[kf]? = some fn) (hb : fn.body.isSome = true) (hn : (fn.name == "runtime.NumGoroutine") = false)
    (hg : gd ops L g = some true) (hd : Nat.blt d C.fn.ntmps = true) (hx : ev L x = some (.func (.func kf) fl.toArray cl.toArray)) (hv : as.map (ev L) = vs.map some) (hs : Spec C.P kf (fl ++ vs ++ cl).toArray w Γa [] R) (ha : Args e.w.heap.size Γ Ω Γa)
    (K : ∀ v w' Γr Ωr Ωo, R v Γr Ωr Ωo → (allT Γr = true → allT Ωr = true → St e w' (Γr ++ Γ) (Ωr ++ Ω)) → Z ((d, v) :: L) w') :
    OpS C ops ⟨some d, .call ⟨.value x, as.toArray, at_⟩, t, p, af, g⟩ L w Z :=
  OpS.callPG h hg rfl hd (fun ac hac => exec_callF hac hf hb hn hx hv w) hs ha K
theorem OpS.callOF {kf : FuncId} {fn : Func} {x : Operand} {fl cl : List Value} {as : List Operand} {vs : List Value} {at_ : Array TypeId} {Γa : List (Bool × Atom)} {Ωa : List (Bool × HAtom)} {R : Shape} (h : St e w Γ (Ωa ++ Ω)) (hf : C.P.funcs[kf]? = some fn) (hb : fn.body.isSome = true) (hn : (fn.name == "runtime.NumGoroutine") = false)
    (hg : gd ops L g = some true) (hd : Nat.blt d C.fn.ntmps = true) (hx : ev L x = some (.func (.func kf) fl.toArray cl.toArray)) (hv : as.map (ev L) = vs.map some) (hs : Spec C.P kf (fl ++ vs ++ cl).toArray w Γa Ωa R) (hfl : allF Ωa = true) (ha : ArgsI e.w.heap.size Γ Γa)
    (K : ∀ v w' Γr Ωr Ωo, R v Γr Ωr Ωo → St e w' (Γr ++ Γ) (Ωr ++ (Ωo ++ Ω)) → Z ((d, v) :: L) w') :
    OpS C ops ⟨some d, .call ⟨.value x, as.toArray, at_⟩, t, p, af, g⟩ L w Z :=
  OpS.callOG h hg rfl hd (fun ac hac => exec_callF hac hf hb hn hx hv w) hs hfl ha K
/-- A function value with what it keeps. -/
theorem OpS.mkf {kf : FuncId} {fs cs : List Operand} {fl cl : List Value} (hg : gd ops L g = some true) (hd : Nat.blt d C.fn.ntmps = true) (hv : fs.map (ev L) = fl.map some) (hv2 : cs.map (ev L) = cl.map some)
    (K : Z ((d, .func (.func kf) fl.toArray cl.toArray) :: L) w) : OpS C ops ⟨some d, .makeFunc (.func kf) fs.toArray cs.toArray, t, p, af, g⟩ L w Z := by
  refine OpS.val hg rfl hd (fun ac hac => ?_) K
  have key : ∀ (as : List Operand) (vs : List Value), as.map (ev L) = vs.map some → as.map ac.eval = vs := by
    intro as
    induction as with
    | nil => intro vs h; cases vs with
      | nil => rfl
      | cons _ _ => cases h
    | cons x as ih => intro vs h; cases vs with
      | nil => cases h
      | cons v vs =>
        simp only [List.map_cons, List.cons.injEq] at h
        rw [List.map_cons, ih vs h.2, hac.ev h.1]
  simp [execOp, Instr.makeFunc, key fs fl hv, key cs cl hv2]
end
end Lift
