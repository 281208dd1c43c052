/- More rules: strings, copies, tests for nil, arrays. Over any program. No conditions. -/
import Derived.Test.YtedddoifbhcinaaLiftJ
import Derived.Lib.BytesEntry
import Derived.Laws.Externs
import Derived.Lib.AppendZerosOnto
set_option linter.unusedVariables false
set_option linter.unusedSimpArgs false
namespace Lift
open Go

theorem idx_ne {α : Type} {l : List α} {i : Int} {x : α} (h : idx l i = some x) : l ≠ [] := by
  intro e; subst e; have := idx_some h; simp at this
theorem mk_fits {α : Type} {b : Nat} {x : α} {n : Int} {l : List α} (h : mk b x n = some l) : decide (n.toNat * b ≤ 140737488355328) = true := by
  simpa using (mk_some h).2.1
theorem Run.retP {P : Program} {fk : FuncId} {fn : Func} {e : En} {R : Shape} {hf : P.funcs[fk]? = some fn} {k : List Item} {L : List (Nat × Value)} {w : World} {vs : List Value} {rs : List ResultVar} (hrs : fn.results = rs.toArray) (h : Res L P e w rs vs) (K : Post e R (pkV vs) w) :
    Run ⟨P, fk, fn, Post e R, hf, none, none⟩ (.code .ret :: k) L w := Run.ret rfl rfl (Res.run (C := ⟨P, fk, fn, Post e R, hf, none, none⟩) hrs h) K
theorem Run.finP {P : Program} {fk : FuncId} {fn : Func} {e : En} {R : Shape} {hf : P.funcs[fk]? = some fn} {L : List (Nat × Value)} {w : World} {vs : List Value} {rs : List ResultVar} (hrs : fn.results = rs.toArray) (h : Res L P e w rs vs) (K : Post e R (pkV vs) w) :
    Run ⟨P, fk, fn, Post e R, hf, none, none⟩ [] L w := Run.fin rfl rfl (Res.run (C := ⟨P, fk, fn, Post e R, hf, none, none⟩) hrs h) K

/-- Component of a tuple. -/
def tcomp : Value → Nat → Value
  | .tuple vs, i => vs.getD i undef
  | _, _ => undef
/-- A value that is known. -/
def Atom.eqv (v v' : Value) : Atom := ⟨fun _ _ => v = v', fun _ _ h => h⟩
theorem St.dup {e : En} {w : World} {Γ : List (Bool × Atom)} {Ω : List (Bool × HAtom)} {x : Bool × Atom} (h : St e w Γ Ω) (ha : At Γ x) : St e w (x :: Γ) Ω :=
  h.addΓ (fun _ hs => hs.at ha)
theorem St.eqv {e : En} {w : World} {Γ : List (Bool × Atom)} {Ω : List (Bool × HAtom)} {v v' : Value} (hv : v = v') (h : St e w Γ Ω) : St e w ((true, .eqv v v') :: Γ) Ω :=
  h.addΓ (fun _ _ => hv)
section
variable {C : Cx} {L : List (Nat × Value)} {w : World} {ops : Array Oper} {Z : List (Nat × Value) → World → Prop} {d : Nat} {t : TypeId} {p : String} {af : Array Edge} {g : Option (Nat × Bool)}
variable {e : En} {Γ : List (Bool × Atom)} {Ω : List (Bool × HAtom)} {f : Bool}
theorem OpS.extT {x : Operand} {i : Nat} {vs : Array Value} {v u : Value} (h : St e w Γ Ω) (ha : At Γ (f, .eqv v (.tuple vs))) (hg : gd ops L g = some true) (hd : Nat.blt d C.fn.ntmps = true) (hx : ev L x = some v) (hi : vs[i]? = some u)
    (K : Z ((d, u) :: L) w) : OpS C ops ⟨some d, .extract x i, t, p, af, g⟩ L w Z := by
  obtain ⟨S, G, I, hs, hO⟩ := h
  have hv : v = .tuple vs := hs.at ha
  exact OpS.ext hg hd (by rw [hx, hv]) hi K
end
def factV : List Sp → (Nat → Value) → Nat → List (Bool × Atom)
  | [], _, _ => []
  | sp :: r, q, i => sp.fact (sp.cur (q i)) ++ factV r q (i + 1)
def outV : List Sp → (Nat → Value) → Nat → List (Nat × Value)
  | [], _, _ => []
  | sp :: r, q, i => sp.slot (q i) ++ outV r q (i + 1)
theorem drawV_eq (q : Nat → Value) : ∀ (sps : List Sp) (vs : List Value) (i : Nat), vs.length = sps.length → (∀ j, j < vs.length → q (i + j) = vs.getD j undef) → factL sps vs = factV sps q i ∧ outL sps vs = outV sps q i
  | [], vs, i, h, _ => by cases vs <;> simp [factL, outL, factV, outV]
  | sp :: r, [], i, h, _ => by simp at h
  | sp :: r, v :: vs, i, h, hq => by
    have h0 : q i = v := by simpa using hq 0 (by simp)
    obtain ⟨a, c⟩ := drawV_eq q r vs (i + 1) (by simpa using h) (fun j hj => by have := hq (j + 1) (by simpa using hj); rw [Nat.add_assoc, Nat.add_comm 1 j, this]; simp)
    simp only [factL, outL, factV, outV, h0, a, c]; simp
/-- A region whose order is drawn; the values by the places of their operations. -/
theorem Run.drawV {C : Cx} {k : List Item} {L : List (Nat × Value)} {w : World} {e : En} {Γ : List (Bool × Atom)} {id : Nat} {l : List Oper} {Ωs : List (Bool × HAtom)} (sps : List Sp) (deps : List (List Nat)) (Ωi : List (List (Bool × HAtom))) (fin : List Nat) (hm : C.P.follows .mixedOrders = true) (hle : Nat.ble sps.length l.toArray.size = true) (hok : drawOk l.toArray L sps deps Ωi.length = true) (hfin : finOk sps Ωi.length fin = true)
    (h : St e w Γ (Ωi.flatten ++ Ωs)) (T : AllOb C e l.toArray L Γ Ωs Ωi sps deps 0 sps deps l)
    (K : ∀ (q : Nat → Value) (w' : World), (∀ i sp j, sps[i]? = some sp → sp.same = some j → q i = q j) → St e w' (factV sps q 0 ++ Γ) (toks Ωi sps deps q fin ++ Ωs) → RunL C l.toArray (l.drop sps.length) sps.length k (outV sps q 0 ++ L) w') :
    Run C (.code (.region id l.toArray true) :: k) L w := by
  refine Run.draw sps deps Ωi fin hm hle hok hfin h T (fun vs w' hl hsm hst => ?_)
  obtain ⟨a, c⟩ := drawV_eq (fun j => vs.getD j undef) sps vs 0 hl (fun j _ => by simp)
  rw [a] at hst
  rw [c]
  exact K _ w' hsm hst
section
variable {C : Cx} {L : List (Nat × Value)} {w : World} {ops : Array Oper} {Z : List (Nat × Value) → World → Prop} {d : Nat} {t T : TypeId} {p : String} {af : Array Edge} {g : Option (Nat × Bool)}
variable {e : En} {Γ : List (Bool × Atom)} {Ω Ω' : List (Bool × HAtom)} {f : Bool} {α β : Type} {r : Rep α} {x : α}

/-- An array literal that gives every element. -/
theorem OpS.buildA {E : TypeId} {m : Nat} {z zT : Value} {sz by_ szT byT : Nat} {ps : List (Nat × Operand)} {xs : List α} (h : St e w Γ Ω) (ht : C.P.underlying T = some (.array m E)) (ti : TI C.P E z sz by_) (hsz : sz = r.n) (tiT : TI C.P T zT szT byT) (hzT : zT.cells.size = m * r.n)
    (hg : gd ops L g = some true) (hd : Nat.blt d C.fn.ntmps = true) (he : Els L e.w.heap.size Γ f r 0 ps xs) (hn : xs.length = m)
    (K : ∀ u, St e w ((f, .val (r.arr m) u xs) :: Γ) Ω → Z ((d, u) :: L) w) : OpS C ops ⟨some d, .build T ps.toArray, t, p, af, g⟩ L w Z := by
  obtain ⟨S, G, I, hs, ho⟩ := h
  obtain ⟨cs, h1, h2⟩ := run_fill hs he (fun o => (ev L o).getD undef) (fun o v h => by simp [h]) [] zT.cells.toList (by simp) (by simp [hn, hzT])
  have hsame : ∀ ac : Act, Agree C.fn.ntmps L ac → (ps.map fun q => (q.1, ac.eval q.2)) = ps.map fun q => (q.1, (ev L q.2).getD undef) := by
    intro ac ha
    have key : ∀ {i : Nat} {ps : List (Nat × Operand)} {xs : List α}, Els L e.w.heap.size Γ f r i ps xs → (ps.map fun q => (q.1, ac.eval q.2)) = ps.map fun q => (q.1, (ev L q.2).getD undef) := by
      intro i ps xs h
      induction h with
      | nil => rfl
      | cons h _ _ ih => simp only [List.map_cons, ih, ha.ev h, h, Option.getD_some]
    exact key he
  have hzv := run_zeroValue tiT w
  have hsize := run_sizeOf ti w
  rw [hsz] at hsize
  refine OpS.val (v := .agg cs.toArray) hg rfl hd (fun ac hac => ?_) (K _ ⟨S, G, I, ⟨⟨cs, rfl, hn, h2⟩, hs⟩, ho⟩)
  simp only [List.nil_append, Array.toArray_toList] at h1
  simp only [execOp, List.map_toArray, hsame ac hac, Instr.build, Sem.run_bind, hzv, Result.andThen_ok, run_underlying ht, hsize, h1, Sem.run_pure]

/-- Is a slice nil? If so, it is empty. -/
theorem run_eqIn_nil {P : Program} {tx : TypeId} {E : TypeId} (n : Nat) {pa : Option Addr} {l c : Nat} (ht : P.underlying tx = some (.slice E)) (w : World) : (Op.equalIn (n + 1) tx (.slice pa l c) (.slice none 0 0)).run P w = .ok pa.isNone w := by
  cases pa <;> simp [Op.equalIn, run_underlying ht]
theorem run_eq_nil {P : Program} {tx : TypeId} {E : TypeId} {pa : Option Addr} {l c : Nat} (ht : P.underlying tx = some (.slice E)) (w : World) : (Op.equal tx (.slice pa l c) (.slice none 0 0)).run P w = .ok pa.isNone w :=
  run_eqIn_nil 9999 ht w
theorem OpS.snil {tx ty : TypeId} {E : TypeId} {a : Operand} {v : Value} {xs : List α} (h : St e w Γ Ω) (ht : C.P.underlying tx = some (.slice E)) (hg : gd ops L g = some true) (hd : Nat.blt d C.fn.ntmps = true) (hx : ev L a = some v) (hv : V e.w.heap.size Γ f r.slice v xs)
    (K : ∀ b : Bool, (b = true → xs = []) → Z ((d, .bool b) :: L) w) : OpS C ops ⟨some d, .binOp .eql tx a (.const (.slice none 0 0)) ty, t, p, af, g⟩ L w Z := by
  obtain ⟨S, G, I, hs, ho⟩ := h
  obtain ⟨pa, cap, e1, _, _, h3⟩ := hv S w hs
  simp only [List.cons.injEq, and_true] at e1
  subst e1
  refine OpS.val hg rfl hd (fun ac hac => ?_) (K pa.isNone (fun hb => ?_))
  · have hc : ac.eval (.const (.slice none 0 0)) = .slice none 0 0 := rfl
    simp only [execOp, hac.ev hx, hc, Sem.run_bind]
    have hG : (eqGuard .eql tx a (.const (.slice none 0 0)) (.slice pa xs.length cap) (.slice none 0 0)).run C.P w = .ok () w := by unfold eqGuard; split <;> rfl
    simp only [hG, Result.andThen_ok, binOp, Sem.run_bind, run_eq_nil ht, Sem.run_pure]
  · cases xs with
    | nil => rfl
    | cons y ys =>
      obtain ⟨b, o, cells, hp, _⟩ := h3 (by simp)
      rw [hp] at hb; cases hb
/-- A conversion of a slice to a type of the same form. -/
theorem OpS.iown_ne {xs : List α} {i : Int} (h : idx xs i = some x) : xs ≠ [] := idx_ne h
end
section
variable {C : Cx} {L : List (Nat × Value)} {w : World} {ops : Array Oper} {Z : List (Nat × Value) → World → Prop} {d : Nat} {t T : TypeId} {p : String} {af : Array Edge} {g : Option (Nat × Bool)}
variable {e : En} {Γ : List (Bool × Atom)} {Ω Ω' : List (Bool × HAtom)} {f f' : Bool} {α β : Type} {r : Rep α} {x : α}

theorem exec_ext {P : Program} {N : Nat} {L : List (Nat × Value)} {a : Act} (ha : Agree N L a) {kf : FuncId} {fn : Func} {en : Array Value → Sem Value} (hf : P.funcs[kf]? = some fn) (hname : (fn.name == "runtime.NumGoroutine") = false) (hb : fn.body.isNone = true) (hn : Extern.findNext fn = none) (he : Extern.find fn = some en)
    {as : List Operand} {vs : List Value} {at_ : Array TypeId} {d : Option Tmp} {t : TypeId} {p : String} {af : Array Edge} {g : Option (Nat × Bool)} (hv : as.map (ev L) = vs.map some) {v : Value} {w : World} (hr : (en vs.toArray).run P w = .ok v w) :
    (execOp a.eval ⟨d, .call ⟨.value (.func kf), as.toArray, at_⟩, t, p, af, g⟩).run P w = .ok (.value v) w := by
  have hm : as.map a.eval = vs := by
    have : ∀ (as : List Operand) (vs : List Value), as.map (ev L) = vs.map some → as.map a.eval = vs := by
      intro as
      induction as with
      | nil => intro vs h; cases vs with
        | nil => rfl
        | cons _ _ => cases h
      | cons x as ih => intro vs h; cases vs with
        | nil => cases h
        | cons v vs =>
          simp only [List.map_cons, List.cons.injEq] at h
          rw [List.map_cons, ih vs h.2, ha.ev h.1]
    exact this as vs hv
  have hcf := run_callFunc_extern hf hname hb hn he vs.toArray w
  simp only [execOp, resolve, Act.eval, Deferred.ofValue, List.map_toArray, hm, Sem.run_bind, Sem.run_pure, Result.andThen_ok, invoke]
  simp [hcf, hr]

def bytesI (l : List Int) : ByteArray := ⟨(Lib.bytesOf l).toArray⟩
theorem run_bytesOf {P : Program} {S : Blks} {w : World} {v : Value} {xs : List Int} (hv : (Rep.slice (.int .u8)).val S w v xs) : (Extern.Bytes.bytesOf v).run P w = .ok (bytesI xs) w := by
  obtain ⟨pa, cap, e1, _, _, h3⟩ := hv
  simp only [List.cons.injEq, and_true] at e1
  subst e1
  cases xs with
  | nil => cases pa with
    | none => rfl
    | some a => rfl
  | cons y ys =>
    obtain ⟨b, o, cells, rfl, _, hc, hel⟩ := h3 (by simp)
    have key : ∀ {l : List Int} {cs : List Value}, Elems (Rep.int .u8) S w cs l → ∀ (j : Nat) (x : Int), l[j]? = some x → cs[j]? = some (Value.int .u8 x) := by
      intro l
      induction l with
      | nil => intro cs _ j x h; simp at h
      | cons y l ih =>
        rintro cs ⟨c, cs', rfl, rfl, hr⟩ j x h
        cases j with
        | zero => simp at h; subst h; rfl
        | succ j => simpa using ih hr j x (by simpa using h)
    have hl := Lib.run_loadBytesX (P := P) w (y :: ys) ⟨b, o, none⟩ .empty (fun j x hj => by rw [add_none]; exact hc j _ (key hel j x hj))
    show (Extern.Bytes.loadBytes ⟨b, o, none⟩ (y :: ys).length .empty).run P w = _
    rw [hl]
    congr 1
    apply ByteArray.ext
    simp [bytesI]

/-- What bytes.Compare gives. -/
def cmpB (a b : List Int) : Int := Extern.BytealgCompare.cmp (bytesI a) (bytesI b)
theorem OpS.cmpB {kf : FuncId} {fn : Func} {a b : Operand} {va vb : Value} {xs ys : List Int} {at_ : Array TypeId} (h : St e w Γ Ω) (hf : C.P.funcs[kf]? = some fn) (hname : (fn.name == "runtime.NumGoroutine") = false) (hb : fn.body.isNone = true) (hn : Extern.findNext fn = none) (he : Extern.find fn = some Extern.BytealgCompare.compare)
    (hg : gd ops L g = some true) (hd : Nat.blt d C.fn.ntmps = true) (hx : ev L a = some va) (hy : ev L b = some vb) (hv : V e.w.heap.size Γ f (Rep.slice (.int .u8)) va xs) (hv' : V e.w.heap.size Γ f' (Rep.slice (.int .u8)) vb ys)
    (K : Z ((d, .int .i64 (cmpB xs ys)) :: L) w) : OpS C ops ⟨some d, .call ⟨.value (.func kf), #[a, b], at_⟩, t, p, af, g⟩ L w Z := by
  obtain ⟨S, G, I, hs, ho⟩ := h
  have h1 := run_bytesOf (P := C.P) (hv S w hs)
  have h2 := run_bytesOf (P := C.P) (hv' S w hs)
  have hr : (Extern.BytealgCompare.compare [va, vb].toArray).run C.P w = .ok (.int .i64 (Lift.cmpB xs ys)) w := by
    show (do pure (goInt (Extern.BytealgCompare.cmp (← Extern.Bytes.bytesOf va) (← Extern.Bytes.bytesOf vb))) : Sem Value).run C.P w = _
    simp only [Sem.run_bind, h1, h2, Result.andThen_ok, Sem.run_pure, goInt, Lift.cmpB]
  exact OpS.val hg rfl hd (fun ac hac => exec_ext (as := [a, b]) (vs := [va, vb]) hac hf hname hb hn he (by simp [hx, hy]) hr) K

theorem OpS.mini {a b : Operand} {q : IntKind} {m n : Int} {at_ : Array TypeId} (hg : gd ops L g = some true) (hd : Nat.blt d C.fn.ntmps = true) (hx : ev L a = some (.int q m)) (hy : ev L b = some (.int q n))
    (K : Z ((d, .int q (min m n)) :: L) w) : OpS C ops ⟨some d, .call ⟨.builtin .min, #[a, b], at_⟩, t, p, af, g⟩ L w Z := by
  have e : (if n < m then n else m) = min m n := by simp only [Int.min_def]; split <;> split <;> omega
  exact OpS.val hg rfl hd (fun ac hac => by simp [execOp, resolve, invoke, builtin, Builtin.min_, Builtin.min2, hac.ev hx, hac.ev hy, e]) K
theorem OpS.maxi {a b : Operand} {q : IntKind} {m n : Int} {at_ : Array TypeId} (hg : gd ops L g = some true) (hd : Nat.blt d C.fn.ntmps = true) (hx : ev L a = some (.int q m)) (hy : ev L b = some (.int q n))
    (K : Z ((d, .int q (max m n)) :: L) w) : OpS C ops ⟨some d, .call ⟨.builtin .max, #[a, b], at_⟩, t, p, af, g⟩ L w Z := by
  have e : (if n > m then n else m) = max m n := by simp only [Int.max_def]; split <;> split <;> omega
  exact OpS.val hg rfl hd (fun ac hac => by simp [execOp, resolve, invoke, builtin, Builtin.max_, Builtin.max2, hac.ev hx, hac.ev hy, e]) K
/-- '[]byte("..")' of a constant: the literal's row gets a mark behind its end. -/
theorem run_conv_mark {P : Program} {w : World} {T E : TypeId} {g n c : Nat} {cur : Array Value} {fz : Nat × Nat} (ht : P.underlying T = some (.slice E)) (he : P.underlying E = some (.int .u8)) (hg : w.heap[g]? = some (.cells cur E fz)) :
    (convert T T (.slice (some ⟨g, 0, none⟩) n c)).run P w = .ok (.slice (some ⟨g, 0, none⟩) n c) (w.freeze ⟨g, cur.size, none⟩ 1) := by
  have hsh : w.shape? g = some (E, cur.size) := by unfold World.shape?; rw [hg]
  simp [convert, run_underlying ht, run_underlying he, markStringish, hsh]
theorem freeze_heap {w : World} {g k : Nat} {cur : Array Value} {E : TypeId} {fz : Nat × Nat} (hg : w.heap[g]? = some (.cells cur E fz)) : (∃ fz', (w.freeze ⟨g, k, none⟩ 1).heap[g]? = some (.cells cur E fz')) ∧ ∀ b, b ≠ g → (w.freeze ⟨g, k, none⟩ 1).heap[b]? = w.heap[b]? := by
  constructor
  · obtain ⟨lo, hi⟩ := fz
    simp [World.freeze, Array.getElem?_modify, hg]
  · intro b hb
    simp [World.freeze, Array.getElem?_modify, Ne.symm hb]
theorem OpS.convS {a : Operand} {E : TypeId} {v : Value} {xs : List α} (h : St e w Γ Ω) (hp : Pick Ω (f, .slice E r v xs) Ω') (hne : xs ≠ []) (ht : C.P.underlying T = some (.slice E)) (he : C.P.underlying E = some (.int .u8)) (hg : gd ops L g = some true) (hd : Nat.blt d C.fn.ntmps = true) (hx : ev L a = some v)
    (K : ∀ w', St e w' ((f, .val r.slice v xs) :: Γ) Ω' → Z ((d, v) :: L) w') : OpS C ops ⟨some d, .convert T T a, t, p, af, g⟩ L w Z := by
  have h1 := h.pick hp
  obtain ⟨S, G, I, hs, G1, G2, k1, k2, k3, ⟨cs, hown, hel, hG⟩, k5⟩ := h1
  rcases hown.2 with ⟨rfl, hn⟩ | ⟨gb, cap, cur, rfl, _, hgh, hnc, hcm, hcs, htake⟩
  · exact absurd (List.eq_nil_of_length_eq_zero hn) hne
  · have hg1 : G1 gb := (hG gb).2 rfl
    have hG1 : ∀ b, G1 b → b = gb := fun b hb => by have := (hG b).1 hb; simp [Value.ownBlock] at this; exact this.symm
    obtain ⟨⟨fz', hnew⟩, hkeep⟩ := freeze_heap (k := cur.size) hgh
    have hsz : (w.freeze ⟨gb, cur.size, none⟩ 1).heap.size = w.heap.size := by simp [World.freeze]
    have kS : ∀ b, S b → (w.freeze ⟨gb, cur.size, none⟩ 1).heap[b]? = w.heap[b]? := fun b hb => hkeep b (fun e => I.dis b hb ((k1 b).2 (.inl (e ▸ hg1))))
    have kG : ∀ b, G2 b → (w.freeze ⟨gb, cur.size, none⟩ 1).heap[b]? = w.heap[b]? := fun b hb => hkeep b (fun e => k2 gb hg1 (e ▸ hb))
    have hsub : ∀ b, S b → S b ∨ G1 b := fun b hb => .inl hb
    have hlen : cs.length = xs.length * r.n := hown.1
    refine OpS.val hg rfl hd (fun ac hac => ?_) (K (w.freeze ⟨gb, cur.size, none⟩ 1) ⟨fun b => S b ∨ G1 b, G2, ⟨⟨I.step.os, I.step.tape, I.step.output, by rw [hsz]; exact I.step.size, fun b hb hn => ?_⟩, ?_, fun b hb => by rw [hsz]; exact I.gb b ((k1 b).2 (.inr hb)), ?_, ?_, fun b hb => I.g0 b ((k1 b).2 (.inr hb))⟩, ⟨?_, hs.st hsub kS⟩, k5.st hsub kS kG⟩)
    · simp only [execOp, hac.ev hx, Sem.run_bind, run_conv_mark ht he hgh, Result.andThen_ok, Sem.run_pure]
    · by_cases hbg : b = gb
      · subst hbg
        rcases I.g0 b ((k1 b).2 (.inl hg1)) with h | h
        · exact absurd h hn
        · omega
      · rw [hkeep b hbg]; exact I.step.block b hb hn
    · rintro b (hb | hb)
      · rw [hsz]; exact I.sb b hb
      · rw [hsz]; exact I.gb b ((k1 b).2 (.inl hb))
    · rintro b (hb | hb) hg2
      · exact I.dis b hb ((k1 b).2 (.inr hg2))
      · exact k2 b hb hg2
    · rintro b (hb | hb)
      · exact I.s0 b hb
      · exact .inr (I.g0 b ((k1 b).2 (.inl hb)))
    · refine ⟨some ⟨gb, 0, none⟩, cap, rfl, hnc, hcm, fun _ => ⟨gb, 0, cs, rfl, ⟨.inr hg1, fun hf => k3 gb hf hg1⟩, ?_, hel.stab (fl.mono hsub) (fun b hb => kS b hb.1)⟩⟩
      have := cellsAt_own hnew (xs := cs) (by rw [hlen]; exact htake) 0 cs.length
      simpa using this

theorem zeroCells_eq (z : Array Value) (n : Nat) (hz : 0 < z.size) : (Builtin.zeroCells z n).toList = (List.replicate n z.toList).flatten := by
  have h : Builtin.zeroCells z n = madeCells z.toList.toArray (n * z.toList.length) := by simp [Builtin.zeroCells, madeCells]
  rw [h]; exact madeCells_eq z.toList n (by simpa using hz)
theorem run_append_room_zeros {P : Program} {w : World} (t tn ty E : TypeId) (i : TypeInfo) (z : Value) (kq kn : IntKind) (ht : P.underlying t = some (.slice E)) (htn : P.underlying tn = some (.int kn)) (hi : P.info? E = some i) (hz : i.zero = some z)
    (g sLen sCap : Nat) (cur : Array Value) (hg : w.heap[g]? = some (.cells cur E (0, 0))) (k : Nat) (h0 : 0 < k) (hs : 0 < i.size) (news : List Value) (hnews : (Builtin.zeroCells z.cells k).toList = news) (hnl : news.length = k * i.size) (h1 : ∀ u ∈ news, u.oneCell' = true)
    (hk63 : (k : Int) ≤ 9223372036854775807) (h48 : k * i.bytes ≤ 281474976710656) (hroom : sLen + k ≤ sCap) (hfit : sLen * i.size + news.length ≤ cur.size) :
    (Builtin.append_ #[t, tn] ty #[.slice (some ⟨g, 0, none⟩) sLen sCap, .int kq k]).run P w =
      .ok (.slice (some ⟨g, 0, none⟩) (sLen + k) sCap) (w.setRow g (cur.toList.take (sLen * i.size) ++ news ++ cur.toList.drop (sLen * i.size + news.length)).toArray) := by
  have hst := run_storeCells_at P g (sLen * i.size) E news 0 cur w hg (by simpa using hfit) h1
  simp only [Nat.add_zero] at hst
  have hw : IntKind.i64.wrap (k : Int) = k := by rw [IntKind.wrap_i64]; omega
  have h48i : ¬ (281474976710656 < (k : Int) * (i.bytes : Int)) := by rw [← Int.natCast_mul]; omega
  have hneg : ¬ ((k : Int) < 0) := by omega
  have hns : ¬ (k * i.size = 0) := Nat.mul_ne_zero (by omega) (by omega)
  simp [Builtin.append_, run_underlying ht, run_underlying htn, Go.sizeOf, typeInfo, zeroValue, hi, hz, asInt, asIntOf, hw, hroom, hneg, hns, h48i, hnews, Addr.add_lit, hst]
theorem run_appZ {P : Program} {U V E : TypeId} {z s : Value} {by_ : Nat} {l1 : List α} {x : α} {xs : List Value} {S : Blks} {q kn : IntKind} {k : Nat} (ht : P.underlying T = some (.slice E)) (hU : P.underlying V = some (.int kn)) (ti : TI P E z r.n by_) (hzr : Zr r z.cells.toList x) (hzl : z.cells.size = r.n) (hpos : Nat.blt 0 r.n = true) (hby : Nat.blt 0 by_ = true)
    (hown : w.ownsRow 0 E r.n s l1.length xs) (hb : (l1.length + k) * by_ ≤ 140737488355328) :
    ∃ v' w' news, (Builtin.append_ #[T, V] U #[s, .int q k]).run P w = .ok v' w' ∧ w'.ownsRow 0 E r.n v' (l1.length + k) (xs ++ news) ∧ w.grownBy w' s.ownBlock ∧ Elems r S w news (List.replicate k x) ∧
      (∀ b, v'.ownBlock = some b → s.ownBlock = some b ∨ (w.heap.size ≤ b ∧ b < w'.heap.size)) := by
  obtain ⟨i, hi, hz, hs, hby2⟩ := ti
  have hpos' : 0 < r.n := by simpa [Nat.blt_eq] using hpos
  have hby' : 0 < by_ := by simpa [Nat.blt_eq] using hby
  have hlen : l1.length + k ≤ 140737488355328 := Nat.le_trans (Nat.le_mul_of_pos_right _ hby') hb
  have hkb : k * by_ ≤ 140737488355328 := Nat.le_trans (Nat.mul_le_mul_right _ (by omega)) hb
  have hzc := zeroCells_eq z.cells k (by omega)
  have hnews : Elems r S w (Builtin.zeroCells z.cells k).toList (List.replicate k x) := by rw [hzc]; exact hzr.elems S w k
  have hnl := hnews.len
  rw [List.length_replicate] at hnl
  by_cases hk : k = 0
  · subst hk
    have hw : IntKind.i64.wrap (0 : Int) = 0 := rfl
    refine ⟨s, w, [], ?_, by simpa using hown, ⟨rfl, rfl, rfl, Nat.le_refl _, fun _ _ _ => rfl⟩, rfl, fun b hb => .inl hb⟩
    rcases hown.2 with ⟨rfl, hn⟩ | ⟨g, c, cur, rfl, _, hg, hnc, hcm2, hcs, htake⟩
    · simp [Builtin.append_, run_underlying ht, run_underlying hU, Go.sizeOf, typeInfo, hi, asInt, asIntOf, hw, Builtin.lenOf]
    · simp [Builtin.append_, run_underlying ht, run_underlying hU, Go.sizeOf, typeInfo, hi, asInt, asIntOf, hw, Builtin.lenOf, hnc, storeCells]
  · have h0 : 0 < k := by omega
    have hlen' : ∀ (news : List Value), news.length = k * r.n → (xs ++ news).length = (l1.length + k) * r.n := fun news h => by rw [List.length_append, hown.1, h, Nat.add_mul]
    have hsmall : l1.length + k ≤ maxLen := by simp only [maxLen]; omega
    rcases hown.2 with ⟨rfl, hn⟩ | ⟨g, cap, cur, rfl, _, hg, hnc, hcm, hcs, htake⟩
    · have hx : xs = [] := List.eq_nil_of_length_eq_zero (by rw [hown.1, hn]; simp)
      subst hx
      have hr := Lib.run_append_nil_zeros (P := P) w T V U E i z q kn ht hU hi hz k h0 (by omega) (by omega) (by rw [hby2]; omega)
      refine ⟨_, _, _, hr, ⟨hlen' _ hnl, .inr ⟨w.heap.size, _, _, by rw [hn, Nat.zero_add], Nat.zero_le _, heap_alloc_new w.drew _, by rw [hn, Nat.zero_add]; exact grownCap_ge w _ _ _, grownCap_le_maxLen w _ _ _ (by omega), ?_, ?_⟩⟩, ⟨rfl, rfl, rfl, by simp, fun k hk _ => heap_alloc_old w.drew _ hk⟩, hnews, fun b hb => ?_⟩
      · have := grownCap_ge w k 0 E
        simp only [Array.size_append, size_zeroCells, hzl, ← Nat.add_mul]; congr 1; omega
      · simp only [Array.toList_append, List.nil_append]
        rw [hn, Nat.zero_add, ← hnl]; exact List.take_left
      · simp [Value.ownBlock] at hb; subst hb; exact .inr ⟨Nat.le_refl _, by simp⟩
    · by_cases hroom : l1.length + k ≤ cap
      · have hfit : l1.length * i.size + (Builtin.zeroCells z.cells k).toList.length ≤ cur.size := by rw [hs, hnl, hcs, ← Nat.add_mul]; exact Nat.mul_le_mul_right _ hroom
        have hr := run_append_room_zeros (P := P) (w := w) T V U E i z q kn ht hU hi hz g l1.length cap cur hg k h0 (by omega) _ rfl (by rw [hs]; exact hnl) hnews.one (by omega) (by rw [hby2]; omega) hroom hfit
        refine ⟨_, _, _, hr, ⟨hlen' _ hnl, .inr ⟨g, cap, _, rfl, Nat.zero_le _, setRow_heap w g cur _ E _ hg, hroom, hcm, ?_, ?_⟩⟩, ⟨rfl, rfl, rfl, by simp, fun k hk2 => fun hne => setRow_other w g k _ (fun e => hne (by simp [Value.ownBlock, e]))⟩, hnews, fun b hb => .inl (by simpa [Value.ownBlock] using hb)⟩
        · simp only [Array.length_toList] at hfit
          simp only [List.size_toArray, List.length_append, List.length_take, List.length_drop, Array.length_toList]
          omega
        · rw [hs, htake, ← hlen' _ hnl]
          exact List.take_left
      · have holds : (Builtin.firstCells i.size l1.length (.slice (some ⟨g, 0, none⟩) l1.length cap)).run P w.drew = .ok xs.toArray w.drew := by
          have hc : ∀ j u, xs[j]? = some u → w.drew.cell? ((⟨g, 0, none⟩ : Addr).add j) = some u := by
            intro j u hj; simpa using hown.cells (g := g) rfl j u hj
          exact run_firstCells_some (P := P) w.drew i.size l1.length ⟨g, 0, none⟩ l1.length cap xs (by rw [hs]; exact hown.1) hc
        have hr := Lib.run_append_grow_zeros (P := P) w T V U E i z q kn ht hU hi hz (some ⟨g, 0, none⟩) l1.length cap xs holds k h0 (by omega) (by omega) (by omega) (by rw [hby2]; omega) (growslice_fits (by omega) (by rw [hby2]; exact hb))
        have hge := grownCap_ge w (l1.length + k) cap E
        refine ⟨_, _, _, hr, ⟨hlen' _ hnl, .inr ⟨w.heap.size, _, _, rfl, Nat.zero_le _, heap_alloc_new w.drew _, hge, grownCap_le_maxLen w _ _ _ hsmall, ?_, ?_⟩⟩, ⟨rfl, rfl, rfl, by simp, fun k hk _ => heap_alloc_old w.drew _ hk⟩, hnews, fun b hb => ?_⟩
        · simp only [Array.size_append, List.size_toArray, size_zeroCells, hzl, hown.1, ← Nat.add_mul]; congr 1; omega
        · simp only [Array.toList_append, List.append_assoc]
          rw [← List.append_assoc, ← hlen' _ hnl]
          exact List.take_left
        · simp [Value.ownBlock] at hb; subst hb; exact .inr ⟨Nat.le_refl _, by simp⟩
/-- append of new zeros. -/
theorem OpS.appZ {a b : Operand} {E U : TypeId} {z s : Value} {by_ : Nat} {l1 l2 l3 : List α} {x : α} {q kn : IntKind} {m : Int} (h : St e w Γ Ω) (hp : Pick Ω (f, .slice E r s l1) Ω') (ht : C.P.underlying T = some (.slice E)) (hU : C.P.underlying U = some (.int kn)) (ti : TI C.P E z r.n by_) (hzr : Zr r z.cells.toList x) (hzl : z.cells.size = r.n) (hpos : Nat.blt 0 r.n = true) (hby : Nat.blt 0 by_ = true)
    (hg : gd ops L g = some true) (hd : Nat.blt d C.fn.ntmps = true) (hx : ev L a = some s) (hy : ev L b = some (.int q m)) (hm : mk by_ x m = some l2) (hap : Lift.app by_ l1 l2 = some l3)
    (K : ∀ u w', St e w' Γ ((f, .slice E r u l3) :: Ω') → Z ((d, u) :: L) w') : OpS C ops ⟨some d, .call ⟨.builtin .append, #[a, b], #[T, U]⟩, t, p, af, g⟩ L w Z := by
  obtain ⟨hb, rfl⟩ := app_some hap
  obtain ⟨hm0, hmb, rfl⟩ := mk_some hm
  obtain ⟨k, rfl⟩ : ∃ k : Nat, m = k := ⟨m.toNat, by omega⟩
  simp only [Int.toNat_natCast] at *
  have h1 := h.pick hp
  obtain ⟨S, G, I, hs, G1, G2, k1, k2, k3, ⟨xs, hown, hel, hG⟩, k5⟩ := h1
  obtain ⟨v', w', news, hrun, ho2, hgr, hnews, hblk⟩ := run_appZ (T := T) (U := t) (q := q) (S := fl f e.w.heap.size S) ht hU ti hzr hzl hpos hby hown (k := k) (by simpa using hb)
  have hnews' := hnews
  have hkeep : ∀ c, c < w.heap.size → ¬ G1 c → w'.heap[c]? = w.heap[c]? := fun c hc hn => hgr.block c hc (fun h => hn ((hG c).2 h.symm))
  have hS : ∀ c, fl f e.w.heap.size S c → w'.heap[c]? = w.heap[c]? := fun c hc => hkeep c (I.sb c hc.1) (fun h => I.dis c hc.1 ((k1 c).2 (.inl h)))
  have hst : St e w' Γ ((f, .slice E r v' (l1 ++ List.replicate k x)) :: Ω') := by
    have hG1' : ∀ c, v'.ownBlock = some c → G1 c ∨ (w.heap.size ≤ c ∧ c < w'.heap.size) := fun c hc => (hblk c hc).imp (fun h => (hG c).2 h) id
    have kS : ∀ c, S c → w'.heap[c]? = w.heap[c]? := fun c hc => hkeep c (I.sb c hc) (fun h => I.dis c hc ((k1 c).2 (.inl h)))
    have kG : ∀ c, G2 c → w'.heap[c]? = w.heap[c]? := fun c hc => hkeep c (I.gb c ((k1 c).2 (.inr hc))) (fun h => k2 c h hc)
    refine ⟨S, fun c => v'.ownBlock = some c ∨ G2 c, ⟨⟨hgr.os.trans I.step.os, hgr.tape.trans I.step.tape, hgr.output.trans I.step.output, Nat.le_trans I.step.size hgr.size, fun c hc hn => ?_⟩, fun c hc => Nat.lt_of_lt_of_le (I.sb c hc) hgr.size, ?_, ?_, I.s0, ?_⟩,
      hs.st (fun _ h => h) kS, fun c => v'.ownBlock = some c, G2, fun _ => Iff.rfl, ?_, ?_, ⟨xs ++ news, by rw [List.length_append, List.length_replicate]; exact ho2, Elems.append (hnews'.stab (fun _ h => h) hS) (hel.stab (fun _ h => h) hS), fun _ => Iff.rfl⟩, k5.st (fun _ h => h) kS kG⟩
    · rw [hkeep c (Nat.lt_of_lt_of_le hc I.step.size) (fun h => ?_)]
      · exact I.step.block c hc hn
      · rcases I.g0 c ((k1 c).2 (.inl h)) with h | h
        · exact hn h
        · omega
    · rintro c (hc | hc)
      · rcases hG1' c hc with h | h
        · exact Nat.lt_of_lt_of_le (I.gb c ((k1 c).2 (.inl h))) hgr.size
        · exact h.2
      · exact Nat.lt_of_lt_of_le (I.gb c ((k1 c).2 (.inr hc))) hgr.size
    · rintro c hc (hn | hn)
      · rcases hG1' c hn with h | h
        · exact I.dis c hc ((k1 c).2 (.inl h))
        · have := I.sb c hc; omega
      · exact I.dis c hc ((k1 c).2 (.inr hn))
    · rintro c (hc | hc)
      · rcases hG1' c hc with h | h
        · exact I.g0 c ((k1 c).2 (.inl h))
        · exact .inr (Nat.le_trans I.step.size h.1)
      · exact I.g0 c ((k1 c).2 (.inr hc))
    · intro c hc hn
      rcases hG1' c hc with h | h
      · exact k2 c h hn
      · have := I.gb c ((k1 c).2 (.inr hn)); omega
    · intro c hf hc
      rcases hG1' c hc with h | h
      · exact k3 c hf h
      · exact Nat.le_trans I.step.size h.1
  exact OpS.val hg rfl hd (fun ac hac => by simp [execOp, resolve, invoke, builtin, hac.ev hx, hac.ev hy, hrun]) (K _ _ hst)
end
end Lift
