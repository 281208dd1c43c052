/- Slices whose capacity is their length, views into owned slices, and copies into them. Over any program. No conditions. -/
import Derived.Test.YtedddoifbhcinaaLiftL
import Derived.Laws.CopyRow
import Derived.Laws.IdiomCopy
set_option linter.unusedVariables false
set_option linter.unusedSimpArgs false
namespace Lift
open Go

/-- A slice value without room behind its elements. -/
def Atom.full (v : Value) : Atom := ⟨fun _ _ => ∃ p n, v = .slice p n n, fun _ _ h => h⟩
theorem Pure.raw {α : Type} {v : Value} : Pure (Rep.raw (α := α) v) := fun h => h
theorem V.pure {α : Type} {B : Nat} {Γ : List (Bool × Atom)} {f f' : Bool} {r : Rep α} {v : Value} {x : α} (h : V B Γ f r v x) (hp : Pure r) : V B Γ f' r v x := by
  intro S w hs
  have h1 := h S w hs
  unfold Rep.val at h1 ⊢
  split at h1
  · obtain ⟨cs, e, hr⟩ := h1; exact ⟨cs, e, hp hr⟩
  · exact hp h1
/-- A function value that keeps one value. -/
def Atom.cloF {α : Type} (k : FuncId) (r : Rep α) (u : Value) (x : α) : Atom := ⟨fun S w => ∃ v, u = .func (.func k) #[v] #[] ∧ r.val S w v x, fun a kk h => let ⟨v, e, hv⟩ := h; ⟨v, e, r.val_stab a kk hv⟩⟩
def Atom.cloC {α : Type} (k : FuncId) (r : Rep α) (u : Value) (x : α) : Atom := ⟨fun S w => ∃ v, u = .func (.func k) #[] #[v] ∧ r.val S w v x, fun a kk h => let ⟨v, e, hv⟩ := h; ⟨v, e, r.val_stab a kk hv⟩⟩
theorem St.cloF {α : Type} {e : En} {w : World} {Γ : List (Bool × Atom)} {Ω : List (Bool × HAtom)} {f : Bool} {k : FuncId} {r : Rep α} {u : Value} {x : α} (h : St e w Γ Ω) (ha : At Γ (f, .cloF k r u x)) : ∃ v, u = .func (.func k) #[v] #[] ∧ St e w ((f, .val r v x) :: Γ) Ω := by
  obtain ⟨S, G, I, hs, ho⟩ := h
  obtain ⟨v, e1, hv⟩ := hs.at ha
  exact ⟨v, e1, S, G, I, ⟨hv, hs⟩, ho⟩
theorem St.cloC {α : Type} {e : En} {w : World} {Γ : List (Bool × Atom)} {Ω : List (Bool × HAtom)} {f : Bool} {k : FuncId} {r : Rep α} {u : Value} {x : α} (h : St e w Γ Ω) (ha : At Γ (f, .cloC k r u x)) : ∃ v, u = .func (.func k) #[] #[v] ∧ St e w ((f, .val r v x) :: Γ) Ω := by
  obtain ⟨S, G, I, hs, ho⟩ := h
  obtain ⟨v, e1, hv⟩ := hs.at ha
  exact ⟨v, e1, S, G, I, ⟨hv, hs⟩, ho⟩
theorem Sat.pick {B : Nat} {S : Blks} {w : World} {Γ Γ' : List (Bool × Atom)} {x : Bool × Atom} (h : Pick Γ x Γ') : Sat B S w Γ → Sat B S w Γ' := by
  induction h with
  | z => exact fun k => k.2
  | s _ ih => exact fun k => ⟨k.1, ih k.2⟩
/-- A fact that is not needed any longer. -/
theorem St.unfact {e : En} {w : World} {Γ Γ' : List (Bool × Atom)} {Ω : List (Bool × HAtom)} {x : Bool × Atom} (h : St e w Γ Ω) (hp : Pick Γ x Γ') : St e w Γ' Ω :=
  let ⟨S, G, I, hs, ho⟩ := h; ⟨S, G, I, hs.pick hp, ho⟩
/-- A part of a slice's array, as a value; n: the cells of an element. -/
def vw (n : Nat) (v : Value) (lo hi mx : Int) : Value := match v with
  | .slice p _ _ => .slice (if mx.toNat = lo.toNat then p else p.map (·.add (lo.toNat * n))) (hi.toNat - lo.toNat) (mx.toNat - lo.toNat)
  | v => v

section
variable {C : Cx} {L : List (Nat × Value)} {w : World} {ops : Array Oper} {Z : List (Nat × Value) → World → Prop} {d : Nat} {t T : TypeId} {p : String} {af : Array Edge} {g : Option (Nat × Bool)}
variable {e : En} {Γ : List (Bool × Atom)} {Ω Ω' : List (Bool × HAtom)} {f : Bool} {α β : Type} {r r' : Rep α} {fr : Rep β} {x : α} {y : β}

theorem OpS.mkfF {kf : FuncId} {a : Operand} {v : Value} (h : St e w Γ Ω) (hg : gd ops L g = some true) (hd : Nat.blt d C.fn.ntmps = true) (hx : ev L a = some v) (hv : V e.w.heap.size Γ f r v x)
    (K : ∀ u, St e w ((f, .cloF kf r u x) :: Γ) Ω → Z ((d, u) :: L) w) : OpS C ops ⟨some d, .makeFunc (.func kf) #[a] #[], t, p, af, g⟩ L w Z :=
  OpS.mkf (fs := [a]) (cs := []) (fl := [v]) (cl := []) hg hd (by simp [hx]) rfl (K _ (h.addΓ (fun S hs => ⟨v, rfl, hv S w hs⟩)))
theorem OpS.mkfC {kf : FuncId} {a : Operand} {v : Value} (h : St e w Γ Ω) (hg : gd ops L g = some true) (hd : Nat.blt d C.fn.ntmps = true) (hx : ev L a = some v) (hv : V e.w.heap.size Γ f r v x)
    (K : ∀ u, St e w ((f, .cloC kf r u x) :: Γ) Ω → Z ((d, u) :: L) w) : OpS C ops ⟨some d, .makeFunc (.func kf) #[] #[a], t, p, af, g⟩ L w Z :=
  OpS.mkf (fs := []) (cs := [a]) (fl := []) (cl := [v]) hg hd rfl (by simp [hx]) (K _ (h.addΓ (fun S hs => ⟨v, rfl, hv S w hs⟩)))

theorem OpS.loadPR {a : Operand} {v u0 : Value} (h : St e w Γ Ω) (ht : Ty C.P T (Rep.raw (α := Unit) u0)) (hg : gd ops L g = some true) (hd : Nat.blt d C.fn.ntmps = true) (hx : ev L a = some v) (ha : At Γ (f, .ptr (Rep.raw (α := Unit) u0) v ()))
    (K : Z ((d, u0) :: L) w) : OpS C ops ⟨some d, .load T a, t, p, af, g⟩ L w Z :=
  OpS.load h ht hg hd hx ha (fun u hu => by rw [hu.raw_eq]; exact K)
theorem bounds_run {N : Nat} {ac : Act} (hac : Agree N L ac) {lo : Option Operand} {hi mx : Operand} {q q2 : IntKind} {m n k : Int} {len cap : Nat} {P : Program}
    (hlo : bnd L lo 0 = some m) (hhi : ev L hi = some (.int q n)) (hmx : ev L mx = some (.int q2 k)) (h0 : 0 ≤ m) (h1 : m ≤ n) (hk : n ≤ k) (hkc : k ≤ (cap : Int)) :
    (Instr.sliceBounds true len cap (lo.map ac.eval) (some (ac.eval hi)) (some (ac.eval mx))).run P w = .ok (m.toNat, n.toNat, k.toNat) w := by
  rw [hac.ev hhi, hac.ev hmx]
  have hn0 : 0 ≤ n := by omega
  have hk0 : 0 ≤ k := by omega
  have hnk : n ≤ max k 0 := by omega
  have h1' : m ≤ max n 0 := by omega
  rcases bnd_run hac hlo with ⟨rfl, rfl⟩ | ⟨x1, q1, rfl, hx1⟩
  · simp [Instr.sliceBounds, Instr.sliceBound, asIntOf, hn0, hk0, hkc, hnk]
  · simp [Instr.sliceBounds, hx1, Instr.sliceBound, asIntOf, h0, h1', hn0, hk0, hkc, hnk]

/-- A part of a slice that is only read, without room behind it. -/
theorem OpS.sub3F {a hi mx : Operand} {lo : Option Operand} {v : Value} {E : TypeId} {m n : Int} {q q2 : IntKind} {xs ys : List α} (h : St e w Γ Ω) (ht : C.P.underlying T = some (.slice E)) (hE : Ty C.P E r) (hg : gd ops L g = some true) (hd : Nat.blt d C.fn.ntmps = true) (hx : ev L a = some v)
    (hlo : bnd L lo 0 = some m) (hhi : ev L hi = some (.int q n)) (hmx : ev L mx = some (.int q2 n)) (hv : V e.w.heap.size Γ f r.slice v xs) (hs : Lift.sub xs m n = some ys) (K : ∀ u, St e w ((f, .val r.slice u ys) :: (true, .full u) :: Γ) Ω → Z ((d, u) :: L) w) :
    OpS C ops ⟨some d, .slice T a lo (some hi) (some mx), t, p, af, g⟩ L w Z := by
  obtain ⟨S, G, I, hst, ho⟩ := h
  obtain ⟨h0, h1, h2, rfl⟩ := sub_some hs
  obtain ⟨pa, cap, e1, hlc, hcm, hcells⟩ := hv S w hst
  simp only [List.cons.injEq, and_true] at e1
  subst e1
  have hyl : ((xs.drop m.toNat).take (n.toNat - m.toNat)).length = n.toNat - m.toNat := by simp; omega
  refine OpS.val (v := .slice (if n.toNat = m.toNat then pa else pa.map (·.add (m.toNat * r.n))) (n.toNat - m.toNat) (n.toNat - m.toNat)) (w' := w) hg rfl hd (fun ac hac => ?_) (K _ ⟨S, G, I, ⟨?_, ⟨_, _, rfl⟩, hst⟩, ho⟩)
  · have hsz := hE.size w
    have hm := bounds_run (P := C.P) (w := w) (len := xs.length) hac hlo hhi hmx h0 h1 (Int.le_refl n) (by omega : n ≤ (cap : Int))
    simp [execOp, hac.ev hx, Instr.sliceAt, run_underlying ht, Instr.slice, hm, hsz]
  · refine ⟨_, _, by rw [hyl], by rw [hyl]; omega, by omega, fun hne => ?_⟩
    have hnn : n.toNat - m.toNat ≠ 0 := fun h => hne (List.eq_nil_of_length_eq_zero (by rw [hyl, h]))
    have hxne : xs ≠ [] := by intro h; subst h; simp at h2; omega
    obtain ⟨bk, o, cells, rfl, hb, hc, hel⟩ := hcells hxne
    have hcm' : ¬ n.toNat = m.toNat := by omega
    refine ⟨bk, o + m.toNat * r.n, _, by simp [hcm', add_none], hb, ?_, (hel.drop m.toNat).take (n.toNat - m.toNat)⟩
    intro i v hi
    rw [List.getElem?_take] at hi
    split at hi
    · have := hc (m.toNat * r.n + i) v (by simpa [List.getElem?_drop] using hi)
      simpa [Nat.add_assoc] using this
    · cases hi

/-- append to a slice without room: what was there stays as it was. -/
theorem OpS.appF {a b : Operand} {E : TypeId} {z s v : Value} {by_ : Nat} {l1 l2 l3 : List α} {f' f2 f3 : Bool} (h : St e w Γ Ω) (hs : V e.w.heap.size Γ f r.slice s l1) (hfull : At Γ (f2, .full s)) (hf3 : f3 = (f && f')) (ht : C.P.underlying T = some (.slice E)) (ti : TI C.P E z r.n by_) (hzl : z.cells.size = r.n) (hpos : Nat.blt 0 r.n = true) (hby : Nat.blt 0 by_ = true)
    (hg : gd ops L g = some true) (hd : Nat.blt d C.fn.ntmps = true) (hx : ev L a = some s) (hy : ev L b = some v) (hv : V e.w.heap.size Γ f' r.slice v l2) (hap : Lift.app by_ l1 l2 = some l3)
    (K : ∀ u w', St e w' ((f3, .val r.slice u l3) :: Γ) Ω → Z ((d, u) :: L) w') : OpS C ops ⟨some d, .call ⟨.builtin .append, #[a, b], #[T, T]⟩, t, p, af, g⟩ L w Z := by
  obtain ⟨hb, rfl⟩ := app_some hap
  obtain ⟨i, hi, hz, hsz, hby2⟩ := ti
  have hby' : 0 < by_ := by simpa [Nat.blt_eq] using hby
  have hlen : l1.length + l2.length ≤ 140737488355328 := Nat.le_trans (Nat.le_mul_of_pos_right _ hby') hb
  have hsub1 : ∀ B S (b : Nat), fl f B S b → fl (f && f') B S b := fun B S b hb => ⟨hb.1, fun h => hb.2 (by simp at h; exact h.1)⟩
  have hsub2 : ∀ B S (b : Nat), fl f' B S b → fl (f && f') B S b := fun B S b hb => ⟨hb.1, fun h => hb.2 (by simp at h; exact h.2)⟩
  obtain ⟨S, G, I, hst, ho⟩ := id h
  obtain ⟨pf, nf, rfl⟩ := hst.at hfull
  obtain ⟨ps, c1, e1, hlc, hcm, hcells⟩ := hs S w hst
  simp only [List.cons.injEq, Value.slice.injEq, and_true] at e1
  obtain ⟨rfl, rfl, rfl⟩ := e1
  obtain ⟨pa, cap, e2, hlc2, hcm2, hcells2⟩ := hv S w hst
  simp only [List.cons.injEq, and_true] at e2
  subst e2
  by_cases hl2 : l2 = []
  · subst hl2
    have hrun : (Builtin.append_ #[T, T] t #[.slice pf l1.length l1.length, .slice pa 0 cap]).run C.P w = .ok (.slice pf l1.length l1.length) w := by
      cases pa <;> cases pf <;> simp [Builtin.append_, run_underlying ht, Go.sizeOf, typeInfo, hi, Builtin.lenOf, Builtin.firstCells, loadCells, loadCellsFrom, storeCells]
    refine OpS.val (v := .slice pf l1.length l1.length) (w' := w) hg rfl hd (fun ac hac => by simp [execOp, resolve, invoke, builtin, hac.ev hx, hac.ev hy]; rw [show (0 : Nat) = ([] : List α).length from rfl]; simp [hrun]) (K _ w ?_)
    rw [hf3, List.append_nil]
    exact h.addΓ (fun S hs' => r.slice.val_stab (hsub1 _ S) (fun _ _ => rfl) (hs S w hs'))
  · obtain ⟨b0, o0, cells2, rfl, hSb2, hc2, hel2⟩ := hcells2 hl2
    have hnews : ∀ j u, cells2[j]? = some u → w.cell? ((⟨b0, o0, none⟩ : Addr).add j) = some u := fun j u hj => by rw [add_none]; exact hc2 j u hj
    have hcl2 := hel2.len
    have h0 : 0 < l2.length := List.length_pos_iff.2 hl2
    -- the old cells
    obtain ⟨olds, hol, hread, hels⟩ : ∃ olds : List Value, olds.length = l1.length * r.n ∧ (l1 ≠ [] → ∃ bk o, pf = some ⟨bk, o, none⟩ ∧ cellsAt w bk o olds) ∧ ∀ S', Sat e.w.heap.size S' w Γ → Elems r (fl f e.w.heap.size S') w olds l1 := by
      by_cases hl1 : l1 = []
      · subst hl1; exact ⟨[], by simp, fun h => absurd rfl h, fun _ _ => rfl⟩
      · obtain ⟨bk, o, cells, rfl, _, hc, hel⟩ := hcells hl1
        refine ⟨cells, hel.len, fun _ => ⟨bk, o, rfl, hc⟩, fun S' hs' => ?_⟩
        obtain ⟨ps', cp', e1', _, _, hcells'⟩ := hs S' w hs'
        simp only [List.cons.injEq, Value.slice.injEq, true_and, and_true] at e1'
        obtain ⟨b1, o1, cells1, e2, _, hc1, hel1⟩ := hcells' hl1
        rw [e2] at e1'
        simp only [Option.some.injEq, Addr.mk.injEq, and_true] at e1'
        obtain ⟨⟨rfl, rfl⟩, _⟩ := e1'
        have hlen' : cells1.length = cells.length := hel1.len.trans hel.len.symm
        have hcc : cells1 = cells := by
          apply List.ext_getElem?
          intro j
          by_cases hj : j < cells.length
          · have q1 := hc j _ (List.getElem?_eq_getElem hj)
            have q2 := hc1 j _ (List.getElem?_eq_getElem (by omega : j < cells1.length))
            rw [q1] at q2
            rw [List.getElem?_eq_getElem hj, List.getElem?_eq_getElem (by omega : j < cells1.length), q2]
          · rw [List.getElem?_eq_none (by omega), List.getElem?_eq_none (by omega)]
        subst hcc; exact hel1
    have hels2 : ∀ S', Sat e.w.heap.size S' w Γ → Elems r (fl f' e.w.heap.size S') w cells2 l2 := by
      intro S' hs'
      obtain ⟨ps', cp', e1', _, _, hcells'⟩ := hv S' w hs'
      simp only [List.cons.injEq, Value.slice.injEq, true_and, and_true] at e1'
      obtain ⟨b1, o1, cells1, e2, _, hc1, hel1⟩ := hcells' hl2
      rw [e2] at e1'
      simp only [Option.some.injEq, Addr.mk.injEq, and_true] at e1'
      obtain ⟨⟨rfl, rfl⟩, _⟩ := e1'
      have hlen' : cells1.length = cells2.length := hel1.len.trans hel2.len.symm
      have hcc : cells1 = cells2 := by
        apply List.ext_getElem?
        intro j
        by_cases hj : j < cells2.length
        · have q1 := hc2 j _ (List.getElem?_eq_getElem hj)
          have q2 := hc1 j _ (List.getElem?_eq_getElem (by omega : j < cells1.length))
          rw [q1] at q2
          rw [List.getElem?_eq_getElem hj, List.getElem?_eq_getElem (by omega : j < cells1.length), q2]
        · rw [List.getElem?_eq_none (by omega), List.getElem?_eq_none (by omega)]
      subst hcc; exact hel1
    have hpos' : 0 < r.n := by simpa [Nat.blt_eq] using hpos
    have key : ∀ (tail : Array Value) (gc : Nat), l1.length + l2.length ≤ gc → gc ≤ maxLen → (olds.toArray ++ cells2.toArray ++ tail).size = gc * r.n →
        St e (w.drew.alloc (.cells (olds.toArray ++ cells2.toArray ++ tail) E)) ((f && f', .val r.slice (.slice (some ⟨w.heap.size, 0, none⟩) (l1.length + l2.length) gc) (l1 ++ l2)) :: Γ) Ω := by
      intro tail gc g1 g2 g3
      have hat : ∀ S, Sat e.w.heap.size S w.drew Γ → (∀ b, S b → b < w.drew.heap.size) → (HAtom.slice E r (.slice (some ⟨w.heap.size, 0, none⟩) (l1.length + l2.length) gc) (l1 ++ l2)).p (fun c => c = w.drew.heap.size) (fl (f && f') e.w.heap.size S) (w.drew.alloc (.cells (olds.toArray ++ cells2.toArray ++ tail) E)) := by
        intro S' hs' hlt
        have hs'' : Sat e.w.heap.size S' w Γ := Sat.st (w := w.drew) (w' := w) (fun _ h => h) (fun _ _ => rfl) hs'
        have kk : ∀ b, fl f e.w.heap.size S' b → (w.drew.alloc (.cells (olds.toArray ++ cells2.toArray ++ tail) E)).heap[b]? = w.heap[b]? := fun b hb => heap_alloc_old w.drew _ (hlt b hb.1)
        have kk2 : ∀ b, fl f' e.w.heap.size S' b → (w.drew.alloc (.cells (olds.toArray ++ cells2.toArray ++ tail) E)).heap[b]? = w.heap[b]? := fun b hb => heap_alloc_old w.drew _ (hlt b hb.1)
        have hll : (olds ++ cells2).length = (l1.length + l2.length) * r.n := by rw [List.length_append, hol, hcl2, Nat.add_mul]
        refine ⟨olds ++ cells2, ⟨by rw [hll, List.length_append], .inr ⟨w.heap.size, gc, olds.toArray ++ cells2.toArray ++ tail, by rw [List.length_append], Nat.zero_le _, heap_alloc_new w.drew _, by rw [List.length_append]; exact g1, g2, g3, ?_⟩⟩, Elems.append ((hels2 S' hs'').stab (hsub2 _ S') kk2) ((hels S' hs'').stab (hsub1 _ S') kk), fun b => by simp [Value.ownBlock, eq_comm]⟩
        simp only [Array.toList_append, List.append_assoc]
        rw [← List.append_assoc, List.length_append, ← hll]
        exact List.take_left
      cases hff : (f && f') with
      | true => rw [hff] at hat; exact (h.drew.alloc hat).freeze
      | false => rw [hff] at hat; exact (h.drew.allocF hat).freeze
    have hcge : ∀ old, l1.length + l2.length ≤ grownCap w (l1.length + l2.length) old E := fun old => grownCap_ge w _ old E
    have hcle : ∀ old, grownCap w (l1.length + l2.length) old E ≤ maxLen := fun old => grownCap_le_maxLen w _ old E (by simp only [maxLen]; omega)
    have hsize : ∀ old, (olds.toArray ++ cells2.toArray ++ Builtin.zeroCells z.cells (grownCap w (l1.length + l2.length) old E - (l1.length + l2.length))).size = grownCap w (l1.length + l2.length) old E * r.n := by
      intro old
      have := hcge old
      simp only [Array.size_append, List.size_toArray, size_zeroCells, hzl, hol, hcl2, ← Nat.add_mul]
      congr 1; omega
    have hnil : pf = none → l1.length = 0 := fun hp => by
      cases l1 with
      | nil => rfl
      | cons x l => obtain ⟨bk, o, hp2, _⟩ := hread (by simp); rw [hp] at hp2; cases hp2
    cases pf with
    | none =>
      have hl0 := hnil rfl
      have hl1 : l1 = [] := List.eq_nil_of_length_eq_zero hl0
      subst hl1
      have ho : olds = [] := List.eq_nil_of_length_eq_zero (by simpa using hol)
      subst ho
      have hr2 := run_append_nil (P := C.P) w T t E i z ht hi hz ⟨b0, o0, none⟩ l2.length cap cells2 (by rw [hsz]; exact hcl2) hnews h0 (by omega) (by rw [hby2]; simp only [List.length_nil, Nat.zero_add] at hb; omega)
      have hK := key _ _ (hcge 0) (hcle 0) (hsize 0)
      simp only [List.length_nil, Nat.zero_add, List.nil_append] at hK
      rw [show (#[] : Array Value) ++ cells2.toArray = cells2.toArray from by simp] at hK
      refine OpS.val (v := .slice (some ⟨w.heap.size, 0, none⟩) l2.length (grownCap w l2.length 0 E)) hg rfl hd (fun ac hac => ?_) (K _ _ (by rw [hf3]; exact hK))
      simp only [List.length_nil] at hac hx
      simp [execOp, resolve, invoke, builtin, hac.ev hx, hac.ev hy, hr2]
    | some a0 =>
      have holds : ∀ j u, olds[j]? = some u → w.cell? (a0.add j) = some u := by
        intro j u hj
        by_cases hl1 : l1 = []
        · subst hl1
          have ho : olds = [] := List.eq_nil_of_length_eq_zero (by simpa using hol)
          rw [ho] at hj; simp at hj
        · obtain ⟨bk, o, hp2, hc⟩ := hread hl1
          simp only [Option.some.injEq] at hp2
          rw [hp2, add_none]; exact hc j u hj
      have hr2 := run_append_grow (P := C.P) w T t E i z ht hi hz a0 l1.length l1.length olds (by rw [hsz]; exact hol) holds ⟨b0, o0, none⟩ l2.length cap cells2 (by rw [hsz]; exact hcl2) hnews (by omega) (by omega) (growslice_fits (by omega) (by rw [hby2]; exact hb))
      have hK := key _ _ (hcge l1.length) (hcle l1.length) (hsize l1.length)
      refine OpS.val (v := .slice (some ⟨w.heap.size, 0, none⟩) (l1.length + l2.length) (grownCap w (l1.length + l2.length) l1.length E)) hg rfl hd (fun ac hac => ?_) (K _ _ (by rw [hf3]; exact hK))
      simp [execOp, resolve, invoke, builtin, hac.ev hx, hac.ev hy, hr2]

/-- append to the front of an owned slice, in place. -/
theorem OpS.appPe {a b : Operand} {E : TypeId} {z s v : Value} {by_ k : Nat} {l1 l2 l3 : List α} {f' : Bool} (h : St e w Γ Ω) (hp : Pick Ω (f, .slice E r s l1) Ω') (ht : C.P.underlying T = some (.slice E)) (ti : TI C.P E z r.n by_)
    (hg : gd ops L g = some true) (hd : Nat.blt d C.fn.ntmps = true) (hx : ev L a = some (pre s k)) (hy : ev L b = some v) (hv : V e.w.heap.size Γ f' r.slice v l2) (hf : (f' = true ∨ f = false) ∨ Pure r) (hk : k + l2.length ≤ l1.length) (he : lay l1 k l2 = l3)
    (K : ∀ w', St e w' Γ ((f, .slice E r s l3) :: Ω') → Z ((d, pre s (k + l2.length)) :: L) w') : OpS C ops ⟨some d, .call ⟨.builtin .append, #[a, b], #[T, T]⟩, t, p, af, g⟩ L w Z := by
  subst he; exact OpS.appP h hp ht ti hg hd hx hy hv hf hk K

theorem own_shape {T0 : TypeId} {v : Value} {l : List α} {S G : Blks} (h : (HAtom.slice T0 r v l).p G S w) : (v = .slice none 0 0 ∧ l = []) ∨ ∃ gb cap cur, v = .slice (some ⟨gb, 0, none⟩) l.length cap ∧ l.length ≤ cap ∧ cap ≤ maxLen ∧ w.heap[gb]? = some (.cells cur T0 (0, 0)) ∧ cur.size = cap * r.n ∧ ∀ b, G b ↔ b = gb := by
  obtain ⟨xs, hown, _, hG⟩ := h
  rcases hown.2 with ⟨rfl, hn⟩ | ⟨gb, cap, cur, rfl, _, hg, hnc, hcm, hcs, _⟩
  · exact .inl ⟨rfl, List.eq_nil_of_length_eq_zero hn⟩
  · exact .inr ⟨gb, cap, cur, rfl, hnc, hcm, hg, hcs, fun b => by rw [hG]; simp [Value.ownBlock, eq_comm]⟩
/-- A part of a slice that is only read, as a value. -/
theorem OpS.sub3V {a hi mx : Operand} {lo : Option Operand} {v : Value} {E : TypeId} {m n k : Int} {q q2 : IntKind} {xs ys : List α} (h : St e w Γ Ω) (ht : C.P.underlying T = some (.slice E)) (hE : Ty C.P E r) (hg : gd ops L g = some true) (hd : Nat.blt d C.fn.ntmps = true) (hx : ev L a = some v)
    (hlo : bnd L lo 0 = some m) (hhi : ev L hi = some (.int q n)) (hmx : ev L mx = some (.int q2 k)) (hv : V e.w.heap.size Γ f r.slice v xs) (hs : Lift.sub xs m n = some ys) (hk : n ≤ k) (hk2 : k ≤ xs.length) (K : Z ((d, vw r.n v m n k) :: L) w) :
    OpS C ops ⟨some d, .slice T a lo (some hi) (some mx), t, p, af, g⟩ L w Z := by
  obtain ⟨S, G, I, hst, ho⟩ := h
  obtain ⟨h0, h1, h2, rfl⟩ := sub_some hs
  obtain ⟨pa, cap, e1, hlc, hcm, hcells⟩ := hv S w hst
  simp only [List.cons.injEq, and_true] at e1
  subst e1
  refine OpS.val (w' := w) hg rfl hd (fun ac hac => ?_) K
  have hsz := hE.size w
  have hm := bounds_run (P := C.P) (w := w) (len := xs.length) hac hlo hhi hmx h0 h1 hk (by omega : k ≤ (cap : Int))
  simp [execOp, hac.ev hx, Instr.sliceAt, run_underlying ht, Instr.slice, hm, hsz, vw]
/-- copy into a view of an owned slice. -/
theorem OpS.copyO {a b : Operand} {v s : Value} {E T2 : TypeId} {z : Value} {by_ : Nat} {m n k : Int} {xs src xs' : List α} {f' : Bool} (h : St e w Γ Ω) (hp : Pick Ω (f, .slice E r v xs) Ω') (ht : C.P.underlying T = some (.slice E)) (ti : TI C.P E z 1 by_) (hg : gd ops L g = some true) (hd : Nat.blt d C.fn.ntmps = true)
    (hv : V e.w.heap.size Γ f' r.slice s src) (hb : 0 ≤ m ∧ m ≤ n ∧ n ≤ k ∧ n ≤ (xs.length : Int)) (hr1 : r.n = 1) (hx : ev L a = some (vw r.n v m n k)) (hy : ev L b = some s) (hpu : Pure r) (he : lay xs m.toNat (src.take (n.toNat - m.toNat)) = xs')
    (K : ∀ w', St e w' Γ ((f, .slice E r v xs') :: Ω') → Z ((d, .int .i64 ((min src.length (n.toNat - m.toNat) : Nat) : Int)) :: L) w') : OpS C ops ⟨some d, .call ⟨.builtin .copy, #[a, b], #[T, T2]⟩, t, p, af, g⟩ L w Z := by
  subst he
  obtain ⟨hm0, hmn, hnk, hnl⟩ := hb
  obtain ⟨i, hi, hz, hsz, hby2⟩ := ti
  have hsz1 : (C.P.info? E).map (·.size) = some 1 := by rw [hi]; simp [hsz]
  have h1 := h.pick hp
  obtain ⟨S, G, I, hst, G1, G2, _, _, _, hown, _⟩ := id h1
  obtain ⟨ps, c2, e2, hlc2, hcm2, hcells2⟩ := hv S w hst
  simp only [List.cons.injEq, and_true] at e2
  subst e2
  by_cases hc0 : min src.length (n.toNat - m.toNat) = 0
  · have hlay : lay xs m.toNat (src.take (n.toNat - m.toNat)) = xs := by
      have : src.take (n.toNat - m.toNat) = [] := by
        apply List.eq_nil_of_length_eq_zero; rw [List.length_take]; omega
      rw [this]; simp [lay]
    rw [hlay, hc0] at K
    have hvw : ∃ p1 c1, vw r.n v m n k = .slice p1 (n.toNat - m.toNat) c1 := by
      rcases own_shape hown with ⟨rfl, _⟩ | ⟨gb, cap, cur, rfl, _⟩ <;> exact ⟨_, _, rfl⟩
    obtain ⟨p1, c1, hvw⟩ := hvw
    rw [hvw] at hx
    have hrun := run_copy_none (P := C.P) w T T2 t E p1 ps (n.toNat - m.toNat) c1 src.length c2 ht hsz1 hc0
    exact OpS.val hg rfl hd (fun ac hac => by simp [execOp, resolve, invoke, builtin, hac.ev hx, hac.ev hy, hrun]; rfl) (K w h1)
  · have hsrc : src ≠ [] := fun h => hc0 (by rw [h]; simp)
    have hnm : m.toNat < n.toNat := by omega
    obtain ⟨b0, o0, cells, rfl, _, hcat, hel⟩ := hcells2 hsrc
    have hxs : xs ≠ [] := fun h => by rw [h] at hnl; simp at hnl; omega
    rcases own_shape hown with ⟨_, h0⟩ | ⟨gb, cap, cur, rfl, hlc, hcm, hgb, hcs, hG0⟩
    · exact absurd h0 hxs
    have hvw : vw r.n (.slice (some ⟨gb, 0, none⟩) xs.length cap) m n k = .slice (some ⟨gb, m.toNat, none⟩) (n.toNat - m.toNat) (k.toNat - m.toNat) := by
      have : ¬ k.toNat = m.toNat := by omega
      simp [vw, this, hr1, add_none]
    rw [hvw] at hx
    let cs := cells.take (n.toNat - m.toNat)
    have hcl : cells.length = src.length := by have := hel.len; rw [hr1] at this; omega
    have hcsl : cs.length = min src.length (n.toNat - m.toNat) := by simp only [cs, List.length_take, hcl]; omega
    have hread : ∀ j u, cs[j]? = some u → w.cell? ((⟨b0, o0, none⟩ : Addr).add j) = some u := by
      intro j u hj
      rw [add_none]
      apply hcat j u
      simp only [cs, List.getElem?_take] at hj
      split at hj
      · exact hj
      · cases hj
    have hone : ∀ u ∈ cs, u.oneCell' = true := fun u hu => hel.one u (List.mem_of_mem_take hu)
    have hcsz : cur.size = cap := by rw [hcs, hr1]; omega
    have hfit : m.toNat + cs.length ≤ cur.size := by rw [hcsl, hcsz]; omega
    have hrun := run_copy_row (P := C.P) w T T2 t E gb m.toNat (n.toNat - m.toNat) (k.toNat - m.toNat) ⟨b0, o0, none⟩ src.length c2 cur E cs ht hsz1 hgb hcsl hread hfit hone
    rw [hcsl] at hrun
    rw [← hcsl] at K
    refine OpS.val (w' := w.setRow gb (cur.toList.take m.toNat ++ cs ++ cur.toList.drop (m.toNat + cs.length)).toArray) hg rfl hd (fun ac hac => by rw [hcsl]; simp [execOp, resolve, invoke, builtin, hac.ev hx, hac.ev hy, hrun, goInt]) (K _ (h1.write ?_))
    rintro S' G1' hs' ⟨ys, hown', hel', hG'⟩ hdis _ hlt
    rcases hown'.2 with ⟨h0, _⟩ | ⟨b', cap', cur', e1, hb0, hh', hnc', hcm', hcs', htake⟩
    · cases h0
    simp only [Value.slice.injEq, Option.some.injEq, Addr.mk.injEq, and_true, true_and] at e1
    obtain ⟨rfl, rfl⟩ := e1
    rw [hh'] at hgb
    simp only [Option.some.injEq, Obj.cells.injEq, and_true] at hgb
    subst hgb
    have hG'' : ∀ c, G1' c ↔ c = gb := fun c => by rw [hG']; simp [Value.ownBlock, eq_comm]
    have hS : ∀ c, fl f e.w.heap.size S' c → (w.setRow gb (cur'.toList.take m.toNat ++ cs ++ cur'.toList.drop (m.toNat + cs.length)).toArray).heap[c]? = w.heap[c]? :=
      fun c hc => setRow_other w gb c _ (fun h => hdis c hc.1 ((hG'' c).2 h))
    have hl2 : (src.take (n.toNat - m.toNat)).length = cs.length := by rw [hcsl, List.length_take]; omega
    have hkl : m.toNat + (src.take (n.toNat - m.toNat)).length ≤ xs.length := by rw [hl2, hcsl]; omega
    have helc : Elems r (fl f e.w.heap.size S') w cs (src.take (n.toNat - m.toNat)) := by
      have := (hpu.elems (S' := fl f e.w.heap.size S') (w' := w) hel).take (n.toNat - m.toNat)
      rw [hr1, Nat.mul_one] at this; exact this
    have hml : m.toNat * r.n = m.toNat := by rw [hr1]; omega
    have hlay := Elems.lay (k := m.toNat) (hel'.stab (fun _ h => h) hS) (helc.stab (fun _ h => h) hS)
    rw [hml] at hlay
    refine ⟨G1', fun b hb => .inl hb, ⟨rfl, rfl, rfl, by simp⟩, fun c _ hc => setRow_other w gb c _ (fun h => hc ((hG'' c).2 h)), ys.take m.toNat ++ cs ++ ys.drop (m.toNat + cs.length), ⟨?_, .inr ⟨gb, cap, _, by rw [lay_len hkl], Nat.zero_le _, setRow_heap w gb _ _ E _ hh', by rw [lay_len hkl]; exact hnc', hcm', ?_, ?_⟩⟩, hlay, hG'⟩
    · rw [lay_len hkl]
      have hy := hown'.1
      rw [hr1, Nat.mul_one] at hy
      rw [hr1, Nat.mul_one]
      simp only [List.length_append, List.length_take, List.length_drop, hy]; omega
    · rw [hr1, Nat.mul_one]
      simp only [List.size_toArray, List.length_append, List.length_take, List.length_drop, Array.length_toList]; omega
    · rw [lay_len hkl, hr1, Nat.mul_one]
      rw [hr1, Nat.mul_one] at htake
      have := splice_take (cs := cur'.toList) (c := cs) (off := m.toNat) (m := xs.length) (by omega) (by simp; omega)
      rw [htake] at this
      exact this
end
end Lift
