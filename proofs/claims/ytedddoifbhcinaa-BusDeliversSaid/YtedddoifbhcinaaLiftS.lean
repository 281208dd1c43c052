/- Elements taken out of a slice (slices.Delete): parts of an owned slice as values, the move of its end, clear behind it. Over any program. No conditions. -/
import Derived.Test.YtedddoifbhcinaaLiftQ
set_option linter.unusedVariables false
set_option linter.unusedSimpArgs false
namespace Lift
open Go

/-- An operation without a slot for its value. -/
theorem OpS.valN {C : Cx} {L : List (Nat × Value)} {w : World} {ops : Array Oper} {Z : List (Nat × Value) → World → Prop} {o : Oper} {v : Value} {w' : World} (hg : gd ops L o.guard = some true) (ho : o.dst = none)
    (hr : ∀ a : Act, Agree C.fn.ntmps L a → (execOp a.eval o).run C.P w = .ok (.value v) w') (K : Z L w') : OpS C ops o L w Z := by
  intro a ha b cs i is k h0 hb hk
  refine ⟨v, w', .one (step_lone_go ?_), by rw [ho]; exact K, fun d' h => by rw [ho] at h; cases h⟩
  rw [stepGR_op h0 (gd_wanted ha hg)]
  have hfin : (b.atR a (.inRegion ops (i :: is) :: k)).finish v = b.atR (a.put o.dst v) (.inRegion ops is :: k) := by
    rw [Frame.finish_atR, h0]; simp
  rw [← hfin]
  simp [stepG.apply, semAt_run (hr a ha) (by simp)]

/-- A part of a slice's array, up to the end of its capacity, as a value; n: the cells of an element. -/
def part (n : Nat) (v : Value) (lo hi : Nat) : Value := match v with
  | .slice p _ c => .slice (if c = lo then p else p.map (·.add (lo * n))) (hi - lo) (c - lo)
  | v => v
/-- There is room for m elements. -/
def Atom.room (v : Value) (m : Nat) : Atom := ⟨fun _ _ => ∃ p n c, v = .slice p n c ∧ m ≤ c, fun _ _ h => h⟩

section
variable {C : Cx} {L : List (Nat × Value)} {w : World} {ops : Array Oper} {Z : List (Nat × Value) → World → Prop} {d : Nat} {t T : TypeId} {p : String} {af : Array Edge} {g : Option (Nat × Bool)}
variable {e : En} {Γ : List (Bool × Atom)} {Ω Ω' : List (Bool × HAtom)} {f : Bool} {α β : Type} {r : Rep α}

theorem bounds2_run {N : Nat} {ac : Act} (hac : Agree N L ac) {lo hi : Option Operand} {m n dn : Int} {len cap : Nat} {P : Program} (hdn : dn = len) (hlo : bnd L lo 0 = some m) (hhi : bnd L hi dn = some n) (h0 : 0 ≤ m) (h1 : m ≤ n) (h2 : n ≤ cap) :
    (Instr.sliceBounds true len cap (lo.map ac.eval) (hi.map ac.eval) none).run P w = .ok (m.toNat, n.toNat, cap) w := by
  have hn0 : 0 ≤ n := by omega
  have h1' : m ≤ max n 0 := by omega
  rcases bnd_run hac hlo with ⟨rfl, rfl⟩ | ⟨x1, q1, rfl, hx1⟩ <;> rcases bnd_run hac hhi with ⟨rfl, rfl⟩ | ⟨x2, q2, rfl, hx2⟩
  · subst hdn; simp [Instr.sliceBounds]
  · simp [Instr.sliceBounds, hx2, Instr.sliceBound, asIntOf, hn0, h2]
  · subst hdn
    have h3 : m ≤ max (len : Int) 0 := by omega
    have h4 : m ≤ (len : Int) := by omega
    simp [Instr.sliceBounds, hx1, Instr.sliceBound, asIntOf, h0, h4]
  · simp [Instr.sliceBounds, hx1, hx2, Instr.sliceBound, asIntOf, h0, hn0, h2, h1']
theorem own_cap {T0 : TypeId} {v : Value} {l : List α} {S G : Blks} (h : (HAtom.slice T0 r v l).p G S w) : ∃ pa cap, v = .slice pa l.length cap ∧ l.length ≤ cap := by
  obtain ⟨_, hown, _, _⟩ := h
  rcases hown.2 with ⟨rfl, hn⟩ | ⟨gb, cap, cur, rfl, _, _, hnc, _⟩
  · exact ⟨none, 0, by rw [hn], by omega⟩
  · exact ⟨_, cap, rfl, hnc⟩
/-- The bounds of a slice expression are checked, and nothing is made of it. -/
theorem OpS.chkS {a hi mx : Operand} {lo : Option Operand} {v : Value} {E : TypeId} {m n k : Int} {q q2 : IntKind} {xs : List α} (h : St e w Γ Ω) (hp : Pick Ω (f, .slice E r v xs) Ω') (ht : C.P.underlying T = some (.slice E)) (hE : Ty C.P E r) (hg : gd ops L g = some true) (hd : Nat.blt d C.fn.ntmps = true) (hx : ev L a = some v)
    (hlo : bnd L lo 0 = some m) (hhi : ev L hi = some (.int q n)) (hmx : ev L mx = some (.int q2 k)) (hb : 0 ≤ m ∧ m ≤ n ∧ n ≤ k ∧ k ≤ (xs.length : Int)) (K : ∀ u, Z ((d, u) :: L) w) : OpS C ops ⟨some d, .slice T a lo (some hi) (some mx), t, p, af, g⟩ L w Z := by
  obtain ⟨S, G, I, hst, ho⟩ := h
  obtain ⟨_, _, _, _, _, h4, _⟩ := ho.pick hp
  obtain ⟨pa, cap, rfl, hlc⟩ := own_cap h4
  refine OpS.val (v := .slice (if k.toNat = m.toNat then pa else pa.map (·.add (m.toNat * r.n))) (n.toNat - m.toNat) (k.toNat - m.toNat)) (w' := w) hg rfl hd (fun ac hac => ?_) (K _)
  have hsz := hE.size w
  have hm := bounds_run (P := C.P) (w := w) (len := xs.length) hac hlo hhi hmx hb.1 hb.2.1 hb.2.2.1 (by omega : k ≤ (cap : Int))
  simp [execOp, hac.ev hx, Instr.sliceAt, run_underlying ht, Instr.slice, hm, hsz]
theorem part_run {N : Nat} {ac : Act} (hac : Agree N L ac) {a : Operand} {lo hi : Option Operand} {E : TypeId} {m n dn : Int} {pa : Option Addr} {len cap : Nat} {P : Program} (ht : P.underlying T = some (.slice E)) (hE : Ty P E r) (hx : ev L a = some (.slice pa len cap))
    (hdn : dn = len) (hlo : bnd L lo 0 = some m) (hhi : bnd L hi dn = some n) (h0 : 0 ≤ m) (h1 : m ≤ n) (h2 : n ≤ cap) (dd : Option Nat) :
    (execOp ac.eval ⟨dd, .slice T a lo hi none, t, p, af, g⟩).run P w = .ok (.value (part r.n (.slice pa len cap) m.toNat n.toNat)) w := by
  have hsz := hE.size w
  have hm := bounds2_run (P := P) (w := w) (cap := cap) hac hdn hlo hhi h0 h1 h2
  simp [execOp, hac.ev hx, Instr.sliceAt, run_underlying ht, Instr.slice, hm, hsz, part]
/-- A part of an owned slice. -/
theorem OpS.partS {a : Operand} {lo hi : Option Operand} {v : Value} {E : TypeId} {m n : Int} {xs : List α} (h : St e w Γ Ω) (hp : Pick Ω (f, .slice E r v xs) Ω') (ht : C.P.underlying T = some (.slice E)) (hE : Ty C.P E r) (hg : gd ops L g = some true) (hd : Nat.blt d C.fn.ntmps = true) (hx : ev L a = some v)
    (hlo : bnd L lo 0 = some m) (hhi : bnd L hi xs.length = some n) (hb : 0 ≤ m ∧ m ≤ n ∧ n ≤ (xs.length : Int)) (K : Z ((d, part r.n v m.toNat n.toNat) :: L) w) : OpS C ops ⟨some d, .slice T a lo hi none, t, p, af, g⟩ L w Z := by
  obtain ⟨S, G, I, hst, ho⟩ := h
  obtain ⟨_, _, _, _, _, h4, _⟩ := ho.pick hp
  obtain ⟨pa, cap, rfl, hlc⟩ := own_cap h4
  exact OpS.val hg rfl hd (fun ac hac => part_run hac ht hE hx rfl hlo hhi hb.1 hb.2.1 (by omega) _) K
/-- A part behind an owned slice's elements, where there is room. -/
theorem OpS.tailS {a : Operand} {lo hi : Option Operand} {v : Value} {E : TypeId} {k : Nat} {m n : Int} {xs : List α} {f2 : Bool} (h : St e w Γ Ω) (hp : Pick Ω (f, .slice E r v xs) Ω') (hr : At Γ (f2, .room v k)) (ht : C.P.underlying T = some (.slice E)) (hE : Ty C.P E r) (hg : gd ops L g = some true) (hd : Nat.blt d C.fn.ntmps = true) (hx : ev L a = some v)
    (hlo : bnd L lo 0 = some m) (hhi : bnd L hi xs.length = some n) (hb : 0 ≤ m ∧ m ≤ n ∧ n ≤ (k : Int)) (K : Z ((d, part r.n v m.toNat n.toNat) :: L) w) : OpS C ops ⟨some d, .slice T a lo hi none, t, p, af, g⟩ L w Z := by
  obtain ⟨S, G, I, hst, ho⟩ := h
  obtain ⟨_, _, _, _, _, h4, _⟩ := ho.pick hp
  obtain ⟨pa, cap, rfl, hlc⟩ := own_cap h4
  obtain ⟨p1, n1, c1, e1, hk⟩ := hst.at hr
  simp only [Value.slice.injEq] at e1
  obtain ⟨_, _, rfl⟩ := e1
  exact OpS.val hg rfl hd (fun ac hac => part_run hac ht hE hx rfl hlo hhi hb.1 hb.2.1 (by omega) _) K
/-- The end of an owned slice is moved to its front. -/
theorem OpS.moveS {a b : Operand} {E : TypeId} {z v : Value} {by_ i j : Nat} {xs : List α} (h : St e w Γ Ω) (hp : Pick Ω (f, .slice E r v xs) Ω') (ht : C.P.underlying T = some (.slice E)) (ti : TI C.P E z r.n by_) (hg : gd ops L g = some true) (hd : Nat.blt d C.fn.ntmps = true)
    (hx : ev L a = some (pre v i)) (hy : ev L b = some (part r.n v j xs.length)) (hij : i ≤ j) (hj : j ≤ xs.length)
    (K : ∀ w', St e w' ((true, .room (pre v (i + (xs.length - j))) xs.length) :: Γ) ((f, .slice E r (pre v (i + (xs.length - j))) (xs.take i ++ xs.drop j)) :: Ω') → Z ((d, pre v (i + (xs.length - j))) :: L) w') : OpS C ops ⟨some d, .call ⟨.builtin .append, #[a, b], #[T, T]⟩, t, p, af, g⟩ L w Z := by
  have h1 := h.pick hp
  obtain ⟨pa, cap, rfl, hlc⟩ : ∃ pa cap, v = .slice pa xs.length cap ∧ xs.length ≤ cap := by
    obtain ⟨S, G, I, hs, G1, G2, _, _, _, h4, _⟩ := h1; exact own_cap h4
  obtain ⟨ifo, hi, hz, hsz, hby2⟩ := ti
  have room : ∀ {w'} {Ω1 : List (Bool × HAtom)} {k : Nat}, St e w' Γ Ω1 → St e w' ((true, .room (pre (.slice pa xs.length cap) k) xs.length) :: Γ) Ω1 := fun h => h.addΓ (fun S hs => ⟨_, _, _, rfl, hlc⟩)
  by_cases hne : j = xs.length
  · subst hne
    have hrun : (Builtin.append_ #[T, T] t #[pre (.slice pa xs.length cap) i, part r.n (.slice pa xs.length cap) xs.length xs.length]).run C.P w = .ok (pre (.slice pa xs.length cap) i) w := by
      obtain ⟨S, G, I, hs, G1, G2, _, _, _, ⟨ys, hown, _, _⟩, _⟩ := h1
      have hic : i ≤ cap := by omega
      rcases hown.2 with ⟨e1, hn⟩ | ⟨gb, c, cur, e1, _, hgb, hnc, hcm2, hcs, htake⟩
      · simp only [Value.slice.injEq] at e1
        obtain ⟨rfl, h2, rfl⟩ := e1
        have h0 : i = 0 := by omega
        subst h0
        obtain rfl : xs = [] := List.eq_nil_of_length_eq_zero hn
        simp [pre, part, Builtin.append_, run_underlying ht, Go.sizeOf, typeInfo, hi, Builtin.lenOf, Builtin.firstCells, loadCells, loadCellsFrom]
      · simp only [Value.slice.injEq, true_and] at e1
        obtain ⟨rfl, rfl⟩ := e1
        by_cases hc : cap = xs.length <;> simp [pre, part, hc, Builtin.append_, run_underlying ht, Go.sizeOf, typeInfo, hi, Builtin.lenOf, Builtin.firstCells, loadCells, loadCellsFrom, hic, storeCells, hij]
    have hK := K w (room (by
      have := h1.shrink (k := i) hij
      have e2 : xs.take i ++ xs.drop xs.length = xs.take i := by simp
      rw [e2, Nat.sub_self, Nat.add_zero]; exact this))
    rw [Nat.sub_self, Nat.add_zero] at hK
    exact OpS.val hg rfl hd (fun ac hac => by simp [execOp, resolve, invoke, builtin, hac.ev hx, hac.ev hy, hrun]) hK
  · have hjl : j < xs.length := by omega
    obtain ⟨gb, cur, rfl, hgb, hcs, htk⟩ : ∃ gb cur, pa = some ⟨gb, 0, none⟩ ∧ w.heap[gb]? = some (.cells cur E (0, 0)) ∧ cur.size = cap * r.n ∧ ∃ S0, ∃ ys, Elems r S0 w ys xs ∧ cur.toList.take (xs.length * r.n) = ys := by
      obtain ⟨S, G, I, hs, G1, G2, _, _, _, ⟨ys, hown, hel, _⟩, _⟩ := h1
      rcases hown.2 with ⟨e1, hn⟩ | ⟨gb, c, cur, e1, _, hgb, hnc, hcm2, hcs, htake⟩
      · omega
      · simp only [Value.slice.injEq, true_and] at e1
        obtain ⟨rfl, rfl⟩ := e1
        exact ⟨gb, cur, rfl, hgb, hcs, _, ys, hel, htake⟩
    obtain ⟨S0, ys, hel0, htk⟩ := htk
    have hcap0 : ¬ cap = j := by omega
    have hmul1 : xs.length * r.n ≤ cap * r.n := Nat.mul_le_mul_right _ hlc
    have hmulj : j * r.n ≤ xs.length * r.n := Nat.mul_le_mul_right _ hj
    have hmuli : i * r.n ≤ j * r.n := Nat.mul_le_mul_right _ hij
    have hsub : (xs.length - j) * r.n = xs.length * r.n - j * r.n := Nat.sub_mul _ _ _
    -- the cells that are moved
    have hcl : ((cur.toList.drop (j * r.n)).take ((xs.length - j) * r.n)).length = (xs.length - j) * r.n := by simp [hcs, hsub]; omega
    have hce : (cur.toList.drop (j * r.n)).take ((xs.length - j) * r.n) = ys.drop (j * r.n) := by rw [← htk, List.drop_take, hsub]
    have hone : ∀ u ∈ (cur.toList.drop (j * r.n)).take ((xs.length - j) * r.n), u.oneCell' = true := fun u hu => hel0.one u (List.mem_of_mem_drop (by rw [hce] at hu; exact hu))
    have hcat := cellsAt_block (w := w) (cs := cur.toList) (by simpa using hgb) (j * r.n) ((xs.length - j) * r.n)
    have hrun := run_append_room (P := C.P) w T t E ifo ht hi gb i cap cur hgb ⟨gb, j * r.n, none⟩ (xs.length - j) (cap - j) _ (by rw [hsz]; exact hcl) (fun k u hk => by rw [add_none]; exact hcat k u hk) hone (by omega) (by rw [hsz, hcl, hcs, hsub]; omega)
    rw [hsz] at hrun
    have hx' : ev L a = some (.slice (some ⟨gb, 0, none⟩) i cap) := hx
    have hy' : ev L b = some (.slice (some ⟨gb, j * r.n, none⟩) (xs.length - j) (cap - j)) := by rw [hy]; simp [part, hcap0, add_none]
    refine OpS.val (v := .slice (some ⟨gb, 0, none⟩) (i + (xs.length - j)) cap) (w' := w.setRow gb (cur.toList.take (i * r.n) ++ (cur.toList.drop (j * r.n)).take ((xs.length - j) * r.n) ++ cur.toList.drop (i * r.n + ((cur.toList.drop (j * r.n)).take ((xs.length - j) * r.n)).length)).toArray) hg rfl hd (fun ac hac => by simp [execOp, resolve, invoke, builtin, hac.ev hx', hac.ev hy', hrun]) (K _ (room (h1.write ?_)))
    rintro S G1 hs ⟨zs, hown, hel, hG⟩ hdis _ hlt
    have hG' : ∀ c, G1 c ↔ c = gb := fun c => by rw [hG]; simp [Value.ownBlock, eq_comm]
    have hS : ∀ (cs' : Array Value) c, fl f e.w.heap.size S c → (w.setRow gb cs').heap[c]? = w.heap[c]? :=
      fun cs' c hc => setRow_other w gb c _ (fun h => hdis c hc.1 ((hG' c).2 h))
    have hzy : zs = ys := by
      rcases hown.2 with ⟨h0, _⟩ | ⟨b', cap', cur', e1, hb0, hh', hnc', hcm, hcs', htake⟩
      · cases h0
      · simp only [Value.slice.injEq, Option.some.injEq, Addr.mk.injEq, and_true, true_and] at e1
        obtain ⟨rfl, rfl⟩ := e1
        rw [hh'] at hgb
        simp only [Option.some.injEq, Obj.cells.injEq, and_true] at hgb
        subst hgb
        rw [← htake, htk]
    have hcm : cap ≤ maxLen := by
      rcases hown.2 with ⟨h0, _⟩ | ⟨b', cap', cur', e1, hb0, hh', hnc', hcm, hcs', htake⟩
      · cases h0
      · simp only [Value.slice.injEq, true_and] at e1
        obtain ⟨_, rfl⟩ := e1
        exact hcm
    subst hzy
    have hll : (xs.take i ++ xs.drop j).length = i + (xs.length - j) := by simp; omega
    have hz1 : zs.length = xs.length * r.n := hown.1
    refine ⟨G1, fun b hb => .inl hb, ⟨rfl, rfl, rfl, by simp⟩, fun c _ hc => setRow_other w gb c _ (fun h => hc ((hG' c).2 h)), zs.take (i * r.n) ++ zs.drop (j * r.n), ⟨?_, .inr ⟨gb, cap, _, by rw [hll]; rfl, Nat.zero_le _, setRow_heap w gb _ _ E _ hgb, by rw [hll]; omega, hcm, ?_, ?_⟩⟩, Elems.append ((hel.drop j).stab (fun _ h => h) (hS _)) ((hel.take i).stab (fun _ h => h) (hS _)), hG⟩
    · rw [hll, Nat.add_mul, hsub, List.length_append, List.length_take, List.length_drop, hz1]; omega
    · simp only [List.size_toArray, List.length_append, List.length_take, List.length_drop, Array.length_toList, hcs, hsub]; omega
    · rw [hll, hce]
      have e1 : cur.toList.take (i * r.n) = zs.take (i * r.n) := by rw [← htk, List.take_take]; congr 1; omega
      have e2 : (zs.take (i * r.n) ++ zs.drop (j * r.n)).length = (i + (xs.length - j)) * r.n := by rw [Nat.add_mul, hsub, List.length_append, List.length_take, List.length_drop, hz1]; omega
      simp only [e1]
      rw [← e2, List.take_left']
      rfl
theorem OpS.moveU {a b : Operand} {E : TypeId} {z v : Value} {by_ i j : Nat} {xs : List α} (h : St e w Γ Ω) (hp : Pick Ω (f, .slice E r v xs) Ω') (ht : C.P.underlying T = some (.slice E)) (ti : TI C.P E z r.n by_) (hg : gd ops L g = some true) (hd : Nat.blt d C.fn.ntmps = true)
    (hx : ev L a = some (pre v i)) (hy : ev L b = some (part r.n v j xs.length)) (hij : i ≤ j ∧ j ≤ xs.length)
    (K : ∀ u w', St e w' ((true, .room u xs.length) :: Γ) ((f, .slice E r u (xs.take i ++ xs.drop j)) :: Ω') → Z ((d, u) :: L) w') : OpS C ops ⟨some d, .call ⟨.builtin .append, #[a, b], #[T, T]⟩, t, p, af, g⟩ L w Z :=
  OpS.moveS h hp ht ti hg hd hx hy hij.1 hij.2 (fun w' h => K _ w' h)
/-- clear, behind an owned slice's elements. -/
theorem OpS.clearS {a : Operand} {E : TypeId} {z v : Value} {by_ k n : Nat} {xs : List α} {f2 : Bool} {x0 : α} (h : St e w Γ Ω) (hp : Pick Ω (f, .slice E r v xs) Ω') (hr : At Γ (f2, .room v k)) (ht : C.P.underlying T = some (.slice E)) (ti : TI C.P E z r.n by_) (hz : Zr r z.cells.toList x0) (hg : gd ops L g = some true)
    (hx : ev L a = some (part r.n v xs.length n)) (hnk : xs.length ≤ n ∧ n ≤ k)
    (K : ∀ w', St e w' Γ ((f, .slice E r v xs) :: Ω') → Z L w') : OpS C ops ⟨none, .call ⟨.builtin .clear, #[a], #[T]⟩, t, p, af, g⟩ L w Z := by
  obtain ⟨hn, hk⟩ := hnk
  have h1 := h.pick hp
  obtain ⟨pa, cap, rfl, hlc, hkc⟩ : ∃ pa cap, v = .slice pa xs.length cap ∧ xs.length ≤ cap ∧ k ≤ cap := by
    obtain ⟨S, G, I, hs, G1, G2, _, _, _, h4, _⟩ := h1
    obtain ⟨pa, cap, rfl, hlc⟩ := own_cap h4
    obtain ⟨p1, n1, c1, e1, hk⟩ := hs.at hr
    simp only [Value.slice.injEq] at e1
    obtain ⟨_, _, rfl⟩ := e1
    exact ⟨pa, cap, rfl, hlc, hk⟩
  by_cases hn0 : n = xs.length
  · subst hn0
    have hrun : (Builtin.clear_ #[T] t #[part r.n (.slice pa xs.length cap) xs.length xs.length]).run C.P w = .ok (.tuple #[]) w := by
      cases pa <;> simp [part, Builtin.clear_, run_underlying ht] <;> split <;> simp_all
    exact OpS.valN (v := .tuple #[]) hg rfl (fun ac hac => by simp [execOp, resolve, invoke, builtin, hac.ev hx, hrun]) (K w h1)
  · obtain ⟨gb, cur, rfl, hgb, hcs⟩ : ∃ gb cur, pa = some ⟨gb, 0, none⟩ ∧ w.heap[gb]? = some (.cells cur E (0, 0)) ∧ cur.size = cap * r.n := by
      obtain ⟨S, G, I, hs, G1, G2, _, _, _, ⟨ys, hown, hel, _⟩, _⟩ := h1
      rcases hown.2 with ⟨e1, hn⟩ | ⟨gb, c, cur, e1, _, hgb, hnc, hcm2, hcs, htake⟩
      · simp only [Value.slice.injEq] at e1
        obtain ⟨_, _, rfl⟩ := e1
        omega
      · simp only [Value.slice.injEq, true_and] at e1
        obtain ⟨rfl, rfl⟩ := e1
        exact ⟨gb, cur, rfl, hgb, hcs⟩
    have hzl : z.cells.size = r.n := by have := r.len (hz (fun _ => True) w); simpa using this
    have hzone : ∀ u ∈ z.cells.toList, u.oneCell' = true := r.one (hz (fun _ => True) w)
    have hzc1 : (Builtin.zeroCells z.cells (n - xs.length)).toList.length = (n - xs.length) * r.n := by rw [Array.length_toList, size_zeroCells, hzl]
    have hzc2 : ∀ u ∈ (Builtin.zeroCells z.cells (n - xs.length)).toList, u.oneCell' = true := by
      intro u hu
      simp only [Builtin.zeroCells, Array.toList_map, List.mem_map] at hu
      obtain ⟨q, hq, rfl⟩ := hu
      have hpos : 0 < z.cells.size := by
        rcases Nat.eq_zero_or_pos z.cells.size with h | h
        · rw [h] at hq; simp at hq
        · exact h
      have hlt := Nat.mod_lt q hpos
      rw [getElem!_pos z.cells _ hlt]
      exact hzone _ (by simp)
    have hmul : n * r.n ≤ cap * r.n := Nat.mul_le_mul_right _ (by omega)
    have hsub : (n - xs.length) * r.n = n * r.n - xs.length * r.n := Nat.sub_mul _ _ _
    have hmul2 : xs.length * r.n ≤ n * r.n := Nat.mul_le_mul_right _ hn
    have hst := run_storeCells_at C.P gb (xs.length * r.n) E _ 0 cur w hgb (by rw [hzc1, hcs, hsub]; omega) hzc2
    have hcap0 : ¬ cap = xs.length := by omega
    simp only [Nat.add_zero] at hst
    obtain ⟨m, hm⟩ : ∃ m, n - xs.length = m + 1 := ⟨n - xs.length - 1, by omega⟩
    have hrun : (Builtin.clear_ #[T] t #[part r.n (.slice (some ⟨gb, 0, none⟩) xs.length cap) xs.length n]).run C.P w = .ok (.tuple #[]) (w.setRow gb (cur.toList.take (xs.length * r.n) ++ (Builtin.zeroCells z.cells (n - xs.length)).toList ++ cur.toList.drop (xs.length * r.n + (Builtin.zeroCells z.cells (n - xs.length)).toList.length)).toArray) := by
      simp only [part, hcap0, if_false, Option.map_some, add_none, Nat.zero_add]
      rw [hm] at hst ⊢
      simp [Builtin.clear_, run_underlying ht, run_zeroValue ti, hst]
    refine OpS.valN (v := .tuple #[]) hg rfl (fun ac hac => by simp only [execOp, resolve, invoke, builtin, Sem.run_bind, Sem.run_pure, Result.andThen_ok, List.map_toArray, List.map_cons, List.map_nil, hac.ev hx, hrun]; rfl) (K _ (h1.write ?_))
    rintro S G1 hs ⟨ys, hown, hel, hG⟩ hdis _ hlt
    have hG' : ∀ c, G1 c ↔ c = gb := fun c => by rw [hG]; simp [Value.ownBlock, eq_comm]
    have hS : ∀ (cs' : Array Value) c, fl f e.w.heap.size S c → (w.setRow gb cs').heap[c]? = w.heap[c]? :=
      fun cs' c hc => setRow_other w gb c _ (fun h => hdis c hc.1 ((hG' c).2 h))
    rcases hown.2 with ⟨h0, _⟩ | ⟨b', cap', cur', e1, hb0, hh', hnc', hcm, hcs', htake⟩
    · cases h0
    simp only [Value.slice.injEq, Option.some.injEq, Addr.mk.injEq, and_true, true_and] at e1
    obtain ⟨rfl, rfl⟩ := e1
    rw [hh'] at hgb
    simp only [Option.some.injEq, Obj.cells.injEq, and_true] at hgb
    subst hgb
    refine ⟨G1, fun b hb => .inl hb, ⟨rfl, rfl, rfl, by simp⟩, fun c _ hc => setRow_other w gb c _ (fun h => hc ((hG' c).2 h)), ys, ⟨hown.1, .inr ⟨gb, cap, _, rfl, Nat.zero_le _, setRow_heap w gb _ _ E _ hh', hnc', hcm, ?_, ?_⟩⟩, hel.stab (fun _ h => h) (hS _), hG⟩
    · simp only [List.size_toArray, List.length_append, List.length_take, List.length_drop, Array.length_toList, size_zeroCells, hzl, hsub]; rw [hcs]; clear hsub; generalize xs.length * r.n = A at *; generalize n * r.n = B at *; generalize cap * r.n = D at *; omega
    · have e4 : cur'.toList.take (xs.length * r.n) = ys := htake
      simp only [e4]
      have e5 : ys.length = xs.length * r.n := hown.1
      rw [← e5, List.append_assoc, List.take_left']
      rfl
end
end Lift
