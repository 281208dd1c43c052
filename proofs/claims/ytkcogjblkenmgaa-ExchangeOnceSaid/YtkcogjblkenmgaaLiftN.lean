/- Maps whose keys are strings, as lists of pairs. Over any program. No conditions. -/
import Derived.Test.YtkcogjblkenmgaaLiftM
import Derived.MapKept
set_option linter.unusedVariables false
set_option linter.unusedSimpArgs false
namespace Lift
open Go

/-- What a list of pairs holds under a key. -/
def mfind {α : Type} : List (List Int × α) → List Int → Option α
  | [], _ => none
  | (a, x) :: l, k => if a = k then some x else mfind l k
def mget {α : Type} (z : α) (l : List (List Int × α)) (k : List Int) : α := (mfind l k).getD z
def mput {α : Type} : List (List Int × α) → List Int → α → List (List Int × α)
  | [], k, x => [(k, x)]
  | (a, y) :: l, k, x => if a = k then (a, x) :: l else (a, y) :: mput l k x
def Ments {α : Type} (r : Rep α) (S : Blks) (w : World) : List MapEntry → List (List Int × α) → Prop
  | [], [] => True
  | e :: es, (k, x) :: l => (∃ s, e.key = .string s ∧ k = strOf s) ∧ r.val S w e.val x ∧ Ments r S w es l
  | _, _ => False
theorem Ments.stab {α : Type} {r : Rep α} {S S' : Blks} {w w' : World} (a : ∀ b, S b → S' b) (k : ∀ b, S b → w'.heap[b]? = w.heap[b]?) :
    ∀ {es : List MapEntry} {l : List (List Int × α)}, Ments r S w es l → Ments r S' w' es l
  | [], [], h => h
  | _ :: _, (_, _) :: _, ⟨h1, h2, h3⟩ => ⟨h1, r.val_stab a k h2, Ments.stab a k h3⟩
  | [], _ :: _, h => h.elim
  | _ :: _, [], h => h.elim
/-- A map that belongs to the walk. -/
def HAtom.mp {α : Type} (T : TypeId) (r : Rep α) (v : Value) (l : List (List Int × α)) : HAtom where
  p := fun G S w => ∃ g es ck, v = .map (some g) ∧ (∀ b, G b ↔ b = g) ∧ w.heap[g]? = some (.map es ck) ∧ Ments r S w es.toList l
  st := by
    intro G S S' w w' a k kg ⟨g, es, ck, e, hG, hh, hm⟩
    exact ⟨g, es, ck, e, hG, by rw [kg g ((hG g).2 rfl)]; exact hh, hm.stab a k⟩
theorem find_str {α : Type} {r : Rep α} {S : Blks} {w : World} (s : ByteArray) : ∀ {es : List MapEntry} {l : List (List Int × α)} (i : Nat), Ments r S w es l →
    (mfind l (strOf s) = none ∧ Instr.findNow .string (.string s) es i = some none ∧ ∀ x y ck, r.val S w y x → Ments r S w (es ++ [⟨.string s, y, ck⟩]) (mput l (strOf s) x)) ∨
    ∃ j v x, mfind l (strOf s) = some x ∧ r.val S w v x ∧ Instr.findNow .string (.string s) es i = some (some (i + j, v)) ∧ (∃ e, es[j]? = some e ∧ e.key = .string s) ∧
      ∀ x y, r.val S w y x → Ments r S w (es.modify j fun e => { e with key := .string s, val := y }) (mput l (strOf s) x)
  | [], [], i, _ => .inl ⟨rfl, rfl, fun x y ck hy => ⟨⟨s, rfl, rfl⟩, hy, trivial⟩⟩
  | e :: es, (k, x) :: l, i, ⟨⟨s', hk, e0⟩, h2, h3⟩ => by
    subst e0
    by_cases hs : s = s'
    · subst hs
      refine .inr ⟨0, e.val, x, by simp [mfind], h2, by simp [Instr.findNow, hk, Instr.sameNow, (MapKept.bytes_beq s s).2 rfl], ⟨e, rfl, hk⟩, fun x' y hy => ?_⟩
      simp only [mput, if_true, List.modify_zero_cons]
      exact ⟨⟨s, rfl, rfl⟩, hy, h3⟩
    · have hne : ¬ strOf s' = strOf s := fun h => hs (strOf_inj h).symm
      have hf : Instr.findNow .string (.string s) (e :: es) i = Instr.findNow .string (.string s) es (i + 1) := by
        have hb : (s == s') = false := Bool.eq_false_iff.2 (fun h => hs ((MapKept.bytes_beq s s').1 h))
        simp [Instr.findNow, hk, Instr.sameNow, hb]
      rw [hf]
      rcases find_str s (i + 1) h3 with ⟨h4, h5, h6⟩ | ⟨j, v, x', h4, h5, h6, h7, h8⟩
      · refine .inl ⟨by simp [mfind, hne, h4], h5, fun x' y ck hy => ?_⟩
        simp only [mput, if_neg hne]
        exact ⟨⟨s', hk, rfl⟩, h2, h6 x' y ck hy⟩
      · refine .inr ⟨j + 1, v, x', by simp [mfind, hne, h4], h5, by rw [h6, Nat.add_assoc, Nat.add_comm 1 j], by simpa using h7, fun x'' y hy => ?_⟩
        simp only [mput, if_neg hne, List.modify_succ_cons]
        exact ⟨⟨s', hk, rfl⟩, h2, h8 x'' y hy⟩
  | [], _ :: _, _, h => h.elim
  | _ :: _, [], _, h => h.elim

section
variable {C : Cx} {L : List (Nat × Value)} {w : World} {ops : Array Oper} {Z : List (Nat × Value) → World → Prop} {d : Nat} {t T : TypeId} {p : String} {af : Array Edge} {g : Option (Nat × Bool)}
variable {e : En} {Γ : List (Bool × Atom)} {Ω Ω' : List (Bool × HAtom)} {f : Bool} {α β : Type} {r r' : Rep α} {fr : Rep β} {x : α} {y : β}
theorem OpS.mkmap {r : Rep α} (h : St e w Γ Ω) (hg : gd ops L g = some true) (hd : Nat.blt d C.fn.ntmps = true)
    (K : ∀ u w', St e w' Γ ((true, .mp T r u []) :: Ω) → Z ((d, u) :: L) w') : OpS C ops ⟨some d, .makeMap T none, t, p, af, g⟩ L w Z := by
  refine OpS.val (v := .map (some w.heap.size)) (w' := w.alloc (.map #[] 0)) hg rfl hd (fun ac hac => ?_) (K _ _ (h.alloc (fun S _ _ => ?_)))
  · simp [execOp, Instr.makeMap, newObj, Sem.run]
  · exact ⟨w.heap.size, #[], 0, rfl, fun b => Iff.rfl, by rw [heap_alloc_new], trivial⟩
theorem OpS.mlook {a k : Operand} {q ks z : Value} {l : List (List Int × α)} {kx : List Int} {kt et : TypeId} {n b : Nat} {f' : Bool} {x0 : α} (h : St e w Γ Ω) (hp : Pick Ω (f, .mp T r q l) Ω') (hm : C.P.underlying T = some (.map kt et)) (hk : C.P.underlying kt = some .string)
    (ti : TI C.P et z n b) (hz : ∀ S w, r.val S w z x0) (hg : gd ops L g = some true) (hd : Nat.blt d C.fn.ntmps = true) (hx : ev L a = some q) (hy : ev L k = some ks) (hv : V e.w.heap.size Γ f' .str ks kx)
    (K : ∀ u, St e w ((f, .val r u (mget x0 l kx)) :: Γ) Ω → Z ((d, u) :: L) w) : OpS C ops ⟨some d, .lookup T a k false, t, p, af, g⟩ L w Z := by
  obtain ⟨S, G, I, hs, ho⟩ := h
  obtain ⟨G1, G2, h1, h2, h3, ⟨r0, es, ck, rfl, hG, hh, hm2⟩, h5⟩ := ho.pick hp
  obtain ⟨s, e1, rfl⟩ := hv S w hs
  simp only [List.cons.injEq, and_true] at e1
  subst e1
  have hrun : ∀ v, (∀ ac : Act, Agree C.fn.ntmps L ac → (Instr.lookup T (.map (some r0)) (.string s) false).run C.P w = .ok v w) → r.val (fl f e.w.heap.size S) w v (mget x0 l (strOf s)) → OpS C ops ⟨some d, .lookup T a k false, t, p, af, g⟩ L w Z := by
    intro v hr hval
    refine OpS.val (v := v) (w' := w) hg rfl hd (fun ac hac => ?_) (K v ⟨S, G, I, ⟨hval, hs⟩, ho⟩)
    simp [execOp, hac.ev hx, hac.ev hy, hr ac hac]
  rcases find_str s 0 hm2 with ⟨h6, h7, _⟩ | ⟨j, v, x', h6, h7, h8, _, _⟩
  · refine hrun z (fun ac hac => ?_) (by unfold mget; rw [h6]; exact hz _ _)
    simp [Instr.lookup, run_underlying hm, MapKept.run_getObj_map hh, MapKept.run_checkKey hk (show MapKept.IsKey .string (.string s) by simp [MapKept.IsKey]), MapKept.run_findKey hk h7, Result.andThen, run_zeroValue ti]
  · refine hrun v (fun ac hac => ?_) (by unfold mget; rw [h6]; exact h7)
    simp [Instr.lookup, run_underlying hm, MapKept.run_getObj_map hh, MapKept.run_checkKey hk (show MapKept.IsKey .string (.string s) by simp [MapKept.IsKey]), MapKept.run_findKey hk h8, Result.andThen]
theorem OpS.mlookI {a k : Operand} {q ks : Value} {qk : IntKind} {l : List (List Int × Int)} {kx : List Int} {kt et : TypeId} {n b : Nat} {f' : Bool} (h : St e w Γ Ω) (hp : Pick Ω (f, .mp T (Rep.int qk) q l) Ω') (hm : C.P.underlying T = some (.map kt et)) (hk : C.P.underlying kt = some .string)
    (ti : TI C.P et (.int qk 0) n b) (hg : gd ops L g = some true) (hd : Nat.blt d C.fn.ntmps = true) (hx : ev L a = some q) (hy : ev L k = some ks) (hv : V e.w.heap.size Γ f' .str ks kx)
    (K : Z ((d, .int qk (mget 0 l kx)) :: L) w) : OpS C ops ⟨some d, .lookup T a k false, t, p, af, g⟩ L w Z := by
  refine OpS.mlook h hp hm hk ti (fun _ _ => rfl) hg hd hx hy hv (fun u hu => ?_)
  obtain ⟨S, G, I, hs, ho⟩ := hu
  have := hs.1
  simp only [Atom.val, Rep.val, Rep.int, List.cons.injEq, and_true] at this
  rw [this]; exact K
theorem OpS.mlookS {a k : Operand} {q ks : Value} {l : List (List Int × List Int)} {kx : List Int} {kt et : TypeId} {n b : Nat} {f' : Bool} (h : St e w Γ Ω) (hp : Pick Ω (f, .mp T Rep.str q l) Ω') (hm : C.P.underlying T = some (.map kt et)) (hk : C.P.underlying kt = some .string)
    (ti : TI C.P et (.string ⟨#[]⟩) n b) (hg : gd ops L g = some true) (hd : Nat.blt d C.fn.ntmps = true) (hx : ev L a = some q) (hy : ev L k = some ks) (hv : V e.w.heap.size Γ f' .str ks kx)
    (K : ∀ u, St e w ((f, .val Rep.str u (mget [] l kx)) :: Γ) Ω → Z ((d, u) :: L) w) : OpS C ops ⟨some d, .lookup T a k false, t, p, af, g⟩ L w Z :=
  OpS.mlook h hp hm hk ti (fun _ _ => ⟨_, rfl, rfl⟩) hg hd hx hy hv K
theorem OpS.mupd {a k x : Operand} {q ks v : Value} {l : List (List Int × α)} {kx : List Int} {kt et : TypeId} {f1 f' : Bool} {x0 : α} {l' : List (List Int × α)} (h : St e w Γ Ω) (hp : Pick Ω (f, .mp T r q l) Ω') (hm : C.P.underlying T = some (.map kt et)) (hk : C.P.underlying kt = some .string)
    (hg : gd ops L g = some true) (hx : ev L a = some q) (hy : ev L k = some ks) (hz : ev L x = some v) (hv1 : V e.w.heap.size Γ f1 .str ks kx) (hv : V e.w.heap.size Γ f' r v x0) (hf : f' = true ∨ f = false)
    (he : mput l kx x0 = l') (K : ∀ w', St e w' Γ ((f, .mp T r q l') :: Ω') → Z L w') : OpS C ops ⟨none, .mapUpdate T a k x, t, p, af, g⟩ L w Z := by
  subst he
  have h1 := h.pick hp
  obtain ⟨s, rfl, rfl⟩ : ∃ s, ks = .string s ∧ kx = strOf s := by
    obtain ⟨S, G, I, hs, _⟩ := h1
    obtain ⟨s, e1, e2⟩ := hv1 S w hs
    simp only [List.cons.injEq, and_true] at e1
    exact ⟨s, e1, e2⟩
  obtain ⟨r0, rfl, es, ck, hh⟩ : ∃ r0, q = .map (some r0) ∧ ∃ es ck, w.heap[r0]? = some (.map es ck) := by
    obtain ⟨S, G, I, hs, G1, G2, _, _, _, ⟨r0, es, ck, e1, _, hh, _⟩, _⟩ := h1
    exact ⟨r0, e1, es, ck, hh⟩
  have hlt : r0 < w.heap.size := (Array.getElem?_eq_some_iff.1 hh).1
  have hkey : MapKept.IsKey .string (.string s) := by simp [MapKept.IsKey]
  have fin : ∀ o, (∀ ac : Act, Agree C.fn.ntmps L ac → (Instr.mapUpdate T (.map (some r0)) (.string s) v).run C.P w = .ok () { w with heap := w.heap.setIfInBounds r0 o }) →
      (∀ S G1, Sat e.w.heap.size S w Γ → (HAtom.mp T r (.map (some r0)) l).p G1 (fl f e.w.heap.size S) w → (∀ b, S b → ¬ G1 b) → ∃ es' ck', o = .map es' ck' ∧ Ments r (fl f e.w.heap.size S) w es'.toList (mput l (strOf s) x0)) → OpS C ops ⟨none, .mapUpdate T a k x, t, p, af, g⟩ L w Z := by
    intro o hrun ho
    refine OpS.eff hg rfl (fun ac hac => ?_) (K { w with heap := w.heap.setIfInBounds r0 o } (h1.write ?_))
    · simp [execOp, hac.ev hx, hac.ev hy, hac.ev hz, hrun ac hac]
    rintro S G1 hs hmp hdis _ hl1
    obtain ⟨es', ck', rfl, hm3⟩ := ho S G1 hs hmp hdis
    obtain ⟨r1, es1, ck1, e1, hG, hh1, hm1⟩ := hmp
    simp only [Value.map.injEq, Option.some.injEq] at e1
    subst e1
    have hset := MapKept.heap_set (o' := .map es' ck') hh
    have hoth : ∀ c, ¬ G1 c → (w.heap.setIfInBounds r0 (.map es' ck'))[c]? = w.heap[c]? := fun c hc => hset.2 c (fun e => hc ((hG c).2 e))
    refine ⟨G1, fun b hb => .inl hb, ⟨rfl, rfl, rfl, by simp⟩, fun c _ hc => hoth c hc, r0, es', ck', rfl, hG, hset.1, hm3.stab (fun _ h => h) (fun c hc => hoth c (fun hg => hdis c hc.1 hg))⟩
  cases hfn : Instr.findNow .string (.string s) es.toList 0 with
  | none =>
    obtain ⟨S, G, I, hs, G1, G2, _, _, _, ⟨r1, es1, ck1, e1, hG, hh1, hm1⟩, _⟩ := h1
    simp only [Value.map.injEq, Option.some.injEq] at e1
    subst e1
    rw [hh] at hh1
    simp only [Option.some.injEq, Obj.map.injEq] at hh1
    obtain ⟨rfl, rfl⟩ := hh1
    rcases find_str s 0 hm1 with ⟨_, h7, _⟩ | ⟨_, _, _, _, _, h8, _, _⟩
    · rw [h7] at hfn; cases hfn
    · rw [h8] at hfn; cases hfn
  | some res =>
    cases res with
    | none =>
      refine fin (.map (es.push { key := .string s, val := v, born := ck }) (ck + 1)) (fun ac hac => ?_) (fun S G1 hs hmp hdis => ⟨_, _, rfl, ?_⟩)
      · simp [Instr.mapUpdate, run_underlying hm, MapKept.run_getObj_map hh, MapKept.run_checkKey hk hkey, MapKept.run_findKey hk hfn, MapKept.run_setObj_map _ hh, Result.andThen]
      · obtain ⟨r1, es1, ck1, e1, hG, hh1, hm1⟩ := hmp
        simp only [Value.map.injEq, Option.some.injEq] at e1
        subst e1
        rw [hh] at hh1
        simp only [Option.some.injEq, Obj.map.injEq] at hh1
        obtain ⟨rfl, rfl⟩ := hh1
        rcases find_str s 0 hm1 with ⟨_, _, h7⟩ | ⟨_, _, _, _, _, h8, _, _⟩
        · rw [Array.toList_push]; exact h7 x0 v ck (hv.as hf hs)
        · rw [h8] at hfn; cases hfn
    | some jv =>
      obtain ⟨j, v0⟩ := jv
      have hent : ∃ en, es.toList[j]? = some en ∧ en.key = .string s ∧ (∀ S, Sat e.w.heap.size S w Γ → ∀ G1, (HAtom.mp T r (.map (some r0)) l).p G1 (fl f e.w.heap.size S) w → Ments r (fl f e.w.heap.size S) w (es.toList.modify j fun e => { e with key := .string s, val := v }) (mput l (strOf s) x0)) := by
        have hj : ∀ S, Sat e.w.heap.size S w Γ → ∀ G1, (HAtom.mp T r (.map (some r0)) l).p G1 (fl f e.w.heap.size S) w → (∃ en, es.toList[j]? = some en ∧ en.key = .string s) ∧ Ments r (fl f e.w.heap.size S) w (es.toList.modify j fun e => { e with key := .string s, val := v }) (mput l (strOf s) x0) := by
          rintro S hs G1 ⟨r1, es1, ck1, e1, hG, hh1, hm1⟩
          simp only [Value.map.injEq, Option.some.injEq] at e1
          subst e1
          rw [hh] at hh1
          simp only [Option.some.injEq, Obj.map.injEq] at hh1
          obtain ⟨rfl, rfl⟩ := hh1
          rcases find_str s 0 hm1 with ⟨_, h7, _⟩ | ⟨j', v', x', _, _, h8, h9, h10⟩
          · rw [h7] at hfn; cases hfn
          · rw [h8] at hfn
            simp only [Nat.zero_add, Option.some.injEq, Prod.mk.injEq] at hfn
            obtain ⟨rfl, rfl⟩ := hfn
            exact ⟨h9, h10 x0 v (hv.as hf hs)⟩
        obtain ⟨S, G, I, hs, G1, G2, _, _, _, hmp, _⟩ := h1
        obtain ⟨en, h11, h12⟩ := (hj S hs G1 hmp).1
        exact ⟨en, h11, h12, fun S hs G1 hmp => (hj S hs G1 hmp).2⟩
      obtain ⟨en, h11, h12, h13⟩ := hent
      have h11' : es[j]? = some en := by simpa using h11
      refine fin (.map (es.modify j fun e => { e with key := .string s, val := v }) ck) (fun ac hac => ?_) (fun S G1 hs hmp hdis => ⟨_, _, rfl, ?_⟩)
      · simp [Instr.mapUpdate, run_underlying hm, MapKept.run_getObj_map hh, MapKept.run_checkKey hk hkey, MapKept.run_findKey hk hfn, h11', h12, MapKept.run_keyThatStays hkey, MapKept.run_setObj_map _ hh, Result.andThen]
      · rw [Array.toList_modify]; exact h13 S hs G1 hmp
end
end Lift
