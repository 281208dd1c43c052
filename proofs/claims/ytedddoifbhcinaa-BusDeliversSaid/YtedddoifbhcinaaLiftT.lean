/- append of a slice that belongs to the walk itself. Over any program. No conditions. -/
import Derived.Test.YtedddoifbhcinaaLiftS
set_option linter.unusedVariables false
set_option linter.unusedSimpArgs false
namespace Lift
open Go
section
variable {C : Cx} {L : List (Nat × Value)} {w : World} {ops : Array Oper} {Z : List (Nat × Value) → World → Prop} {d : Nat} {t T : TypeId} {p : String} {af : Array Edge} {g : Option (Nat × Bool)}
variable {e : En} {Γ : List (Bool × Atom)} {Ω Ω' : List (Bool × HAtom)} {f : Bool} {α β : Type} {r : Rep α}
/-- append to an owned slice, of what can be read. -/
theorem OpS.appX {a b : Operand} {E : TypeId} {z s v : Value} {by_ : Nat} {l1 l2 l3 : List α} (h : St e w Γ Ω) (hp : Pick Ω (f, .slice E r s l1) Ω') (ht : C.P.underlying T = some (.slice E)) (ti : TI C.P E z r.n by_) (hzl : z.cells.size = r.n) (hpos : Nat.blt 0 r.n = true) (hby : Nat.blt 0 by_ = true)
    (hg : gd ops L g = some true) (hd : Nat.blt d C.fn.ntmps = true) (hx : ev L a = some s) (hy : ev L b = some v) (hv : ∀ S G2, Sat e.w.heap.size S w Γ → OSat e.w.heap.size S w Ω' G2 → ∃ S1, r.slice.val S1 w v l2 ∧ ∀ cs, Elems r S1 w cs l2 → Elems r (fl f e.w.heap.size S) w cs l2) (hap : Lift.app by_ l1 l2 = some l3)
    (K : ∀ u w', St e w' Γ ((f, .slice E r u l3) :: Ω') → Z ((d, u) :: L) w') : OpS C ops ⟨some d, .call ⟨.builtin .append, #[a, b], #[T, T]⟩, t, p, af, g⟩ L w Z := by
  obtain ⟨hb, rfl⟩ := app_some hap
  have h1 := h.pick hp
  obtain ⟨S, G, I, hs, G1, G2, k1, k2, k3, ⟨xs, hown, hel, hG⟩, k5⟩ := h1
  obtain ⟨S1, hv1, hv2⟩ := hv S G2 hs k5
  obtain ⟨v', w', news, hrun, ho2, hgr, hnews, hblk⟩ := run_app (U := t) ht ti hzl hpos hby hown hv1 hb
  have hnews' : Elems r (fl f e.w.heap.size S) w news l2 := hv2 _ hnews
  have hkeep : ∀ c, c < w.heap.size → ¬ G1 c → w'.heap[c]? = w.heap[c]? := fun c hc hn => hgr.block c hc (fun h => hn ((hG c).2 h.symm))
  have hS : ∀ c, fl f e.w.heap.size S c → w'.heap[c]? = w.heap[c]? := fun c hc => hkeep c (I.sb c hc.1) (fun h => I.dis c hc.1 ((k1 c).2 (.inl h)))
  have hst : St e w' Γ ((f, .slice E r v' (l1 ++ l2)) :: Ω') := by
    have hG1' : ∀ c, v'.ownBlock = some c → G1 c ∨ (w.heap.size ≤ c ∧ c < w'.heap.size) := fun c hc => (hblk c hc).imp (fun h => (hG c).2 h) id
    have kS : ∀ c, S c → w'.heap[c]? = w.heap[c]? := fun c hc => hkeep c (I.sb c hc) (fun h => I.dis c hc ((k1 c).2 (.inl h)))
    have kG : ∀ c, G2 c → w'.heap[c]? = w.heap[c]? := fun c hc => hkeep c (I.gb c ((k1 c).2 (.inr hc))) (fun h => k2 c h hc)
    refine ⟨S, fun c => v'.ownBlock = some c ∨ G2 c, ⟨⟨hgr.os.trans I.step.os, hgr.tape.trans I.step.tape, hgr.output.trans I.step.output, Nat.le_trans I.step.size hgr.size, fun c hc hn => ?_⟩, fun c hc => Nat.lt_of_lt_of_le (I.sb c hc) hgr.size, ?_, ?_, I.s0, ?_⟩,
      hs.st (fun _ h => h) kS, fun c => v'.ownBlock = some c, G2, fun _ => Iff.rfl, ?_, ?_, ⟨xs ++ news, by rw [List.length_append]; exact ho2, Elems.append (hnews'.stab (fun _ h => h) hS) (hel.stab (fun _ h => h) hS), fun _ => Iff.rfl⟩, k5.st (fun _ h => h) kS kG⟩
    · rw [hkeep c (Nat.lt_of_lt_of_le hc I.step.size) (fun h => ?_)]
      · exact I.step.block c hc hn
      · rcases I.g0 c ((k1 c).2 (.inl h)) with h | h
        · exact hn h
        · omega
    · rintro c (hc | hc)
      · rcases hG1' c hc with h | h
        · exact Nat.lt_of_lt_of_le (I.gb c ((k1 c).2 (.inl h))) hgr.size
        · exact h.2
      · exact Nat.lt_of_lt_of_le (I.gb c ((k1 c).2 (.inr hc))) hgr.size
    · rintro c hc (hn | hn)
      · rcases hG1' c hn with h | h
        · exact I.dis c hc ((k1 c).2 (.inl h))
        · have := I.sb c hc; omega
      · exact I.dis c hc ((k1 c).2 (.inr hn))
    · rintro c (hc | hc)
      · rcases hG1' c hc with h | h
        · exact I.g0 c ((k1 c).2 (.inl h))
        · exact .inr (Nat.le_trans I.step.size h.1)
      · exact I.g0 c ((k1 c).2 (.inr hc))
    · intro c hc hn
      rcases hG1' c hc with h | h
      · exact k2 c h hn
      · have := I.gb c ((k1 c).2 (.inr hn)); omega
    · intro c hf hc
      rcases hG1' c hc with h | h
      · exact k3 c hf h
      · exact Nat.le_trans I.step.size h.1
  exact OpS.val hg rfl hd (fun ac hac => by simp [execOp, resolve, invoke, builtin, hac.ev hx, hac.ev hy, hrun]) (K _ _ hst)
/-- append of another owned slice. -/
theorem OpS.appO {a b : Operand} {E E2 : TypeId} {z s v : Value} {by_ : Nat} {l1 l2 l3 : List α} {f' : Bool} {Ω'' : List (Bool × HAtom)} (h : St e w Γ Ω) (hp : Pick Ω (f, .slice E r s l1) Ω') (hp2 : Pick Ω' (f', .slice E2 r v l2) Ω'') (hpu : Pure r) (ht : C.P.underlying T = some (.slice E)) (ti : TI C.P E z r.n by_) (hzl : z.cells.size = r.n) (hpos : Nat.blt 0 r.n = true) (hby : Nat.blt 0 by_ = true)
    (hg : gd ops L g = some true) (hd : Nat.blt d C.fn.ntmps = true) (hx : ev L a = some s) (hy : ev L b = some v) (hap : Lift.app by_ l1 l2 = some l3)
    (K : ∀ u w', St e w' Γ ((f, .slice E r u l3) :: Ω') → Z ((d, u) :: L) w') : OpS C ops ⟨some d, .call ⟨.builtin .append, #[a, b], #[T, T]⟩, t, p, af, g⟩ L w Z :=
  OpS.appX h hp ht ti hzl hpos hby hg hd hx hy (fun S G2 _ ho => by
    obtain ⟨K1, K2, _, _, _, h4, _⟩ := ho.pick hp2
    exact ⟨fun b => fl f' e.w.heap.size S b ∨ K1 b, own_val ((HAtom.slice E2 r v l2).st (fun b hb => .inl hb) (fun _ _ => rfl) (fun _ _ => rfl) h4) (fun b hb => .inr hb), fun cs hc => hpu.elems hc⟩) hap K
end
end Lift
