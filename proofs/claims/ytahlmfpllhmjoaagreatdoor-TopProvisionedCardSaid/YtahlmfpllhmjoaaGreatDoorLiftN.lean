import Derived.Test.YtahlmfpllhmjoaaGreatDoorLiftT
import Derived.MapKept
set_option linter.unusedVariables false
set_option linter.unusedSimpArgs false
namespace Lift
open Go
def Ments {α : Type} (r : Rep α) (S : Blks) (w : World) : List MapEntry → List (List Int × α) → Prop
  | [], [] => True
  | e :: es, (k, x) :: l => (∃ s, e.key = .string s ∧ k = strOf s) ∧ r.val S w e.val x ∧ Ments r S w es l
  | _, _ => False
theorem Ments.stab {α : Type} {r : Rep α} {S S' : Blks} {w w' : World} (a : ∀ b, S b → S' b) (k : ∀ b, S b → w'.heap[b]? = w.heap[b]?) :
    ∀ {es : List MapEntry} {l : List (List Int × α)}, Ments r S w es l → Ments r S' w' es l
  | [], [], h => h
  | _ :: _, (_, _) :: _, ⟨h1, h2, h3⟩ => ⟨h1, r.val_stab a k h2, Ments.stab a k h3⟩
  | [], _ :: _, h => h.elim
  | _ :: _, [], h => h.elim
def HAtom.mp {α : Type} (T : TypeId) (r : Rep α) (v : Value) (l : List (List Int × α)) : HAtom where
  p := fun G S w => ∃ g es ck, v = .map (some g) ∧ (∀ b, G b ↔ b = g) ∧ w.heap[g]? = some (.map es ck) ∧ Ments r S w es.toList l
  st := by
    intro G S S' w w' a k kg ⟨g, es, ck, e, hG, hh, hm⟩
    exact ⟨g, es, ck, e, hG, by rw [kg g ((hG g).2 rfl)]; exact hh, hm.stab a k⟩
section
variable {C : Cx} {L : List (Nat × Value)} {w : World} {ops : Array Oper} {Z : List (Nat × Value) → World → Prop} {d : Nat} {t T : TypeId} {p : String} {af : Array Edge} {g : Option (Nat × Bool)}
variable {e : En} {Γ : List (Bool × Atom)} {Ω Ω' : List (Bool × HAtom)} {f : Bool} {α β : Type} {r r' : Rep α} {fr : Rep β} {x : α} {y : β}
theorem OpS.mkmap {r : Rep α} (h : St e w Γ Ω) (hg : gd ops L g = some true) (hd : Nat.blt d C.fn.ntmps = true)
    (K : ∀ u w', St e w' Γ ((true, .mp T r u []) :: Ω) → Z ((d, u) :: L) w') : OpS C ops ⟨some d, .makeMap T none, t, p, af, g⟩ L w Z := by
  refine OpS.val (v := .map (some w.heap.size)) (w' := w.alloc (.map #[] 0)) hg rfl hd (fun ac hac => ?_) (K _ _ (h.alloc (fun S _ _ => ?_)))
  · simp [execOp, Instr.makeMap, newObj, Sem.run]
  · exact ⟨w.heap.size, #[], 0, rfl, fun b => Iff.rfl, by rw [heap_alloc_new], trivial⟩
end
end Lift
