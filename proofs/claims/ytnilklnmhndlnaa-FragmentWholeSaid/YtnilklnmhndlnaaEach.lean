/- Loops over the elements of a list. No program in sight. -/
import Derived.Test.YtnilklnmhndlnaaEv
set_option linter.unusedVariables false
set_option linter.unusedSimpArgs false
namespace Lift
open Go
theorem Ev.each {α β : Type} {l : List α} {step : (Int → Option β) → Int → Option β} {Q : β → Prop} {fuel : Nat} (hf : l.length < fuel)
    (h : ∀ (i : Nat) (x : α), l[i]? = some x → x ∈ l → i < l.length → ∀ self : Int → Option β, Ev (self ((i : Int) + 1)) Q → Ev (step self (i : Int)) Q) (he : ∀ self, Ev (step self (l.length : Int)) Q) : Ev (loopP step fuel 0) Q := by
  refine Ev.loop (fun r (s : Int) => ∃ i : Nat, i ≤ l.length ∧ r = l.length - i ∧ s = (i : Int)) (fun r s hi self hself => ?_) (n := l.length) hf ⟨0, by omega, by omega, rfl⟩
  obtain ⟨i, hi, hr, rfl⟩ := hi
  by_cases hl : i < l.length
  · exact h i _ (List.getElem?_eq_getElem hl) (List.getElem_mem hl) hl self (by have := hself (l.length - (i + 1)) ((i + 1 : Nat) : Int) (by omega) ⟨i + 1, by omega, rfl, rfl⟩; simpa using this)
  · have : i = l.length := by omega
    subst this; exact he self
end Lift
