/- Maps as lists of pairs: what an update changes. No program in sight. -/
import Derived.Test.YtkcogjblkenmgaaLiftN
set_option linter.unusedVariables false
set_option linter.unusedSimpArgs false
namespace Lift
open Go
theorem mfind_put {α : Type} : ∀ (l : List (List Int × α)) (k k' : List Int) (x : α), mfind (mput l k x) k' = if k = k' then some x else mfind l k'
  | [], k, k', x => by simp only [mput, mfind]
  | (a, y) :: l, k, k', x => by
    by_cases h : a = k
    · subst h
      simp only [mput, if_true, mfind]
      by_cases h2 : a = k' <;> simp [h2]
    · simp only [mput, if_neg h, mfind]
      by_cases h2 : a = k'
      · subst h2
        rw [if_pos rfl, if_neg (fun e => h e.symm), if_pos rfl]
      · rw [if_neg h2, mfind_put l k k' x, if_neg h2]
theorem mget_put {α : Type} (z : α) (l : List (List Int × α)) (k k' : List Int) (x : α) : mget z (mput l k x) k' = if k = k' then x else mget z l k' := by
  unfold mget; rw [mfind_put]; split <;> rfl
end Lift
