/- When two frames are the same. No program in sight. -/
import Derived.Test.YtmjilnfeddaekaaRefframes
namespace Lift
open Go
instance : DecidableEq Frame_ := fun f g => decidable_of_iff (f.To = g.To ∧ f.From = g.From ∧ f.Data = g.Data) (by cases f; cases g; simp)
theorem rSame_eq (f g : Frame_) (hf : f.Data.length ≤ 100) : ref20_Same 6000 f g = some (decide (f = g)) := by
  unfold ref20_Same
  obtain ⟨t1, r1, d1⟩ := f
  obtain ⟨t2, r2, d2⟩ := g
  simp only at hf
  by_cases h1 : t1 = t2
  · by_cases h2 : r1 = r2
    · simp only [h1, h2, beq_self_eq_true, iteP_true]
      rw [Same_eq (by omega) (by omega), bindP_some]; simp
    · have e2 : (r1 == r2) = false := by simpa using h2
      rw [e2]; simp [h1, h2]
  · have e1 : (t1 == t2) = false := by simpa using h1
    rw [e1]; simp [h1]
end Lift
