/- What was parsed has the bytes that were read. No program in sight. -/
import Derived.Test.YtlfbpnoempdiiaaMtyped
set_option linter.unusedVariables false
set_option linter.unusedSimpArgs false
namespace Lift
open Go
theorem sum8_last {X : List Int} {y : Int} (hy : byte y) (h : sum8 (X ++ [y]) = 0) : sum8 X = y := by
  rw [sum8_sum] at h ⊢
  have e : (X ++ [y]).sum = X.sum + y := by simp
  rw [e] at h
  have := hy.1
  have := hy.2
  omega
theorem split_last {l : List Int} (h : l ≠ []) : l = l.dropLast ++ [l.getLast h] := (List.dropLast_concat_getLast h).symm
theorem mcanon (r : Bool) {l : List Int} (hl : ∀ x ∈ l, byte x) (h : (mparse r l).2 = 0) : mbytes (mparse r l).1 = l ∧ MV (mparse r l).1 ∧ (mparse r l).1.Function % 2 = (if r then 1 else 0) := by
  unfold mparse at h ⊢
  by_cases h0 : l.length < (if r then 8 else 7)
  · rw [if_pos h0] at h; cases h
  rw [if_neg h0] at h ⊢
  by_cases h1 : sum8 (l.take 3) ≠ 0 ∨ sum8 (l.drop 3) ≠ 0
  · rw [if_pos h1] at h; cases h
  rw [if_neg h1] at h ⊢
  rw [not_or, Decidable.not_not, Decidable.not_not] at h1
  obtain ⟨s1, s2⟩ := h1
  obtain ⟨b0, b1, b2, b3, b4, b5, R, rfl, hR⟩ := six (l := l) (by cases r <;> simp at h0 ⊢ <;> omega)
  simp only at h ⊢
  have q0 := hl b0 (by simp)
  have q1 := hl b1 (by simp)
  have q2 := hl b2 (by simp)
  have q3 := hl b3 (by simp)
  have q4 := hl b4 (by simp)
  -- the rest: a code, the data, the sum
  obtain ⟨D, y, hD, hRe, hyb, hc⟩ : ∃ D y, (if r then R.drop 1 else R).dropLast = D ∧ R = (if r then [R.headD 0] else []) ++ D ++ [y] ∧ byte y ∧ True := by
    cases r with
    | false =>
      refine ⟨R.dropLast, R.getLast hR, rfl, by simpa using split_last hR, hl _ ?_, trivial⟩
      have := List.getLast_mem hR
      simp [this]
    | true =>
      cases R with
      | nil => exact absurd rfl hR
      | cons c R' =>
        have hR' : R' ≠ [] := by intro e; subst e; simp at h0
        refine ⟨R'.dropLast, R'.getLast hR', rfl, ?_, hl _ ?_, trivial⟩
        · simpa using split_last hR'
        · have := List.getLast_mem hR'
          simp [this]
  rw [hD] at h ⊢
  unfold mfin at h ⊢
  by_cases h2 : ¬ (b0 % 2 = 0 ∧ b3 % 2 = 0 ∧ b1 / 4 % 2 = (if r then 1 else 0))
  · rw [if_pos h2] at h; cases h
  rw [if_neg h2] at h ⊢
  by_cases h3 : ¬ (AD (b0 / 2) ∧ AD (b3 / 2))
  · rw [if_pos h3] at h; cases h
  rw [if_neg h3] at h ⊢
  by_cases h4 : D.length > 240
  · rw [if_pos h4] at h; cases h
  rw [if_neg h4]
  obtain ⟨g1, g2, g3⟩ := Decidable.not_not.1 h2
  obtain ⟨⟨a1, a2⟩, a3, a4⟩ := Decidable.not_not.1 h3
  have hb0 : 2 * (b0 / 2) = b0 := by omega
  have hb3 : 2 * (b3 / 2) = b3 := by omega
  have hb1 : 4 * (b1 / 4) + b1 % 4 = b1 := by omega
  have hb4 : 4 * (b4 / 4) + b4 % 4 = b4 := by omega
  have hhead : sum8 [b0, b1] = b2 := sum8_last q2 (by simpa using s1)
  have hbody : sum8 ([b3, b4, b5] ++ (if r then [R.headD 0] else []) ++ D) = y := by
    refine sum8_last hyb ?_
    have e : (b0 :: b1 :: b2 :: b3 :: b4 :: b5 :: R).drop 3 = [b3, b4, b5] ++ (if r then [R.headD 0] else []) ++ D ++ [y] := by
      show b3 :: b4 :: b5 :: R = _
      conv => lhs; rw [hRe]
      simp
    rw [e] at s2; exact s2
  refine ⟨?_, ?_, g3⟩
  · have hif : (if b1 / 4 % 2 = 1 then [(if r then R.headD 0 else 0)] else []) = (if r then [R.headD 0] else []) := by
      cases r with
      | false => simp at g3; simp [g3]
      | true => simp at g3; simp [g3]
    unfold mbytes mhead mbody
    simp only [hb0, hb1, hb3, hb4, hif]
    rw [hhead, hbody]
    show b0 :: b1 :: b2 :: b3 :: b4 :: b5 :: ((if r then [R.headD 0] else []) ++ D ++ [y]) = _
    rw [← hRe]
  · unfold MV
    have := q1.1; have := q1.2; have := q4.1; have := q4.2
    refine ⟨a1, a2, a3, a4, by simp only; omega, by simp only; omega, by simp only; omega, by simp only; omega, by simp only; omega, by simp only; omega, by simp only; omega, by simp only; omega, ?_⟩
    cases r with
    | false => right; rfl
    | true => left; simpa using g3
end Lift
