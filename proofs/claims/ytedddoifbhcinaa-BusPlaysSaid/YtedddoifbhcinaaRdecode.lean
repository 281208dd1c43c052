/- The reference's decoding of frames: the same closed form. No program in sight. -/
import Derived.Test.YtedddoifbhcinaaRefframes
set_option linter.unusedVariables false
set_option linter.unusedSimpArgs false
namespace Lift
open Go
theorem rDecode_eq {fuel : Nat} {l : List Int} (h : Small l) (hf : 5000 < fuel) : ref20_Decode fuel l = some (decode l) := by
  have hl := h.1
  unfold ref20_Decode decode
  by_cases h0 : l.length < 5
  · have ed : decide ((l.length : Int) < 5) = true := by simp; omega
    rw [ed, if_pos h0]; rfl
  · have ed : decide ((l.length : Int) < 5) = false := by simp; omega
    have hne : l ≠ [] := by intro e; subst e; simp at h0
    rw [ed, iteP_false, if_neg h0, rOpenCRC8_eq h hf, bindP_some]
    by_cases hs : crc8 (l.take (l.length - 1)) = last l
    · have eo : openC l = (l.take (l.length - 1), 0) := by simp [openC, hne, hs]
      obtain ⟨b0, b1, b2, b3, D, hb, hD⟩ := take_four h0
      have hby := (h.take (l.length - 1)).2
      rw [hb] at hs hby eo ⊢
      rw [eo]
      have c0 := half (hby b0 (by simp))
      have c3 := half (hby b3 (by simp))
      obtain ⟨d1, d2⟩ := hby b2 (by simp)
      have i0 : idx (b0 :: b1 :: b2 :: b3 :: D) 0 = some b0 := rfl
      have i1 : idx (b0 :: b1 :: b2 :: b3 :: D) 1 = some b1 := rfl
      have i2 : idx (b0 :: b1 :: b2 :: b3 :: D) 2 = some b2 := rfl
      have i3 : idx (b0 :: b1 :: b2 :: b3 :: D) 3 = some b3 := rfl
      have sd : sub (b0 :: b1 :: b2 :: b3 :: D) 4 (b0 :: b1 :: b2 :: b3 :: D).length = some D := by
        have := sub_drop (l := b0 :: b1 :: b2 :: b3 :: D) (b := 4) (by omega) (by simp; omega)
        simpa using this
      have hn : ¬ crc8 (b0 :: b1 :: b2 :: b3 :: D) ≠ last l := by simpa using hs
      have w2 : IntKind.i64.wrap b2 = b2 := w_i64 (by omega) (by omega)
      have wl4 : IntKind.i64.wrap ((l.length : Int) - 4) = (l.length : Int) - 4 := w_i64 (by omega) (by omega)
      have ra : ∀ a : Int, ref20_Address fuel a = some (addr a) := rAddress_eq fuel
      rw [if_neg hn]
      simp only [bne_self_eq_false, iteP_false, i0, i1, i2, i3, sd, bindP_some, c0.1, c0.2, c3.1, c3.2, w2, wl4, joinP_eq, letP_eq]
      rw [Copy_eq (by omega) (by omega), bindP_some]
      simp only [iteP_eq, ra, bindP_some]
      by_cases t0 : b0 % 2 = 0
      · by_cases t1 : b1 = 15
        · by_cases t2 : b2 = (l.length : Int) - 4
          · by_cases t3 : b3 % 2 = 1
            · have t3' : ¬ b3 % 2 = 0 := by omega
              cases a1 : addr (b0 / 2) <;> cases a2 : addr (b3 / 2) <;> by_cases t4 : D.length ≤ 72 <;> simp [t0, t1, t2, t3, a1, a2, t4] <;> omega
            · have t3' : b3 % 2 = 0 := by omega
              simp [t0, t1, t2, t3']
          · simp [t0, t1, t2]
        · simp [t0, t1]
      · simp [t0]
    · have eo : openC l = ([], 5) := by simp [openC, hne, hs]
      rw [eo, if_pos hs]; rfl
end Lift
