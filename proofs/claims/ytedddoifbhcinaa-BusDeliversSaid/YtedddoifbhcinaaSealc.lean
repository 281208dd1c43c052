/- The short seal and its opening, and the reference's. No program in sight. -/
import Derived.Test.YtedddoifbhcinaaLists
import Derived.Test.YtedddoifbhcinaaCrc8
set_option linter.unusedVariables false
set_option linter.unusedSimpArgs false
namespace Lift
open Go

theorem SealCRC8_eq {fuel : Nat} {l : List Int} (h : Small l) (hf : 5000 < fuel) : checksum_SealCRC8 fuel l = some (l ++ [crc8 l]) := by
  have := h.1
  unfold checksum_SealCRC8
  rw [clone_eq (by omega), bindP_some, checksum_CRC8_eq h hf, bindP_some, app_ok (by simp; omega)]; rfl
def openC (l : List Int) : List Int × Int := if l = [] then ([], 4) else if crc8 (l.take (l.length - 1)) = last l then (l.take (l.length - 1), 0) else ([], 5)
theorem OpenCRC8_eq {fuel : Nat} {l : List Int} (h : Small l) (hf : 5000 < fuel) : checksum_OpenCRC8 fuel l = some (openC l) := by
  have hl := h.1
  unfold checksum_OpenCRC8 openC
  by_cases h0 : l = []
  · subst h0; rfl
  · have hp : 0 < l.length := by cases l with | nil => exact absurd rfl h0 | cons _ _ => simp
    have e1 : ((l.length : Int) - 1).toNat = l.length - 1 := by omega
    have ed : decide (((l.length : Int) - 1) < 0) = false := by simp; omega
    simp only [letP_eq, wl' (show l.length ≤ 100000 by omega) (show (0:Int) ≤ 1 by omega) (show (1:Int) ≤ 100000 by omega), ed, iteP_false, h0, if_false]
    rw [sub_take (by omega) (by omega), bindP_some, e1, checksum_CRC8_eq (h.take _) hf, bindP_some, idx_last h0, bindP_some]
    by_cases hs : crc8 (l.take (l.length - 1)) = last l
    · simp only [hs, bne_self_eq_false, iteP_false, if_true]
      rw [bindP_some, clone_eq (by simp; omega), bindP_some]
    · have e : (crc8 (l.take (l.length - 1)) != last l) = true := by simpa using hs
      simp only [e, iteP_true, hs, if_false]

theorem openC_seal (l : List Int) : openC (l ++ [crc8 l]) = (l, 0) := by simp [openC, last, List.getLastD_eq_getLast?]
theorem rSealCRC8_eq {fuel : Nat} {l : List Int} (h : Small l) (hf : 5000 < fuel) : ref01_SealCRC8 fuel l = some (l ++ [crc8 l]) := by
  have := h.1
  unfold ref01_SealCRC8
  rw [Copy_eq (by omega) (by omega), bindP_some, ref01_CRC8_eq h hf, bindP_some, app_ok (by simp; omega)]; rfl
theorem rOpenCRC8_eq {fuel : Nat} {l : List Int} (h : Small l) (hf : 5000 < fuel) : ref01_OpenCRC8 fuel l = some (openC l) := by
  have hl := h.1
  unfold ref01_OpenCRC8 openC
  by_cases h0 : l = []
  · subst h0; rfl
  · have hp : 0 < l.length := by cases l with | nil => exact absurd rfl h0 | cons _ _ => simp
    have e0 : ((l.length : Int) == 0) = false := by simp; omega
    have e1 : ((l.length : Int) - 1).toNat = l.length - 1 := by omega
    simp only [letP_eq, wl' (show l.length ≤ 100000 by omega) (show (0:Int) ≤ 1 by omega) (show (1:Int) ≤ 100000 by omega), e0, iteP_false, h0, if_false]
    rw [sub_take (by omega) (by omega), bindP_some, e1, ref01_CRC8_eq (h.take _) hf, bindP_some, idx_last h0, bindP_some]
    by_cases hs : crc8 (l.take (l.length - 1)) = last l
    · simp only [hs, bne_self_eq_false, iteP_false, if_true]
      rw [bindP_some, Copy_eq (by simp; omega) (by simp; omega), bindP_some]
    · have e : (crc8 (l.take (l.length - 1)) != last l) = true := by simpa using hs
      simp only [e, iteP_true, hs, if_false]
end Lift
