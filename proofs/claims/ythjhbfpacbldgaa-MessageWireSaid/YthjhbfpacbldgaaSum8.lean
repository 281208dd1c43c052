/- The 8-bit sum, its seal and the reference's: closed forms. No program in sight. -/
import Derived.Test.YthjhbfpacbldgaaLists
set_option linter.unusedVariables false
set_option linter.unusedSimpArgs false
namespace Lift
open Go
/-! ### the sum -/
def sum8 (l : List Int) : Int := (0 - l.foldl (fun s x => (s + x) % 256) 0) % 256
theorem sum_step {s x : Int} (hs : byte s) (hx : byte x) : byte ((s + x) % 256) := by constructor <;> omega
theorem sum_fold {l : List Int} (h : Small l) : byte (l.foldl (fun s x => (s + x) % 256) 0) :=
  (fold_eq (f := fun s x => (s + x) % 256) (g := fun s x => (s + x) % 256) l (fun s x hs hx => ⟨rfl, sum_step hs (h.2 x hx)⟩) 0 ⟨by decide, by decide⟩).2
theorem sum8_byte (l : List Int) : byte (sum8 l) := by unfold sum8; constructor <;> omega
theorem checksum_Sum8_eq {fuel : Nat} {l : List Int} (h : Small l) (hf : 5000 < fuel) : checksum_Sum8 fuel l = some (sum8 l) := by
  have hl := h.1
  unfold checksum_Sum8
  refine fold_run (fun s x => (s + x) % 256) byte ⟨by decide, by decide⟩ (fun s x hs hx => sum_step hs (h.2 x hx)) (by omega) (fun s i x hs hx k => ?_) (fun k => ?_)
  · have hi := lt_len hx
    simp only [show ((i : Int) < (l.length : Int)) by omega, decide_true, iteP_true, idx_nat, hx, bindP_some, letP_eq, w_u8, wi i (by omega)]
  · simp only [show ¬ ((l.length : Int) < (l.length : Int)) by omega, decide_false, iteP_false, letP_eq, w_u8, sum8]
theorem ref01_Sum8_eq {fuel : Nat} {l : List Int} (h : Small l) (hf : 5000 < fuel) : ref01_Sum8 fuel l = some (sum8 l) := by
  have hl := h.1
  unfold ref01_Sum8
  refine fold_run (fun s x => (s + x) % 256) byte ⟨by decide, by decide⟩ (fun s x hs hx => sum_step hs (h.2 x hx)) (by omega) (fun s i x hs hx k => ?_) (fun k => ?_)
  · have hi := lt_len hx
    obtain ⟨b1, b2⟩ := h.2 x (List.mem_of_getElem? hx)
    obtain ⟨s1, s2⟩ := hs
    simp only [show ((i : Int) < (l.length : Int)) by omega, decide_true, iteP_true, idx_nat, hx, bindP_some, letP_eq, wi i (by omega), w_i64 (show -9223372036854775808 ≤ x by omega) (by omega), w_i64 (show -9223372036854775808 ≤ s + x by omega) (by omega)]
    rw [Int.tmod_eq_emod_of_nonneg (by omega)]
  · obtain ⟨s1, s2⟩ := sum_fold h
    simp only [show ¬ ((l.length : Int) < (l.length : Int)) by omega, decide_false, iteP_false, letP_eq, w_u8, sum8]
    rw [w_i64 (by omega) (by omega), Int.tmod_eq_emod_of_nonneg (by omega)]
    congr 1; omega

theorem Seal8_eq {fuel : Nat} {l : List Int} (h : Small l) (hf : 5000 < fuel) : checksum_Seal8 fuel l = some (l ++ [sum8 l]) := by
  have := h.1
  unfold checksum_Seal8
  rw [clone_eq (by omega), bindP_some, checksum_Sum8_eq h hf, bindP_some, app_ok (by simp; omega)]; rfl
end Lift
