/- Seals and their openings: closed forms. No program in sight. -/
import Derived.Test.YtnfpldbkpdeeoaaSums
import Derived.Test.YtnfpldbkpdeeoaaSealc
namespace Lift
open Go

theorem Seal8_eq {fuel : Nat} {l : List Int} (h : Small l) (hf : 5000 < fuel) : checksum_Seal8 fuel l = some (l ++ [sum8 l]) := by
  have := h.1
  unfold checksum_Seal8
  rw [clone_eq (by omega), bindP_some, checksum_Sum8_eq h hf, bindP_some, app_ok (by simp; omega)]; rfl
def open8 (l : List Int) : List Int × Int := if l = [] then ([], 4) else if sum8 l = 0 then (l.take (l.length - 1), 0) else ([], 5)
theorem Open8_eq {fuel : Nat} {l : List Int} (h : Small l) (hf : 5000 < fuel) : checksum_Open8 fuel l = some (open8 l) := by
  have hl := h.1
  unfold checksum_Open8 open8
  by_cases h0 : l = []
  · subst h0; rfl
  · have hp : 0 < l.length := by cases l with | nil => exact absurd rfl h0 | cons _ _ => simp
    have e0 : ((l.length : Int) == 0) = false := by simp; omega
    have e1 : ((l.length : Int) - 1).toNat = l.length - 1 := by omega
    simp only [letP_eq, e0, iteP_false, h0, if_false]
    rw [checksum_Sum8_eq h hf, bindP_some]
    by_cases hs : sum8 l = 0
    · simp only [hs, if_true, bne_self_eq_false, iteP_false]
      rw [wl' (by omega) (by omega) (by omega), sub_take (by omega) (by omega), bindP_some, e1, clone_eq (by simp; omega), bindP_some]
    · have e : (sum8 l != 0) = true := by simpa using hs
      simp only [e, iteP_true, hs, if_false]
/-! ### the long seal -/
def four (v : Int) : List Int := [v % 256, v / 256 % 256, v / 65536 % 256, v / 16777216 % 256]
theorem shr_nat {v : Int} (h : word v) (k : Nat) (hk : k ≤ 32) : bShr .u32 v (k : Int) = v / (2 ^ k : Nat) := by
  show Int.fdiv v (2 ^ (min ((k : Int)).toNat 32)) = _
  have : min ((k : Int)).toNat 32 = k := by simp; omega
  rw [this, show ((2 : Int) ^ k) = ((2 ^ k : Nat) : Int) from by simp, Int.fdiv_eq_ediv_of_nonneg _ (Int.natCast_nonneg _)]
theorem four_eq {fuel : Nat} {v : Int} (h : word v) : checksum_four fuel v = some (four v) := by
  unfold checksum_four four
  have e8 := shr_nat h 8 (by omega)
  have e16 := shr_nat h 16 (by omega)
  have e24 := shr_nat h 24 (by omega)
  rw [show bShr .u32 v 8 = v / 256 from e8, show bShr .u32 v 16 = v / 65536 from e16, show bShr .u32 v 24 = v / 16777216 from e24]
  simp only [w_u8]
theorem four_byte {v x : Int} (hx : x ∈ four v) : byte x := by
  simp only [four, List.mem_cons, List.not_mem_nil, or_false] at hx
  rcases hx with rfl | rfl | rfl | rfl <;> constructor <;> omega
theorem SealCRC32_eq {fuel : Nat} {l : List Int} (h : Small l) (hf : 5000 < fuel) : checksum_SealCRC32 fuel l = some (l ++ four (crc32 l)) := by
  have := h.1
  unfold checksum_SealCRC32
  rw [clone_eq (by omega), bindP_some, checksum_CRC32_eq h hf, bindP_some, four_eq (crc32_word h), bindP_some, app_ok (by simp [four]; omega)]; rfl
theorem Equal_eq {fuel : Nat} {a b : List Int} (ha : a.length ≤ 100000) (hf : a.length < fuel) : slices_Equal_byte_byte fuel a b = some (decide (a = b)) := by
  unfold slices_Equal_byte_byte
  by_cases hl : a.length = b.length
  · have e0 : ((a.length : Int) != (b.length : Int)) = false := by simp [hl]
    rw [e0, iteP_false]
    refine same_loop hl ha hf (fun i x y hx hy k => ?_) (fun k => ?_)
    · have hi := lt_len hx
      simp only [show ((i : Int) < (a.length : Int)) by omega, decide_true, iteP_true, idx_nat, hx, hy, bindP_some, wi i (by omega), iteP_eq]
      by_cases e : x = y <;> simp [e]
    · simp
  · have e0 : ((a.length : Int) != (b.length : Int)) = true := by simp; omega
    rw [e0, iteP_true]
    have : a ≠ b := fun e => hl (by rw [e])
    simp [this]
def openL (l : List Int) : List Int × Int := if l.length < 4 then ([], 4) else if four (crc32 (l.take (l.length - 4))) = l.drop (l.length - 4) then (l.take (l.length - 4), 0) else ([], 5)
theorem OpenCRC32_eq {fuel : Nat} {l : List Int} (h : Small l) (hf : 5000 < fuel) : checksum_OpenCRC32 fuel l = some (openL l) := by
  have hl := h.1
  unfold checksum_OpenCRC32 openL
  simp only [letP_eq, wl' (show l.length ≤ 100000 by omega) (show (0:Int) ≤ 4 by omega) (show (4:Int) ≤ 100000 by omega)]
  by_cases h0 : l.length < 4
  · have ed : decide (((l.length : Int) - 4) < 0) = true := by simp; omega
    simp [ed, h0]
  · have e1 : ((l.length : Int) - 4).toNat = l.length - 4 := by omega
    have ed : decide (((l.length : Int) - 4) < 0) = false := by simp; omega
    simp only [ed, iteP_false, h0, if_false]
    rw [sub_take (by omega) (by omega), bindP_some, e1, checksum_CRC32_eq (h.take _) hf, bindP_some, four_eq (crc32_word (h.take _)), bindP_some, sub_drop (by omega) (by omega), bindP_some, e1, Equal_eq (by simp [four]) (by simp [four]; omega), bindP_some]
    by_cases hs : four (crc32 (l.take (l.length - 4))) = l.drop (l.length - 4)
    · simp only [hs, decide_true, Bool.not_true, iteP_false, if_true]
      rw [bindP_some, clone_eq (by simp; omega), bindP_some]
    · simp [hs]

/-! ### what a seal's opening gives -/
theorem open8_seal {l : List Int} (h : Small l) : open8 (l ++ [sum8 l]) = (l, 0) := by
  have hne : l ++ [sum8 l] ≠ [] := by simp
  have hs : sum8 (l ++ [sum8 l]) = 0 := by
    obtain ⟨h1, h2⟩ := sum_fold h
    unfold sum8
    rw [List.foldl_append]
    simp only [List.foldl_cons, List.foldl_nil]
    omega
  simp [open8, hs]
theorem openL_seal (l : List Int) : openL (l ++ four (crc32 l)) = (l, 0) := by
  have hl : (l ++ four (crc32 l)).length = l.length + 4 := by simp [four]
  have : ¬ (l.length + 4 < 4) := by omega
  simp [openL, hl, this]
end Lift
