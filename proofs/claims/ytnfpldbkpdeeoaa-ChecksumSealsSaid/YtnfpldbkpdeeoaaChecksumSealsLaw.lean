/- The plain law of ChecksumSeals. uses: sums seals refseals
-/
import Derived.Test.YtnfpldbkpdeeoaaRefseals
namespace Lift
open Go
theorem open8_len {l : List Int} (h : l.length ≤ 5000) : (open8 l).1.length ≤ 5000 := by unfold open8; split <;> (try split) <;> simp <;> omega
theorem openC_len {l : List Int} (h : l.length ≤ 5000) : (openC l).1.length ≤ 5000 := by unfold openC; split <;> (try split) <;> simp <;> omega
theorem openL_len {l : List Int} (h : l.length ≤ 5000) : (openL l).1.length ≤ 5000 := by unfold openL; split <;> (try split) <;> simp <;> omega
theorem law01_ChecksumSeals_true (a0 : List Int) (o0 : okL (okI .u8) a0) : ∃ fuel, law01_ChecksumSeals fuel a0 = some true := by
  refine ⟨6000, ?_⟩
  unfold law01_ChecksumSeals
  rw [law01_light_eq, bindP_some, law01_awake_eq]
  by_cases h : (a0.length : Int) ≤ 2000
  · have hs := small_of o0 (by omega)
    have hf : 5000 < 6000 := by omega
    have hd : (!decide ((a0.length : Int) ≤ 2000)) = false := by simp [h]
    have l1 := open8_len hs.1
    have l2 := openC_len hs.1
    have l3 := openL_len hs.1
    have l4 : (a0 ++ [sum8 a0]).length ≤ 5000 := by simp; omega
    have l5 : (a0 ++ [crc8 a0]).length ≤ 5000 := by simp; omega
    have l6 : (a0 ++ four (crc32 a0)).length ≤ 5000 := by simp [four]; omega
    rw [hd, iteP_false, Open8_eq hs hf, bindP_some, rOpen8_eq hs hf, bindP_some, OpenCRC8_eq hs hf, bindP_some, rOpenCRC8_eq hs hf, bindP_some, OpenCRC32_eq hs hf, bindP_some, rOpenCRC32_eq hs hf, bindP_some, joinP_eq,
      Seal8_eq hs hf, bindP_some, rSeal8_eq hs hf, bindP_some, SealCRC8_eq hs hf, bindP_some, rSealCRC8_eq hs hf, bindP_some, SealCRC32_eq hs hf, bindP_some, rSealCRC32_eq hs hf, bindP_some,
      Same_eq (by omega) (by omega), Same_eq (by omega) (by omega), Same_eq (by omega) (by omega), Same_eq (by omega) (by omega), Same_eq (by omega) (by omega), Same_eq (by omega) (by omega)]
    simp
  · simp [h]
end Lift
