/- The plain law of ChecksumReturns. uses: sums seals
-/
import Derived.Test.YtnfpldbkpdeeoaaSeals
namespace Lift
open Go
theorem law01_ChecksumReturns_true (a0 : List Int) (o0 : okL (okI .u8) a0) : ∃ fuel, law01_ChecksumReturns fuel a0 = some true := by
  refine ⟨6000, ?_⟩
  unfold law01_ChecksumReturns
  rw [law01_light_eq, bindP_some, law01_awake_eq]
  by_cases h : (a0.length : Int) ≤ 2000
  · have hs := small_of o0 (by omega)
    have hf : 5000 < 6000 := by omega
    have h1 : Small (a0 ++ [sum8 a0]) := hs.append (by simpa using sum8_byte a0) (by simp; omega)
    have h2 : Small (a0 ++ [crc8 a0]) := hs.append (by simpa using (crc8_eq hs).2) (by simp; omega)
    have h3 : Small (a0 ++ four (crc32 a0)) := hs.append (fun x hx => four_byte hx) (by simp [four]; omega)
    have h4 : Small ((a0 ++ [sum8 a0]) ++ four (crc32 (a0 ++ [sum8 a0]))) := h1.append (fun x hx => four_byte hx) (by simp [four]; omega)
    have h5 : Small (((a0 ++ [sum8 a0]) ++ four (crc32 (a0 ++ [sum8 a0]))) ++ [crc8 ((a0 ++ [sum8 a0]) ++ four (crc32 (a0 ++ [sum8 a0])))]) := h4.append (by simpa using (crc8_eq h4).2) (by simp [four]; omega)
    have hd : (!decide ((a0.length : Int) ≤ 2000)) = false := by simp [h]
    rw [hd, iteP_false, Seal8_eq hs hf, bindP_some, Open8_eq h1 hf, bindP_some, SealCRC8_eq hs hf, bindP_some, OpenCRC8_eq h2 hf, bindP_some, SealCRC32_eq hs hf, bindP_some, OpenCRC32_eq h3 hf, bindP_some, bindP_some,
      SealCRC32_eq h1 hf, bindP_some, SealCRC8_eq h4 hf, bindP_some, OpenCRC8_eq h5 hf, bindP_some, openC_seal, OpenCRC32_eq h4 hf, bindP_some, openL_seal, Open8_eq h1 hf, bindP_some, open8_seal hs, openC_seal, openL_seal, Same_eq (by show a0.length ≤ _; omega) (by show a0.length < _; omega)]
    simp
  · simp [h]
end Lift
