/- The plain law of ChecksumSums. uses: sums
-/
import Derived.Test.YtnfpldbkpdeeoaaChecksumSumsSums
namespace Lift
open Go
theorem law01_ChecksumSums_true (a0 : List Int) (o0 : okL (okI .u8) a0) : ∃ fuel, law01_ChecksumSums fuel a0 = some true := by
  refine ⟨6000, ?_⟩
  unfold law01_ChecksumSums
  rw [law01_light_eq, bindP_some, law01_awake_eq]
  by_cases h : (a0.length : Int) ≤ 2000
  · have hs := small_of o0 (by omega)
    simp [h, checksum_Sum8_eq hs, ref01_Sum8_eq hs, checksum_CRC8_eq hs, ref01_CRC8_eq hs, checksum_CRC32_eq hs, ref01_CRC32_eq hs]
  · simp [h]
end Lift
