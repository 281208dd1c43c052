/- The plain law of FrameAgain. uses: crc8 lists sealc frames law20
-/
import Derived.Test.YtmjilnfeddaekaaLaw20
namespace Lift
open Go
theorem law20_FrameAgain_true (a0 : List Int) (o0 : okL (okI .u8) a0) : ∃ fuel, law20_FrameAgain fuel a0 = some true := by
  refine ⟨6000, ?_⟩
  unfold law20_FrameAgain
  rw [law20_awake_eq]
  by_cases h : (a0.length : Int) > 200
  · simp [h]
  · have hs := small_of o0 (by omega)
    have hf : 5000 < 6000 := by omega
    have h2 : Small (a0 ++ [crc8 a0]) := hs.append (by simpa using (crc8_eq hs).2) (by simp; omega)
    rw [show decide ((a0.length : Int) > 200) = false by simpa using h, iteP_false, rSealCRC8_eq hs hf, bindP_some]
    have round : ∀ l : List Int, Small l → l.length ≤ 300 → ∀ k : Option Bool, (bindP (frame_Decode 6000 l) fun y3 => iteP (y3.2 != 0) k (bindP (frame_Encode 6000 y3.1) fun y4 => bindP (frame_Valid 6000 y3.1) fun y5 =>
        joinP (fun (s2 : Bool) => iteP s2 (some false) k) fun j1 => iteP (!y5) (j1 (true)) (iteP (y4.2 != 0) (j1 (true)) (bindP (ref01_Same 6000 l y4.1) fun y6 => j1 (!y6))))) = k := by
      intro l hl hll k
      rw [Decode_eq hl hf, bindP_some]
      by_cases he : (decode l).2 = 0
      · obtain ⟨v1, v2, v3⟩ := decode_encode (f := (decode l).1) hl (by rw [← he])
        rw [he, Encode_eq v3 hf, bindP_some, Valid_eq, bindP_some, v1, v2, Same_eq (by omega) (by omega)]
        simp
      · have e : ((decode l).2 != 0) = true := by simpa using he
        rw [e, iteP_true]
    refine loop_run (fun i => (i : Int)) 2 rfl (by omega) (fun i hi k => ?_) (fun k => ?_)
    · match i, hi with
      | 0, _ => exact round a0 hs (by omega) (k 1)
      | 1, _ => exact round (a0 ++ [crc8 a0]) h2 (by simp; omega) (k 2)
    · simp
end Lift
