/- The plain law of FrameCompares. uses: crc8 lists sealc frames law20 dice diceframe refframes
-/
import Derived.Test.YtmjilnfeddaekaaLaw20
import Derived.Test.YtmjilnfeddaekaaDiceframe
import Derived.Test.YtmjilnfeddaekaaRefframes
namespace Lift
open Go
theorem law20_FrameCompares_true (a0 a1 a2 a3 : List Int) (o0 : okL (okI .u8) a0) (o1 : okL (okI .u8) a1) (o2 : okL (okI .i64) a2) (o3 : okL (okI .i64) a3) : ∃ fuel, law20_FrameCompares fuel a0 a1 a2 a3 = some true := by
  refine ⟨6000, ?_⟩
  unfold law20_FrameCompares
  rw [law20_awake_eq, Light_eq, Light_eq, joinP_eq, Roll_eq, Roll_eq]
  by_cases c0 : (a0.length : Int) > 200
  · simp [c0]
  by_cases c1 : (a1.length : Int) > 200
  · simp [c0, c1]
  by_cases c2 : (a2.length : Int) ≤ 600
  · by_cases c3 : (a3.length : Int) ≤ 600
    · have hf : 5000 < 6000 := by omega
      have b0 := (small_of o0 (by omega)).2
      have b1 := (small_of o1 (by omega)).2
      obtain ⟨f, d1, e1, v1, y1, _⟩ := Frame_ok hf (roll_ok (l := a2) (by omega))
      obtain ⟨g, d2, e2, v2, y2, _⟩ := Frame_ok hf (roll_ok (l := a3) (by omega))
      obtain ⟨n1, m1, p1, q1⟩ := encode_ok v1 y1
      obtain ⟨n2, m2, p2, q2⟩ := encode_ok v2 y2
      rw [show decide ((a0.length : Int) > 200) = false by simpa using c0, show decide ((a1.length : Int) > 200) = false by simpa using c1, show decide ((a2.length : Int) ≤ 600) = true by simpa using c2, show decide ((a3.length : Int) ≤ 600) = true by simpa using c3]
      simp only [iteP_false, bindP_some, Bool.not_true, e1, e2, rEncode_eq y1 hf, rEncode_eq y2 hf, n1, n2]
      generalize body f ++ [crc8 (body f)] = A at *
      generalize body g ++ [crc8 (body g)] = B at *
      have ht : sub A 0 3 = some (A.take 3) := by
        have := sub_take (l := A) (b := 3) (by omega) (by omega)
        simpa using this
      have hp : cmpL (A.take 3) A = -1 := by
        have := cmpL_prefix (A.take 3) (A.drop 3) (by intro e; have := congrArg List.length e; simp at this; omega)
        rwa [List.take_append_drop] at this
      rw [Compare_eq _ _ _ b0 b1, bindP_some, rCompare_eq (by omega) (by omega) (by omega), bindP_some, Compare_eq _ _ _ m1 m2, bindP_some, rCompare_eq (by omega) (by omega) (by omega), bindP_some, ht, bindP_some,
        Compare_eq _ _ _ (fun x hx => m1 x (List.mem_of_mem_take hx)) m1, bindP_some, hp, Compare_eq _ _ _ b0 b0, cmpL_self]
      simp
    · have c3' : ¬ (a3.length : Int) ≤ 600 := c3
      simp [c0, c1, c2, c3']
  · simp [c0, c1, c2]
end Lift
