/- Messages that are parsed or replied have their types. No program in sight. -/
import Derived.Test.YtkcogjblkenmgaaMround
set_option linter.unusedVariables false
set_option linter.unusedSimpArgs false
namespace Lift
open Go
theorem z_MT : MT Message_.z := by
  refine ⟨?_, ?_, ?_, ?_, ?_, ?_, ?_, ?_, ?_, ?_⟩ <;> simp [Message_.z, byte, okI, Lit.wf, IntKind.min, IntKind.max, IntKind.bits, IntKind.signed]
theorem mfin_MT (r : Bool) {b0 b1 b3 b4 b5 c : Int} {D : List Int} (q0 : byte b0) (q1 : byte b1) (q3 : byte b3) (q4 : byte b4) (q5 : byte b5) (qc : byte c) (hD : ∀ x ∈ D, byte x) : MT (mfin r b0 b1 b3 b4 b5 c D).1 := by
  unfold mfin
  by_cases h0 : ¬ (b0 % 2 = 0 ∧ b3 % 2 = 0 ∧ b1 / 4 % 2 = (if r then 1 else 0))
  · rw [if_pos h0]; exact z_MT
  · rw [if_neg h0]
    by_cases h1 : ¬ (AD (b0 / 2) ∧ AD (b3 / 2))
    · rw [if_pos h1]; exact z_MT
    · rw [if_neg h1]
      by_cases h2 : D.length > 240
      · rw [if_pos h2]; exact z_MT
      · rw [if_neg h2]
        have := q0.1; have := q0.2; have := q1.1; have := q1.2; have := q3.1; have := q3.2; have := q4.1; have := q4.2
        refine ⟨⟨?_, ?_⟩, ⟨?_, ?_⟩, ⟨?_, ?_⟩, q5, qc, okI_i64.2 ⟨?_, ?_⟩, okI_i64.2 ⟨?_, ?_⟩, okI_i64.2 ⟨?_, ?_⟩, hD, ?_⟩ <;> simp only <;> omega
theorem mparse_MT (r : Bool) {l : List Int} (h : ∀ x ∈ l, byte x) : MT (mparse r l).1 := by
  rcases mparse_cases r l with e | e | ⟨_, b0, b1, b2, b3, b4, b5, R, rfl, e⟩
  · rw [e]; exact z_MT
  · rw [e]; exact z_MT
  · rw [e]
    have hR : ∀ x ∈ R, byte x := fun x hx => h x (by simp [hx])
    refine mfin_MT r (h b0 (by simp)) (h b1 (by simp)) (h b3 (by simp)) (h b4 (by simp)) (h b5 (by simp)) ?_ (fun x hx => hR x ?_)
    · cases r with
      | false => exact (show byte 0 from ⟨by decide, by decide⟩)
      | true =>
        cases R with
        | nil => exact (show byte 0 from ⟨by decide, by decide⟩)
        | cons c R' => exact hR c (by simp)
    · have hx' := (List.dropLast_sublist _).subset hx
      cases r with
      | false => exact hx'
      | true => exact List.mem_of_mem_drop hx'
theorem mres_small {m : Message_} (t : MT m) : Small (mres m).1 := by
  unfold mres
  split
  · rename_i h; exact (mbytes_small h.1 t).1
  · exact ⟨by simp, fun x hx => by cases hx⟩
theorem mreq_small {m : Message_} (t : MT m) : Small (mreq m).1 := by
  unfold mreq
  split
  · rename_i h; exact (mbytes_small h.1 t).1
  · exact ⟨by simp, fun x hx => by cases hx⟩
end Lift
