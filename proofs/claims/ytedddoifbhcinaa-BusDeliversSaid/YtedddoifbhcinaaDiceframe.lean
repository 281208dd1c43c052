/- The frames that the dice give. No program in sight. -/
import Derived.Test.YtedddoifbhcinaaDicebytes
import Derived.Test.YtedddoifbhcinaaFrames
set_option linter.unusedVariables false
set_option linter.unusedSimpArgs false
namespace Lift
open Go
theorem mk_ok {α : Type} {b : Nat} {x : α} {n : Nat} (h : n * b ≤ 140737488355328) : mk b x (n : Int) = some (List.replicate n x) := by simp [mk, h]
theorem Frame_ok {fuel : Nat} (hf : 5000 < fuel) {d : made_Dice} (h : DOk d) : ∃ f d', made_Dice_Frame fuel d = some (f, d') ∧ valid f = true ∧ (∀ x ∈ f.Data, byte x) ∧ DOk d' := by
  unfold made_Dice_Frame
  obtain ⟨r1, d1, e1, a1, a2, h1⟩ := Next_ok fuel h (m := 4) (by omega) (by omega)
  rw [e1, bindP_some]
  obtain ⟨r2, d2, e2, b1, b2, h2⟩ := Next_ok fuel h1 (m := 3) (by omega) (by omega)
  rw [e2, bindP_some]
  obtain ⟨l, d3, e3, c1, c2, h3⟩ := Bytes_ok hf h2 (n := 6) (by omega) (by omega)
  rw [e3, bindP_some]
  obtain ⟨b, d4, e4, h4⟩ := Bool_ok fuel h3 (m := 30) (by omega) (by omega)
  rw [e4, bindP_some]
  have w1 : IntKind.u8.wrap (IntKind.i64.wrap (8 + r1)) = 8 + r1 := by rw [w_i64 (by omega) (by omega), w_u8]; omega
  have w2 : IntKind.u8.wrap (IntKind.i64.wrap (32 + r2)) = 32 + r2 := by rw [w_i64 (by omega) (by omega), w_u8]; omega
  simp only [w1, w2]
  cases b with
  | false => exact ⟨⟨8 + r1, 32 + r2, l⟩, d4, rfl, valid_iff.2 ⟨by simp only; omega, by simp only; omega, by simp only; omega⟩, c2, h4⟩
  | true =>
    simp only [iteP_true]
    rw [show (72 : Int) = ((72 : Nat) : Int) from rfl, mk_ok (by omega), bindP_some]
    refine ⟨⟨119, 32 + r2, List.replicate 72 0⟩, d4, rfl, valid_iff.2 ⟨by simp, by simp only; omega, by simp⟩, fun x hx => ?_, h4⟩
    have := List.eq_of_mem_replicate hx
    subst this; exact ⟨by decide, by decide⟩
end Lift
