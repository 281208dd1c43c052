/- Messages that the dice give. No program in sight. -/
import Derived.Test.YtnilklnmhndlnaaFragb
set_option linter.unusedVariables false
set_option linter.unusedSimpArgs false
namespace Lift
open Go
theorem xor8 : ∀ a b : Fin 256, byte (bXor .u8 ((a.val : Nat) : Int) ((b.val : Nat) : Int)) := fun a b => (xor_byte ⟨by omega, by have := a.isLt; omega⟩ ⟨by omega, by have := b.isLt; omega⟩).2
theorem message_ok {fuel : Nat} (hf : 5000 < fuel) {d : made_Dice} (h : DOk d) {n : Int} (h1 : 0 < n) (h2 : n ≤ 500) : ∃ l d', law22_message fuel d n = some (l, d') ∧ 1 ≤ l.length ∧ (l.length : Int) ≤ n ∧ (∀ x ∈ l, byte x) ∧ DOk d' := by
  unfold law22_message
  obtain ⟨b1, d1, e1, hb1, hd1⟩ := Byte_ok fuel h
  obtain ⟨r, d2, e2, r1, r2, hd2⟩ := Next_ok fuel hd1 h1 (by omega)
  rw [e1, bindP_some, e2, bindP_some]
  obtain ⟨⟨l, d'⟩, hy, hr⟩ := loop_ex (step := fun k1 (s1 : (Int × made_Dice × (List Int))) =>
      iteP (decide (s1.1 > 0)) (bindP (made_Dice_Byte fuel s1.2.1) fun y3 => bindP (app 1 s1.2.2 ([(bXor .u8 (IntKind.u8.wrap (IntKind.i64.wrap (s1.1 * 7))) y3.1)])) fun x1 => letP (IntKind.i64.wrap (s1.1 - 1)) fun x2 => k1 (x2, y3.2, x1)) (some (s1.2.2, s1.2.1)))
    (fun m s => s.1 = (m : Int) ∧ (s.2.2.length : Int) + m = r + 1 ∧ (∀ x ∈ s.2.2, byte x) ∧ DOk s.2.1) (fun y : List Int × made_Dice => (y.1.length : Int) = r + 1 ∧ (∀ x ∈ y.1, byte x) ∧ DOk y.2)
    (fun m s hs => by
      obtain ⟨a1, a2, a3, a4⟩ := hs
      obtain ⟨b, d3, e3, hb, hd3⟩ := Byte_ok fuel a4
      refine ⟨((m : Int), d3, s.2.2 ++ [bXor .u8 (IntKind.u8.wrap (IntKind.i64.wrap (s.1 * 7))) b]), ⟨rfl, by simp; omega, fun x hx => ?_, hd3⟩, fun k => ?_⟩
      · rcases List.mem_append.1 hx with hx | hx
        · exact a3 x hx
        · simp at hx; subst hx
          refine (xor_byte ?_ hb).2
          rw [w_u8]
          constructor <;> omega
      · rw [show decide (s.1 > 0) = true by simp; omega, iteP_true, e3, bindP_some, app_ok (by simp; omega), bindP_some, letP_eq, w_i64 (n := s.1 - 1) (by omega) (by omega), show s.1 - 1 = (m : Int) by omega])
    (fun s hs => by
      obtain ⟨a1, a2, a3, a4⟩ := hs
      exact ⟨(s.2.2, s.2.1), ⟨by simp only; omega, a3, a4⟩, fun k => by rw [show decide (s.1 > 0) = false by simp; omega, iteP_false]⟩)
    r.toNat fuel (r, d2, [b1]) (by omega) ⟨by simp only; omega, by simp; omega, by simpa using hb1, hd2⟩
  exact ⟨l, d', hy, by simp only at hr; omega, by simp only at hr; omega, hr.2.1, hr.2.2⟩
end Lift
