/- The bytes that the dice give. No program in sight. -/
import Derived.Test.YtedddoifbhcinaaDice
set_option linter.unusedVariables false
set_option linter.unusedSimpArgs false
namespace Lift
open Go
theorem Bytes_ok {fuel : Nat} (hf : 5000 < fuel) {d : made_Dice} (h : DOk d) {n : Int} (h1 : 0 ≤ n) (h2 : n ≤ 1000) : ∃ l d', made_Dice_Bytes fuel d n = some (l, d') ∧ (l.length : Int) ≤ n ∧ (∀ x ∈ l, byte x) ∧ DOk d' := by
  unfold made_Dice_Bytes
  rw [w_i64 (by omega) (by omega)]
  obtain ⟨r, d1, e1, r1, r2, hd⟩ := Next_ok fuel h (m := n + 1) (by omega) (by omega)
  rw [e1, bindP_some]
  obtain ⟨⟨l, d'⟩, hy, hr⟩ := loop_ex (step := fun k1 (s1 : (Int × made_Dice × (List Int))) =>
      iteP (decide (s1.1 > 0)) (bindP (made_Dice_Byte fuel s1.2.1) fun y2 => bindP (app 1 s1.2.2 ([y2.1])) fun x1 => letP (IntKind.i64.wrap (s1.1 - 1)) fun x2 => k1 (x2, y2.2, x1)) (some (s1.2.2, s1.2.1)))
    (fun m s => s.1 = (m : Int) ∧ (s.2.2.length : Int) + m = r ∧ (∀ x ∈ s.2.2, byte x) ∧ DOk s.2.1) (fun y : List Int × made_Dice => (y.1.length : Int) = r ∧ (∀ x ∈ y.1, byte x) ∧ DOk y.2)
    (fun m s hs => by
      obtain ⟨a1, a2, a3, a4⟩ := hs
      obtain ⟨b, d2, e2, hb, hd2⟩ := Byte_ok fuel a4
      refine ⟨((m : Int), d2, s.2.2 ++ [b]), ⟨rfl, by simp; omega, fun x hx => ?_, hd2⟩, fun k => ?_⟩
      · rcases List.mem_append.1 hx with hx | hx
        · exact a3 x hx
        · simp at hx; subst hx; exact hb
      · rw [show decide (s.1 > 0) = true by simp; omega, iteP_true, e2, bindP_some, app_ok (by simp; omega), bindP_some, letP_eq, w_i64 (by omega) (by omega), show s.1 - 1 = (m : Int) by omega])
    (fun s hs => by
      obtain ⟨a1, a2, a3, a4⟩ := hs
      exact ⟨(s.2.2, s.2.1), ⟨by simp only; omega, a3, a4⟩, fun k => by rw [show decide (s.1 > 0) = false by simp; omega, iteP_false]⟩)
    r.toNat fuel (r, d1, []) (by omega) ⟨by simp only; omega, by simp; omega, by simp, hd⟩
  exact ⟨l, d', hy, by simp only at hr; omega, hr.2.1, hr.2.2⟩
end Lift
