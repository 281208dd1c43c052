/- The codes: what they can give. No program in sight. -/
import Derived.Test.YtgfioeiebfponaaGen
import Derived.Test.YtgfioeiebfponaaPlain
set_option linter.unusedVariables false
set_option linter.unusedSimpArgs false
namespace Lift
open Go
def COk (c : field_Codes) : Prop := c.L.length ≤ 5000 ∧ 0 ≤ c.At ∧ (∀ x ∈ c.L, byte x)
theorem fNew_ok (fuel : Nat) {l : List Int} {n : Int} (h : ∀ x ∈ l, byte x) (h0 : 0 ≤ n) (h1 : n ≤ 5000) : ∃ c, field_New fuel l n = some c ∧ COk c := by
  have hs : sub l 0 (min (l.length : Int) n) = some ((l.drop (0 : Int).toNat).take ((min (l.length : Int) n).toNat - (0 : Int).toNat)) := sub_int (by omega) (by omega) (by omega)
  refine ⟨_, by unfold field_New; rw [hs]; rfl, ?_, by simp, fun x hx => h x (List.mem_of_mem_drop (List.mem_of_mem_take hx))⟩
  simp only [List.length_take]; omega
theorem fNext_ok (fuel : Nat) {c : field_Codes} (h : COk c) {m : Int} (h2 : m ≤ 256) : ∃ r c', field_Codes_Next fuel c m = some (r, c') ∧ 0 ≤ r ∧ (0 < m → r < m) ∧ (m ≤ 0 → r = 0) ∧ COk c' := by
  obtain ⟨L1, L2, L3⟩ := h
  unfold field_Codes_Next field_Codes_Left
  simp only [letP_eq, bindP_some, joinP_eq]
  by_cases hc : c.At < (c.L.length : Int)
  · simp only [hc, decide_true, Bool.not_true, iteP_false]
    by_cases hm : m < 1
    · simp only [hm, decide_true, iteP_true]
      exact ⟨0, c, rfl, by omega, by omega, fun _ => rfl, L1, L2, L3⟩
    · simp only [hm, decide_false, iteP_false]
      obtain ⟨hl, hx⟩ := idx_int L2 hc
      have hb := L3 _ (List.getElem_mem hl)
      rw [hx, bindP_some, show (decide (m > 256)) = false by simp; omega, iteP_false, show (decide (m ≠ 0)) = true by simp; omega, chk_true, bindP_some]
      have hw : IntKind.i64.wrap (c.L[c.At.toNat]'hl) = c.L[c.At.toNat]'hl := wr ⟨by have := hb.1; omega, by have := hb.2; omega⟩
      rw [hw, wr (n := c.At + 1) ⟨by omega, by omega⟩]
      have e := Int.tmod_eq_emod_of_nonneg hb.1 (b := m)
      have l1 := Int.emod_nonneg (c.L[c.At.toNat]'hl) (show m ≠ 0 by omega)
      have l2 := Int.emod_lt_of_pos (c.L[c.At.toNat]'hl) (show 0 < m by omega)
      exact ⟨_, _, rfl, by rw [e]; exact l1, fun _ => by rw [e]; exact l2, fun _ => by omega, L1, by simp only; omega, L3⟩
  · simp only [hc, decide_false, Bool.not_false, iteP_true]
    exact ⟨0, c, rfl, by omega, fun h => h, fun _ => rfl, L1, L2, L3⟩
/-- As a natural number. -/
theorem fnext_nat (fuel : Nat) {c : field_Codes} (h : COk c) {m : Nat} (h1 : 0 < m) (h2 : m ≤ 256) : ∃ (r : Nat) (c' : field_Codes), field_Codes_Next fuel c (m : Int) = some ((r : Int), c') ∧ r < m ∧ COk c' := by
  obtain ⟨r, c', e, r1, r2, _, hd⟩ := fNext_ok fuel h (m := (m : Int)) (by omega)
  have := r2 (by omega)
  exact ⟨r.toNat, c', by rw [e, Int.toNat_of_nonneg r1], by omega, hd⟩
end Lift
