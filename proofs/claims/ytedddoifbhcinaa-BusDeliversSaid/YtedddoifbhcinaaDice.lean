/- The dice: what they can give. No program in sight. -/
import Derived.Test.YtedddoifbhcinaaLists
set_option linter.unusedVariables false
set_option linter.unusedSimpArgs false
namespace Lift
open Go

theorem loop_ex {σ β : Type} {step : (σ → Option β) → σ → Option β} (I : Nat → σ → Prop) (R : β → Prop) (h : ∀ n s, I (n + 1) s → ∃ s', I n s' ∧ ∀ k, step k s = k s') (h0 : ∀ s, I 0 s → ∃ y, R y ∧ ∀ k, step k s = some y) :
    ∀ (n fuel : Nat) (s : σ), n < fuel → I n s → ∃ y, loopP step fuel s = some y ∧ R y
  | 0, 0, _, hf, _ => by omega
  | 0, f + 1, s, _, hi => by
    obtain ⟨y, hy, hk⟩ := h0 s hi
    exact ⟨y, hk _, hy⟩
  | n + 1, 0, _, hf, _ => by omega
  | n + 1, f + 1, s, hf, hi => by
    obtain ⟨s', hi', hk⟩ := h n s hi
    obtain ⟨y, hy, hr⟩ := loop_ex I R h h0 n f s' (by omega) hi'
    exact ⟨y, (hk _).trans hy, hr⟩

def DOk (d : made_Dice) : Prop := d.L.length ≤ 5000 ∧ 0 ≤ d.At ∧ d.At ≤ 5000
theorem Mod_eq (fuel : Nat) {a m : Int} (h1 : 0 < m) (h2 : m ≤ 1000000) : made_Mod fuel a m = some (a % m) := by
  unfold made_Mod
  have hne : decide (m ≠ 0) = true := by simp; omega
  rw [hne, chk_true, bindP_some]
  have e := Int.tmod_eq_emod (a := a) (b := m)
  have l1 := Int.emod_nonneg a (show m ≠ 0 by omega)
  have l2 := Int.emod_lt_of_pos a h1
  by_cases h : Int.tmod a m < 0
  · rw [show decide (Int.tmod a m < 0) = true by simpa using h, iteP_true, letP_eq, w_i64 (by split at e <;> omega) (by split at e <;> omega)]
    congr 1
    split at e <;> omega
  · rw [show decide (Int.tmod a m < 0) = false by simpa using h, iteP_false]
    congr 1
    split at e <;> omega
theorem Next_ok (fuel : Nat) {d : made_Dice} (h : DOk d) {m : Int} (h1 : 0 < m) (h2 : m ≤ 1000000) : ∃ r d', made_Dice_Next fuel d m = some (r, d') ∧ 0 ≤ r ∧ r < m ∧ DOk d' := by
  obtain ⟨L1, L2, L3⟩ := h
  unfold made_Dice_Next
  by_cases hc : d.At ≥ (d.L.length : Int)
  · exact ⟨0, d, by rw [show decide (d.At ≥ (d.L.length : Int)) = true by simpa using hc, iteP_true], by omega, h1, L1, L2, L3⟩
  · obtain ⟨n, hn⟩ : ∃ n : Nat, d.At = n := ⟨d.At.toNat, by omega⟩
    have hx : idx d.L d.At = some (d.L[n]'(by omega)) := by rw [hn, idx_nat]; simp
    refine ⟨(d.L[n]'(by omega)) % m, { d with At := d.At + 1 }, ?_, Int.emod_nonneg _ (by omega), Int.emod_lt_of_pos _ h1, L1, by simp only; omega, by simp only; omega⟩
    rw [show decide (d.At ≥ (d.L.length : Int)) = false by simpa using hc, iteP_false, letP_eq, w_i64 (by omega) (by omega)]
    simp only [w_i64 (show -9223372036854775808 ≤ d.At + 1 - 1 by omega) (by omega)]
    rw [show d.At + 1 - 1 = d.At by omega, hx, bindP_some, Mod_eq fuel h1 h2, bindP_some]
theorem Bool_ok (fuel : Nat) {d : made_Dice} (h : DOk d) {m : Int} (h1 : 0 < m) (h2 : m ≤ 1000000) : ∃ b d', made_Dice_Bool fuel d m = some (b, d') ∧ DOk d' := by
  obtain ⟨r, d', e, _, _, hd⟩ := Next_ok fuel h h1 h2
  unfold made_Dice_Bool
  rw [e, bindP_some, letP_eq]
  exact ⟨_, _, rfl, hd⟩
theorem Byte_ok (fuel : Nat) {d : made_Dice} (h : DOk d) : ∃ b d', made_Dice_Byte fuel d = some (b, d') ∧ byte b ∧ DOk d' := by
  obtain ⟨b, d1, e1, h1⟩ := Bool_ok fuel h (m := 3) (by omega) (by omega)
  unfold made_Dice_Byte
  rw [letP_eq, e1, bindP_some]
  cases b with
  | true =>
    obtain ⟨r, d2, e2, r1, r2, h2⟩ := Next_ok fuel h1 (m := 8) (by omega) (by omega)
    simp only [iteP_true]
    rw [e2, bindP_some]
    have hr : r = 0 ∨ r = 1 ∨ r = 2 ∨ r = 3 ∨ r = 4 ∨ r = 5 ∨ r = 6 ∨ r = 7 := by omega
    rcases hr with rfl | rfl | rfl | rfl | rfl | rfl | rfl | rfl <;> exact ⟨_, d2, rfl, ⟨by decide, by decide⟩, h2⟩
  | false =>
    obtain ⟨r, d2, e2, r1, r2, h2⟩ := Next_ok fuel h1 (m := 256) (by omega) (by omega)
    simp only [iteP_false]
    rw [e2, bindP_some]
    exact ⟨_, d2, rfl, by simp only [w_u8]; constructor <;> omega, h2⟩
theorem Roll_eq (fuel : Nat) (l : List Int) : made_Roll fuel l = some ⟨l, 0⟩ := rfl
theorem Light_eq (fuel : Nat) (l : List Int) : made_Light fuel l = some (decide ((l.length : Int) ≤ 600)) := rfl
theorem roll_ok {l : List Int} (h : l.length ≤ 5000) : DOk ⟨l, 0⟩ := ⟨h, by simp, by simp⟩
end Lift
