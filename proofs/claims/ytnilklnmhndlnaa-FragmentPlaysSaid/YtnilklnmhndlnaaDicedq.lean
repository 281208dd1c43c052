/- The dice, and how far they have been used. No program in sight. -/
import Derived.Test.YtnilklnmhndlnaaFraga
set_option linter.unusedVariables false
set_option linter.unusedSimpArgs false
namespace Lift
open Go
def DQ (L : List Int) (n : Int) (d : made_Dice) : Prop := d.L = L ∧ L.length ≤ 5000 ∧ 0 ≤ n ∧ n ≤ d.At ∧ d.At ≤ 5000
theorem Next_dq (fuel : Nat) {d : made_Dice} {L : List Int} {n0 : Int} (h : DQ L n0 d) {m : Int} (h1 : 0 < m) (h2 : m ≤ 1000000) : ∃ r d', made_Dice_Next fuel d m = some (r, d') ∧ 0 ≤ r ∧ r < m ∧ DQ L n0 d' ∧ (d.At < (L.length : Int) → DQ L (d.At + 1) d') := by
  obtain ⟨rfl, L1, L2, L3, L4⟩ := h
  unfold made_Dice_Next
  by_cases hc : d.At ≥ (d.L.length : Int)
  · exact ⟨0, d, by rw [show decide (d.At ≥ (d.L.length : Int)) = true by simpa using hc, iteP_true], by omega, h1, ⟨rfl, L1, L2, L3, L4⟩, fun h => by omega⟩
  · obtain ⟨n, hn⟩ : ∃ n : Nat, d.At = n := ⟨d.At.toNat, by omega⟩
    have hx : idx d.L d.At = some (d.L[n]'(by omega)) := by rw [hn, idx_nat]; simp
    refine ⟨(d.L[n]'(by omega)) % m, { d with At := d.At + 1 }, ?_, Int.emod_nonneg _ (by omega), Int.emod_lt_of_pos _ h1, ⟨rfl, L1, L2, by simp only; omega, by simp only; omega⟩, fun _ => ⟨rfl, L1, by omega, by simp only; omega, by simp only; omega⟩⟩
    rw [show decide (d.At ≥ (d.L.length : Int)) = false by simpa using hc, iteP_false, letP_eq, w_i64 (by omega) (by omega)]
    simp only [w_i64 (show -9223372036854775808 ≤ d.At + 1 - 1 by omega) (by omega)]
    rw [show d.At + 1 - 1 = d.At by omega, hx, bindP_some, Mod_eq fuel h1 h2, bindP_some]
theorem Bool_dq (fuel : Nat) {d : made_Dice} {L : List Int} {n0 : Int} (h : DQ L n0 d) {m : Int} (h1 : 0 < m) (h2 : m ≤ 1000000) : ∃ b d', made_Dice_Bool fuel d m = some (b, d') ∧ DQ L n0 d' := by
  obtain ⟨r, d', e, _, _, hd, _⟩ := Next_dq fuel h h1 h2
  unfold made_Dice_Bool
  rw [e, bindP_some, letP_eq]
  exact ⟨_, _, rfl, hd⟩
theorem Byte_dq (fuel : Nat) {d : made_Dice} {L : List Int} {n0 : Int} (h : DQ L n0 d) : ∃ b d', made_Dice_Byte fuel d = some (b, d') ∧ byte b ∧ DQ L n0 d' := by
  obtain ⟨b, d1, e1, h1⟩ := Bool_dq fuel h (m := 3) (by omega) (by omega)
  unfold made_Dice_Byte
  rw [letP_eq, e1, bindP_some]
  cases b with
  | true =>
    obtain ⟨r, d2, e2, r1, r2, h2, _⟩ := Next_dq fuel h1 (m := 8) (by omega) (by omega)
    simp only [iteP_true]
    rw [e2, bindP_some]
    have hr : r = 0 ∨ r = 1 ∨ r = 2 ∨ r = 3 ∨ r = 4 ∨ r = 5 ∨ r = 6 ∨ r = 7 := by omega
    rcases hr with rfl | rfl | rfl | rfl | rfl | rfl | rfl | rfl <;> exact ⟨_, d2, rfl, ⟨by decide, by decide⟩, h2⟩
  | false =>
    obtain ⟨r, d2, e2, r1, r2, h2, _⟩ := Next_dq fuel h1 (m := 256) (by omega) (by omega)
    simp only [iteP_false]
    rw [e2, bindP_some]
    exact ⟨_, d2, rfl, by simp only [w_u8]; constructor <;> omega, h2⟩
theorem Bytes_dq {fuel : Nat} (hf : 5000 < fuel) {d : made_Dice} {L : List Int} {n0 : Int} (h : DQ L n0 d) {n : Int} (h1 : 0 ≤ n) (h2 : n ≤ 1000) : ∃ l d', made_Dice_Bytes fuel d n = some (l, d') ∧ (l.length : Int) ≤ n ∧ (∀ x ∈ l, byte x) ∧ DQ L n0 d' := by
  unfold made_Dice_Bytes
  rw [w_i64 (by omega) (by omega)]
  obtain ⟨r, d1, e1, r1, r2, hd, _⟩ := Next_dq fuel h (m := n + 1) (by omega) (by omega)
  rw [e1, bindP_some]
  obtain ⟨⟨l, d'⟩, hy, hr⟩ := loop_ex (step := fun k1 (s1 : (Int × made_Dice × (List Int))) =>
      iteP (decide (s1.1 > 0)) (bindP (made_Dice_Byte fuel s1.2.1) fun y2 => bindP (app 1 s1.2.2 ([y2.1])) fun x1 => letP (IntKind.i64.wrap (s1.1 - 1)) fun x2 => k1 (x2, y2.2, x1)) (some (s1.2.2, s1.2.1)))
    (fun m s => s.1 = (m : Int) ∧ (s.2.2.length : Int) + m = r ∧ (∀ x ∈ s.2.2, byte x) ∧ DQ L n0 s.2.1) (fun y : List Int × made_Dice => (y.1.length : Int) = r ∧ (∀ x ∈ y.1, byte x) ∧ DQ L n0 y.2)
    (fun m s hs => by
      obtain ⟨a1, a2, a3, a4⟩ := hs
      obtain ⟨b, d2, e2, hb, hd2⟩ := Byte_dq fuel a4
      refine ⟨((m : Int), d2, s.2.2 ++ [b]), ⟨rfl, by simp; omega, fun x hx => ?_, hd2⟩, fun k => ?_⟩
      · rcases List.mem_append.1 hx with hx | hx
        · exact a3 x hx
        · simp at hx; subst hx; exact hb
      · rw [show decide (s.1 > 0) = true by simp; omega, iteP_true, e2, bindP_some, app_ok (by simp; omega), bindP_some, letP_eq, w_i64 (by omega) (by omega), show s.1 - 1 = (m : Int) by omega])
    (fun s hs => by
      obtain ⟨a1, a2, a3, a4⟩ := hs
      exact ⟨(s.2.2, s.2.1), ⟨by simp only; omega, a3, a4⟩, fun k => by rw [show decide (s.1 > 0) = false by simp; omega, iteP_false]⟩)
    r.toNat fuel (r, d1, []) (by omega) ⟨by simp only; omega, by simp; omega, by simp, hd⟩
  exact ⟨l, d', hy, by simp only at hr; omega, hr.2.1, hr.2.2⟩
theorem Packet_dq {fuel : Nat} (hf : 5000 < fuel) {d : made_Dice} {L : List Int} {n0 : Int} (h : DQ L n0 d) : ∃ p d', made_Dice_Packet fuel d = some (p, d') ∧ p.Data.length ≤ 100 ∧ (∀ x ∈ p.Data, byte x) ∧ DQ L n0 d' := by
  unfold made_Dice_Packet
  obtain ⟨r1, d1, e1, _, _, h1, _⟩ := Next_dq fuel h (m := 3) (by omega) (by omega)
  obtain ⟨b2, d2, e2, h2⟩ := Bool_dq fuel h1 (m := 2) (by omega) (by omega)
  obtain ⟨b3, d3, e3, h3⟩ := Bool_dq fuel h2 (m := 3) (by omega) (by omega)
  obtain ⟨r4, d4, e4, _, _, h4, _⟩ := Next_dq fuel h3 (m := 4) (by omega) (by omega)
  obtain ⟨b5, d5, e5, h5⟩ := Bool_dq fuel h4 (m := 2) (by omega) (by omega)
  obtain ⟨r6, d6, e6, _, _, h6, _⟩ := Next_dq fuel h5 (m := 3) (by omega) (by omega)
  obtain ⟨l7, d7, e7, hl7, hb7, h7⟩ := Bytes_dq hf h6 (n := 3) (by omega) (by omega)
  obtain ⟨r8, d8, e8, _, _, h8, _⟩ := Next_dq fuel h7 (m := 30) (by omega) (by omega)
  have hall : ∀ x ∈ l7 ++ [7], byte x := fun x hx => (List.mem_append.1 hx).elim (hb7 x) (fun h => by simp at h; subst h; exact ⟨by decide, by decide⟩)
  have hlen : (l7 ++ [7]).length ≤ 100 := by simp; omega
  simp only [e1, e2, e3, e4, e5, e6, e7, e8, bindP_some, letP_eq]
  rw [app_ok (by simp; omega), bindP_some]
  by_cases c0 : r8 = 0
  · rw [show (r8 == 0) = true by simp [c0], iteP_true]; exact ⟨_, _, rfl, by simp, by simp, h8⟩
  rw [show (r8 == 0) = false by simpa using c0, iteP_false]
  by_cases c1 : r8 = 1
  · obtain ⟨b9, d9, e9, _, h9⟩ := Byte_dq fuel h8
    rw [show (r8 == 1) = true by simp [c1], iteP_true, e9, bindP_some]; exact ⟨_, _, rfl, hlen, hall, h9⟩
  rw [show (r8 == 1) = false by simpa using c1, iteP_false]
  by_cases c2 : r8 = 2
  · rw [show (r8 == 2) = true by simp [c2], iteP_true]; exact ⟨_, _, rfl, hlen, hall, h8⟩
  rw [show (r8 == 2) = false by simpa using c2, iteP_false]
  by_cases c3 : r8 = 3
  · obtain ⟨r9, d9, e9, q1, q2, h9, _⟩ := Next_dq fuel h8 (m := 2) (by omega) (by omega)
    rw [show (r8 == 3) = true by simp [c3], iteP_true, e9, bindP_some, wr (by omega)]
    have hmk : mk 1 (0 : Int) (64 + r9) = some (List.replicate (64 + r9).toNat 0) := by simp [mk]; omega
    rw [hmk, bindP_some]
    refine ⟨_, _, rfl, by simp; omega, fun x hx => ?_, h9⟩
    have := List.eq_of_mem_replicate hx
    subst this; exact ⟨by decide, by decide⟩
  · rw [show (r8 == 3) = false by simpa using c3, iteP_false]; exact ⟨_, _, rfl, hlen, hall, h8⟩
theorem Packet_dq1 {fuel : Nat} (hf : 5000 < fuel) {d : made_Dice} {L : List Int} (h : DQ L d.At d) (hlt : d.At < (L.length : Int)) : ∃ p d', made_Dice_Packet fuel d = some (p, d') ∧ p.Data.length ≤ 100 ∧ (∀ x ∈ p.Data, byte x) ∧ DQ L (d.At + 1) d' := by
  unfold made_Dice_Packet
  obtain ⟨r1, d1, e1, _, _, _, h1⟩ := Next_dq fuel h (m := 3) (by omega) (by omega)
  replace h1 := h1 hlt
  obtain ⟨b2, d2, e2, h2⟩ := Bool_dq fuel h1 (m := 2) (by omega) (by omega)
  obtain ⟨b3, d3, e3, h3⟩ := Bool_dq fuel h2 (m := 3) (by omega) (by omega)
  obtain ⟨r4, d4, e4, _, _, h4, _⟩ := Next_dq fuel h3 (m := 4) (by omega) (by omega)
  obtain ⟨b5, d5, e5, h5⟩ := Bool_dq fuel h4 (m := 2) (by omega) (by omega)
  obtain ⟨r6, d6, e6, _, _, h6, _⟩ := Next_dq fuel h5 (m := 3) (by omega) (by omega)
  obtain ⟨l7, d7, e7, hl7, hb7, h7⟩ := Bytes_dq hf h6 (n := 3) (by omega) (by omega)
  obtain ⟨r8, d8, e8, _, _, h8, _⟩ := Next_dq fuel h7 (m := 30) (by omega) (by omega)
  have hall : ∀ x ∈ l7 ++ [7], byte x := fun x hx => (List.mem_append.1 hx).elim (hb7 x) (fun h => by simp at h; subst h; exact ⟨by decide, by decide⟩)
  have hlen : (l7 ++ [7]).length ≤ 100 := by simp; omega
  simp only [e1, e2, e3, e4, e5, e6, e7, e8, bindP_some, letP_eq]
  rw [app_ok (by simp; omega), bindP_some]
  by_cases c0 : r8 = 0
  · rw [show (r8 == 0) = true by simp [c0], iteP_true]; exact ⟨_, _, rfl, by simp, by simp, h8⟩
  rw [show (r8 == 0) = false by simpa using c0, iteP_false]
  by_cases c1 : r8 = 1
  · obtain ⟨b9, d9, e9, _, h9⟩ := Byte_dq fuel h8
    rw [show (r8 == 1) = true by simp [c1], iteP_true, e9, bindP_some]; exact ⟨_, _, rfl, hlen, hall, h9⟩
  rw [show (r8 == 1) = false by simpa using c1, iteP_false]
  by_cases c2 : r8 = 2
  · rw [show (r8 == 2) = true by simp [c2], iteP_true]; exact ⟨_, _, rfl, hlen, hall, h8⟩
  rw [show (r8 == 2) = false by simpa using c2, iteP_false]
  by_cases c3 : r8 = 3
  · obtain ⟨r9, d9, e9, q1, q2, h9, _⟩ := Next_dq fuel h8 (m := 2) (by omega) (by omega)
    rw [show (r8 == 3) = true by simp [c3], iteP_true, e9, bindP_some, wr (by omega)]
    have hmk : mk 1 (0 : Int) (64 + r9) = some (List.replicate (64 + r9).toNat 0) := by simp [mk]; omega
    rw [hmk, bindP_some]
    refine ⟨_, _, rfl, by simp; omega, fun x hx => ?_, h9⟩
    have := List.eq_of_mem_replicate hx
    subst this; exact ⟨by decide, by decide⟩
  · rw [show (r8 == 3) = false by simpa using c3, iteP_false]; exact ⟨_, _, rfl, hlen, hall, h8⟩
end Lift
