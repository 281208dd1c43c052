/- The bus: new ones, frames that are submitted, frames that wait. No program in sight. -/
import Derived.Test.YtedddoifbhcinaaBusb
set_option linter.unusedVariables false
set_option linter.unusedSimpArgs false
namespace Lift
open Go

theorem New_eq (fuel : Nat) (n : Int) : bus_New fuel n = some (if 1 ≤ n ∧ n ≤ 8 then (some ⟨List.replicate n.toNat bus_master.z⟩, 0) else (none, 2)) := by
  unfold bus_New
  simp only [joinP_eq]
  by_cases h1 : n < 1
  · simp only [decide_eq_true h1, iteP_true]; rw [if_neg (by omega)]
  · simp only [decide_eq_false h1, iteP_false]
    by_cases h2 : n > 8
    · simp only [decide_eq_true h2, iteP_true]; rw [if_neg (by omega)]
    · simp only [decide_eq_false h2, iteP_false]
      have : mk 40 bus_master.z n = some (List.replicate n.toNat bus_master.z) := by unfold mk; rw [if_pos ⟨by omega, by omega⟩]
      rw [this, bindP_some, if_pos (by omega)]
def newB (n : Nat) : List bus_master := List.replicate n bus_master.z
theorem z_ok : MOk bus_master.z := ⟨by simp [bus_master.z], by simp [bus_master.z], by simp [bus_master.z], by simp [bus_master.z]⟩
theorem newB_ok {n : Nat} (h : n ≤ 8) : BOk (newB n) := ⟨by simpa [newB] using h, fun m hm => by rw [List.eq_of_mem_replicate hm]; exact z_ok⟩
theorem there_eq (fuel : Nat) (ms : List bus_master) (n : Int) : bus_Bus_there fuel ⟨ms⟩ n = some (decide (0 ≤ n ∧ n < (ms.length : Int))) := by
  unfold bus_Bus_there
  by_cases h1 : 0 ≤ n <;> by_cases h2 : n < (ms.length : Int) <;> simp [h1, h2]
/-- A frame that is submitted. -/
def put (ms : List bus_master) (n : Int) (f : Frame_) : Int × List bus_master :=
  if 0 ≤ n ∧ n < (ms.length : Int) then
    (if valid f then (if (ms.getD n.toNat bus_master.z).queue.length < 16 then (0, upd ms n { ms.getD n.toNat bus_master.z with queue := (ms.getD n.toNat bus_master.z).queue ++ [(encode f).1] }) else (9, ms)) else (1, ms))
  else (2, ms)
theorem getD_at {α : Type} {ms : List α} {n : Int} {z : α} (h : 0 ≤ n ∧ n < (ms.length : Int)) : idx ms n = some (ms.getD n.toNat z) := by
  obtain ⟨k, rfl⟩ := Int.eq_ofNat_of_zero_le h.1
  rw [idx_nat]
  have : k < ms.length := by omega
  simp [this]
theorem getD_mem {α : Type} {ms : List α} {n : Int} {z : α} (h : 0 ≤ n ∧ n < (ms.length : Int)) : ms.getD n.toNat z ∈ ms := List.mem_of_getElem? (idx_some (getD_at h)).2.2
theorem enc_err {f : Frame_} : (encode f).2 = if valid f then 0 else 1 := by unfold encode; split <;> rfl
theorem Submit_eq {fuel : Nat} {ms : List bus_master} {n : Int} {f : Frame_} (h : BOk ms) (hd : ∀ x ∈ f.Data, byte x) (hf : 5000 < fuel) : bus_Bus_Submit fuel ⟨ms⟩ n f = some ((put ms n f).1, ⟨(put ms n f).2⟩) := by
  unfold bus_Bus_Submit put
  rw [there_eq, bindP_some]
  by_cases hn : 0 ≤ n ∧ n < (ms.length : Int)
  · simp only [decide_eq_true hn, Bool.not_true, iteP_false, Encode_eq hd hf, bindP_some, letP_eq, enc_err]
    rw [if_pos hn]
    have hm := h.ok _ (getD_mem (z := bus_master.z) hn)
    have hl := hm.len
    cases hv : valid f with
    | false => simp
    | true =>
      simp only [if_true, bne_self_eq_false, iteP_false, getD_at (z := bus_master.z) hn, bindP_some]
      by_cases hq : (ms.getD n.toNat bus_master.z).queue.length < 16
      · rw [show (((ms.getD n.toNat bus_master.z).queue.length : Int) == 16) = false by rw [beq_eq_false_iff_ne]; omega, iteP_false, app_one (by omega) (by omega), bindP_some, if_pos hq]
      · rw [show (((ms.getD n.toNat bus_master.z).queue.length : Int) == 16) = true by rw [beq_iff_eq]; omega, iteP_true, if_neg hq]
  · simp only [decide_eq_false hn, Bool.not_false, iteP_true]
    rw [if_neg hn]
theorem put_len (ms : List bus_master) (n : Int) (f : Frame_) : (put ms n f).2.length = ms.length := by
  unfold put
  split
  · split
    · split <;> simp [upd]
    · rfl
  · rfl
theorem put_ok {ms : List bus_master} {n : Int} {f : Frame_} (h : BOk ms) (hd : ∀ x ∈ f.Data, byte x) : BOk (put ms n f).2 := by
  refine ⟨by rw [put_len]; exact h.len, ?_⟩
  unfold put
  split
  · rename_i hn
    split
    · rename_i hv
      split
      · rename_i hq
        intro m hm
        simp only [upd] at hm
        rcases List.mem_or_eq_of_mem_set hm with hm | rfl
        · exact h.ok m hm
        · obtain ⟨a, b, c, d⟩ := h.ok _ (getD_mem (z := bus_master.z) hn)
          refine ⟨by simp only [List.length_append, List.length_singleton]; omega, b, c, fun x hx => ?_⟩
          rcases List.mem_append.1 hx with hx | hx
          · exact d x hx
          · simp at hx; subst hx; exact enc_fb hv hd
      · exact h.ok
    · exact h.ok
  · exact h.ok
def pend (ms : List bus_master) (n : Int) : Int := if 0 ≤ n ∧ n < (ms.length : Int) then ((ms.getD n.toNat bus_master.z).queue.length : Int) else 0
theorem Pending_eq (fuel : Nat) (ms : List bus_master) (n : Int) : bus_Bus_Pending fuel ⟨ms⟩ n = some (pend ms n) := by
  unfold bus_Bus_Pending pend
  rw [there_eq, bindP_some]
  by_cases hn : 0 ≤ n ∧ n < (ms.length : Int)
  · simp only [decide_eq_true hn, Bool.not_true, iteP_false, getD_at (z := bus_master.z) hn, bindP_some]; rw [if_pos hn]
  · simp only [decide_eq_false hn, Bool.not_false, iteP_true]; rw [if_neg hn]
end Lift
