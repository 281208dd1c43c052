/- Sameness of messages; codes that give bytes and times. No program in sight. -/
import Derived.Test.YtlfbpnoempdiiaaMtyped
import Derived.Test.YtlfbpnoempdiiaaResp
set_option linter.unusedVariables false
set_option linter.unusedSimpArgs false
namespace Lift
open Go
theorem sMsg_eq {fuel : Nat} {a b : Message_} (ha : ∀ x ∈ a.Data, byte x) (hb : ∀ x ∈ b.Data, byte x) : ref24_SameMessage fuel a b = some (decide (a = b)) := by
  unfold ref24_SameMessage
  rw [toStr_byte ha, toStr_byte hb]
  simp only [mext, ibeq]
  by_cases h1 : a.To = b.To
  rotate_left
  · simp [h1]
  by_cases h2 : a.From = b.From
  rotate_left
  · simp [h1, h2]
  by_cases h3 : a.Function = b.Function
  rotate_left
  · simp [h1, h2, h3]
  by_cases h4 : a.Command = b.Command
  rotate_left
  · simp [h1, h2, h3, h4]
  by_cases h5 : a.ToUnit = b.ToUnit
  rotate_left
  · simp [h1, h2, h3, h4, h5]
  by_cases h6 : a.FromUnit = b.FromUnit
  rotate_left
  · simp [h1, h2, h3, h4, h5, h6]
  by_cases h7 : a.Sequence = b.Sequence
  rotate_left
  · simp [h1, h2, h3, h4, h5, h6, h7]
  by_cases h8 : a.Code = b.Code
  rotate_left
  · simp [h1, h2, h3, h4, h5, h6, h7, h8]
  simp only [h1, h2, h3, h4, h5, h6, h7, h8, decide_true, iteP_true, letP_eq, true_and]
  congr 1
  by_cases h9 : a.Data = b.Data <;> simp [h9]
theorem sMsgs_refl {fuel : Nat} (hf : 6000 < fuel) {a : List Message_} (hl : a.length ≤ 1000) (hd : ∀ m ∈ a, ∀ x ∈ m.Data, byte x) : ref24_SameMessages fuel a a = some true := by
  apply Ev.isSome
  unfold ref24_SameMessages
  refine Ev.bneF rfl (Ev.each (l := a) (by omega) (fun i p hp hm hi self hs => ?_) (fun self => Ev.decF (by omega) (Ev.ret rfl)))
  have hx : idx a (i : Int) = some p := by rw [idx_nat, hp]
  refine Ev.decT (by omega) (Ev.to hx (Ev.to hx (Ev.to (sMsg_eq (hd p hm) (hd p hm)) (Ev.iteF (by simp) (Ev.letP ?_)))))
  rw [wi i (by omega)]; exact hs
theorem u8w {n : Int} : byte (IntKind.u8.wrap n) := by rw [w_u8]; constructor <;> omega
theorem nil_small : Small ([] : List Int) := ⟨by simp, fun x hx => (by cases hx)⟩
theorem fBytes_ok {c : field_Codes} (h : COk c) {n : Nat} (hn : n ≤ 200) : ∃ L c', field_Codes_Bytes 10000 c (n : Int) = some (L, c') ∧ L.length ≤ n ∧ (∀ x ∈ L, byte x) ∧ COk c' := by
  suffices hE : Ev (field_Codes_Bytes 10000 c (n : Int)) (fun p => p.1.length ≤ n ∧ (∀ x ∈ p.1, byte x) ∧ COk p.2) by
    obtain ⟨⟨L, c'⟩, e, h1, h2, h3⟩ := hE; exact ⟨L, c', e, h1, h2, h3⟩
  unfold field_Codes_Bytes
  rw [wr (n := (n : Int) + 1) (by omega)]
  obtain ⟨r, c1, e1, l1, k1⟩ := fnext_nat 10000 h (m := n + 1) (by omega) (by omega)
  refine Ev.to e1 ?_
  refine Ev.loop (fun m (s : Int × field_Codes × List Int) => s.1 = (m : Int) ∧ m ≤ n ∧ COk s.2.1 ∧ s.2.2.length + m ≤ n ∧ ∀ x ∈ s.2.2, byte x) (fun m s hI self hself => ?_) (n := r) (by omega) ⟨rfl, by omega, k1, by simp; omega, fun x hx => (by cases hx)⟩
  obtain ⟨h1, h2, h3, h4, h5⟩ := hI
  rw [h1]
  refine Ev.dec (fun hp => ?_) (fun _ => Ev.ret ⟨by simp only; omega, h5, h3⟩)
  obtain ⟨r2, c2, e2, l2, k2⟩ := fnext_nat 10000 h3 (m := 256) (by omega) (by omega)
  refine Ev.to e2 (Ev.to (app_ok (by simp; omega)) (Ev.letP ?_))
  rw [wr (n := (m : Int) - 1) (by omega)]
  refine hself (m - 1) _ (by omega) ⟨by simp only; omega, by omega, k2, by simp; omega, fun x hx => ?_⟩
  rcases List.mem_append.1 hx with h | h
  · exact h5 x h
  · simp only [List.mem_singleton] at h; rw [h]; exact u8w
theorem fNow_ok {c : field_Codes} (h : COk c) : ∃ n c', field_Codes_Now 10000 c = some (n, c') ∧ -1 ≤ n ∧ n ≤ 17179869185 ∧ COk c' := by
  suffices hE : Ev (field_Codes_Now 10000 c) (fun p => -1 ≤ p.1 ∧ p.1 ≤ 17179869185 ∧ COk p.2) by
    obtain ⟨⟨n, c'⟩, e, h1, h2, h3⟩ := hE; exact ⟨n, c', e, h1, h2, h3⟩
  unfold field_Codes_Now
  obtain ⟨r, c1, e1, l1, k1⟩ := fnext_nat 10000 h (m := 12) (by omega) (by omega)
  refine Ev.to e1 (Ev.beq (fun _ => ?_) (fun _ => ?_))
  · obtain ⟨r2, c2, e2, l2, k2⟩ := fnext_nat 10000 k1 (m := 5) (by omega) (by omega)
    refine Ev.to e2 ?_
    obtain ⟨z, hz, hz1, hz2⟩ : ∃ z, ([0, 17179869184, 17179869183, 17179869185, (-1)] : List Int)[r2]? = some z ∧ -1 ≤ z ∧ z ≤ 17179869185 := by
      have : r2 = 0 ∨ r2 = 1 ∨ r2 = 2 ∨ r2 = 3 ∨ r2 = 4 := by omega
      rcases this with rfl | rfl | rfl | rfl | rfl <;> exact ⟨_, rfl, by omega, by omega⟩
    exact Ev.to (a := z) (by rw [idx_nat]; exact hz) (Ev.ret ⟨hz1, hz2, k2⟩)
  · obtain ⟨r2, c2, e2, l2, k2⟩ := fnext_nat 10000 k1 (m := 200) (by omega) (by omega)
    exact Ev.to e2 (Ev.ret ⟨by simp only; omega, by simp only; omega, k2⟩)
end Lift
