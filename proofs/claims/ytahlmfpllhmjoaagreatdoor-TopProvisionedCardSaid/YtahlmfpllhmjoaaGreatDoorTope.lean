import Derived.Test.YtahlmfpllhmjoaaGreatDoorTopd
set_option linter.unusedVariables false
set_option linter.unusedSimpArgs false
namespace Lift
open Go
def dist (s : Sensor_) (q : Int) (j : Nat) : Int := if j ≤ 2 then nr s.Conversion.Signed s.Limits j - num s.Conversion.Signed q else num s.Conversion.Signed q - nr s.Conversion.Signed s.Limits j
theorem beyond_ev (fuel : Nat) {s : Sensor_} (h : LV s.Conversion.Signed s.Limits) {q : Int} (hq : byte q) {i : Nat} (hi : i < 6) : Ev (threshold_beyond fuel s (i : Int) q) (fun y => y.1 = dist s q i) := by
  unfold threshold_beyond
  obtain ⟨x, e1, e2, e3⟩ := h.at hi
  have bq := num_bd s.Conversion.Signed hq
  have bx := num_bd s.Conversion.Signed e2
  have lb := least_bd s.Conversion.Signed
  refine Ev.to (Number_eq fuel _ hq) (Ev.to (show idx s.Limits.Raw (i : Int) = some x by rw [idx_nat]; exact e1) (Ev.chk (by rw [h.len]; rfl) (Ev.to (Number_eq fuel _ e2) (Ev.dec (fun h2 => Ev.letP (Ev.ret ?_)) (fun h2 => Ev.letP (Ev.ret ?_))))))
  · simp only [w_i64 (show -9223372036854775808 ≤ num s.Conversion.Signed x - num s.Conversion.Signed q by omega) (by omega), dist]
    rw [if_pos (by omega), e3]
  · simp only [w_i64 (show -9223372036854775808 ≤ num s.Conversion.Signed q - num s.Conversion.Signed x by omega) (by omega), dist]
    rw [if_neg (by omega), e3]
theorem next_ev {fuel : Nat} (hf : 100 < fuel) {s : Sensor_} (h : LV s.Conversion.Signed s.Limits) {st q : Int} (hs : byte st) (hq : byte q) : Ev (threshold_next fuel s st q) (fun y => byte y ∧ ∀ j, j < 6 → (bit y j = true → 0 ≤ dist s q j ∨ bit st j = true) ∧ (bit s.Limits.Mask j = true → 0 ≤ dist s q j → bit y j = true)) := by
  unfold threshold_next
  refine Ev.loop (fun (n : Nat) (x : Int × Int) => ∃ i : Nat, x.2 = i ∧ i + n = 6 ∧ byte x.1 ∧ (∀ j, i ≤ j → bit x.1 j = false) ∧ ∀ j, j < i → (bit x.1 j = true → 0 ≤ dist s q j ∨ bit st j = true) ∧ (bit s.Limits.Mask j = true → 0 ≤ dist s q j → bit x.1 j = true)) (fun n x hI self hself => ?_) (n := 6) (by omega) ⟨0, rfl, rfl, by unfold byte; decide, fun j _ => bit_zero j, by omega⟩
  obtain ⟨i, i1, i2, i3, i4, i5⟩ := hI
  obtain ⟨acc, pos⟩ := x
  simp only at i1 i3 i4 i5 ⊢
  subst i1
  refine Ev.dec (fun hlt => Ev.chk (by simp) (Ev.letP (Ev.bind (beyond_ev fuel h hq (by omega)) (fun y1 h1 => ?_)))) (fun hge => Ev.ret ⟨i3, fun j hj => i5 j (by omega)⟩)
  have hw : IntKind.i64.wrap ((i : Int) + 1) = ((i + 1 : Nat) : Int) := by rw [w_i64 (by omega) (by omega)]; rfl
  obtain ⟨x1b, x1e⟩ := sel_ok (i := (i : Int)) (by omega) (by omega) h.mask
  simp only [Int.toNat_natCast] at x1e
  rw [hw]
  refine Ev.join (fun b => (b = true → 0 ≤ dist s q i ∨ bit st i = true) ∧ (0 ≤ dist s q i → b = true)) (fun b hb => ?_) (fun j hj => ?_)
  · refine Ev.ite (fun hbt => hself (n - 1) _ (by omega) ?_) (fun hbf => hself (n - 1) _ (by omega) ?_)
    · obtain ⟨ob, oe⟩ := or_ok i3 x1b
      refine ⟨i + 1, rfl, by omega, ob, fun j hj => ?_, fun j hj => ?_⟩
      · simp only; rw [oe, x1e, i4 j (by omega)]
        have : i ≠ j := by omega
        simp [this]
      · simp only; rw [oe, x1e]
        by_cases e : i = j
        · subst e
          rw [i4 i (by omega)]
          exact ⟨fun _ => hb.1 hbt, fun hm _ => by simp [hm]⟩
        · simp only [e, decide_false, Bool.false_and, Bool.or_false]
          exact i5 j (by omega)
    · refine ⟨i + 1, rfl, by omega, i3, fun j hj => i4 j (by omega), fun j hj => ?_⟩
      simp only
      by_cases e : i = j
      · subst e
        refine ⟨fun hbit => (by rw [i4 i (by omega)] at hbit; cases hbit), fun _ hd => ?_⟩
        rw [hb.2 hd] at hbf; cases hbf
      · exact i5 j (by omega)
  · rw [h1]
    refine Ev.dec (fun hge => hj _ ⟨fun _ => .inl hge, fun _ => rfl⟩) (fun hlt' => Ev.bne (fun hne => hj _ ⟨fun _ => .inr ?_, fun hd => absurd hd hlt'⟩) (fun _ => hj _ ⟨fun hx => (by cases hx), fun hd => absurd hd hlt'⟩))
    have := sel_ne hs (by omega) (by omega) h.mask hne
    simpa using this
def COk (s : Sensor_) (q : Int) (c : Change_) : Prop := ∃ i : Nat, c.Index = i ∧ i < 6 ∧ (bit s.Limits.Mask i = true → (c.Asserted = true → 0 ≤ dist s q i) ∧ (c.Asserted = false → dist s q i < 0))
theorem Step_ev {fuel : Nat} (hf : 100 < fuel) {s : Sensor_} (h : AV s) {st q : Int} (hs : byte st) (hq : byte q) : Ev (threshold_Step fuel s st q) (fun y => byte y.1 ∧ y.2.1.length ≤ 6 ∧ ∀ c ∈ y.2.1, COk s q c) := by
  unfold threshold_Step
  have ha : threshold_analog fuel s = some true := by
    unfold threshold_analog
    rw [h.ana, Bool.not_false, iteP_true, h.valid hf, bindP_some]
  refine Ev.to ha (Ev.letP (Ev.iteF rfl (Ev.letP (Ev.ite (fun _ => Ev.ret ⟨by unfold byte; decide, by simp, by simp⟩) (fun _ => Ev.bind (next_ev hf h.lim hs hq) (fun y2 h2 => ?_))))))
  obtain ⟨b2, n2⟩ := h2
  obtain ⟨xb, xe⟩ := xor_ok hs b2
  refine Ev.loop (fun (n : Nat) (x : Int × List Change_) => ∃ i : Nat, x.1 = i ∧ i + n = 6 ∧ x.2.length ≤ i ∧ ∀ c ∈ x.2, COk s q c) (fun n x hI self hself => ?_) (n := 6) (by omega) ⟨0, rfl, rfl, by simp, by simp⟩
  obtain ⟨i, i1, i2, i3, i4⟩ := hI
  obtain ⟨pos, l⟩ := x
  simp only at i1 i3 i4 ⊢
  subst i1
  refine Ev.dec (fun hlt => Ev.chk (by simp) ?_) (fun hge => Ev.ret ⟨b2, by simp only; omega, i4⟩)
  have hw : IntKind.i64.wrap ((i : Int) + 1) = ((i + 1 : Nat) : Int) := by rw [w_i64 (by omega) (by omega)]; rfl
  rw [hw, one_u8 xb (by omega) (by omega), one_u8 b2 (by omega) (by omega)]
  simp only [Int.toNat_natCast, xe]
  obtain ⟨c1, c2⟩ := n2 i (by omega)
  by_cases hb : (bit st i != bit y2 i) = true
  · refine Ev.iteT (by simp [hb]) (Ev.chk (by simp) (Ev.app (by simp only [List.length_cons, List.length_nil]; omega) (hself (n - 1) _ (by omega) ⟨i + 1, rfl, by omega, by simp; omega, fun c hc => ?_⟩)))
    rcases List.mem_append.1 hc with hc | hc
    · exact i4 c hc
    · simp only [List.mem_singleton] at hc
      subst hc
      refine ⟨i, rfl, by omega, fun hm => ⟨fun has => ?_, fun has => ?_⟩⟩
      · have hbt : bit y2 i = true := by simpa using has
        rcases c1 hbt with h | h
        · exact h
        · rw [h, hbt] at hb; cases hb
      · have hbt : bit y2 i = false := by simpa using has
        rcases Int.lt_or_le (dist s q i) 0 with h | h
        · exact h
        · have := c2 hm h; rw [hbt] at this; cases this
  · simp only [Bool.not_eq_true] at hb
    exact Ev.iteF (by simp [hb]) (hself (n - 1) _ (by omega) ⟨i + 1, rfl, by omega, by simp only; omega, i4⟩)
theorem echeck_eq {fuel : Nat} (hf : 100 < fuel) : entity_Check fuel [] = some 0 := by
  obtain ⟨f, rfl⟩ : ∃ f, fuel = f + 5 := ⟨fuel - 5, by omega⟩
  rfl
theorem CV.points {c : Conversion_} (h : CV c) : c.Points.length ≤ 12 := by
  cases h with
  | lin _ _ _ _ _ _ _ _ _ _ hp => rw [hp]; simp
  | tab _ _ _ _ _ hp => exact hp.top
end Lift
