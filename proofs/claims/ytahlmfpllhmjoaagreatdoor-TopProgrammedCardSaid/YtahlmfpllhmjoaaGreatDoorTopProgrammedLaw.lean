import Derived.Test.YtahlmfpllhmjoaaGreatDoorTopc
import Derived.WalkKit
set_option linter.unusedVariables false
set_option linter.unusedSimpArgs false
namespace Lift
open Go
theorem named_eq {fuel : Nat} (hf : 100 < fuel) {l : List Int} (h : Txt l) : sensor_named fuel l = some true := by
  apply Ev.isTrue
  obtain ⟨h1, h2, h3⟩ := h
  unfold sensor_named
  refine Ev.loop (fun (n : Nat) (i : Int) => i + (n : Int) = l.length ∧ 0 ≤ i) (fun n i hI self hself => ?_) (n := l.length) (by omega) ⟨by simp, by simp⟩
  obtain ⟨i1, i2⟩ := hI
  refine Ev.dec (fun hlt => Ev.idx i2 hlt (fun x1 e1 m1 => ?_)) (fun _ => Ev.decT (by omega) (Ev.letP (Ev.ret (by simp; omega))))
  have hx := h3 x1 m1
  have hw : IntKind.i64.wrap (i + 1) = i + 1 := w_i64 (by omega) (by omega)
  exact Ev.join (fun s => s = false) (fun s3 hs3 => Ev.iteF hs3 (by rw [hw]; exact hself (n - 1) _ (by omega) ⟨by omega, by omega⟩)) (fun j hj => Ev.decF (by omega) (hj _ (by simp; omega)))
structure PS (s : Sensor_) (r : Int) : Prop where
  ok : SOk s
  ana : s.Discrete = false
  lim : s.Limits = ⟨16, [0, 0, 0, 0, r, 0]⟩
  as : s.Assert = 0
  de : s.Deassert = 0
  raw : byte r
theorem PS.low {fuel : Nat} (hf : 100 < fuel) {s : Sensor_} {r : Int} (h : PS s r) : Ev (sensor_ordered_1_2 fuel [2, 1, 0] s) (fun y => y = []) := by
  unfold sensor_ordered_1_2
  refine Ev.loop (fun (n : Nat) (x : Int × List Int) => x.1 + (n : Int) = 3 ∧ 0 ≤ x.1 ∧ x.2 = []) (fun n x hI self hself => ?_) (n := 3) (by omega) ⟨by simp, by simp, rfl⟩
  obtain ⟨i1, i2, i3⟩ := hI
  obtain ⟨i, acc⟩ := x
  simp only at i1 i2 i3 ⊢
  refine Ev.dec (fun hlt => Ev.idx i2 hlt (fun x1 e1 m1 => ?_)) (fun _ => Ev.ret i3)
  have hw : IntKind.i64.wrap (i + 1) = i + 1 := w_i64 (by omega) (by simp at hlt; omega)
  have hx : x1 = 0 ∨ x1 = 1 ∨ x1 = 2 := by simp at m1; omega
  refine Ev.chk (by simp; omega) (Ev.iteF ?_ (by rw [hw]; exact hself (n - 1) _ (by simp at hlt; omega) ⟨by simp only; simp at hlt; omega, by simp only; omega, i3⟩))
  rw [h.lim]
  rcases hx with rfl | rfl | rfl <;> ((try dsimp only); decide)
theorem PS.high {fuel : Nat} (hf : 100 < fuel) {s : Sensor_} {r : Int} (h : PS s r) : Ev (sensor_ordered_1_2 fuel [3, 4, 5] s) (fun y => y = [num s.Conversion.Signed r]) := by
  unfold sensor_ordered_1_2
  refine Ev.loop (fun (n : Nat) (x : Int × List Int) => x.1 + (n : Int) = 3 ∧ 0 ≤ x.1 ∧ x.2 = if x.1 ≤ 1 then [] else [num s.Conversion.Signed r]) (fun n x hI self hself => ?_) (n := 3) (by omega) ⟨by simp, by simp, rfl⟩
  obtain ⟨i1, i2, i3⟩ := hI
  obtain ⟨i, acc⟩ := x
  simp only at i1 i2 i3 ⊢
  refine Ev.dec (fun hlt => ?_) (fun hge => Ev.ret ?_)
  · simp at hlt
    have hw : IntKind.i64.wrap (i + 1) = i + 1 := w_i64 (by omega) (by omega)
    rw [hw, h.lim]
    refine Ev.idx i2 (by simpa using hlt) (fun x1 e1 m1 => ?_)
    obtain rfl | rfl | rfl : i = 0 ∨ i = 1 ∨ i = 2 := by omega
    all_goals (simp at e1; subst e1; refine Ev.chk (by decide) ?_)
    · exact Ev.iteF (by (try dsimp only); decide) (hself 2 _ (by omega) ⟨by simp, by simp, i3⟩)
    · refine Ev.iteT (by (try dsimp only); decide) (Ev.idx (by decide) (by simp) (fun x2 e2 _ => ?_))
      simp at e2; subst e2
      exact Ev.to (Number_eq fuel _ h.raw) (Ev.app (by rw [i3]; simp) (hself 1 _ (by omega) ⟨by simp, by simp, by rw [i3]; rfl⟩))
    · exact Ev.iteF (by (try dsimp only); decide) (hself 0 _ (by omega) ⟨by simp, by simp, i3⟩)
  · simp at hge; rw [i3, if_neg (by omega)]
theorem sorted0 {fuel : Nat} (hf : 100 < fuel) : slices_IsSorted_int_int fuel [] = some true := by
  obtain ⟨f, rfl⟩ : ∃ f, fuel = f + 1 := ⟨fuel - 1, by omega⟩
  rfl
theorem sorted1 {fuel : Nat} (hf : 100 < fuel) (v : Int) : slices_IsSorted_int_int fuel [v] = some true := by
  obtain ⟨f, rfl⟩ : ∃ f, fuel = f + 1 := ⟨fuel - 1, by omega⟩
  rfl
theorem PS.analog {fuel : Nat} (hf : 100 < fuel) {s : Sensor_} {r : Int} (h : PS s r) : sensor_analog fuel s = some true := by
  apply Ev.isTrue
  unfold sensor_analog
  refine Ev.to (Valid_eq hf (h.ok.conv h.ana)) ?_
  rw [h.lim, h.as, h.de, h.ok.states h.ana]
  refine Ev.join (fun b => b = false) (fun b hb => Ev.iteF hb ?_) (fun j hj => Ev.iteF rfl (Ev.iteF rfl (Ev.iteF rfl (hj _ (by (try dsimp only); decide)))))
  refine Ev.loop (fun (n : Nat) (i : Int) => i + (n : Int) = 6 ∧ 0 ≤ i) (fun n i hI self hself => ?_) (n := 6) (by omega) ⟨by simp, by simp⟩
  obtain ⟨i1, i2⟩ := hI
  refine Ev.dec (fun hlt => Ev.idx i2 (by simpa using hlt) (fun x1 e1 m1 => Ev.chk (by simpa using i2) ?_)) (fun _ => ?_)
  · have hw : IntKind.i64.wrap (i + 1) = i + 1 := w_i64 (by omega) (by omega)
    refine Ev.join (fun s => s = false) (fun s3 hs3 => Ev.iteF hs3 (by rw [hw]; exact hself (n - 1) _ (by omega) ⟨by omega, by omega⟩)) (fun j hj => ?_)
    obtain rfl | rfl | rfl | rfl | rfl | rfl : i = 0 ∨ i = 1 ∨ i = 2 ∨ i = 3 ∨ i = 4 ∨ i = 5 := by omega
    all_goals (simp at e1)
    all_goals first
      | (subst e1; exact Ev.iteT (by (try dsimp only); decide) (hj _ (by decide)))
      | exact Ev.iteF (by (try dsimp only); decide) (hj _ rfl)
  · refine Ev.bind (P := fun b => b = true) ?_ (fun y hy => Ev.ret hy)
    unfold sensor_ordered
    refine Ev.bind (h.low hf) (fun y1 e1 => Ev.bind (h.high hf) (fun y2 e2 => ?_))
    subst e1; subst e2
    refine Ev.join (fun b => b = true) (fun b hb => ?_) (fun j hj => Ev.letP (Ev.iteT rfl (hj _ rfl)))
    exact Ev.to (sorted0 hf) (Ev.iteT rfl (Ev.to (sorted1 hf _) (Ev.iteT rfl (Ev.ret hb))))
theorem PS.valid {fuel : Nat} (hf : 100 < fuel) {s : Sensor_} {r : Int} (h : PS s r) : sensor_Valid fuel s = some true := by
  apply Ev.isTrue
  unfold sensor_Valid
  refine Ev.to (named_eq hf h.ok.name) (Ev.join (fun b => b = false) (fun b hb => Ev.iteF hb (Ev.iteF h.ana (Ev.to (h.analog hf) (Ev.ret rfl)))) (fun j hj => Ev.iteF rfl ?_))
  rcases h.ok.samples with e | e | e <;> rw [e]
  · exact Ev.iteF rfl (hj _ rfl)
  · exact Ev.iteT rfl (Ev.iteF rfl (hj _ rfl))
  · exact Ev.iteT rfl (Ev.iteT rfl (hj _ rfl))
theorem PS.reached {fuel : Nat} (hf : 100 < fuel) {s : Sensor_} {r : Int} (h : PS s r) {q : Int} (hq : byte q) : Ev (threshold_Reached fuel s q) (fun y => y.2 = 0 ∧ y.1 = if num s.Conversion.Signed r ≤ num s.Conversion.Signed q then 16 else 0) := by
  unfold threshold_Reached
  have ha : threshold_analog fuel s = some true := by
    unfold threshold_analog
    rw [h.ana, Bool.not_false, iteP_true, h.valid hf, bindP_some]
  refine Ev.to ha (Ev.iteF rfl (Ev.bind (P := fun y => y = if num s.Conversion.Signed r ≤ num s.Conversion.Signed q then 16 else 0) ?_ (fun y hy => Ev.ret ⟨rfl, hy⟩)))
  unfold threshold_next
  have bq := num_bd s.Conversion.Signed hq
  have br := num_bd s.Conversion.Signed h.raw
  have lb := least_bd s.Conversion.Signed
  refine Ev.loop (fun (n : Nat) (x : Int × Int) => x.2 + (n : Int) = 6 ∧ 0 ≤ x.2 ∧ x.1 = if x.2 ≤ 4 then 0 else if num s.Conversion.Signed r ≤ num s.Conversion.Signed q then 16 else 0) (fun n x hI self hself => ?_) (n := 6) (by omega) ⟨by simp, by simp, rfl⟩
  obtain ⟨i1, i2, i3⟩ := hI
  obtain ⟨acc, i⟩ := x
  simp only at i1 i2 i3 ⊢
  refine Ev.dec (fun hlt => Ev.chk (by simpa using i2) (Ev.letP ?_)) (fun hge => Ev.ret (by rw [i3, if_neg (by omega)]))
  have hw : IntKind.i64.wrap (i + 1) = i + 1 := w_i64 (by omega) (by omega)
  rw [hw, h.lim]
  have zb : byte 0 := by unfold byte; omega
  have z0 := num_bd s.Conversion.Signed zb
  have hb : Ev (threshold_beyond fuel s i q) (fun y => y.1 = if i ≤ 2 then num s.Conversion.Signed 0 - num s.Conversion.Signed q else if i = 4 then num s.Conversion.Signed q - num s.Conversion.Signed r else num s.Conversion.Signed q - num s.Conversion.Signed 0) := by
    unfold threshold_beyond
    refine Ev.to (Number_eq fuel _ hq) ?_
    rw [h.lim]
    refine Ev.idx i2 (by simpa using hlt) (fun x1 e1 m1 => Ev.chk rfl ?_)
    have hx : x1 = if i = 4 then r else 0 := by
      obtain rfl | rfl | rfl | rfl | rfl | rfl : i = 0 ∨ i = 1 ∨ i = 2 ∨ i = 3 ∨ i = 4 ∨ i = 5 := by omega
      all_goals (simp at e1 ⊢; omega)
    have hxb : byte x1 := by rw [hx]; split; exact h.raw; exact zb
    have bx := num_bd s.Conversion.Signed hxb
    refine Ev.to (Number_eq fuel _ hxb) (Ev.dec (fun h2 => Ev.letP (Ev.ret ?_)) (fun h2 => Ev.letP (Ev.ret ?_)))
    · rw [if_pos h2]
      simp only [w_i64 (show -9223372036854775808 ≤ num s.Conversion.Signed x1 - num s.Conversion.Signed q by omega) (by omega)]
      rw [hx, if_neg (by omega)]
    · rw [if_neg h2]
      simp only [w_i64 (show -9223372036854775808 ≤ num s.Conversion.Signed q - num s.Conversion.Signed x1 by omega) (by omega)]
      rw [hx]; split <;> rfl
  refine Ev.bind hb (fun y1 h1 => ?_)
  refine Ev.join (fun b => i = 4 → b = decide (num s.Conversion.Signed r ≤ num s.Conversion.Signed q)) (fun b hb4 => ?_) (fun j hj => ?_)
  · by_cases h4 : i = 4
    · subst h4
      rw [hb4 rfl]
      have e0 : acc = 0 := by rw [i3]; rfl
      rw [e0]
      refine Ev.dec (fun hle => hself (n - 1) _ (by omega) ⟨by simp only; omega, by simp only; omega, ?_⟩) (fun hle => hself (n - 1) _ (by omega) ⟨by simp only; omega, by simp only; omega, ?_⟩)
      · simp only [hle, if_true]; decide
      · simp only [hle, if_false]; rfl
    · have hm : bAnd .u8 (bShl .u8 1 i) 16 = 0 := by
        obtain rfl | rfl | rfl | rfl | rfl : i = 0 ∨ i = 1 ∨ i = 2 ∨ i = 3 ∨ i = 5 := by omega
        all_goals decide
      have ho : bOr .u8 acc (bAnd .u8 (bShl .u8 1 i) 16) = acc := by
        rw [hm, i3]
        split
        · decide
        · split <;> decide
      have hn : acc = if i + 1 ≤ 4 then 0 else if num s.Conversion.Signed r ≤ num s.Conversion.Signed q then 16 else 0 := by
        rw [i3]; by_cases h5 : i ≤ 4
        · rw [if_pos h5, if_pos (show i + 1 ≤ 4 by omega)]
        · rw [if_neg h5, if_neg (show ¬ i + 1 ≤ 4 by omega)]
      rw [ho]
      exact Ev.ite (fun _ => hself (n - 1) _ (by omega) ⟨by simp only; omega, by simp only; omega, hn⟩) (fun _ => hself (n - 1) _ (by omega) ⟨by simp only; omega, by simp only; omega, hn⟩)
  · have hz : bAnd .u8 0 (bAnd .u8 (bShl .u8 1 i) 16) = 0 := by
      obtain rfl | rfl | rfl | rfl | rfl | rfl : i = 0 ∨ i = 1 ∨ i = 2 ∨ i = 3 ∨ i = 4 ∨ i = 5 := by omega
      all_goals decide
    refine Ev.dec (fun hge => hj _ (fun h4 => ?_)) (fun hlt' => Ev.iteF (by rw [hz]; rfl) (hj _ (fun h4 => ?_)))
    all_goals (subst h4; have h1' : y1.1 = num s.Conversion.Signed q - num s.Conversion.Signed r := by rw [h1, if_neg (show ¬ (4 : Int) ≤ 2 by omega), if_pos rfl])
    · simp; omega
    · simp; omega
theorem top_first_eq : top_first 20000000000 = some true := by kernel_rfl
theorem top_TopProgrammed_true (a0 : List Int) (a1 a2 : Int) (o0 : okL (okI .i64) a0) (o1 : okI .i64 a1) (o2 : okI .u8 a2) : ∃ fuel, top_TopProgrammed fuel a0 a1 a2 = some true := by
  refine ⟨20000000000, Ev.isTrue ?_⟩
  have hf : Big 20000000000 := by unfold Big; omega
  have hf1 : 100 < 20000000000 := by omega
  have h2 : byte a2 := okI_u8.1 o2
  have hfirst := top_first_eq
  generalize 20000000000 = fuel at hf hf1 hfirst ⊢
  unfold top_TopProgrammed
  refine Ev.to hfirst (Ev.iteF rfl ?_)
  unfold made_Light made_Roll
  refine Ev.bind (P := fun b => b = decide ((a0.length : Int) ≤ 600)) (Ev.letP (Ev.ret rfl)) (fun b hb => ?_)
  subst hb
  refine Ev.not (Ev.dec (fun hl => ?_) (fun _ => Ev.ret rfl))
  refine Ev.bind (P := fun d => d = ⟨a0, 0⟩) (Ev.ret rfl) (fun d hd => ?_)
  subst hd
  refine Ev.bind (Analog_ev hf1 (roll_ok (by omega)) 1) (fun y4 h4 => ?_)
  obtain ⟨⟨ok, ana⟩, _⟩ := h4
  have cv := ok.conv ana
  refine Ev.bind (Nearest_ev hf cv a1) (fun y5 h5 => Ev.bne (fun hne => Ev.letP (Ev.ret ?_)) (fun he => ?_))
  · rcases h5 with h5 | h5
    · simp [h5]
    · exact absurd h5.1 hne
  rcases h5 with h5 | ⟨_, hr, v, ev⟩
  · omega
  refine Ev.letP (Ev.letP (Ev.letP ?_))
  have ps : PS { y4.1 with Limits := ⟨16, upd (List.replicate 6 0) 4 y5.1⟩, Assert := 0, Deassert := 0 } y5.1 := ⟨⟨ok.name, ok.samples, ok.conv, ok.states⟩, ana, rfl, rfl, rfl, hr⟩
  refine Ev.bind (ps.reached hf1 h2) (fun y6 h6 => Ev.to (Number_eq fuel _ h2) (Ev.to (Number_eq fuel _ hr) ?_))
  obtain ⟨h60, h61⟩ := h6
  have goal : ∀ w : Int, w = (if num y4.1.Conversion.Signed y5.1 ≤ num y4.1.Conversion.Signed a2 then 16 else 0) → y6.1 = w := fun w hw => by rw [hw]; exact h61
  refine Ev.join (fun w => w = if num y4.1.Conversion.Signed y5.1 ≤ num y4.1.Conversion.Signed a2 then 16 else 0) (fun w hw => ?_) (fun j hj => Ev.dec (fun h => hj _ (by rw [if_pos h])) (fun h => hj _ (by rw [if_neg h])))
  refine Ev.join (fun b => b = false) (fun b hb => Ev.iteF hb ?_) (fun j hj => Ev.bneF h60 (hj _ (by rw [goal w hw]; simp)))
  refine Ev.bind (Direction_ev hf cv) (fun y9 h9 => ?_)
  obtain ⟨y10, e10, e10'⟩ := Value_eq hf cv h2
  obtain ⟨y11, e11, e11'⟩ := Value_eq hf cv hr
  refine Ev.to e10' (Ev.to e11' ?_)
  rw [ev] at e11
  obtain rfl := Option.some.inj e11
  refine Ev.beqT h9.1 (Ev.beqT rfl (Ev.bne (fun _ => Ev.ret rfl) (fun h1 => Ev.beq (fun _ => Ev.ret rfl) (fun hw0 => Ev.bne (fun _ => Ev.ret rfl) (fun h0 => Ev.letP (Ev.ret ?_))))))
  obtain ⟨l, hl, hn⟩ := h9.2 h1
  have hle : num y4.1.Conversion.Signed y5.1 ≤ num y4.1.Conversion.Signed a2 := by
    rcases Int.lt_or_le (num y4.1.Conversion.Signed a2) (num y4.1.Conversion.Signed y5.1) with h | h
    · rw [if_neg (by omega)] at hw; exact absurd hw hw0
    · exact h
  have e10b : convert_value fuel y4.1.Conversion a2 = some (y10.1, 0) := by rw [e10, ← h0]
  have := rising hl hn hr h2 ev e10b hle
  simp only [decide_eq_true_eq]; omega
end Lift
