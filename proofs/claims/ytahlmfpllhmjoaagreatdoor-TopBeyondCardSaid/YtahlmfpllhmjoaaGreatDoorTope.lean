import Derived.Test.YtahlmfpllhmjoaaGreatDoorTopd
set_option linter.unusedVariables false
set_option linter.unusedSimpArgs false
namespace Lift
open Go
def dist (s : Sensor_) (q : Int) (j : Nat) : Int := if j ≤ 2 then nr s.Conversion.Signed s.Limits j - num s.Conversion.Signed q else num s.Conversion.Signed q - nr s.Conversion.Signed s.Limits j
theorem beyond_ev (fuel : Nat) {s : Sensor_} (h : LV s.Conversion.Signed s.Limits) {q : Int} (hq : byte q) {i : Nat} (hi : i < 6) : Ev (threshold_beyond fuel s (i : Int) q) (fun y => y.1 = dist s q i) := by
  unfold threshold_beyond
  obtain ⟨x, e1, e2, e3⟩ := h.at hi
  have bq := num_bd s.Conversion.Signed hq
  have bx := num_bd s.Conversion.Signed e2
  have lb := least_bd s.Conversion.Signed
  refine Ev.to (Number_eq fuel _ hq) (Ev.to (show idx s.Limits.Raw (i : Int) = some x by rw [idx_nat]; exact e1) (Ev.chk (by rw [h.len]; rfl) (Ev.to (Number_eq fuel _ e2) (Ev.dec (fun h2 => Ev.letP (Ev.ret ?_)) (fun h2 => Ev.letP (Ev.ret ?_))))))
  · simp only [w_i64 (show -9223372036854775808 ≤ num s.Conversion.Signed x - num s.Conversion.Signed q by omega) (by omega), dist]
    rw [if_pos (by omega), e3]
  · simp only [w_i64 (show -9223372036854775808 ≤ num s.Conversion.Signed q - num s.Conversion.Signed x by omega) (by omega), dist]
    rw [if_neg (by omega), e3]
theorem next_ev {fuel : Nat} (hf : 100 < fuel) {s : Sensor_} (h : LV s.Conversion.Signed s.Limits) {st q : Int} (hs : byte st) (hq : byte q) : Ev (threshold_next fuel s st q) (fun y => byte y ∧ ∀ j, j < 6 → (bit y j = true → 0 ≤ dist s q j ∨ bit st j = true) ∧ (bit s.Limits.Mask j = true → 0 ≤ dist s q j → bit y j = true)) := by
  unfold threshold_next
  refine Ev.loop (fun (n : Nat) (x : Int × Int) => ∃ i : Nat, x.2 = i ∧ i + n = 6 ∧ byte x.1 ∧ (∀ j, i ≤ j → bit x.1 j = false) ∧ ∀ j, j < i → (bit x.1 j = true → 0 ≤ dist s q j ∨ bit st j = true) ∧ (bit s.Limits.Mask j = true → 0 ≤ dist s q j → bit x.1 j = true)) (fun n x hI self hself => ?_) (n := 6) (by omega) ⟨0, rfl, rfl, by unfold byte; decide, fun j _ => bit_zero j, by omega⟩
  obtain ⟨i, i1, i2, i3, i4, i5⟩ := hI
  obtain ⟨acc, pos⟩ := x
  simp only at i1 i3 i4 i5 ⊢
  subst i1
  refine Ev.dec (fun hlt => Ev.chk (by simp) (Ev.letP (Ev.bind (beyond_ev fuel h hq (by omega)) (fun y1 h1 => ?_)))) (fun hge => Ev.ret ⟨i3, fun j hj => i5 j (by omega)⟩)
  have hw : IntKind.i64.wrap ((i : Int) + 1) = ((i + 1 : Nat) : Int) := by rw [w_i64 (by omega) (by omega)]; rfl
  obtain ⟨x1b, x1e⟩ := sel_ok (i := (i : Int)) (by omega) (by omega) h.mask
  simp only [Int.toNat_natCast] at x1e
  rw [hw]
  refine Ev.join (fun b => (b = true → 0 ≤ dist s q i ∨ bit st i = true) ∧ (0 ≤ dist s q i → b = true)) (fun b hb => ?_) (fun j hj => ?_)
  · refine Ev.ite (fun hbt => hself (n - 1) _ (by omega) ?_) (fun hbf => hself (n - 1) _ (by omega) ?_)
    · obtain ⟨ob, oe⟩ := or_ok i3 x1b
      refine ⟨i + 1, rfl, by omega, ob, fun j hj => ?_, fun j hj => ?_⟩
      · simp only; rw [oe, x1e, i4 j (by omega)]
        have : i ≠ j := by omega
        simp [this]
      · simp only; rw [oe, x1e]
        by_cases e : i = j
        · subst e
          rw [i4 i (by omega)]
          exact ⟨fun _ => hb.1 hbt, fun hm _ => by simp [hm]⟩
        · simp only [e, decide_false, Bool.false_and, Bool.or_false]
          exact i5 j (by omega)
    · refine ⟨i + 1, rfl, by omega, i3, fun j hj => i4 j (by omega), fun j hj => ?_⟩
      simp only
      by_cases e : i = j
      · subst e
        refine ⟨fun hbit => (by rw [i4 i (by omega)] at hbit; cases hbit), fun _ hd => ?_⟩
        rw [hb.2 hd] at hbf; cases hbf
      · exact i5 j (by omega)
  · rw [h1]
    refine Ev.dec (fun hge => hj _ ⟨fun _ => .inl hge, fun _ => rfl⟩) (fun hlt' => Ev.bne (fun hne => hj _ ⟨fun _ => .inr ?_, fun hd => absurd hd hlt'⟩) (fun _ => hj _ ⟨fun hx => (by cases hx), fun hd => absurd hd hlt'⟩))
    have := sel_ne hs (by omega) (by omega) h.mask hne
    simpa using this
def COk (s : Sensor_) (q : Int) (c : Change_) : Prop := ∃ i : Nat, c.Index = i ∧ i < 6 ∧ (bit s.Limits.Mask i = true → (c.Asserted = true → 0 ≤ dist s q i) ∧ (c.Asserted = false → dist s q i < 0))
theorem Step_ev {fuel : Nat} (hf : 100 < fuel) {s : Sensor_} (h : AV s) {st q : Int} (hs : byte st) (hq : byte q) : Ev (threshold_Step fuel s st q) (fun y => byte y.1 ∧ y.2.1.length ≤ 6 ∧ ∀ c ∈ y.2.1, COk s q c) := by
  unfold threshold_Step
  have ha : threshold_analog fuel s = some true := by
    unfold threshold_analog
    rw [h.ana, Bool.not_false, iteP_true, h.valid hf, bindP_some]
  refine Ev.to ha (Ev.letP (Ev.iteF rfl (Ev.letP (Ev.ite (fun _ => Ev.ret ⟨by unfold byte; decide, by simp, by simp⟩) (fun _ => Ev.bind (next_ev hf h.lim hs hq) (fun y2 h2 => ?_))))))
  obtain ⟨b2, n2⟩ := h2
  obtain ⟨xb, xe⟩ := xor_ok hs b2
  refine Ev.loop (fun (n : Nat) (x : Int × List Change_) => ∃ i : Nat, x.1 = i ∧ i + n = 6 ∧ x.2.length ≤ i ∧ ∀ c ∈ x.2, COk s q c) (fun n x hI self hself => ?_) (n := 6) (by omega) ⟨0, rfl, rfl, by simp, by simp⟩
  obtain ⟨i, i1, i2, i3, i4⟩ := hI
  obtain ⟨pos, l⟩ := x
  simp only at i1 i3 i4 ⊢
  subst i1
  refine Ev.dec (fun hlt => Ev.chk (by simp) ?_) (fun hge => Ev.ret ⟨b2, by simp only; omega, i4⟩)
  have hw : IntKind.i64.wrap ((i : Int) + 1) = ((i + 1 : Nat) : Int) := by rw [w_i64 (by omega) (by omega)]; rfl
  rw [hw, one_u8 xb (by omega) (by omega), one_u8 b2 (by omega) (by omega)]
  simp only [Int.toNat_natCast, xe]
  obtain ⟨c1, c2⟩ := n2 i (by omega)
  by_cases hb : (bit st i != bit y2 i) = true
  · refine Ev.iteT (by simp [hb]) (Ev.chk (by simp) (Ev.app (by simp only [List.length_cons, List.length_nil]; omega) (hself (n - 1) _ (by omega) ⟨i + 1, rfl, by omega, by simp; omega, fun c hc => ?_⟩)))
    rcases List.mem_append.1 hc with hc | hc
    · exact i4 c hc
    · simp only [List.mem_singleton] at hc
      subst hc
      refine ⟨i, rfl, by omega, fun hm => ⟨fun has => ?_, fun has => ?_⟩⟩
      · have hbt : bit y2 i = true := by simpa using has
        rcases c1 hbt with h | h
        · exact h
        · rw [h, hbt] at hb; cases hb
      · have hbt : bit y2 i = false := by simpa using has
        rcases Int.lt_or_le (dist s q i) 0 with h | h
        · exact h
        · have := c2 hm h; rw [hbt] at this; cases this
  · simp only [Bool.not_eq_true] at hb
    exact Ev.iteF (by simp [hb]) (hself (n - 1) _ (by omega) ⟨i + 1, rfl, by omega, by simp only; omega, i4⟩)
def FV (F : Filter_) : Prop := F.Missing = 0 ∧ F.Window.length ≤ 1
theorem sValid {fuel : Nat} (hf : 100 < fuel) {s : Sensor_} (h : AV s) (h1 : s.Samples = 1) {F : Filter_} (hF : FV F) : sampling_Valid fuel s F = some true := by
  apply Ev.isTrue
  unfold sampling_Valid
  obtain ⟨f1, f2⟩ := hF
  refine Ev.to (h.valid hf) (Ev.join (fun b => b = false) (fun b hb => Ev.iteF hb (Ev.decT (by omega) (Ev.ret rfl))) (fun j hj => Ev.iteF rfl (Ev.decF (by omega) (Ev.decF (by omega) (hj _ (by simp; omega))))))
theorem sStep {fuel : Nat} (hf : 100 < fuel) {s : Sensor_} (h : AV s) (h1 : s.Samples = 1) {F : Filter_} (hF : FV F) (q : Int) : Ev (sampling_Step fuel s F q true) (fun y => y = (⟨[q], 0⟩, 0)) := by
  unfold sampling_Step
  obtain ⟨f1, f2⟩ := hF
  refine Ev.to (sValid hf h h1 ⟨f1, f2⟩) (Ev.iteF rfl ?_)
  have hc : slices_Clone_byte_byte fuel F.Window = some F.Window := by
    unfold slices_Clone_byte_byte
    rw [app_ok (by simp; omega)]; simp
  refine Ev.to hc (Ev.iteT rfl (Ev.app (by simp; omega) ?_))
  refine Ev.join (fun F' => F' = ⟨[q], 0⟩) (fun F' hF' => Ev.ret (by rw [hF'])) (fun j hj => ?_)
  match hw : F.Window, f2 with
  | [], _ => exact Ev.decF (by simp; omega) (hj _ rfl)
  | [a], _ => exact Ev.decT (by simp; omega) (Ev.to (show sub ([a] ++ [q]) 1 (([a] ++ [q]).length : Int) = some [q] from rfl) (hj _ rfl))
theorem sort1 {fuel : Nat} (hf : 100 < fuel) (s : Sensor_) (q : Int) : slices_SortedFunc_uint8_slices_Values_uint8_uint8_1_sampling_Reading_1 fuel [q] s = some [q] := by
  obtain ⟨f, rfl⟩ : ∃ f, fuel = f + 3 := ⟨fuel - 3, by omega⟩
  rfl
theorem reading {fuel : Nat} (hf : 100 < fuel) {s : Sensor_} (h : AV s) (h1 : s.Samples = 1) (q : Int) : Ev (sampling_Reading fuel s ⟨[q], 0⟩) (fun y => y = (q, true)) := by
  unfold sampling_Reading slices_Values_uint8_uint8
  refine Ev.to (sValid hf h h1 ⟨rfl, by simp⟩) (Ev.join (fun b => b = false) (fun b hb => Ev.iteF hb ?_) (fun j hj => Ev.iteF rfl (hj _ (by rw [h1]; rfl))))
  exact Ev.to rfl (Ev.to (sort1 hf s q) (Ev.to (show idx [q] (IntKind.i64.wrap (Int.tdiv (([q] : List Int).length : Int) 2)) = some q from by
    show idx [q] (IntKind.i64.wrap (Int.tdiv 1 2)) = some q
    rw [show IntKind.i64.wrap (Int.tdiv 1 2) = 0 from by decide]; rfl) (Ev.ret rfl)))
def MV (s : Sensor_) (m : monitor_Monitor) : Prop := ∃ F st, m = ⟨[s], [], [F], [st]⟩ ∧ FV F
theorem mstep {fuel : Nat} (hf : 100 < fuel) {s : Sensor_} (h : AV s) (h1 : s.Samples = 1) {F : Filter_} (hF : FV F) (st : Int) {q : Int} (hq : byte q) : Ev (monitor_Monitor_step fuel ⟨[s], [], [F], [st]⟩ 0 ⟨7, true, q, 0⟩) (fun y => y.1.length ≤ 6 ∧ (∀ c ∈ y.1, COk s q c) ∧ y.2.1 = q ∧ MV s y.2.2) := by
  unfold monitor_Monitor_step
  refine Ev.to (show idx [s] 0 = some s from rfl) (Ev.iteF h.ana (Ev.to (show idx [F] 0 = some F from rfl) (Ev.bind (sStep hf h h1 hF q) (fun y2 e2 => ?_))))
  subst e2
  refine Ev.letP (Ev.to (show idx (upd [F] 0 ⟨[q], 0⟩) 0 = some ⟨[q], 0⟩ from rfl) (Ev.bind (reading hf h h1 q) (fun y3 e3 => ?_)))
  subst e3
  refine Ev.iteF rfl (Ev.to (show idx [st] 0 = some st from rfl) (Ev.bind (Step_ev hf h (st := IntKind.u8.wrap st) (by unfold byte; rw [w_u8]; omega) hq) (fun y4 h4 => Ev.to (show idx [st] 0 = some st from rfl) (Ev.letP (Ev.ret ⟨h4.2.1, h4.2.2, rfl, ⟨[q], 0⟩, _, rfl, rfl, by simp⟩)))))
def offs (i : Nat) : Int := ([0, 2, 4, 7, 9, 11] : List Int).getD i 0
def EOk (s : Sensor_) (q : Int) (e : Event_) : Prop := ∃ i : Nat, i < 6 ∧ e.Type_ = 1 ∧ ∃ lim, s.Limits.Raw[i]? = some lim ∧ e.Data = [80 + offs i, q, lim] ∧ (e.Deassert = false → 0 ≤ dist s q i) ∧ (e.Deassert = true → dist s q i < 0)
theorem events_ev {fuel : Nat} (hf : 100 < fuel) {s : Sensor_} (h : AV s) (ha : s.Assert = s.Limits.Mask) (hd : s.Deassert = s.Limits.Mask) {q : Int} {cs : List Change_} (h6 : cs.length ≤ 6) (hc : ∀ c ∈ cs, COk s q c) : Ev (monitor_events fuel s cs q) (fun l => l.length ≤ 6 ∧ ∀ e ∈ l, EOk s q e) := by
  unfold monitor_events
  have m0 := h.lim.m0
  have m1 := h.lim.m1
  refine Ev.loop (fun (n : Nat) (x : Int × List Event_) => ∃ i : Nat, x.1 = i ∧ i + n = cs.length ∧ x.2.length ≤ i ∧ ∀ e ∈ x.2, EOk s q e) (fun n x hI self hself => ?_) (n := cs.length) (by omega) ⟨0, rfl, by omega, by simp, by simp⟩
  obtain ⟨i, i1, i2, i3, i4⟩ := hI
  obtain ⟨pos, l⟩ := x
  simp only at i1 i3 i4 ⊢
  subst i1
  refine Ev.dec (fun hlt => Ev.idx (by omega) hlt (fun c ce cm => ?_)) (fun hge => Ev.ret ⟨by omega, i4⟩)
  have hw : IntKind.i64.wrap ((i : Int) + 1) = ((i + 1 : Nat) : Int) := by rw [w_i64 (by omega) (by omega)]; rfl
  rw [hw]
  obtain ⟨k, k1, k2, k3⟩ := hc c cm
  refine Ev.join (fun v => v = s.Limits.Mask) (fun v hv => ?_) (fun j hj => Ev.ite (fun _ => hj _ ha) (fun _ => hj _ hd))
  subst hv
  rw [k1]
  refine Ev.chk (by simp) ?_
  rw [one_u16 m0 (by omega) (by omega) (by omega)]
  simp only [Int.toNat_natCast]
  by_cases hb : bit s.Limits.Mask k = true
  · obtain ⟨x, e1, e2, e3⟩ := h.lim.at k2
    refine Ev.iteF (by simp [hb]) (Ev.join (fun e => EOk s q e) (fun e he => Ev.app (by simp only [List.length_cons, List.length_nil]; omega) (hself (n - 1) _ (by omega) ⟨i + 1, rfl, by omega, by simp; omega, fun e' he' => ?_⟩)) (fun j hj => Ev.iteF h.ana ?_))
    · rcases List.mem_append.1 he' with hh | hh
      · exact i4 e' hh
      · simp only [List.mem_singleton] at hh; subst hh; exact he
    · refine Ev.to (show idx s.Limits.Raw (k : Int) = some x by rw [idx_nat]; exact e1) (Ev.chk (by rw [h.lim.len]; rfl) (Ev.bind (P := fun y => EOk s q y.1) ?_ (fun y hy => hj _ hy)))
      unfold event_Threshold
      refine Ev.join (fun b => b = false) (fun b hb2 => Ev.iteF hb2 ?_) (fun j hj => Ev.decF (by omega) (hj _ (by simp; omega)))
      have ho : idx [0, 2, 4, 7, 9, 11] (k : Int) = some (offs k) ∧ IntKind.u8.wrap (80 + offs k) = 80 + offs k := by
        obtain rfl | rfl | rfl | rfl | rfl | rfl : k = 0 ∨ k = 1 ∨ k = 2 ∨ k = 3 ∨ k = 4 ∨ k = 5 := by omega
        all_goals exact ⟨rfl, rfl⟩
      refine Ev.to ho.1 ?_
      rw [ho.2]
      refine Ev.ret ⟨k, k2, rfl, x, e1, rfl, fun hx => (k3 hb).1 (by simpa using hx), fun hx => (k3 hb).2 (by simpa using hx)⟩
  · simp only [Bool.not_eq_true] at hb
    exact Ev.iteT (by simp [hb]) (hself (n - 1) _ (by omega) ⟨i + 1, rfl, by omega, by simp only; omega, i4⟩)
theorem present_eq {fuel : Nat} (hf : 100 < fuel) (e : Entity_) : entity_Present fuel [] [] e = some (true, 0) := by
  obtain ⟨f, rfl⟩ : ∃ f, fuel = f + 5 := ⟨fuel - 5, by omega⟩
  rfl
theorem echeck_eq {fuel : Nat} (hf : 100 < fuel) : entity_Check fuel [] = some 0 := by
  obtain ⟨f, rfl⟩ : ∃ f, fuel = f + 5 := ⟨fuel - 5, by omega⟩
  rfl
theorem find_eq {fuel : Nat} (hf : 100 < fuel) {s : Sensor_} (hn : s.Number = 7) : slices_IndexFunc_api_Sensor_api_Sensor_monitor_Monitor_find_1 fuel [s] 7 = some 0 := by
  have : Ev (slices_IndexFunc_api_Sensor_api_Sensor_monitor_Monitor_find_1 fuel [s] 7) (fun y => y = 0) := by
    unfold slices_IndexFunc_api_Sensor_api_Sensor_monitor_Monitor_find_1
    refine Ev.loop (fun (n : Nat) (i : Int) => i = 0) (fun n i hI self hself => ?_) (n := 0) (by omega) rfl
    subst hI
    refine Ev.decT (by simp) (Ev.to (show idx [s] 0 = some s from rfl) (Ev.bind (P := fun b => b = true) (by unfold monitor_Monitor_find_1_2; exact Ev.letP (Ev.ret (by rw [hn]; rfl))) (fun b hb => Ev.iteT hb (Ev.ret rfl))))
  obtain ⟨a, e, rfl⟩ := this; exact e
theorem samp_eq {fuel : Nat} (hf : 100 < fuel) {s : Sensor_} (hn : s.Number = 7) (q : Int) : slices_IndexFunc_api_Sample_api_Sample_monitor_Monitor_Scan_1 fuel [⟨7, true, q, 0⟩] s = some 0 := by
  have : Ev (slices_IndexFunc_api_Sample_api_Sample_monitor_Monitor_Scan_1 fuel [⟨7, true, q, 0⟩] s) (fun y => y = 0) := by
    unfold slices_IndexFunc_api_Sample_api_Sample_monitor_Monitor_Scan_1
    refine Ev.loop (fun (n : Nat) (i : Int) => i = 0) (fun n i hI self hself => ?_) (n := 0) (by omega) rfl
    subst hI
    refine Ev.decT (by simp) (Ev.to (show idx [(⟨7, true, q, 0⟩ : Sample_)] 0 = some ⟨7, true, q, 0⟩ from rfl) (Ev.bind (P := fun b => b = true) (by unfold monitor_Monitor_Scan_1_2; exact Ev.letP (Ev.ret (by rw [hn]; rfl))) (fun b hb => Ev.iteT hb (Ev.ret rfl))))
  obtain ⟨a, e, rfl⟩ := this; exact e
theorem mcheck {fuel : Nat} (hf : 100 < fuel) {s : Sensor_} (h : AV s) (hn : s.Number = 7) (F : List Filter_) (st : List Int) (q : Int) : Ev (monitor_Monitor_check fuel ⟨[s], [], F, st⟩ [⟨7, true, q, 0⟩]) (fun y => y = 0) := by
  unfold monitor_Monitor_check
  refine Ev.loop (fun (n : Nat) (i : Int) => i = 0 ∧ n = 1 ∨ i = 1) (fun n i hI self hself => ?_) (n := 1) (by omega) (.inl ⟨rfl, rfl⟩)
  rcases hI with ⟨rfl, rfl⟩ | rfl
  · refine Ev.decT (by simp) (Ev.to (show idx [(⟨7, true, q, 0⟩ : Sample_)] 0 = some ⟨7, true, q, 0⟩ from rfl) (Ev.join (fun b => b = false) (fun b hb => Ev.iteF hb ?_) (fun j hj => Ev.letP (Ev.decF (by omega) (Ev.iteF rfl (hj _ rfl))))))
    have hfd : monitor_Monitor_find fuel ⟨[s], [], F, st⟩ 7 = some 0 := by
      unfold monitor_Monitor_find; rw [find_eq hf hn]; rfl
    refine Ev.to hfd (Ev.decF (by omega) (Ev.to (show idx [s] 0 = some s from rfl) (Ev.join (fun b => b = false) (fun b hb => Ev.iteF hb (Ev.letP (Ev.iteF (by rw [h.states]; (try dsimp only); decide) (hself 0 _ (by omega) (.inr rfl))))) (fun j hj => Ev.iteT (by rw [h.ana]; rfl) (Ev.iteF rfl (Ev.iteF h.ana (hj _ rfl)))))))
  · exact Ev.decF (by simp) (Ev.ret rfl)
theorem Scan_ev {fuel : Nat} (hf : 100 < fuel) {s : Sensor_} (h : AV s) (h1 : s.Samples = 1) (hn : s.Number = 7) (hh : s.HostOn = false) (ha : s.Assert = s.Limits.Mask) (hd : s.Deassert = s.Limits.Mask) {m : monitor_Monitor} (hm : MV s m) {q : Int} (hq : byte q) :
    Ev (monitor_Monitor_Scan fuel m [⟨7, true, q, 0⟩] [] false) (fun y => y.2.1 = 0 ∧ MV s y.2.2 ∧ y.1.length ≤ 6 ∧ ∀ e ∈ y.1, EOk s q e) := by
  unfold monitor_Monitor_Scan
  obtain ⟨F, st, rfl, hF⟩ := hm
  refine Ev.bind (mcheck hf h hn _ _ q) (fun y1 e1 => Ev.bneF e1 ?_)
  refine Ev.loop (fun (n : Nat) (x : Int × monitor_Monitor × List Event_) => (x.1 = 0 ∧ n = 1 ∧ x.2.1 = ⟨[s], [], [F], [st]⟩ ∧ x.2.2 = []) ∨ (x.1 = 1 ∧ MV s x.2.1 ∧ x.2.2.length ≤ 6 ∧ ∀ e ∈ x.2.2, EOk s q e)) (fun n x hI self hself => ?_) (n := 1) (by omega) (.inl ⟨rfl, rfl, rfl, rfl⟩)
  obtain ⟨pos, m', l⟩ := x
  simp only at hI ⊢
  rcases hI with ⟨rfl, rfl, rfl, rfl⟩ | ⟨rfl, hm', hl, he⟩
  · refine Ev.decT (by simp) (Ev.to (show idx [s] 0 = some s from rfl) (Ev.to (present_eq hf _) (Ev.join (fun b => b = false) (fun b hb => Ev.iteF hb ?_) (fun j hj => Ev.iteF rfl (Ev.iteF hh (hj _ rfl))))))
    refine Ev.to (samp_eq hf hn q) (Ev.join (fun x => x = ⟨7, true, q, 0⟩) (fun x hx => ?_) (fun j hj => Ev.decT (by omega) (Ev.to (show idx [(⟨7, true, q, 0⟩ : Sample_)] 0 = some ⟨7, true, q, 0⟩ from rfl) (hj _ rfl))))
    subst hx
    refine Ev.bind (mstep hf h h1 hF st hq) (fun y4 h4 => ?_)
    obtain ⟨a, b, c, d⟩ := h4
    rw [c]
    exact Ev.bind (events_ev hf h ha hd a b) (fun y5 h5 => Ev.app (by simp; omega) (hself 0 _ (by omega) (.inr ⟨rfl, d, by simpa using h5.1, by simpa using h5.2⟩)))
  · exact Ev.decF (by simp) (Ev.ret ⟨rfl, hm', hl, he⟩)
theorem CV.points {c : Conversion_} (h : CV c) : c.Points.length ≤ 12 := by
  cases h with
  | lin _ _ _ _ _ _ _ _ _ _ hp => rw [hp]; simp
  | tab _ _ _ _ _ hp => exact hp.top
theorem New_ev {fuel : Nat} (hf : 100 < fuel) {s : Sensor_} (h : AV s) : Ev (monitor_New fuel [s] []) (fun y => y.2 = 0 ∧ ∃ m, y.1 = some m ∧ MV s m) := by
  unfold monitor_New
  refine Ev.bind (P := fun y => y = 0) ?_ (fun y1 e1 => Ev.bneF e1 (Ev.to (echeck_eq hf) (Ev.bneF rfl ?_)))
  · unfold monitor_check
    refine Ev.decF (by simp) (Ev.loop (fun (n : Nat) (i : Int) => i = 0 ∧ n = 1 ∨ i = 1) (fun n i hI self hself => ?_) (n := 1) (by omega) (.inl ⟨rfl, rfl⟩))
    rcases hI with ⟨rfl, rfl⟩ | rfl
    · refine Ev.decT (by simp) (Ev.to (show idx [s] 0 = some s from rfl) (Ev.join (fun b => b = false) (fun b hb => Ev.iteF hb (hself 0 _ (by omega) (.inr rfl))) (fun j hj => Ev.to (h.valid hf) (Ev.letP (Ev.iteF rfl (Ev.letP (Ev.decF (by omega) (hj _ rfl))))))))
    · exact Ev.decF (by simp) (Ev.ret rfl)
  · have c1 : slices_Clone_api_Sensor_api_Sensor fuel [s] = some [s] := rfl
    have c2 : slices_Clone_api_Association_api_Association fuel [] = some [] := rfl
    refine Ev.to c1 (Ev.to c2 (Ev.to (show mk 32 Filter_.z (([s] : List Sensor_).length : Int) = some [Filter_.z] from rfl) (Ev.to (show mk 2 (0 : Int) (([s] : List Sensor_).length : Int) = some [0] from rfl) ?_)))
    refine Ev.loop (fun (n : Nat) (x : Int × List Sensor_) => (x.1 = 0 ∧ n = 1 ∨ x.1 = 1) ∧ x.2 = [s]) (fun n x hI self hself => ?_) (n := 1) (by omega) ⟨.inl ⟨rfl, rfl⟩, rfl⟩
    obtain ⟨pos, l⟩ := x
    simp only at hI ⊢
    obtain ⟨hI, rfl⟩ := hI
    rcases hI with ⟨rfl, rfl⟩ | rfl
    · have hp := h.conv.points
      have hc : slices_Clone_api_Point_api_Point fuel s.Conversion.Points = some s.Conversion.Points := by
        unfold slices_Clone_api_Point_api_Point
        rw [app_ok (by simp; omega)]; simp
      exact Ev.decT (by simp) (Ev.to (show idx [s] 0 = some s from rfl) (Ev.to hc (Ev.to (show idx [s] 0 = some s from rfl) (Ev.letP (hself 0 _ (by omega) ⟨.inr rfl, rfl⟩)))))
    · exact Ev.decF (by simp) (Ev.ret ⟨rfl, _, rfl, Filter_.z, 0, rfl, rfl, by decide⟩)
end Lift
