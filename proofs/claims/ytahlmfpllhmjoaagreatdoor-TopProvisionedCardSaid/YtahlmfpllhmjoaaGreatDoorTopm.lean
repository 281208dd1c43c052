import Derived.Test.YtahlmfpllhmjoaaGreatDoorTope
import Derived.Test.YtahlmfpllhmjoaaGreatDoorTopg
set_option linter.unusedVariables false
set_option linter.unusedSimpArgs false
namespace Lift
open Go
def FT (F : Filter_) : Prop := F.Window.length ≤ 5 ∧ ∀ x ∈ F.Window, byte x
def MT (l : List Sensor_) (m : monitor_Monitor) : Prop := m.sensors = l ∧ m.l = [] ∧ m.filters.length = l.length ∧ (∀ F ∈ m.filters, FT F) ∧ m.states.length = l.length
theorem FT.z : FT Filter_.z := ⟨by decide, by simp [Filter_.z]⟩
theorem FS.lim6 {n : Int} {s : Sensor_} (h : FS n s) : s.Limits.Raw.length = 6 ∧ ∀ x ∈ s.Limits.Raw, byte x := by
  cases hd : s.Discrete
  · exact ⟨(h.ana hd).2.1.len, (h.ana hd).2.1.raw⟩
  · rw [(h.dis hd).2.1]; exact ⟨rfl, by simp [Thresholds_.z]; unfold byte; decide⟩
theorem sValid_tot {fuel : Nat} (hf : 100 < fuel) {n : Int} {s : Sensor_} (h : FS n s) (F : Filter_) : Tot (sampling_Valid fuel s F) := by
  unfold sampling_Valid
  refine Ev.to (h.valid hf) (Ev.join (fun _ => True) (fun b _ => Ev.ite (fun _ => Tot.ret) (fun _ => Ev.dec (fun _ => Tot.ret) (fun _ => Ev.letP Tot.ret))) (fun j hj => Ev.ite (fun _ => hj _ trivial) (fun _ => Ev.dec (fun _ => hj _ trivial) (fun _ => Ev.dec (fun _ => hj _ trivial) (fun _ => hj _ trivial)))))
theorem sClone {fuel : Nat} {l : List Int} (h : l.length ≤ 100000) : slices_Clone_byte_byte fuel l = some l := by
  unfold slices_Clone_byte_byte
  rw [app_ok (by simp; omega)]; simp
theorem sStep_tot {fuel : Nat} (hf : 100 < fuel) {n : Int} {s : Sensor_} (h : FS n s) {F : Filter_} (hF : FT F) {q : Int} (hq : byte q) (ok : Bool) : Ev (sampling_Step fuel s F q ok) (fun y => FT y.1) := by
  unfold sampling_Step
  obtain ⟨f1, f2⟩ := hF
  have hs := h.samples
  refine Ev.bind (sValid_tot hf h F) (fun y1 _ => Ev.ite (fun _ => Ev.ret FT.z) (fun _ => Ev.to (sClone (by omega)) (Ev.ite (fun _ => Ev.app (by simp; omega) ?_) (fun _ => Ev.ite (fun _ => Ev.ret ⟨by simp, by simp⟩) (fun _ => Ev.ret ⟨f1, f2⟩)))))
  have hb : ∀ x ∈ F.Window ++ [q], byte x := fun x hx => by
    rcases List.mem_append.1 hx with hx | hx
    · exact f2 x hx
    · simp at hx; subst hx; exact hq
  refine Ev.join (fun G => FT G) (fun G hG => Ev.ret hG) (fun j hj => Ev.dec (fun hgt => ?_) (fun hle => hj _ ⟨by simp only; omega, hb⟩))
  have hsub : sub (F.Window ++ [q]) 1 ((F.Window ++ [q]).length : Int) = some ((F.Window ++ [q]).drop 1) := by
    unfold sub
    rw [if_pos ⟨by omega, by simp; omega, by omega⟩]
    congr 1
    rw [List.take_of_length_le (by simp)]; rfl
  exact Ev.to hsub (hj _ ⟨by simp; omega, fun x hx => hb x (List.mem_of_mem_drop hx)⟩)
theorem cmp_tot (fuel : Nat) (a b : Int) : Tot (cmp_Compare_int fuel a b) := by
  unfold cmp_Compare_int
  have e : ∀ x : Int, cmp_isNaN_int fuel x = some false := fun x => by unfold cmp_isNaN_int; rw [letP_eq, bne_self_eq_false]
  exact Ev.to (e a) (Ev.to (e b) (Ev.iteF rfl (Ev.iteF rfl (Ev.dec (fun _ => Tot.ret) (fun _ => Ev.dec (fun _ => Tot.ret) (fun _ => Tot.ret))))))
theorem before_tot (fuel : Nat) (s : Sensor_) {a b : Int} (ha : byte a) (hb : byte b) : Tot (sampling_Reading_1_2 fuel a b s) := by
  unfold sampling_Reading_1_2
  exact Ev.to (Number_eq fuel _ ha) (Ev.to (Number_eq fuel _ hb) (Ev.bind (cmp_tot fuel _ _) (fun _ _ => Tot.ret)))
theorem upd_facts {l : List Int} {i : Int} {v : Int} (hb : ∀ x ∈ l, byte x) (hv : byte v) : (upd l i v).length = l.length ∧ ∀ x ∈ upd l i v, byte x := by
  refine ⟨by simp [upd], fun x hx => ?_⟩
  rcases List.mem_or_eq_of_mem_set hx with hx | hx
  · exact hb x hx
  · rw [hx]; exact hv
theorem insert_ev {fuel : Nat} (hf : 100 < fuel) (s : Sensor_) {l : List Int} (h5 : l.length ≤ 5) (hb : ∀ x ∈ l, byte x) : Ev (slices_insertionSortCmpFunc_uint8_sampling_Reading_1 fuel l 0 (l.length : Int) s) (fun y => y.length = l.length ∧ ∀ x ∈ y, byte x) := by
  unfold slices_insertionSortCmpFunc_uint8_sampling_Reading_1
  refine Ev.letE (c := 1) (by decide) ?_
  refine Ev.loop (fun (n : Nat) (x : Int × List Int) => x.2.length = l.length ∧ (∀ v ∈ x.2, byte v) ∧ 1 ≤ x.1 ∧ (x.1 + n = l.length ∨ l.length ≤ x.1)) (fun n x hI self hself => ?_) (n := l.length - 1) (by omega) ⟨rfl, hb, by simp, by simp only; omega⟩
  obtain ⟨i, d⟩ := x
  obtain ⟨i1, i2, i3, i4⟩ := hI
  simp only at i1 i2 i3 i4 ⊢
  refine Ev.dec (fun hlt => ?_) (fun _ => Ev.ret ⟨i1, i2⟩)
  have hw : IntKind.i64.wrap (i + 1) = i + 1 := w_i64 (by omega) (by omega)
  refine Ev.loop (fun (n : Nat) (x : Int × List Int) => x.2.length = l.length ∧ (∀ v ∈ x.2, byte v) ∧ x.1 = n ∧ x.1 < l.length) (fun n' x hI2 self2 hself2 => ?_) (n := i.toNat) (by omega) ⟨i1, i2, by simp only; omega, hlt⟩
  obtain ⟨j, e⟩ := x
  obtain ⟨j1, j2, j3, j4⟩ := hI2
  simp only at j1 j2 j3 j4 ⊢
  have hwj : IntKind.i64.wrap (j - 1) = j - 1 := w_i64 (by omega) (by omega)
  rw [hw, hwj]
  refine Ev.join (fun b => b = true → 1 ≤ j) (fun b hb3 => Ev.ite (fun hbt => ?_) (fun _ => Ev.letP (hself (n - 1) _ (by omega) ⟨j1, j2, by simp only; omega, by simp only; omega⟩))) (fun k hk => Ev.letP (Ev.dec (fun hpos => Ev.idx (by omega) (by omega) (fun x8 _ m8 => Ev.idx (by omega) (by omega) (fun x9 _ m9 => Ev.bind (before_tot fuel s (j2 _ m8) (j2 _ m9)) (fun y1 _ => hk _ (fun _ => by omega))))) (fun _ => hk _ (fun h => by cases h))))
  have hj := hb3 hbt
  refine Ev.idx (by omega) (by omega) (fun x2 _ m2 => Ev.idx (by omega) (by omega) (fun x3 _ m3 => ?_))
  obtain ⟨u1, u2⟩ := upd_facts (i := j) j2 (j2 _ m2)
  obtain ⟨v1, v2⟩ := upd_facts (i := j - 1) u2 (j2 _ m3)
  exact Ev.letP (Ev.idx (by omega) (by omega) (fun x4 _ _ => Ev.letP (Ev.letP (hself2 (n' - 1) _ (by omega) ⟨by simp only; omega, v2, by simp only; omega, by simp only; omega⟩))))
theorem copy_ev {fuel : Nat} (hf : 100 < fuel) {l : List Int} (h5 : l.length ≤ 5) : Ev (slices_Collect_uint8_slices_Values_uint8_uint8_1 fuel l) (fun y => y = l) := by
  unfold slices_Collect_uint8_slices_Values_uint8_uint8_1 slices_AppendSeq_uint8_uint8_slices_Values_uint8_uint8_1 slices_Values_uint8_uint8_1_2
  refine Ev.bind (P := fun y => y = l) (Ev.bind (P := fun y => y = l) ?_ (fun y hy => Ev.ret hy)) (fun y hy => Ev.ret hy)
  refine Ev.loop (fun (n : Nat) (x : Int × List Int) => ∃ i : Nat, x.1 = i ∧ i + n = l.length ∧ x.2 = l.take i) (fun n x hI self hself => ?_) (n := l.length) (by omega) ⟨0, rfl, by omega, rfl⟩
  obtain ⟨pos, acc⟩ := x
  obtain ⟨i, i1, i2, i3⟩ := hI
  simp only at i1 i3 ⊢
  subst i1
  refine Ev.dec (fun hlt => Ev.idx (by omega) hlt (fun x1 e1 _ => ?_)) (fun _ => Ev.ret (by rw [i3, List.take_of_length_le (by omega)]))
  have hw : IntKind.i64.wrap ((i : Int) + 1) = ((i + 1 : Nat) : Int) := by rw [w_i64 (by omega) (by omega)]; rfl
  rw [hw]
  refine Ev.bind (P := fun y => y = l.take (i + 1)) (Ev.app (by rw [i3]; simp; omega) (Ev.ret ?_)) (fun y hy => hself (n - 1) _ (by omega) ⟨i + 1, rfl, by omega, hy⟩)
  simp only [Int.toNat_natCast] at e1
  rw [i3, List.take_add_one, e1]; rfl
theorem len_tot (fuel : Nat) {n : Nat} (h : n ≤ 5) : Tot (bits_Len fuel (IntKind.u64.wrap (n : Int))) := by
  obtain rfl | rfl | rfl | rfl | rfl | rfl : n = 0 ∨ n = 1 ∨ n = 2 ∨ n = 3 ∨ n = 4 ∨ n = 5 := by omega
  all_goals exact ⟨_, rfl, trivial⟩
theorem sorted_tot {fuel : Nat} (hf : 100 < fuel) (s : Sensor_) {l : List Int} (h5 : l.length ≤ 5) (hb : ∀ x ∈ l, byte x) : Ev (slices_SortedFunc_uint8_slices_Values_uint8_uint8_1_sampling_Reading_1 fuel l s) (fun y => y.length = l.length ∧ ∀ x ∈ y, byte x) := by
  unfold slices_SortedFunc_uint8_slices_Values_uint8_uint8_1_sampling_Reading_1
  refine Ev.bind (copy_ev hf h5) (fun y1 e1 => ?_)
  subst e1
  refine Ev.bind (P := fun y => y.length = y1.length ∧ ∀ x ∈ y, byte x) ?_ (fun y hy => Ev.ret hy)
  unfold slices_SortFunc_uint8_uint8_sampling_Reading_1
  refine Ev.bind (len_tot fuel h5) (fun y2 _ => Ev.bind (P := fun y => y.length = y1.length ∧ ∀ x ∈ y, byte x) ?_ (fun y hy => Ev.ret hy))
  unfold slices_pdqsortCmpFunc_uint8_sampling_Reading_1
  refine Ev.loop (fun (n : Nat) (x : Unit) => True) (fun n x hI self hself => ?_) (n := 0) (by omega) trivial
  refine Ev.letE (c := (y1.length : Int)) (by rw [w_i64 (by omega) (by omega)]; omega) (Ev.decT (by omega) (Ev.bind (insert_ev hf s h5 hb) (fun y hy => Ev.ret hy)))
theorem reading_tot {fuel : Nat} (hf : 100 < fuel) {n : Int} {s : Sensor_} (h : FS n s) {F : Filter_} (hF : FT F) : Ev (sampling_Reading fuel s F) (fun y => byte y.1) := by
  unfold sampling_Reading
  have hs := h.samples
  refine Ev.bind (sValid_tot hf h F) (fun y1 _ => Ev.join (fun b => b = true ∨ (F.Window.length : Int) = s.Samples) (fun b hb => Ev.ite (fun _ => Ev.ret zbyte) (fun hbf => ?_)) (fun j hj => Ev.ite (fun _ => hj _ (.inl rfl)) (fun _ => hj _ ?_)))
  · rcases hb with hb | hb
    · rw [hb] at hbf; cases hbf
    refine Ev.bind (P := fun y => y = F.Window) (Ev.ret rfl) (fun y2 e2 => ?_)
    subst e2
    refine Ev.bind (sorted_tot hf s hF.1 hF.2) (fun y3 h3 => ?_)
    have hd : IntKind.i64.wrap (Int.tdiv (y3.length : Int) 2) = (y3.length : Int) / 2 := by
      rw [Int.tdiv_eq_ediv_of_nonneg (by omega), w_i64 (by omega) (by omega)]
    rw [hd]
    exact Ev.idx (by omega) (by omega) (fun x _ m => Ev.ret (h3.2 _ m))
  · by_cases e : (F.Window.length : Int) = s.Samples
    · exact .inr e
    · exact .inl (by simpa using e)
def CB (s : Sensor_) (cs : List Change_) : Prop := cs.length ≤ 15 ∧ ∀ c ∈ cs, 0 ≤ c.Index ∧ c.Index < 15 ∧ (s.Discrete = false → c.Index < 6)
theorem dStep_tot {fuel : Nat} (hf : 100 < fuel) {n : Int} {s : Sensor_} (h : FS n s) (hd : s.Discrete = true) (a b : Int) : Ev (discrete_Step fuel s a b) (fun y => CB s y.2.1) := by
  unfold discrete_Step
  have none : CB s [] := ⟨by simp, by simp⟩
  refine Ev.join (fun _ => True) (fun v _ => Ev.ite (fun _ => Ev.ret none) (fun _ => Ev.letP (Ev.ite (fun _ => Ev.ret none) (fun _ => ?_)))) (fun j hj => Ev.ite (fun _ => hj _ trivial) (fun _ => Ev.to (h.valid hf) (Ev.letP (hj _ trivial))))
  refine Ev.loop (fun (n : Nat) (x : Int × List Change_) => ∃ i : Nat, x.1 = i ∧ i + n = 15 ∧ x.2.length ≤ i ∧ ∀ c ∈ x.2, 0 ≤ c.Index ∧ c.Index < 15) (fun n x hI self hself => ?_) (n := 15) (by omega) ⟨0, rfl, rfl, by simp, by simp⟩
  obtain ⟨pos, l⟩ := x
  obtain ⟨i, i1, i2, i3, i4⟩ := hI
  simp only at i1 i3 i4 ⊢
  subst i1
  refine Ev.dec (fun hlt => Ev.chk (by simp) ?_) (fun hge => Ev.ret ⟨by simp only; omega, fun c hc => ⟨(i4 c hc).1, (i4 c hc).2, fun e => by rw [hd] at e; cases e⟩⟩)
  have hw : IntKind.i64.wrap ((i : Int) + 1) = ((i + 1 : Nat) : Int) := by rw [w_i64 (by omega) (by omega)]; rfl
  rw [hw]
  refine Ev.ite (fun _ => Ev.chk (by simp) (Ev.app (by simp; omega) (hself (n - 1) _ (by omega) ⟨i + 1, rfl, by omega, by simp; omega, fun c hc => ?_⟩))) (fun _ => hself (n - 1) _ (by omega) ⟨i + 1, rfl, by omega, by simp only; omega, i4⟩)
  rcases List.mem_append.1 hc with hc | hc
  · exact i4 c hc
  · simp only [List.mem_singleton] at hc; subst hc; exact ⟨by simp, by simp only; omega⟩
theorem mem_upd {α : Type} {P : α → Prop} {l : List α} {i : Int} {v : α} (h : ∀ x ∈ l, P x) (hv : P v) : ∀ x ∈ upd l i v, P x := fun x hx => by
  rcases List.mem_or_eq_of_mem_set hx with hx | hx
  · exact h x hx
  · rw [hx]; exact hv
theorem upd_len {α : Type} (l : List α) (i : Int) (v : α) : (upd l i v).length = l.length := by simp [upd]
theorem mstep_tot {fuel : Nat} (hf : 100 < fuel) {l : List Sensor_} {m : monitor_Monitor} (hm : MT l m) {i : Nat} {n : Int} {s : Sensor_} (hs : l[i]? = some s) (h : FS n s) {x : Sample_} (hx : byte x.Raw) : Ev (monitor_Monitor_step fuel m (i : Int) x) (fun y => CB s y.1 ∧ byte y.2.1 ∧ MT l y.2.2) := by
  unfold monitor_Monitor_step
  obtain ⟨m1, m2, m3, m4, m5⟩ := hm
  have hi := lt_len hs
  refine Ev.to (show idx m.sensors (i : Int) = some s by rw [m1, idx_nat]; exact hs) (Ev.ite (fun hd => ?_) (fun hd => ?_))
  · refine Ev.join (fun v => CB s v.1 ∧ MT l v.2) (fun v hv => Ev.ret ⟨hv.1, zbyte, hv.2⟩) (fun j hj => Ev.ite (fun _ => Ev.idx (by omega) (by omega) (fun x2 _ _ => Ev.bind (dStep_tot hf h hd _ _) (fun y1 h1 => Ev.letP (hj _ ⟨h1, m1, m2, m3, m4, by simp only [upd_len]; exact m5⟩)))) (fun _ => hj _ ⟨⟨by simp, by simp⟩, m1, m2, m3, m4, m5⟩))
  · refine Ev.idx (by omega) (by omega) (fun F _ mF => Ev.bind (sStep_tot hf h (m4 _ mF) hx _) (fun y2 h2 => Ev.letP ?_))
    have q4 : ∀ G ∈ upd m.filters (i : Int) y2.1, FT G := mem_upd m4 h2
    have ql : (upd m.filters (i : Int) y2.1).length = m.filters.length := upd_len _ _ _
    refine Ev.idx (by omega) (by omega) (fun G _ mG => Ev.bind (reading_tot hf h (q4 _ mG)) (fun y3 h3 => Ev.ite (fun _ => Ev.ret ⟨⟨by simp, by simp⟩, zbyte, m1, m2, by simp only [upd_len]; exact m3, q4, m5⟩) (fun _ => Ev.idx (by omega) (by omega) (fun x5 _ _ => ?_))))
    refine Ev.bind (Step_ev hf (h.av hd) (u8_byte x5) h3) (fun y4 h4 => Ev.idx (by omega) (by omega) (fun x6 _ _ => Ev.letP (Ev.ret ⟨⟨by simp only; omega, fun c hc => ?_⟩, h3, m1, m2, by simp only [upd_len]; exact m3, q4, by simp only [upd_len]; exact m5⟩)))
    obtain ⟨k, k1, k2, _⟩ := h4.2.2 c hc
    exact ⟨by omega, by omega, fun _ => by omega⟩
theorem events_tot {fuel : Nat} (hf : 100 < fuel) {n : Int} {s : Sensor_} (h : FS n s) {cs : List Change_} (hc : CB s cs) (v : Int) : Ev (monitor_events fuel s cs v) (fun l => l.length ≤ 15) := by
  unfold monitor_events
  obtain ⟨c1, c2⟩ := hc
  refine Ev.loop (fun (n : Nat) (x : Int × List Event_) => ∃ i : Nat, x.1 = i ∧ i + n = cs.length ∧ x.2.length ≤ i) (fun n x hI self hself => ?_) (n := cs.length) (by omega) ⟨0, rfl, by omega, by simp⟩
  obtain ⟨pos, l⟩ := x
  obtain ⟨i, i1, i2, i3⟩ := hI
  simp only at i1 i3 ⊢
  subst i1
  refine Ev.dec (fun hlt => Ev.idx (by omega) hlt (fun c ce cm => ?_)) (fun hge => Ev.ret (by omega))
  have hw : IntKind.i64.wrap ((i : Int) + 1) = ((i + 1 : Nat) : Int) := by rw [w_i64 (by omega) (by omega)]; rfl
  rw [hw]
  obtain ⟨k1, k2, k3⟩ := c2 c cm
  refine Ev.join (fun _ => True) (fun w _ => Ev.chk (by simpa using k1) (Ev.ite (fun _ => hself (n - 1) _ (by omega) ⟨i + 1, rfl, by omega, by simp only; omega⟩) (fun _ => ?_))) (fun j hj => Ev.ite (fun _ => hj _ trivial) (fun _ => hj _ trivial))
  refine Ev.join (fun _ => True) (fun e _ => Ev.app (by simp; omega) (hself (n - 1) _ (by omega) ⟨i + 1, rfl, by omega, by simp; omega⟩)) (fun j hj => Ev.ite (fun _ => Ev.bind (P := fun _ => True) ?_ (fun _ _ => hj _ trivial)) (fun hd => ?_))
  · unfold event_State
    exact Ev.join (fun _ => True) (fun b _ => Ev.ite (fun _ => Tot.ret) (fun _ => Tot.ret)) (fun j hj => Ev.dec (fun _ => hj _ trivial) (fun _ => hj _ trivial))
  · have k6 := k3 hd
    have h6 := h.lim6.1
    refine Ev.idx k1 (by omega) (fun x3 _ _ => Ev.chk (by rw [h6]; rfl) (Ev.bind (P := fun _ => True) ?_ (fun _ _ => hj _ trivial)))
    unfold event_Threshold
    exact Ev.join (fun b => b = false) (fun b hb => Ev.iteF hb (Ev.idx k1 (by simpa using k6) (fun _ _ _ => Tot.ret))) (fun j hj => Ev.decF (by omega) (hj _ (by simp; omega)))
theorem contains_tot {fuel : Nat} (hf : 100 < fuel) {l : List Entity_} (h : l.length ≤ 10) (e : Entity_) : Tot (slices_Contains_api_Entity_api_Entity fuel l e) := by
  unfold slices_Contains_api_Entity_api_Entity slices_Index_api_Entity_api_Entity
  refine Ev.bind (P := fun _ => True) ?_ (fun _ _ => Ev.letP Tot.ret)
  refine Ev.loop (fun (n : Nat) (x : Int) => ∃ i : Nat, x = i ∧ i + n = l.length) (fun n x hI self hself => ?_) (n := l.length) (by omega) ⟨0, rfl, by omega⟩
  obtain ⟨i, rfl, i2⟩ := hI
  have hw : IntKind.i64.wrap ((i : Int) + 1) = ((i + 1 : Nat) : Int) ∨ 100 < i := by
    by_cases hc : i ≤ 100
    · left; rw [w_i64 (by omega) (by omega)]; rfl
    · right; omega
  refine Ev.dec (fun hlt => Ev.idx (by omega) hlt (fun x _ _ => Ev.ite (fun _ => Tot.ret) (fun _ => ?_))) (fun _ => Tot.ret)
  rcases hw with hw | hw
  · rw [hw]; exact hself (n - 1) _ (by omega) ⟨i + 1, rfl, by omega⟩
  · omega
theorem present_tot {fuel : Nat} (hf : 100 < fuel) {l : List Entity_} (h : l.length ≤ 10) (e : Entity_) : Tot (entity_Present fuel [] l e) := by
  unfold entity_Present
  refine Ev.to (echeck_eq hf) (Ev.bneF rfl (Ev.bind (P := fun _ => True) ?_ (fun _ _ => Tot.ret)))
  unfold entity_present
  have ha : entity_around fuel [] e = some [] := by
    obtain ⟨f, rfl⟩ : ∃ f, fuel = f + 5 := ⟨fuel - 5, by omega⟩
    rfl
  refine Ev.to ha (Ev.app (by simp) (Ev.bind (P := fun _ => True) ?_ (fun _ _ => Ev.letP Tot.ret)))
  unfold slices_ContainsFunc_api_Entity_api_Entity_entity_present_1 slices_IndexFunc_api_Entity_api_Entity_entity_present_1
  refine Ev.bind (P := fun _ => True) ?_ (fun _ _ => Ev.letP Tot.ret)
  refine Ev.loop (fun (n : Nat) (i : Int) => i = 0 ∧ n = 1 ∨ i = 1) (fun n i hI self hself => ?_) (n := 1) (by omega) (.inl ⟨rfl, rfl⟩)
  rcases hI with ⟨rfl, rfl⟩ | rfl
  · refine Ev.decT (by simp) (Ev.to (show idx ([] ++ [e]) 0 = some e from rfl) (Ev.bind (P := fun _ => True) ?_ (fun _ _ => Ev.ite (fun _ => Tot.ret) (fun _ => hself 0 _ (by omega) (.inr rfl)))))
    unfold entity_present_1_2
    exact Ev.bind (contains_tot hf h e) (fun _ _ => Tot.ret)
  · exact Ev.decF (by simp) Tot.ret
theorem mfind_ev {fuel : Nat} (hf : 100 < fuel) {l : List Sensor_} (h : l.length ≤ 5) (v : Int) : Ev (slices_IndexFunc_api_Sensor_api_Sensor_monitor_Monitor_find_1 fuel l v) (fun y => y = -1 ∨ (0 ≤ y ∧ y < l.length)) := by
  unfold slices_IndexFunc_api_Sensor_api_Sensor_monitor_Monitor_find_1
  refine Ev.loop (fun (n : Nat) (x : Int) => ∃ i : Nat, x = i ∧ i + n = l.length) (fun n x hI self hself => ?_) (n := l.length) (by omega) ⟨0, rfl, by omega⟩
  obtain ⟨i, rfl, i2⟩ := hI
  refine Ev.dec (fun hlt => Ev.idx (by omega) hlt (fun x _ _ => Ev.bind (P := fun _ => True) (by unfold monitor_Monitor_find_1_2; exact Ev.letP Tot.ret) (fun _ _ => Ev.ite (fun _ => Ev.ret (.inr ⟨by omega, hlt⟩)) (fun _ => ?_)))) (fun _ => Ev.ret (.inl rfl))
  have hw : IntKind.i64.wrap ((i : Int) + 1) = ((i + 1 : Nat) : Int) := by rw [w_i64 (by omega) (by omega)]; rfl
  rw [hw]; exact hself (n - 1) _ (by omega) ⟨i + 1, rfl, by omega⟩
theorem sfind_ev {fuel : Nat} (hf : 100 < fuel) {l : List Sample_} (h : l.length ≤ 5) (s : Sensor_) : Ev (slices_IndexFunc_api_Sample_api_Sample_monitor_Monitor_Scan_1 fuel l s) (fun y => y = -1 ∨ (0 ≤ y ∧ y < l.length)) := by
  unfold slices_IndexFunc_api_Sample_api_Sample_monitor_Monitor_Scan_1
  refine Ev.loop (fun (n : Nat) (x : Int) => ∃ i : Nat, x = i ∧ i + n = l.length) (fun n x hI self hself => ?_) (n := l.length) (by omega) ⟨0, rfl, by omega⟩
  obtain ⟨i, rfl, i2⟩ := hI
  refine Ev.dec (fun hlt => Ev.idx (by omega) hlt (fun x _ _ => Ev.bind (P := fun _ => True) (by unfold monitor_Monitor_Scan_1_2; exact Ev.letP Tot.ret) (fun _ _ => Ev.ite (fun _ => Ev.ret (.inr ⟨by omega, hlt⟩)) (fun _ => ?_)))) (fun _ => Ev.ret (.inl rfl))
  have hw : IntKind.i64.wrap ((i : Int) + 1) = ((i + 1 : Nat) : Int) := by rw [w_i64 (by omega) (by omega)]; rfl
  rw [hw]; exact hself (n - 1) _ (by omega) ⟨i + 1, rfl, by omega⟩
theorem check_tot {fuel : Nat} (hf : 100 < fuel) {l : List Sensor_} (h5 : l.length ≤ 5) {m : monitor_Monitor} (hm : MT l m) {xs : List Sample_} (hx : xs.length ≤ 5) : Tot (monitor_Monitor_check fuel m xs) := by
  unfold monitor_Monitor_check
  have m1 := hm.1
  refine Ev.loop (fun (n : Nat) (x : Int) => ∃ i : Nat, x = i ∧ i + n = xs.length) (fun n x hI self hself => ?_) (n := xs.length) (by omega) ⟨0, rfl, by omega⟩
  obtain ⟨i, rfl, i2⟩ := hI
  refine Ev.dec (fun hlt => Ev.idx (by omega) hlt (fun x1 _ _ => ?_)) (fun _ => Tot.ret)
  have hw : IntKind.i64.wrap ((i : Int) + 1) = ((i + 1 : Nat) : Int) := by rw [w_i64 (by omega) (by omega)]; rfl
  have hw' : IntKind.i64.wrap ((i : Int) - 1) = (i : Int) - 1 := w_i64 (by omega) (by omega)
  have next : Tot (self ((i + 1 : Nat) : Int)) := hself (n - 1) _ (by omega) ⟨i + 1, rfl, by omega⟩
  rw [hw, hw']
  refine Ev.join (fun _ => True) (fun b _ => Ev.ite (fun _ => Tot.ret) (fun _ => ?_)) (fun j hj => ?_)
  · have hfd : Ev (monitor_Monitor_find fuel m x1.Number) (fun y : Int => y = -1 ∨ (0 ≤ y ∧ y < l.length)) := by unfold monitor_Monitor_find; rw [m1]; exact Ev.bind (mfind_ev hf h5 _) (fun y hy => Ev.ret hy)
    refine Ev.bind hfd (fun y1 h1 => Ev.dec (fun _ => Tot.ret) (fun hpos => Ev.idx (by omega) (by rw [m1]; omega) (fun x2 _ _ => ?_)))
    refine Ev.join (fun _ => True) (fun b _ => Ev.ite (fun _ => Tot.ret) (fun _ => Ev.letP (Ev.ite (fun _ => Tot.ret) (fun _ => next)))) (fun j hj => ?_)
    exact Ev.ite (fun _ => Ev.ite (fun _ => hj _ trivial) (fun _ => Ev.ite (fun _ => Ev.letP (hj _ trivial)) (fun _ => hj _ trivial))) (fun _ => Ev.ite (fun _ => Ev.letP (hj _ trivial)) (fun _ => hj _ trivial))
  · have tail : Ev (iteP (!x1.OK) (iteP (x1.Raw != 0) (j true) (j (x1.States != 0))) (j false)) (fun _ => True) := Ev.ite (fun _ => Ev.ite (fun _ => hj _ trivial) (fun _ => hj _ trivial)) (fun _ => hj _ trivial)
    exact Ev.letP (Ev.dec (fun hpos => Ev.idx (by omega) (by omega) (fun x7 _ _ => Ev.dec (fun _ => hj _ trivial) (fun _ => tail))) (fun _ => tail))
theorem Scan_tot {fuel : Nat} (hf : 100 < fuel) {l : List Sensor_} (hl : SL l) {m : monitor_Monitor} (hm : MT l m) {xs : List Sample_} (hx : xs.length ≤ 5) (hr : ∀ x ∈ xs, byte x.Raw) {es : List Entity_} (he : es.length ≤ 10) (host : Bool) : Ev (monitor_Monitor_Scan fuel m xs es host) (fun y => MT l y.2.2 ∧ y.1.length ≤ 75) := by
  unfold monitor_Monitor_Scan
  have h5 := hl.len
  have m1 := hm.1
  refine Ev.bind (check_tot hf h5 hm hx) (fun y1 _ => Ev.bne (fun _ => Ev.ret ⟨hm, by simp⟩) (fun _ => ?_))
  refine Ev.loop (fun (n : Nat) (x : Int × monitor_Monitor × List Event_) => ∃ i : Nat, x.1 = i ∧ i + n = l.length ∧ MT l x.2.1 ∧ x.2.2.length ≤ 15 * i) (fun n x hI self hself => ?_) (n := l.length) (by omega) ⟨0, rfl, by omega, hm, by simp⟩
  obtain ⟨pos, m', ev⟩ := x
  obtain ⟨i, i1, i2, i3, i4⟩ := hI
  simp only at i1 i3 i4 ⊢
  subst i1
  rw [m1]
  refine Ev.dec (fun hlt => Ev.idx (by omega) hlt (fun s e1 sm => ?_)) (fun hge => Ev.ret ⟨i3, by simp only; omega⟩)
  simp only [Int.toNat_natCast] at e1
  obtain ⟨nn, hb, fs⟩ := hl.ok s sm
  have hw : IntKind.i64.wrap ((i : Int) + 1) = ((i + 1 : Nat) : Int) := by rw [w_i64 (by omega) (by omega)]; rfl
  obtain ⟨q1, q2, q3, q4, q5⟩ := i3
  have hpr : Tot (entity_Present fuel m'.l es s.Entity) := by rw [q2]; exact present_tot hf he _
  rw [hw]
  refine Ev.bind hpr (fun y2 _ => Ev.join (fun _ => True) (fun b _ => Ev.ite (fun _ => ?_) (fun _ => ?_)) (fun j hj => Ev.ite (fun _ => hj _ trivial) (fun _ => Ev.ite (fun _ => hj _ trivial) (fun _ => hj _ trivial))))
  · refine Ev.idx (by omega) (by omega) (fun F _ _ => Ev.letP (hself (n - 1) _ (by omega) ⟨i + 1, rfl, by omega, ⟨q1, q2, by simp only [upd_len]; exact q3, mem_upd q4 FT.z, q5⟩, by simp only; omega⟩))
  · refine Ev.bind (sfind_ev hf hx s) (fun y3 h3 => Ev.join (fun x => byte x.Raw) (fun x hxr => ?_) (fun j hj => Ev.dec (fun hpos => Ev.idx hpos (by omega) (fun x4 _ m4 => hj _ (hr _ m4))) (fun _ => hj _ zbyte)))
    refine Ev.bind (mstep_tot hf ⟨q1, q2, q3, q4, q5⟩ e1 fs hxr) (fun y4 h4 => Ev.bind (events_tot hf fs h4.1 _) (fun y5 h5' => Ev.app (by omega) (hself (n - 1) _ (by omega) ⟨i + 1, rfl, by omega, h4.2.2, by simp; omega⟩)))
end Lift
