import Derived.Test.YtahlmfpllhmjoaaGreatDoorTopb
set_option linter.unusedVariables false
set_option linter.unusedSimpArgs false
namespace Lift
open Go
def Big (fuel : Nat) : Prop := 10000000000 < fuel
theorem in12 {v : Int} (h0 : -1000000000000 ≤ v) (h1 : v ≤ 1000000000000) : clamp v = v := by unfold clamp; omega
theorem factor_eq (fuel : Nat) {v : Int} (h0 : -512 ≤ v) (h1 : v ≤ 511) : convert_factor fuel v = some true := by
  unfold convert_factor
  exact Ev.isTrue (Ev.decT h0 (Ev.letP (Ev.ret (by simpa using h1))))
theorem power_eq (fuel : Nat) {v : Int} (h0 : -3 ≤ v) (h1 : v ≤ 3) : convert_power fuel v = some true := by
  unfold convert_power
  exact Ev.isTrue (Ev.decT h0 (Ev.letP (Ev.ret (by simpa using h1))))
theorem table_eq {fuel : Nat} (hf : 100 < fuel) {c : Conversion_} (h : Tab c.Signed c.Points) : convert_table fuel c = some true := by
  apply Ev.isTrue
  unfold convert_table
  have t2 := h.two
  have t12 := h.top
  refine Ev.join (fun s => s = false) (fun s1 hs1 => Ev.iteF hs1 ?_) (fun j hj => Ev.decF (by omega) (hj _ (by simp; omega)))
  refine Ev.loop (fun (n : Nat) (i : Int) => i + (n : Int) = c.Points.length ∧ 0 ≤ i) (fun n i hI self hself => ?_) (n := c.Points.length) (by omega) ⟨by simp, by simp⟩
  obtain ⟨i1, i2⟩ := hI
  refine Ev.dec (fun hlt => Ev.idx i2 hlt (fun x1 e1 m1 => ?_)) (fun _ => Ev.ret rfl)
  have hw : IntKind.i64.wrap (i + 1) = i + 1 := w_i64 (by omega) (by omega)
  refine Ev.join (fun s => s = false) (fun s3 hs3 => Ev.iteF hs3 (by rw [hw]; exact hself (n - 1) _ (by omega) ⟨by omega, by omega⟩)) (fun j hj => ?_)
  obtain ⟨r1, v1, v2⟩ := h.raw x1 m1
  refine Ev.to (Clamp_eq _ _) (Ev.letE (c := false) (by rw [in12 v1 v2]; simp) (Ev.iteF rfl (Ev.letP (Ev.dec (fun hpos => ?_) (fun _ => hj _ rfl)))))
  rw [w_i64 (show -9223372036854775808 ≤ i - 1 by omega) (by omega)]
  refine Ev.idx (by omega) (by omega) (fun x4 e4 m4 => ?_)
  refine Ev.to (Number_eq fuel c.Signed (h.raw x4 m4).1) (Ev.to (Number_eq fuel c.Signed r1) (hj _ ?_))
  have := h.asc (i - 1).toNat x4 x1 e4 (by rw [show (i - 1).toNat + 1 = i.toNat by omega]; exact e1)
  simp; omega
theorem Valid_eq {fuel : Nat} (hf : 100 < fuel) {c : Conversion_} (h : CV c) : convert_Valid fuel c = some true := by
  apply Ev.isTrue
  unfold convert_Valid
  cases h with
  | lin f0 f1 m0 m1 b0 b1 k0 k1 l0 l1 hp =>
    refine Ev.letP (Ev.join (fun s => s = true) (fun s hs => Ev.iteT hs ?_) (fun j hj => ?_))
    · exact Ev.to (factor_eq fuel m0 m1) (Ev.iteT rfl (Ev.to (factor_eq fuel b0 b1) (Ev.iteT rfl (Ev.to (power_eq fuel k0 k1) (Ev.iteT rfl (Ev.to (power_eq fuel l0 l1) (Ev.iteT rfl (Ev.letP (Ev.ret (by rw [hp]; rfl))))))))))
    · exact Ev.ite (fun h => hj _ h) (fun h1 => Ev.letP (Ev.ite (fun h => hj _ h) (fun h2 => Ev.letP (Ev.ite (fun h => hj _ h) (fun h3 => Ev.letP (hj _ (by simp at h1 h2 h3 ⊢; omega)))))))
  | tab f m b k l hp =>
    refine Ev.letP (Ev.join (fun s => s = false) (fun s hs => Ev.iteF hs ?_) (fun j hj => ?_))
    · exact Ev.letP (Ev.iteT (by simpa using f) (Ev.beqT m (Ev.beqT b (Ev.beqT k (Ev.beqT l (Ev.to (table_eq hf hp) (Ev.ret rfl)))))))
    · exact Ev.beqF (by omega) (Ev.letP (Ev.beqF (by omega) (Ev.letP (Ev.beqF (by omega) (Ev.letP (hj _ (by simp; omega)))))))
theorem ten_tot {fuel : Nat} (hf : 100 < fuel) {n : Int} (h1 : n ≤ 100) : Tot (convert_ten fuel n) := by
  unfold convert_ten
  refine Ev.loop (fun (k : Nat) (s : Int × Int) => 0 ≤ s.2 ∧ (s.2 + (k : Int) = n ∨ n ≤ s.2)) (fun k s hI self hself => ?_) (n := n.toNat) (by omega) ⟨by simp, by simp only; omega⟩
  obtain ⟨i1, i2⟩ := hI
  refine Ev.dec (fun hlt => Ev.letP ?_) (fun _ => Tot.ret)
  rw [w_i64 (show -9223372036854775808 ≤ s.2 + 1 by omega) (by omega)]
  exact hself (k - 1) _ (by omega) ⟨by simp only; omega, by simp only; omega⟩
theorem linear_tot {fuel : Nat} (hf : 100 < fuel) {c : Conversion_} (k0 : -3 ≤ c.K1) (k1 : c.K1 ≤ 3) (l0 : -3 ≤ c.K2) (l1 : c.K2 ≤ 3) (v : Int) : Tot (convert_linear fuel c v) := by
  unfold convert_linear
  rw [w_i64 (show -9223372036854775808 ≤ 6 + c.K2 by omega) (by omega), w_i64 (show -9223372036854775808 ≤ 6 + c.K1 by omega) (by omega), w_i64 (show -9223372036854775808 ≤ 6 + c.K1 + c.K2 by omega) (by omega)]
  exact Ev.bind (ten_tot hf (by omega)) (fun y1 _ => Ev.bind (ten_tot hf (by omega)) (fun y2 _ => Ev.to (Clamp_eq _ _) Tot.ret))
theorem cfloor_tot (fuel : Nat) (a : Int) {b : Int} (h : b ≠ 0) : Tot (convert_floor fuel a b) := by
  unfold convert_floor
  refine Ev.chk (by simpa using h) (Ev.letP (Ev.chk (by simpa using h) (Ev.ite (fun _ => Ev.letP Tot.ret) (fun _ => Tot.ret))))
theorem find_ev {fuel : Nat} (hf : 100 < fuel) {c : Conversion_} (h : Tab c.Signed c.Points) (v : Int) : Ev (slices_IndexFunc_api_Point_api_Point_convert_between_2 fuel c.Points v c) (fun y => y = -1 ∨ (0 ≤ y ∧ y < c.Points.length)) := by
  unfold slices_IndexFunc_api_Point_api_Point_convert_between_2
  have t12 := h.top
  refine Ev.loop (fun (n : Nat) (i : Int) => i + (n : Int) = c.Points.length ∧ 0 ≤ i) (fun n i hI self hself => ?_) (n := c.Points.length) (by omega) ⟨by simp, by simp⟩
  obtain ⟨i1, i2⟩ := hI
  refine Ev.dec (fun hlt => Ev.idx i2 hlt (fun x1 e1 m1 => ?_)) (fun _ => Ev.ret (.inl rfl))
  have hw : IntKind.i64.wrap (i + 1) = i + 1 := w_i64 (by omega) (by omega)
  refine Ev.bind (P := fun _ => True) ?_ (fun y1 _ => Ev.ite (fun _ => Ev.ret (.inr ⟨i2, hlt⟩)) (fun _ => by rw [hw]; exact hself (n - 1) _ (by omega) ⟨by omega, by omega⟩))
  unfold convert_between_2_2
  exact Ev.to (Number_eq fuel _ (h.raw x1 m1).1) (Ev.letP Tot.ret)
theorem at_eq (fuel : Nat) {c : Conversion_} (h : Tab c.Signed c.Points) {i : Int} {p : Point_} (h0 : 0 ≤ i) (e : c.Points[i.toNat]? = some p) : convert_between_1_2 fuel i c = some (num c.Signed p.Raw) := by
  unfold convert_between_1_2
  obtain ⟨n, rfl⟩ := Int.eq_ofNat_of_zero_le h0
  rw [idx_nat, show c.Points[n]? = some p from by simpa using e, bindP_some, Number_eq fuel _ (h.raw p (List.mem_of_getElem? e)).1, bindP_some]
theorem between_tot {fuel : Nat} (hf : 100 < fuel) {c : Conversion_} (h : Tab c.Signed c.Points) (v : Int) : Tot (convert_between fuel c v) := by
  unfold convert_between
  have t2 := h.two
  have t12 := h.top
  refine Ev.bind (find_ev hf h v) (fun y1 h1 => Ev.letP (Ev.dec (fun hneg => ?_) (fun hpos => ?_)))
  · rw [w_i64 (show -9223372036854775808 ≤ (c.Points.length : Int) - 1 by omega) (by omega)]
    exact Ev.idx (by omega) (by omega) (fun x _ _ => Tot.ret)
  · have hy : 0 ≤ y1 ∧ y1 < c.Points.length := by omega
    have hw : IntKind.i64.wrap (y1 - 1) = y1 - 1 := w_i64 (by omega) (by omega)
    refine Ev.join (fun s => s = true ∨ 1 ≤ y1) (fun s hs => Ev.ite (fun _ => Ev.idx hy.1 hy.2 (fun x _ _ => Tot.ret)) (fun hsf => ?_)) (fun j hj => ?_)
    · have hy1 : 1 ≤ y1 := by rcases hs with hs | hs; (rw [hs] at hsf; cases hsf); exact hs
      rw [hw]
      refine Ev.idx (by omega) (by omega) (fun x4 e4 m4 => Ev.idx hy.1 hy.2 (fun x5 e5 m5 => ?_))
      have a1 := at_eq fuel h (show 0 ≤ y1 - 1 by omega) e4
      have a2 := at_eq fuel h hy.1 e5
      refine Ev.to a1 (Ev.to a2 (Ev.to a1 (Ev.bind (cfloor_tot fuel _ ?_) (fun y5 _ => Ev.letP Tot.ret))))
      have hlt := h.asc (y1 - 1).toNat x4 x5 e4 (by rw [show (y1 - 1).toNat + 1 = y1.toNat by omega]; exact e5)
      have b4 := num_bd c.Signed (h.raw x4 m4).1
      have b5 := num_bd c.Signed (h.raw x5 m5).1
      have lb := least_bd c.Signed
      rw [w_i64 (by omega) (by omega)]; omega
    · refine Ev.letP (Ev.beq (fun _ => hj _ (.inl rfl)) (fun hne => ?_))
      obtain ⟨x5, e5, e5', _⟩ := idx_ok hy.1 hy.2
      exact Ev.to (at_eq fuel h hy.1 e5') (Ev.letP (hj _ (.inr (by omega))))
theorem value_tot {fuel : Nat} (hf : Big fuel) {c : Conversion_} (h : CV c) {r : Int} (hr : byte r) : Tot (convert_value fuel c r) := by
  have hf1 : 100 < fuel := by unfold Big at hf; omega
  unfold convert_value
  refine Ev.to (Number_eq fuel _ hr) ?_
  cases h with
  | lin f0 f1 m0 m1 b0 b1 k0 k1 l0 l1 hp =>
    refine Ev.beqF (by omega) (Ev.bind (linear_tot hf1 k0 k1 l0 l1 _) (fun y3 _ => Ev.letP (Ev.ite (fun _ => Ev.bind (Div_tot fuel _ _) (fun _ _ => Tot.ret)) (fun _ => Ev.letP (Ev.ite (fun _ => Ev.bind (Mul_tot (by omega) _ _) (fun _ _ => Tot.ret)) (fun _ => Ev.letP (Ev.ite (fun _ => Ev.bind (Root_tot hf _) (fun _ _ => Tot.ret)) (fun _ => Tot.ret))))))))
  | tab f m b k l hp => exact Ev.beqT f (Ev.bind (between_tot hf1 hp _) (fun _ _ => Tot.ret))
theorem Value_eq {fuel : Nat} (hf : Big fuel) {c : Conversion_} (h : CV c) {r : Int} (hr : byte r) : ∃ y, convert_value fuel c r = some y ∧ convert_Value fuel c r = some y := by
  obtain ⟨y, e⟩ := (value_tot hf h hr).get
  refine ⟨y, e, ?_⟩
  unfold convert_Value
  rw [Valid_eq (by unfold Big at hf; omega) h, bindP_some, Bool.not_true, iteP_false, e, bindP_some]
structure VL (fuel : Nat) (c : Conversion_) (k : Int) (l : List convert_pair) : Prop where
  snd : ∀ p ∈ l, byte p.raw ∧ num c.Signed p.raw < least c.Signed + k ∧ convert_value fuel c p.raw = some (p.value, 0)
  cmp : ∀ r v, byte r → num c.Signed r < least c.Signed + k → convert_value fuel c r = some (v, 0) → ⟨r, v⟩ ∈ l
  asc : ∀ (i j : Nat) p q, l[i]? = some p → l[j]? = some q → i < j → num c.Signed p.raw < num c.Signed q.raw
  len : (l.length : Int) ≤ k
theorem VL.more {fuel : Nat} {c : Conversion_} {k : Int} {l : List convert_pair} (h : VL fuel c k l) {r : Int} {y : Int × Int} (hr : byte r) (hn : num c.Signed r = least c.Signed + k) (e : convert_value fuel c r = some y) : (y.2 = 0 → VL fuel c (k + 1) (l ++ [⟨r, y.1⟩])) ∧ (y.2 ≠ 0 → VL fuel c (k + 1) l) := by
  obtain ⟨s1, s2, s3, s4⟩ := h
  refine ⟨fun h0 => ⟨fun p hp => ?_, fun r' v b' n' e' => ?_, fun i j p q hi hj hij => ?_, by simp; omega⟩, fun h0 => ⟨fun p hp => ?_, fun r' v b' n' e' => ?_, s3, by omega⟩⟩
  · rcases List.mem_append.1 hp with hp | hp
    · obtain ⟨a, b, c⟩ := s1 p hp; exact ⟨a, by omega, c⟩
    · simp at hp; subst hp; exact ⟨hr, by simp only; omega, by rw [e, ← h0]⟩
  · rcases Int.lt_or_le (num c.Signed r') (least c.Signed + k) with hlt | hge
    · exact List.mem_append_left _ (s2 r' v b' hlt e')
    · have : r' = r := num_inj (s := c.Signed) b' hr (by omega)
      subst this
      rw [e] at e'
      obtain rfl := Option.some.inj e'
      simp
  · rcases Nat.lt_or_ge j l.length with hj' | hj'
    · rw [List.getElem?_append_left hj'] at hj
      rw [List.getElem?_append_left (by omega)] at hi
      exact s3 i j p q hi hj hij
    · have hj2 := lt_len hj
      simp at hj2
      have : j = l.length := by omega
      subst this
      rw [List.getElem?_append_left hij] at hi
      simp at hj
      subst hj
      have := (s1 p (List.mem_of_getElem? hi)).2.1
      simp only; omega
  · obtain ⟨a, b, c⟩ := s1 p hp; exact ⟨a, by omega, c⟩
  · rcases Int.lt_or_le (num c.Signed r') (least c.Signed + k) with hlt | hge
    · exact s2 r' v b' hlt e'
    · have : r' = r := num_inj (s := c.Signed) b' hr (by omega)
      subst this
      rw [e] at e'
      obtain rfl := Option.some.inj e'
      exact absurd rfl h0
theorem values_ev {fuel : Nat} (hf : Big fuel) {c : Conversion_} (h : CV c) : Ev (convert_values fuel c) (fun l => VL fuel c 256 l) := by
  have hf1 : 1000 < fuel := by unfold Big at hf; omega
  unfold convert_values
  refine Ev.loop (fun (n : Nat) (s : Int × List convert_pair) => s.1 + (n : Int) = 256 ∧ 0 ≤ s.1 ∧ VL fuel c s.1 s.2) (fun n s hI self hself => ?_) (n := 256) (by omega) ⟨by simp, by simp, ⟨by simp, fun r v b n _ => ?_, by simp, by simp⟩⟩
  · obtain ⟨i1, i2, i3⟩ := hI
    refine Ev.dec (fun hlt => ?_) (fun hge => Ev.ret (by rw [show (256 : Int) = s.1 by omega]; exact i3))
    have hw : IntKind.i64.wrap (s.1 + 1) = s.1 + 1 := w_i64 (by omega) (by omega)
    refine Ev.join (fun r => byte r ∧ num c.Signed r = least c.Signed + s.1) (fun r hr => ?_) (fun j hj => ?_)
    · obtain ⟨y, e⟩ := (value_tot hf h hr.1).get
      have hm := i3.more hr.1 hr.2 e
      have hl := i3.len
      refine Ev.to e (Ev.beq (fun h0 => Ev.app (by simp only [List.length_cons, List.length_nil]; omega) ?_) (fun h0 => ?_))
      · rw [hw]; exact hself (n - 1) _ (by omega) ⟨by simp only; omega, by simp only; omega, hm.1 h0⟩
      · rw [hw]; exact hself (n - 1) _ (by omega) ⟨by simp only; omega, by simp only; omega, hm.2 h0⟩
    · refine Ev.ite (fun hs => Ev.letP (hj _ ?_)) (fun hs => hj _ ?_)
      · rw [w_i64 (show -9223372036854775808 ≤ s.1 + 128 by omega) (by omega), w_u8]
        refine ⟨⟨by omega, by omega⟩, ?_⟩
        rw [hs]; simp only [num, least, if_true, w_i8]; split <;> omega
      · rw [w_u8]
        refine ⟨⟨by omega, by omega⟩, ?_⟩
        rw [hs]; simp [num, least]; omega
  · have := num_bd c.Signed b
    omega
def NoFall (l : List convert_pair) : Prop := ∀ (i : Nat) p q, l[i]? = some p → l[i + 1]? = some q → p.value ≤ q.value
theorem NoFall.le {l : List convert_pair} (h : NoFall l) : ∀ (d i : Nat) p q, l[i]? = some p → l[i + d]? = some q → p.value ≤ q.value
  | 0, i, p, q, hp, hq => by rw [Nat.add_zero, hp] at hq; obtain rfl := Option.some.inj hq; omega
  | d + 1, i, p, q, hp, hq => by
    have hl := lt_len hq
    obtain ⟨m, hm⟩ : ∃ m, l[i + d]? = some m := ⟨_, List.getElem?_eq_getElem (by omega)⟩
    have h1 := h.le d i p m hp hm
    have h2 := h (i + d) m q hm hq
    omega
theorem Direction_ev {fuel : Nat} (hf : Big fuel) {c : Conversion_} (h : CV c) : Ev (convert_Direction fuel c) (fun y => y.2 = 0 ∧ (y.1 = 1 → ∃ l, VL fuel c 256 l ∧ NoFall l)) := by
  have hf1 : 1000 < fuel := by unfold Big at hf; omega
  unfold convert_Direction
  refine Ev.to (Valid_eq (by omega) h) (Ev.iteF rfl (Ev.bind (values_ev hf h) (fun l hl => ?_)))
  have h256 := hl.len
  refine Ev.loop (fun (n : Nat) (s : Bool × Bool × Int) => n + s.2.2.toNat = max 1 l.length ∧ 1 ≤ s.2.2 ∧ (s.2.1 = false → ∀ (i : Nat) p q, (i : Int) + 1 < s.2.2 → l[i]? = some p → l[i + 1]? = some q → p.value ≤ q.value)) (fun n s hI self hself => ?_) (n := l.length - 1) (by omega) ?_
  · obtain ⟨i1, i2, i3⟩ := hI
    refine Ev.dec (fun hlt => ?_) (fun hge => Ev.letP (Ev.not (Ev.ite (fun _ => Ev.letP (Ev.not (Ev.ite (fun _ => Ev.ret ⟨rfl, fun h => by simp at h⟩) (fun _ => Ev.ret ⟨rfl, fun h => by simp at h⟩)))) (fun hf => Ev.ret ⟨rfl, fun _ => ⟨l, hl, fun i p q hp hq => i3 hf i p q (by have := lt_len hq; omega) hp hq⟩⟩))))
    have hw : IntKind.i64.wrap (s.2.2 + 1) = s.2.2 + 1 := w_i64 (by omega) (by omega)
    have hw' : IntKind.i64.wrap (s.2.2 - 1) = s.2.2 - 1 := w_i64 (by omega) (by omega)
    rw [hw, hw']
    refine Ev.join (fun _ => True) (fun s2 _ => Ev.letP (Ev.ite (fun _ => Ev.letP (hself (n - 1) _ (by omega) ⟨by simp only; omega, by simp only; omega, fun h => by cases h⟩)) (fun hfl => ?_))) (fun j hj => Ev.letP (Ev.ite (fun _ => hj _ trivial) (fun _ => Ev.idx (by omega) hlt (fun x8 _ _ => Ev.idx (by omega) (by omega) (fun x9 _ _ => Ev.letP (hj _ trivial))))))
    refine Ev.idx (by omega) hlt (fun x3 e3 _ => Ev.idx (by omega) (by omega) (fun x4 e4 _ => Ev.letP (Ev.letP (hself (n - 1) _ (by omega) ⟨by simp only; omega, by simp only; omega, fun hd i p q hi hp hq => ?_⟩))))
    rcases Int.lt_or_le ((i : Int) + 1) s.2.2 with hc | hc
    · exact i3 hfl i p q hc hp hq
    · have e1 : s.2.2.toNat = i + 1 := by simp only at hi; omega
      have e2 : (s.2.2 - 1).toNat = i := by omega
      rw [e1, hq] at e3
      rw [e2, hp] at e4
      obtain rfl := Option.some.inj e3
      obtain rfl := Option.some.inj e4
      simp at hd; exact hd
  · refine ⟨?_, by simp, fun _ i p q hi => ?_⟩
    · simp only; omega
    · simp only at hi; omega
theorem rising {fuel : Nat} {c : Conversion_} {l : List convert_pair} (hl : VL fuel c 256 l) (hn : NoFall l) {r q v w : Int} (hr : byte r) (hq : byte q) (er : convert_value fuel c r = some (v, 0)) (eq : convert_value fuel c q = some (w, 0)) (h : num c.Signed r ≤ num c.Signed q) : v ≤ w := by
  have br := num_bd c.Signed hr
  have bq := num_bd c.Signed hq
  obtain ⟨i, hi⟩ := List.getElem?_of_mem (hl.cmp r v hr (by omega) er)
  obtain ⟨j, hj⟩ := List.getElem?_of_mem (hl.cmp q w hq (by omega) eq)
  rcases Nat.lt_or_ge j i with hc | hc
  · have := hl.asc j i _ _ hj hi hc
    simp only at this; omega
  · exact hn.le (j - i) i _ _ hi (by rw [show i + (j - i) = j by omega]; exact hj)
end Lift
