import Derived.Test.YtahlmfpllhmjoaaGreatDoorLiftZ
set_option linter.unusedVariables false
set_option linter.unusedSimpArgs false
namespace Lift
open Go Ieee
theorem rootFrom_sq (n : Nat) : ∀ (todo root : Nat), root * root ≤ n → Datum.rootFrom n todo root * Datum.rootFrom n todo root ≤ n
  | 0, root, h => h
  | todo + 1, root, h => by
    simp only [Datum.rootFrom]
    split
    · rename_i hc; exact rootFrom_sq n todo _ hc
    · exact rootFrom_sq n todo _ h
theorem log2_lo {n : Nat} (h : n ≠ 0) : 2 ^ n.log2 ≤ n := Nat.log2_self_le h
theorem log2_hi {n : Nat} : n < 2 ^ (n.log2 + 1) := Nat.lt_log2_self
theorem log2_le {n k : Nat} (h0 : n ≠ 0) (h : n < 2 ^ (k + 1)) : n.log2 ≤ k := by
  rcases Nat.lt_or_ge k n.log2 with hc | hc
  · have h1 := log2_lo h0
    have h2 : 2 ^ (k + 1) ≤ 2 ^ n.log2 := Nat.pow_le_pow_right (by omega) (by omega)
    omega
  · exact hc
theorem cut_even {n drop : Nat} (hd : drop ≤ n.log2 + 2) : n / 2 ^ drop ≤ Toward.even.cut false n drop ∧ Toward.even.cut false n drop ≤ n / 2 ^ drop + 1 := by
  simp only [Toward.cut, Nat.min_eq_left hd, Nat.shiftLeft_eq, Nat.one_mul]
  generalize (decide (2 ^ drop < 2 * (n % 2 ^ drop)) || 2 ^ drop == 2 * (n % 2 ^ drop) && n / 2 ^ drop % 2 == 1) = b
  cases b <;> simp
theorem bin : double.binade = 4503599627370496 := by decide
theorem sgn : double.signWeight = 9223372036854775808 := by decide
theorem infr : double.infRung = 9218868437227405312 := by decide
theorem lst : double.leastPlace = -1074 := by decide
theorem kept_bounds {mag : Nat} (h0 : mag ≠ 0) : 2 ^ 52 ≤ Toward.even.cut false (mag <<< (52 - mag.log2)) (mag.log2 - 52) ∧ Toward.even.cut false (mag <<< (52 - mag.log2)) (mag.log2 - 52) ≤ 2 ^ 53 ∧ Toward.even.cut false (mag <<< (52 - mag.log2)) (mag.log2 - 52) ≤ mag * 2 ^ (52 - mag.log2) / 2 ^ (mag.log2 - 52) + 1 := by
  have hlo := log2_lo h0
  have hhi := log2_hi (n := mag)
  rcases Nat.lt_or_ge mag.log2 53 with hc | hc
  · have e1 : mag.log2 - 52 = 0 := by omega
    have e2 : Toward.even.cut false (mag <<< (52 - mag.log2)) 0 = mag <<< (52 - mag.log2) := by
      simp [Toward.cut, Nat.mod_one]
    rw [e1, e2, Nat.shiftLeft_eq]
    have p1 : 2 ^ mag.log2 * 2 ^ (52 - mag.log2) = 2 ^ 52 := by rw [← Nat.pow_add]; congr 1; omega
    have p2 : 2 ^ (mag.log2 + 1) * 2 ^ (52 - mag.log2) = 2 ^ 53 := by rw [← Nat.pow_add]; congr 1; omega
    have q1 := Nat.mul_le_mul_right (2 ^ (52 - mag.log2)) hlo
    have q2 := Nat.mul_le_mul_right (2 ^ (52 - mag.log2)) (Nat.le_of_lt hhi)
    rw [p1] at q1
    rw [p2] at q2
    refine ⟨q1, q2, ?_⟩
    simp
  · have e1 : 52 - mag.log2 = 0 := by omega
    have e2 : mag <<< 0 = mag := rfl
    rw [e1, e2]
    have hce := cut_even (n := mag) (drop := mag.log2 - 52) (by omega)
    have p1 : 2 ^ mag.log2 = 2 ^ 52 * 2 ^ (mag.log2 - 52) := by rw [← Nat.pow_add]; congr 1; omega
    have p2 : 2 ^ (mag.log2 + 1) = 2 ^ 53 * 2 ^ (mag.log2 - 52) := by rw [← Nat.pow_add]; congr 1; omega
    have hpos : 0 < 2 ^ (mag.log2 - 52) := Nat.two_pow_pos _
    have d1 : 2 ^ 52 ≤ mag / 2 ^ (mag.log2 - 52) := by rw [Nat.le_div_iff_mul_le hpos, ← p1]; exact hlo
    have d2 : mag / 2 ^ (mag.log2 - 52) < 2 ^ 53 := by rw [Nat.div_lt_iff_lt_mul hpos, ← p2]; exact hhi
    refine ⟨by omega, by omega, ?_⟩
    have := hce.2
    simpa using this
theorem read_nearest {mag : Nat} {place : Int} (h0 : mag ≠ 0) (h1 : -1000 ≤ place + mag.log2 - 52) (h2 : place + mag.log2 - 52 ≤ 900) :
    ∃ (m : Nat) (i : Int), double.read (double.nearest false mag place) = .number false m i ∧ 2 ^ 52 ≤ m ∧ m < 2 ^ 53 ∧ place + mag.log2 - 52 ≤ i ∧ i ≤ place + mag.log2 - 51 ∧ (i = place + mag.log2 - 51 → m = 2 ^ 52 ∧ Toward.even.cut false (mag <<< (52 - mag.log2)) (mag.log2 - 52) = 2 ^ 53) := by
  obtain ⟨k1, k2, _⟩ := kept_bounds h0
  have hmax : max (place + (mag.log2 : Int) - (double.fractionBits : Nat)) (-1074) = place + mag.log2 - 52 := by
    have : ((double.fractionBits : Nat) : Int) = 52 := by decide
    rw [this]; omega
  have hn : double.nearest false mag place = ((place + mag.log2 - 52) + 1074).toNat * 4503599627370496 + Toward.even.cut false (mag <<< (52 - mag.log2)) (mag.log2 - 52) := by
    simp only [Format.nearest, h0, if_false, hmax, lst, bin, infr, Format.word, Bool.false_eq_true]
    have e1 : (place - (place + (mag.log2 : Int) - 52)).toNat = 52 - mag.log2 := by omega
    have e2 : (place + (mag.log2 : Int) - 52 - place).toNat = mag.log2 - 52 := by omega
    rw [e1, e2]
    have e3 : (place + (mag.log2 : Int) - 52 - -1074).toNat = ((place + mag.log2 - 52) + 1074).toNat := by omega
    rw [e3]
    apply Nat.min_eq_left
    have : ((place + (mag.log2 : Int) - 52) + 1074).toNat ≤ 1974 := by omega
    omega
  rw [hn]
  generalize hq : Toward.even.cut false (mag <<< (52 - mag.log2)) (mag.log2 - 52) = q at k1 k2
  obtain ⟨t, ht⟩ : ∃ t : Nat, (place + (mag.log2 : Int) - 52) + 1074 = t := ⟨((place + (mag.log2 : Int) - 52) + 1074).toNat, by omega⟩
  rw [ht, Int.toNat_natCast]
  have ht1 : 74 ≤ t := by omega
  have ht2 : t ≤ 1974 := by omega
  have hw : t * 4503599627370496 + q < 9223372036854775808 := by omega
  have r1 : ((t * 4503599627370496 + q) / double.signWeight % 2 == 1) = false := by rw [sgn, Nat.div_eq_of_lt hw]; rfl
  have r2 : (t * 4503599627370496 + q) % double.signWeight = t * 4503599627370496 + q := by rw [sgn]; exact Nat.mod_eq_of_lt hw
  unfold Format.read
  simp only [r1, r2, bin, infr, lst]
  have c1 : ¬ (t * 4503599627370496 + q < 4503599627370496) := by omega
  have c2 : t * 4503599627370496 + q < 9218868437227405312 := by omega
  simp only [c1, c2, if_false, if_true]
  rcases Nat.lt_or_ge q (2 ^ 53) with hc | hc
  · refine ⟨_, _, rfl, ?_, ?_, ?_, ?_, ?_⟩
    all_goals (have e1 : (t * 4503599627370496 + q) % 4503599627370496 = q - 4503599627370496 := by omega)
    all_goals (have e2 : (t * 4503599627370496 + q) / 4503599627370496 = t + 1 := by omega)
    all_goals (try rw [e1]) <;> (try rw [e2])
    · omega
    · omega
    · omega
    · omega
    · intro h; exfalso; omega
  · have hq2 : q = 9007199254740992 := by omega
    refine ⟨_, _, rfl, ?_, ?_, ?_, ?_, ?_⟩
    all_goals (have e1 : (t * 4503599627370496 + q) % 4503599627370496 = 0 := by omega)
    all_goals (have e2 : (t * 4503599627370496 + q) / 4503599627370496 = t + 2 := by omega)
    all_goals (try rw [e1]) <;> (try rw [e2])
    · omega
    · omega
    · omega
    · omega
    · intro h; exact ⟨by omega, by omega⟩
theorem sqrt_ok {n : Int} (h0 : 0 ≤ n) (h1 : n ≤ 1000000000000000000) : ∃ c r, fsqrt (FloatKind.f64.nearest n) = some c ∧ f2i .i64 c = some r ∧ 0 ≤ r ∧ r ≤ 2147483648 := by
  obtain ⟨k, rfl⟩ : ∃ k : Nat, n = k := ⟨n.toNat, by omega⟩
  have hneg : decide ((k : Int) < 0) = false := by simp
  have hnear : FloatKind.f64.nearest (k : Int) = double.nearest false k 0 := by
    simp only [FloatKind.nearest, FloatKind.encode, FloatKind.format, Format.write, hneg, Int.natAbs_natCast]
  by_cases hk0 : k = 0
  · subst hk0
    rw [hnear]
    exact ⟨0, 0, by decide +kernel, by decide +kernel, by omega, by omega⟩
  have hl : k.log2 ≤ 59 := log2_le hk0 (by omega)
  obtain ⟨m, i, hr, m1, m2, i1, i2, i3⟩ := read_nearest (mag := k) (place := 0) hk0 (by omega) (by omega)
  have hi7 : i ≤ 7 := by
    rcases Int.lt_or_le i 8 with h | h
    · omega
    · exfalso
      have e59 : k.log2 = 59 := by omega
      obtain ⟨_, hkk⟩ := i3 (by omega)
      obtain ⟨_, _, k3⟩ := kept_bounds hk0
      rw [hkk, e59] at k3
      simp at k3
      omega
  have hi0 : -52 ≤ i := by omega
  -- the root
  have hm0 : m ≠ 0 := by omega
  have hml : m.log2 = 52 := by
    have a1 := log2_le hm0 (k := 52) (by omega)
    rcases Nat.lt_or_ge m.log2 52 with h | h
    · have := log2_hi (n := m)
      have h2 : 2 ^ (m.log2 + 1) ≤ 2 ^ 52 := Nat.pow_le_pow_right (by omega) (by omega)
      omega
    · omega
  obtain ⟨b, hb, hb1, hb2⟩ : ∃ b : Nat, ((i - 56) % 2).toNat = b ∧ b ≤ 1 ∧ (i - 56 - b) % 2 = 0 := ⟨_, rfl, by omega, by omega⟩
  obtain ⟨w, hw⟩ : ∃ w, Datum.rootFrom (m <<< (56 + b)) ((m <<< (56 + b)).log2 / 2 + 1) 0 = w := ⟨_, rfl⟩
  have hws := rootFrom_sq (m <<< (56 + b)) ((m <<< (56 + b)).log2 / 2 + 1) 0 (Nat.zero_le _)
  rw [hw] at hws
  have hN : m <<< (56 + b) ≤ 2 ^ 110 := by
    rw [Nat.shiftLeft_eq]
    have : 2 ^ (56 + b) ≤ 2 ^ 57 := Nat.pow_le_pow_right (by omega) (by omega)
    calc m * 2 ^ (56 + b) ≤ 2 ^ 53 * 2 ^ 57 := Nat.mul_le_mul (by omega) this
      _ = 2 ^ 110 := by decide
  have hw1 : w ≤ 2 ^ 55 := by
    rcases Nat.lt_or_ge (2 ^ 55) w with h | h
    · exfalso
      have := Nat.mul_le_mul (Nat.succ_le_of_lt h) (Nat.succ_le_of_lt h)
      have e : (2 ^ 55).succ * (2 ^ 55).succ > 2 ^ 110 := by decide
      omega
    · exact h
  obtain ⟨g, hg⟩ : ∃ g, 2 * w + (w * w != m <<< (56 + b)).toNat = g := ⟨_, rfl⟩
  have hg1 : g ≤ 2 ^ 56 + 1 := by
    have : (w * w != m <<< (56 + b)).toNat ≤ 1 := Bool.toNat_le _
    omega
  have hg0 : g ≠ 0 := by
    intro h
    have hw0 : w = 0 := by omega
    have : (w * w != m <<< (56 + b)) = true := by
      rw [hw0]
      have : 0 < m <<< (56 + b) := by rw [Nat.shiftLeft_eq]; exact Nat.mul_pos (by omega) (Nat.two_pow_pos _)
      simp; omega
    rw [this] at hg
    simp at hg; omega
  have hroot : (double.read (double.nearest false k 0)).root (double.fractionBits + 2) = some (.number false g ((i - (56 + b : Nat)) / 2 - 1)) := by
    rw [hr]
    have hfb : double.fractionBits + 2 = 54 := by decide
    rw [hfb]
    simp only [Datum.root, hm0, if_false, Bool.false_eq_true, hml]
    have e0 : 2 * 54 - 52 = 56 := rfl
    rw [e0]
    have e1 : ((i - ((56 : Nat) : Int)) % 2).toNat = b := by rw [← hb]; rfl
    rw [e1, hw, hg]
  have hsq : fsqrt (FloatKind.f64.nearest (k : Int)) = some (double.nearest false g ((i - (56 + b : Nat)) / 2 - 1)) := by
    rw [hnear]
    show ((double.read (double.nearest false k 0)).root (double.fractionBits + 2)).map double.write = _
    rw [hroot]; rfl
  -- back to a whole number
  have hgl : g.log2 ≤ 56 := log2_le hg0 (by omega)
  obtain ⟨p, hp, hp1, hp2⟩ : ∃ p : Int, (i - (56 + b : Nat)) / 2 - 1 = p ∧ -60 ≤ p ∧ p ≤ -26 := ⟨_, rfl, by omega, by omega⟩
  rw [hp] at hsq
  obtain ⟨m', i', hr', a1, a2, a3, a4, a5⟩ := read_nearest (mag := g) (place := p) hg0 (by omega) (by omega)
  refine ⟨_, ((m' / 2 ^ (min (-i').toNat (m'.log2 + 2)) : Nat) : Int), hsq, ?_, Int.natCast_nonneg _, ?_⟩
  · have hdec : FloatKind.f64.decode (double.nearest false g p) = .number false m' i' := hr'
    have hneg' : i'.toNat = 0 := by omega
    have hint : (Datum.number false m' i').toInt .zero = some ((m' / 2 ^ (min (-i').toNat (m'.log2 + 2)) : Nat) : Int) := by
      simp only [Datum.toInt, Datum.integral, hneg', Toward.cut, Nat.shiftLeft_eq, Nat.pow_zero, Nat.mul_one, Nat.one_mul, Bool.toNat_false, Nat.add_zero, signed, Bool.false_eq_true, if_false]
    unfold f2i
    rw [hdec, hint]
    have hle : m' / 2 ^ (min (-i').toNat (m'.log2 + 2)) ≤ m' := Nat.div_le_self _ _
    generalize m' / 2 ^ (min (-i').toNat (m'.log2 + 2)) = z at hle ⊢
    have c1 : IntKind.i64.min ≤ (z : Int) := by
      have : IntKind.i64.min = -9223372036854775808 := by decide
      omega
    have c2 : (z : Int) ≤ IntKind.i64.max := by
      have : IntKind.i64.max = 9223372036854775807 := by decide
      omega
    simp only [c1, c2, and_self, if_true]
  · rcases Nat.le_total (-i').toNat (m'.log2 + 2) with h | h
    · rw [Nat.min_eq_left h]
      have key : m' / 2 ^ (-i').toNat ≤ 2147483648 := by
        rcases Int.lt_or_le (-22) i' with h22 | h22
        · have hi' : i' = -21 := by omega
          have := (a5 (by omega)).1
          rw [hi', this]; decide
        · have h2 : 2 ^ 22 ≤ 2 ^ (-i').toNat := Nat.pow_le_pow_right (by omega) (by omega)
          calc m' / 2 ^ (-i').toNat ≤ m' / 2 ^ 22 := Nat.div_le_div_left h2 (by decide)
            _ ≤ 2147483648 := by omega
      exact Int.ofNat_le.2 key
    · rw [Nat.min_eq_right h]
      have : m' / 2 ^ (m'.log2 + 2) = 0 := by
        apply Nat.div_eq_of_lt
        have h3 := log2_hi (n := m')
        have h4 : 2 ^ (m'.log2 + 1) ≤ 2 ^ (m'.log2 + 2) := Nat.pow_le_pow_right (by omega) (by omega)
        omega
      rw [this]; omega
end Lift
