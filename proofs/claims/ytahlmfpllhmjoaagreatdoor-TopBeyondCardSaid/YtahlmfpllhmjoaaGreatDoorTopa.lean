import Derived.Test.YtahlmfpllhmjoaaGreatDoorPlain
import Derived.Test.YtahlmfpllhmjoaaGreatDoorEv
import Derived.Test.YtahlmfpllhmjoaaGreatDoorTopf
set_option linter.unusedVariables false
set_option linter.unusedSimpArgs false
namespace Lift
open Go
def Tot {α : Type} (x : Option α) : Prop := Ev x (fun _ => True)
theorem Tot.ret {α : Type} {a : α} : Tot (some a) := Ev.ret trivial
theorem Tot.get {α : Type} {x : Option α} (h : Tot x) : ∃ a, x = some a := let ⟨a, e, _⟩ := h; ⟨a, e⟩
theorem app_ok {α : Type} {b : Nat} {l m : List α} (h : (l.length + m.length) * b ≤ 140737488355328) : app b l m = some (l ++ m) := by simp [app, h]
def clamp (a : Int) : Int := max (-1000000000000) (min a 1000000000000)
theorem clamp_bd (a : Int) : -1000000000000 ≤ clamp a ∧ clamp a ≤ 1000000000000 := by unfold clamp; omega
theorem Clamp_eq (fuel : Nat) (a : Int) : micro_Clamp fuel a = some (clamp a) := rfl
theorem and32 {a : Int} (h0 : 0 ≤ a) (h1 : a < 18446744073709551616) : bAnd .u64 a 4294967295 = a % 4294967296 := by
  obtain ⟨n, rfl⟩ : ∃ n : Nat, a = n := ⟨a.toNat, by omega⟩
  have e := bAnd_nat (q := .u64) (a := n) (b := 4294967295) (w := 64) (by decide) (fun m hm => by rw [w_u64]; omega) (by omega) (by decide)
  rw [show ((4294967295 : Nat) : Int) = 4294967295 from rfl] at e
  rw [e]
  have := Nat.and_two_pow_sub_one_eq_mod n 32
  rw [show (4294967295 : Nat) = 2 ^ 32 - 1 from rfl, this]
  omega
theorem shr32 {a : Int} (h0 : 0 ≤ a) : bShr .u64 a 32 = a / 4294967296 := by
  simp only [bShr]
  have : (2 : Int) ^ (min (32 : Int).toNat IntKind.u64.bits) = 4294967296 := by decide
  rw [this, Int.fdiv_eq_ediv_of_nonneg _ (by omega)]
theorem mul_bd {a b A B : Int} (ha : 0 ≤ a) (hA : a ≤ A) (hb : 0 ≤ b) (hB : b ≤ B) : 0 ≤ a * b ∧ a * b ≤ A * B :=
  ⟨Int.mul_nonneg ha hb, Int.mul_le_mul hA hB hb (by omega)⟩
theorem Mul64_ok (fuel : Nat) {a b : Int} (ha : 0 ≤ a) (hA : a ≤ 1000000000000) (hb : 0 ≤ b) (hB : b ≤ 1000000000000) : Ev (bits_Mul64 fuel a b) (fun y => 0 ≤ y.1 ∧ y.1 < 1000000 ∧ 0 ≤ y.2 ∧ y.2 < 18446744073709551616) := by
  unfold bits_Mul64
  rw [and32 ha (by omega), and32 hb (by omega), shr32 ha, shr32 hb]
  have hal : 0 ≤ a % 4294967296 ∧ a % 4294967296 < 4294967296 := by omega
  have hbl : 0 ≤ b % 4294967296 ∧ b % 4294967296 < 4294967296 := by omega
  have hah : 0 ≤ a / 4294967296 ∧ a / 4294967296 ≤ 232 := by omega
  have hbh : 0 ≤ b / 4294967296 ∧ b / 4294967296 ≤ 232 := by omega
  generalize a % 4294967296 = al at hal ⊢
  generalize b % 4294967296 = bl at hbl ⊢
  generalize a / 4294967296 = ah at hah ⊢
  generalize b / 4294967296 = bh at hbh ⊢
  have m1 := mul_bd hah.1 hah.2 hbl.1 (show bl ≤ 4294967295 by omega)
  have m2 := mul_bd hal.1 (show al ≤ 4294967295 by omega) hbh.1 hbh.2
  have m3 := mul_bd hah.1 hah.2 hbh.1 hbh.2
  refine Ev.letP (Ev.letP (Ev.letP (Ev.letP (Ev.letP (Ev.letP (Ev.letP (Ev.letP (Ev.ret ?_))))))))
  simp only [w_u64]
  have q0 : 0 ≤ al * bl % 18446744073709551616 ∧ al * bl % 18446744073709551616 < 18446744073709551616 := by omega
  generalize al * bl % 18446744073709551616 = x3 at q0 ⊢
  rw [shr32 q0.1]
  generalize ah * bl = p1 at m1 ⊢
  generalize al * bh = p2 at m2 ⊢
  generalize ah * bh = p3 at m3 ⊢
  rw [and32 (by omega) (by omega)]
  rw [shr32 (by omega), shr32 (by omega)]
  omega
theorem Div64_ok {fuel : Nat} (hf : 10 < fuel) {hi lo : Int} (h0 : 0 ≤ hi) (h1 : hi < 1000000) : Tot (bits_Div64 fuel hi lo 1000000) := by
  unfold bits_Div64
  refine Ev.beqF (by decide) (Ev.decF (by omega) (Ev.beq (fun _ => Ev.chk (by decide) (Ev.chk (by decide) Tot.ret)) (fun _ => ?_)))
  have hlz : bits_LeadingZeros64 fuel 1000000 = some 44 := rfl
  refine Ev.to hlz (Ev.chk (by decide) (Ev.letE (c := 17592186044416000000) (by decide) ?_))
  refine Ev.letP (Ev.chk (by decide) (Ev.chk (by decide) (Ev.letP (Ev.chk (by decide) (Ev.letP (Ev.letP (Ev.chk (by decide) (Ev.letP (Ev.letP ?_)))))))))
  have hsh : bShr .u64 17592186044416000000 32 = 4096000000 := by decide
  rw [hsh]
  have loop : ∀ (n : Nat) (s : Int), 0 ≤ s → s < 18446744073709551616 → (n = 3 ∨ (n = 2 ∧ s < 4294967296) ∨ (n = 1 ∧ 4096000000 ≤ s ∧ s < 4294967296)) → ¬ IntKind.u64.wrap (s + 4096000000) ≥ 4294967296 → ∃ m, m < n ∧ 0 ≤ IntKind.u64.wrap (s + 4096000000) ∧ IntKind.u64.wrap (s + 4096000000) < 18446744073709551616 ∧ (m = 3 ∨ (m = 2 ∧ IntKind.u64.wrap (s + 4096000000) < 4294967296) ∨ (m = 1 ∧ 4096000000 ≤ IntKind.u64.wrap (s + 4096000000) ∧ IntKind.u64.wrap (s + 4096000000) < 4294967296)) := by
    intro n s a b c d
    rw [w_u64] at d ⊢
    rcases c with rfl | ⟨rfl, c⟩ | ⟨rfl, c⟩
    · exact ⟨2, by omega, by omega, by omega, .inr (.inl ⟨rfl, by omega⟩)⟩
    · exact ⟨1, by omega, by omega, by omega, .inr (.inr ⟨rfl, by omega, by omega⟩)⟩
    · omega
  have wr : ∀ z : Int, 0 ≤ IntKind.u64.wrap z ∧ IntKind.u64.wrap z < 18446744073709551616 := fun z => by rw [w_u64]; omega
  refine Ev.join (fun _ => True) (fun s1 _ => ?_) (fun j1 hj1 => ?_)
  · refine Ev.letP (Ev.chk (by decide) (Ev.letP (Ev.letP ?_)))
    refine Ev.join (fun _ => True) (fun s2 _ => Ev.chk (by decide) (Ev.letP (Ev.letP Tot.ret))) (fun j2 hj2 => ?_)
    refine Ev.loop (fun n (s : Int × Int) => 0 ≤ s.1 ∧ s.1 < 18446744073709551616 ∧ (n = 3 ∨ (n = 2 ∧ s.1 < 4294967296) ∨ (n = 1 ∧ 4096000000 ≤ s.1 ∧ s.1 < 4294967296))) (fun n s hI self hself => ?_) (n := 3) (by omega) ⟨(wr _).1, (wr _).2, .inl rfl⟩
    refine Ev.join (fun _ => True) (fun s4 _ => Ev.ite (fun _ => Ev.letP (Ev.letP (Ev.dec (fun _ => hj2 _ trivial) (fun h => ?_)))) (fun _ => hj2 _ trivial)) (fun j3 hj3 => Ev.dec (fun _ => hj3 _ trivial) (fun _ => hj3 _ trivial))
    obtain ⟨m, hm, k1, k2, k3⟩ := loop n s.1 hI.1 hI.2.1 hI.2.2 h
    exact hself m _ hm ⟨k1, k2, k3⟩
  · refine Ev.loop (fun n (s : Int × Int) => 0 ≤ s.2 ∧ s.2 < 18446744073709551616 ∧ (n = 3 ∨ (n = 2 ∧ s.2 < 4294967296) ∨ (n = 1 ∧ 4096000000 ≤ s.2 ∧ s.2 < 4294967296))) (fun n s hI self hself => ?_) (n := 3) (by omega) ⟨(wr _).1, (wr _).2, .inl rfl⟩
    refine Ev.join (fun _ => True) (fun s4 _ => Ev.ite (fun _ => Ev.letP (Ev.letP (Ev.dec (fun _ => hj1 _ trivial) (fun h => ?_)))) (fun _ => hj1 _ trivial)) (fun j3 hj3 => Ev.dec (fun _ => hj3 _ trivial) (fun _ => hj3 _ trivial))
    obtain ⟨m, hm, k1, k2, k3⟩ := loop n s.2 hI.1 hI.2.1 hI.2.2 h
    exact hself m _ hm ⟨k1, k2, k3⟩
theorem size_ok (fuel : Nat) {a : Int} (h0 : -1000000000000 ≤ a) (h1 : a ≤ 1000000000000) : Ev (micro_size fuel a) (fun y => 0 ≤ y ∧ y ≤ 1000000000000) := by
  unfold micro_size
  refine Ev.letP (Ev.ret ?_)
  rw [w_i64 (by omega) (by omega), w_u64]
  omega
theorem Mul_tot {fuel : Nat} (hf : 10 < fuel) (a b : Int) : Tot (micro_Mul fuel a b) := by
  unfold micro_Mul
  have ha := clamp_bd a
  have hb := clamp_bd b
  refine Ev.to (Clamp_eq _ _) (Ev.to (Clamp_eq _ _) (Ev.bind (size_ok fuel ha.1 ha.2) (fun y3 h3 => Ev.bind (size_ok fuel hb.1 hb.2) (fun y4 h4 => Ev.bind (Mul64_ok fuel h3.1 h3.2 h4.1 h4.2) (fun y5 h5 => Ev.bind (Div64_ok hf h5.1 h5.2.1) (fun y6 _ => ?_))))))
  exact Ev.ite (fun _ => Ev.to (Clamp_eq _ _) Tot.ret) (fun _ => Ev.dec (fun _ => Ev.letP (Ev.to (Clamp_eq _ _) Tot.ret)) (fun _ => Ev.to (Clamp_eq _ _) Tot.ret))
theorem mfloor_tot (fuel : Nat) (a : Int) {b : Int} (h : b ≠ 0) : Tot (micro_floor fuel a b) := by
  unfold micro_floor
  refine Ev.chk (by simpa using h) (Ev.letP (Ev.chk (by simpa using h) (Ev.join (fun _ => True) (fun s _ => Ev.ite (fun _ => Ev.letP Tot.ret) (fun _ => Tot.ret)) (fun j hj => Ev.bne (fun _ => hj _ trivial) (fun _ => hj _ trivial)))))
theorem Div_tot (fuel : Nat) (a b : Int) : Tot (micro_Div fuel a b) := by
  unfold micro_Div
  refine Ev.to (Clamp_eq _ _) (Ev.to (Clamp_eq _ _) (Ev.beq (fun _ => Tot.ret) (fun hne => ?_)))
  exact Ev.bind (mfloor_tot fuel _ hne) (fun y3 _ => Ev.to (Clamp_eq _ _) Tot.ret)
theorem sq_le {a b : Int} (h0 : 0 ≤ a) (h : a ≤ b) : a * a ≤ b * b := Int.mul_le_mul h h h0 (by omega)
theorem Root_tot {fuel : Nat} (hf : 10000000000 < fuel) (a : Int) : Tot (micro_Root fuel a) := by
  unfold micro_Root
  have ha := clamp_bd a
  refine Ev.to (Clamp_eq _ _) (Ev.dec (fun _ => Tot.ret) (fun hneg => ?_))
  refine Ev.letE (c := clamp a * 1000000) (w_i64 (by omega) (by omega)) ?_
  generalize hx : clamp a * 1000000 = x
  have hx0 : 0 ≤ x := by omega
  have hx1 : x ≤ 1000000000000000000 := by omega
  obtain ⟨c, r, e1, e2, r0, r1⟩ := sqrt_ok hx0 hx1
  have hs : math_Sqrt fuel (FloatKind.f64.nearest x) = some c := by unfold math_Sqrt; rw [e1]; rfl
  refine Ev.to hs (Ev.to e2 ?_)
  refine Ev.loop (fun n (s : Int) => 0 ≤ s ∧ s ≤ 2147483648 ∧ s = (n : Int)) (fun n s hI self hself => ?_) (n := r.toNat) (by omega) ⟨r0, r1, by omega⟩
  have hs2 := sq_le hI.1 hI.2.1
  have hs0 : 0 ≤ s * s := Int.mul_nonneg hI.1 hI.1
  rw [w_i64 (show -9223372036854775808 ≤ s * s by omega) (by omega)]
  refine Ev.dec (fun hgt => ?_) (fun hle => ?_)
  · have hs1 : 0 < s := by
      rcases Int.lt_or_le 0 s with h | h
      · exact h
      · exfalso
        have : s = 0 := by omega
        subst this; omega
    exact Ev.letE (c := s - 1) (w_i64 (by omega) (by omega)) (hself (n - 1) _ (by omega) ⟨by omega, by omega, by omega⟩)
  · refine Ev.loop (fun n (s : Int) => 0 ≤ s ∧ s * s ≤ x ∧ s + (n : Int) = 1000000001) (fun n s hI self hself => ?_) (n := 1000000001 - s.toNat) (by omega) ⟨hI.1, by omega, ?_⟩
    · obtain ⟨i0, i1, i2⟩ := hI
      have hb : s ≤ 1000000000 := by
        rcases Int.lt_or_le 1000000000 s with h | h
        · exfalso
          have := sq_le (show (0 : Int) ≤ 1000000001 by omega) (show 1000000001 ≤ s by omega)
          omega
        · exact h
      have e : IntKind.i64.wrap (s + 1) = s + 1 := w_i64 (by omega) (by omega)
      have hq := sq_le (show 0 ≤ s + 1 by omega) (show s + 1 ≤ 1000000001 by omega)
      have hq0 : 0 ≤ (s + 1) * (s + 1) := Int.mul_nonneg (by omega) (by omega)
      simp only [e, w_i64 (show -9223372036854775808 ≤ (s + 1) * (s + 1) by omega) (show (s + 1) * (s + 1) ≤ 9223372036854775807 by omega)]
      refine Ev.dec (fun hle => Ev.letP (hself (n - 1) _ ?_ ⟨by omega, hle, ?_⟩)) (fun _ => Tot.ret)
      · have : s + 1 ≤ 1000000000 := by
          rcases Int.lt_or_le 1000000000 (s + 1) with h | h
          · exfalso
            have := sq_le (show (0 : Int) ≤ 1000000001 by omega) (show 1000000001 ≤ s + 1 by omega)
            omega
          · exact h
        omega
      · have : s + 1 ≤ 1000000000 := by
          rcases Int.lt_or_le 1000000000 (s + 1) with h | h
          · exfalso
            have := sq_le (show (0 : Int) ≤ 1000000001 by omega) (show 1000000001 ≤ s + 1 by omega)
            omega
          · exact h
        omega
    · have : s ≤ 1000000000 := by
        rcases Int.lt_or_le 1000000000 s with h | h
        · exfalso
          have := sq_le (show (0 : Int) ≤ 1000000001 by omega) (show 1000000001 ≤ s by omega)
          omega
        · exact h
      omega
end Lift
