/- The plain law of ChecksumLinear. uses: crc8 lists sealc sums seals dice linear ev syn8 flips syn32
-/
import Derived.Test.YtnfpldbkpdeeoaaFlips
import Derived.Test.YtnfpldbkpdeeoaaSyn32
namespace Lift
open Go
theorem upd_toI (A : List Nat) (i p : Nat) : upd (toI A) (i : Int) (p : Int) = toI (A.set i p) := by simp [upd, toI, List.map_set]
theorem idx_toI {A : List Nat} {i : Nat} (h : i < A.length) : idx (toI A) (i : Int) = some ((A[i]'h : Nat) : Int) := by rw [idx_nat, toI_get h]
theorem idx_set {A : List Nat} {i p : Nat} (h : i < A.length) : idx (toI (A.set i p)) (i : Int) = some (p : Int) := by
  rw [idx_toI (by simpa using h)]; simp
theorem mk_toI {m : Nat} (h : m ≤ 1000) : mk 1 0 (m : Int) = some (toI (List.replicate m 0)) := by
  have h1 : 0 ≤ (m : Int) ∧ (m : Int).toNat * 1 ≤ 140737488355328 := by constructor <;> omega
  rw [mk, if_pos h1]; simp [toI]
def Fit (A : List Nat) (m : Nat) : Prop := A.length = m ∧ ∀ x ∈ A, x < 256
theorem Fit.set {A : List Nat} {m i p : Nat} (h : Fit A m) (hp : p < 256) : Fit (A.set i p) m :=
  ⟨by simp [h.1], fun x hx => (List.mem_or_eq_of_mem_set hx).elim (h.2 x) (fun e => e ▸ hp)⟩
/-- T is A over B on the first i places. -/
def Over (A B T : List Nat) (i : Nat) : Prop := ∀ j p q, j < i → A[j]? = some p → B[j]? = some q → T[j]? = some (p ^^^ q)
theorem Over.step {A B T : List Nat} {i m p q : Nat} (hA : A.length = m) (hB : B.length = m) (hT : T.length = m) (hi : i < m) (h : Over A B T i) : Over (A.set i p) (B.set i q) (T.set i (p ^^^ q)) (i + 1) := by
  intro j x y hj hx hy
  by_cases e : i = j
  · subst e
    rw [List.getElem?_set_self (by omega)] at hx hy ⊢
    simp at hx hy; subst hx hy; rfl
  · rw [List.getElem?_set_ne e] at hx hy ⊢
    exact h j x y (by omega) hx hy
theorem Over.zip {A B T : List Nat} {m : Nat} (hA : A.length = m) (hB : B.length = m) (hT : T.length = m) (h : Over A B T m) : T = List.zipWith (· ^^^ ·) A B := by
  apply List.ext_getElem?
  intro j
  by_cases hj : j < m
  · have h1 := h j _ _ hj (List.getElem?_eq_getElem (by omega)) (List.getElem?_eq_getElem (by omega))
    rw [h1, List.getElem?_zipWith, List.getElem?_eq_getElem (by omega), List.getElem?_eq_getElem (by omega)]
  · rw [List.getElem?_eq_none (by omega), List.getElem?_eq_none (by simp; omega)]
theorem sum8_of {A : List Nat} {m : Nat} (h : Fit A m) (hm : m ≤ 1000) : checksum_CRC8 6000 (toI A) = some ((cN A 0 : Nat) : Int) := by
  rw [checksum_CRC8_eq (toI_small h.2 (by rw [h.1]; omega)) (by omega)]; congr 1; exact crc8_nat A h.2
theorem sum32_of {A : List Nat} {m : Nat} (h : Fit A m) (hm : m ≤ 1000) : checksum_CRC32 6000 (toI A) = some ((gN A 4294967295 ^^^ 4294967295 : Nat) : Int) := by
  rw [checksum_CRC32_eq (toI_small h.2 (by rw [h.1]; omega)) (by omega), crc32_N h.2]
theorem law01_ChecksumLinear_true (a0 : List Int) (a1 : Int) (o0 : okL (okI .i64) a0) (o1 : okI .i64 a1) : ∃ fuel, law01_ChecksumLinear fuel a0 a1 = some true := by
  refine ⟨6000, Ev.isTrue ?_⟩
  unfold law01_ChecksumLinear
  refine Ev.to (Light_eq _ _) (Ev.not (Ev.dec (fun hl => ?_) (fun _ => Ev.to law01_awake_eq (Ev.ret rfl))))
  obtain ⟨m, hm, _, em⟩ := mod_nat 6000 a1 (m := 100) (by omega) (by omega)
  refine Ev.to (Roll_eq _ _) (Ev.to em (Ev.to (mk_toI (by omega)) (Ev.to (mk_toI (by omega)) (Ev.to (mk_toI (by omega)) (Ev.to (mk_toI (by omega)) (Ev.to (mk_toI (by omega)) ?_))))))
  have hz : Fit (List.replicate m 0) m := ⟨by simp, fun x hx => by rw [List.eq_of_mem_replicate hx]; omega⟩
  refine Ev.loop (fun r (s : Int × made_Dice × List Int × List Int × List Int × List Int × List Int) => ∃ i : Nat, i ≤ m ∧ r = m - i ∧ s.1 = (i : Int) ∧ DOk s.2.1 ∧ ∃ A B C T U : List Nat, s.2.2 = (toI A, toI B, toI C, toI T, toI U) ∧ Fit A m ∧ Fit B m ∧ Fit C m ∧ Fit T m ∧ Fit U m ∧ Over A B T i ∧ Over T C U i)
    (fun r s hi self hself => ?_) (n := m) (by omega) ⟨0, by omega, by omega, rfl, roll_ok (by omega), _, _, _, _, _, rfl, hz, hz, hz, hz, hz, fun j _ _ hj => by omega, fun j _ _ hj => by omega⟩
  obtain ⟨i, hi, hr, e1, hd, A, B, C, T, U, e2, fA, fB, fC, fT, fU, o1, o2⟩ := hi
  obtain ⟨s1, s2, s3⟩ := s
  simp only at e1 e2 hd
  subst e1 e2
  simp only
  refine Ev.dec (fun hlt => ?_) (fun hge => ?_)
  · have him : i < m := by omega
    obtain ⟨x, d1, ex, hx, hd1⟩ := Byte_ok 6000 hd
    obtain ⟨y, d2, ey, hy, hd2⟩ := Byte_ok 6000 hd1
    obtain ⟨z, d3, ez, hz', hd3⟩ := Byte_ok 6000 hd2
    obtain ⟨p, rfl, hp⟩ := nat_of (a := x) (m := 256) hx.1 (by have := hx.2; omega)
    obtain ⟨q, rfl, hq⟩ := nat_of (a := y) (m := 256) hy.1 (by have := hy.2; omega)
    obtain ⟨u, rfl, hu⟩ := nat_of (a := z) (m := 256) hz'.1 (by have := hz'.2; omega)
    have hpq : p ^^^ q < 256 := Nat.xor_lt_two_pow (n := 8) hp hq
    have hpqu : p ^^^ q ^^^ u < 256 := Nat.xor_lt_two_pow (n := 8) hpq hu
    have iA : i < A.length := by rw [fA.1]; exact him
    have iB : i < B.length := by rw [fB.1]; exact him
    have iC : i < C.length := by rw [fC.1]; exact him
    have iT : i < T.length := by rw [fT.1]; exact him
    have iU : i < U.length := by rw [fU.1]; exact him
    refine Ev.to ex (Ev.to ey (Ev.to ez (Ev.to (idx_toI iA) (Ev.letE (upd_toI A i p) (Ev.to (idx_toI iB) (Ev.letE (upd_toI B i q) (Ev.to (idx_toI iC) (Ev.letE (upd_toI C i u) ?_))))))))
    refine Ev.to (idx_set iA) (Ev.to (idx_set iB) (Ev.to (idx_toI iT) (Ev.letE (c := toI (T.set i (p ^^^ q))) (by rw [xor_u8 hp hq, upd_toI]) ?_)))
    refine Ev.to (idx_set iA) (Ev.to (idx_set iB) (Ev.to (idx_set iC) (Ev.to (idx_toI iU) (Ev.letE (c := toI (U.set i (p ^^^ q ^^^ u))) (by rw [xor_u8 hp hq, xor_u8 hpq hu, upd_toI]) ?_))))
    refine Ev.letE (c := ((i + 1 : Nat) : Int)) (by rw [w_i64 (by omega) (by omega)]; omega) ?_
    exact hself (m - (i + 1)) _ (by omega) ⟨i + 1, by omega, rfl, rfl, hd3, _, _, _, _, _, rfl, fA.set hp, fB.set hq, fC.set hu, fT.set hpq, fU.set hpqu, o1.step fA.1 fB.1 fT.1 him, o2.step fT.1 fC.1 fU.1 him⟩
  · have him : i = m := by omega
    subst him
    have eT := o1.zip fA.1 fB.1 fT.1
    have eU := o2.zip fT.1 fC.1 fU.1
    have c8 : cN T 0 = cN A 0 ^^^ cN B 0 := by
      rw [eT]
      have := cN_xor A B 0 0 (by rw [fA.1, fB.1]) fA.2 fB.2 (by omega) (by omega)
      rwa [Nat.xor_self] at this
    have c32 : gN U 4294967295 = gN A 4294967295 ^^^ gN B 4294967295 ^^^ gN C 4294967295 := by
      rw [eU, eT]
      have h1 := gN_xor (List.zipWith (· ^^^ ·) A B) C 0 4294967295 (by rw [← eT, fT.1, fC.1])
      have h2 := gN_xor A B 4294967295 4294967295 (by rw [fA.1, fB.1])
      rw [Nat.xor_self] at h2
      rw [Nat.zero_xor] at h1
      rw [h1, h2]
    have lA := cN_lt A 0 fA.2 (by omega)
    have lB := cN_lt B 0 fB.2 (by omega)
    have gA := gN_lt A 4294967295 fA.2 (by omega)
    have gB := gN_lt B 4294967295 fB.2 (by omega)
    have gC := gN_lt C 4294967295 fC.2 (by omega)
    have tail : ∀ {x : Option Bool}, x = some true → Ev x (fun b => b = true) := fun h => ⟨true, h, rfl⟩
    refine Ev.to (sum8_of fT (by omega)) (Ev.to (sum8_of fA (by omega)) (Ev.to (sum8_of fB (by omega)) (Ev.beqT (by rw [xor_u8 lA lB, c8]) ?_)))
    refine Ev.to (sum32_of fU (by omega)) (Ev.to (sum32_of fA (by omega)) (Ev.to (sum32_of fB (by omega)) (Ev.to (sum32_of fC (by omega)) (Ev.beqT ?_ (Ev.to law01_awake_eq (Ev.ret rfl))))))
    rw [xor_u32 (xl32 gA (by omega)) (xl32 gB (by omega)), xor_u32 (xl32 (xl32 gA (by omega)) (xl32 gB (by omega))) (xl32 gC (by omega)), c32]
    congr 1
    generalize gN A 4294967295 = x
    generalize gN B 4294967295 = y
    generalize gN C 4294967295 = z
    have hx : (x ^^^ 4294967295) ^^^ (y ^^^ 4294967295) = x ^^^ y := by
      rw [Nat.xor_assoc, xlc 4294967295 y 4294967295, Nat.xor_self, Nat.xor_zero]
    rw [hx, Nat.xor_assoc]
end Lift
