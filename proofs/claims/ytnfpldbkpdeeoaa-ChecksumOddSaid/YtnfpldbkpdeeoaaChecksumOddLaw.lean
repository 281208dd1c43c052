/- The plain law of ChecksumOdd. uses: crc8 lists sealc sums dice linear ev syn8 flips
-/
import Derived.Test.YtnfpldbkpdeeoaaFlips
namespace Lift
open Go
/-- The parity of the lowest n bits. -/
def par : Nat → Nat → Nat
  | 0, _ => 0
  | n + 1, v => (v % 2 + par n (v / 2)) % 2
theorem par_xor : ∀ (n a b : Nat), par n (a ^^^ b) = (par n a + par n b) % 2
  | 0, _, _ => rfl
  | n + 1, a, b => by
    have e1 : (a ^^^ b) / 2 = a / 2 ^^^ b / 2 := by simpa using @Nat.xor_div_two_pow a b 1
    have e2 : (a ^^^ b) % 2 = (a % 2 + b % 2) % 2 := by
      have : (a ^^^ b) % 2 = a % 2 ^^^ b % 2 := by simpa using @Nat.xor_mod_two_pow a b 1
      rw [this]
      rcases Nat.mod_two_eq_zero_or_one a with h1 | h1 <;> rcases Nat.mod_two_eq_zero_or_one b with h2 | h2 <;> rw [h1, h2] <;> rfl
    simp only [par]
    rw [e1, e2, par_xor n]
    generalize par n (a / 2) = p
    generalize par n (b / 2) = q
    omega
def par8 (v : Nat) : Nat := par 8 v
theorem par8_n8 : ∀ v : Fin 256, par8 (n8 v.val) = par8 v.val := by decide +kernel
theorem par8_xor (a b : Nat) : par8 (a ^^^ b) = (par8 a + par8 b) % 2 := par_xor 8 a b
theorem par8_it : ∀ (k v : Nat), v < 256 → par8 (it n8 k v) = par8 v
  | 0, _, _ => rfl
  | k + 1, v, h => by simp only [it]; rw [par8_n8 ⟨_, it_lt k v h⟩]; exact par8_it k v h
theorem law01_ChecksumOdd_true (a0 a1 : List Int) (o0 : okL (okI .u8) a0) (o1 : okL (okI .i64) a1) : ∃ fuel, law01_ChecksumOdd fuel a0 a1 = some true := by
  refine ⟨6000, Ev.isTrue ?_⟩
  unfold law01_ChecksumOdd
  refine Ev.to (law01_light_eq _ _) (Ev.join (fun s => s = false → ((a0.length : Int) ≤ 2000 ∧ (a1.length : Int) ≤ 40)) (fun s hs => ?_) (fun j hj => ?_))
  · refine Ev.ite (fun _ => Ev.to law01_awake_eq (Ev.ret rfl)) (fun e => ?_)
    obtain ⟨hl, hl1⟩ := hs e
    have hs0 := small_of o0 (by omega)
    obtain ⟨n, en, hn, hlen, hz⟩ := sealed_nat hs0
    refine Ev.to ((SealCRC8_eq hs0 (by omega)).trans (by rw [en])) (Ev.bneF (by rw [toI_len, w_i64 (by omega) (by omega)]; omega) ?_)
    have e8 : ∀ x : List Nat, x.length = n.length → IntKind.i64.wrap (8 * ((toI x).length : Int)) = ((8 * n.length : Nat) : Int) := fun x hx => by rw [toI_len, hx, w_i64 (by omega) (by omega)]; omega
    have hmk : mk 1 false ((8 * n.length : Nat) : Int) = some (List.replicate (8 * n.length) false) := by
      have h1 : 0 ≤ ((8 * n.length : Nat) : Int) ∧ ((8 * n.length : Nat) : Int).toNat * 1 ≤ 140737488355328 := by constructor <;> omega
      rw [mk, if_pos h1]; rfl
    rw [e8 n rfl]
    refine Ev.to hmk ?_
    refine Ev.loop (fun r (s : Int × Int × List Int × List Bool) => ∃ i c : Nat, i ≤ a1.length ∧ r = a1.length - i ∧ c ≤ i ∧ s.1 = (c : Int) ∧ s.2.1 = (i : Int) ∧ s.2.2.2.length = 8 * n.length ∧ ∃ x : List Nat, s.2.2.1 = toI x ∧ (∀ y ∈ x, y < 256) ∧ x.length = n.length ∧ par8 (cN x 0) = c % 2 ∧ (c = 0 → cN x 0 = 0))
      (fun r s hi self hself => ?_) (n := a1.length) (by omega) ⟨0, 0, by omega, by omega, by omega, rfl, rfl, by simp, n, rfl, hn, rfl, by rw [hz]; rfl, fun _ => hz⟩
    obtain ⟨i, c, hi, hr, hci, e1, e2, h4, x, e3, hx, hxl, hp, h0⟩ := hi
    obtain ⟨s1, s2, s3, s4⟩ := s
    simp only at e1 e2 e3 h4
    subst e1 e2 e3
    simp only
    have ewi : IntKind.i64.wrap ((i : Int) + 1) = ((i + 1 : Nat) : Int) := by rw [w_i64 (by omega) (by omega)]; omega
    refine Ev.dec (fun hlt => ?_) (fun hge => ?_)
    · have hil : i < a1.length := by omega
      rw [e8 x hxl, ewi]
      obtain ⟨k, hk, _, ek⟩ := mod_nat 6000 (a1[i]'hil) (m := 8 * n.length) (by omega) (by omega)
      refine Ev.to (a := a1[i]'hil) (by rw [idx_nat]; simp) (Ev.to ek ?_)
      have hk4 : k < s4.length := by omega
      refine Ev.to (a := s4[k]'hk4) (by rw [idx_nat]; simp) (Ev.not (Ev.ite (fun _ => ?_) (fun _ => ?_)))
      · exact Ev.letP (hself (a1.length - (i + 1)) _ (by omega) ⟨i + 1, c, by omega, rfl, by omega, rfl, rfl, h4, x, rfl, hx, hxl, hp, h0⟩)
      · have ewc : IntKind.i64.wrap ((c : Int) + 1) = ((c + 1 : Nat) : Int) := by rw [w_i64 (by omega) (by omega)]; omega
        refine Ev.to (a := s4[k]'hk4) (by rw [idx_nat]; simp) (Ev.letP (Ev.letP ?_))
        rw [ewc]
        refine Ev.to (flip_eq 6000 hx (by omega) (by omega)) (Ev.letP ?_)
        refine hself (a1.length - (i + 1)) _ (by omega) ⟨i + 1, c + 1, by omega, rfl, by omega, rfl, rfl, by simp [upd, h4], flipB x k, rfl, flipB_lt hx, by rw [flipB_len, hxl], ?_, fun h => by omega⟩
        rw [cN_flip hx (by omega), par8_xor, hp, par8_it _ _ (by omega), show par8 128 = 1 from rfl]; omega
    · refine Ev.to (OpenCRC8_eq (toI_small hx (by omega)) (by omega)) (Ev.beq (fun hc => ?_) (fun hc => ?_))
      · have hc0 : c = 0 := by omega
        have hok := openC_zero hx (ne_nil (by omega)) (h0 hc0)
        refine Ev.join (fun s => s = true) (fun s hs => Ev.ret hs) (fun j2 hj2 => Ev.beqT hok (Ev.to law01_awake_eq (hj2 _ rfl)))
      · have etm : Int.tmod (c : Int) 2 = ((c % 2 : Nat) : Int) := by rw [Int.tmod_eq_emod_of_nonneg (by omega)]; omega
        rw [etm]
        refine Ev.beq (fun _ => Ev.to law01_awake_eq (Ev.ret rfl)) (fun hodd => ?_)
        have h5 := open_five hx (ne_nil (by omega)) (fun hz0 => by rw [hz0] at hp; have : par8 0 = 0 := rfl; omega)
        exact Ev.beqT h5 (Ev.to law01_awake_eq (Ev.ret rfl))
  · refine Ev.not (Ev.dec (fun h => hj _ (fun e => ⟨h, by simpa using e⟩)) (fun h => hj _ (fun e => by cases e)))
end Lift
