/- Turning bits, as the laws of the first chapter do it. No program in sight. -/
import Derived.Test.YtnfpldbkpdeeoaaSyn8
import Derived.Test.YtnfpldbkpdeeoaaSums
import Derived.Test.YtnfpldbkpdeeoaaDice
namespace Lift
open Go
theorem flip_eq (fuel : Nat) {n : List Nat} (h : ∀ x ∈ n, x < 256) (hl : n.length ≤ 5000) {k : Nat} (hk : k < 8 * n.length) : law01_flip fuel (toI n) (k : Int) = some (toI (flipB n k)) := by
  have hi : k / 8 < n.length := by omega
  have e1 : IntKind.i64.wrap (Int.tdiv (k : Int) 8) = ((k / 8 : Nat) : Int) := by
    rw [Int.tdiv_eq_ediv_of_nonneg (by omega), w_i64 (by omega) (by omega)]; omega
  have e2 : IntKind.u64.wrap (Int.tmod (k : Int) 8) = ((k % 8 : Nat) : Int) := by
    rw [Int.tmod_eq_emod_of_nonneg (by omega), w_u64]; omega
  have e3 : decide (0 ≤ ((k % 8 : Nat) : Int)) = true := decide_eq_true (by omega)
  unfold law01_flip
  rw [e1, e2, idx_nat, toI_get hi, bindP_some, e3, chk_true, bindP_some, bindP_some, letP_eq, shr128 ⟨k % 8, by omega⟩, upd_xor h hi (bit_lt k)]; rfl
theorem bit_test : ∀ (a : Fin 256) (t : Fin 8), (Int.tmod (bShr .u8 (a.val : Int) ((7 - t.val : Nat) : Int)) 2 == 1) = decide (a.val / 2 ^ (7 - t.val) % 2 = 1) := by decide +kernel
theorem mod_nat (fuel : Nat) (a : Int) {m : Nat} (h1 : 0 < m) (h2 : m ≤ 1000000) : ∃ k : Nat, k < m ∧ a % (m : Int) = (k : Int) ∧ made_Mod fuel a (m : Int) = some (k : Int) := by
  have e := Mod_eq fuel (a := a) (m := (m : Int)) (by omega) (by omega)
  have l1 := Int.emod_nonneg a (show (m : Int) ≠ 0 by omega)
  have l2 := Int.emod_lt_of_pos a (show (0 : Int) < m by omega)
  obtain ⟨k, hk⟩ : ∃ k : Nat, a % (m : Int) = k := ⟨_, (Int.toNat_of_nonneg l1).symm⟩
  exact ⟨k, by omega, hk, by rw [e, hk]⟩
theorem nat_of {a : Int} {m : Nat} (h1 : 0 ≤ a) (h2 : a < m) : ∃ n : Nat, a = n ∧ n < m := ⟨a.toNat, by omega, by omega⟩
theorem open_five {n : List Nat} (hn : ∀ x ∈ n, x < 256) (hne : n ≠ []) (h : cN n 0 ≠ 0) : (openC (toI n)).2 = 5 := by rw [openC_five hn hne h]
theorem toI_small {n : List Nat} (hn : ∀ x ∈ n, x < 256) (hl : n.length ≤ 5000) : Small (toI n) := ⟨by rw [toI_len]; exact hl, toI_byte hn⟩
theorem ne_nil {n : List Nat} (h : 0 < n.length) : n ≠ [] := by intro e; subst e; simp at h
end Lift
