/- Bits of bytes, numbers modulo others, sealed lists: what the laws share. No program in sight. -/
import Derived.Test.YtmjilnfeddaekaaSyn8
import Derived.Test.YtmjilnfeddaekaaDice
namespace Lift
open Go
theorem bit_test : ∀ (a : Fin 256) (t : Fin 8), (Int.tmod (bShr .u8 (a.val : Int) ((7 - t.val : Nat) : Int)) 2 == 1) = decide (a.val / 2 ^ (7 - t.val) % 2 = 1) := by decide +kernel
theorem mod_nat (fuel : Nat) (a : Int) {m : Nat} (h1 : 0 < m) (h2 : m ≤ 1000000) : ∃ k : Nat, k < m ∧ a % (m : Int) = (k : Int) ∧ made_Mod fuel a (m : Int) = some (k : Int) := by
  have e := Mod_eq fuel (a := a) (m := (m : Int)) (by omega) (by omega)
  have l1 := Int.emod_nonneg a (show (m : Int) ≠ 0 by omega)
  have l2 := Int.emod_lt_of_pos a (show (0 : Int) < m by omega)
  obtain ⟨k, hk⟩ : ∃ k : Nat, a % (m : Int) = k := ⟨_, (Int.toNat_of_nonneg l1).symm⟩
  exact ⟨k, by omega, hk, by rw [e, hk]⟩
theorem nat_of {a : Int} {m : Nat} (h1 : 0 ≤ a) (h2 : a < m) : ∃ n : Nat, a = n ∧ n < m := ⟨a.toNat, by omega, by omega⟩
theorem open_five {n : List Nat} (hn : ∀ x ∈ n, x < 256) (hne : n ≠ []) (h : cN n 0 ≠ 0) : (openC (toI n)).2 = 5 := by rw [openC_five hn hne h]
theorem toI_small {n : List Nat} (hn : ∀ x ∈ n, x < 256) (hl : n.length ≤ 5000) : Small (toI n) := ⟨by rw [toI_len]; exact hl, toI_byte hn⟩
theorem ne_nil {n : List Nat} (h : 0 < n.length) : n ≠ [] := by intro e; subst e; simp at h
end Lift
