/- The plain law of ChecksumPairs. uses: crc8 lists sealc sums dice linear ev syn8 flips
-/
import Derived.Test.YtnfpldbkpdeeoaaFlips
namespace Lift
open Go
theorem pairs_fin : ∀ d : Fin 126, it n8 (d.val + 1) 128 ≠ 128 := by decide +kernel
theorem law01_ChecksumPairs_true (a0 : List Int) (a1 a2 : Int) (o0 : okL (okI .u8) a0) (o1 : okI .i64 a1) (o2 : okI .i64 a2) : ∃ fuel, law01_ChecksumPairs fuel a0 a1 a2 = some true := by
  refine ⟨6000, Ev.isTrue ?_⟩
  unfold law01_ChecksumPairs
  refine Ev.to (law01_light_eq _ _) (Ev.not (Ev.dec (fun hl => ?_) (fun _ => Ev.to law01_awake_eq (Ev.ret rfl))))
  have hs0 := small_of o0 (by omega)
  obtain ⟨n, en, hn, hlen, hz⟩ := sealed_nat hs0
  refine Ev.to ((SealCRC8_eq hs0 (by omega)).trans (by rw [en])) (Ev.bneF (by rw [toI_len, w_i64 (by omega) (by omega)]; omega) ?_)
  have e8 : IntKind.i64.wrap (8 * ((toI n).length : Int)) = ((8 * n.length : Nat) : Int) := by rw [toI_len, w_i64 (by omega) (by omega)]; omega
  have em : min 126 (IntKind.i64.wrap (((8 * n.length : Nat) : Int) - 1)) = ((min 126 (8 * n.length - 1) : Nat) : Int) := by
    rw [w_i64 (by omega) (by omega)]; omega
  rw [e8, em]
  obtain ⟨d, hd, _, ed⟩ := mod_nat 6000 a2 (m := min 126 (8 * n.length - 1)) (by omega) (by omega)
  refine Ev.to ed (Ev.letE (c := ((d + 1 : Nat) : Int)) (by rw [w_i64 (by omega) (by omega)]; omega) ?_)
  have em2 : IntKind.i64.wrap (((8 * n.length : Nat) : Int) - ((d + 1 : Nat) : Int)) = ((8 * n.length - (d + 1) : Nat) : Int) := by
    rw [w_i64 (by omega) (by omega)]; omega
  rw [em2]
  obtain ⟨k, hk, _, ek⟩ := mod_nat 6000 a1 (m := 8 * n.length - (d + 1)) (by omega) (by omega)
  refine Ev.to ek (Ev.to (flip_eq 6000 hn (by omega) (by omega)) ?_)
  have ekd : IntKind.i64.wrap ((k : Int) + ((d + 1 : Nat) : Int)) = ((k + (d + 1) : Nat) : Int) := by rw [w_i64 (by omega) (by omega)]; omega
  rw [ekd]
  have h1 := flipB_lt (k := k) hn
  have l1 := flipB_len n k
  refine Ev.to (flip_eq 6000 h1 (by omega) (by omega)) ?_
  have h2 := flipB_lt (k := k + (d + 1)) h1
  have l2 := flipB_len (flipB n k) (k + (d + 1))
  have h5 : (openC (toI (flipB (flipB n k) (k + (d + 1))))).2 = 5 := open_five h2 (ne_nil (by omega)) (by
    rw [cN_flip h1 (by omega), cN_flip hn (by omega), hz, l1, Nat.zero_xor]
    have e : 8 * n.length - k = (8 * n.length - (k + (d + 1))) + (d + 1) := by omega
    rw [e, it_add]
    intro h0
    have h3 := xor_zero_eq h0
    exact pairs_fin ⟨d, by omega⟩ (it_inj (it_lt _ _ (by omega)) (by omega) h3))
  exact Ev.to (OpenCRC8_eq (toI_small h2 (by omega)) (by omega)) (Ev.beqT h5 (Ev.to law01_awake_eq (Ev.ret rfl)))
end Lift
