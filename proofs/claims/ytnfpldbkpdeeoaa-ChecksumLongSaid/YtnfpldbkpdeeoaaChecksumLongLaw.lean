/- The plain law of ChecksumLong. uses: crc8 lists sealc sums seals dice linear ev syn8 flips syn32
-/
import Derived.Test.YtnfpldbkpdeeoaaFlips
import Derived.Test.YtnfpldbkpdeeoaaSyn32
namespace Lift
open Go
theorem shr_u32 {a t : Nat} (ht : t ≤ 32) : bShr .u32 (a : Int) (t : Int) = ((a / 2 ^ t : Nat) : Int) := by
  show Int.fdiv (a : Int) (2 ^ (min ((t : Int)).toNat 32)) = _
  have : min ((t : Int)).toNat 32 = t := by simp; omega
  rw [this, show ((2 : Int) ^ t) = ((2 ^ t : Nat) : Int) from by simp, Int.fdiv_eq_ediv_of_nonneg _ (Int.natCast_nonneg _)]; rfl
theorem bitL_eq : ∀ j : Fin 8, bShl .u8 1 (j.val : Int) = ((2 ^ j.val : Nat) : Int) := by decide +kernel
theorem tmod2 (q : Nat) : Int.tmod (q : Int) 2 = ((q % 2 : Nat) : Int) := by rw [Int.tmod_eq_emod_of_nonneg (by omega)]; omega
theorem law01_ChecksumLong_true (a0 : List Int) (a1 a2 : Int) (o0 : okL (okI .u8) a0) (o1 : okI .i64 a1) (o2 : okI .u32 a2) : ∃ fuel, law01_ChecksumLong fuel a0 a1 a2 = some true := by
  refine ⟨6000, Ev.isTrue ?_⟩
  unfold law01_ChecksumLong
  refine Ev.to (law01_light_eq _ _) (Ev.join (fun s => s = false → ((a0.length : Int) ≤ 2000 ∧ a2 ≠ 0)) (fun s hs => ?_) (fun j hj => ?_))
  · refine Ev.ite (fun _ => Ev.to law01_awake_eq (Ev.ret rfl)) (fun e => ?_)
    obtain ⟨hl, hne⟩ := hs e
    have hs0 := small_of o0 (by omega)
    obtain ⟨n, en, hn, hlen, hz⟩ := sealed32 hs0
    obtain ⟨b1, b2⟩ := okI_u32.1 o2
    obtain ⟨a, rfl, ha⟩ := nat_of (a := a2) (m := 4294967296) b1 (by omega)
    refine Ev.to ((SealCRC32_eq hs0 (by omega)).trans (by rw [en])) (Ev.bneF (by rw [toI_len, w_i64 (by omega) (by omega)]; omega) ?_)
    have em : IntKind.i64.wrap (IntKind.i64.wrap (8 * ((toI n).length : Int)) - 31) = ((8 * n.length - 31 : Nat) : Int) := by
      rw [toI_len, w_i64 (n := 8 * (n.length : Int)) (by omega) (by omega), w_i64 (by omega) (by omega)]; omega
    rw [em]
    obtain ⟨k, hk, _, e4⟩ := mod_nat 6000 a1 (m := 8 * n.length - 31) (by omega) (by omega)
    refine Ev.to e4 ?_
    refine Ev.loop (fun r (s : Int × List Int) => ∃ t : Nat, t ≤ 32 ∧ r = 32 - t ∧ s.1 = (t : Int) ∧ ∃ x : List Nat, s.2 = toI x ∧ (∀ y ∈ x, y < 256) ∧ x.length = n.length ∧ gN x 4294967295 = R32 ^^^ it n32 (8 * n.length - k) (a % 2 ^ t))
      (fun r s hi self hself => ?_) (n := 32) (by omega) ⟨0, by omega, rfl, rfl, n, rfl, hn, rfl, by rw [hz, Nat.pow_zero, Nat.mod_one, t_zero]; simp⟩
    obtain ⟨t, ht, hr, e1, x, e2, hx, hxl, hc⟩ := hi
    obtain ⟨s1, s2⟩ := s
    simp only at e1 e2
    subst e1 e2
    simp only
    refine Ev.dec (fun hlt => ?_) (fun hge => ?_)
    · have ht8 : t < 32 := by omega
      have ew : IntKind.u64.wrap (t : Int) = (t : Int) := by rw [w_u64]; omega
      have ew1 : IntKind.i64.wrap ((t : Int) + 1) = ((t + 1 : Nat) : Int) := by rw [w_i64 (by omega) (by omega)]; omega
      have etm : Int.tmod ((a / 2 ^ t : Nat) : Int) 2 = ((a / 2 ^ t % 2 : Nat) : Int) := tmod2 _
      rw [ew, shr_u32 (by omega), etm]
      have hst := low_step a t
      refine Ev.chk (decide_eq_true (by omega)) (Ev.beq (fun hb => ?_) (fun hb => ?_))
      · have hb' : a / 2 ^ t % 2 = 1 := by omega
        have hi : (k + t) / 8 < x.length := by omega
        have e5 : IntKind.i64.wrap (Int.tdiv (IntKind.i64.wrap ((k : Int) + (t : Int))) 8) = (((k + t) / 8 : Nat) : Int) := by
          rw [w_i64 (n := (k : Int) + (t : Int)) (by omega) (by omega), Int.tdiv_eq_ediv_of_nonneg (by omega), w_i64 (by omega) (by omega)]; omega
        have e6 : IntKind.u64.wrap (Int.tmod (IntKind.i64.wrap ((k : Int) + (t : Int))) 8) = (((k + t) % 8 : Nat) : Int) := by
          rw [w_i64 (n := (k : Int) + (t : Int)) (by omega) (by omega), Int.tmod_eq_emod_of_nonneg (by omega), w_u64]; omega
        rw [e5, e6, ew1]
        refine Ev.to (by rw [idx_nat, toI_get hi]) (Ev.chk (decide_eq_true (by omega)) (Ev.to (by rw [idx_nat, toI_get hi]) (Ev.letE (c := toI (flipL x (k + t))) ?_ (Ev.letP ?_))))
        · rw [bitL_eq ⟨(k + t) % 8, by omega⟩, upd_xor hx hi (bitL_lt _)]; rfl
        · refine hself (32 - (t + 1)) _ (by omega) ⟨t + 1, by omega, rfl, rfl, flipL x (k + t), rfl, mod_lt hx (bitL_lt _), by simp [flipL, hxl], ?_⟩
          rw [gN_flip (by omega), hc, hxl, Nat.xor_assoc, burst32 (by omega), hst, if_pos hb']
      · have hb' : ¬ a / 2 ^ t % 2 = 1 := fun h => hb (by rw [h]; rfl)
        refine Ev.letP ?_
        rw [ew1]
        exact hself (32 - (t + 1)) _ (by omega) ⟨t + 1, by omega, rfl, rfl, x, rfl, hx, hxl, by rw [hc, hst, if_neg hb']⟩
    · have ht8 : t = 32 := by omega
      subst ht8
      rw [Nat.mod_eq_of_lt (by simpa using ha)] at hc
      have h5 : (openL (toI x)).2 = 5 := by
        rw [openL_five hx (by omega) (fun e0 => ?_)]
        rw [hc] at e0
        have : it n32 (8 * n.length - k) a = 0 := by
          have h9 := congrArg (fun z => R32 ^^^ z) e0
          simp only [← Nat.xor_assoc, Nat.xor_self, Nat.zero_xor] at h9
          exact h9
        exact t_ne _ a ha (fun h0 => hne (by rw [h0]; rfl)) this
      refine Ev.to (OpenCRC32_eq (toI_small hx (by omega)) (by omega)) (Ev.beqT h5 (Ev.to law01_awake_eq (Ev.ret rfl)))
  · refine Ev.not (Ev.dec (fun h => hj _ (fun e => ⟨h, by simpa using e⟩)) (fun h => hj _ (fun e => by cases e)))
end Lift
