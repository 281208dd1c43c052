/- The plain law of ChecksumBurst. uses: crc8 lists sealc sums dice linear ev syn8 flips
-/
import Derived.Test.YtnfpldbkpdeeoaaFlips
namespace Lift
open Go
theorem law01_ChecksumBurst_true (a0 : List Int) (a1 a2 : Int) (o0 : okL (okI .u8) a0) (o1 : okI .i64 a1) (o2 : okI .u8 a2) : ∃ fuel, law01_ChecksumBurst fuel a0 a1 a2 = some true := by
  refine ⟨6000, Ev.isTrue ?_⟩
  unfold law01_ChecksumBurst
  refine Ev.to (law01_light_eq _ _) (Ev.join (fun s => s = false → ((a0.length : Int) ≤ 2000 ∧ a2 ≠ 0)) (fun s hs => ?_) (fun j hj => ?_))
  · refine Ev.ite (fun _ => Ev.to law01_awake_eq (Ev.ret rfl)) (fun e => ?_)
    obtain ⟨hl, hne⟩ := hs e
    have hs0 := small_of o0 (by omega)
    obtain ⟨n, en, hn, hlen, hz⟩ := sealed_nat hs0
    obtain ⟨b1, b2⟩ := okI_u8.1 o2
    obtain ⟨a, rfl, ha⟩ := nat_of (a := a2) (m := 256) b1 (by omega)
    refine Ev.to ((SealCRC8_eq hs0 (by omega)).trans (by rw [en])) (Ev.bneF (by rw [toI_len, w_i64 (by omega) (by omega)]; omega) ?_)
    have em : IntKind.i64.wrap (IntKind.i64.wrap (8 * ((toI n).length : Int)) - 7) = ((8 * n.length - 7 : Nat) : Int) := by
      rw [toI_len, w_i64 (n := 8 * (n.length : Int)) (by omega) (by omega), w_i64 (by omega) (by omega)]; omega
    rw [em]
    obtain ⟨k, hk, _, e4⟩ := mod_nat 6000 a1 (m := 8 * n.length - 7) (by omega) (by omega)
    refine Ev.to e4 ?_
    refine Ev.loop (fun r (s : Int × List Int) => ∃ t : Nat, t ≤ 8 ∧ r = 8 - t ∧ s.1 = (t : Int) ∧ ∃ x : List Nat, s.2 = toI x ∧ (∀ y ∈ x, y < 256) ∧ x.length = n.length ∧ cN x 0 = it n8 (8 * n.length - k) (top8 a t))
      (fun r s hi self hself => ?_) (n := 8) (by omega) ⟨0, by omega, rfl, rfl, n, rfl, hn, rfl, by rw [hz, top8_zero ha, it_n8_zero]⟩
    obtain ⟨t, ht, hr, e1, x, e2, hx, hxl, hc⟩ := hi
    obtain ⟨s1, s2⟩ := s
    simp only at e1 e2
    subst e1 e2
    simp only
    refine Ev.dec (fun hlt => ?_) (fun hge => ?_)
    · have ht8 : t < 8 := by omega
      have ew : IntKind.u64.wrap (IntKind.i64.wrap (7 - (t : Int))) = ((7 - t : Nat) : Int) := by
        rw [w_i64 (by omega) (by omega), w_u64]; omega
      rw [ew, bit_test ⟨a, ha⟩ ⟨t, ht8⟩]
      obtain ⟨hst, htl⟩ := top8_step ⟨a, ha⟩ ⟨t, ht8⟩
      simp only at hst htl
      have ew1 : IntKind.i64.wrap ((t : Int) + 1) = ((t + 1 : Nat) : Int) := by rw [w_i64 (by omega) (by omega)]; omega
      refine Ev.chk (decide_eq_true (by omega)) (Ev.dec (fun hb => ?_) (fun hb => ?_))
      · have hkt : IntKind.i64.wrap ((k : Int) + (t : Int)) = ((k + t : Nat) : Int) := by rw [w_i64 (by omega) (by omega)]; omega
        rw [hkt]
        refine Ev.to (flip_eq 6000 hx (by omega) (k := k + t) (by omega)) (Ev.letP ?_)
        rw [ew1]
        refine hself (8 - (t + 1)) _ (by omega) ⟨t + 1, by omega, rfl, rfl, flipB x (k + t), rfl, flipB_lt hx, by rw [flipB_len, hxl], ?_⟩
        rw [cN_flip hx (by omega), hc, hxl, burst_bit ht8 (by omega) htl, hst, if_pos hb]
      · refine Ev.letP ?_
        rw [ew1]
        exact hself (8 - (t + 1)) _ (by omega) ⟨t + 1, by omega, rfl, rfl, x, rfl, hx, hxl, by rw [hc, hst, if_neg hb]⟩
    · have ht8 : t = 8 := by omega
      subst ht8
      rw [top8_end] at hc
      have h5 : (openC (toI x)).2 = 5 := open_five hx (ne_nil (by omega)) (by
        rw [hc]
        exact it_ne _ a ha (fun h0 => hne (by rw [h0]; rfl)))
      refine Ev.to (OpenCRC8_eq (toI_small hx (by omega)) (by omega)) (Ev.beqT h5 (Ev.to law01_awake_eq (Ev.ret rfl)))
  · refine Ev.not (Ev.dec (fun h => hj _ (fun e => ⟨h, by simpa using e⟩)) (fun h => hj _ (fun e => by cases e)))
end Lift
