/- The plain law of FrameReturns. uses: crc8 lists sealc frames law20 dice dicebytes diceframe refframes sameframe linear ev syn8 bits
-/
import Derived.Test.YtmjilnfeddaekaaLaw20
import Derived.Test.YtmjilnfeddaekaaDiceframe
import Derived.Test.YtmjilnfeddaekaaSameframe
import Derived.Test.YtmjilnfeddaekaaBits
namespace Lift
open Go
theorem decode_body {f : Frame_} (hv : valid f = true) : decode (body f ++ [crc8 (body f)]) = (f, 0) := by
  obtain ⟨⟨h1, h2⟩, ⟨h3, h4⟩, h5⟩ := valid_iff.1 hv
  have hl : (body f ++ [crc8 (body f)]).length = f.Data.length + 5 := by simp [body, head]
  have ht : (body f ++ [crc8 (body f)]).take ((body f ++ [crc8 (body f)]).length - 1) = body f := by simp
  have hla : last (body f ++ [crc8 (body f)]) = crc8 (body f) := by simp [last, List.getLastD_eq_getLast?]
  unfold decode
  rw [ht, hla, hl]
  have c0 : ¬ (f.Data.length + 5 < 5) := by omega
  rw [if_neg c0, if_neg (by simp)]
  have eb : body f = 2 * f.To :: 15 :: ((f.Data.length : Int) + 1) :: (2 * f.From + 1) :: f.Data := rfl
  rw [eb]
  simp only
  have a1 : 2 * f.To / 2 = f.To := by omega
  have a2 : (2 * f.From + 1) / 2 = f.From := by omega
  have t1 : addr f.To = true := by simp [addr]; omega
  have t2 : addr f.From = true := by simp [addr]; omega
  rw [if_pos ⟨by omega, by simp, by push_cast; omega, by omega⟩, a1, a2, t1, t2, if_pos h5]
  rfl
theorem decode_five {n : List Nat} (hn : ∀ x ∈ n, x < 256) (hl : 5 ≤ n.length) (h : cN n 0 ≠ 0) : decode (toI n) = (Frame_.z, 5) := by
  have h5 := openC_five hn (ne_nil (by omega)) h
  have hne : toI n ≠ [] := by intro e; have := congrArg List.length e; rw [toI_len] at this; simp at this; subst this; simp at hl
  have hc : crc8 ((toI n).take ((toI n).length - 1)) ≠ last (toI n) := by
    intro e
    unfold openC at h5
    rw [if_neg hne, if_pos e] at h5
    simp at h5
  unfold decode
  rw [if_neg (by rw [toI_len]; omega), if_pos hc]
theorem law20_FrameReturns_true (a0 : List Int) (a1 a2 : Int) (o0 : okL (okI .i64) a0) (o1 : okI .i64 a1) (o2 : okI .u8 a2) : ∃ fuel, law20_FrameReturns fuel a0 a1 a2 = some true := by
  refine ⟨6000, Ev.isTrue ?_⟩
  unfold law20_FrameReturns
  refine Ev.to (Light_eq _ _) (Ev.not (Ev.dec (fun hl => ?_) (fun _ => Ev.to law20_awake_eq (Ev.ret rfl))))
  have hf : 5000 < 6000 := by omega
  refine Ev.to (Roll_eq _ _) ?_
  obtain ⟨f, d1, e1, hv, hb, _⟩ := Frame_ok hf (roll_ok (l := a0) (by omega))
  obtain ⟨⟨h1, h2⟩, ⟨h3, h4⟩, h72⟩ := valid_iff.1 hv
  have hs0 := body_small hv hb
  obtain ⟨n, en, hn, hlen, hz⟩ := sealed_nat hs0
  have hbl : (body f).length = f.Data.length + 4 := by simp [body, head]
  refine Ev.to e1 (Ev.to (a := (toI n, 0)) (by rw [Encode_eq hb hf, encode, hv, if_pos rfl, en]) ?_)
  have hd0 : decode (toI n) = (f, 0) := by rw [← en]; exact decode_body hv
  refine Ev.to (a := (f, 0)) (by rw [Decode_eq (toI_small hn (by omega)) hf, hd0]) ?_
  refine Ev.join (fun s => s = false) (fun s hs => Ev.iteF hs ?_) (fun j hj => ?_)
  · refine Ev.beq (fun _ => Ev.to law20_awake_eq (Ev.ret rfl)) (fun hne => ?_)
    obtain ⟨b1, b2⟩ := okI_u8.1 o2
    obtain ⟨a, rfl, ha⟩ := nat_of (a := a2) (m := 256) b1 (by omega)
    have em : IntKind.i64.wrap (IntKind.i64.wrap (8 * ((toI n).length : Int)) - 7) = ((8 * n.length - 7 : Nat) : Int) := by
      rw [toI_len, w_i64 (n := 8 * (n.length : Int)) (by omega) (by omega), w_i64 (by omega) (by omega)]; omega
    simp only
    rw [em]
    obtain ⟨k, hk, _, e4⟩ := mod_nat 6000 a1 (m := 8 * n.length - 7) (by omega) (by omega)
    refine Ev.to e4 ?_
    refine Ev.loop (fun r (s : Int × List Int) => ∃ t : Nat, t ≤ 8 ∧ r = 8 - t ∧ s.1 = (t : Int) ∧ ∃ x : List Nat, s.2 = toI x ∧ (∀ y ∈ x, y < 256) ∧ x.length = n.length ∧ cN x 0 = it n8 (8 * n.length - k) (top8 a t))
      (fun r s hi self hself => ?_) (n := 8) (by omega) ⟨0, by omega, rfl, rfl, n, rfl, hn, rfl, by rw [hz, top8_zero ha, it_n8_zero]⟩
    obtain ⟨t, ht, hr, e1, x, e2, hx, hxl, hc⟩ := hi
    obtain ⟨s1, s2⟩ := s
    simp only at e1 e2
    subst e1 e2
    simp only
    refine Ev.dec (fun hlt => ?_) (fun hge => ?_)
    · have ht8 : t < 8 := by omega
      have ew : IntKind.u64.wrap (IntKind.i64.wrap (7 - (t : Int))) = ((7 - t : Nat) : Int) := by
        rw [w_i64 (by omega) (by omega), w_u64]; omega
      rw [ew, bit_test ⟨a, ha⟩ ⟨t, ht8⟩]
      obtain ⟨hst, htl⟩ := top8_step ⟨a, ha⟩ ⟨t, ht8⟩
      simp only at hst htl
      have ew1 : IntKind.i64.wrap ((t : Int) + 1) = ((t + 1 : Nat) : Int) := by rw [w_i64 (by omega) (by omega)]; omega
      refine Ev.chk (decide_eq_true (by omega)) (Ev.dec (fun hb => ?_) (fun hb => ?_))
      · have hi : (k + t) / 8 < x.length := by omega
        have e5 : IntKind.i64.wrap (Int.tdiv (IntKind.i64.wrap ((k : Int) + (t : Int))) 8) = (((k + t) / 8 : Nat) : Int) := by
          rw [w_i64 (n := (k : Int) + (t : Int)) (by omega) (by omega), Int.tdiv_eq_ediv_of_nonneg (by omega), w_i64 (by omega) (by omega)]; omega
        have e6 : IntKind.u64.wrap (Int.tmod (IntKind.i64.wrap ((k : Int) + (t : Int))) 8) = (((k + t) % 8 : Nat) : Int) := by
          rw [w_i64 (n := (k : Int) + (t : Int)) (by omega) (by omega), Int.tmod_eq_emod_of_nonneg (by omega), w_u64]; omega
        rw [e5, e6, ew1]
        refine Ev.to (by rw [idx_nat, toI_get hi]) (Ev.chk (decide_eq_true (by omega)) (Ev.to (by rw [idx_nat, toI_get hi]) (Ev.letE (c := toI (flipB x (k + t))) ?_ (Ev.letP ?_))))
        · rw [shr128 ⟨(k + t) % 8, by omega⟩, upd_xor hx hi (bit_lt _)]; rfl
        · refine hself (8 - (t + 1)) _ (by omega) ⟨t + 1, by omega, rfl, rfl, flipB x (k + t), rfl, flipB_lt hx, by rw [flipB_len, hxl], ?_⟩
          rw [cN_flip hx (by omega), hc, hxl, burst_bit ht8 (by omega) htl, hst, if_pos hb]
      · refine Ev.letP ?_
        rw [ew1]
        exact hself (8 - (t + 1)) _ (by omega) ⟨t + 1, by omega, rfl, rfl, x, rfl, hx, hxl, by rw [hc, hst, if_neg hb]⟩
    · have ht8 : t = 8 := by omega
      subst ht8
      rw [top8_end] at hc
      have h5 := decode_five hx (by omega) (by
        rw [hc]
        exact it_ne _ a ha (fun h0 => hne (by rw [h0]; rfl)))
      refine Ev.to (a := (Frame_.z, 5)) (by rw [Decode_eq (toI_small hx (by omega)) hf, h5]) ?_
      exact Ev.iteT rfl (Ev.iteT rfl (Ev.to law20_awake_eq (Ev.ret rfl)))
  · refine Ev.bneF rfl (Ev.bneF rfl (Ev.to (rSame_eq f f (by omega)) (Ev.not (Ev.iteT (by simp) (hj _ ?_)))))
    simp only [toI_len]
    rw [w_i64 (by omega) (by omega)]
    simp; omega
end Lift
