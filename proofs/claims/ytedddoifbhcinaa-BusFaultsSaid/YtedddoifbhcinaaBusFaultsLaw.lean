/- The plain law of BusFaults. uses: base crc8 lists sealc frames refframes busf ev busa busb busc dice dicebytes diceframe awake21
-/
import Derived.Test.YtedddoifbhcinaaAwake21
import Derived.Test.YtedddoifbhcinaaDiceframe
set_option linter.unusedVariables false
set_option linter.unusedSimpArgs false
namespace Lift
open Go
theorem same_frame {fuel : Nat} (f : Frame_) (hl : f.Data.length ≤ 100) (hf : 5000 < fuel) : ref20_Same fuel f f = some true := by
  unfold ref20_Same
  rw [Same_eq (by omega) (by omega)]
  simp
/-- The one master with one frame. -/
def one (x : List Int) : List bus_master := [⟨[x], 0, false⟩]
theorem put_one {f : Frame_} (hv : valid f = true) : put (newB 1) 0 f = (0, one (encode f).1) := by
  unfold put
  rw [if_pos (by simp [newB]), if_pos hv]
  simp [newB, bus_master.z, one, upd]
theorem one_start (x : List Int) : start (one x) = one x := by simp [start, one, ready, wait]
theorem one_least (x : List Int) : least (one x) = x := by simp [least, one, ready, wait, qhead, minL]
theorem one_busy (x : List Int) : busy (one x) = true := by simp [busy, one, wait]
theorem one_D (x : List Int) (g : Fault_) : (stepD (one x) g).Masters = [0] ∧ (stepD (one x) g).Bytes = arr x g ∧ (stepD (one x) g).OK = oks (arr x g) := by
  unfold stepD
  rw [one_least]
  refine ⟨?_, rfl, rfl⟩
  simp [one, who, pickd, ready, wait, qhead]
theorem one_M (x : List Int) (g : Fault_) : pend (stepM (one x) g) 0 = if oks (arr x g) then 0 else 1 := by
  unfold stepM
  rw [one_least]
  cases oks (arr x g) <;> simp [one, stepF, pickd, ready, wait, qhead, hit, pend]
theorem law21_BusFaults_true (a0 : List Int) (a1 : Fault_) (o0 : okL (okI .i64) a0) (o1 : Fault_.ok a1) : ∃ fuel, law21_BusFaults fuel a0 a1 = some true := by
  refine ⟨10000, Ev.isTrue ?_⟩
  unfold law21_BusFaults
  refine Ev.to (Light_eq 10000 a0) ?_
  refine Ev.not (Ev.dec (fun hl => ?_) (fun _ => Ev.to (awake_eq (by omega)) (Ev.ret rfl)))
  refine Ev.to (New_eq 10000 1) (Ev.to (Roll_eq 10000 _) ?_)
  obtain ⟨f, d', e, v1, v2, _⟩ := Frame_ok (fuel := 10000) (by omega) (roll_ok (l := a0) (by omega))
  refine Ev.to e (Ev.to (Encode_eq v2 (by omega)) ?_)
  simp only
  have hfb := enc_fb v1 v2
  have herr : (encode f).2 = 0 := by rw [enc_err, if_pos v1]
  have hdec : decode (encode f).1 = (f, 0) := by unfold encode; rw [if_pos v1]; exact decode_body v1
  refine Ev.join (fun s => s = (false, some ⟨one (encode f).1⟩)) (fun s hs => ?_) (fun j hj => ?_)
  · subst hs
    generalize (encode f).1 = x at hfb hdec
    refine Ev.iteF rfl ?_
    refine Ev.join (fun g => g.Mask = a1.Mask) (fun g hg => ?_) (fun j hj => ?_)
    · have hm : byte g.Mask := by rw [hg]; exact okI_u8.1 o1.2.2.1
      have hB : BOk (one x) := ⟨by simp [one], fun m hm => by simp [one] at hm; subst hm; exact ⟨by simp, by simp, by simp, by simpa using hfb⟩⟩
      obtain ⟨q1, q2, q3⟩ := one_D x g
      have q4 := one_M x g
      refine Ev.to (a := ⟨one x⟩) rfl (Ev.to (Step_eq hB hm (by omega)) ?_)
      rw [one_busy, one_start]
      simp only [if_true]
      refine Ev.join (fun s => s = false) (fun s hs => ?_) (fun j hj => ?_)
      · subst hs
        refine Ev.iteF rfl (Ev.letP ?_)
        rw [q2, q3]
        refine Ev.beq (fun hk => ?_) (fun hk => ?_)
        · have ha : arr x g = [] := by unfold arr; rw [if_pos hk]
          have ho : oks (arr x g) = false := by rw [ha]; rfl
          refine Ev.join (fun s => s = true) (fun s hs => Ev.ret hs) (fun j hj => ?_)
          rw [ho, ha]
          refine Ev.iteT rfl (Ev.iteT rfl (Ev.to (Pending_eq 10000 _ _) (Ev.beqT ?_ (Ev.to (awake_eq (by omega)) (hj _ rfl)))))
          rw [q4, ho]; rfl
        · have hlx := hfb.2.2.1
          refine Ev.join (fun s => s = decide (g.Kind = 2 ∧ 0 ≤ g.Index ∧ g.Index < (x.length : Int) ∧ g.Mask ≠ 0)) (fun s hs => ?_) (fun j hj => ?_)
          · subst hs
            refine Ev.dec (fun hc => ?_) (fun hc => ?_)
            · obtain ⟨h1, h2, h3, h4⟩ := hc
              have hi := getD_idx h2 h3
              have hi2 := (idx_some hi).2.2
              have hb := hfb.1 _ (List.mem_of_getElem? hi2)
              have ha : arr x g = upd x g.Index (bXor .u8 (x.getD g.Index.toNat 0) g.Mask) := by unfold arr; rw [if_neg hk, if_pos ⟨h1, h2, h3⟩]
              have ho : oks (arr x g) = false := by
                cases ho : oks (arr x g) with
                | false => rfl
                | true =>
                  rw [ha] at ho
                  exact absurd (xor_self8 hb hm (oks_set hfb (xor_byte hb hm).2 hi2 ho)) h4
              have hl2 : (arr x g).length ≤ 100 := by rw [ha]; simp [upd]; omega
              refine Ev.to hi (Ev.to hi (Ev.letP ?_))
              refine Ev.join (fun s => s = true) (fun s hs => Ev.ret hs) (fun j hj => ?_)
              rw [ho, ← ha]
              refine Ev.iteT rfl (Ev.to (Same_eq (by omega) (by omega)) (Ev.decT rfl (Ev.to (Pending_eq 10000 _ _) (Ev.beqT ?_ (Ev.to (awake_eq (by omega)) (hj _ rfl))))))
              rw [q4, ho]; rfl
            · have ha : arr x g = x := by
                unfold arr
                rw [if_neg hk]
                split
                · rename_i hcc
                  have hm0 : g.Mask = 0 := Classical.byContradiction fun h0 => hc ⟨hcc.1, hcc.2.1, hcc.2.2, h0⟩
                  have hi2 := (idx_some (getD_idx hcc.2.1 hcc.2.2)).2.2
                  have hb := hfb.1 _ (List.mem_of_getElem? hi2)
                  rw [hm0, xor_zero8 hb]
                  exact set_self hi2
                · rfl
              rw [ha] at q4 ⊢
              have ho : oks x = true := hfb.2.2.2
              rw [ho] at q4 ⊢
              refine Ev.to (Decode_eq ⟨by omega, hfb.1⟩ (by omega)) ?_
              rw [hdec]
              refine Ev.iteT rfl (Ev.to (Same_eq (by omega) (by omega)) (Ev.decT rfl (Ev.iteT rfl (Ev.to (same_frame f (by have := (valid_iff.1 v1).2.2; omega) (by omega)) (Ev.iteT rfl (Ev.to (Pending_eq 10000 _ _) (Ev.beqT ?_ (Ev.to (awake_eq (by omega)) (Ev.ret rfl)))))))))
              rw [q4]; rfl
          · refine Ev.beq (fun h1 => ?_) (fun h1 => hj _ (by simp [h1]))
            refine Ev.dec (fun h2 => ?_) (fun h2 => hj _ (by simp; omega))
            refine Ev.dec (fun h3 => Ev.letP (hj _ ?_)) (fun h3 => hj _ (by simp; omega))
            have h2' : 0 ≤ g.Index := h2
            simp only [h1, h2', h3, true_and]
            by_cases h4 : g.Mask = 0 <;> simp [h4]
      · refine Ev.iteF rfl (hj _ ?_)
        rw [q1]; rfl
    · refine Ev.ite (fun _ => ?_) (fun _ => hj _ rfl)
      obtain ⟨g, eg, hg⟩ := fault_ev (fuel := 10000) a1
      exact Ev.to eg (hj _ hg)
  · refine Ev.iteF rfl (Ev.iteF rfl (Ev.bneF herr (Ev.to (a := ⟨newB 1⟩) rfl (Ev.to (Submit_eq (newB_ok (by omega)) v2 (by omega)) ?_))))
    rw [put_one v1]
    exact hj _ rfl
end Lift
