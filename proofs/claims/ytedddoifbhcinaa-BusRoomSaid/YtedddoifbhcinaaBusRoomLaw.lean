/- The plain law of BusRoom. uses: base crc8 lists sealc frames refframes busf ev busa busb busc dice dicebytes diceframe awake21
-/
import Derived.Test.YtedddoifbhcinaaAwake21
import Derived.Test.YtedddoifbhcinaaDiceframe
set_option linter.unusedVariables false
set_option linter.unusedSimpArgs false
namespace Lift
open Go
theorem put_room {ms : List bus_master} {k : Int} {f : Frame_} (hn : 0 ≤ k ∧ k < (ms.length : Int)) (hv : valid f = true) :
    (pend ms k < 16 → (put ms k f).1 = 0 ∧ pend (put ms k f).2 k = pend ms k + 1) ∧ (¬ pend ms k < 16 → put ms k f = (9, ms)) := by
  unfold put
  rw [if_pos hn, if_pos hv]
  have hp : pend ms k = ((ms.getD k.toNat bus_master.z).queue.length : Int) := by unfold pend; rw [if_pos hn]
  constructor
  · intro h
    rw [if_pos (by omega)]
    refine ⟨rfl, ?_⟩
    unfold pend
    rw [if_pos (by simp [upd]; omega), if_pos hn]
    simp only [upd]
    have hk : k.toNat < ms.length := by omega
    rw [show (ms.set k.toNat { ms.getD k.toNat bus_master.z with queue := (ms.getD k.toNat bus_master.z).queue ++ [(encode f).1] }).getD k.toNat bus_master.z = { ms.getD k.toNat bus_master.z with queue := (ms.getD k.toNat bus_master.z).queue ++ [(encode f).1] } from by simp [List.getD_eq_getElem?_getD, hk]]
    simp
  · intro h
    rw [if_neg (by omega)]
theorem pend_len {ms : List bus_master} (h : BOk ms) (k : Int) : 0 ≤ pend ms k ∧ pend ms k ≤ 16 := by
  unfold pend
  split
  · rename_i hn
    have := (h.ok _ (getD_mem (z := bus_master.z) hn)).len
    omega
  · omega
theorem pend_new (n : Nat) (k : Int) : pend (newB n) k = 0 := by
  unfold pend newB
  split
  · rename_i hn
    have hk : k.toNat < n := by simp at hn; omega
    simp [List.getD_eq_getElem?_getD, hk, bus_master.z]
  · rfl
theorem law21_BusRoom_true (a0 : Int) (a1 : Int) (a2 : Int) (a3 : List Int) (o0 : okI .i64 a0) (o1 : okI .i64 a1) (o2 : okI .i64 a2) (o3 : okL (okI .i64) a3) : ∃ fuel, law21_BusRoom fuel a0 a1 a2 a3 = some true := by
  refine ⟨10000, Ev.isTrue ?_⟩
  unfold law21_BusRoom
  refine Ev.to (Light_eq 10000 a3) ?_
  refine Ev.not (Ev.dec (fun hl => ?_) (fun _ => Ev.to (awake_eq (by omega)) (Ev.ret rfl)))
  refine Ev.to (Mod_eq 10000 (by omega) (by omega)) ?_
  have m1 := Int.emod_nonneg a0 (show (8 : Int) ≠ 0 by omega)
  have m2 := Int.emod_lt_of_pos a0 (show (0 : Int) < 8 by omega)
  obtain ⟨n, hn⟩ : ∃ n : Nat, 1 + a0 % 8 = n := ⟨(1 + a0 % 8).toNat, by omega⟩
  refine Ev.letE (c := (n : Int)) (by rw [w_i64 (by omega) (by omega)]; exact hn) ?_
  refine Ev.to (New_eq 10000 n) ?_
  have hn8 : 1 ≤ (n : Int) ∧ (n : Int) ≤ 8 := by omega
  simp only [if_pos hn8]
  refine Ev.join (fun s => s = false) (fun s hs => ?_) (fun j hj => Ev.iteF rfl (hj _ rfl))
  subst hs
  refine Ev.iteF rfl (Ev.to (Roll_eq 10000 _) ?_)
  obtain ⟨f, d', e, v1, v2, _⟩ := Frame_ok (fuel := 10000) (by omega) (roll_ok (l := a3) (by omega))
  refine Ev.to e (Ev.to (Mod_eq 10000 (by omega) (by omega)) (Ev.to (Mod_eq 10000 (by omega) (by omega)) ?_))
  have k1 := Int.emod_nonneg a1 (show (n : Int) ≠ 0 by omega)
  have k2 := Int.emod_lt_of_pos a1 (show (0 : Int) < n by omega)
  have c1 := Int.emod_nonneg a2 (show (4 : Int) ≠ 0 by omega)
  have c2 := Int.emod_lt_of_pos a2 (show (0 : Int) < 4 by omega)
  generalize a1 % (n : Int) = k at k1 k2
  obtain ⟨t, ht⟩ : ∃ t : Nat, 15 + a2 % 4 = t := ⟨(15 + a2 % 4).toNat, by omega⟩
  refine Ev.letE (c := (t : Int)) (by rw [w_i64 (by omega) (by omega)]; exact ht) ?_
  simp only
  refine Ev.loop (fun r (s : Int × (Option bus_Bus)) => ∃ (i : Nat) (ms : List bus_master), i ≤ t ∧ r = t - i ∧ s = ((i : Int), some ⟨ms⟩) ∧ BOk ms ∧ ms.length = n ∧ pend ms k = min (i : Int) 16)
    (fun r s hi self hself => ?_) (n := t) (by omega) ⟨0, newB n, by omega, rfl, rfl, newB_ok (by omega), by simp [newB], by rw [pend_new]; rfl⟩
  obtain ⟨i, ms, i1, i2, rfl, hB, hmn, hp⟩ := hi
  have hr : 0 ≤ k ∧ k < (ms.length : Int) := by omega
  refine Ev.dec (fun hlt => ?_) (fun hge => ?_)
  · simp only at hlt
    obtain ⟨r1, r2⟩ := put_room (f := f) hr v1
    refine Ev.join (fun s => s = if 16 ≤ (i : Int) then 9 else 0) (fun s hs => ?_) (fun j hj => ?_)
    · subst hs
      refine Ev.to (a := ⟨ms⟩) rfl (Ev.to (Submit_eq hB v2 (by omega)) ?_)
      by_cases h16 : (i : Int) < 16
      · obtain ⟨q1, q2⟩ := r1 (by omega)
        rw [if_neg (by omega)]
        refine Ev.bneF q1 (Ev.letP ?_)
        simp only
        rw [wi i (by omega)]
        exact hself (t - (i + 1)) _ (by omega) ⟨i + 1, (put ms k f).2, by omega, rfl, by simp, put_ok hB v2, by rw [put_len]; exact hmn, by rw [q2, hp]; omega⟩
      · have q := r2 (by omega)
        rw [if_pos (by omega)]
        refine Ev.bneF (by rw [q]) (Ev.letP ?_)
        simp only
        rw [wi i (by omega)]
        exact hself (t - (i + 1)) _ (by omega) ⟨i + 1, (put ms k f).2, by omega, rfl, by simp, put_ok hB v2, by rw [put_len]; exact hmn, by rw [q, hp]; omega⟩
    · refine Ev.dec (fun h => hj _ ?_) (fun h => hj _ ?_)
      · rw [if_pos h]
      · rw [if_neg h]
  · simp only at hge
    have hit : i = t := by omega
    subst hit
    refine Ev.letP (Ev.to (a := ⟨ms⟩) rfl (Ev.to (Pending_eq 10000 _ _) (Ev.beqT hp (Ev.to (Submit_eq hB v2 (by omega)) ?_))))
    have e1 : put ms (n : Int) f = (2, ms) := by unfold put; rw [if_neg (by omega)]
    have e2 : put ms (-1) f = (2, ms) := by unfold put; rw [if_neg (by omega)]
    have e3 : put ms k { f with To := 7 } = (1, ms) := by
      unfold put
      rw [if_pos hr, if_neg (by simp [valid, addr])]
    simp only [e1]
    refine Ev.beqT rfl (Ev.to (Submit_eq hB v2 (by omega)) ?_)
    simp only [e2]
    refine Ev.beqT rfl (Ev.to (Submit_eq (f := { f with To := 7 }) hB v2 (by omega)) ?_)
    simp only [e3]
    refine Ev.beqT rfl (Ev.to (Pending_eq 10000 _ _) (Ev.beqT ?_ (Ev.to (awake_eq (by omega)) (Ev.ret rfl))))
    unfold pend
    rw [if_neg (by omega)]
end Lift
