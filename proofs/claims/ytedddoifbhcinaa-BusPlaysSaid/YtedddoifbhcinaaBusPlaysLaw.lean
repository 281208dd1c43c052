/- The plain law of BusPlays. uses: base crc8 lists sealc frames refframes ev busa busb busc rdecode busr dice dicebytes diceframe awake21
-/
import Derived.Test.YtedddoifbhcinaaBusr
import Derived.Test.YtedddoifbhcinaaAwake21
import Derived.Test.YtedddoifbhcinaaDiceframe
set_option linter.unusedVariables false
set_option linter.unusedSimpArgs false
namespace Lift
open Go
theorem SameInts_eq {fuel : Nat} {a b : List Int} (ha : a.length ≤ 100000) (hf : a.length < fuel) : ref21_SameInts fuel a b = some (decide (a = b)) := by
  have := Same_eq (fuel := fuel) (a := a) (b := b) ha hf
  unfold ref01_Same at this
  unfold ref21_SameInts
  exact this
theorem SameD {fuel : Nat} (d : Delivery_) (h1 : d.Masters.length ≤ 5000) (h2 : d.Bytes.length ≤ 5000) (h3 : d.Failed.length ≤ 5000) (hf : 5000 < fuel) : ref21_Same fuel d d = some true := by
  unfold ref21_Same
  rw [SameInts_eq (by omega) (by omega), bindP_some, Same_eq (by omega) (by omega), SameInts_eq (by omega) (by omega)]
  simp
theorem law21_BusPlays_true (a0 : Int) (a1 : List law21_Do) (o0 : okI .i64 a0) (o1 : okL law21_Do.ok a1) : ∃ fuel, law21_BusPlays fuel a0 a1 = some true := by
  refine ⟨10000, Ev.isTrue ?_⟩
  unfold law21_BusPlays
  refine Ev.bind (light_ev a1 (by omega)) (fun b hb => ?_)
  refine Ev.not (Ev.ite (fun hb1 => ?_) (fun _ => Ev.to (awake_eq (by omega)) (Ev.ret rfl)))
  obtain ⟨hl, hseed⟩ := hb hb1
  refine Ev.to (New_eq 10000 a0) (Ev.to (rNew_eq 10000 a0) ?_)
  refine Ev.join (fun s => s = false) (fun s hs => ?_) (fun j hj => ?_)
  · subst hs
    refine Ev.iteF rfl (Ev.to (Mod_eq 10000 (by omega) (by omega)) ?_)
    have m1 := Int.emod_nonneg a0 (show (8 : Int) ≠ 0 by omega)
    have m2 := Int.emod_lt_of_pos a0 (show (0 : Int) < 8 by omega)
    obtain ⟨n, hn⟩ : ∃ n : Nat, 1 + a0 % 8 = n := ⟨(1 + a0 % 8).toNat, by omega⟩
    refine Ev.letE (c := (n : Int)) (by rw [w_i64 (by omega) (by omega)]; exact hn) ?_
    refine Ev.to (New_eq 10000 n) (Ev.to (rNew_eq 10000 n) ?_)
    have hn8 : 1 ≤ (n : Int) ∧ (n : Int) ≤ 8 := by omega
    simp only [if_pos hn8]
    refine Ev.join (fun s => s = false) (fun s hs => ?_) (fun j hj => ?_)
    · subst hs
      refine Ev.iteF rfl ?_
      refine Ev.loop (fun r (s : Int × (Option bus_Bus) × (Option ref21_Bus)) => ∃ (i : Nat) (ms : List bus_master), i ≤ a1.length ∧ r = a1.length - i ∧ s = ((i : Int), some ⟨ms⟩, some (rb ms)) ∧ BOk ms ∧ ms.length = n)
        (fun r s hi self hself => ?_) (n := a1.length) (by omega) ⟨0, newB n, by omega, rfl, rfl, newB_ok (by omega), by simp [newB]⟩
      obtain ⟨i, ms, i1, i2, rfl, hB, hmn⟩ := hi
      refine Ev.dec (fun hlt => ?_) (fun hge => Ev.to (awake_eq (by omega)) (Ev.ret rfl))
      simp only at hlt
      have hil : i < a1.length := by omega
      have hx : idx a1 (i : Int) = some (a1[i]'hil) := by rw [idx_nat]; simp
      have hmem : a1[i]'hil ∈ a1 := List.getElem_mem hil
      refine Ev.to hx ?_
      generalize a1[i]'hil = x at hmem
      obtain ⟨k1, k2, k3, k4, k5, _⟩ := o1.2 x hmem
      refine Ev.join (fun _ => True) (fun m _ => ?_) (fun j hj => ?_)
      · refine Ev.to (Mod_eq 10000 (by omega) (by omega)) (Ev.letP ?_)
        have c1 := Int.emod_nonneg x.Kind (show (4 : Int) ≠ 0 by omega)
        have c2 := Int.emod_lt_of_pos x.Kind (show (0 : Int) < 4 by omega)
        refine Ev.join (fun _ => True) (fun q _ => ?_) (fun j hj => ?_)
        · refine Ev.join (fun s => ∃ ms', BOk ms' ∧ ms'.length = n ∧ s = (some ⟨ms'⟩, some (rb ms'))) (fun s hs => ?_) (fun j5 hj5 => ?_)
          · obtain ⟨ms', hB', hmn', rfl⟩ := hs
            refine Ev.loop (fun r (s : Int × (Option bus_Bus) × (Option ref21_Bus)) => ∃ k : Nat, k ≤ n + 2 ∧ r = n + 2 - k ∧ s = ((k : Int) - 1, some ⟨ms'⟩, some (rb ms'))) (fun r s hi self2 hself2 => ?_) (n := n + 2) (by omega) ⟨0, by omega, rfl, rfl⟩
            obtain ⟨k, k1', k2', rfl⟩ := hi
            refine Ev.dec (fun hle => ?_) (fun hgt => ?_)
            · simp only at hle
              refine Ev.to (a := ⟨ms'⟩) rfl (Ev.to (Pending_eq 10000 _ _) (Ev.to (a := rb ms') rfl (Ev.to (rPending_eq 10000 _ _) (Ev.bneF rfl (Ev.letP ?_)))))
              refine hself2 (n + 2 - (k + 1)) _ (by omega) ⟨k + 1, by omega, rfl, ?_⟩
              simp only
              rw [w_i64 (by omega) (by omega)]
              congr 1; omega
            · refine Ev.letP ?_
              simp only
              rw [wi i (by omega)]
              exact hself (a1.length - (i + 1)) _ (by omega) ⟨i + 1, ms', by omega, rfl, by simp, hB', hmn'⟩
          · refine Ev.ite (fun _ => ?_) (fun _ => ?_)
            · refine Ev.to (Roll_eq 10000 _) ?_
              obtain ⟨fr, d', e, v1, v2, _⟩ := Frame_ok (fuel := 10000) (by omega) (roll_ok (l := x.Seed) (by have := hseed x hmem; omega))
              refine Ev.to e ?_
              simp only
              refine Ev.to (a := ⟨ms⟩) rfl (Ev.to (Submit_eq hB v2 (by omega)) (Ev.to (a := rb ms) rfl (Ev.to (rSubmit_eq hB v2 (by omega)) (Ev.bneF rfl ?_))))
              exact hj5 _ ⟨_, put_ok hB v2, by rw [put_len]; exact hmn, rfl⟩
            · refine Ev.letP (Ev.ite (fun _ => ?_) (fun _ => ?_))
              · obtain ⟨g, eg, hg⟩ := fault_ev (fuel := 10000) x.Fault
                have hm : byte g.Mask := by rw [hg]; exact okI_u8.1 k5.2.2.1
                refine Ev.to eg (Ev.to (a := ⟨ms⟩) rfl (Ev.to (Step_eq hB hm (by omega)) (Ev.to eg (Ev.to (a := rb ms) rfl (Ev.to (rStep_eq hB hm (by omega)) ?_)))))
                refine Ev.join (fun s => s = false) (fun s hs => ?_) (fun j6 hj6 => ?_)
                · subst hs
                  refine Ev.iteF rfl ?_
                  cases hb : busy ms with
                  | false => exact hj5 _ ⟨ms, hB, hmn, rfl⟩
                  | true => exact hj5 _ ⟨_, stepM_ok (start_ok hB), by simp [stepM, start_len]; exact hmn, rfl⟩
                · cases hb : busy ms with
                  | false => exact Ev.bneF rfl (Ev.to (SameD _ (by simp [Delivery_.z]) (by simp [Delivery_.z]) (by simp [Delivery_.z]) (by omega)) (hj6 _ rfl))
                  | true =>
                    have hS := start_ok hB
                    have hn' : (start ms).filter ready ≠ [] := fun e => by have := busy_start.1 e; rw [hb] at this; simp at this
                    have l1 := who_len (p := pickd (least (start ms))) 0 (start ms)
                    have l2 := who_len (p := failF (least (start ms)) (oks (arr (least (start ms)) g))) 0 (start ms)
                    have l3 := (arr_small (f := g) (least_fb hS hn') hm).1
                    have l4 := hS.len
                    exact Ev.bneF rfl (Ev.to (SameD _ (by simp only [if_true, stepD]; omega) (by simp only [if_true, stepD]; omega) (by simp only [if_true, stepD]; omega) (by omega)) (hj6 _ rfl))
              · have hd : ∀ y ∈ x.Frame.Data, byte y := fun y hy => okI_u8.1 (k4.2.2.1.2 y hy)
                refine Ev.to (a := ⟨ms⟩) rfl (Ev.to (Submit_eq hB hd (by omega)) (Ev.to (a := rb ms) rfl (Ev.to (rSubmit_eq hB hd (by omega)) (Ev.bneF rfl ?_))))
                exact hj5 _ ⟨_, put_ok hB hd, by rw [put_len]; exact hmn, rfl⟩
        · exact Ev.ite (fun _ => hj _ trivial) (fun _ => Ev.letP (hj _ trivial))
      · exact Ev.ite (fun _ => Ev.to (Mod_eq 10000 (by omega) (by omega)) (hj _ trivial)) (fun _ => hj _ trivial)
    · exact Ev.iteF rfl (hj _ rfl)
  · by_cases h : 1 ≤ a0 ∧ a0 ≤ 8
    · simp only [if_pos h]; exact Ev.bneF rfl (hj _ rfl)
    · simp only [if_neg h]; exact Ev.bneF rfl (hj _ rfl)
end Lift
