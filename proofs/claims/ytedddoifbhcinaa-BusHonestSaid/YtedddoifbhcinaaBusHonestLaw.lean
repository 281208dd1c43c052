/- The plain law of BusHonest. uses: base crc8 lists sealc frames refframes busf ev busa busb busc dice dicebytes diceframe awake21 busl bush
-/
import Derived.Test.YtedddoifbhcinaaBush
set_option linter.unusedVariables false
set_option linter.unusedSimpArgs false
namespace Lift
open Go
theorem law21_BusHonest_true (a0 : Int) (a1 : List Int) (a2 : List Fault_) (o0 : okI .i64 a0) (o1 : okL (okI .i64) a1) (o2 : okL Fault_.ok a2) : ∃ fuel, law21_BusHonest fuel a0 a1 a2 = some true := by
  refine ⟨10000, Ev.isTrue ?_⟩
  unfold law21_BusHonest
  refine Ev.to (Light_eq 10000 a1) ?_
  refine Ev.join (fun s => s = false → a1.length ≤ 600 ∧ a2.length ≤ 300) (fun s hs => Ev.ite (fun _ => Ev.to (awake_eq (by omega)) (Ev.ret rfl)) (fun hs0 => ?_)) (fun j hj => ?_)
  · obtain ⟨l1, l2⟩ := hs hs0
    refine Ev.to (Mod_eq 10000 (by omega) (by omega)) ?_
    have m1 := Int.emod_nonneg a0 (show (8 : Int) ≠ 0 by omega)
    have m2 := Int.emod_lt_of_pos a0 (show (0 : Int) < 8 by omega)
    obtain ⟨n, hn⟩ : ∃ n : Nat, 1 + a0 % 8 = n := ⟨(1 + a0 % 8).toNat, by omega⟩
    refine Ev.letE (c := (n : Int)) (by rw [w_i64 (by omega) (by omega)]; exact hn) ?_
    refine Ev.bind (loaded_ev (n := n) (by omega) l1) ?_
    rintro _ ⟨ms0, hL, rfl⟩
    have hmk : ∀ x : Int, mk 8 x (n : Int) = some (List.replicate n x) := fun x => by unfold mk; rw [if_pos (by omega)]; simp
    refine Ev.iteF rfl (Ev.to (hmk 0) (Ev.to (hmk 0) ?_))
    simp only
    have hq0 := hL.q
    generalize hT : ms0.map bus_master.queue = T
    have hS0 := Suf.refl (fun m hm => (hq0 m hm).1)
    rw [hT] at hS0
    have hln := hL.len
    refine Ev.join (fun s => ∃ ms, busy ms = false ∧ Suf T ms ∧ ms.length = n ∧ s = (doneOf T ms, some ⟨ms⟩)) (fun s hs => ?_) (fun j hj => ?_)
    · -- the end
      obtain ⟨ms, hb, hS, hmn, rfl⟩ := hs
      have hemp := busy_false hb
      refine Ev.loop (fun r (s : (List Int) × Int × (Option bus_Bus)) => ∃ i : Nat, i ≤ n ∧ r = n - i ∧ s = (doneOf T ms, (i : Int), some ⟨ms⟩)) (fun r s hi self hself => ?_) (n := n) (by omega) ⟨0, by omega, rfl, rfl⟩
      obtain ⟨i, i1, i2, rfl⟩ := hi
      refine Ev.dec (fun hlt => ?_) (fun _ => Ev.to (awake_eq (by omega)) (Ev.ret rfl))
      simp only at hlt
      have him : i < ms.length := by omega
      have hm : ms[i]? = some (ms[i]'him) := by simp
      obtain ⟨t, t1, t2, t3, t4, t5⟩ := hS.at hm
      have hem := hemp _ (List.getElem_mem him)
      generalize ms[i]'him = m at hm t1 t2 t4 t5 hem
      refine Ev.join (fun s => s = (false, some ⟨ms⟩)) (fun s hs => ?_) (fun j3 hj3 => ?_)
      · subst hs
        refine Ev.iteF rfl (Ev.letP ?_)
        simp only
        rw [wi i (by omega)]
        exact hself (n - (i + 1)) _ (by omega) ⟨i + 1, by omega, rfl, by simp⟩
      · refine Ev.to (a := (t.length : Int)) (by rw [idx_nat]; simp only; rw [t5, hem]; simp) (Ev.to (a := t) (by rw [idx_nat]; exact t1) (Ev.letP (Ev.bneF rfl ?_)))
        refine Ev.to (a := ⟨ms⟩) rfl (Ev.to (Pending_eq 10000 _ _) (hj3 _ ?_))
        have : pend ms (i : Int) = 0 := by
          unfold pend
          rw [if_pos (by omega)]
          have : ms.getD ((i : Int)).toNat bus_master.z = m := by simp [List.getD_eq_getElem?_getD, hm]
          rw [this, hem]; rfl
        rw [this]; rfl
    · -- the steps
      refine Ev.loop (fun r (s : Int × (List Int) × (List Int) × (Option bus_Bus)) => ∃ (i : Nat) (ms : List bus_master), r = 160 - i ∧ s = ((i : Int), doneOf T ms, ms.map bus_master.tries, some ⟨ms⟩) ∧ BOk ms ∧ ms.length = n ∧ Suf T ms ∧ pot ms + (i : Int) ≤ 128)
        (fun r s hi self hself => ?_) (n := 160) (by omega) ⟨0, ms0, rfl, ?_, hL.b, hL.len, hS0.1, ?_⟩
      · obtain ⟨i, ms, i1, rfl, hB, hmn, hS, hpot⟩ := hi
        have hnn := pot_nn hB.ok
        refine Ev.decT (by simp only; omega) ?_
        refine Ev.join (fun g => byte g.Mask) (fun g hm => ?_) (fun j4 hj4 => ?_)
        · refine Ev.to (a := ⟨ms⟩) rfl (Ev.to (Step_eq hB hm (by omega)) ?_)
          cases hb : busy ms with
          | false => exact Ev.iteT rfl (hj _ ⟨ms, hb, hS, hmn, rfl⟩)
          | true =>
            simp only [if_true]
            refine Ev.iteF rfl ?_
            have hfl : (start ms).filter ready ≠ [] := fun e => by have := busy_start.1 e; rw [hb] at this; simp at this
            have hBS := start_ok hB
            obtain ⟨sq1, sq2⟩ := start_q ms
            obtain ⟨hSS, hdo⟩ := Suf.congr sq1 hS
            have hps := pot_congr sq1 sq2
            have hSl := start_len ms
            rw [← hdo, ← sq2]
            generalize start ms = S at *
            have hfb := least_fb hBS hfl
            have hpx := pick_ex hfl
            have hBM := stepM_ok (f := g) hBS
            have hl8 := hBS.len
            obtain ⟨p1, p2⟩ := pot_step (b := least S) (ok := oks (arr (least S) g)) hBS.ok
            have p3 := p2 hpx
            have hsame := fun ho => arr_same hfb hm ho
            have hsm := arr_small hfb hm
            show Ev (loopP _ 10000 (0, doneOf T S, S.map bus_master.tries)) _
            unfold stepD stepM at *
            simp only
            generalize arr (least S) g = y at *
            generalize oks y = ok at *
            have hok : ok = true → y = least S ∧ g.Kind ≠ 1 := hsame
            clear hsame
            generalize least S = b at *
            have fid : ∀ m : bus_master, pickd b m = false → stepF b ok m = m := fun m hm => by simp [stepF, hm]
            have w1' := who_len (p := pickd b) 0 S
            have w2' := who_len (p := failF b ok) 0 S
            refine Ev.loop (fun r (s : Int × (List Int) × (List Int)) => ∃ (pre post : List bus_master), S = pre ++ post ∧ s = (((who (pickd b) 0 pre).length : Int), doneOf T (pre.map (stepF b ok) ++ post), (pre.map (stepF b ok) ++ post).map bus_master.tries) ∧ r = (who (pickd b) 0 S).length - (who (pickd b) 0 pre).length ∧ Suf T (pre.map (stepF b ok) ++ post))
              (fun r s hi self3 hself3 => ?_) (n := (who (pickd b) 0 S).length) (by omega) ⟨[], S, rfl, rfl, by simp [who], hSS⟩
            obtain ⟨pre, post, e1, rfl, e4, hSu⟩ := hi
            have w1 := who_len (p := pickd b) 0 pre
            have hlp : pre.length ≤ S.length := by rw [e1]; simp
            refine Ev.dec (fun hlt => ?_) (fun hge => ?_)
            · simp only at hlt
              obtain ⟨mid, x, post', q1, q2, hp, q4, q5⟩ := who_next (p := pickd b) (pre := pre) (post := post) (by rw [← e1]; omega)
              rw [← e1] at q4
              have hxm : x ∈ S := by rw [e1, q1]; simp
              have q3 : ready x = true := by simp only [pickd, Bool.and_eq_true] at hp; exact hp.1
              have hxb : qhead x = b := by simp only [pickd, Bool.and_eq_true, decide_eq_true_eq] at hp; exact hp.2
              obtain ⟨qx, qs, qe, qh⟩ := ready_queue q3
              have hx := hBS.ok x hxm
              have hA : (pre.map (stepF b ok) ++ mid).length = (pre ++ mid).length := by simp
              have hsp : pre.map (stepF b ok) ++ post = (pre.map (stepF b ok) ++ mid) ++ x :: post' := by rw [q1]; simp
              have hmid : mid.map (stepF b ok) = mid := by
                conv => rhs; rw [← List.map_id mid]
                exact List.map_congr_left (fun z hz => fid z (q2 z hz))
              have hS2 : S = (pre ++ mid ++ [x]) ++ post' := by rw [e1, q1]; simp
              have km : (pre ++ mid ++ [x]).map (stepF b ok) ++ post' = (pre.map (stepF b ok) ++ mid) ++ stepF b ok x :: post' := by rw [List.map_append, List.map_append, hmid]; simp
              have hjn : (pre ++ mid).length < S.length := by rw [hS2]; simp
              have hSx : S[(pre ++ mid).length]? = some x := by rw [hS2]; simp
              have hgx : (pre.map (stepF b ok) ++ post)[(pre ++ mid).length]? = some x := by rw [hsp, ← hA]; simp
              obtain ⟨t, t1, t2, t3, t4, t5⟩ := hSu.at hgx
              generalize hN : (pre ++ mid).length = N at *
              have hset : ∀ z, (pre.map (stepF b ok) ++ post).set N z = (pre.map (stepF b ok) ++ mid) ++ z :: post' := by
                intro z; rw [hsp, ← hA]; simp
              have hqs : (stepF b ok x).queue = x.queue ∨ (stepF b ok x).queue = x.queue.tail := by
                simp only [stepF, hp, if_true, hit]; split
                · exact .inr rfl
                · exact .inl rfl
              obtain ⟨u1, u2⟩ := hSu.set hgx hqs
              rw [hset] at u1 u2
              have hTg : T.getD N [] = t := by simp [List.getD_eq_getElem?_getD, t1]
              rw [hTg] at u2
              have htl : 1 ≤ x.queue.length := by rw [qe]; simp
              have hti : ((pre.map (stepF b ok) ++ post).map bus_master.tries)[N]? = some x.tries := by rw [List.getElem?_map, hgx]; rfl
              have hlo := hx.lo
              have hhi := hx.hi
              have wt : IntKind.i64.wrap (x.tries + 1) = x.tries + 1 := w_i64 (by omega) (by omega)
              have hTl := hSu.len
              have hLl : (pre.map (stepF b ok) ++ post).length = n := by rw [List.length_append, List.length_map, ← List.length_append, ← e1]; omega
              have next : ∀ D R, D = doneOf T ((pre.map (stepF b ok) ++ mid) ++ stepF b ok x :: post') → R = ((pre.map (stepF b ok) ++ mid) ++ stepF b ok x :: post').map bus_master.tries → Ev (self3 (((who (pickd b) 0 pre).length : Int) + 1, D, R)) (fun b => b = true) := by
                intro D R hD hR
                refine hself3 ((who (pickd b) 0 S).length - ((who (pickd b) 0 pre).length + 1)) _ (by omega) ⟨pre ++ mid ++ [x], post', hS2, ?_, by rw [q5], by rw [km]; exact u1⟩
                rw [q5, km, hD, hR]; rfl
              have hfm : ((N : Int) ∈ who (failF b ok) 0 S) ↔ (ok = false ∧ gone x = true) := by
                rw [who_mem]
                constructor
                · rintro ⟨k, z, k1, k2, k3⟩
                  have : k = N := by omega
                  subst this
                  rw [hSx] at k1
                  simp only [Option.some.injEq] at k1
                  subst k1
                  simp only [failF, hp, Bool.true_and, Bool.and_eq_true, Bool.not_eq_true'] at k2
                  exact k2
                · rintro ⟨k1, k2⟩
                  exact ⟨N, x, hSx, by simp [failF, hp, k1, k2], by simp⟩
              refine Ev.to (a := (N : Int)) (by simp only; rw [idx_nat]; exact q4) ?_
              refine Ev.join (fun s => s = false) (fun s hs => ?_) (fun j5 hj5 => ?_)
              · subst hs
                simp only
                refine Ev.iteF rfl (Ev.to (a := x.tries) (by rw [idx_nat]; exact hti) (Ev.to (a := x.tries) (by rw [idx_nat]; exact hti) ?_))
                refine Ev.letE (c := ((pre.map (stepF b ok) ++ post).map bus_master.tries).set N (x.tries + 1)) (by rw [wt]; rfl) ?_
                refine Ev.to (a := t) (by rw [idx_nat]; exact t1) (Ev.to (a := (t.length : Int) - (x.queue.length : Int)) (by rw [idx_nat]; exact t5) ?_)
                have hfirst : idx t ((t.length : Int) - (x.queue.length : Int)) = some b := by
                  have e5 : (t.length : Int) - (x.queue.length : Int) = ((t.length - x.queue.length : Nat) : Int) := by omega
                  rw [e5, idx_nat]
                  have h6 : (t.drop (t.length - x.queue.length))[0]? = some qx := by rw [← t4, qe]; rfl
                  rw [List.getElem?_drop] at h6
                  simpa [← hxb, qh] using h6
                refine Ev.to hfirst (Ev.to (a := x.tries + 1) (by rw [idx_nat, List.getElem?_set_self (by rw [List.length_map, hLl]; omega)]) (Ev.letE (c := gone x) (by rw [gone, Bool.eq_iff_iff, beq_iff_eq, decide_eq_true_eq]; omega) ?_))
                refine Ev.join (fun s => s = false) (fun s hs => ?_) (fun j6 hj6 => ?_)
                · subst hs
                  refine Ev.iteF rfl ?_
                  refine Ev.join (fun s => s = (ok || gone x)) (fun s hs => ?_) (fun j7 hj7 => ?_)
                  · subst hs
                    refine Ev.ite (fun ht => ?_) (fun hnt => ?_)
                    · have hst : stepF b ok x = ⟨x.queue.tail, 0, true⟩ := by
                        simp only [stepF, hp, if_true, hit]
                        rw [if_pos (show (ok || decide (4 ≤ x.tries + 1)) = true from ht)]
                      rw [hst] at u2
                      refine Ev.to (a := (t.length : Int) - (x.queue.length : Int)) (by rw [idx_nat]; exact t5) (Ev.to (a := (t.length : Int) - (x.queue.length : Int)) (by rw [idx_nat]; exact t5) ?_)
                      rw [w_i64 (by omega) (by omega)]
                      refine Ev.letP (Ev.to (a := x.tries + 1) (by rw [idx_nat, List.getElem?_set_self (by rw [List.length_map, hLl]; omega)]) (Ev.letP (Ev.letP ?_)))
                      rw [wi _ (by omega)]
                      refine next _ _ ?_ ?_
                      · rw [hst, u2]
                        unfold upd
                        congr 1
                        rw [qe]; simp only [List.tail_cons, List.length_cons]; omega
                      · rw [hst, ← hset, List.map_set]
                        simp [upd]
                    · have hst : stepF b ok x = ⟨x.queue, x.tries + 1, true⟩ := by
                        simp only [stepF, hp, if_true, hit]
                        rw [if_neg (by rw [show (ok || decide (4 ≤ x.tries + 1)) = false from hnt]; simp)]
                      rw [hst] at u2
                      refine Ev.letP ?_
                      rw [wi _ (by omega)]
                      refine next _ _ ?_ ?_
                      · rw [hst, u2]
                        simp only
                        exact (set_self t5).symm
                      · rw [hst, ← hset, List.map_set]
                  · refine Ev.ite (fun h => hj7 _ (by rw [h]; rfl)) (fun h => hj7 _ (by rw [h]; rfl))
                · have fl : ok = false → Ev (bindP (law21_among 10000 (who (failF b ok) 0 S) (N : Int)) fun y10 => j6 (y10 != gone x)) (fun b => b = true) := by
                    intro h
                    refine Ev.to (among_eq (by omega) (by omega)) (hj6 _ ?_)
                    cases hg : gone x with
                    | true => rw [decide_eq_true (hfm.2 ⟨h, hg⟩)]; rfl
                    | false => rw [decide_eq_false (fun hh => by have := (hfm.1 hh).2; rw [hg] at this; simp at this)]; rfl
                  refine Ev.ite (fun h => ?_) (fun h => ?_)
                  · obtain ⟨k1, k2⟩ := hok h
                    rw [k1]
                    have hlb := hfb.2.2.1
                    refine Ev.to (Same_eq (by omega) (by omega)) (Ev.iteF (by simp) (Ev.beqF k2 (Ev.iteF (by rw [h]; rfl) (hj6 _ rfl))))
                  · exact Ev.iteT (by rw [h]; rfl) (fl h)
              · refine Ev.letP (Ev.decF (by omega) (Ev.letP (Ev.decF (by omega) ?_)))
                simp only
                refine Ev.to (a := (t.length : Int) - (x.queue.length : Int)) (by rw [idx_nat]; exact t5) (Ev.to (a := t) (by rw [idx_nat]; exact t1) (hj5 _ ?_))
                rw [decide_eq_false_iff_not]; omega
            · have hno := who_end (p := pickd b) (pre := pre) (post := post) (by rw [← e1]; simp only at hge; omega)
              have z3 : S.map (stepF b ok) = pre.map (stepF b ok) ++ post := by
                rw [e1, List.map_append]
                congr 1
                conv => rhs; rw [← List.map_id post]
                exact List.map_congr_left (fun z hz => fid z (hno z hz))
              rw [← z3] at hSu ⊢
              refine Ev.loop (fun r (s : Int) => ∃ k : Nat, k ≤ (who (failF b ok) 0 S).length ∧ r = (who (failF b ok) 0 S).length - k ∧ s = (k : Int)) (fun r s hi self4 hself4 => ?_) (n := (who (failF b ok) 0 S).length) (by omega) ⟨0, by omega, rfl, rfl⟩
              obtain ⟨k, k1, k2, rfl⟩ := hi
              refine Ev.dec (fun hlt => ?_) (fun hge => ?_)
              · have hkl : k < (who (failF b ok) 0 S).length := by omega
                have hmem := List.getElem_mem hkl
                have hidx : idx (who (failF b ok) 0 S) (k : Int) = some ((who (failF b ok) 0 S)[k]'hkl) := by rw [idx_nat]; simp
                generalize (who (failF b ok) 0 S)[k]'hkl = v at hmem hidx
                obtain ⟨i', x, x1, x2, x3⟩ := who_mem.1 hmem
                simp only [failF, Bool.and_eq_true, Bool.not_eq_true'] at x2
                refine Ev.join (fun s => s = false) (fun s hs => ?_) (fun j8 hj8 => ?_)
                · subst hs
                  refine Ev.iteF rfl (Ev.letP ?_)
                  rw [wi k (by omega)]
                  exact hself4 ((who (failF b ok) 0 S).length - (k + 1)) _ (by omega) ⟨k + 1, by omega, rfl, by simp⟩
                · refine Ev.letP (Ev.iteF x2.1 (Ev.to hidx (Ev.to (among_eq (by omega) (by omega)) (hj8 _ ?_))))
                  rw [decide_eq_true (who_mem.2 ⟨i', x, x1, x2.2.1, x3⟩)]; rfl
              · refine Ev.letP ?_
                simp only
                rw [wi i (by omega)]
                exact hself (160 - (i + 1)) _ (by omega) ⟨i + 1, S.map (stepF b ok), rfl, by simp, hBM, by simp; omega, hSu, by push_cast; omega⟩
        · refine Ev.dec (fun hlt => ?_) (fun _ => hj4 _ ⟨by decide, by decide⟩)
          simp only at hlt
          have hil : i < a2.length := by omega
          refine Ev.to (a := a2[i]'hil) (by simp only; rw [idx_nat]; simp) ?_
          obtain ⟨g, eg, hg⟩ := fault_ev (fuel := 10000) (a2[i]'hil)
          refine Ev.to eg (hj4 _ ?_)
          rw [hg]
          exact okI_u8.1 (o2.2 _ (List.getElem_mem hil)).2.2.1
      · rw [hS0.2]
        have : ms0.map bus_master.tries = List.replicate n 0 := by
          rw [← hln]
          have key : ∀ l : List bus_master, (∀ m ∈ l, m.queue.length ≤ 4 ∧ m.tries = 0 ∧ m.served = false) → l.map bus_master.tries = List.replicate l.length 0 := by
            intro l
            induction l with
            | nil => intro _; rfl
            | cons x l ih => intro h; simp only [List.map_cons, List.length_cons, List.replicate_succ, (h x (by simp)).2.1, ih (fun y hy => h y (by simp [hy]))]
          exact key ms0 hq0
        rw [this, hln]; rfl
      · have := pot_load hq0
        omega
  · refine Ev.not (Ev.dec (fun h => hj _ (fun h2 => ?_)) (fun h => hj _ (by simp)))
    simp only [decide_eq_false_iff_not] at h2
    omega
end Lift
