/- The reference's bus: the same steps. No program in sight. -/
import Derived.Test.YtedddoifbhcinaaBusc
import Derived.Test.YtedddoifbhcinaaRdecode
set_option linter.unusedVariables false
set_option linter.unusedSimpArgs false
namespace Lift
open Go

def cv (m : bus_master) : ref21_Master := ⟨m.queue, m.tries, m.served⟩
def rb (ms : List bus_master) : ref21_Bus := ⟨ms.map cv⟩
theorem rNew_eq (fuel : Nat) (n : Int) : ref21_New fuel n = some (if 1 ≤ n ∧ n ≤ 8 then (some (rb (newB n.toNat)), 0) else (none, 2)) := by
  unfold ref21_New
  simp only [joinP_eq]
  by_cases h1 : n < 1
  · simp only [decide_eq_true h1, iteP_true]; rw [if_neg (by omega)]
  · simp only [decide_eq_false h1, iteP_false]
    by_cases h2 : n > 8
    · simp only [decide_eq_true h2, iteP_true]; rw [if_neg (by omega)]
    · simp only [decide_eq_false h2, iteP_false]
      have : mk 40 ref21_Master.z n = some (List.replicate n.toNat ref21_Master.z) := by unfold mk; rw [if_pos ⟨by omega, by omega⟩]
      rw [this, bindP_some, if_pos (by omega)]
      simp [rb, newB, cv, bus_master.z, ref21_Master.z]
theorem cv_idx {ms : List bus_master} {n : Int} {m : bus_master} (h : idx ms n = some m) : idx (ms.map cv) n = some (cv m) := by
  obtain ⟨h0, h1, h2⟩ := idx_some h
  unfold idx
  rw [if_pos h0, List.getElem?_map, h2]; rfl
theorem cv_upd {ms : List bus_master} {n : Int} {m : bus_master} : upd (ms.map cv) n (cv m) = (upd ms n m).map cv := by simp [upd, List.map_set]
theorem rSubmit_eq {fuel : Nat} {ms : List bus_master} {n : Int} {f : Frame_} (h : BOk ms) (hd : ∀ x ∈ f.Data, byte x) (hf : 5000 < fuel) : ref21_Bus_Submit fuel (rb ms) n f = some ((put ms n f).1, rb (put ms n f).2) := by
  unfold ref21_Bus_Submit put
  simp only [joinP_eq]
  by_cases h0 : n < 0
  · simp only [decide_eq_true h0, iteP_true]; rw [if_neg (by omega)]
  · simp only [decide_eq_false h0, iteP_false]
    by_cases h1 : n < (ms.length : Int)
    · have hn : 0 ≤ n ∧ n < (ms.length : Int) := ⟨by omega, h1⟩
      rw [show decide (n ≥ ((rb ms).Masters.length : Int)) = false by simp [rb]; omega]
      simp only [iteP_false, rEncode_eq hd hf, bindP_some, enc_err]
      rw [if_pos hn]
      have hm := h.ok _ (getD_mem (z := bus_master.z) hn)
      have hl := hm.len
      have hi := cv_idx (getD_at (z := bus_master.z) hn)
      cases hv : valid f with
      | false => simp
      | true =>
        simp only [if_true, bne_self_eq_false, iteP_false, rb, hi, bindP_some, letP_eq]
        by_cases hq : (ms.getD n.toNat bus_master.z).queue.length < 16
        · rw [show decide (((cv (ms.getD n.toNat bus_master.z)).Queue.length : Int) ≥ 16) = false from decide_eq_false (by simp only [cv]; omega), iteP_false, app_one (by simp only [cv]; omega) (by omega), bindP_some, if_pos hq]
          rw [← cv_upd]; rfl
        · rw [show decide (((cv (ms.getD n.toNat bus_master.z)).Queue.length : Int) ≥ 16) = true from decide_eq_true (by simp only [cv]; omega), iteP_true, if_neg hq]
    · rw [show decide (n ≥ ((rb ms).Masters.length : Int)) = true by simp [rb]; omega]
      simp only [iteP_true]; rw [if_neg (by omega)]
theorem rPending_eq (fuel : Nat) (ms : List bus_master) (n : Int) : ref21_Bus_Pending fuel (rb ms) n = some (pend ms n) := by
  unfold ref21_Bus_Pending pend
  simp only [joinP_eq]
  by_cases h0 : n < 0
  · simp only [decide_eq_true h0, iteP_true]; rw [if_neg (by omega)]
  · simp only [decide_eq_false h0, iteP_false]
    by_cases h1 : n < (ms.length : Int)
    · have hn : 0 ≤ n ∧ n < (ms.length : Int) := ⟨by omega, h1⟩
      rw [show decide (n ≥ ((rb ms).Masters.length : Int)) = false by simp [rb]; omega]
      simp only [iteP_false, rb, cv_idx (getD_at (z := bus_master.z) hn), bindP_some]
      rw [if_pos hn]; rfl
    · rw [show decide (n ≥ ((rb ms).Masters.length : Int)) = true by simp [rb]; omega]
      simp only [iteP_true]; rw [if_neg (by omega)]
theorem waits_eq {fuel : Nat} {ms : List bus_master} {i : Int} {m : bus_master} {u : Bool} (h : idx ms i = some m) : ref21_Bus_waits fuel (rb ms) i u = some (wait m && !(u && m.served)) := by
  unfold ref21_Bus_waits
  have hi := cv_idx h
  simp only [rb, hi, bindP_some, letP_eq]
  have hq : decide (((cv m).Queue.length : Int) > 0) = wait m := by
    unfold wait cv
    cases m.queue with
    | nil => simp
    | cons x l => simp <;> omega
  rw [hq]
  cases wait m <;> cases u <;> rfl
theorem anyone_eq {fuel : Nat} {ms : List bus_master} {u : Bool} (h : BOk ms) (hf : 5000 < fuel) : ref21_Bus_anyone fuel (rb ms) u = some (ms.any (fun m => wait m && !(u && m.served))) := by
  have hl := h.len
  refine Ev.eq.1 ?_
  unfold ref21_Bus_anyone
  refine Ev.loop (fun r (s : Int) => ∃ pre post, ms = pre ++ post ∧ s = (pre.length : Int) ∧ r = ms.length - pre.length ∧ pre.any (fun m => wait m && !(u && m.served)) = false) (fun r s hi self hself => ?_) (n := ms.length) (by omega) ⟨[], ms, rfl, rfl, rfl, rfl⟩
  obtain ⟨pre, post, e1, rfl, e3, e4⟩ := hi
  have hlp : pre.length ≤ ms.length := by rw [e1]; simp
  cases post with
  | nil =>
    refine Ev.decF (by rw [e1]; simp [rb]) (Ev.ret ?_)
    rw [e1, List.append_nil, e4]
  | cons x post =>
    have hlt : pre.length < ms.length := by rw [e1]; simp
    refine Ev.decT (by simp [rb]; omega) ?_
    refine Ev.to (waits_eq (m := x) (by rw [e1]; exact idx_at)) ?_
    refine Ev.ite (fun ht => Ev.ret ?_) (fun hf' => Ev.letP ?_)
    · rw [e1, List.any_append, List.any_cons, ht]; simp
    · rw [wi _ (by omega)]
      refine hself (ms.length - (pre.length + 1)) _ (by omega) ⟨pre ++ [x], post, by rw [e1]; simp, by simp, by simp, ?_⟩
      rw [List.any_append, e4]
      simpa using hf'
theorem any_ready (ms : List bus_master) : ms.any (fun m => wait m && !(true && m.served)) = ms.any ready := by congr 1
theorem any_wait (ms : List bus_master) : ms.any (fun m => wait m && !(false && m.served)) = busy ms := by
  unfold busy; congr 1; first | done | (funext m; simp)
theorem ready_eq (m : bus_master) : (wait m && !(true && m.served)) = ready m := rfl
theorem filter_one {pre : List bus_master} {x : bus_master} : (pre ++ [x]).filter ready = if ready x then pre.filter ready ++ [x] else pre.filter ready := by
  rw [List.filter_append]
  cases h : ready x <;> simp [h]
theorem rStep_eq {fuel : Nat} {ms : List bus_master} {f : Fault_} (h : BOk ms) (hm : byte f.Mask) (hf : 5000 < fuel) :
    ref21_Bus_Step fuel (rb ms) f = some (if busy ms then (stepD (start ms) f, true, rb (stepM (start ms) f)) else (Delivery_.z, false, rb ms)) := by
  refine Ev.eq.1 ?_
  unfold ref21_Bus_Step
  refine Ev.to (anyone_eq h hf) ?_
  rw [any_wait]
  cases hb : busy ms with
  | false => exact Ev.iteT rfl (Ev.ret rfl)
  | true =>
    refine Ev.iteF rfl ?_
    simp only [if_true]
    refine Ev.to (anyone_eq h hf) ?_
    rw [any_ready]
    have hn : (start ms).filter ready ≠ [] := fun e => by have := busy_start.1 e; rw [hb] at this; simp at this
    have hS := start_ok h
    refine Ev.join (fun s => s = rb (start ms)) (fun s hs => ?_) (fun j hj => ?_)
    · subst hs
      clear hb
      generalize start ms = S at hn hS
      have hl := hS.len
      have hRl : ((rb S).Masters.length : Int) = (S.length : Int) := by simp [rb]
      simp only [hRl]
      -- the least frame
      refine Ev.loop (fun r (s : (List Int) × Int) => ∃ pre post, S = pre ++ post ∧ s = (least pre, (pre.length : Int)) ∧ r = S.length - pre.length) (fun r s hi self hself => ?_) (n := S.length) (by omega) ⟨[], S, rfl, rfl, rfl⟩
      obtain ⟨pre, post, e1, rfl, e3⟩ := hi
      have hlp : pre.length ≤ S.length := by rw [e1]; simp
      cases post with
      | cons x post =>
        have hlt : pre.length < S.length := by rw [e1]; simp
        have hxm : x ∈ S := by rw [e1]; simp
        have hix : idx S (pre.length : Int) = some x := by rw [e1]; exact idx_at
        have hrx := cv_idx hix
        refine Ev.decT (by simp only; omega) ?_
        refine Ev.to (waits_eq hix) ?_
        rw [ready_eq]
        have next : ∀ b, b = least (pre ++ [x]) → Ev (self (b, (pre.length : Int) + 1)) (fun r => r = (stepD S f, true, rb (stepM S f))) := by
          intro b hb
          exact hself (S.length - (pre.length + 1)) _ (by omega) ⟨pre ++ [x], post, by rw [e1]; simp, by rw [hb]; simp, by simp⟩
        refine Ev.join (fun s => s = (ready x && (decide (least pre = []) || decide (cmpL (qhead x) (least pre) < 0)))) (fun s hs => ?_) (fun j hj => ?_)
        · subst hs
          have hls : least (pre ++ [x]) = if ready x then (if pre.filter ready = [] then qhead x else if cmpL (qhead x) (least pre) < 0 then qhead x else least pre) else least pre := by
            unfold least
            rw [filter_one]
            cases hr : ready x with
            | false => rfl
            | true =>
              simp only [if_true]
              by_cases hp : pre.filter ready = []
              · rw [hp]; simp [minL]
              · rw [if_neg hp, List.map_append]
                exact minL_snoc (by simpa using hp)
          have hl0 : least pre = [] ↔ pre.filter ready = [] := by
            constructor
            · intro e
              refine Classical.byContradiction fun hp => ?_
              obtain ⟨m, hm', hr', he⟩ := least_mem hp
              have := (head_fb (hS.ok m (by rw [e1]; simp [hm'])) hr').2.1
              rw [he, e] at this; simp at this
            · intro e; unfold least; rw [e]; rfl
          refine Ev.ite (fun ht => ?_) (fun hf' => ?_)
          · simp only [Bool.and_eq_true, Bool.or_eq_true, decide_eq_true_eq] at ht
            obtain ⟨qx, qs, qe, qh⟩ := ready_queue ht.1
            refine Ev.to hrx ?_
            refine Ev.to (a := qhead x) (by simp only [cv]; rw [qe, qh]; rfl) ?_
            refine Ev.letP ?_
            simp only
            rw [wi _ (by omega)]
            refine next _ ?_
            rw [hls, ht.1]
            simp only [if_true]
            rcases ht.2 with h' | h'
            · rw [if_pos (hl0.1 h')]
            · split
              · rfl
              · first | rfl | rw [if_pos h']
          · refine Ev.letP ?_
            simp only
            rw [wi _ (by omega)]
            refine next _ ?_
            rw [hls]
            cases hr : ready x with
            | false => rfl
            | true =>
              rw [hr] at hf'
              simp only [Bool.true_and, Bool.or_eq_false_iff, decide_eq_false_iff_not] at hf'
              simp only [if_true]
              rw [if_neg (fun e => hf'.1 (hl0.2 e)), if_neg hf'.2]
        · refine Ev.ite (fun hr => ?_) (fun hr => ?_)
          · obtain ⟨qx, qs, qe, qh⟩ := ready_queue hr
            refine Ev.beq (fun h0 => ?_) (fun h0 => ?_)
            · refine hj _ ?_
              have : least pre = [] := List.eq_nil_of_length_eq_zero (by simp only at h0; omega)
              rw [hr, this]; simp
            · have hne : least pre ≠ [] := fun e => h0 (by simp only; rw [e]; rfl)
              refine Ev.to hrx ?_
              refine Ev.to (a := qhead x) (by simp only [cv]; rw [qe, qh]; rfl) ?_
              have hfx := head_fb (hS.ok x hxm) hr
              have hpf : pre.filter ready ≠ [] := fun e => hne (by unfold least; rw [e]; rfl)
              obtain ⟨m, hm', hr', he⟩ := least_mem hpf
              have hfl := head_fb (hS.ok m (by rw [e1]; simp [hm'])) hr'
              rw [he] at hfl
              refine Ev.to (rCompare_eq (b := least pre) (by have := hfx.2.2; omega) (by have := hfl.2.2; omega) (by have := hfx.2.2; omega)) ?_
              refine hj _ ?_
              rw [hr]; simp [hne]
          · refine hj _ ?_
            rw [hr]; rfl
      | nil =>
        rw [List.append_nil] at e1
        subst e1
        refine Ev.decF (by simp only; omega) ?_
        have hfb := least_fb hS hn
        have pid : ∀ b (m : bus_master), ready m = false → pickd b m = false := fun b m hm => by simp [pickd, hm]
        -- the masters of the least frame
        refine Ev.loop (fun r (s : Int × (List Int)) => ∃ pre post, S = pre ++ post ∧ s = ((pre.length : Int), who (pickd (least S)) 0 pre) ∧ r = S.length - pre.length) (fun r s hi self2 hself2 => ?_) (n := S.length) (by omega) ⟨[], S, rfl, rfl, rfl⟩
        obtain ⟨pre, post, e1, rfl, e3⟩ := hi
        have hlp : pre.length ≤ S.length := by rw [e1]; simp
        have w2 := who_len (p := pickd (least S)) 0 pre
        cases post with
        | cons x post =>
          have hlt : pre.length < S.length := by rw [e1]; simp
          have hxm : x ∈ S := by rw [e1]; simp
          have hix : idx S (pre.length : Int) = some x := by rw [e1]; exact idx_at
          have hrx := cv_idx hix
          have pm : who (pickd (least S)) 0 (pre ++ [x]) = who (pickd (least S)) 0 pre ++ (if pickd (least S) x then [(pre.length : Int)] else []) := by
            rw [who_app]; simp [who]
          refine Ev.decT (by simp only; omega) ?_
          refine Ev.to (waits_eq hix) ?_
          rw [ready_eq]
          refine Ev.join (fun s => s = pickd (least S) x) (fun s hs => ?_) (fun j hj => ?_)
          · subst hs
            refine Ev.ite (fun ht => ?_) (fun hf' => ?_)
            · refine Ev.to (app_one (by simp only; omega) (by omega)) (Ev.letP ?_)
              simp only
              rw [wi _ (by omega)]
              exact hself2 (S.length - (pre.length + 1)) _ (by omega) ⟨pre ++ [x], post, by rw [e1]; simp, by rw [pm, if_pos ht]; simp, by simp⟩
            · refine Ev.letP ?_
              simp only
              rw [wi _ (by omega)]
              exact hself2 (S.length - (pre.length + 1)) _ (by omega) ⟨pre ++ [x], post, by rw [e1]; simp, by rw [pm, if_neg (by rw [hf']; simp)]; simp, by simp⟩
          · refine Ev.ite (fun hr => ?_) (fun hr => ?_)
            · obtain ⟨qx, qs, qe, qh⟩ := ready_queue hr
              refine Ev.to hrx ?_
              refine Ev.to (a := qhead x) (by simp only [cv]; rw [qe, qh]; rfl) ?_
              have hfx := head_fb (hS.ok x hxm) hr
              refine Ev.to (rCompare_eq (b := least S) (by have := hfx.2.2; omega) (by have := hfb.2.2; omega) (by have := hfx.2.2; omega)) ?_
              refine hj _ ?_
              simp only [pickd, hr, Bool.true_and]
              by_cases hc : qhead x = least S
              · rw [hc, cmpL_self]; simp
              · rw [decide_eq_false hc, beq_eq_false_iff_ne]; exact fun e => hc (cmpL_eq0 _ _ e)
            · exact hj _ (by simp [pickd, hr])
        | nil =>
          rw [List.append_nil] at e1
          subst e1
          refine Ev.decF (by simp only; omega) ?_
          show Ev _ (fun r => r = (stepD S f, true, rb (stepM S f)))
          unfold stepD stepM
          have hsm := arr_small hfb hm
          refine Ev.join (fun s => s = ((⟨who (pickd (least S)) 0 S, [], oks (arr (least S) f), []⟩ : Delivery_), arr (least S) f)) (fun s hs => ?_) (fun j hj => ?_)
          · subst hs
            generalize oks (arr (least S) f) = ok
            generalize arr (least S) f = y
            have hbb := hfb.1
            generalize least S = b at hbb
            have fid : ∀ m : bus_master, pickd b m = false → stepF b ok m = m := fun m hm => by simp [stepF, hm]
            have qid : ∀ m : bus_master, pickd b m = false → failF b ok m = false := fun m hm => by simp [failF, hm]
            refine Ev.loop (fun r (s : Int × ref21_Bus × (List Int)) => ∃ (pre post : List bus_master), S = pre ++ post ∧ s = (((who (pickd b) 0 pre).length : Int), rb (pre.map (stepF b ok) ++ post), who (failF b ok) 0 pre) ∧ r = (who (pickd b) 0 S).length - (who (pickd b) 0 pre).length)
              (fun r s hi self3 hself3 => ?_) (n := (who (pickd b) 0 S).length) (by have := who_len (p := pickd b) 0 S; omega) ⟨[], S, rfl, rfl, by simp [who]⟩
            obtain ⟨pre, post, e1, rfl, e4⟩ := hi
            have w1 := who_len (p := pickd b) 0 pre
            have w3 := who_len (p := failF b ok) 0 pre
            have hlp : pre.length ≤ S.length := by rw [e1]; simp
            refine Ev.dec (fun hlt => ?_) (fun hge => ?_)
            · simp only at hlt
              obtain ⟨mid, x, post', q1, q2, hp, q4, q5⟩ := who_next (p := pickd b) (pre := pre) (post := post) (by rw [← e1]; omega)
              rw [← e1] at q4
              have hxm : x ∈ S := by rw [e1, q1]; simp
              have q3 : ready x = true := by simp only [pickd, Bool.and_eq_true] at hp; exact hp.1
              obtain ⟨qx, qs, qe, qh⟩ := ready_queue q3
              have hx := hS.ok x hxm
              have hA : (pre.map (stepF b ok) ++ mid).length = (pre ++ mid).length := by simp
              have hsp : pre.map (stepF b ok) ++ post = (pre.map (stepF b ok) ++ mid) ++ x :: post' := by rw [q1]; simp
              have hmid : mid.map (stepF b ok) = mid := by
                conv => rhs; rw [← List.map_id mid]
                exact List.map_congr_left (fun z hz => fid z (q2 z hz))
              have hmono : (who (pickd b) 0 (pre ++ mid ++ [x])).length ≤ (who (pickd b) 0 S).length := by
                have h1 : S = (pre ++ mid ++ [x]) ++ post' := by rw [e1, q1]; simp
                have h2 := who_app (p := pickd b) 0 (pre ++ mid ++ [x]) post'
                rw [← h1] at h2
                rw [h2, List.length_append]; exact Nat.le_add_right _ _
              have hS2 : S = (pre ++ mid ++ [x]) ++ post' := by rw [e1, q1]; simp
              have fm : who (failF b ok) 0 (pre ++ mid ++ [x]) = who (failF b ok) 0 pre ++ (if failF b ok x then [(((pre ++ mid).length : Nat) : Int)] else []) := by
                rw [who_app, who_app, who_none (l := mid) (fun z hz => qid z (q2 z hz))]
                simp [who]
              have mm : ∀ y, (pre.map (stepF b ok) ++ mid) ++ y :: post' = (pre ++ mid).map (stepF b ok) ++ y :: post' := fun y => by rw [List.map_append, hmid]
              have km : (pre ++ mid ++ [x]).map (stepF b ok) ++ post' = (pre.map (stepF b ok) ++ mid) ++ stepF b ok x :: post' := by rw [mm, List.map_append]; simp
              have next : ∀ B F, B = rb ((pre.map (stepF b ok) ++ mid) ++ stepF b ok x :: post') → F = who (failF b ok) 0 pre ++ (if failF b ok x then [(((pre ++ mid).length : Nat) : Int)] else []) →
                  Ev (self3 (((who (pickd b) 0 pre).length : Int) + 1, B, F)) (fun r => r = (⟨who (pickd b) 0 S, y, ok, who (failF b ok) 0 S⟩, true, rb (S.map (stepF b ok)))) := by
                intro B F hB hF
                refine hself3 ((who (pickd b) 0 S).length - ((who (pickd b) 0 pre).length + 1)) _ (by omega) ⟨pre ++ mid ++ [x], post', hS2, ?_, by rw [q5]⟩
                rw [q5, fm, km, hB, hF]; rfl
              have cvi : ∀ z, idx (((pre.map (stepF b ok) ++ mid) ++ z :: post').map cv) (((pre ++ mid).length : Nat) : Int) = some (cv z) := fun z => cv_idx (by rw [← hA]; exact idx_at)
              have cvu : ∀ z z', upd (((pre.map (stepF b ok) ++ mid) ++ z :: post').map cv) (((pre ++ mid).length : Nat) : Int) (cv z') = ((pre.map (stepF b ok) ++ mid) ++ z' :: post').map cv := fun z z' => by rw [cv_upd, ← hA, upd_at]
              refine Ev.to (a := (((pre ++ mid).length : Nat) : Int)) (by simp only; rw [idx_nat]; exact q4) ?_
              simp only
              rw [hsp]
              refine Ev.to (cvi x) ?_
              refine Ev.letE (c := ((pre.map (stepF b ok) ++ mid) ++ { x with served := true } :: post').map cv) (cvu x { x with served := true }) ?_
              refine Ev.to (cvi _) (Ev.to (cvi _) ?_)
              have hlo := hx.lo
              have hhi := hx.hi
              have wt : IntKind.i64.wrap ((cv { x with served := true }).Tries + 1) = x.tries + 1 := w_i64 (by simp only [cv]; omega) (by simp only [cv]; omega)
              rw [wt]
              refine Ev.letE (c := ((pre.map (stepF b ok) ++ mid) ++ { x with served := true, tries := x.tries + 1 } :: post').map cv) (cvu _ { x with served := true, tries := x.tries + 1 }) ?_
              refine Ev.join (fun s => s = (!ok && decide (x.tries + 1 < 4))) (fun s hs => ?_) (fun j hj => ?_)
              · subst hs
                refine Ev.ite (fun ht => ?_) (fun hnt => ?_)
                · simp only [Bool.and_eq_true, Bool.not_eq_true', decide_eq_true_eq] at ht
                  have hg : gone x = false := by simp only [gone, decide_eq_false_iff_not]; omega
                  refine Ev.letP ?_
                  rw [wi _ (by omega)]
                  refine next _ _ ?_ (by rw [if_neg (by simp [failF, hg]), List.append_nil])
                  simp only [rb]
                  congr 3
                  simp only [stepF, hp, if_true, hit]
                  rw [if_neg (by simp only [ht.1, Bool.false_or, decide_eq_true_eq]; omega)]
                · have hor : (ok || gone x) = true := by
                    cases hok : ok with
                    | true => rfl
                    | false =>
                      rw [hok] at hnt
                      simp only [Bool.not_false, Bool.true_and, decide_eq_false_iff_not] at hnt
                      simp only [gone, Bool.false_or, decide_eq_true_eq]; omega
                  have hst : stepF b ok x = ⟨qs, 0, true⟩ := by
                    simp only [stepF, hp, if_true, hit]
                    rw [if_pos (show (ok || decide (4 ≤ x.tries + 1)) = true from hor), qe]; rfl
                  refine Ev.join (fun s => s = who (failF b ok) 0 pre ++ (if failF b ok x then [(((pre ++ mid).length : Nat) : Int)] else [])) (fun s hs => ?_) (fun j hj => ?_)
                  · subst hs
                    refine Ev.to (cvi _) (Ev.chk (by simp only [decide_eq_true_eq, cv]; rw [qe]; simp; omega) (Ev.to (cvi _) ?_))
                    refine Ev.letE (c := ((pre.map (stepF b ok) ++ mid) ++ { queue := qs, served := true, tries := x.tries + 1 } :: post').map cv) (by rw [← cvu _ { queue := qs, served := true, tries := x.tries + 1 }]; simp only [cv]; rw [qe]; rfl) ?_
                    refine Ev.to (cvi _) ?_
                    refine Ev.letE (c := ((pre.map (stepF b ok) ++ mid) ++ { queue := qs, served := true, tries := 0 } :: post').map cv) (cvu _ { queue := qs, served := true, tries := 0 }) ?_
                    refine Ev.letP ?_
                    rw [wi _ (by omega)]
                    refine next _ _ ?_ rfl
                    rw [hst]; rfl
                  · refine Ev.ite (fun hno => ?_) (fun hyes => ?_)
                    · have hok : ok = false := by simpa using hno
                      have hff : failF b ok x = true := by simp only [failF, hp, hok]; rw [hok] at hor; simpa using hor
                      refine Ev.to (a := (((pre ++ mid).length : Nat) : Int)) (by rw [idx_nat]; exact q4) ?_
                      refine Ev.to (app_one (by omega) (by omega)) (hj _ ?_)
                      rw [if_pos hff]
                    · have hok : ok = true := by simpa using hyes
                      refine hj _ ?_
                      rw [if_neg (by simp [failF, hok]), List.append_nil]
              · refine Ev.ite (fun hno => ?_) (fun hyes => ?_)
                · have hok : ok = false := by simpa using hno
                  refine Ev.to (cvi _) (hj _ (by rw [hok]; rfl))
                · have hok : ok = true := by simpa using hyes
                  exact hj _ (by simp [hok])
            · have hno := who_end (p := pickd b) (pre := pre) (post := post) (by rw [← e1]; simp only at hge; omega)
              refine Ev.letP (Ev.ret ?_)
              have z2 : who (failF b ok) 0 S = who (failF b ok) 0 pre := by rw [e1, who_app, who_none (l := post) (fun z hz => qid z (hno z hz)), List.append_nil]
              have z3 : S.map (stepF b ok) = pre.map (stepF b ok) ++ post := by
                rw [e1, List.map_append]
                congr 1
                conv => rhs; rw [← List.map_id post]
                exact List.map_congr_left (fun z hz => fid z (hno z hz))
              rw [z2, z3]
          · have hb2 := hfb.2.2
            refine Ev.bne (fun hk => ?_) (fun hk => ?_)
            · refine Ev.to (Copy_eq (l := least S) (by omega) (by omega)) ?_
              refine Ev.join (fun s => s = decide (f.Kind = 2 ∧ 0 ≤ f.Index ∧ f.Index < ((least S).length : Int))) (fun s hs => ?_) (fun j7 hj7 => ?_)
              · subst hs
                refine Ev.join (fun s => s = arr (least S) f) (fun s hs => ?_) (fun j8 hj8 => ?_)
                · subst hs
                  refine Ev.to (rDecode_eq hsm hf) (Ev.letP ?_)
                  exact hj _ rfl
                · refine Ev.dec (fun hc => ?_) (fun hc => ?_)
                  · refine Ev.to (getD_idx hc.2.1 hc.2.2) (Ev.to (getD_idx hc.2.1 hc.2.2) (Ev.letP ?_))
                    refine hj8 _ ?_
                    unfold arr
                    rw [if_neg hk, if_pos hc]
                  · refine hj8 _ ?_
                    unfold arr
                    rw [if_neg hk, if_neg hc]
              · refine Ev.beq (fun h2 => ?_) (fun h2 => ?_)
                · refine Ev.dec (fun h3 => ?_) (fun h3 => ?_)
                  · refine hj7 _ ?_
                    have h3' : 0 ≤ f.Index := h3
                    simp [h2, h3']
                  · refine hj7 _ ?_
                    have h3' : ¬ 0 ≤ f.Index := h3
                    simp [h3']
                · exact hj7 _ (by simp [h2])
            · refine hj _ ?_
              have : arr (least S) f = [] := by unfold arr; rw [if_pos hk]
              rw [this]; rfl
    · cases hr : ms.any ready with
      | true =>
        refine Ev.iteF rfl ?_
        have : start ms = ms := by unfold start; rw [hr]; rfl
        exact hj _ (by rw [this])
      | false =>
        refine Ev.iteT rfl ?_
        have hst : start ms = ms.map fresh := by
          unfold start; rw [hr]
          unfold busy at hb; rw [hb]; rfl
        have hl := h.len
        refine Ev.loop (fun r (s : Int × ref21_Bus) => ∃ pre post, ms = pre ++ post ∧ s = ((pre.length : Int), rb (pre.map fresh ++ post)) ∧ r = ms.length - pre.length) (fun r s hi self hself => ?_) (n := ms.length) (by omega) ⟨[], ms, rfl, rfl, rfl⟩
        obtain ⟨pre, post, e1, rfl, e3⟩ := hi
        have hlp : pre.length ≤ ms.length := by rw [e1]; simp
        have hRl : ((rb (pre.map fresh ++ post)).Masters.length : Int) = (ms.length : Int) := by rw [e1]; simp [rb]
        cases post with
        | nil =>
          refine Ev.decF (by simp only; rw [hRl, e1]; simp) ?_
          refine hj _ ?_
          rw [hst, e1]; simp
        | cons x post =>
          have hlt : pre.length < ms.length := by rw [e1]; simp
          refine Ev.decT (by simp only; rw [hRl]; omega) ?_
          have hi : idx (pre.map fresh ++ x :: post) (pre.length : Int) = some x := by have := idx_at (a := pre.map fresh) (b := post) (x := x); simpa using this
          have hu : ∀ y, upd (pre.map fresh ++ x :: post) (pre.length : Int) y = pre.map fresh ++ y :: post := by intro y; have := upd_at (a := pre.map fresh) (b := post) (x := x) (y := y); simpa using this
          refine Ev.to (cv_idx hi) (Ev.letP (Ev.letP ?_))
          simp only
          rw [wi _ (by omega)]
          refine hself (ms.length - (pre.length + 1)) _ (by omega) ⟨pre ++ [x], post, by rw [e1]; simp, ?_, by simp⟩
          have e5 : ({ cv x with Served := false } : ref21_Master) = cv (fresh x) := rfl
          simp only [rb]
          rw [e5, cv_upd, hu]
          simp
end Lift
