/- The bus: a step of it, frames that are submitted. No program in sight. -/
import Derived.Test.YtedddoifbhcinaaBusa
set_option linter.unusedVariables false
set_option linter.unusedSimpArgs false
namespace Lift
open Go

/-- What arrives of a transmission. -/
def arr (x : List Int) (f : Fault_) : List Int :=
  if f.Kind = 1 then [] else if f.Kind = 2 ∧ 0 ≤ f.Index ∧ f.Index < (x.length : Int) then upd x f.Index (bXor .u8 (x.getD f.Index.toNat 0) f.Mask) else x
theorem getD_idx {x : List Int} {i : Int} (h0 : 0 ≤ i) (h1 : i < (x.length : Int)) : idx x i = some (x.getD i.toNat 0) := by
  obtain ⟨n, rfl⟩ := Int.eq_ofNat_of_zero_le h0
  rw [idx_nat]
  have : n < x.length := by omega
  simp [this]
theorem arrive_eq {fuel : Nat} {x : List Int} {f : Fault_} (h : x.length ≤ 100) : bus_arrive fuel x f = some (arr x f) := by
  unfold bus_arrive arr
  by_cases hk : f.Kind = 1
  · simp [hk]
  · simp only [show (f.Kind == 1) = false by simpa using hk, iteP_false, clone_eq (show x.length ≤ 100000 by omega), bindP_some, if_neg hk, joinP_eq]
    by_cases h2 : f.Kind = 2
    · simp only [show (f.Kind == 2) = true by simpa using h2, iteP_true]
      by_cases h3 : 0 ≤ f.Index
      · simp only [show decide (f.Index ≥ 0) = true by simpa using h3, iteP_true]
        by_cases h4 : f.Index < (x.length : Int)
        · simp only [decide_eq_true h4, iteP_true, getD_idx h3 h4, bindP_some, letP_eq]; rw [if_pos ⟨h2, h3, h4⟩]
        · simp only [decide_eq_false h4, iteP_false]; rw [if_neg (fun h => h4 h.2.2)]
      · simp only [show decide (f.Index ≥ 0) = false by simpa using h3, iteP_false]; rw [if_neg (fun h => h3 h.2.1)]
    · simp only [show (f.Kind == 2) = false by simpa using h2, iteP_false]; rw [if_neg (fun h => h2 h.1)]
theorem arr_small {x : List Int} {f : Fault_} (h : FB x) (hm : byte f.Mask) : Small (arr x f) := by
  obtain ⟨h1, h2, h3, _⟩ := h
  unfold arr
  split
  · exact ⟨by simp, by simp⟩
  · split
    · rename_i hc
      refine ⟨by simp [upd]; omega, fun b hb => ?_⟩
      rcases List.mem_or_eq_of_mem_set hb with hb | rfl
      · exact h1 b hb
      · have hi := getD_idx hc.2.1 hc.2.2
        have hmem : x.getD f.Index.toNat 0 ∈ x := by
          obtain ⟨_, _, h5⟩ := idx_some hi
          exact List.mem_of_getElem? h5
        exact (xor_byte (h1 _ hmem) hm).2
    · exact ⟨by omega, h1⟩
theorem set_self {α : Type} {l : List α} {i : Nat} {a : α} (h : l[i]? = some a) : l.set i a = l := by
  obtain ⟨hl, e⟩ := List.getElem?_eq_some_iff.1 h
  rw [← e]; exact List.set_getElem_self hl
/-- What is acknowledged is what was sent. -/
theorem arr_same {x : List Int} {f : Fault_} (h : FB x) (hm : byte f.Mask) (ho : oks (arr x f) = true) : arr x f = x ∧ f.Kind ≠ 1 := by
  unfold arr at ho ⊢
  split
  · rename_i hk
    rw [if_pos hk] at ho
    simp [oks, decode] at ho
  · rename_i hk
    rw [if_neg hk] at ho
    refine ⟨?_, hk⟩
    split
    · rename_i hc
      rw [if_pos hc] at ho
      have hi := (idx_some (getD_idx hc.2.1 hc.2.2)).2.2
      have hb := h.1 _ (List.mem_of_getElem? hi)
      have e := oks_set h (xor_byte hb hm).2 hi ho
      unfold upd
      rw [e]
      exact set_self hi
    · rfl
def pickd (b : List Int) (m : bus_master) : Bool := ready m && decide (qhead m = b)
/-- A master whose frame was transmitted. -/
def hit (ok : Bool) (m : bus_master) : bus_master := if ok || decide (4 ≤ m.tries + 1) then ⟨m.queue.tail, 0, true⟩ else ⟨m.queue, m.tries + 1, true⟩
def gone (m : bus_master) : Bool := decide (4 ≤ m.tries + 1)
def stepF (b : List Int) (ok : Bool) (m : bus_master) : bus_master := if pickd b m then hit ok m else m
def failF (b : List Int) (ok : Bool) (m : bus_master) : Bool := !ok && (pickd b m && gone m)
def stepD (ms : List bus_master) (f : Fault_) : Delivery_ := ⟨who (pickd (least ms)) 0 ms, arr (least ms) f, oks (arr (least ms) f), who (failF (least ms) (oks (arr (least ms) f))) 0 ms⟩
def stepM (ms : List bus_master) (f : Fault_) : List bus_master := ms.map (stepF (least ms) (oks (arr (least ms) f)))
def busy (ms : List bus_master) : Bool := ms.any wait
theorem hit_ok {ok : Bool} {m : bus_master} (h : MOk m) : MOk (hit ok m) := by
  obtain ⟨h1, h2, h3, h4⟩ := h
  unfold hit
  split
  · refine ⟨by simp; omega, by simp, by simp, fun x hx => h4 x (List.mem_of_mem_tail hx)⟩
  · rename_i hc
    simp only [Bool.or_eq_true, decide_eq_true_eq, not_or] at hc
    exact ⟨h1, by simp only; omega, by simp only; omega, h4⟩
theorem stepM_ok {ms : List bus_master} {f : Fault_} (h : BOk ms) : BOk (stepM ms f) := by
  refine ⟨by simp [stepM]; exact h.len, fun m hm => ?_⟩
  obtain ⟨x, hx, rfl⟩ := List.mem_map.1 hm
  unfold stepF
  split
  · exact hit_ok (h.ok x hx)
  · exact h.ok x hx
theorem cmpL_eq0 (a b : List Int) (h : cmpL a b = 0) : a = b := cmpL_zero a b h
theorem busy_start {ms : List bus_master} : (start ms).filter ready = [] ↔ busy ms = false := by
  unfold start busy
  split
  · rename_i hc
    constructor
    · intro h
      cases hw : ms.any wait with
      | false => rfl
      | true =>
        rw [hw] at hc
        simp only [Bool.not_true, Bool.or_false] at hc
        obtain ⟨x, hx, hp⟩ := List.any_eq_true.1 hc
        rw [List.filter_eq_nil_iff] at h
        exact absurd hp (h x hx)
    · intro h
      rw [List.filter_eq_nil_iff]
      intro x hx hr
      have := List.any_eq_false.1 h x hx
      simp only [ready, Bool.and_eq_true] at hr
      exact this hr.1
  · rename_i hc
    constructor
    · intro h
      rw [List.filter_eq_nil_iff] at h
      rw [List.any_eq_false]
      intro x hx hw
      exact h (fresh x) (List.mem_map_of_mem hx) (by rw [ready_fresh]; exact hw)
    · intro h; rw [h] at hc; simp at hc
theorem who_filter {α : Type} {p : α → Bool} {k : Nat} {l : List α} : who p k l = [] ↔ l.filter p = [] := by
  rw [List.filter_eq_nil_iff]
  constructor
  · intro h x hx; simp [who_nil h x hx]
  · intro h; exact who_none (fun x hx => by simpa using h x hx)
theorem start_idle {ms : List bus_master} (h : busy ms = false) : start ms = ms := by
  unfold start
  unfold busy at h
  rw [h]; simp
theorem Step_eq {fuel : Nat} {ms : List bus_master} {f : Fault_} (h : BOk ms) (hm : byte f.Mask) (hf : 5000 < fuel) :
    bus_Bus_Step fuel ⟨ms⟩ f = some (if busy ms then (stepD (start ms) f, true, ⟨stepM (start ms) f⟩) else (Delivery_.z, false, ⟨ms⟩)) := by
  refine Ev.eq.1 ?_
  unfold bus_Bus_Step
  refine Ev.to (taking_eq h hf) ?_
  cases hb : busy ms with
  | false =>
    have e0 := (who_filter (k := 0)).2 (busy_start.2 hb)
    refine Ev.iteT (by simp [e0]) (Ev.ret ?_)
    rw [start_idle hb]; rfl
  | true =>
    have hn : (start ms).filter ready ≠ [] := fun e => by have := busy_start.1 e; rw [hb] at this; simp at this
    have hS := start_ok h
    generalize start ms = S at hn hS
    have hl := hS.len
    have hwl := who_len (p := ready) 0 S
    refine Ev.iteF (by simp only; rw [beq_eq_false_iff_ne]; intro e; exact hn ((who_filter (k := 0)).1 (List.eq_nil_of_length_eq_zero (by omega)))) ?_
    refine Ev.bind (MinFunc_eq hS hn hf) ?_
    rintro _ ⟨i, m, rfl, hi, hr, hh⟩
    refine Ev.to (first_get hi hr) ?_
    rw [hh]
    have hfb := least_fb hS hn
    refine Ev.to (arrive_eq hfb.2.2.1) ?_
    refine Ev.to (Decode_eq (arr_small hfb hm) hf) ?_
    refine Ev.letP ?_
    have ha : ((decode (arr (least S) f)).2 == 0) = oks (arr (least S) f) := rfl
    simp only [ha]
    show Ev _ (fun r => r = (stepD S f, true, (⟨stepM S f⟩ : bus_Bus)))
    unfold stepD stepM
    generalize oks (arr (least S) f) = ok
    generalize arr (least S) f = y
    have hbb := hfb.1
    generalize least S = b at hbb
    have fid : ∀ m : bus_master, ready m = false → stepF b ok m = m := fun m hm => by simp [stepF, pickd, hm]
    have pid : ∀ m : bus_master, ready m = false → pickd b m = false := fun m hm => by simp [pickd, hm]
    have qid : ∀ m : bus_master, ready m = false → failF b ok m = false := fun m hm => by simp [failF, pickd, hm]
    refine Ev.loop (fun r (s : Int × bus_Bus × (List Int) × (List Int)) => ∃ (pre post : List bus_master), S = pre ++ post ∧ s = (((who ready 0 pre).length : Int), ⟨pre.map (stepF b ok) ++ post⟩, who (pickd b) 0 pre, who (failF b ok) 0 pre) ∧ r = (who ready 0 S).length - (who ready 0 pre).length)
      (fun r s hi self hself => ?_) (n := (who ready 0 S).length) (by omega) ⟨[], S, rfl, rfl, by simp [who]⟩
    obtain ⟨pre, post, e1, rfl, e4⟩ := hi
    have w1 := who_len (p := ready) 0 pre
    have w2 := who_len (p := pickd b) 0 pre
    have w3 := who_len (p := failF b ok) 0 pre
    have hlp : pre.length ≤ S.length := by rw [e1]; simp
    refine Ev.dec (fun hlt => ?_) (fun hge => ?_)
    · simp only at hlt
      obtain ⟨mid, x, post', q1, q2, q3, q4, q5⟩ := who_next (p := ready) (pre := pre) (post := post) (by rw [← e1]; omega)
      rw [← e1] at q4
      have hxm : x ∈ S := by rw [e1, q1]; simp
      obtain ⟨qx, qs, qe, qh⟩ := ready_queue q3
      have hx := hS.ok x hxm
      have hA : (pre.map (stepF b ok) ++ mid).length = (pre ++ mid).length := by simp
      have hsp : pre.map (stepF b ok) ++ post = (pre.map (stepF b ok) ++ mid) ++ x :: post' := by rw [q1]; simp
      have hmid : mid.map (stepF b ok) = mid := by
        conv => rhs; rw [← List.map_id mid]
        exact List.map_congr_left (fun z hz => fid z (q2 z hz))
      have hmono : (who ready 0 (pre ++ mid ++ [x])).length ≤ (who ready 0 S).length := by
        have h1 : S = (pre ++ mid ++ [x]) ++ post' := by rw [e1, q1]; simp
        have h2 := who_app (p := ready) 0 (pre ++ mid ++ [x]) post'
        rw [← h1] at h2
        rw [h2, List.length_append]; exact Nat.le_add_right _ _
      have hS2 : S = (pre ++ mid ++ [x]) ++ post' := by rw [e1, q1]; simp
      have pm : who (pickd b) 0 (pre ++ mid ++ [x]) = who (pickd b) 0 pre ++ (if pickd b x then [(((pre ++ mid).length : Nat) : Int)] else []) := by
        rw [who_app, who_app, who_none (l := mid) (fun z hz => pid z (q2 z hz))]
        simp [who]
      have fm : who (failF b ok) 0 (pre ++ mid ++ [x]) = who (failF b ok) 0 pre ++ (if failF b ok x then [(((pre ++ mid).length : Nat) : Int)] else []) := by
        rw [who_app, who_app, who_none (l := mid) (fun z hz => qid z (q2 z hz))]
        simp [who]
      have mm : ∀ y, (pre.map (stepF b ok) ++ mid) ++ y :: post' = (pre ++ mid).map (stepF b ok) ++ y :: post' := fun y => by rw [List.map_append, hmid]
      have km : (pre ++ mid ++ [x]).map (stepF b ok) ++ post' = (pre.map (stepF b ok) ++ mid) ++ stepF b ok x :: post' := by rw [mm, List.map_append]; simp
      have next : ∀ B D F, B = (pre.map (stepF b ok) ++ mid) ++ stepF b ok x :: post' → D = who (pickd b) 0 pre ++ (if pickd b x then [(((pre ++ mid).length : Nat) : Int)] else []) → F = who (failF b ok) 0 pre ++ (if failF b ok x then [(((pre ++ mid).length : Nat) : Int)] else []) →
          Ev (self (IntKind.i64.wrap (((who ready 0 pre).length : Int) + 1), ⟨B⟩, D, F)) (fun r => r = (⟨who (pickd b) 0 S, y, ok, who (failF b ok) 0 S⟩, true, ⟨S.map (stepF b ok)⟩)) := by
        intro B D F hB hD hF
        refine hself ((who ready 0 S).length - ((who ready 0 pre).length + 1)) _ (by omega) ⟨pre ++ mid ++ [x], post', hS2, ?_, by rw [q5]⟩
        rw [wi _ (by omega), q5, pm, fm, km, hB, hD, hF]; rfl
      refine Ev.to (a := (((pre ++ mid).length : Nat) : Int)) (by rw [idx_nat]; exact q4) ?_
      simp only
      rw [hsp, ← hA]
      refine Ev.to (first_eq q3) ?_
      refine Ev.to (Compare_eq fuel _ _ (head_fb hx q3).1 hbb) ?_
      by_cases hc : qhead x = b
      · have hp : pickd b x = true := by simp [pickd, q3, hc]
        refine Ev.iteF (by rw [hc, cmpL_self]; rfl) ?_
        refine Ev.to (app_one (by omega) (by omega)) ?_
        refine Ev.to idx_at ?_
        refine Ev.letP ?_
        rw [upd_at]
        refine Ev.to idx_at (Ev.to idx_at (Ev.letP ?_))
        rw [upd_at]
        have hlo := hx.lo
        have hhi := hx.hi
        have wt : IntKind.i64.wrap (x.tries + 1) = x.tries + 1 := w_i64 (by omega) (by omega)
        simp only [wt]
        refine Ev.join (fun s => s = (!ok && decide (x.tries + 1 < 4))) (fun s hs => ?_) (fun j hj => ?_)
        · subst hs
          refine Ev.ite (fun ht => ?_) (fun hnt => ?_)
          · simp only [Bool.and_eq_true, Bool.not_eq_true', decide_eq_true_eq] at ht
            have hg : gone x = false := by simp only [gone, decide_eq_false_iff_not]; omega
            refine next _ _ _ ?_ (by rw [if_pos hp, hA]) (by rw [if_neg (by simp [failF, hg]), List.append_nil])
            congr 2
            simp only [stepF, hp, if_true, hit]
            rw [if_neg (by simp only [ht.1, Bool.false_or, decide_eq_true_eq]; omega)]
          · have hor : (ok || gone x) = true := by
              cases hok : ok with
              | true => rfl
              | false =>
                rw [hok] at hnt
                simp only [Bool.not_false, Bool.true_and, decide_eq_false_iff_not] at hnt
                simp only [gone, Bool.false_or, decide_eq_true_eq]; omega
            have hst : stepF b ok x = ⟨qs, 0, true⟩ := by
              simp only [stepF, hp, if_true, hit]
              rw [if_pos (show (ok || decide (4 ≤ x.tries + 1)) = true from hor), qe]; rfl
            refine Ev.join (fun s => s = who (failF b ok) 0 pre ++ (if failF b ok x then [(((pre ++ mid).length : Nat) : Int)] else [])) (fun s hs => ?_) (fun j hj => ?_)
            · subst hs
              refine Ev.to idx_at (Ev.chk (by simp only [decide_eq_true_eq]; rw [qe]; simp; omega) (Ev.to idx_at (Ev.letP ?_)))
              rw [upd_at]
              refine Ev.to idx_at (Ev.letP ?_)
              rw [upd_at]
              refine next _ _ _ ?_ (by rw [if_pos hp, hA]) rfl
              rw [hst, qe]; rfl
            · refine Ev.ite (fun hno => ?_) (fun hyes => ?_)
              · have hok : ok = false := by simpa using hno
                have hff : failF b ok x = true := by simp only [failF, hp, hok]; rw [hok] at hor; simpa using hor
                refine Ev.to (app_one (by omega) (by omega)) (hj _ ?_)
                rw [if_pos hff, hA]
              · have hok : ok = true := by simpa using hyes
                refine hj _ ?_
                rw [if_neg (by simp [failF, hok]), List.append_nil]
        · refine Ev.ite (fun hno => ?_) (fun hyes => ?_)
          · have hok : ok = false := by simpa using hno
            refine Ev.to idx_at (hj _ (by simp [hok]))
          · have hok : ok = true := by simpa using hyes
            exact hj _ (by simp [hok])
      · have hp : pickd b x = false := by simp [pickd, hc]
        have hf0 : failF b ok x = false := by simp [failF, hp]
        refine Ev.iteT (by rw [bne_iff_ne]; exact fun e => hc (cmpL_eq0 _ _ e)) ?_
        refine next _ _ _ ?_ (by simp [hp]) (by simp [hf0])
        simp [stepF, hp]
    · have hno := who_end (p := ready) (pre := pre) (post := post) (by rw [← e1]; simp only at hge; omega)
      refine Ev.ret ?_
      have z1 : who (pickd b) 0 S = who (pickd b) 0 pre := by rw [e1, who_app, who_none (l := post) (fun z hz => pid z (hno z hz)), List.append_nil]
      have z2 : who (failF b ok) 0 S = who (failF b ok) 0 pre := by rw [e1, who_app, who_none (l := post) (fun z hz => qid z (hno z hz)), List.append_nil]
      have z3 : S.map (stepF b ok) = pre.map (stepF b ok) ++ post := by
        rw [e1, List.map_append]
        congr 1
        conv => rhs; rw [← List.map_id post]
        exact List.map_congr_left (fun z hz => fid z (hno z hz))
      rw [z1, z2, z3]
end Lift
