/- The plain law of BusDelivers. uses: base crc8 lists sealc frames refframes busf ev busa busb busc dice dicebytes diceframe awake21 busl bush
-/
import Derived.Test.YtedddoifbhcinaaBush
set_option linter.unusedVariables false
set_option linter.unusedSimpArgs false
namespace Lift
open Go
/-- A table of eight times eight numbers. -/
def row (g : Nat → Int) : List Int := (List.range 8).map g
def tab (g : Nat → Nat → Int) : List (List Int) := (List.range 8).map (fun j => row (g j))
theorem row_len (g : Nat → Int) : (row g).length = 8 := by simp [row]
theorem tab_len (g : Nat → Nat → Int) : (tab g).length = 8 := by simp [tab]
theorem row_get {g : Nat → Int} {m : Nat} (h : m < 8) : idx (row g) (m : Int) = some (g m) := by rw [idx_nat]; simp [row, h]
theorem tab_get {g : Nat → Nat → Int} {j : Nat} (h : j < 8) : idx (tab g) (j : Int) = some (row (g j)) := by rw [idx_nat]; simp [tab, h]
theorem row_upd {g : Nat → Int} {m : Nat} {v : Int} (h : m < 8) : upd (row g) (m : Int) v = row (fun m' => if m' = m then v else g m') := by
  unfold upd row
  rw [Int.toNat_natCast]
  apply List.ext_getElem?
  intro i
  by_cases hi : i < 8
  · by_cases e : m = i
    · subst e; simp [hi]
    · rw [List.getElem?_set_ne e]; simp [hi, Ne.symm e]
  · rw [List.getElem?_eq_none (by simp; omega), List.getElem?_eq_none (by simp; omega)]
theorem tab_upd {g : Nat → Nat → Int} {j : Nat} {r : Nat → Int} (h : j < 8) : upd (tab g) (j : Int) (row r) = tab (fun j' => if j' = j then r else g j') := by
  unfold upd tab
  rw [Int.toNat_natCast]
  apply List.ext_getElem?
  intro i
  by_cases hi : i < 8
  · by_cases e : j = i
    · subst e; simp [hi]
    · rw [List.getElem?_set_ne e]; simp [hi, Ne.symm e]
  · rw [List.getElem?_eq_none (by simp; omega), List.getElem?_eq_none (by simp; omega)]
theorem tab_zero : List.replicate 8 (List.replicate 8 (0 : Int)) = tab (fun _ _ => 0) := by decide
theorem row_zero : List.replicate 8 (0 : Int) = row (fun _ => 0) := by decide
/-- How often one may have transmitted since another one did. -/
def SB (sj sm : Bool) : Int := (if sj then 0 else 1) + (if sm then 1 else 0)
def qsum : List bus_master → Int
  | [] => 0
  | m :: ms => (m.queue.length : Int) + qsum ms
theorem qsum_nn : ∀ ms : List bus_master, 0 ≤ qsum ms
  | [] => by simp [qsum]
  | m :: ms => by have := qsum_nn ms; simp only [qsum]; omega
theorem qsum_congr : ∀ {ms ms' : List bus_master}, ms'.map bus_master.queue = ms.map bus_master.queue → qsum ms' = qsum ms
  | [], [], _ => rfl
  | [], _ :: _, h => by simp at h
  | _ :: _, [], h => by simp at h
  | m :: ms, m' :: ms', h => by
    simp only [List.map_cons, List.cons.injEq] at h
    simp only [qsum, h.1, qsum_congr h.2]
theorem hit_true (m : bus_master) : hit true m = ⟨m.queue.tail, 0, true⟩ := by simp [hit]
theorem qsum_step {b : List Int} : ∀ {ms : List bus_master}, qsum (ms.map (stepF b true)) ≤ qsum ms ∧ ((∃ m ∈ ms, pickd b m = true) → qsum (ms.map (stepF b true)) + 1 ≤ qsum ms)
  | [] => by simp
  | m :: ms => by
    obtain ⟨i1, i2⟩ := qsum_step (b := b) (ms := ms)
    cases hp : pickd b m with
    | false =>
      have e : stepF b true m = m := by simp [stepF, hp]
      simp only [List.map_cons, qsum, e]
      refine ⟨by omega, ?_⟩
      rintro ⟨x, hx, hxp⟩
      rcases List.mem_cons.1 hx with rfl | hx
      · rw [hp] at hxp; simp at hxp
      · have := i2 ⟨x, hx, hxp⟩; omega
    | true =>
      have hr : ready m = true := by simp only [pickd, Bool.and_eq_true] at hp; exact hp.1
      obtain ⟨x, q, e1, _⟩ := ready_queue hr
      have e : stepF b true m = ⟨m.queue.tail, 0, true⟩ := by simp [stepF, hp, hit_true]
      simp only [List.map_cons, qsum, e, e1, List.tail_cons, List.length_cons]
      exact ⟨by omega, fun _ => by omega⟩
theorem qsum_load : ∀ {ms : List bus_master}, (∀ m ∈ ms, m.queue.length ≤ 4 ∧ m.tries = 0 ∧ m.served = false) → qsum ms ≤ 4 * (ms.length : Int)
  | [], _ => by simp [qsum]
  | m :: ms, h => by
    have := qsum_load (ms := ms) (fun x hx => h x (List.mem_cons_of_mem _ hx))
    obtain ⟨h1, h2, _⟩ := h m (by simp)
    simp only [qsum, List.length_cons]
    omega
/-- Does the one at a place have the property? -/
def at_ (S : List bus_master) (p : bus_master → Bool) (m : Nat) : Bool := match S[m]? with | some x => p x | none => false
theorem at_some {S : List bus_master} {p : bus_master → Bool} {m : Nat} {x : bus_master} (h : S[m]? = some x) : at_ S p m = p x := by unfold at_; rw [h]
/-- The table and the masters agree. -/
def Fair (ms : List bus_master) (g : Nat → Nat → Int) : Prop := ∀ j m x y, ms[j]? = some x → ms[m]? = some y → x.queue ≠ [] → g j m ≤ SB x.served y.served
def Bnd (g : Nat → Nat → Int) (k : Int) : Prop := ∀ j m, 0 ≤ g j m ∧ g j m ≤ k
theorem Fair.start {ms : List bus_master} {g : Nat → Nat → Int} (h : Fair ms g) : Fair (start ms) g := by
  unfold Lift.start
  split
  · exact h
  · rename_i hc
    simp only [Bool.or_eq_true, Bool.not_eq_true', not_or] at hc
    intro j m x y hx hy hq
    rw [List.getElem?_map] at hx hy
    cases hxj : ms[j]? with
    | none => rw [hxj] at hx; simp at hx
    | some x' =>
      cases hym : ms[m]? with
      | none => rw [hym] at hy; simp at hy
      | some y' =>
        rw [hxj] at hx; rw [hym] at hy
        simp only [Option.map_some, Option.some.injEq] at hx hy
        subst hx; subst hy
        have h1 := h j m x' y' hxj hym hq
        have hs : x'.served = true := by
          refine Classical.byContradiction fun hn => hc.1 (List.any_eq_true.2 ⟨x', List.mem_of_getElem? hxj, ?_⟩)
          have : x'.queue ≠ [] := hq
          simp [ready, wait, this, hn]
        rw [hs] at h1
        simp only [fresh]
        unfold SB at *
        cases y'.served <;> simp at * <;> omega
theorem Fair.step {S : List bus_master} {g : Nat → Nat → Int} {b : List Int} (h : Fair S g) :
    Fair (S.map (stepF b true)) (fun j m => if at_ S (pickd b) j then 0 else g j m + (if at_ S (pickd b) m then 1 else 0)) := by
  intro j m x y hx hy hq
  rw [List.getElem?_map] at hx hy
  cases hxj : S[j]? with
  | none => rw [hxj] at hx; simp at hx
  | some x' =>
    cases hym : S[m]? with
    | none => rw [hym] at hy; simp at hy
    | some y' =>
      rw [hxj] at hx; rw [hym] at hy
      simp only [Option.map_some, Option.some.injEq] at hx hy
      subst hx; subst hy
      simp only [at_some hxj, at_some hym]
      have hr : ∀ z, pickd b z = true → z.served = false := fun z hz => by simp only [pickd, ready, Bool.and_eq_true, Bool.not_eq_true'] at hz; exact hz.1.2
      cases hpx : pickd b x' with
      | true =>
        simp only [if_true]
        unfold SB
        split <;> split <;> omega
      | false =>
        have ex : stepF b true x' = x' := by simp [stepF, hpx]
        rw [ex] at hq ⊢
        have h1 := h j m x' y' hxj hym hq
        simp only [Bool.false_eq_true, if_false]
        cases hpy : pickd b y' with
        | true =>
          have ey : stepF b true y' = ⟨y'.queue.tail, 0, true⟩ := by simp [stepF, hpy, hit_true]
          rw [ey, hr y' hpy] at *
          simp only [if_true]
          unfold SB at *
          simp at *; omega
        | false =>
          have ey : stepF b true y' = y' := by simp [stepF, hpy]
          rw [ey]
          simp only [Bool.false_eq_true, if_false]; omega
theorem law21_BusDelivers_true (a0 : Int) (a1 : List Int) (o0 : okI .i64 a0) (o1 : okL (okI .i64) a1) : ∃ fuel, law21_BusDelivers fuel a0 a1 = some true := by
  refine ⟨10000, Ev.isTrue ?_⟩
  unfold law21_BusDelivers
  refine Ev.to (Light_eq 10000 a1) ?_
  refine Ev.not (Ev.dec (fun l1 => ?_) (fun _ => Ev.to (awake_eq (by omega)) (Ev.ret rfl)))
  refine Ev.to (Mod_eq 10000 (by omega) (by omega)) ?_
  have m1 := Int.emod_nonneg a0 (show (8 : Int) ≠ 0 by omega)
  have m2 := Int.emod_lt_of_pos a0 (show (0 : Int) < 8 by omega)
  obtain ⟨n, hn⟩ : ∃ n : Nat, 1 + a0 % 8 = n := ⟨(1 + a0 % 8).toNat, by omega⟩
  refine Ev.letE (c := (n : Int)) (by rw [w_i64 (by omega) (by omega)]; exact hn) ?_
  refine Ev.bind (loaded_ev (n := n) (by omega) (by omega)) ?_
  rintro _ ⟨ms0, hL, rfl⟩
  have hmk : ∀ x : Int, mk 8 x (n : Int) = some (List.replicate n x) := fun x => by unfold mk; rw [if_pos (by omega)]; simp
  refine Ev.iteF rfl (Ev.to (hmk 0) ?_)
  simp only
  have hq0 := hL.q
  generalize hT : ms0.map bus_master.queue = T
  have hS0 := Suf.refl (fun m hm => (hq0 m hm).1)
  rw [hT] at hS0
  have hln := hL.len
  have hn8 : n ≤ 8 := by omega
  have hmz : byte Fault_.z.Mask := ⟨by decide, by decide⟩
  have hazero : ∀ x : List Int, arr x Fault_.z = x := fun x => by simp [arr, Fault_.z]
  rw [tab_zero]
  refine Ev.loop (fun r (s : Int × (List (List Int)) × (List Int) × (Option bus_Bus)) => ∃ (i : Nat) (ms : List bus_master) (g : Nat → Nat → Int), 1 ≤ i ∧ r = 42 - i ∧ s = ((i : Int), tab g, doneOf T ms, some ⟨ms⟩) ∧ BOk ms ∧ ms.length = n ∧ Suf T ms ∧ qsum ms + (i : Int) ≤ 33 ∧ Fair ms g ∧ Bnd g i)
    (fun r s hi self hself => ?_) (n := 41) (by omega) ⟨1, ms0, fun _ _ => 0, by omega, rfl, by rw [hS0.2, hln]; rfl, hL.b, hL.len, hS0.1, by have := qsum_load hq0; omega, ?_, fun j m => by show (0 : Int) ≤ 0 ∧ (0 : Int) ≤ ((1 : Nat) : Int); omega⟩
  · obtain ⟨i, ms, g, i0, i1, rfl, hB, hmn, hS, hpot, hF, hG⟩ := hi
    have hnn := qsum_nn ms
    refine Ev.decT (by simp only; omega) (Ev.to (a := ⟨ms⟩) rfl (Ev.to (Step_eq hB hmz (by omega)) ?_))
    -- is something left?
    refine Ev.loop (fun r (s : Bool × Int) => ∃ k : Nat, k ≤ n ∧ r = n - k ∧ s = ((ms.take k).any wait, (k : Int))) (fun r s hi self2 hself2 => ?_) (n := n) (by omega) ⟨0, by omega, rfl, rfl⟩
    obtain ⟨k, k1, k2, rfl⟩ := hi
    refine Ev.dec (fun hlt => ?_) (fun hge => ?_)
    · simp only at hlt
      have hkm : k < ms.length := by omega
      have hm : ms[k]? = some (ms[k]'hkm) := by simp
      obtain ⟨t, t1, t2, t3, t4, t5⟩ := hS.at hm
      generalize ms[k]'hkm = x at hm t2 t4 t5
      have hta : (ms.take (k + 1)).any wait = ((ms.take k).any wait || wait x) := by rw [List.take_add_one, hm]; simp [List.any_append]
      refine Ev.letP (Ev.ite (fun h => Ev.letP ?_) (fun h => ?_))
      · simp only at h ⊢
        rw [wi k (by omega)]
        exact hself2 (n - (k + 1)) _ (by omega) ⟨k + 1, by omega, rfl, by rw [hta, h]; simp⟩
      · simp only at h ⊢
        refine Ev.to (a := (t.length : Int) - (x.queue.length : Int)) (by rw [idx_nat]; exact t5) (Ev.to (a := t) (by rw [idx_nat]; exact t1) (Ev.letP (Ev.letP ?_)))
        rw [wi k (by omega)]
        refine hself2 (n - (k + 1)) _ (by omega) ⟨k + 1, by omega, rfl, ?_⟩
        rw [hta, h, Bool.false_or]
        have : decide ((t.length : Int) - (x.queue.length : Int) < (t.length : Int)) = wait x := by
          unfold wait
          rw [Bool.eq_iff_iff, decide_eq_true_eq, decide_eq_true_eq]
          cases x.queue with
          | nil => simp
          | cons a q => simp; omega
        rw [this]; rfl
    · simp only at hge
      have hkn : k = ms.length := by omega
      subst hkn
      rw [List.take_length]
      have hbe : ms.any wait = busy ms := rfl
      rw [hbe]
      cases hb : busy ms with
      | false => exact Ev.bneF rfl (Ev.iteT rfl (Ev.to (awake_eq (by omega)) (Ev.ret rfl)))
      | true =>
        simp only [if_true]
        refine Ev.bneF rfl (Ev.iteF rfl ?_)
        have hfl : (start ms).filter ready ≠ [] := fun e => by have := busy_start.1 e; rw [hb] at this; simp at this
        have hBS := start_ok hB
        obtain ⟨sq1, sq2⟩ := start_q ms
        obtain ⟨hSS, hdo⟩ := Suf.congr sq1 hS
        have hps := qsum_congr sq1
        have hSl := start_len ms
        have hFS := hF.start
        rw [← hdo]
        generalize start ms = S at *
        have hfb := least_fb hBS hfl
        have hpx := pick_ex hfl
        have hl8 := hBS.len
        have hok : oks (least S) = true := hfb.2.2.2
        have hBM : BOk (S.map (stepF (least S) true)) := by
          have := stepM_ok (f := Fault_.z) hBS
          unfold stepM at this
          rw [hazero, hok] at this; exact this
        unfold stepD stepM
        rw [hazero, hok]
        simp only
        obtain ⟨p1, p2⟩ := qsum_step (b := least S) (ms := S)
        have p3 := p2 hpx
        generalize least S = b at *
        have fid : ∀ m : bus_master, pickd b m = false → stepF b true m = m := fun m hm => by simp [stepF, hm]
        have w1' := who_len (p := pickd b) 0 S
        have hfail : who (failF b true) 0 S = [] := who_none (fun x _ => by simp [failF])
        have hmemD : ∀ k : Nat, ((k : Int) ∈ who (pickd b) 0 S) ↔ at_ S (pickd b) k = true := by
          intro k
          rw [who_mem]
          constructor
          · rintro ⟨k', z, h1, h2, h3⟩
            have : k' = k := by omega
            subst this
            rw [at_some h1]; exact h2
          · intro h
            unfold at_ at h
            split at h
            · rename_i x hx; exact ⟨k, x, hx, h, by simp⟩
            · simp at h
        refine Ev.join (fun s => s = false) (fun s hs => ?_) (fun j hj => ?_)
        · subst hs
          refine Ev.iteF rfl ?_
          -- who transmitted
          refine Ev.loop (fun r (s : Int × (List (List Int))) => ∃ (pre post : List bus_master), S = pre ++ post ∧ r = (who (pickd b) 0 S).length - (who (pickd b) 0 pre).length ∧ s = (((who (pickd b) 0 pre).length : Int), tab (fun j m => g j m + (if j < n ∧ m < pre.length ∧ at_ S (pickd b) m then 1 else 0))))
            (fun r s hi self3 hself3 => ?_) (n := (who (pickd b) 0 S).length) (by omega) ⟨[], S, rfl, by simp [who], by simp [who]⟩
          obtain ⟨pre, post, e1, e4, rfl⟩ := hi
          have w1 := who_len (p := pickd b) 0 pre
          have hlp : pre.length ≤ S.length := by rw [e1]; simp
          refine Ev.dec (fun hlt => ?_) (fun hge => ?_)
          · simp only at hlt
            obtain ⟨mid, x, post', q1, q2, hp, q4, q5⟩ := who_next (p := pickd b) (pre := pre) (post := post) (by rw [← e1]; omega)
            rw [← e1] at q4
            have hxb : qhead x = b := by simp only [pickd, Bool.and_eq_true, decide_eq_true_eq] at hp; exact hp.2
            have q3 : ready x = true := by simp only [pickd, Bool.and_eq_true] at hp; exact hp.1
            obtain ⟨qx, qs, qe, qh⟩ := ready_queue q3
            have hS2 : S = (pre ++ mid ++ [x]) ++ post' := by rw [e1, q1]; simp
            have hjn : (pre ++ mid).length < S.length := by rw [hS2]; simp
            have hSx : S[(pre ++ mid).length]? = some x := by rw [hS2]; simp
            have hmidno : ∀ k, pre.length ≤ k → k < (pre ++ mid).length → at_ S (pickd b) k = false := by
              intro k h1 h2
              have hk : S[k]? = mid[k - pre.length]? := by
                rw [hS2, List.append_assoc, List.append_assoc, List.getElem?_append_right h1, List.getElem?_append_left (by simp at h2; omega)]
              have hkl : k - pre.length < mid.length := by simp at h2; omega
              rw [List.getElem?_eq_getElem hkl] at hk
              rw [at_some hk]; exact q2 _ (List.getElem_mem hkl)
            obtain ⟨t, t1, t2, t3, t4, t5⟩ := hSS.at hSx
            have hpl : (pre ++ mid ++ [x]).length = (pre ++ mid).length + 1 := List.length_append
            generalize hN : (pre ++ mid).length = N at *
            have hpN : pre.length ≤ N := by rw [← hN]; simp
            have htl : 1 ≤ x.queue.length := by rw [qe]; simp
            have haN : at_ S (pickd b) N = true := by rw [at_some hSx]; exact hp
            have hG2 : ∀ j m, 0 ≤ g j m ∧ g j m ≤ i := hG
            refine Ev.to (a := (N : Int)) (by simp only; rw [idx_nat]; exact q4) ?_
            refine Ev.join (fun s => s = false) (fun s hs => ?_) (fun j2 hj2 => ?_)
            · subst hs
              refine Ev.iteF rfl ?_
              refine Ev.loop (fun r (s : Int × (List (List Int))) => ∃ k : Nat, k ≤ n ∧ r = n - k ∧ s = ((k : Int), tab (fun j m => (g j m + (if j < n ∧ m < pre.length ∧ at_ S (pickd b) m then 1 else 0)) + (if m = N ∧ j < k then 1 else 0)))) (fun r s hi self4 hself4 => ?_) (n := n) (by omega) ⟨0, by omega, rfl, by simp⟩
              obtain ⟨k, k1, k2, rfl⟩ := hi
              refine Ev.dec (fun hlt => ?_) (fun hge => ?_)
              · simp only at hlt
                have hk8 : k < 8 := by omega
                have hN8 : N < 8 := by omega
                have hkN : (g k N + (if k < n ∧ N < pre.length ∧ at_ S (pickd b) N then 1 else 0)) + (if N = N ∧ k < k then 1 else 0) = g k N := by
                  rw [if_neg (by omega), if_neg (by omega)]; omega
                have hbk := hG2 k N
                simp only
                refine Ev.to (tab_get hk8) (Ev.chk (by simp only [tab_len]; rfl) (Ev.to (row_get hN8) (Ev.chk (by simp only [row_len]; rfl) (Ev.to (tab_get hk8) (Ev.chk (by simp only [tab_len]; rfl) (Ev.to (row_get hN8) (Ev.chk (by simp only [row_len]; rfl) ?_)))))))
                simp only [hkN]
                rw [w_i64 (by omega) (by omega), row_upd hN8]
                refine Ev.letE (c := tab (fun j m => (g j m + (if j < n ∧ m < pre.length ∧ at_ S (pickd b) m then 1 else 0)) + (if m = N ∧ j < k + 1 then 1 else 0))) ?_ ?_
                · rw [tab_upd hk8]
                  congr 1
                  funext j m
                  by_cases hj : j = k
                  · subst hj
                    simp only [if_true]
                    by_cases hm : m = N
                    · subst hm
                      rw [if_pos rfl, if_neg (c := j < n ∧ m < pre.length ∧ at_ S (pickd b) m = true) (fun h => by have := h.2.1; omega), if_pos (c := m = m ∧ j < j + 1) ⟨rfl, by omega⟩]; omega
                    · rw [if_neg hm, if_neg (c := m = N ∧ j < j) (by omega), if_neg (c := m = N ∧ j < j + 1) (by omega)]
                  · simp only [if_neg hj]
                    congr 1
                    by_cases hm : m = N ∧ j < k
                    · rw [if_pos hm, if_pos (by omega)]
                    · rw [if_neg hm, if_neg (by omega)]
                · have hkN2 : (g k N + (if k < n ∧ N < pre.length ∧ at_ S (pickd b) N then 1 else 0)) + (if N = N ∧ k < k + 1 then 1 else 0) = g k N + 1 := by
                    rw [if_neg (by omega), if_pos (by omega)]; omega
                  refine Ev.join (fun s => s = false) (fun s hs => ?_) (fun j3 hj3 => ?_)
                  · subst hs
                    refine Ev.iteF rfl (Ev.letP ?_)
                    rw [wi k (by omega)]
                    exact hself4 (n - (k + 1)) _ (by omega) ⟨k + 1, by omega, rfl, by simp⟩
                  · refine Ev.to (tab_get hk8) (Ev.chk (by simp only [tab_len]; rfl) (Ev.to (row_get hN8) (Ev.chk (by simp only [row_len]; rfl) ?_)))
                    rw [hkN2]
                    refine Ev.letP (Ev.dec (fun hgt => ?_) (fun _ => hj3 _ rfl))
                    have hkS : k < S.length := by omega
                    have hSk : S[k]? = some (S[k]'hkS) := by simp
                    obtain ⟨t', s1, s2, s3, s4, s5⟩ := hSS.at hSk
                    generalize S[k]'hkS = z at hSk s2 s4 s5
                    refine Ev.to (a := (t'.length : Int) - (z.queue.length : Int)) (by rw [idx_nat]; exact s5) (Ev.to (a := t') (by rw [idx_nat]; exact s1) (Ev.letP (Ev.dec (fun hw => ?_) (fun _ => hj3 _ rfl))))
                    refine Ev.to (among_eq (by omega) (by omega)) (hj3 _ ?_)
                    have hzq : z.queue ≠ [] := by intro e; rw [e] at hw; simp at hw
                    have hfz := hFS k N z x hSk hSx hzq
                    have hxs : x.served = false := by simp only [ready, Bool.and_eq_true, Bool.not_eq_true'] at q3; exact q3.2
                    rw [hxs] at hfz
                    unfold SB at hfz
                    exfalso
                    cases z.served <;> simp at hfz <;> omega
              · simp only at hge
                have hkn : k = n := by omega
                subst hkn
                refine Ev.letP ?_
                simp only
                rw [wi _ (by omega)]
                refine hself3 ((who (pickd b) 0 S).length - ((who (pickd b) 0 pre).length + 1)) _ (by omega) ⟨pre ++ mid ++ [x], post', hS2, by rw [q5], ?_⟩
                rw [q5, hpl]
                refine Prod.ext rfl ?_
                simp only
                congr 1
                funext j m
                by_cases hj : j < k
                · by_cases hmN : m = N
                  · subst hmN
                    rw [if_neg (c := j < k ∧ m < pre.length ∧ _) (by omega), if_pos (c := m = m ∧ j < k) ⟨rfl, hj⟩, if_pos ⟨hj, by omega, haN⟩]; omega
                  · rw [if_neg (c := m = N ∧ j < k) (by omega), Int.add_zero]
                    by_cases hmp : m < pre.length
                    · by_cases ha : at_ S (pickd b) m = true
                      · rw [if_pos ⟨hj, hmp, ha⟩, if_pos ⟨hj, by omega, ha⟩]
                      · rw [if_neg (fun h => ha h.2.2), if_neg (fun h => ha h.2.2)]
                    · rw [if_neg (fun h => hmp h.2.1)]
                      rw [if_neg]
                      rintro ⟨_, h2, h3⟩
                      rw [hmidno m (by omega) (by omega)] at h3
                      simp at h3
                · rw [if_neg (fun h => hj h.1), if_neg (fun h => hj h.2), if_neg (fun h => hj h.1)]; omega
            · refine Ev.letP (Ev.decF (by omega) (Ev.letP (Ev.decF (by omega) ?_)))
              refine Ev.to (a := (t.length : Int) - (x.queue.length : Int)) (by rw [idx_nat]; exact t5) (Ev.to (a := t) (by rw [idx_nat]; exact t1) (Ev.letP (Ev.decF (by omega) (Ev.to (a := t) (by rw [idx_nat]; exact t1) (Ev.to (a := (t.length : Int) - (x.queue.length : Int)) (by rw [idx_nat]; exact t5) ?_)))))
              have hfirst : idx t ((t.length : Int) - (x.queue.length : Int)) = some b := by
                have e5 : (t.length : Int) - (x.queue.length : Int) = ((t.length - x.queue.length : Nat) : Int) := by omega
                rw [e5, idx_nat]
                have h6 : (t.drop (t.length - x.queue.length))[0]? = some qx := by rw [← t4, qe]; rfl
                rw [List.getElem?_drop] at h6
                simpa [← hxb, qh] using h6
              have hlb := hfb.2.2.1
              refine Ev.to hfirst (Ev.to (Same_eq (by omega) (by omega)) (hj2 _ (by simp)))
          · have hno := who_end (p := pickd b) (pre := pre) (post := post) (by rw [← e1]; simp only at hge; omega)
            have hgg : (fun j m => g j m + (if j < n ∧ m < pre.length ∧ at_ S (pickd b) m then 1 else 0)) = (fun j m => g j m + (if j < n ∧ at_ S (pickd b) m then 1 else 0)) := by
              funext j m
              congr 1
              by_cases hm : m < pre.length
              · by_cases ha : j < n ∧ at_ S (pickd b) m = true
                · rw [if_pos ⟨ha.1, hm, ha.2⟩, if_pos ha]
                · rw [if_neg (fun h => ha ⟨h.1, h.2.2⟩), if_neg ha]
              · rw [if_neg (fun h => hm h.2.1), if_neg]
                rintro ⟨_, h3⟩
                unfold at_ at h3
                split at h3
                · rename_i y hy
                  rw [e1, List.getElem?_append_right (by omega)] at hy
                  rw [hno y (List.mem_of_getElem? hy)] at h3
                  simp at h3
                · simp at h3
            simp only
            rw [hgg]
            clear hgg hno e4 hge w1 hlp
            clear e1
            clear pre post
            -- what is done
            refine Ev.loop (fun r (s : Int × (List (List Int)) × (List Int)) => ∃ (pre post : List bus_master), S = pre ++ post ∧ r = (who (pickd b) 0 S).length - (who (pickd b) 0 pre).length ∧ s = (((who (pickd b) 0 pre).length : Int), tab (fun j m => if j < pre.length ∧ at_ S (pickd b) j then 0 else g j m + (if j < n ∧ at_ S (pickd b) m then 1 else 0)), doneOf T (pre.map (stepF b true) ++ post)) ∧ Suf T (pre.map (stepF b true) ++ post))
              (fun r s hi self5 hself5 => ?_) (n := (who (pickd b) 0 S).length) (by omega) ⟨[], S, rfl, by simp [who], by simp [who], hSS⟩
            obtain ⟨pre, post, e1, e4, rfl, hSu⟩ := hi
            have w1 := who_len (p := pickd b) 0 pre
            have hlp : pre.length ≤ S.length := by rw [e1]; simp
            refine Ev.dec (fun hlt => ?_) (fun hge => ?_)
            · simp only at hlt
              obtain ⟨mid, x, post', q1, q2, hp, q4, q5⟩ := who_next (p := pickd b) (pre := pre) (post := post) (by rw [← e1]; omega)
              rw [← e1] at q4
              have q3 : ready x = true := by simp only [pickd, Bool.and_eq_true] at hp; exact hp.1
              obtain ⟨qx, qs, qe, qh⟩ := ready_queue q3
              have hA : (pre.map (stepF b true) ++ mid).length = (pre ++ mid).length := by simp
              have hsp : pre.map (stepF b true) ++ post = (pre.map (stepF b true) ++ mid) ++ x :: post' := by rw [q1]; simp
              have hmid : mid.map (stepF b true) = mid := by
                conv => rhs; rw [← List.map_id mid]
                exact List.map_congr_left (fun z hz => fid z (q2 z hz))
              have hS2 : S = (pre ++ mid ++ [x]) ++ post' := by rw [e1, q1]; simp
              have km : (pre ++ mid ++ [x]).map (stepF b true) ++ post' = (pre.map (stepF b true) ++ mid) ++ stepF b true x :: post' := by rw [List.map_append, List.map_append, hmid]; simp
              have hjn : (pre ++ mid).length < S.length := by rw [hS2]; simp
              have hSx : S[(pre ++ mid).length]? = some x := by rw [hS2]; simp
              have hgx : (pre.map (stepF b true) ++ post)[(pre ++ mid).length]? = some x := by rw [hsp, ← hA]; simp
              have hmidno : ∀ k, pre.length ≤ k → k < (pre ++ mid).length → at_ S (pickd b) k = false := by
                intro k h1 h2
                have hk : S[k]? = mid[k - pre.length]? := by
                  rw [hS2, List.append_assoc, List.append_assoc, List.getElem?_append_right h1, List.getElem?_append_left (by simp at h2; omega)]
                have hkl : k - pre.length < mid.length := by simp at h2; omega
                rw [List.getElem?_eq_getElem hkl] at hk
                rw [at_some hk]; exact q2 _ (List.getElem_mem hkl)
              obtain ⟨t, t1, t2, t3, t4, t5⟩ := hSu.at hgx
              have hpl : (pre ++ mid ++ [x]).length = (pre ++ mid).length + 1 := List.length_append
              generalize hN : (pre ++ mid).length = N at *
              have hpN : pre.length ≤ N := by rw [← hN]; simp
              have hset : ∀ z, (pre.map (stepF b true) ++ post).set N z = (pre.map (stepF b true) ++ mid) ++ z :: post' := by
                intro z; rw [hsp, ← hA]; simp
              have hst : stepF b true x = ⟨x.queue.tail, 0, true⟩ := by simp [stepF, hp, hit_true]
              obtain ⟨u1, u2⟩ := hSu.set (y := stepF b true x) hgx (.inr (by rw [hst]))
              rw [hset] at u1 u2
              have hTg : T.getD N [] = t := by simp [List.getD_eq_getElem?_getD, t1]
              rw [hTg] at u2
              have haN : at_ S (pickd b) N = true := by rw [at_some hSx]; exact hp
              have hN8 : N < 8 := by omega
              refine Ev.to (a := (N : Int)) (by simp only; rw [idx_nat]; exact q4) ?_
              simp only
              refine Ev.to (a := (t.length : Int) - (x.queue.length : Int)) (by rw [idx_nat]; exact t5) (Ev.to (a := (t.length : Int) - (x.queue.length : Int)) (by rw [idx_nat]; exact t5) ?_)
              rw [w_i64 (by omega) (by omega)]
              refine Ev.letP (Ev.to (a := (N : Int)) (by rw [idx_nat]; exact q4) (Ev.to (tab_get hN8) (Ev.chk (by simp only [tab_len]; rfl) ?_)))
              rw [row_zero, tab_upd hN8]
              refine Ev.letP (Ev.letP ?_)
              rw [wi _ (by omega)]
              refine hself5 ((who (pickd b) 0 S).length - ((who (pickd b) 0 pre).length + 1)) _ (by omega) ⟨pre ++ mid ++ [x], post', hS2, by rw [q5], ?_, by rw [km]; exact u1⟩
              rw [q5, km, u2, hpl]
              refine Prod.ext rfl (Prod.ext ?_ ?_)
              · simp only
                congr 1
                funext j m
                by_cases hjN : j = N
                · subst hjN
                  simp only [if_true]
                  rw [if_pos ⟨by omega, haN⟩]
                · simp only [if_neg hjN]
                  by_cases hjp : j < pre.length
                  · by_cases ha : at_ S (pickd b) j = true
                    · rw [if_pos ⟨hjp, ha⟩, if_pos ⟨by omega, ha⟩]
                    · rw [if_neg (c := j < pre.length ∧ at_ S (pickd b) j = true) (fun h => ha h.2), if_neg (c := j < N + 1 ∧ at_ S (pickd b) j = true) (fun h => ha h.2)]
                  · rw [if_neg (c := j < pre.length ∧ at_ S (pickd b) j = true) (fun h => hjp h.1), if_neg (c := j < N + 1 ∧ at_ S (pickd b) j = true)]
                    rintro ⟨h2, h3⟩
                    rw [hmidno j (by omega) (by omega)] at h3
                    simp at h3
              · simp only
                unfold upd
                rw [hst, qe]
                simp only [List.tail_cons, List.length_cons, Int.toNat_natCast]
                congr 1; omega
            · have hno := who_end (p := pickd b) (pre := pre) (post := post) (by rw [← e1]; simp only at hge; omega)
              have z3 : S.map (stepF b true) = pre.map (stepF b true) ++ post := by
                rw [e1, List.map_append]
                congr 1
                conv => rhs; rw [← List.map_id post]
                exact List.map_congr_left (fun z hz => fid z (hno z hz))
              rw [← z3] at hSu ⊢
              refine Ev.letP ?_
              simp only
              rw [wi i (by omega)]
              have hgg : (fun (j m : Nat) => if j < pre.length ∧ at_ S (pickd b) j then (0 : Int) else g j m + (if j < n ∧ at_ S (pickd b) m then 1 else 0)) = (fun j m => if at_ S (pickd b) j then 0 else g j m + (if j < n ∧ at_ S (pickd b) m then 1 else 0)) := by
                funext j m
                by_cases ha : at_ S (pickd b) j = true
                · have hjp : j < pre.length := by
                    refine Classical.byContradiction fun hn => ?_
                    unfold at_ at ha
                    split at ha
                    · rename_i y hy
                      rw [e1, List.getElem?_append_right (by omega)] at hy
                      rw [hno y (List.mem_of_getElem? hy)] at ha
                      simp at ha
                    · simp at ha
                  rw [if_pos ⟨hjp, ha⟩, if_pos ha]
                · rw [if_neg (fun h => ha h.2), if_neg ha]
              rw [hgg]
              refine hself (42 - (i + 1)) _ (by omega) ⟨i + 1, S.map (stepF b true), fun j m => if at_ S (pickd b) j then 0 else g j m + (if j < n ∧ at_ S (pickd b) m then 1 else 0), by omega, rfl, by simp, hBM, by simp; omega, hSu, by push_cast; omega, ?_, ?_⟩
              · intro j m x y hx hy hq
                have hjn : j < n := by have := lt_len hx; simp at this; omega
                have := Fair.step (b := b) hFS j m x y hx hy hq
                simp only [hjn, true_and] at this ⊢
                exact this
              · intro j m
                have := hG j m
                simp only
                split
                · omega
                · split <;> omega
        · refine Ev.iteF rfl (Ev.iteF ?_ (hj _ (by rw [hfail]; rfl)))
          obtain ⟨m, hm, hmp⟩ := hpx
          rw [beq_eq_false_iff_ne]
          intro e0
          have := who_nil (p := pickd b) (k := 0) (List.eq_nil_of_length_eq_zero (by omega)) m hm
          rw [hmp] at this; simp at this
  · intro j m x y hx hy hq
    show (0 : Int) ≤ _
    unfold SB
    split <;> split <;> omega
end Lift
