/- The bus: what its functions compute. No program in sight. -/
import Derived.Test.YtedddoifbhcinaaBusf
import Derived.Test.YtedddoifbhcinaaEv
set_option linter.unusedVariables false
set_option linter.unusedSimpArgs false
namespace Lift
open Go

/-- Where the things with a property stand. -/
def who {α : Type} (p : α → Bool) : Nat → List α → List Int
  | _, [] => []
  | k, x :: l => if p x then (k : Int) :: who p (k + 1) l else who p (k + 1) l
theorem who_app {α : Type} {p : α → Bool} : ∀ (k : Nat) (a b : List α), who p k (a ++ b) = who p k a ++ who p (k + a.length) b
  | k, [], b => by simp [who]
  | k, x :: a, b => by
    simp only [List.cons_append, who, who_app (k + 1) a b, List.length_cons]
    rw [show k + 1 + a.length = k + (a.length + 1) by omega]
    split <;> simp
theorem who_len {α : Type} {p : α → Bool} : ∀ (k : Nat) (l : List α), (who p k l).length ≤ l.length
  | k, [] => by simp [who]
  | k, x :: l => by
    have := who_len (p := p) (k + 1) l
    simp only [who]
    split <;> simp <;> omega
theorem who_none {α : Type} {p : α → Bool} : ∀ {k : Nat} {l : List α}, (∀ x ∈ l, p x = false) → who p k l = []
  | k, [], _ => rfl
  | k, x :: l, h => by
    have hx := h x (by simp)
    simp only [who, hx]
    exact who_none (fun y hy => h y (by simp [hy]))
theorem who_nil {α : Type} {p : α → Bool} : ∀ {k : Nat} {l : List α}, who p k l = [] → ∀ x ∈ l, p x = false
  | k, [], _, x, hx => by simp at hx
  | k, y :: l, h, x, hx => by
    simp only [who] at h
    split at h
    · simp at h
    · rename_i hy
      rcases List.mem_cons.1 hx with rfl | hx
      · simpa using hy
      · exact who_nil h x hx
theorem who_mem {α : Type} {p : α → Bool} {i : Int} : ∀ {k : Nat} {l : List α}, i ∈ who p k l ↔ ∃ (n : Nat) (x : α), l[n]? = some x ∧ p x = true ∧ i = ((k + n : Nat) : Int)
  | k, [] => by simp [who]
  | k, x :: l => by
    have ih := who_mem (p := p) (i := i) (k := k + 1) (l := l)
    have key : (∃ (n : Nat) (y : α), (x :: l)[n]? = some y ∧ p y = true ∧ i = ((k + n : Nat) : Int)) ↔ (p x = true ∧ i = (k : Int)) ∨ ∃ (n : Nat) (y : α), l[n]? = some y ∧ p y = true ∧ i = ((k + 1 + n : Nat) : Int) := by
      constructor
      · rintro ⟨n, y, h1, h2, h3⟩
        cases n with
        | zero => simp at h1; subst h1; exact .inl ⟨h2, by simpa using h3⟩
        | succ n => exact .inr ⟨n, y, by simpa using h1, h2, by rw [h3]; congr 1; omega⟩
      · rintro (⟨h1, h2⟩ | ⟨n, y, h1, h2, h3⟩)
        · exact ⟨0, x, rfl, h1, by simpa using h2⟩
        · exact ⟨n + 1, y, by simpa using h1, h2, by rw [h3]; congr 1; omega⟩
    rw [key, ← ih]
    simp only [who]
    split
    · rename_i hp; simp [hp]
    · rename_i hp; simp [hp]
theorem who_split {α : Type} {p : α → Bool} : ∀ {k : Nat} {l : List α}, who p k l ≠ [] → ∃ mid x post, l = mid ++ x :: post ∧ (∀ y ∈ mid, p y = false) ∧ p x = true ∧ who p k l = ((k + mid.length : Nat) : Int) :: who p (k + mid.length + 1) post
  | k, [], h => absurd rfl h
  | k, x :: l, h => by
    by_cases hx : p x = true
    · exact ⟨[], x, l, rfl, by simp, hx, by simp [who, hx]⟩
    · have hx' : p x = false := by simpa using hx
      have h' : who p (k + 1) l ≠ [] := by simpa [who, hx'] using h
      obtain ⟨mid, y, post, h1, h2, h3, h4⟩ := who_split h'
      refine ⟨x :: mid, y, post, by rw [h1]; rfl, ?_, h3, ?_⟩
      · intro z hz
        rcases List.mem_cons.1 hz with rfl | hz
        · exact hx'
        · exact h2 z hz
      · simp only [who, hx', Bool.false_eq_true, if_false, List.length_cons]
        rw [h4, show k + 1 + mid.length = k + (mid.length + 1) by omega]
/-- The next one. -/
theorem who_next {α : Type} {p : α → Bool} {pre post : List α} (h : (who p 0 pre).length < (who p 0 (pre ++ post)).length) :
    ∃ mid x post', post = mid ++ x :: post' ∧ (∀ y ∈ mid, p y = false) ∧ p x = true ∧ (who p 0 (pre ++ post))[(who p 0 pre).length]? = some (((pre ++ mid).length : Nat) : Int) ∧
      (who p 0 (pre ++ mid ++ [x])).length = (who p 0 pre).length + 1 := by
  rw [who_app] at h
  have hne : who p (0 + pre.length) post ≠ [] := by intro e; rw [e] at h; simp at h
  obtain ⟨mid, x, post', h1, h2, h3, h4⟩ := who_split hne
  refine ⟨mid, x, post', h1, h2, h3, ?_, ?_⟩
  · rw [who_app, h4, List.getElem?_append_right (Nat.le_refl _)]; simp
  · rw [List.append_assoc, who_app, who_app, who_none h2]; simp [who, h3]
theorem who_end {α : Type} {p : α → Bool} {pre post : List α} (h : ¬ (who p 0 pre).length < (who p 0 (pre ++ post)).length) : ∀ x ∈ post, p x = false := by
  rw [who_app, List.length_append] at h
  have : who p (0 + pre.length) post = [] := List.eq_nil_of_length_eq_zero (by omega)
  exact who_nil this
theorem who_imp {α : Type} {p q : α → Bool} {k : Nat} {l : List α} (hi : ∀ x ∈ l, p x = false → q x = false) (h : ∀ x ∈ l, p x = false) : who q k l = [] := who_none (fun x hx => hi x hx (h x hx))
theorem idx_at {α : Type} {a b : List α} {x : α} : idx (a ++ x :: b) ((a.length : Nat) : Int) = some x := by rw [idx_nat]; simp
theorem upd_at {α : Type} {a b : List α} {x y : α} : upd (a ++ x :: b) ((a.length : Nat) : Int) y = a ++ y :: b := by
  unfold upd; simp
theorem app_one {α : Type} {b : Nat} {l : List α} {x : α} (h : l.length ≤ 100000) (hb : b ≤ 1000) : app b l [x] = some (l ++ [x]) := by
  refine app_ok ?_
  have : (l.length + 1) * b ≤ 100001 * 1000 := Nat.mul_le_mul (by omega) hb
  simp; omega

structure MOk (m : bus_master) : Prop where
  len : m.queue.length ≤ 16
  lo : 0 ≤ m.tries
  hi : m.tries ≤ 3
  fb : ∀ x ∈ m.queue, FB x
structure BOk (ms : List bus_master) : Prop where
  len : ms.length ≤ 8
  ok : ∀ m ∈ ms, MOk m
def wait (m : bus_master) : Bool := decide (m.queue ≠ [])
def ready (m : bus_master) : Bool := wait m && !m.served
def fresh (m : bus_master) : bus_master := { m with served := false }
/-- The masters as they stand for the next arbitration. -/
def start (ms : List bus_master) : List bus_master := if ms.any ready || !ms.any wait then ms else ms.map fresh
theorem start_len (ms : List bus_master) : (start ms).length = ms.length := by unfold start; split <;> simp
theorem start_ok {ms : List bus_master} (h : BOk ms) : BOk (start ms) := by
  refine ⟨by rw [start_len]; exact h.len, ?_⟩
  unfold start
  split
  · exact h.ok
  · intro m hm
    obtain ⟨x, hx, rfl⟩ := List.mem_map.1 hm
    obtain ⟨a, b, c, d⟩ := h.ok x hx
    exact ⟨a, b, c, d⟩
theorem ready_fresh (m : bus_master) : ready (fresh m) = wait m := by simp [ready, fresh]; rfl
theorem who_map {α β : Type} {p : β → Bool} {f : α → β} : ∀ (k : Nat) (l : List α), who p k (l.map f) = who (fun x => p (f x)) k l
  | k, [] => rfl
  | k, x :: l => by simp only [List.map_cons, who, who_map (k + 1) l]
theorem who_congr {α : Type} {p q : α → Bool} (h : ∀ x, p x = q x) (k : Nat) (l : List α) : who p k l = who q k l := by rw [funext h]
theorem qwait {m : bus_master} : ((m.queue.length : Int) == 0) = !wait m := by
  unfold wait
  cases hq : m.queue with
  | nil => simp
  | cons x l => simp; omega
theorem taking_eq {fuel : Nat} {ms : List bus_master} (h : BOk ms) (hf : 5000 < fuel) : bus_Bus_taking fuel ⟨ms⟩ = some (who ready 0 (start ms), ⟨start ms⟩) := by
  have hl := h.len
  unfold bus_Bus_taking
  have second : ∀ fuel : Nat, 5000 < fuel → loopP (fun k2 (s3 : (Int × bus_Bus)) =>
      iteP (decide (s3.1 < (ms.length : Int))) (
      bindP (idx s3.2.masters s3.1) fun x4 =>
      letP (upd s3.2.masters s3.1 ({ x4 with served := false })) fun d1 =>
      k2 ((IntKind.i64.wrap (s3.1 + 1)), { s3.2 with masters := d1 })) (
      some (who wait 0 ms, s3.2))) fuel (0, ⟨ms⟩) = some (who wait 0 ms, ⟨ms.map fresh⟩) := by
    intro fuel hf
    refine loop_run (fun i => ((i : Int), (⟨(ms.take i).map fresh ++ ms.drop i⟩ : bus_Bus))) ms.length (by simp) (by omega) (fun i hi k => ?_) (fun k => ?_)
    · have hd : ms.drop i = ms[i]'hi :: ms.drop (i + 1) := (List.drop_eq_getElem_cons hi)
      have hlen : ((ms.take i).map fresh).length = i := by simp; omega
      have e1 : idx ((ms.take i).map fresh ++ ms.drop i) (i : Int) = some (ms[i]'hi) := by
        rw [hd]; have := idx_at (a := (ms.take i).map fresh) (b := ms.drop (i + 1)) (x := ms[i]'hi); rwa [hlen] at this
      have e2 : ∀ y, upd ((ms.take i).map fresh ++ ms.drop i) (i : Int) y = (ms.take i).map fresh ++ y :: ms.drop (i + 1) := by
        intro y; rw [hd]; have := upd_at (a := (ms.take i).map fresh) (b := ms.drop (i + 1)) (x := ms[i]'hi) (y := y); rwa [hlen] at this
      have e3 : (ms.take (i + 1)).map fresh ++ ms.drop (i + 1) = (ms.take i).map fresh ++ fresh (ms[i]'hi) :: ms.drop (i + 1) := by
        rw [List.take_add_one, List.getElem?_eq_getElem hi, List.map_append, List.append_assoc]; rfl
      simp only [show ((i : Int) < (ms.length : Int)) by omega, decide_true, iteP_true, e1, bindP_some, letP_eq, e2, wi i (by omega), e3, fresh]
      rfl
    · simp
  refine loop_run (fun i => ((i : Int), who wait 0 (ms.take i), who ready 0 (ms.take i))) ms.length (by simp [who]) (by omega) (fun i hi k => ?_) (fun k => ?_)
  · have hx : ms[i]? = some (ms[i]'hi) := by simp
    have htk : ms.take (i + 1) = ms.take i ++ [ms[i]'hi] := by rw [List.take_add_one, hx]; rfl
    have hti : (ms.take i).length = i := by simp; omega
    have l1 := who_len (p := wait) 0 (ms.take i)
    have l2 := who_len (p := ready) 0 (ms.take i)
    simp only [show ((i : Int) < (ms.length : Int)) by omega, decide_true, iteP_true, idx_nat, hx, bindP_some, qwait, htk, who_app, hti, Nat.zero_add, wi i (by omega)]
    rw [app_one (by omega) (by omega), bindP_some, app_one (by omega) (by omega), bindP_some]
    cases hw : wait (ms[i]'hi) with
    | false => simp [who, hw, ready]
    | true =>
      cases hs : (ms[i]'hi).served with
      | false => simp [who, hw, ready, hs]
      | true => simp [who, hw, ready, hs]
  · simp only [show ¬ ((ms.length : Int) < (ms.length : Int)) by omega, decide_false, iteP_false, List.take_length, joinP_eq]
    have hr : (who ready 0 ms).length > 0 ↔ ms.any ready = true := by
      rw [List.any_eq_true]
      constructor
      · intro h0
        refine Classical.byContradiction fun hn => ?_
        have := who_none (p := ready) (k := 0) (l := ms) (fun x hx => by cases hx' : ready x with | false => rfl | true => exact absurd ⟨x, hx, hx'⟩ hn)
        rw [this] at h0; simp at h0
      · rintro ⟨x, hx, hp⟩
        cases hw : who ready 0 ms with
        | nil => have := who_nil hw x hx; rw [hp] at this; simp at this
        | cons _ _ => simp
    have hw : (who wait 0 ms).length = 0 ↔ ms.any wait = false := by
      constructor
      · intro h0
        rw [List.any_eq_false]
        intro x hx; have := who_nil (List.eq_nil_of_length_eq_zero h0) x hx; simp [this]
      · intro h0
        rw [List.any_eq_false] at h0
        rw [who_none (fun x hx => by simpa using h0 x hx)]; rfl
    unfold start
    cases hr' : ms.any ready with
    | true =>
      have := hr.2 hr'
      rw [show decide (((who ready 0 ms).length : Int) > 0) = true from decide_eq_true (by omega), iteP_true]; simp
    | false =>
      have h0 : ¬ (who ready 0 ms).length > 0 := fun h0 => by have := hr.1 h0; rw [hr'] at this; simp at this
      rw [show decide (((who ready 0 ms).length : Int) > 0) = false from decide_eq_false (by omega), iteP_false]
      cases hw' : ms.any wait with
      | false =>
        have := hw.2 hw'
        rw [show (((who wait 0 ms).length : Int) == 0) = true by simp [this]]; simp
      | true =>
        have h1 : ¬ (who wait 0 ms).length = 0 := fun h1 => by have := hw.1 h1; rw [hw'] at this; simp at this
        rw [show (((who wait 0 ms).length : Int) == 0) = false by rw [beq_eq_false_iff_ne]; omega]
        simp only [iteP_false, Bool.false_or, Bool.not_true, Bool.false_eq_true, if_false]
        rw [second fuel hf, who_map, who_congr ready_fresh]
def qhead (m : bus_master) : List Int := m.queue.headD []
def minL : List (List Int) → List Int
  | [] => []
  | x :: l => l.foldl (fun b y => if cmpL y b < 0 then y else b) x
theorem minL_snoc {l : List (List Int)} {x : List Int} (h : l ≠ []) : minL (l ++ [x]) = if cmpL x (minL l) < 0 then x else minL l := by
  cases l with
  | nil => exact absurd rfl h
  | cons y l => show (l ++ [x]).foldl _ y = _; rw [List.foldl_append]; rfl
theorem minL_mem : ∀ {l : List (List Int)}, l ≠ [] → minL l ∈ l := by
  intro l h
  have key : ∀ (l : List (List Int)) (x : List Int), l.foldl (fun b y => if cmpL y b < 0 then y else b) x ∈ x :: l := by
    intro l
    induction l with
    | nil => intro x; simp
    | cons y l ih =>
      intro x
      simp only [List.foldl_cons]
      have := ih (if cmpL y x < 0 then y else x)
      rcases List.mem_cons.1 this with h | h
      · rw [h]; split <;> simp
      · exact List.mem_cons_of_mem _ (List.mem_cons_of_mem _ h)
  cases l with
  | nil => exact absurd rfl h
  | cons x l => exact key l x
/-- The least of the frames that take part. -/
def least (ms : List bus_master) : List Int := minL ((ms.filter ready).map qhead)
theorem ready_queue {m : bus_master} (h : ready m = true) : ∃ x q, m.queue = x :: q ∧ qhead m = x := by
  simp only [ready, wait, Bool.and_eq_true, decide_eq_true_eq] at h
  cases hq : m.queue with
  | nil => exact absurd hq h.1
  | cons x q => exact ⟨x, q, rfl, by simp [qhead, hq]⟩
theorem filter_next {pre mid : List bus_master} {x : bus_master} (hm : ∀ y ∈ mid, ready y = false) (hx : ready x = true) : (pre ++ mid ++ [x]).filter ready = pre.filter ready ++ [x] := by
  have e : mid.filter ready = [] := List.filter_eq_nil_iff.2 (fun y hy => by simp [hm y hy])
  have e2 : [x].filter ready = [x] := by rw [List.filter_cons, hx]; rfl
  rw [List.filter_append, List.filter_append, e, e2, List.append_nil]
theorem filter_ne {pre : List bus_master} (h : 0 < (who ready 0 pre).length) : pre.filter ready ≠ [] := by
  intro e
  rw [List.filter_eq_nil_iff] at e
  have := who_none (p := ready) (k := 0) (l := pre) (fun x hx => by simpa using e x hx)
  rw [this] at h; simp at h
theorem least_mem {ms : List bus_master} (h : ms.filter ready ≠ []) : ∃ m ∈ ms, ready m = true ∧ qhead m = least ms := by
  have := minL_mem (l := (ms.filter ready).map qhead) (by simpa using h)
  obtain ⟨m, hm, e⟩ := List.mem_map.1 this
  obtain ⟨h1, h2⟩ := List.mem_filter.1 hm
  exact ⟨m, h1, h2, e⟩
theorem head_fb {m : bus_master} (h : MOk m) (hr : ready m = true) : FB (qhead m) := by
  obtain ⟨x, q, e1, e2⟩ := ready_queue hr
  rw [e2]; exact h.fb x (by rw [e1]; simp)
theorem least_fb {ms : List bus_master} (h : BOk ms) (hn : ms.filter ready ≠ []) : FB (least ms) := by
  obtain ⟨m, hm, hr, e⟩ := least_mem hn
  rw [← e]; exact head_fb (h.ok m hm) hr
theorem first_eq {fuel : Nat} {a b : List bus_master} {m : bus_master} (hr : ready m = true) : bus_Bus_Step_1_2 fuel ((a.length : Nat) : Int) ⟨a ++ m :: b⟩ = some (qhead m) := by
  obtain ⟨x, q, e1, e2⟩ := ready_queue hr
  unfold bus_Bus_Step_1_2
  rw [idx_at, bindP_some, e1, e2]; rfl
theorem first_get {fuel : Nat} {ms : List bus_master} {m : bus_master} {i : Nat} (h : ms[i]? = some m) (hr : ready m = true) : bus_Bus_Step_1_2 fuel (i : Int) ⟨ms⟩ = some (qhead m) := by
  obtain ⟨x, q, e1, e2⟩ := ready_queue hr
  unfold bus_Bus_Step_1_2
  rw [idx_nat]
  simp only [h, bindP_some, e1, e2]; rfl
theorem Ev.eq {α : Type} {x : Option α} {a : α} : Ev x (fun b => b = a) ↔ x = some a := ⟨fun ⟨b, e, h⟩ => by rw [e, h], fun h => ⟨a, h, rfl⟩⟩
theorem MinFunc_eq {fuel : Nat} {ms : List bus_master} (h : BOk ms) (hn : ms.filter ready ≠ []) (hf : 5000 < fuel) : Ev (slices_MinFunc_int_int_bus_Bus_Step_2 fuel (who ready 0 ms) ⟨ms⟩) (fun r => ∃ (i : Nat) (m : bus_master), r = (i : Int) ∧ ms[i]? = some m ∧ ready m = true ∧ qhead m = least ms) := by
  have hl := h.len
  have hwl := who_len (p := ready) 0 ms
  have hpos : 0 < (who ready 0 ms).length := by
    cases hw : who ready 0 ms with
    | nil => exact absurd (List.filter_eq_nil_iff.2 (fun x hx => by simp [who_nil hw x hx])) hn
    | cons _ _ => simp
  unfold slices_MinFunc_int_int_bus_Bus_Step_2
  refine Ev.iteF (by simp; omega) ?_
  obtain ⟨mid0, x0, post0, p1, p2, p3, p4, p5⟩ := who_next (p := ready) (pre := []) (post := ms) (by simpa [who] using hpos)
  simp only [List.nil_append] at p4 p5
  refine Ev.to (a := ((mid0.length : Nat) : Int)) (by have : (who ready 0 ([] : List bus_master)).length = 0 := rfl; rw [this] at p4; rw [show (0 : Int) = ((0 : Nat) : Int) from rfl, idx_nat]; exact p4) ?_
  refine Ev.loop (fun r (s : Int × Int) => ∃ (pre post : List bus_master) (i : Nat) (m : bus_master), ms = pre ++ post ∧ s.2 = ((who ready 0 pre).length : Int) ∧ 0 < (who ready 0 pre).length ∧ r = (who ready 0 ms).length - (who ready 0 pre).length ∧ s.1 = (i : Int) ∧ ms[i]? = some m ∧ ready m = true ∧ qhead m = least pre)
    (fun r s hi self hself => ?_) (n := (who ready 0 ms).length - 1) (by omega) ⟨mid0 ++ [x0], post0, mid0.length, x0, by rw [p1]; simp, by rw [p5]; rfl, by rw [p5]; exact Nat.succ_pos _, by rw [p5]; simp [who], rfl, by rw [p1]; simp, p3, by
      have := filter_next (pre := []) p2 p3
      simp only [List.nil_append, List.filter_nil] at this
      unfold least; rw [this]; simp [minL]⟩
  obtain ⟨pre, post, i, m, e1, e2, e3, e4, e5, e6, e7, e8⟩ := hi
  obtain ⟨s1, s2⟩ := s
  simp only at e2 e5
  subst e2 e5
  refine Ev.dec (fun hlt => ?_) (fun hge => ?_)
  · obtain ⟨mid, x, post', q1, q2, q3, q4, q5⟩ := who_next (p := ready) (pre := pre) (post := post) (by rw [← e1]; omega)
    rw [← e1] at q4
    have hxm : x ∈ ms := by rw [e1, q1]; simp
    have hmm : m ∈ ms := List.mem_of_getElem? e6
    have hsp : ms = (pre ++ mid) ++ x :: post' := by rw [e1, q1]; simp
    refine Ev.to (a := (((pre ++ mid).length : Nat) : Int)) (by rw [idx_nat]; exact q4) ?_
    have hc : bus_Bus_Step_2_2 fuel (((pre ++ mid).length : Nat) : Int) (i : Int) ⟨ms⟩ = some (cmpL (qhead x) (qhead m)) := by
      unfold bus_Bus_Step_2_2
      have ea : bus_Bus_Step_1_2 fuel (((pre ++ mid).length : Nat) : Int) ⟨ms⟩ = some (qhead x) := by rw [hsp]; exact first_eq q3
      rw [ea, bindP_some, first_get e6 e7, bindP_some, Compare_eq fuel _ _ (head_fb (h.ok x hxm) q3).1 (head_fb (h.ok m hmm) e7).1]; rfl
    refine Ev.to hc ?_
    have hls : least (pre ++ mid ++ [x]) = if cmpL (qhead x) (qhead m) < 0 then qhead x else qhead m := by
      unfold least
      rw [filter_next q2 q3, List.map_append]
      have := minL_snoc (l := (pre.filter ready).map qhead) (x := qhead x) (by simpa using filter_ne e3)
      simp only [List.map_cons, List.map_nil]
      rw [this, e8]; rfl
    have hle := who_len (p := ready) 0 pre
    have hlm : pre.length ≤ ms.length := by rw [e1]; simp
    have hmono : (who ready 0 (pre ++ mid ++ [x])).length ≤ (who ready 0 ms).length := by
      have : ms = (pre ++ mid ++ [x]) ++ post' := by rw [e1, q1]; simp
      have h2 := who_app (p := ready) 0 (pre ++ mid ++ [x]) post'
      rw [← this] at h2
      rw [h2, List.length_append]; exact Nat.le_add_right _ _
    refine Ev.dec (fun hc0 => ?_) (fun hc0 => ?_)
    · refine Ev.to (a := (((pre ++ mid).length : Nat) : Int)) (by rw [idx_nat]; exact q4) ?_
      refine Ev.letP ?_
      rw [wi _ (by omega)]
      refine hself ((who ready 0 ms).length - ((who ready 0 pre).length + 1)) _ (by omega) ⟨pre ++ mid ++ [x], post', (pre ++ mid).length, x, by rw [e1, q1]; simp, by rw [q5]; simp, by omega, by rw [q5], rfl, by rw [hsp]; simp, q3, by rw [hls, if_pos hc0]⟩
    · refine Ev.letP ?_
      rw [wi _ (by omega)]
      refine hself ((who ready 0 ms).length - ((who ready 0 pre).length + 1)) _ (by omega) ⟨pre ++ mid ++ [x], post', i, m, by rw [e1, q1]; simp, by rw [q5]; simp, by omega, by rw [q5], rfl, e6, e7, by rw [hls, if_neg hc0]⟩
  · have hno := who_end (p := ready) (pre := pre) (post := post) (by rw [← e1]; omega)
    refine Ev.ret ⟨i, m, rfl, e6, e7, ?_⟩
    rw [e8, e1]
    unfold least
    have e0 : post.filter ready = [] := List.filter_eq_nil_iff.2 (fun y hy => by simp [hno y hy])
    rw [List.filter_append, e0, List.append_nil]
end Lift
