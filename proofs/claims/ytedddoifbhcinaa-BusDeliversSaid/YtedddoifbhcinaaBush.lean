/- Buses: what is done of what was there, how much is left. No program in sight. -/
import Derived.Test.YtedddoifbhcinaaBusl
set_option linter.unusedVariables false
set_option linter.unusedSimpArgs false
namespace Lift
open Go
/-- How many frames of each master are done. -/
def doneOf : List (List (List Int)) → List bus_master → List Int
  | t :: ts, m :: ms => ((t.length : Int) - (m.queue.length : Int)) :: doneOf ts ms
  | _, _ => []
/-- What waits is the end of what was there. -/
def Suf : List (List (List Int)) → List bus_master → Prop
  | t :: ts, m :: ms => (m.queue.length ≤ t.length ∧ t.length ≤ 4 ∧ m.queue = t.drop (t.length - m.queue.length)) ∧ Suf ts ms
  | [], [] => True
  | _, _ => False
theorem Suf.len : ∀ {T : List (List (List Int))} {ms : List bus_master}, Suf T ms → T.length = ms.length
  | [], [], _ => rfl
  | t :: T, m :: ms, h => by simp [Suf.len h.2]
  | [], _ :: _, h => h.elim
  | _ :: _, [], h => h.elim
theorem Suf.at : ∀ {T : List (List (List Int))} {ms : List bus_master} {i : Nat} {m : bus_master}, Suf T ms → ms[i]? = some m → ∃ t, T[i]? = some t ∧ m.queue.length ≤ t.length ∧ t.length ≤ 4 ∧ m.queue = t.drop (t.length - m.queue.length) ∧ (doneOf T ms)[i]? = some ((t.length : Int) - (m.queue.length : Int))
  | t :: T, m :: ms, 0, m', h, hm => by simp at hm; subst hm; exact ⟨t, rfl, h.1.1, h.1.2.1, h.1.2.2, rfl⟩
  | t :: T, m :: ms, i + 1, m', h, hm => by
    obtain ⟨t', h1, h2⟩ := Suf.at h.2 (by simpa using hm)
    exact ⟨t', by simpa using h1, by simpa [doneOf] using h2⟩
  | [], [], _, _, _, hm => by simp at hm
  | [], _ :: _, _, _, h, _ => h.elim
  | _ :: _, [], _, _, h, _ => h.elim
theorem Suf.set : ∀ {T : List (List (List Int))} {ms : List bus_master} {i : Nat} {m y : bus_master}, Suf T ms → ms[i]? = some m → (y.queue = m.queue ∨ y.queue = m.queue.tail) →
    Suf T (ms.set i y) ∧ doneOf T (ms.set i y) = (doneOf T ms).set i (((T.getD i []).length : Int) - (y.queue.length : Int))
  | t :: T, m :: ms, 0, m', y, h, hm, hy => by
    simp at hm; subst hm
    obtain ⟨h1, h2, h3⟩ := h.1
    refine ⟨⟨?_, h.2⟩, by simp [doneOf]⟩
    rcases hy with hy | hy
    · rw [hy]; exact ⟨h1, h2, h3⟩
    · rw [hy]
      refine ⟨by simp; omega, h2, ?_⟩
      conv => lhs; rw [h3]
      rw [List.tail_drop]
      cases hq : m.queue with
      | nil => rw [hq] at h3; simp [List.drop_of_length_le]
      | cons a q =>
        rw [hq] at h1
        simp only [List.length_cons, List.tail_cons] at h1 ⊢
        congr 1; omega
  | t :: T, m :: ms, i + 1, m', y, h, hm, hy => by
    obtain ⟨h1, h2⟩ := Suf.set h.2 (by simpa using hm) hy
    exact ⟨⟨h.1, h1⟩, by simp [doneOf, h2]⟩
  | [], [], _, _, _, _, hm, _ => by simp at hm
  | [], _ :: _, _, _, _, h, _, _ => h.elim
  | _ :: _, [], _, _, _, h, _, _ => h.elim
theorem Suf.congr : ∀ {T : List (List (List Int))} {ms ms' : List bus_master}, ms'.map bus_master.queue = ms.map bus_master.queue → Suf T ms → Suf T ms' ∧ doneOf T ms' = doneOf T ms
  | [], [], [], _, h => ⟨h, rfl⟩
  | [], [], _ :: _, e, _ => by simp at e
  | t :: T, m :: ms, [], e, _ => by simp at e
  | t :: T, m :: ms, m' :: ms', e, h => by
    simp only [List.map_cons, List.cons.injEq] at e
    obtain ⟨h1, h2⟩ := Suf.congr e.2 h.2
    refine ⟨⟨by rw [e.1]; exact h.1, h1⟩, by simp [doneOf, e.1, h2]⟩
  | [], _ :: _, _, _, h => h.elim
  | _ :: _, [], _, _, h => h.elim
theorem Suf.refl : ∀ {ms : List bus_master}, (∀ m ∈ ms, m.queue.length ≤ 4) → Suf (ms.map bus_master.queue) ms ∧ doneOf (ms.map bus_master.queue) ms = List.replicate ms.length 0
  | [], _ => ⟨trivial, rfl⟩
  | m :: ms, h => by
    obtain ⟨h1, h2⟩ := Suf.refl (ms := ms) (fun x hx => h x (List.mem_cons_of_mem _ hx))
    refine ⟨⟨⟨Nat.le_refl _, h m (by simp), by simp⟩, h1⟩, ?_⟩
    simp [doneOf, h2, List.replicate_succ]
theorem start_q (ms : List bus_master) : (start ms).map bus_master.queue = ms.map bus_master.queue ∧ (start ms).map bus_master.tries = ms.map bus_master.tries := by
  unfold start
  split
  · exact ⟨rfl, rfl⟩
  · simp only [List.map_map]; exact ⟨rfl, rfl⟩
/-- How much is left to do. -/
def pot : List bus_master → Int
  | [] => 0
  | m :: ms => (if m.queue = [] then 0 else 4 * (m.queue.length : Int) - m.tries) + pot ms
theorem pot_nn : ∀ {ms : List bus_master}, (∀ m ∈ ms, MOk m) → 0 ≤ pot ms
  | [], _ => by simp [pot]
  | m :: ms, h => by
    have := pot_nn (fun x hx => h x (List.mem_cons_of_mem _ hx))
    obtain ⟨a, b, c, d⟩ := h m (by simp)
    unfold pot
    cases hq : m.queue with
    | nil => simp; exact this
    | cons x q => simp; omega
theorem pot_congr : ∀ {ms ms' : List bus_master}, ms'.map bus_master.queue = ms.map bus_master.queue → ms'.map bus_master.tries = ms.map bus_master.tries → pot ms' = pot ms
  | [], [], _, _ => rfl
  | [], _ :: _, h, _ => by simp at h
  | _ :: _, [], h, _ => by simp at h
  | m :: ms, m' :: ms', h, h' => by
    simp only [List.map_cons, List.cons.injEq] at h h'
    simp only [pot, h.1, h'.1, pot_congr h.2 h'.2]
theorem pot_step {b : List Int} {ok : Bool} : ∀ {ms : List bus_master}, (∀ m ∈ ms, MOk m) → pot (ms.map (stepF b ok)) ≤ pot ms ∧ ((∃ m ∈ ms, pickd b m = true) → pot (ms.map (stepF b ok)) + 1 ≤ pot ms)
  | [], _ => by simp
  | m :: ms, h => by
    obtain ⟨i1, i2⟩ := pot_step (b := b) (ok := ok) (fun x hx => h x (List.mem_cons_of_mem _ hx))
    obtain ⟨h1, h2, h3, h4⟩ := h m (by simp)
    cases hp : pickd b m with
    | false =>
      have e : stepF b ok m = m := by simp [stepF, hp]
      simp only [List.map_cons, pot, e]
      refine ⟨by omega, ?_⟩
      rintro ⟨x, hx, hxp⟩
      rcases List.mem_cons.1 hx with rfl | hx
      · rw [hp] at hxp; simp at hxp
      · have := i2 ⟨x, hx, hxp⟩; omega
    | true =>
      have hr : ready m = true := by simp only [pickd, Bool.and_eq_true] at hp; exact hp.1
      obtain ⟨x, q, e1, _⟩ := ready_queue hr
      have e : stepF b ok m = hit ok m := by simp [stepF, hp]
      have key : (if (hit ok m).queue = [] then 0 else 4 * ((hit ok m).queue.length : Int) - (hit ok m).tries) + 1 ≤ 4 * (m.queue.length : Int) - m.tries := by
        unfold hit
        split
        · simp only [e1, List.tail_cons]
          rw [e1] at h1
          cases q with
          | nil => simp; omega
          | cons y q => simp; omega
        · simp only [e1]; simp; omega
      have e2 : ¬ m.queue = [] := by rw [e1]; simp
      simp only [List.map_cons, pot, e, if_neg e2]
      exact ⟨by omega, fun _ => by omega⟩
theorem pot_load : ∀ {ms : List bus_master}, (∀ m ∈ ms, m.queue.length ≤ 4 ∧ m.tries = 0 ∧ m.served = false) → pot ms ≤ 16 * (ms.length : Int)
  | [], _ => by simp [pot]
  | m :: ms, h => by
    have := pot_load (fun x hx => h x (List.mem_cons_of_mem _ hx))
    obtain ⟨h1, h2, _⟩ := h m (by simp)
    simp only [pot, List.length_cons]
    split <;> omega
theorem busy_false {ms : List bus_master} (h : busy ms = false) : ∀ m ∈ ms, m.queue = [] := by
  intro m hm
  have := List.any_eq_false.1 h m hm
  simp only [wait, decide_eq_true_eq, Classical.not_not] at this
  exact this
theorem pick_ex {S : List bus_master} (hn : S.filter ready ≠ []) : ∃ m ∈ S, pickd (least S) m = true := by
  obtain ⟨m, h1, h2, h3⟩ := least_mem hn
  exact ⟨m, h1, by simp [pickd, h2, h3]⟩
end Lift
