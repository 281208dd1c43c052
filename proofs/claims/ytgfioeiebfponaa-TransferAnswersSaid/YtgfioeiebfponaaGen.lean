/- Lists, numbers, loops: what all closed forms stand on (no function of the seat). No program in sight. -/
import Derived.Test.YtgfioeiebfponaaEv
set_option linter.unusedVariables false
set_option linter.unusedSimpArgs false
namespace Lift
open Go
def byte (v : Int) : Prop := 0 ≤ v ∧ v ≤ 255
theorem wi (i : Nat) (h : i ≤ 100000) : IntKind.i64.wrap ((i : Int) + 1) = (i : Int) + 1 := w_i64 (by omega) (by omega)
theorem wr {n : Int} (h : -1000000000000 ≤ n ∧ n ≤ 1000000000000) : IntKind.i64.wrap n = n := w_i64 (by omega) (by omega)
theorem app_ok {α : Type} {b : Nat} {l m : List α} (h : (l.length + m.length) * b ≤ 140737488355328) : app b l m = some (l ++ m) := by simp [app, h]
theorem sub_ok {α : Type} {l : List α} {a b : Nat} (h1 : a ≤ b) (h2 : b ≤ l.length) : sub l (a : Int) (b : Int) = some ((l.drop a).take (b - a)) := by
  have : (0 : Int) ≤ a ∧ (a : Int) ≤ b ∧ (b : Int) ≤ l.length := by omega
  simp [sub, this]
theorem sub_int {α : Type} {l : List α} {a b : Int} (h0 : 0 ≤ a) (h1 : a ≤ b) (h2 : b ≤ l.length) : sub l a b = some ((l.drop a.toNat).take (b.toNat - a.toNat)) := by
  obtain ⟨m, rfl⟩ := Int.eq_ofNat_of_zero_le h0
  obtain ⟨n, rfl⟩ := Int.eq_ofNat_of_zero_le (show 0 ≤ b by omega)
  exact sub_ok (by omega) (by omega)
theorem idx_int {α : Type} {l : List α} {a : Int} (h0 : 0 ≤ a) (h2 : a < l.length) : ∃ h : a.toNat < l.length, idx l a = some (l[a.toNat]'h) := by
  obtain ⟨m, rfl⟩ := Int.eq_ofNat_of_zero_le h0
  exact ⟨by omega, by simp [idx, show m < l.length by omega]⟩
theorem mk_ok {α : Type} {b : Nat} {x : α} {n : Nat} (h : n * b ≤ 140737488355328) : mk b x (n : Int) = some (List.replicate n x) := by
  have h1 : 0 ≤ (n : Int) ∧ (n : Int).toNat * b ≤ 140737488355328 := ⟨by omega, by simpa using h⟩
  rw [mk, if_pos h1]; simp
theorem mk_int {α : Type} {b : Nat} {x : α} {n : Int} (h0 : 0 ≤ n) (h : n.toNat * b ≤ 140737488355328) : mk b x n = some (List.replicate n.toNat x) := by
  rw [mk, if_pos ⟨h0, h⟩]
theorem ibeq (a b : Int) : (a == b) = decide (a = b) := rfl
theorem ibne (a b : Int) : (a != b) = !decide (a = b) := rfl
theorem list_ext_all {α : Type} {a b : List α} (hl : a.length = b.length) (h : ∀ i : Nat, i < a.length → a[i]? = b[i]?) : a = b := by
  apply List.ext_getElem?
  intro i
  by_cases hi : i < a.length
  · exact h i hi
  · rw [List.getElem?_eq_none (by omega), List.getElem?_eq_none (by omega)]
/-- A loop over the elements of a list. -/
theorem Ev.each {α β : Type} {l : List α} {step : (Int → Option β) → Int → Option β} {Q : β → Prop} {fuel : Nat} (hf : l.length < fuel)
    (h : ∀ (i : Nat) (x : α), l[i]? = some x → x ∈ l → i < l.length → ∀ self : Int → Option β, Ev (self ((i : Int) + 1)) Q → Ev (step self (i : Int)) Q) (he : ∀ self, Ev (step self (l.length : Int)) Q) : Ev (loopP step fuel 0) Q := by
  refine Ev.loop (fun r (s : Int) => ∃ i : Nat, i ≤ l.length ∧ r = l.length - i ∧ s = (i : Int)) (fun r s hi self hself => ?_) (n := l.length) hf ⟨0, by omega, by omega, rfl⟩
  obtain ⟨i, hi, hr, rfl⟩ := hi
  by_cases hl : i < l.length
  · exact h i _ (List.getElem?_eq_getElem hl) (List.getElem_mem hl) hl self (by have := hself (l.length - (i + 1)) ((i + 1 : Nat) : Int) (by omega) ⟨i + 1, by omega, rfl, rfl⟩; simpa using this)
  · have : i = l.length := by omega
    subst this; exact he self
/-- A loop that counts up from 0: I i s holds at the head of round i. -/
theorem Ev.count {σ β : Type} {step : (σ → Option β) → σ → Option β} {Q : β → Prop} (N : Nat) (I : Nat → σ → Prop) {fuel : Nat} {s0 : σ} (hf : N < fuel) (h0 : I 0 s0)
    (h : ∀ i s, i ≤ N → I i s → ∀ self : σ → Option β, (∀ s', i < N → I (i + 1) s' → Ev (self s') Q) → Ev (step self s) Q) : Ev (loopP step fuel s0) Q := by
  refine Ev.loop (fun r s => ∃ i, i ≤ N ∧ r = N - i ∧ I i s) (fun r s hi self hself => ?_) (n := N) hf ⟨0, by omega, by omega, h0⟩
  obtain ⟨i, hi, hr, hI⟩ := hi
  exact h i s hi hI self (fun s' hlt hs' => hself (N - (i + 1)) s' (by omega) ⟨i + 1, by omega, rfl, hs'⟩)
/-- A loop that looks for the first element with p. -/
theorem Ev.find {α β : Type} {l : List α} {step : (Int → Option β) → Int → Option β} {Q : β → Prop} {fuel : Nat} (p : α → Bool) (hf : l.length < fuel)
    (h : ∀ (i : Nat) (x : α), l[i]? = some x → i < l.length → p x = false → ∀ self : Int → Option β, Ev (self ((i : Int) + 1)) Q → Ev (step self (i : Int)) Q)
    (hy : ∀ (i : Nat) (x : α), l[i]? = some x → i < l.length → p x = true → (∀ j y, j < i → l[j]? = some y → p y = false) → ∀ self : Int → Option β, Ev (step self (i : Int)) Q)
    (he : (∀ x ∈ l, p x = false) → ∀ self, Ev (step self (l.length : Int)) Q) : Ev (loopP step fuel 0) Q := by
  refine Ev.loop (fun r (s : Int) => ∃ i : Nat, i ≤ l.length ∧ r = l.length - i ∧ s = (i : Int) ∧ ∀ j y, j < i → l[j]? = some y → p y = false) (fun r s hi self hself => ?_) (n := l.length) hf ⟨0, by omega, by omega, rfl, fun j y hj => by omega⟩
  obtain ⟨i, hi, hr, rfl, hb⟩ := hi
  by_cases hl : i < l.length
  · have hx := List.getElem?_eq_getElem hl
    cases hp : p l[i] with
    | false =>
      refine h i _ hx hl hp self ?_
      have := hself (l.length - (i + 1)) ((i + 1 : Nat) : Int) (by omega) ⟨i + 1, by omega, rfl, rfl, fun j y hj hy => ?_⟩
      · simpa using this
      · rcases Nat.lt_succ_iff_lt_or_eq.1 hj with h1 | rfl
        · exact hb j y h1 hy
        · rw [hx] at hy; cases hy; exact hp
    | true => exact hy i _ hx hl hp hb self
  · have : i = l.length := by omega
    subst this
    refine he (fun x hx => ?_) self
    obtain ⟨j, hj, e⟩ := List.mem_iff_getElem.1 hx
    exact hb j x (by omega) (by rw [List.getElem?_eq_getElem hj, e])
theorem same_loop {α : Type} [DecidableEq α] {a b : List α} (hl : a.length = b.length) {fuel : Nat} (hf : a.length < fuel) {step : (Int → Option Bool) → Int → Option Bool}
    (hs : ∀ (i : Nat) x y, a[i]? = some x → b[i]? = some y → ∀ k, step k (i : Int) = if x = y then k ((i : Int) + 1) else some false) (he : ∀ k, step k (a.length : Int) = some true) : loopP step fuel 0 = some (decide (a = b)) := by
  by_cases hab : a = b
  · subst hab
    refine (loop_run (init := 0) (s := fun i => ((i : Nat) : Int)) a.length rfl hf (fun i hi k => ?_) he).trans (by simp)
    have hx : a[i]? = some (a[i]'hi) := by simp
    rw [hs i _ _ hx hx k]; simp
  · have hne : ∃ i : Nat, i < a.length ∧ a[i]? ≠ b[i]? := by
      refine Classical.byContradiction fun hn => hab (list_ext_all hl fun i hi => ?_)
      exact Classical.byContradiction fun h2 => hn ⟨i, hi, h2⟩
    have hmin : ∃ i : Nat, i < a.length ∧ a[i]? ≠ b[i]? ∧ ∀ j, j < i → a[j]? = b[j]? := by
      obtain ⟨i, hi, hd⟩ := hne
      induction i using Nat.strongRecOn with
      | _ i ih =>
        by_cases hc : ∃ j, j < i ∧ a[j]? ≠ b[j]?
        · obtain ⟨j, hj, hjd⟩ := hc
          exact ih j hj (by omega) hjd
        · exact ⟨i, hi, hd, fun j hj => Classical.byContradiction fun h2 => hc ⟨j, hj, h2⟩⟩
    obtain ⟨i, hi, hd, hb⟩ := hmin
    obtain ⟨x, hx⟩ : ∃ x, a[i]? = some x := ⟨_, List.getElem?_eq_getElem hi⟩
    obtain ⟨y, hy⟩ : ∃ y, b[i]? = some y := ⟨_, List.getElem?_eq_getElem (by omega)⟩
    have hxy : x ≠ y := fun e => hd (by rw [hx, hy, e])
    refine (loop_run (init := 0) (s := fun i => ((i : Nat) : Int)) i rfl (by omega) (fun j hj k => ?_) (fun k => (hs i x y hx hy k).trans (if_neg hxy))).trans (by simp [hab])
    obtain ⟨z, hz⟩ : ∃ z, a[j]? = some z := ⟨_, List.getElem?_eq_getElem (by omega)⟩
    rw [hs j _ _ hz (by rw [← hb j hj]; exact hz) k]; simp
/-- A byte string as Go compares it. -/
theorem toStr_byte {l : List Int} (h : ∀ x ∈ l, byte x) : toStr l = l := by
  unfold toStr strOf strOfNums
  simp only
  rw [List.map_map]
  conv => rhs; rw [← List.map_id l]
  apply List.map_congr_left
  intro x hx
  have := h x hx
  simp only [byte] at this
  simp
  omega
theorem okI_small {n : Int} (h1 : -1000000 ≤ n) (h2 : n ≤ 1000000) : okI .i64 n := okI_i64.2 ⟨by omega, by omega⟩
end Lift
