/- Lists: parts, copies, sameness. No program in sight. -/
import Derived.Test.YtedddoifbhcinaaBase
set_option linter.unusedVariables false
set_option linter.unusedSimpArgs false
namespace Lift
open Go

theorem app_ok {α : Type} {b : Nat} {l m : List α} (h : (l.length + m.length) * b ≤ 140737488355328) : app b l m = some (l ++ m) := by simp [app, h]
theorem sub_ok {α : Type} {l : List α} {a b : Nat} (h1 : a ≤ b) (h2 : b ≤ l.length) : sub l (a : Int) (b : Int) = some ((l.drop a).take (b - a)) := by
  have : (0 : Int) ≤ a ∧ (a : Int) ≤ b ∧ (b : Int) ≤ l.length := by omega
  simp [sub, this]
theorem sub_take {α : Type} {l : List α} {b : Int} (h1 : 0 ≤ b) (h2 : b ≤ l.length) : sub l 0 b = some (l.take b.toNat) := by
  obtain ⟨n, rfl⟩ := Int.eq_ofNat_of_zero_le h1
  have := sub_ok (l := l) (a := 0) (b := n) (by omega) (by omega)
  simpa using this
theorem clone_eq {fuel : Nat} {l : List Int} (h : l.length ≤ 100000) : slices_Clone_byte_byte fuel l = some l := by
  unfold slices_Clone_byte_byte
  rw [app_ok (by simp; omega)]; simp
theorem wl {l : List Int} {k : Int} (h : l.length ≤ 100000) (h1 : -100000 ≤ k) (h2 : k ≤ 100000) : IntKind.i64.wrap ((l.length : Int) + k) = (l.length : Int) + k := w_i64 (by omega) (by omega)
theorem wl' {l : List Int} {k : Int} (h : l.length ≤ 100000) (h1 : 0 ≤ k) (h2 : k ≤ 100000) : IntKind.i64.wrap ((l.length : Int) - k) = (l.length : Int) - k := w_i64 (by omega) (by omega)
def last (l : List Int) : Int := l.getLastD 0
theorem idx_last {l : List Int} (h : l ≠ []) : idx l ((l.length : Int) - 1) = some (last l) := by
  have hl : 0 < l.length := by cases l with | nil => exact absurd rfl h | cons _ _ => simp
  have e : ((l.length : Int) - 1) = ((l.length - 1 : Nat) : Int) := by omega
  rw [e, idx_nat, last, List.getLastD_eq_getLast?, List.getLast?_eq_getElem?]
  have : l[l.length - 1]? = some (l[l.length - 1]'(by omega)) := by simp
  rw [this]; rfl

theorem Small.append {l m : List Int} (h : Small l) (h2 : ∀ x ∈ m, byte x) (h3 : (l ++ m).length ≤ 5000) : Small (l ++ m) :=
  ⟨h3, fun x hx => (List.mem_append.1 hx).elim (h.2 x) (h2 x)⟩
theorem Small.take {l : List Int} (h : Small l) (n : Nat) : Small (l.take n) := ⟨by have := h.1; simp; omega, fun x hx => h.2 x (List.mem_of_mem_take hx)⟩
theorem Small.drop {l : List Int} (h : Small l) (n : Nat) : Small (l.drop n) := ⟨by have := h.1; simp; omega, fun x hx => h.2 x (List.mem_of_mem_drop hx)⟩

theorem list_ext_all {a b : List Int} (hl : a.length = b.length) (h : ∀ i : Nat, i < a.length → a[i]? = b[i]?) : a = b := by
  apply List.ext_getElem?
  intro i
  by_cases hi : i < a.length
  · exact h i hi
  · rw [List.getElem?_eq_none (by omega), List.getElem?_eq_none (by omega)]
theorem same_loop {a b : List Int} (hl : a.length = b.length) (ha : a.length ≤ 100000) {fuel : Nat} (hf : a.length < fuel) {step : (Int → Option Bool) → Int → Option Bool}
    (hs : ∀ (i : Nat) x y, a[i]? = some x → b[i]? = some y → ∀ k, step k (i : Int) = if x = y then k ((i : Int) + 1) else some false) (he : ∀ k, step k (a.length : Int) = some true) : loopP step fuel 0 = some (decide (a = b)) := by
  by_cases hab : a = b
  · subst hab
    refine (loop_run (init := 0) (s := fun i => ((i : Nat) : Int)) a.length rfl hf (fun i hi k => ?_) he).trans (by simp)
    have hx : a[i]? = some (a[i]'hi) := by simp
    rw [hs i _ _ hx hx k]; simp
  · -- the first place where they differ
    have hne : ∃ i : Nat, i < a.length ∧ a[i]? ≠ b[i]? := by
      refine Classical.byContradiction fun hn => hab (list_ext_all hl fun i hi => ?_)
      exact Classical.byContradiction fun h2 => hn ⟨i, hi, h2⟩
    have hmin : ∃ i : Nat, i < a.length ∧ a[i]? ≠ b[i]? ∧ ∀ j, j < i → a[j]? = b[j]? := by
      obtain ⟨i, hi, hd⟩ := hne
      induction i using Nat.strongRecOn with
      | _ i ih =>
        by_cases hc : ∃ j, j < i ∧ a[j]? ≠ b[j]?
        · obtain ⟨j, hj, hjd⟩ := hc
          exact ih j hj (by omega) hjd
        · exact ⟨i, hi, hd, fun j hj => Classical.byContradiction fun h2 => hc ⟨j, hj, h2⟩⟩
    obtain ⟨i, hi, hd, hb⟩ := hmin
    obtain ⟨x, hx⟩ : ∃ x, a[i]? = some x := ⟨_, List.getElem?_eq_getElem hi⟩
    obtain ⟨y, hy⟩ : ∃ y, b[i]? = some y := ⟨_, List.getElem?_eq_getElem (by omega)⟩
    have hxy : x ≠ y := fun e => hd (by rw [hx, hy, e])
    refine (loop_run (init := 0) (s := fun i => ((i : Nat) : Int)) i rfl (by omega) (fun j hj k => ?_) (fun k => (hs i x y hx hy k).trans (if_neg hxy))).trans (by simp [hab])
    obtain ⟨z, hz⟩ : ∃ z, a[j]? = some z := ⟨_, List.getElem?_eq_getElem (by omega)⟩
    rw [hs j _ _ hz (by rw [← hb j hj]; exact hz) k]; simp
theorem Same_eq {fuel : Nat} {a b : List Int} (ha : a.length ≤ 100000) (hf : a.length < fuel) : ref01_Same fuel a b = some (decide (a = b)) := by
  unfold ref01_Same
  by_cases hl : a.length = b.length
  · have e0 : ((a.length : Int) != (b.length : Int)) = false := by simp [hl]
    rw [e0, iteP_false]
    refine same_loop hl ha hf (fun i x y hx hy k => ?_) (fun k => ?_)
    · have hi := lt_len hx
      simp only [show ((i : Int) < (a.length : Int)) by omega, decide_true, iteP_true, idx_nat, hx, hy, bindP_some, letP_eq, wi i (by omega), iteP_eq]
      by_cases e : x = y <;> simp [e]
    · simp
  · have e0 : ((a.length : Int) != (b.length : Int)) = true := by simp; omega
    rw [e0, iteP_true]
    have : a ≠ b := fun e => hl (by rw [e])
    simp [this]
theorem sub_drop {l : List Int} {b : Int} (h1 : 0 ≤ b) (h2 : b ≤ l.length) : sub l b (l.length : Int) = some (l.drop b.toNat) := by
  obtain ⟨n, rfl⟩ := Int.eq_ofNat_of_zero_le h1
  have := sub_ok (l := l) (a := n) (b := l.length) (by omega) (by omega)
  rw [this]; congr 1
  rw [List.take_of_length_le (by simp)]; rfl
theorem Copy_eq {fuel : Nat} {l : List Int} (h : l.length ≤ 100000) (hf : l.length < fuel) : ref01_Copy fuel l = some l := by
  unfold ref01_Copy
  refine loop_run (fun i => ((i : Int), l.take i)) l.length rfl hf (fun i hi k => ?_) (fun k => ?_)
  · have hx : l[i]? = some (l[i]'hi) := by simp
    simp only [show ((i : Int) < (l.length : Int)) by omega, decide_true, iteP_true, idx_nat, hx, bindP_some, letP_eq]
    rw [app_ok (by simp; omega), bindP_some, wi i (by omega), List.take_add_one, hx]; rfl
  · simp
end Lift
