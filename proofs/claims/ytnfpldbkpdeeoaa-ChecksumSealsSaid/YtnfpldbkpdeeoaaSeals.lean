/- Seals and their openings: closed forms. No program in sight. -/
import Derived.Test.YtnfpldbkpdeeoaaSums
namespace Lift
open Go

theorem app_ok {α : Type} {b : Nat} {l m : List α} (h : (l.length + m.length) * b ≤ 140737488355328) : app b l m = some (l ++ m) := by simp [app, h]
theorem sub_ok {α : Type} {l : List α} {a b : Nat} (h1 : a ≤ b) (h2 : b ≤ l.length) : sub l (a : Int) (b : Int) = some ((l.drop a).take (b - a)) := by
  have : (0 : Int) ≤ a ∧ (a : Int) ≤ b ∧ (b : Int) ≤ l.length := by omega
  simp [sub, this]
theorem sub_take {α : Type} {l : List α} {b : Int} (h1 : 0 ≤ b) (h2 : b ≤ l.length) : sub l 0 b = some (l.take b.toNat) := by
  obtain ⟨n, rfl⟩ := Int.eq_ofNat_of_zero_le h1
  have := sub_ok (l := l) (a := 0) (b := n) (by omega) (by omega)
  simpa using this
theorem clone_eq {fuel : Nat} {l : List Int} (h : l.length ≤ 100000) : slices_Clone_byte_byte fuel l = some l := by
  unfold slices_Clone_byte_byte
  rw [app_ok (by simp; omega)]; simp
theorem wl {l : List Int} {k : Int} (h : l.length ≤ 100000) (h1 : -100000 ≤ k) (h2 : k ≤ 100000) : IntKind.i64.wrap ((l.length : Int) + k) = (l.length : Int) + k := w_i64 (by omega) (by omega)
theorem wl' {l : List Int} {k : Int} (h : l.length ≤ 100000) (h1 : 0 ≤ k) (h2 : k ≤ 100000) : IntKind.i64.wrap ((l.length : Int) - k) = (l.length : Int) - k := w_i64 (by omega) (by omega)
def last (l : List Int) : Int := l.getLastD 0
theorem idx_last {l : List Int} (h : l ≠ []) : idx l ((l.length : Int) - 1) = some (last l) := by
  have hl : 0 < l.length := by cases l with | nil => exact absurd rfl h | cons _ _ => simp
  have e : ((l.length : Int) - 1) = ((l.length - 1 : Nat) : Int) := by omega
  rw [e, idx_nat, last, List.getLastD_eq_getLast?, List.getLast?_eq_getElem?]
  have : l[l.length - 1]? = some (l[l.length - 1]'(by omega)) := by simp
  rw [this]; rfl

theorem Small.append {l m : List Int} (h : Small l) (h2 : ∀ x ∈ m, byte x) (h3 : (l ++ m).length ≤ 5000) : Small (l ++ m) :=
  ⟨h3, fun x hx => (List.mem_append.1 hx).elim (h.2 x) (h2 x)⟩
theorem Small.take {l : List Int} (h : Small l) (n : Nat) : Small (l.take n) := ⟨by have := h.1; simp; omega, fun x hx => h.2 x (List.mem_of_mem_take hx)⟩
theorem Small.drop {l : List Int} (h : Small l) (n : Nat) : Small (l.drop n) := ⟨by have := h.1; simp; omega, fun x hx => h.2 x (List.mem_of_mem_drop hx)⟩

theorem Seal8_eq {fuel : Nat} {l : List Int} (h : Small l) (hf : 5000 < fuel) : checksum_Seal8 fuel l = some (l ++ [sum8 l]) := by
  have := h.1
  unfold checksum_Seal8
  rw [clone_eq (by omega), bindP_some, checksum_Sum8_eq h hf, bindP_some, app_ok (by simp; omega)]; rfl
theorem SealCRC8_eq {fuel : Nat} {l : List Int} (h : Small l) (hf : 5000 < fuel) : checksum_SealCRC8 fuel l = some (l ++ [crc8 l]) := by
  have := h.1
  unfold checksum_SealCRC8
  rw [clone_eq (by omega), bindP_some, checksum_CRC8_eq h hf, bindP_some, app_ok (by simp; omega)]; rfl
def open8 (l : List Int) : List Int × Int := if l = [] then ([], 4) else if sum8 l = 0 then (l.take (l.length - 1), 0) else ([], 5)
def openC (l : List Int) : List Int × Int := if l = [] then ([], 4) else if crc8 (l.take (l.length - 1)) = last l then (l.take (l.length - 1), 0) else ([], 5)
theorem Open8_eq {fuel : Nat} {l : List Int} (h : Small l) (hf : 5000 < fuel) : checksum_Open8 fuel l = some (open8 l) := by
  have hl := h.1
  unfold checksum_Open8 open8
  by_cases h0 : l = []
  · subst h0; rfl
  · have hp : 0 < l.length := by cases l with | nil => exact absurd rfl h0 | cons _ _ => simp
    have e0 : ((l.length : Int) == 0) = false := by simp; omega
    have e1 : ((l.length : Int) - 1).toNat = l.length - 1 := by omega
    simp only [letP_eq, e0, iteP_false, h0, if_false]
    rw [checksum_Sum8_eq h hf, bindP_some]
    by_cases hs : sum8 l = 0
    · simp only [hs, if_true, bne_self_eq_false, iteP_false]
      rw [wl' (by omega) (by omega) (by omega), sub_take (by omega) (by omega), bindP_some, e1, clone_eq (by simp; omega), bindP_some]
    · have e : (sum8 l != 0) = true := by simpa using hs
      simp only [e, iteP_true, hs, if_false]
theorem OpenCRC8_eq {fuel : Nat} {l : List Int} (h : Small l) (hf : 5000 < fuel) : checksum_OpenCRC8 fuel l = some (openC l) := by
  have hl := h.1
  unfold checksum_OpenCRC8 openC
  by_cases h0 : l = []
  · subst h0; rfl
  · have hp : 0 < l.length := by cases l with | nil => exact absurd rfl h0 | cons _ _ => simp
    have e1 : ((l.length : Int) - 1).toNat = l.length - 1 := by omega
    have ed : decide (((l.length : Int) - 1) < 0) = false := by simp; omega
    simp only [letP_eq, wl' (show l.length ≤ 100000 by omega) (show (0:Int) ≤ 1 by omega) (show (1:Int) ≤ 100000 by omega), ed, iteP_false, h0, if_false]
    rw [sub_take (by omega) (by omega), bindP_some, e1, checksum_CRC8_eq (h.take _) hf, bindP_some, idx_last h0, bindP_some]
    by_cases hs : crc8 (l.take (l.length - 1)) = last l
    · simp only [hs, bne_self_eq_false, iteP_false, if_true]
      rw [bindP_some, clone_eq (by simp; omega), bindP_some]
    · have e : (crc8 (l.take (l.length - 1)) != last l) = true := by simpa using hs
      simp only [e, iteP_true, hs, if_false]

/-! ### the long seal -/
def four (v : Int) : List Int := [v % 256, v / 256 % 256, v / 65536 % 256, v / 16777216 % 256]
theorem shr_nat {v : Int} (h : word v) (k : Nat) (hk : k ≤ 32) : bShr .u32 v (k : Int) = v / (2 ^ k : Nat) := by
  show Int.fdiv v (2 ^ (min ((k : Int)).toNat 32)) = _
  have : min ((k : Int)).toNat 32 = k := by simp; omega
  rw [this, show ((2 : Int) ^ k) = ((2 ^ k : Nat) : Int) from by simp, Int.fdiv_eq_ediv_of_nonneg _ (Int.natCast_nonneg _)]
theorem four_eq {fuel : Nat} {v : Int} (h : word v) : checksum_four fuel v = some (four v) := by
  unfold checksum_four four
  have e8 := shr_nat h 8 (by omega)
  have e16 := shr_nat h 16 (by omega)
  have e24 := shr_nat h 24 (by omega)
  rw [show bShr .u32 v 8 = v / 256 from e8, show bShr .u32 v 16 = v / 65536 from e16, show bShr .u32 v 24 = v / 16777216 from e24]
  simp only [w_u8]
theorem four_byte {v x : Int} (hx : x ∈ four v) : byte x := by
  simp only [four, List.mem_cons, List.not_mem_nil, or_false] at hx
  rcases hx with rfl | rfl | rfl | rfl <;> constructor <;> omega
theorem SealCRC32_eq {fuel : Nat} {l : List Int} (h : Small l) (hf : 5000 < fuel) : checksum_SealCRC32 fuel l = some (l ++ four (crc32 l)) := by
  have := h.1
  unfold checksum_SealCRC32
  rw [clone_eq (by omega), bindP_some, checksum_CRC32_eq h hf, bindP_some, four_eq (crc32_word h), bindP_some, app_ok (by simp [four]; omega)]; rfl
theorem list_ext_all {a b : List Int} (hl : a.length = b.length) (h : ∀ i : Nat, i < a.length → a[i]? = b[i]?) : a = b := by
  apply List.ext_getElem?
  intro i
  by_cases hi : i < a.length
  · exact h i hi
  · rw [List.getElem?_eq_none (by omega), List.getElem?_eq_none (by omega)]
theorem same_loop {a b : List Int} (hl : a.length = b.length) (ha : a.length ≤ 100000) {fuel : Nat} (hf : a.length < fuel) {step : (Int → Option Bool) → Int → Option Bool}
    (hs : ∀ (i : Nat) x y, a[i]? = some x → b[i]? = some y → ∀ k, step k (i : Int) = if x = y then k ((i : Int) + 1) else some false) (he : ∀ k, step k (a.length : Int) = some true) : loopP step fuel 0 = some (decide (a = b)) := by
  by_cases hab : a = b
  · subst hab
    refine (loop_run (init := 0) (s := fun i => ((i : Nat) : Int)) a.length rfl hf (fun i hi k => ?_) he).trans (by simp)
    have hx : a[i]? = some (a[i]'hi) := by simp
    rw [hs i _ _ hx hx k]; simp
  · -- the first place where they differ
    have hne : ∃ i : Nat, i < a.length ∧ a[i]? ≠ b[i]? := by
      refine Classical.byContradiction fun hn => hab (list_ext_all hl fun i hi => ?_)
      exact Classical.byContradiction fun h2 => hn ⟨i, hi, h2⟩
    have hmin : ∃ i : Nat, i < a.length ∧ a[i]? ≠ b[i]? ∧ ∀ j, j < i → a[j]? = b[j]? := by
      obtain ⟨i, hi, hd⟩ := hne
      induction i using Nat.strongRecOn with
      | _ i ih =>
        by_cases hc : ∃ j, j < i ∧ a[j]? ≠ b[j]?
        · obtain ⟨j, hj, hjd⟩ := hc
          exact ih j hj (by omega) hjd
        · exact ⟨i, hi, hd, fun j hj => Classical.byContradiction fun h2 => hc ⟨j, hj, h2⟩⟩
    obtain ⟨i, hi, hd, hb⟩ := hmin
    obtain ⟨x, hx⟩ : ∃ x, a[i]? = some x := ⟨_, List.getElem?_eq_getElem hi⟩
    obtain ⟨y, hy⟩ : ∃ y, b[i]? = some y := ⟨_, List.getElem?_eq_getElem (by omega)⟩
    have hxy : x ≠ y := fun e => hd (by rw [hx, hy, e])
    refine (loop_run (init := 0) (s := fun i => ((i : Nat) : Int)) i rfl (by omega) (fun j hj k => ?_) (fun k => (hs i x y hx hy k).trans (if_neg hxy))).trans (by simp [hab])
    obtain ⟨z, hz⟩ : ∃ z, a[j]? = some z := ⟨_, List.getElem?_eq_getElem (by omega)⟩
    rw [hs j _ _ hz (by rw [← hb j hj]; exact hz) k]; simp
theorem Same_eq {fuel : Nat} {a b : List Int} (ha : a.length ≤ 100000) (hf : a.length < fuel) : ref01_Same fuel a b = some (decide (a = b)) := by
  unfold ref01_Same
  by_cases hl : a.length = b.length
  · have e0 : ((a.length : Int) != (b.length : Int)) = false := by simp [hl]
    rw [e0, iteP_false]
    refine same_loop hl ha hf (fun i x y hx hy k => ?_) (fun k => ?_)
    · have hi := lt_len hx
      simp only [show ((i : Int) < (a.length : Int)) by omega, decide_true, iteP_true, idx_nat, hx, hy, bindP_some, letP_eq, wi i (by omega), iteP_eq]
      by_cases e : x = y <;> simp [e]
    · simp
  · have e0 : ((a.length : Int) != (b.length : Int)) = true := by simp; omega
    rw [e0, iteP_true]
    have : a ≠ b := fun e => hl (by rw [e])
    simp [this]
theorem Equal_eq {fuel : Nat} {a b : List Int} (ha : a.length ≤ 100000) (hf : a.length < fuel) : slices_Equal_byte_byte fuel a b = some (decide (a = b)) := by
  unfold slices_Equal_byte_byte
  by_cases hl : a.length = b.length
  · have e0 : ((a.length : Int) != (b.length : Int)) = false := by simp [hl]
    rw [e0, iteP_false]
    refine same_loop hl ha hf (fun i x y hx hy k => ?_) (fun k => ?_)
    · have hi := lt_len hx
      simp only [show ((i : Int) < (a.length : Int)) by omega, decide_true, iteP_true, idx_nat, hx, hy, bindP_some, wi i (by omega), iteP_eq]
      by_cases e : x = y <;> simp [e]
    · simp
  · have e0 : ((a.length : Int) != (b.length : Int)) = true := by simp; omega
    rw [e0, iteP_true]
    have : a ≠ b := fun e => hl (by rw [e])
    simp [this]
def openL (l : List Int) : List Int × Int := if l.length < 4 then ([], 4) else if four (crc32 (l.take (l.length - 4))) = l.drop (l.length - 4) then (l.take (l.length - 4), 0) else ([], 5)
theorem sub_drop {l : List Int} {b : Int} (h1 : 0 ≤ b) (h2 : b ≤ l.length) : sub l b (l.length : Int) = some (l.drop b.toNat) := by
  obtain ⟨n, rfl⟩ := Int.eq_ofNat_of_zero_le h1
  have := sub_ok (l := l) (a := n) (b := l.length) (by omega) (by omega)
  rw [this]; congr 1
  rw [List.take_of_length_le (by simp)]; rfl
theorem OpenCRC32_eq {fuel : Nat} {l : List Int} (h : Small l) (hf : 5000 < fuel) : checksum_OpenCRC32 fuel l = some (openL l) := by
  have hl := h.1
  unfold checksum_OpenCRC32 openL
  simp only [letP_eq, wl' (show l.length ≤ 100000 by omega) (show (0:Int) ≤ 4 by omega) (show (4:Int) ≤ 100000 by omega)]
  by_cases h0 : l.length < 4
  · have ed : decide (((l.length : Int) - 4) < 0) = true := by simp; omega
    simp [ed, h0]
  · have e1 : ((l.length : Int) - 4).toNat = l.length - 4 := by omega
    have ed : decide (((l.length : Int) - 4) < 0) = false := by simp; omega
    simp only [ed, iteP_false, h0, if_false]
    rw [sub_take (by omega) (by omega), bindP_some, e1, checksum_CRC32_eq (h.take _) hf, bindP_some, four_eq (crc32_word (h.take _)), bindP_some, sub_drop (by omega) (by omega), bindP_some, e1, Equal_eq (by simp [four]) (by simp [four]; omega), bindP_some]
    by_cases hs : four (crc32 (l.take (l.length - 4))) = l.drop (l.length - 4)
    · simp only [hs, decide_true, Bool.not_true, iteP_false, if_true]
      rw [bindP_some, clone_eq (by simp; omega), bindP_some]
    · simp [hs]

/-! ### what a seal's opening gives -/
theorem open8_seal {l : List Int} (h : Small l) : open8 (l ++ [sum8 l]) = (l, 0) := by
  have hne : l ++ [sum8 l] ≠ [] := by simp
  have hs : sum8 (l ++ [sum8 l]) = 0 := by
    obtain ⟨h1, h2⟩ := sum_fold h
    unfold sum8
    rw [List.foldl_append]
    simp only [List.foldl_cons, List.foldl_nil]
    omega
  simp [open8, hs]
theorem openC_seal (l : List Int) : openC (l ++ [crc8 l]) = (l, 0) := by simp [openC, last, List.getLastD_eq_getLast?]
theorem openL_seal (l : List Int) : openL (l ++ four (crc32 l)) = (l, 0) := by
  have hl : (l ++ four (crc32 l)).length = l.length + 4 := by simp [four]
  have : ¬ (l.length + 4 < 4) := by omega
  simp [openL, hl, this]
end Lift
