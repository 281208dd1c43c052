/- The short check sum over a whole list: what turned bits do to it. No program in sight. -/
import Derived.Test.YtmjilnfeddaekaaLinear
import Derived.Test.YtmjilnfeddaekaaEv
namespace Lift
open Go

theorem xor_zero_eq {a b : Nat} (h : a ^^^ b = 0) : a = b := by
  have := congrArg (· ^^^ b) h
  simpa [Nat.xor_assoc] using this
theorem it_add {α : Type} (f : α → α) : ∀ (m n : Nat) (x : α), it f (m + n) x = it f m (it f n x)
  | 0, n, x => by simp [it]
  | m + 1, n, x => by rw [Nat.add_right_comm]; simp only [it]; rw [it_add f m n x]
theorem it_n8_zero : ∀ k : Nat, it n8 k 0 = 0
  | 0 => rfl
  | k + 1 => by simp only [it]; rw [it_n8_zero k]; rfl
theorem it_inj {k a b : Nat} (ha : a < 256) (hb : b < 256) (h : it n8 k a = it n8 k b) : a = b := by
  have h1 := it_xor k a b ha hb
  rw [h, Nat.xor_self] at h1
  have h2 : a ^^^ b = 0 := Classical.byContradiction fun hn => it_ne k _ (Nat.xor_lt_two_pow (n := 8) ha hb) hn h1
  exact xor_zero_eq h2
/-- A change of the state ahead. -/
theorem cN_st : ∀ (l : List Nat) (s t : Nat), (∀ x ∈ l, x < 256) → s < 256 → t < 256 → cN l (s ^^^ t) = cN l s ^^^ it n8 (8 * l.length) t
  | [], s, t, _, _, _ => rfl
  | x :: l, s, t, hl, hs, ht => by
    have hx := hl x (by simp)
    have hsx : s ^^^ x < 256 := Nat.xor_lt_two_pow (n := 8) hs hx
    show cN l (it n8 8 ((s ^^^ t) ^^^ x)) = cN l (it n8 8 (s ^^^ x)) ^^^ _
    rw [show (s ^^^ t) ^^^ x = (s ^^^ x) ^^^ t by simp only [Nat.xor_assoc, Nat.xor_comm t x], it_xor 8 _ _ hsx ht, cN_st l _ _ (fun y hy => hl y (by simp [hy])) (it_lt 8 _ hsx) (it_lt 8 _ ht), ← it_add,
      show 8 * (x :: l).length = 8 * l.length + 8 by simp; omega]
/-- A change of one byte. -/
theorem cN_mod : ∀ (l : List Nat) (s i m : Nat), (∀ x ∈ l, x < 256) → s < 256 → m < 256 → i < l.length → cN (l.modify i (· ^^^ m)) s = cN l s ^^^ it n8 (8 * (l.length - i)) m
  | [], _, _, _, _, _, _, h => by simp at h
  | x :: l, s, 0, m, hl, hs, hm, _ => by
    have hx := hl x (by simp)
    have hsx : s ^^^ x < 256 := Nat.xor_lt_two_pow (n := 8) hs hx
    have e : (x :: l).modify 0 (· ^^^ m) = (x ^^^ m) :: l := by simp
    rw [e]
    show cN l (it n8 8 (s ^^^ (x ^^^ m))) = cN l (it n8 8 (s ^^^ x)) ^^^ _
    rw [← Nat.xor_assoc, it_xor 8 _ _ hsx hm, cN_st l _ _ (fun y hy => hl y (by simp [hy])) (it_lt 8 _ hsx) (it_lt 8 _ hm), ← it_add, show 8 * ((x :: l).length - 0) = 8 * l.length + 8 by simp; omega]
  | x :: l, s, i + 1, m, hl, hs, hm, h => by
    have hx := hl x (by simp)
    have hsx : s ^^^ x < 256 := Nat.xor_lt_two_pow (n := 8) hs hx
    have e : (x :: l).modify (i + 1) (· ^^^ m) = x :: l.modify i (· ^^^ m) := by simp
    rw [e]
    show cN (l.modify i (· ^^^ m)) (it n8 8 (s ^^^ x)) = cN l (it n8 8 (s ^^^ x)) ^^^ _
    rw [cN_mod l _ i m (fun y hy => hl y (by simp [hy])) (it_lt 8 _ hsx) hm (by simpa using h), show (x :: l).length - (i + 1) = l.length - i by simp]
theorem it_pow : ∀ j : Fin 8, it n8 j.val (128 / 2 ^ j.val) = 128 := by decide +kernel
/-- One bit of a list: bit 0 is the highest of the first byte. -/
def flipB (n : List Nat) (k : Nat) : List Nat := n.modify (k / 8) (· ^^^ (128 / 2 ^ (k % 8)))
theorem flipB_len (n : List Nat) (k : Nat) : (flipB n k).length = n.length := by simp [flipB]
theorem mod_lt {l : List Nat} {i m : Nat} (h : ∀ y ∈ l, y < 256) (hm : m < 256) : ∀ y ∈ l.modify i (· ^^^ m), y < 256 := by
  intro y hy
  obtain ⟨j, hj⟩ := List.getElem?_of_mem hy
  simp only [List.getElem?_modify] at hj
  cases hl : l[j]? with
  | none => simp [hl] at hj
  | some z =>
    have hz := h z (List.mem_of_getElem? hl)
    rw [hl] at hj
    simp at hj
    split at hj <;> subst hj
    · exact Nat.xor_lt_two_pow (n := 8) hz hm
    · exact hz
theorem bit_lt (k : Nat) : 128 / 2 ^ (k % 8) < 256 := Nat.lt_of_le_of_lt (Nat.div_le_self _ _) (by omega)
theorem flipB_lt {l : List Nat} {k : Nat} (h : ∀ y ∈ l, y < 256) : ∀ y ∈ flipB l k, y < 256 := mod_lt h (bit_lt k)
theorem cN_flip {l : List Nat} {k : Nat} (h : ∀ x ∈ l, x < 256) (hk : k < 8 * l.length) : cN (flipB l k) 0 = cN l 0 ^^^ it n8 (8 * l.length - k) 128 := by
  unfold flipB
  rw [cN_mod l 0 (k / 8) _ h (by omega) (bit_lt k) (by omega)]
  congr 1
  have hj : k % 8 < 8 := by omega
  have e : 8 * (l.length - k / 8) = (8 * l.length - k) + k % 8 := by omega
  rw [e, it_add, it_pow ⟨k % 8, hj⟩]
theorem toI_len (n : List Nat) : (toI n).length = n.length := by simp [toI]
theorem toI_get {n : List Nat} {i : Nat} (h : i < n.length) : (toI n)[i]? = some ((n[i]'h : Nat) : Int) := by simp [toI, h]
theorem toI_byte {n : List Nat} (h : ∀ x ∈ n, x < 256) : ∀ x ∈ toI n, byte x := by
  intro x hx
  obtain ⟨y, hy, rfl⟩ := List.mem_map.1 hx
  have := h y hy
  constructor <;> omega
/-- A byte of the list is turned. -/
theorem upd_xor {n : List Nat} {i m : Nat} (h : ∀ x ∈ n, x < 256) (hi : i < n.length) (hm : m < 256) : upd (toI n) (i : Int) (bXor .u8 ((n[i]'hi : Nat) : Int) (m : Int)) = toI (n.modify i (· ^^^ m)) := by
  rw [xor_u8 (h _ (List.getElem_mem hi)) hm]
  simp only [upd, toI, Int.toNat_natCast]
  apply List.ext_getElem?
  intro j
  simp only [List.getElem?_set, List.getElem?_map, List.getElem?_modify, List.length_map]
  by_cases e : i = j
  · subst e; simp [hi]
  · simp only [e, if_false]; cases n[j]? <;> simp
theorem shr128 : ∀ j : Fin 8, bShr .u8 128 (j.val : Int) = ((128 / 2 ^ j.val : Nat) : Int) := by decide +kernel
/-- The opening tells by the sum over all. -/
theorem openC_zero {n : List Nat} (hn : ∀ x ∈ n, x < 256) (hne : n ≠ []) (h : cN n 0 = 0) : (openC (toI n)).2 = 0 := by
  have hl : toI n ≠ [] := by cases n with | nil => exact absurd rfl hne | cons _ _ => simp [toI]
  obtain ⟨b, c, rfl⟩ : ∃ b c, n = b ++ [c] := ⟨n.dropLast, n.getLast hne, (List.dropLast_concat_getLast hne).symm⟩
  have hb : ∀ x ∈ b, x < 256 := fun x hx => hn x (by simp [hx])
  have hc : c < 256 := hn c (by simp)
  have e1 : (toI (b ++ [c])).take ((toI (b ++ [c])).length - 1) = toI b := by simp [toI]
  have e2 : last (toI (b ++ [c])) = (c : Int) := by simp [toI, last, List.getLastD_eq_getLast?]
  unfold openC
  rw [if_neg hl, e1, e2]
  have hcr : crc8 (toI b) = ((cN b 0 : Nat) : Int) := crc8_nat b hb
  rw [cN_append] at h
  have h2 : it n8 8 (cN b 0 ^^^ c) = 0 := h
  have h3 : cN b 0 ^^^ c = 0 := Classical.byContradiction fun hx => it_ne 8 _ (Nat.xor_lt_two_pow (n := 8) (cN_lt b 0 hb (by omega)) hc) hx h2
  have h4 : cN b 0 = c := xor_zero_eq h3
  rw [hcr, h4, if_pos rfl]
/-- The sealed list as numbers. -/
theorem sealed_nat {l : List Int} (h : Small l) : ∃ n : List Nat, l ++ [crc8 l] = toI n ∧ (∀ x ∈ n, x < 256) ∧ n.length = l.length + 1 ∧ cN n 0 = 0 := by
  obtain ⟨b, e, hb⟩ := nats_of h.2
  refine ⟨b ++ [cN b 0], ?_, fun x hx => ?_, ?_, seal_zero b hb⟩
  · have hc : crc8 l = ((cN b 0 : Nat) : Int) := by rw [e]; exact crc8_nat b hb
    rw [hc, e]; simp [toI]
  · rcases List.mem_append.1 hx with hx | hx
    · exact hb x hx
    · simp at hx; rw [hx]; exact cN_lt b 0 hb (by omega)
  · have := congrArg List.length e
    rw [toI_len] at this
    simp; omega
/-- The first t bits of a byte. -/
def top8 (a t : Nat) : Nat := a / 2 ^ (8 - t) * 2 ^ (8 - t)
theorem top8_step : ∀ (a : Fin 256) (t : Fin 8), top8 a.val (t.val + 1) = (if a.val / 2 ^ (7 - t.val) % 2 = 1 then top8 a.val t.val ^^^ (128 / 2 ^ t.val) else top8 a.val t.val) ∧ top8 a.val t.val < 256 := by decide +kernel
theorem top8_end (a : Nat) : top8 a 8 = a := by simp [top8]
theorem top8_zero {a : Nat} (h : a < 256) : top8 a 0 = 0 := by unfold top8; rw [Nat.div_eq_of_lt (by simpa using h), Nat.zero_mul]
/-- One more bit of a burst that begins at k. -/
theorem burst_bit {L k t v : Nat} (ht : t < 8) (hk : k + 8 ≤ L) (hv : v < 256) : it n8 (L - k) v ^^^ it n8 (L - (k + t)) 128 = it n8 (L - k) (v ^^^ (128 / 2 ^ t)) := by
  have hm : 128 / 2 ^ t < 256 := Nat.lt_of_le_of_lt (Nat.div_le_self _ _) (by omega)
  rw [it_xor _ _ _ hv hm]
  congr 1
  have e : L - k = (L - (k + t)) + t := by omega
  rw [e, it_add, it_pow ⟨t, ht⟩]
end Lift
