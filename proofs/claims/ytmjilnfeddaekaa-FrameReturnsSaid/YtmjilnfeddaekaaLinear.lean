/- The short check sum is linear: what a change of the bytes does to it. No program in sight. -/
import Derived.Test.YtmjilnfeddaekaaSealc
namespace Lift
open Go

theorem xlc (a b c : Nat) : a ^^^ (b ^^^ c) = b ^^^ (a ^^^ c) := by rw [← Nat.xor_assoc, Nat.xor_comm a b, Nat.xor_assoc]
def n8 (v : Nat) : Nat := (2 * v) % 256 ^^^ (v / 128 * 7)
theorem f8_nat_fin : ∀ v : Fin 256, f8 (v.val : Int) = (n8 v.val : Int) := by decide +kernel
theorem f8_nat {v : Nat} (h : v < 256) : f8 (v : Int) = (n8 v : Int) := f8_nat_fin ⟨v, h⟩
theorem n8_lt {v : Nat} (h : v < 256) : n8 v < 256 := by
  have h1 : (2 * v) % 256 < 2 ^ 8 := by omega
  have h2 : v / 128 * 7 < 2 ^ 8 := by omega
  have := Nat.xor_lt_two_pow h1 h2
  unfold n8; omega
theorem n8_xor {a b : Nat} (ha : a < 256) (hb : b < 256) : n8 (a ^^^ b) = n8 a ^^^ n8 b := by
  have e1 : 2 * (a ^^^ b) = (2 * a) ^^^ (2 * b) := by
    have := @Nat.shiftLeft_xor_distrib 1 a b
    simpa [Nat.shiftLeft_eq, Nat.mul_comm] using this
  have e2 : (2 * (a ^^^ b)) % 256 = (2 * a) % 256 ^^^ (2 * b) % 256 := by
    rw [e1]; exact Nat.xor_mod_two_pow (n := 8)
  have e3 : (a ^^^ b) / 128 = a / 128 ^^^ b / 128 := by
    exact Nat.xor_div_two_pow (n := 7)
  have e4 : (a / 128 ^^^ b / 128) * 7 = (a / 128 * 7) ^^^ (b / 128 * 7) := by
    have h1 : a / 128 = 0 ∨ a / 128 = 1 := by omega
    have h2 : b / 128 = 0 ∨ b / 128 = 1 := by omega
    rcases h1 with h1 | h1 <;> rcases h2 with h2 | h2 <;> simp [h1, h2]
  unfold n8
  rw [e2, e3, e4]
  simp only [Nat.xor_assoc, xlc]
theorem it_lt : ∀ (k v : Nat), v < 256 → it n8 k v < 256
  | 0, _, h => h
  | k + 1, v, h => n8_lt (it_lt k v h)
theorem it_xor : ∀ (k a b : Nat), a < 256 → b < 256 → it n8 k (a ^^^ b) = it n8 k a ^^^ it n8 k b
  | 0, _, _, _, _ => rfl
  | k + 1, a, b, ha, hb => by simp only [it]; rw [it_xor k a b ha hb, n8_xor (it_lt k a ha) (it_lt k b hb)]
theorem it_nat : ∀ (k v : Nat), v < 256 → it f8 k (v : Int) = ((it n8 k v : Nat) : Int)
  | 0, _, _ => rfl
  | k + 1, v, h => by simp only [it]; rw [it_nat k v h, f8_nat (it_lt k v h)]
theorem n8_zero : n8 0 = 0 := by decide
theorem n8_inj_fin : ∀ v : Fin 256, n8 v.val = 0 → v.val = 0 := by decide +kernel
theorem it_ne : ∀ (k v : Nat), v < 256 → v ≠ 0 → it n8 k v ≠ 0
  | 0, _, _, h => h
  | k + 1, v, hv, h => fun e => it_ne k v hv h (n8_inj_fin ⟨_, it_lt k v hv⟩ e)
/-- The sum over numbers. -/
def cN (l : List Nat) (s : Nat) : Nat := l.foldl (fun s x => it n8 8 (s ^^^ x)) s
theorem cN_lt : ∀ (l : List Nat) (s : Nat), (∀ x ∈ l, x < 256) → s < 256 → cN l s < 256
  | [], _, _, h => h
  | x :: l, s, hl, hs => cN_lt l _ (fun y hy => hl y (by simp [hy])) (it_lt 8 _ (Nat.xor_lt_two_pow (n := 8) hs (hl x (by simp))))
theorem crc8_nat (l : List Nat) (h : ∀ x ∈ l, x < 256) : crc8 (l.map (fun (x : Nat) => (x : Int))) = ((cN l 0 : Nat) : Int) := by
  have key : ∀ (l : List Nat) (s : Nat), (∀ x ∈ l, x < 256) → s < 256 → (l.map (fun (x : Nat) => (x : Int))).foldl (fun s x => it f8 8 (bXor .u8 s x)) (s : Int) = ((cN l s : Nat) : Int) := by
    intro l
    induction l with
    | nil => intro s _ _; rfl
    | cons x l ih =>
      intro s hl hs
      have hx := hl x (by simp)
      have hsx : s ^^^ x < 256 := Nat.xor_lt_two_pow (n := 8) hs hx
      simp only [List.map_cons, List.foldl_cons]
      rw [xor_u8 hs hx, it_nat 8 _ hsx, ih _ (fun y hy => hl y (by simp [hy])) (it_lt 8 _ hsx)]; rfl
  exact key l 0 h (by omega)
/-- The sum of two lists laid over each other. -/
theorem cN_xor : ∀ (a b : List Nat) (s t : Nat), a.length = b.length → (∀ x ∈ a, x < 256) → (∀ x ∈ b, x < 256) → s < 256 → t < 256 → cN (List.zipWith (· ^^^ ·) a b) (s ^^^ t) = cN a s ^^^ cN b t
  | [], [], _, _, _, _, _, _, _ => rfl
  | x :: a, y :: b, s, t, hl, ha, hb, hs, ht => by
    have hx := ha x (by simp)
    have hy := hb y (by simp)
    have hsx : s ^^^ x < 256 := Nat.xor_lt_two_pow (n := 8) hs hx
    have hty : t ^^^ y < 256 := Nat.xor_lt_two_pow (n := 8) ht hy
    have e : (s ^^^ t) ^^^ (x ^^^ y) = (s ^^^ x) ^^^ (t ^^^ y) := by simp only [Nat.xor_assoc, xlc]
    show cN (List.zipWith (· ^^^ ·) a b) (it n8 8 ((s ^^^ t) ^^^ (x ^^^ y))) = cN a (it n8 8 (s ^^^ x)) ^^^ cN b (it n8 8 (t ^^^ y))
    rw [e, it_xor 8 _ _ hsx hty]
    exact cN_xor a b _ _ (by simpa using hl) (fun z hz => ha z (by simp [hz])) (fun z hz => hb z (by simp [hz])) (it_lt 8 _ hsx) (it_lt 8 _ hty)
  | [], _ :: _, _, _, hl, _, _, _, _ => by simp at hl
  | _ :: _, [], _, _, hl, _, _, _, _ => by simp at hl
/-- Zeros behind a state that is not zero leave it so. -/
theorem cN_zeros : ∀ (n s : Nat), s < 256 → s ≠ 0 → cN (List.replicate n 0) s ≠ 0
  | 0, _, _, h => h
  | n + 1, s, hs, h => by
    rw [List.replicate_succ]
    show cN (List.replicate n 0) (it n8 8 (s ^^^ 0)) ≠ 0
    rw [Nat.xor_zero]
    exact cN_zeros n _ (it_lt 8 s hs) (it_ne 8 s hs h)
theorem cN_zero : ∀ n : Nat, cN (List.replicate n 0) 0 = 0
  | 0 => rfl
  | n + 1 => by rw [List.replicate_succ]; exact cN_zero n
theorem cN_append (a b : List Nat) (s : Nat) : cN (a ++ b) s = cN b (cN a s) := by unfold cN; rw [List.foldl_append]
/-- A list of bytes as numbers. -/
def toI (l : List Nat) : List Int := l.map (fun (x : Nat) => (x : Int))
theorem nats_of {l : List Int} (h : ∀ x ∈ l, byte x) : ∃ n : List Nat, l = toI n ∧ ∀ x ∈ n, x < 256 := by
  induction l with
  | nil => exact ⟨[], rfl, by simp⟩
  | cons x l ih =>
    obtain ⟨n, e, hn⟩ := ih (fun y hy => h y (by simp [hy]))
    obtain ⟨h1, h2⟩ := h x (by simp)
    refine ⟨x.toNat :: n, ?_, fun y hy => ?_⟩
    · simp only [toI, List.map_cons]
      rw [e, Int.toNat_of_nonneg h1]; rfl
    · rcases List.mem_cons.1 hy with rfl | hy
      · omega
      · exact hn y hy
/-- A seal is right if and only if the sum over all of it is zero. -/
theorem openC_five {n : List Nat} (hn : ∀ x ∈ n, x < 256) (hne : n ≠ []) (h : cN n 0 ≠ 0) : openC (toI n) = ([], 5) := by
  have hl : toI n ≠ [] := by cases n with | nil => exact absurd rfl hne | cons _ _ => simp [toI]
  obtain ⟨b, c, rfl⟩ : ∃ b c, n = b ++ [c] := ⟨n.dropLast, n.getLast hne, (List.dropLast_concat_getLast hne).symm⟩
  have hb : ∀ x ∈ b, x < 256 := fun x hx => hn x (by simp [hx])
  have hc : c < 256 := hn c (by simp)
  have e1 : (toI (b ++ [c])).take ((toI (b ++ [c])).length - 1) = toI b := by simp [toI]
  have e2 : last (toI (b ++ [c])) = (c : Int) := by simp [toI, last, List.getLastD_eq_getLast?]
  unfold openC
  rw [if_neg hl, e1, e2]
  have hcr : crc8 (toI b) = ((cN b 0 : Nat) : Int) := crc8_nat b hb
  rw [hcr]
  have hd : ¬ ((cN b 0 : Nat) : Int) = (c : Int) := by
    intro e
    have e' : cN b 0 = c := by omega
    apply h
    rw [cN_append, e']
    show it n8 8 (c ^^^ c) = 0
    rw [Nat.xor_self]; decide
  rw [if_neg hd]
theorem seal_zero (b : List Nat) (hb : ∀ x ∈ b, x < 256) : cN (b ++ [cN b 0]) 0 = 0 := by
  rw [cN_append]
  show it n8 8 (cN b 0 ^^^ cN b 0) = 0
  rw [Nat.xor_self]; decide
/-- A sealed list that is changed by e is found out, if the sum of e is not zero. -/
theorem found {b e : List Nat} (hb : ∀ x ∈ b, x < 256) (he : ∀ x ∈ e, x < 256) (hl : e.length = b.length + 1) (h : cN e 0 ≠ 0) : openC (toI (List.zipWith (· ^^^ ·) (b ++ [cN b 0]) e)) = ([], 5) := by
  have hs : ∀ x ∈ b ++ [cN b 0], x < 256 := fun x hx => by
    rcases List.mem_append.1 hx with hx | hx
    · exact hb x hx
    · simp at hx; rw [hx]; exact cN_lt b 0 hb (by omega)
  have hx := cN_xor (b ++ [cN b 0]) e 0 0 (by simp; omega) hs he (by omega) (by omega)
  rw [Nat.xor_self, seal_zero b hb, Nat.zero_xor] at hx
  have hz : ∀ (a e : List Nat), (∀ x ∈ a, x < 256) → (∀ x ∈ e, x < 256) → ∀ x ∈ List.zipWith (· ^^^ ·) a e, x < 256 := by
    intro a
    induction a with
    | nil => intro e _ _ x hx; simp at hx
    | cons y a ih =>
      intro e ha he x hx
      cases e with
      | nil => simp at hx
      | cons z e =>
        simp only [List.zipWith_cons_cons, List.mem_cons] at hx
        rcases hx with rfl | hx
        · exact Nat.xor_lt_two_pow (n := 8) (ha y (by simp)) (he z (by simp))
        · exact ih e (fun w hw => ha w (by simp [hw])) (fun w hw => he w (by simp [hw])) x hx
  refine openC_five (hz _ _ hs he) (fun e0 => ?_) (by rw [hx]; exact h)
  have := congrArg List.length e0
  rw [List.length_zipWith, List.length_append, hl] at this
  simp at this
end Lift
