/- The long check sum over a whole list: it is linear, and what turned bits do to it. No program in sight. -/
import Derived.Test.YtnfpldbkpdeeoaaSeals
import Derived.Test.YtnfpldbkpdeeoaaSyn8
namespace Lift
open Go

def n32 (v : Nat) : Nat := v / 2 ^^^ (v % 2 * 3988292384)
def W32 : Nat := 4294967296
theorem xl32 {a b : Nat} (ha : a < 4294967296) (hb : b < 4294967296) : a ^^^ b < 4294967296 := Nat.xor_lt_two_pow (n := 32) ha hb
theorem n32_lt {v : Nat} (h : v < 4294967296) : n32 v < 4294967296 := xl32 (by omega) (by omega)
theorem n32_xor (a b : Nat) : n32 (a ^^^ b) = n32 a ^^^ n32 b := by
  have e1 : (a ^^^ b) / 2 = a / 2 ^^^ b / 2 := by simpa using @Nat.xor_div_two_pow a b 1
  have e2 : (a ^^^ b) % 2 = a % 2 ^^^ b % 2 := by simpa using @Nat.xor_mod_two_pow a b 1
  have e3 : (a % 2 ^^^ b % 2) * 3988292384 = (a % 2 * 3988292384) ^^^ (b % 2 * 3988292384) := by
    rcases Nat.mod_two_eq_zero_or_one a with h1 | h1 <;> rcases Nat.mod_two_eq_zero_or_one b with h2 | h2 <;> simp [h1, h2]
  unfold n32
  rw [e1, e2, e3]
  simp only [Nat.xor_assoc, xlc]
theorem n32_even (m : Nat) : n32 (2 * m) = m := by
  unfold n32
  rw [show 2 * m / 2 = m by omega, show 2 * m % 2 = 0 by omega]; simp
theorem n32_ne {v : Nat} (h : v < 4294967296) (hv : v ≠ 0) : n32 v ≠ 0 := by
  intro e
  unfold n32 at e
  have := xor_zero_eq e
  omega
theorem f32_nat {v : Nat} (h : v < 4294967296) : f32 (v : Int) = (n32 v : Int) := by
  have e1 : bShr .u32 (v : Int) 1 = ((v / 2 : Nat) : Int) := by
    show Int.fdiv (v : Int) (2 ^ 1) = _
    rw [show ((2 : Int) ^ 1) = 2 from rfl, Int.fdiv_eq_ediv_of_nonneg _ (by omega)]; omega
  have e2 : bAnd .u32 (v : Int) 1 = ((v % 2 : Nat) : Int) := by
    rw [show (1 : Int) = ((1 : Nat) : Int) from rfl, and_u32 (by omega) (by omega), Nat.and_one_is_mod]
  unfold f32 n32
  rw [e1, e2, show IntKind.u32.wrap (((v % 2 : Nat) : Int) * 3988292384) = ((v % 2 * 3988292384 : Nat) : Int) by rw [w_u32]; omega, xor_u32 (by omega) (by omega)]
theorem t_lt : ∀ (k v : Nat), v < 4294967296 → it n32 k v < 4294967296
  | 0, _, h => h
  | k + 1, v, h => n32_lt (t_lt k v h)
theorem t_xor : ∀ (k a b : Nat), it n32 k (a ^^^ b) = it n32 k a ^^^ it n32 k b
  | 0, _, _ => rfl
  | k + 1, a, b => by simp only [it]; rw [t_xor k a b, n32_xor]
theorem t_ne : ∀ (k v : Nat), v < 4294967296 → v ≠ 0 → it n32 k v ≠ 0
  | 0, _, _, h => h
  | k + 1, v, hv, h => n32_ne (t_lt k v hv) (t_ne k v hv h)
theorem t_zero : ∀ k : Nat, it n32 k 0 = 0
  | 0 => rfl
  | k + 1 => by simp only [it]; rw [t_zero k]; rfl
theorem t_pow : ∀ (k m : Nat), it n32 k (2 ^ k * m) = m
  | 0, m => by simp [it]
  | k + 1, m => by
    simp only [it]
    rw [show 2 ^ (k + 1) * m = 2 ^ k * (2 * m) by rw [Nat.pow_succ]; simp [Nat.mul_assoc], t_pow k (2 * m), n32_even]
theorem t_nat : ∀ (k v : Nat), v < 4294967296 → it f32 k (v : Int) = ((it n32 k v : Nat) : Int)
  | 0, _, _ => rfl
  | k + 1, v, h => by simp only [it]; rw [t_nat k v h, f32_nat (t_lt k v h)]
/-- The sum over numbers. -/
def gN (l : List Nat) (s : Nat) : Nat := l.foldl (fun s x => it n32 8 (s ^^^ x)) s
theorem gN_lt : ∀ (l : List Nat) (s : Nat), (∀ x ∈ l, x < 256) → s < 4294967296 → gN l s < 4294967296
  | [], _, _, h => h
  | x :: l, s, hl, hs => gN_lt l _ (fun y hy => hl y (by simp [hy])) (t_lt 8 _ (xl32 hs (by have := hl x (by simp); omega)))
theorem gN_append (a b : List Nat) (s : Nat) : gN (a ++ b) s = gN b (gN a s) := by unfold gN; rw [List.foldl_append]
theorem crc32_nat (l : List Nat) (h : ∀ x ∈ l, x < 256) : crc32 (toI l) = 4294967295 - ((gN l 4294967295 : Nat) : Int) := by
  have key : ∀ (l : List Nat) (s : Nat), (∀ x ∈ l, x < 256) → s < 4294967296 → (toI l).foldl (fun s x => it f32 8 (bXor .u32 s x)) (s : Int) = ((gN l s : Nat) : Int) := by
    intro l
    induction l with
    | nil => intro s _ _; rfl
    | cons x l ih =>
      intro s hl hs
      have hx := hl x (by simp)
      have hsx : s ^^^ x < 4294967296 := xl32 hs (by omega)
      simp only [toI, List.map_cons, List.foldl_cons]
      rw [xor_u32 hs (by omega), t_nat 8 _ hsx]
      exact ih _ (fun y hy => hl y (by simp [hy])) (t_lt 8 _ hsx)
  unfold crc32
  rw [show (4294967295 : Int) = ((4294967295 : Nat) : Int) from rfl, key l _ h (by omega)]
theorem ones {v : Nat} (h : v < 4294967296) : 4294967295 - v = v ^^^ 4294967295 := by
  have := not_u32 h
  have e : bNot .u32 (v : Int) = bXor .u32 ((4294967295 : Nat) : Int) (v : Int) := rfl
  rw [e, xor_u32 (by omega) h] at this
  rw [Nat.xor_comm]; omega
theorem crc32_N {l : List Nat} (h : ∀ x ∈ l, x < 256) : crc32 (toI l) = ((gN l 4294967295 ^^^ 4294967295 : Nat) : Int) := by
  have h1 := gN_lt l 4294967295 h (by omega)
  rw [crc32_nat l h, ← ones h1]; omega
theorem gN_xor : ∀ (a b : List Nat) (s t : Nat), a.length = b.length → gN (List.zipWith (· ^^^ ·) a b) (s ^^^ t) = gN a s ^^^ gN b t
  | [], [], _, _, _ => rfl
  | x :: a, y :: b, s, t, hl => by
    have e : (s ^^^ t) ^^^ (x ^^^ y) = (s ^^^ x) ^^^ (t ^^^ y) := by simp only [Nat.xor_assoc, xlc]
    show gN (List.zipWith (· ^^^ ·) a b) (it n32 8 ((s ^^^ t) ^^^ (x ^^^ y))) = gN a (it n32 8 (s ^^^ x)) ^^^ gN b (it n32 8 (t ^^^ y))
    rw [e, t_xor]
    exact gN_xor a b _ _ (by simpa using hl)
  | [], _ :: _, _, _, hl => by simp at hl
  | _ :: _, [], _, _, hl => by simp at hl
theorem gN_st : ∀ (l : List Nat) (s t : Nat), gN l (s ^^^ t) = gN l s ^^^ it n32 (8 * l.length) t
  | [], s, t => rfl
  | x :: l, s, t => by
    show gN l (it n32 8 ((s ^^^ t) ^^^ x)) = gN l (it n32 8 (s ^^^ x)) ^^^ _
    rw [show (s ^^^ t) ^^^ x = (s ^^^ x) ^^^ t by simp only [Nat.xor_assoc, Nat.xor_comm t x], t_xor, gN_st l, ← it_add, show 8 * (x :: l).length = 8 * l.length + 8 by simp; omega]
theorem gN_mod : ∀ (l : List Nat) (s i m : Nat), i < l.length → gN (l.modify i (· ^^^ m)) s = gN l s ^^^ it n32 (8 * (l.length - i)) m
  | [], _, _, _, h => by simp at h
  | x :: l, s, 0, m, _ => by
    have e : (x :: l).modify 0 (· ^^^ m) = (x ^^^ m) :: l := by simp
    rw [e]
    show gN l (it n32 8 (s ^^^ (x ^^^ m))) = gN l (it n32 8 (s ^^^ x)) ^^^ _
    rw [← Nat.xor_assoc, t_xor, gN_st, ← it_add, show 8 * ((x :: l).length - 0) = 8 * l.length + 8 by simp; omega]
  | x :: l, s, i + 1, m, h => by
    have e : (x :: l).modify (i + 1) (· ^^^ m) = x :: l.modify i (· ^^^ m) := by simp
    rw [e]
    show gN (l.modify i (· ^^^ m)) (it n32 8 (s ^^^ x)) = gN l (it n32 8 (s ^^^ x)) ^^^ _
    rw [gN_mod l _ i m (by simpa using h), show (x :: l).length - (i + 1) = l.length - i by simp]
/-- A sum of two parts that do not overlap. -/
theorem xor_sum {a k : Nat} (b : Nat) (h : a < 2 ^ k) : a ^^^ (2 ^ k * b) = a + 2 ^ k * b := by
  have h1 : (a ^^^ (2 ^ k * b)) / 2 ^ k = b := by rw [Nat.xor_div_two_pow, Nat.div_eq_of_lt h, Nat.mul_div_cancel_left _ (Nat.two_pow_pos k)]; simp
  have h2 : (a ^^^ (2 ^ k * b)) % 2 ^ k = a := by rw [Nat.xor_mod_two_pow, Nat.mod_eq_of_lt h, Nat.mul_mod_right]; simp
  have h3 := Nat.div_add_mod (a ^^^ (2 ^ k * b)) (2 ^ k)
  rw [h1, h2] at h3
  omega
theorem fold_four {r c0 c1 c2 c3 : Nat} (h0 : c0 < 256) (h1 : c1 < 256) (h2 : c2 < 256) : gN [c0, c1, c2, c3] r = it n32 32 (r ^^^ (c0 + 256 * c1 + 65536 * c2 + 16777216 * c3)) := by
  have e3 : c0 + 256 * c1 + 65536 * c2 + 16777216 * c3 = ((c0 ^^^ 256 * c1) ^^^ 65536 * c2) ^^^ 16777216 * c3 := by
    have a1 := xor_sum (k := 8) c1 (a := c0) (by omega)
    have a2 := xor_sum (k := 16) c2 (a := c0 + 2 ^ 8 * c1) (by omega)
    have a3 := xor_sum (k := 24) c3 (a := c0 + 2 ^ 8 * c1 + 2 ^ 16 * c2) (by omega)
    simp only [Nat.reducePow] at a1 a2 a3
    rw [a1, a2, a3]
  have p1 : ∀ m, it n32 8 (256 * m) = m := fun m => t_pow 8 m
  have p2 : ∀ m, it n32 8 (65536 * m) = 256 * m := fun m => by rw [show 65536 * m = 256 * (256 * m) by omega, p1]
  have p3 : ∀ m, it n32 8 (16777216 * m) = 65536 * m := fun m => by rw [show 16777216 * m = 256 * (65536 * m) by omega, p1]
  show it n32 8 (it n32 8 (it n32 8 (it n32 8 (r ^^^ c0) ^^^ c1) ^^^ c2) ^^^ c3) = _
  rw [e3, show (32 : Nat) = 8 + (8 + (8 + 8)) from rfl, it_add, it_add, it_add, ← Nat.xor_assoc, ← Nat.xor_assoc, ← Nat.xor_assoc]
  rw [t_xor 8 _ (16777216 * c3), t_xor 8 _ (65536 * c2), t_xor 8 (r ^^^ c0) (256 * c1), p1, p2, p3]
  rw [t_xor 8 _ (65536 * c3), t_xor 8 _ (256 * c2), p2, p1, t_xor 8 _ (256 * c3), p1]
def fourN (v : Nat) : List Nat := [v % 256, v / 256 % 256, v / 65536 % 256, v / 16777216 % 256]
theorem four_nat (v : Nat) : four (v : Int) = toI (fourN v) := by
  simp only [four, fourN, toI, List.map_cons, List.map_nil, List.cons.injEq, and_true]
  refine ⟨?_, ?_, ?_, ?_⟩ <;> omega
theorem fourN_lt (v : Nat) : ∀ x ∈ fourN v, x < 256 := by
  intro x hx
  simp only [fourN, List.mem_cons, List.not_mem_nil, or_false] at hx
  rcases hx with rfl | rfl | rfl | rfl <;> omega
theorem gN_four {r v : Nat} (hv : v < 4294967296) : gN (fourN v) r = it n32 32 (r ^^^ v) := by
  unfold fourN
  rw [fold_four (by omega) (by omega) (by omega)]
  congr 2; omega
/-- What the sum over a whole sealed list is. -/
def R32 : Nat := it n32 32 4294967295
theorem sealed32 {l : List Int} (h : Small l) : ∃ n : List Nat, l ++ four (crc32 l) = toI n ∧ (∀ x ∈ n, x < 256) ∧ n.length = l.length + 4 ∧ gN n 4294967295 = R32 := by
  obtain ⟨b, e, hb⟩ := nats_of h.2
  have h1 := gN_lt b 4294967295 hb (by omega)
  refine ⟨b ++ fourN (gN b 4294967295 ^^^ 4294967295), ?_, fun x hx => ?_, ?_, ?_⟩
  · rw [e, crc32_N hb, four_nat]; simp [toI]
  · rcases List.mem_append.1 hx with hx | hx
    · exact hb x hx
    · exact fourN_lt _ x hx
  · have := congrArg List.length e
    rw [toI_len] at this
    simp [fourN]; omega
  · rw [gN_append, gN_four (xl32 h1 (by omega)), ← Nat.xor_assoc, Nat.xor_self, Nat.zero_xor]; rfl
theorem openL_five {n : List Nat} (hn : ∀ x ∈ n, x < 256) (hl : 4 ≤ n.length) (h : gN n 4294967295 ≠ R32) : openL (toI n) = ([], 5) := by
  have hlt : ¬ (toI n).length < 4 := by rw [toI_len]; omega
  obtain ⟨b, c, rfl, hc⟩ : ∃ b c, n = b ++ c ∧ c.length = 4 := ⟨n.take (n.length - 4), n.drop (n.length - 4), (List.take_append_drop _ _).symm, by simp; omega⟩
  have hb : ∀ x ∈ b, x < 256 := fun x hx => hn x (by simp [hx])
  have e0 : (toI (b ++ c)).length - 4 = (toI b).length := by simp [toI, hc]
  have e1 : (toI (b ++ c)).take ((toI (b ++ c)).length - 4) = toI b := by rw [e0]; simp [toI]
  have e2 : (toI (b ++ c)).drop ((toI (b ++ c)).length - 4) = toI c := by rw [e0]; simp [toI]
  have h1 := gN_lt b 4294967295 hb (by omega)
  unfold openL
  rw [if_neg hlt, e1, e2, crc32_N hb, four_nat]
  have hd : ¬ toI (fourN (gN b 4294967295 ^^^ 4294967295)) = toI c := by
    intro e
    have e' : fourN (gN b 4294967295 ^^^ 4294967295) = c := by
      have key : ∀ (p q : List Nat), toI p = toI q → p = q := by
        intro p q hpq
        have := congrArg (List.map Int.toNat) hpq
        simpa [toI, Function.comp_def] using this
      exact key _ _ e
    apply h
    rw [gN_append, ← e', gN_four (xl32 h1 (by omega)), ← Nat.xor_assoc, Nat.xor_self, Nat.zero_xor]; rfl
  rw [if_neg hd]
/-- One bit of a list: bit 0 is the lowest of the first byte. -/
def flipL (n : List Nat) (k : Nat) : List Nat := n.modify (k / 8) (· ^^^ 2 ^ (k % 8))
theorem bitL_lt (k : Nat) : 2 ^ (k % 8) < 256 := by
  have : k % 8 ≤ 7 := by omega
  calc 2 ^ (k % 8) ≤ 2 ^ 7 := Nat.pow_le_pow_right (by omega) this
    _ < 256 := by omega
theorem gN_flip {l : List Nat} {k s : Nat} (hk : k < 8 * l.length) : gN (flipL l k) s = gN l s ^^^ it n32 (8 * l.length - k) 1 := by
  unfold flipL
  rw [gN_mod l s (k / 8) _ (by omega)]
  congr 1
  have e : 8 * (l.length - k / 8) = (8 * l.length - k) + k % 8 := by omega
  rw [e, it_add]
  congr 1
  have := t_pow (k % 8) 1
  rwa [Nat.mul_one] at this
theorem low_step (a t : Nat) : a % 2 ^ (t + 1) = if a / 2 ^ t % 2 = 1 then (a % 2 ^ t) ^^^ 2 ^ t else a % 2 ^ t := by
  have h1 : a % 2 ^ (t + 1) = a % 2 ^ t + 2 ^ t * (a / 2 ^ t % 2) := by rw [Nat.pow_succ, Nat.mod_mul]
  have h2 : a % 2 ^ t < 2 ^ t := Nat.mod_lt _ (Nat.two_pow_pos t)
  rw [h1]
  rcases Nat.mod_two_eq_zero_or_one (a / 2 ^ t) with h | h
  · rw [h]; simp
  · rw [h, if_pos rfl]
    have := xor_sum 1 h2
    simp only [Nat.mul_one] at this ⊢
    exact this.symm
theorem burst32 {L k t v : Nat} (hk : k + t ≤ L) : it n32 (L - k) v ^^^ it n32 (L - (k + t)) 1 = it n32 (L - k) (v ^^^ 2 ^ t) := by
  rw [t_xor]
  congr 1
  have e : L - k = (L - (k + t)) + t := by omega
  rw [e, it_add]
  congr 1
  have := t_pow t 1
  rw [Nat.mul_one] at this
  exact this.symm
end Lift
