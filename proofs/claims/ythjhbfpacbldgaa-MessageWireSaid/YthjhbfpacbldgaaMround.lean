/- Parsing what was encoded; a changed byte is found. No program in sight. -/
import Derived.Test.YthjhbfpacbldgaaMparse
set_option linter.unusedVariables false
set_option linter.unusedSimpArgs false
namespace Lift
open Go
theorem sum8_sum (l : List Int) : sum8 l = (0 - l.sum) % 256 := by
  have key : ∀ (l : List Int) (s : Int), 0 ≤ s → s < 256 → l.foldl (fun s x => (s + x) % 256) s = (s + l.sum) % 256 := by
    intro l
    induction l with
    | nil => intro s h1 h2; simp; omega
    | cons x l ih =>
      intro s h1 h2
      simp only [List.foldl_cons, List.sum_cons]
      rw [ih _ (by omega) (by omega)]; omega
  unfold sum8
  rw [key l 0 (by omega) (by omega)]; omega
theorem sum8_sealed (l : List Int) : sum8 (l ++ [sum8 l]) = 0 := by
  rw [sum8_sum, List.sum_append, sum8_sum l]; simp; omega
theorem sum_set : ∀ (l : List Int) (i : Nat) (x y : Int), l[i]? = some x → (l.set i y).sum = l.sum + y - x
  | [], i, x, y, h => by simp at h
  | z :: l, 0, x, y, h => by simp at h; subst h; simp; omega
  | z :: l, i + 1, x, y, h => by
    have := sum_set l i x y (by simpa using h)
    simp only [List.set_cons_succ, List.sum_cons]; omega
theorem sum8_set {l : List Int} {i : Nat} {x y : Int} (h : l[i]? = some x) (hx : byte x) (hy : byte y) (hne : y ≠ x) (h0 : sum8 l = 0) : sum8 (l.set i y) ≠ 0 := by
  rw [sum8_sum] at h0 ⊢
  rw [sum_set l i x y h]
  obtain ⟨h1, h2⟩ := hx
  obtain ⟨h3, h4⟩ := hy
  omega
def mrest (m : Message_) : List Int := (if m.Function % 2 = 1 then [m.Code] else []) ++ m.Data ++ [sum8 (mbody m)]
theorem mbytes_cons (m : Message_) : mbytes m = (2 * m.To) :: (4 * m.Function + m.ToUnit) :: sum8 (mhead m) :: (2 * m.From) :: (4 * m.Sequence + m.FromUnit) :: m.Command :: mrest m := by
  simp [mbytes, mhead, mrest, mbody]
theorem mbytes_take (m : Message_) : sum8 ((mbytes m).take 3) = 0 := by
  have : (mbytes m).take 3 = mhead m ++ [sum8 (mhead m)] := by simp [mbytes, mhead]
  rw [this, sum8_sealed]
theorem mbytes_drop (m : Message_) : sum8 ((mbytes m).drop 3) = 0 := by
  have : (mbytes m).drop 3 = mbody m ++ [sum8 (mbody m)] := by simp [mbytes, mhead]
  rw [this, sum8_sealed]
theorem mparse_back {m : Message_} (h : MV m) (t : MT m) (r : Bool) (hp : m.Function % 2 = if r then 1 else 0) : mparse r (mbytes m) = (m, 0) := by
  have ha := mbytes_take m
  have hb := mbytes_drop m
  have hl : (mbytes m).length = (mbody m).length + 4 := by simp [mbytes, mhead]
  have hl2 : (mbody m).length = (if m.Function % 2 = 1 then 1 else 0) + m.Data.length + 3 := by simp only [mbody]; split <;> simp <;> omega
  have h0 : ¬ (mbytes m).length < (if r then 8 else 7) := by
    rw [hl, hl2, hp]; cases r <;> simp <;> omega
  unfold mparse
  rw [if_neg h0, ha, hb, if_neg (by simp), mbytes_cons]
  have hfn := t.fn
  obtain ⟨h1, h2, h3, h4, h5, h6, h7, h8, h9, h10, h11, h12, h13⟩ := h
  have e1 : (4 * m.Function + m.ToUnit) / 4 = m.Function := by omega
  have e2 : 2 * m.To / 2 = m.To := by omega
  have e3 : 2 * m.From / 2 = m.From := by omega
  have e4 : (4 * m.Function + m.ToUnit) % 4 = m.ToUnit := by omega
  have e5 : (4 * m.Sequence + m.FromUnit) % 4 = m.FromUnit := by omega
  have e6 : (4 * m.Sequence + m.FromUnit) / 4 = m.Sequence := by omega
  have e7 : ((if r then (mrest m).drop 1 else mrest m).dropLast) = m.Data := by
    unfold mrest
    rw [hp]; cases r <;> simp
  have e8 : (if r then (mrest m).headD 0 else 0) = m.Code := by
    unfold mrest
    rw [hp]
    cases r with
    | false => simp at hp ⊢; omega
    | true => simp
  simp only []
  unfold mfin
  rw [e1, e2, e3, e4, e5, e6, e7, e8, if_neg (by rw [hp]; simp), if_neg (by simp only [AD]; omega), if_neg (by omega)]
theorem mparse_cases (r : Bool) (l : List Int) : mparse r l = (Message_.z, 4) ∨ mparse r l = (Message_.z, 5) ∨ ((sum8 (l.take 3) = 0 ∧ sum8 (l.drop 3) = 0) ∧ ∃ b0 b1 b2 b3 b4 b5 R, l = b0 :: b1 :: b2 :: b3 :: b4 :: b5 :: R ∧
    mparse r l = mfin r b0 b1 b3 b4 b5 (if r then R.headD 0 else 0) (if r then R.drop 1 else R).dropLast) := by
  by_cases h0 : l.length < (if r then 8 else 7)
  · exact .inl (by unfold mparse; rw [if_pos h0])
  · by_cases h1 : sum8 (l.take 3) ≠ 0 ∨ sum8 (l.drop 3) ≠ 0
    · exact .inr (.inl (by unfold mparse; rw [if_neg h0, if_pos h1]))
    · obtain ⟨b0, b1, b2, b3, b4, b5, R, rfl, hR⟩ := six (l := l) (by cases r <;> simp at h0 ⊢ <;> omega)
      refine .inr (.inr ⟨?_, b0, b1, b2, b3, b4, b5, R, rfl, by unfold mparse; rw [if_neg h0, if_neg h1]⟩)
      rw [not_or, Decidable.not_not, Decidable.not_not] at h1
      exact h1
theorem mparse_other {m : Message_} (h : MV m) (t : MT m) (r : Bool) (hp : m.Function % 2 ≠ if r then 1 else 0) : (mparse r (mbytes m)).2 ≠ 0 := by
  rcases mparse_cases r (mbytes m) with e | e | ⟨_, b0, b1, b2, b3, b4, b5, R, e1, e⟩
  · rw [e]; simp
  · rw [e]; simp
  · rw [e]
    rw [mbytes_cons] at e1
    simp only [List.cons.injEq] at e1
    obtain ⟨rfl, rfl, _, rfl, rfl, rfl, _⟩ := e1
    have e1 : (4 * m.Function + m.ToUnit) / 4 = m.Function := by have := h.2.2.2.2.2; omega
    unfold mfin
    rw [e1, if_pos (fun hc => hp hc.2.2)]
    simp
theorem mfin_len (r : Bool) (b0 b1 b3 b4 b5 c : Int) (D : List Int) : (mfin r b0 b1 b3 b4 b5 c D).1.Data.length ≤ D.length := by
  unfold mfin
  by_cases h0 : ¬ (b0 % 2 = 0 ∧ b3 % 2 = 0 ∧ b1 / 4 % 2 = (if r then 1 else 0))
  · rw [if_pos h0]; simp [Message_.z]
  · rw [if_neg h0]
    by_cases h1 : ¬ (AD (b0 / 2) ∧ AD (b3 / 2))
    · rw [if_pos h1]; simp [Message_.z]
    · rw [if_neg h1]
      by_cases h2 : D.length > 240
      · rw [if_pos h2]; simp [Message_.z]
      · rw [if_neg h2]; exact Nat.le_refl _
theorem mparse_len (r : Bool) (l : List Int) : (mparse r l).1.Data.length ≤ l.length := by
  rcases mparse_cases r l with e | e | ⟨_, b0, b1, b2, b3, b4, b5, R, e1, e⟩
  · rw [e]; simp [Message_.z]
  · rw [e]; simp [Message_.z]
  · rw [e]
    refine Nat.le_trans (mfin_len ..) ?_
    subst e1
    cases r <;> simp <;> omega
theorem mparse_found {m : Message_} (r : Bool) {k : Nat} {x y : Int} (hk : (mbytes m)[k]? = some x) (hx : byte x) (hy : byte y) (hne : y ≠ x) : (mparse r ((mbytes m).set k y)).2 ≠ 0 := by
  rcases mparse_cases r ((mbytes m).set k y) with e | e | ⟨⟨e1, e2⟩, _⟩
  · rw [e]; simp
  · rw [e]; simp
  · exfalso
    by_cases h3 : k < 3
    · rw [List.take_set] at e1
      exact sum8_set (x := x) (by rw [List.getElem?_take_of_lt h3]; exact hk) hx hy hne (mbytes_take m) e1
    · rw [List.drop_set, if_neg h3] at e2
      exact sum8_set (x := x) (by rw [List.getElem?_drop, show 3 + (k - 3) = k by omega]; exact hk) hx hy hne (mbytes_drop m) e2
theorem xor_other {a b : Int} (ha : byte a) (hb : byte b) (h0 : b ≠ 0) : bXor .u8 a b ≠ a := by
  obtain ⟨m, rfl⟩ : ∃ n : Nat, a = n := ⟨a.toNat, by have := ha.1; omega⟩
  obtain ⟨n, rfl⟩ : ∃ n : Nat, b = n := ⟨b.toNat, by have := hb.1; omega⟩
  have h1 := ha.2
  have h2 := hb.2
  rw [xor_u8 (by omega) (by omega)]
  intro h
  apply h0
  have h3 : m ^^^ n = m := by exact_mod_cast h
  have := congrArg (fun z => m ^^^ z) h3
  simp [← Nat.xor_assoc] at this
  subst this; rfl
theorem fn_two_fin : ∀ v : Fin 64, v.val % 2 = 0 → ((v.val ^^^ 2) ≤ 63 ∧ (v.val ^^^ 2) % 2 = 0 ∧ (v.val ^^^ 2) ≠ v.val) := by decide +kernel
theorem fn_two {f : Int} (h0 : 0 ≤ f) (h1 : f ≤ 63) (h2 : f % 2 = 0) : byte (bXor .u8 f 2) ∧ bXor .u8 f 2 ≤ 63 ∧ bXor .u8 f 2 % 2 = 0 ∧ bXor .u8 f 2 ≠ f := by
  obtain ⟨v, rfl⟩ : ∃ n : Nat, f = n := ⟨f.toNat, by omega⟩
  obtain ⟨a, b, c⟩ := fn_two_fin ⟨v, by omega⟩ (by simp only; omega)
  simp only at a b c
  rw [show (2 : Int) = ((2 : Nat) : Int) from rfl, xor_u8 (by omega) (by omega)]
  generalize v ^^^ 2 = w at a b c ⊢
  refine ⟨⟨by omega, by omega⟩, by omega, by omega, by omega⟩
end Lift
