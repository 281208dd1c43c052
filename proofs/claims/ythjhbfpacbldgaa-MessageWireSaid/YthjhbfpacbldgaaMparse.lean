/- What bytes are parsed to: closed forms. No program in sight. -/
import Derived.Test.YthjhbfpacbldgaaMessages
import Derived.Test.YthjhbfpacbldgaaMreplies
set_option linter.unusedVariables false
set_option linter.unusedSimpArgs false
namespace Lift
open Go
def AD (a : Int) : Prop := 8 ≤ a ∧ a ≤ 119
instance (a : Int) : Decidable (AD a) := by unfold AD; infer_instance
theorem six {l : List Int} (h : 7 ≤ l.length) : ∃ b0 b1 b2 b3 b4 b5 R, l = b0 :: b1 :: b2 :: b3 :: b4 :: b5 :: R ∧ R ≠ [] := by
  match l, h with
  | b0 :: b1 :: b2 :: b3 :: b4 :: b5 :: c :: R, _ => exact ⟨b0, b1, b2, b3, b4, b5, c :: R, rfl, by simp⟩
theorem byte_conv {b : Int} (h : byte b) : IntKind.u8.wrap (Int.tdiv b 2) = b / 2 ∧ IntKind.u8.wrap (Int.tdiv b 4) = b / 4 ∧ Int.tmod b 2 = b % 2 ∧ Int.tmod b 4 = b % 4 ∧ IntKind.i64.wrap (b % 4) = b % 4 ∧ IntKind.i64.wrap (b / 4) = b / 4 ∧ IntKind.i64.wrap b = b ∧ Int.tdiv b 4 = b / 4 ∧ IntKind.u8.wrap (b / 4) = b / 4 := by
  obtain ⟨h1, h2⟩ := h
  rw [Int.tdiv_eq_ediv_of_nonneg h1, Int.tdiv_eq_ediv_of_nonneg h1, Int.tmod_eq_emod_of_nonneg h1, Int.tmod_eq_emod_of_nonneg h1, w_u8, w_u8, w_i64 (by omega) (by omega), w_i64 (by omega) (by omega), w_i64 (by omega) (by omega)]
  omega
theorem maddr_eq (fuel : Nat) (a : Int) : message_address fuel a = some (decide (AD a)) := by
  unfold message_address AD
  by_cases h : 8 ≤ a <;> simp [h]
theorem raddr_eq (fuel : Nat) (a : Int) : ref20_Address fuel a = some (decide (AD a)) := by
  unfold ref20_Address AD
  by_cases h : 8 ≤ a <;> simp [h]
theorem sub_tail {b0 b1 b2 b3 b4 b5 : Int} {R : List Int} (h : R ≠ []) (hl : R.length ≤ 5000) :
    sub (b0 :: b1 :: b2 :: b3 :: b4 :: b5 :: R) 6 (IntKind.i64.wrap (((b0 :: b1 :: b2 :: b3 :: b4 :: b5 :: R).length : Int) - 1)) = some R.dropLast := by
  have hp : 0 < R.length := List.length_pos_iff.2 h
  have e : IntKind.i64.wrap (((b0 :: b1 :: b2 :: b3 :: b4 :: b5 :: R).length : Int) - 1) = ((R.length + 5 : Nat) : Int) := by
    simp only [List.length_cons]; rw [w_i64 (by omega) (by omega)]; omega
  rw [e, show (6 : Int) = ((6 : Nat) : Int) from rfl, sub_ok (by omega) (by simp)]
  simp only [List.drop_succ_cons, List.drop_zero, List.dropLast_eq_take]
  rfl
theorem sub_tail7 {b0 b1 b2 b3 b4 b5 c : Int} {R : List Int} (h : R ≠ []) (hl : R.length ≤ 5000) :
    sub (b0 :: b1 :: b2 :: b3 :: b4 :: b5 :: c :: R) 7 (IntKind.i64.wrap (((b0 :: b1 :: b2 :: b3 :: b4 :: b5 :: c :: R).length : Int) - 1)) = some R.dropLast := by
  have hp : 0 < R.length := List.length_pos_iff.2 h
  have e : IntKind.i64.wrap (((b0 :: b1 :: b2 :: b3 :: b4 :: b5 :: c :: R).length : Int) - 1) = ((R.length + 6 : Nat) : Int) := by
    simp only [List.length_cons]; rw [w_i64 (by omega) (by omega)]; omega
  rw [e, show (7 : Int) = ((7 : Nat) : Int) from rfl, sub_ok (by omega) (by simp)]
  simp only [List.drop_succ_cons, List.drop_zero, List.dropLast_eq_take]
  rfl
/-- The last part of both parses: what the fields of the head say. -/
def mfin (resp : Bool) (b0 b1 b3 b4 b5 c : Int) (D : List Int) : Message_ × Int :=
    if ¬ (b0 % 2 = 0 ∧ b3 % 2 = 0 ∧ b1 / 4 % 2 = (if resp then 1 else 0)) then (Message_.z, 6) else
    if ¬ (AD (b0 / 2) ∧ AD (b3 / 2)) then (Message_.z, 13) else
    if D.length > 240 then (Message_.z, 3) else (⟨b0 / 2, b3 / 2, b1 / 4, b5, b1 % 4, b4 % 4, b4 / 4, c, D⟩, 0)
theorem mcore {fuel : Nat} (hf : 5000 < fuel) {b0 b1 b2 b3 b4 b5 c : Int} {R D : List Int} (resp : Bool) {p : Int} (hp : p = if resp then 7 else 6)
    (h : Small (b0 :: b1 :: b2 :: b3 :: b4 :: b5 :: R))
    (hsub : sub (b0 :: b1 :: b2 :: b3 :: b4 :: b5 :: R) p (IntKind.i64.wrap (((b0 :: b1 :: b2 :: b3 :: b4 :: b5 :: R).length : Int) - 1)) = some D)
    (hD : D.length ≤ 5000)
    (hc : if resp then idx (b0 :: b1 :: b2 :: b3 :: b4 :: b5 :: R) 6 = some c else c = 0) :
    message_parse fuel (b0 :: b1 :: b2 :: b3 :: b4 :: b5 :: R) p = some (if sum8 ((b0 :: b1 :: b2 :: b3 :: b4 :: b5 :: R).take 3) ≠ 0 ∨ sum8 ((b0 :: b1 :: b2 :: b3 :: b4 :: b5 :: R).drop 3) ≠ 0 then (Message_.z, 5) else mfin resp b0 b1 b3 b4 b5 c D) := by
  have hby := h.2
  have c0 := byte_conv (hby b0 (by simp))
  have c1 := byte_conv (hby b1 (by simp))
  have c3 := byte_conv (hby b3 (by simp))
  have c4 := byte_conv (hby b4 (by simp))
  have d1 : Int.tmod (b1 / 4) 2 = b1 / 4 % 2 := Int.tmod_eq_emod_of_nonneg (by have := (hby b1 (by simp)).1; omega)
  have st : sub (b0 :: b1 :: b2 :: b3 :: b4 :: b5 :: R) 0 3 = some ((b0 :: b1 :: b2 :: b3 :: b4 :: b5 :: R).take 3) := sub_take (by omega) (by simp; omega)
  have sd : sub (b0 :: b1 :: b2 :: b3 :: b4 :: b5 :: R) 3 (b0 :: b1 :: b2 :: b3 :: b4 :: b5 :: R).length = some ((b0 :: b1 :: b2 :: b3 :: b4 :: b5 :: R).drop 3) := sub_drop (b := 3) (by omega) (by simp; omega)
  have i0 : idx (b0 :: b1 :: b2 :: b3 :: b4 :: b5 :: R) 0 = some b0 := rfl
  have i1 : idx (b0 :: b1 :: b2 :: b3 :: b4 :: b5 :: R) 1 = some b1 := rfl
  have i3 : idx (b0 :: b1 :: b2 :: b3 :: b4 :: b5 :: R) 3 = some b3 := rfl
  have i4 : idx (b0 :: b1 :: b2 :: b3 :: b4 :: b5 :: R) 4 = some b4 := rfl
  have i5 : idx (b0 :: b1 :: b2 :: b3 :: b4 :: b5 :: R) 5 = some b5 := rfl
  have hcl : slices_Clone_byte_byte fuel D = some D := clone_eq (by omega)
  have hs1 := checksum_Sum8_eq (h.take 3) hf
  have hs2 := checksum_Sum8_eq (h.drop 3) hf
  unfold message_parse message_request
  rw [st, bindP_some, hs1, bindP_some, joinP_eq, sd, bindP_some, hs2, bindP_some]
  generalize sum8 ((b0 :: b1 :: b2 :: b3 :: b4 :: b5 :: R).take 3) = s1
  generalize sum8 ((b0 :: b1 :: b2 :: b3 :: b4 :: b5 :: R).drop 3) = s2
  by_cases k1 : s1 = 0
  rotate_left
  · simp [k1, ibne]
  by_cases k2 : s2 = 0
  rotate_left
  · simp [k1, k2, ibne]
  rw [i0, i1, i3, i4, i5, hsub]
  simp only [k1, k2, ibne, decide_true, Bool.not_true, iteP_false, bindP_some, hcl, c0, c1, c3, c4, joinP_eq, ne_eq, not_true_eq_false, or_self, if_false]
  cases resp with
  | false =>
    simp only [Bool.false_eq_true, if_false] at hp hc
    subst hp; subst hc
    simp only [show decide ((6 : Int) = 7) = false from rfl, iteP_false, ibeq, letP_eq, bindP_some, maddr_eq, d1, mfin, decide_true]
    by_cases t0 : b0 % 2 = 0
    rotate_left
    · simp [t0]
    by_cases t1 : b3 % 2 = 0
    rotate_left
    · simp [t0, t1]
    by_cases t2 : b1 / 4 % 2 = 0
    rotate_left
    · simp [t0, t1, t2]
    by_cases t3 : AD (b0 / 2)
    rotate_left
    · simp [t0, t1, t2, t3]
    by_cases t4 : AD (b3 / 2)
    rotate_left
    · simp [t0, t1, t2, t3, t4]
    by_cases t5 : D.length > 240
    · have : 240 < (D.length : Int) := by omega
      simp [t0, t1, t2, t3, t4, t5, this]
    · have : ¬ 240 < (D.length : Int) := by omega
      simp [t0, t1, t2, t3, t4, t5, this]
  | true =>
    simp only [if_true] at hp hc
    subst hp
    have w7 : IntKind.i64.wrap (7 - 1) = 6 := by decide
    simp only [show decide ((7 : Int) = 7) = true from rfl, iteP_true, ibeq, letP_eq, w7, hc, bindP_some, maddr_eq, d1, mfin, show decide ((7 : Int) = 6) = false from rfl]
    by_cases t0 : b0 % 2 = 0
    rotate_left
    · simp [t0]
    by_cases t1 : b3 % 2 = 0
    rotate_left
    · simp [t0, t1]
    by_cases t2 : b1 / 4 % 2 = 1
    rotate_left
    · have : b1 / 4 % 2 = 0 := by omega
      simp [t0, t1, this]
    by_cases t3 : AD (b0 / 2)
    rotate_left
    · simp [t0, t1, t2, t3]
    by_cases t4 : AD (b3 / 2)
    rotate_left
    · simp [t0, t1, t2, t3, t4]
    by_cases t5 : D.length > 240
    · have : 240 < (D.length : Int) := by omega
      simp [t0, t1, t2, t3, t4, t5, this]
    · have : ¬ 240 < (D.length : Int) := by omega
      simp [t0, t1, t2, t3, t4, t5, this]
theorem rcore {fuel : Nat} (hf : 5000 < fuel) {b0 b1 b2 b3 b4 b5 c : Int} {R D : List Int} (resp : Bool) {p : Int} (hp : p = if resp then 1 else 0)
    (h : Small (b0 :: b1 :: b2 :: b3 :: b4 :: b5 :: R)) (hlen : ¬ (b0 :: b1 :: b2 :: b3 :: b4 :: b5 :: R).length < (if resp then 8 else 7))
    (hsub : sub (b0 :: b1 :: b2 :: b3 :: b4 :: b5 :: R) (6 + p) (IntKind.i64.wrap (((b0 :: b1 :: b2 :: b3 :: b4 :: b5 :: R).length : Int) - 1)) = some D)
    (hD : D.length ≤ 5000)
    (hc : if resp then idx (b0 :: b1 :: b2 :: b3 :: b4 :: b5 :: R) 6 = some c else c = 0) :
    ref23_parse fuel (b0 :: b1 :: b2 :: b3 :: b4 :: b5 :: R) p = some (if sum8 ((b0 :: b1 :: b2 :: b3 :: b4 :: b5 :: R).take 3) ≠ 0 ∨ sum8 ((b0 :: b1 :: b2 :: b3 :: b4 :: b5 :: R).drop 3) ≠ 0 then (Message_.z, 5) else mfin resp b0 b1 b3 b4 b5 c D) := by
  have hby := h.2
  have c0 := byte_conv (hby b0 (by simp))
  have c1 := byte_conv (hby b1 (by simp))
  have c3 := byte_conv (hby b3 (by simp))
  have c4 := byte_conv (hby b4 (by simp))
  have c14 : IntKind.i64.wrap (b1 / 4) = b1 / 4 := c1.2.2.2.2.2.1
  have d1 : Int.tmod (b1 / 4) 2 = b1 / 4 % 2 := Int.tmod_eq_emod_of_nonneg (by have := (hby b1 (by simp)).1; omega)
  have st : sub (b0 :: b1 :: b2 :: b3 :: b4 :: b5 :: R) 0 3 = some ((b0 :: b1 :: b2 :: b3 :: b4 :: b5 :: R).take 3) := sub_take (by omega) (by simp; omega)
  have sd : sub (b0 :: b1 :: b2 :: b3 :: b4 :: b5 :: R) 3 (b0 :: b1 :: b2 :: b3 :: b4 :: b5 :: R).length = some ((b0 :: b1 :: b2 :: b3 :: b4 :: b5 :: R).drop 3) := sub_drop (b := 3) (by omega) (by simp; omega)
  have i0 : idx (b0 :: b1 :: b2 :: b3 :: b4 :: b5 :: R) 0 = some b0 := rfl
  have i1 : idx (b0 :: b1 :: b2 :: b3 :: b4 :: b5 :: R) 1 = some b1 := rfl
  have i3 : idx (b0 :: b1 :: b2 :: b3 :: b4 :: b5 :: R) 3 = some b3 := rfl
  have i4 : idx (b0 :: b1 :: b2 :: b3 :: b4 :: b5 :: R) 4 = some b4 := rfl
  have i5 : idx (b0 :: b1 :: b2 :: b3 :: b4 :: b5 :: R) 5 = some b5 := rfl
  have hcl : ref01_Copy fuel D = some D := Copy_eq (by omega) (by omega)
  have hs1 := ref01_Sum8_eq (h.take 3) hf
  have hs2 := ref01_Sum8_eq (h.drop 3) hf
  unfold ref23_parse
  have w67 : IntKind.i64.wrap (6 + p) = 6 + p := by subst hp; cases resp <;> rfl
  have hl : decide (((b0 :: b1 :: b2 :: b3 :: b4 :: b5 :: R).length : Int) < IntKind.i64.wrap (7 + p)) = false := by
    subst hp
    cases resp
    · simp only [Bool.false_eq_true, if_false] at hlen ⊢
      rw [show IntKind.i64.wrap (7 + 0) = 7 from rfl]; exact decide_eq_false (by omega)
    · simp only [if_true] at hlen ⊢
      rw [show IntKind.i64.wrap (7 + 1) = 8 from rfl]; exact decide_eq_false (by omega)
  rw [hl, iteP_false, st, bindP_some, hs1, bindP_some, joinP_eq, sd, bindP_some, hs2, bindP_some]
  generalize sum8 ((b0 :: b1 :: b2 :: b3 :: b4 :: b5 :: R).take 3) = s1
  generalize sum8 ((b0 :: b1 :: b2 :: b3 :: b4 :: b5 :: R).drop 3) = s2
  by_cases k1 : s1 = 0
  rotate_left
  · simp [k1, ibne]
  by_cases k2 : s2 = 0
  rotate_left
  · simp [k1, k2, ibne]
  rw [i0, i1, i3, i4, i5, w67, hsub]
  simp only [k1, k2, ibne, ibeq, decide_true, Bool.not_true, iteP_false, bindP_some, hcl, c0, c1, c3, c4, c14, d1, raddr_eq, letP_eq, joinP_eq, ne_eq, not_true_eq_false, or_self, if_false]
  cases resp with
  | false =>
    simp only [Bool.false_eq_true, if_false] at hp hc
    subst hp; subst hc
    simp only [show decide ((0 : Int) = 1) = false from rfl, iteP_false, mfin]
    by_cases t0 : b0 % 2 = 0
    rotate_left
    · simp [t0]
    by_cases t1 : b3 % 2 = 0
    rotate_left
    · simp [t0, t1]
    by_cases t2 : b1 / 4 % 2 = 0
    rotate_left
    · simp [t0, t1, t2]
    by_cases t3 : AD (b0 / 2)
    rotate_left
    · simp [t0, t1, t2, t3]
    by_cases t4 : AD (b3 / 2)
    rotate_left
    · simp [t0, t1, t2, t3, t4]
    by_cases t5 : D.length > 240
    · have : 240 < (D.length : Int) := by omega
      simp [t0, t1, t2, t3, t4, t5, this]
    · have : ¬ 240 < (D.length : Int) := by omega
      simp [t0, t1, t2, t3, t4, t5, this]
  | true =>
    simp only [if_true] at hp hc
    subst hp
    simp only [show decide ((1 : Int) = 1) = true from rfl, iteP_true, hc, bindP_some, mfin]
    by_cases t0 : b0 % 2 = 0
    rotate_left
    · simp [t0]
    by_cases t1 : b3 % 2 = 0
    rotate_left
    · simp [t0, t1]
    by_cases t2 : b1 / 4 % 2 = 1
    rotate_left
    · simp [t0, t1, t2]
    by_cases t3 : AD (b0 / 2)
    rotate_left
    · simp [t0, t1, t2, t3]
    by_cases t4 : AD (b3 / 2)
    rotate_left
    · simp [t0, t1, t2, t3, t4]
    by_cases t5 : D.length > 240
    · have : 240 < (D.length : Int) := by omega
      simp [t0, t1, t2, t3, t4, t5, this]
    · have : ¬ 240 < (D.length : Int) := by omega
      simp [t0, t1, t2, t3, t4, t5, this]
/-- What bytes are parsed to. -/
def mparse (resp : Bool) (l : List Int) : Message_ × Int :=
  if l.length < (if resp then 8 else 7) then (Message_.z, 4) else
  if sum8 (l.take 3) ≠ 0 ∨ sum8 (l.drop 3) ≠ 0 then (Message_.z, 5) else
  match l with
  | b0 :: b1 :: _ :: b3 :: b4 :: b5 :: R => mfin resp b0 b1 b3 b4 b5 (if resp then R.headD 0 else 0) (if resp then R.drop 1 else R).dropLast
  | _ => (Message_.z, 4)
theorem mparts {l : List Int} (hl : l.length ≤ 5000) (resp : Bool) (h0 : ¬ l.length < (if resp then 8 else 7)) : ∃ b0 b1 b2 b3 b4 b5 R c D, l = b0 :: b1 :: b2 :: b3 :: b4 :: b5 :: R ∧
    c = (if resp then R.headD 0 else 0) ∧ D = (if resp then R.drop 1 else R).dropLast ∧ sub l (if resp then 7 else 6) (IntKind.i64.wrap ((l.length : Int) - 1)) = some D ∧ D.length ≤ 5000 ∧ (if resp then idx l 6 = some c else c = 0) := by
  obtain ⟨b0, b1, b2, b3, b4, b5, R, rfl, hR⟩ := six (l := l) (by cases resp <;> simp at h0 ⊢ <;> omega)
  have hRl : R.length ≤ 4994 := by simp at hl; omega
  cases resp with
  | false =>
    refine ⟨b0, b1, b2, b3, b4, b5, R, _, _, rfl, rfl, rfl, sub_tail hR (by omega), ?_, rfl⟩
    simp; omega
  | true =>
    match R, hR, hRl with
    | c :: R', _, hRl =>
      have hR' : R' ≠ [] := by
        intro e; subst e; simp at h0
      refine ⟨b0, b1, b2, b3, b4, b5, c :: R', _, _, rfl, rfl, rfl, sub_tail7 hR' (by simp at hRl; omega), ?_, rfl⟩
      simp at hRl ⊢; omega
theorem mpar_eq {fuel : Nat} (hf : 5000 < fuel) {l : List Int} (h : Small l) : message_ParseRequest fuel l = some (mparse false l) := by
  unfold message_ParseRequest
  by_cases h0 : l.length < 7
  · have : (l.length : Int) < 7 := by omega
    simp [mparse, h0, this]
  · have h0' : ¬ (l.length : Int) < 7 := by omega
    rw [decide_eq_false h0', iteP_false]
    obtain ⟨b0, b1, b2, b3, b4, b5, R, c, D, rfl, e1, e2, h1, h2, h3⟩ := mparts h.1 false h0
    rw [mcore (p := 6) hf false rfl h h1 h2 h3, bindP_some, e1, e2]; exact (congrArg some (if_neg h0)).symm
theorem mpas_eq {fuel : Nat} (hf : 5000 < fuel) {l : List Int} (h : Small l) : message_ParseResponse fuel l = some (mparse true l) := by
  unfold message_ParseResponse
  by_cases h0 : l.length < 8
  · have : (l.length : Int) < 8 := by omega
    simp [mparse, h0, this]
  · have h0' : ¬ (l.length : Int) < 8 := by omega
    rw [decide_eq_false h0', iteP_false]
    obtain ⟨b0, b1, b2, b3, b4, b5, R, c, D, rfl, e1, e2, h1, h2, h3⟩ := mparts h.1 true h0
    rw [mcore (p := 7) hf true rfl h h1 h2 h3, bindP_some, e1, e2]; exact (congrArg some (if_neg h0)).symm
theorem rpas_eq {fuel : Nat} (hf : 5000 < fuel) {l : List Int} (h : Small l) : ref23_ParseResponse fuel l = some (mparse true l) := by
  unfold ref23_ParseResponse
  by_cases h0 : l.length < 8
  · have : decide ((l.length : Int) < IntKind.i64.wrap (7 + 1)) = true := decide_eq_true (by rw [show IntKind.i64.wrap (7 + 1) = 8 from rfl]; omega)
    unfold ref23_parse
    rw [this]
    simp [mparse, h0]
  · obtain ⟨b0, b1, b2, b3, b4, b5, R, c, D, rfl, e1, e2, h1, h2, h3⟩ := mparts h.1 true h0
    rw [rcore (p := 1) hf true rfl h h0 h1 h2 h3, bindP_some, e1, e2]; exact (congrArg some (if_neg h0)).symm
end Lift
