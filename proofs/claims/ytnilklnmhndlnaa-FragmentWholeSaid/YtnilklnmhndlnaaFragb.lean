/- The bytes of packets: closed forms. No program in sight. -/
import Derived.Test.YtnilklnmhndlnaaFrag
set_option linter.unusedVariables false
set_option linter.unusedSimpArgs false
namespace Lift
open Go
def vnum (p : Packet_) : Bool := decide (0 ≤ p.Sequence ∧ p.Sequence < 4 ∧ 0 ≤ p.Tag ∧ p.Tag < 8 ∧ 1 ≤ p.Data.length ∧ p.Data.length ≤ 64)
def validB (p : Packet_) : Bool := endp p.To && (endp p.From && vnum p)
theorem Valid_eq (fuel : Nat) (p : Packet_) : fragment_Valid fuel p = some (validB p) := by
  unfold fragment_Valid validB vnum
  rw [endpoint_eq, bindP_some]
  cases endp p.To with
  | false => simp
  | true =>
    rw [iteP_true, endpoint_eq, bindP_some]
    cases endp p.From with
    | false => simp
    | true =>
      rw [iteP_true]
      have e5 : decide ((p.Data.length : Int) ≥ 1) = decide (1 ≤ p.Data.length) := decide_eq_decide.2 (by omega)
      have e6 : decide ((p.Data.length : Int) ≤ 64) = decide (p.Data.length ≤ 64) := decide_eq_decide.2 (by omega)
      rw [e5, e6]
      generalize p.Data.length = n
      by_cases h1 : 0 ≤ p.Sequence <;> by_cases h2 : p.Sequence < 4 <;> by_cases h3 : 0 ≤ p.Tag <;> by_cases h4 : p.Tag < 8 <;> by_cases h5 : 1 ≤ n <;> by_cases h6 : n ≤ 64 <;> simp [h1, h2, h3, h4, h5, h6]
theorem RValid_eq (fuel : Nat) (p : Packet_) : ref22_Valid fuel p = some (validB p) := by
  unfold ref22_Valid validB vnum
  rw [Endpoint_eq, bindP_some]
  cases endp p.To with
  | false => simp
  | true =>
    rw [iteP_true, Endpoint_eq, bindP_some]
    cases endp p.From with
    | false => simp
    | true =>
      rw [iteP_true]
      have e1 : (p.Sequence ≤ 3) = (p.Sequence < 4) := by apply propext; omega
      have e2 : (p.Tag ≤ 7) = (p.Tag < 8) := by apply propext; omega
      simp only [e1, e2]
      have e5 : decide ((p.Data.length : Int) ≥ 1) = decide (1 ≤ p.Data.length) := decide_eq_decide.2 (by omega)
      have e6 : decide ((p.Data.length : Int) ≤ 64) = decide (p.Data.length ≤ 64) := decide_eq_decide.2 (by omega)
      rw [e5, e6]
      generalize p.Data.length = n
      by_cases h1 : 0 ≤ p.Sequence <;> by_cases h2 : p.Sequence < 4 <;> by_cases h3 : 0 ≤ p.Tag <;> by_cases h4 : p.Tag < 8 <;> by_cases h5 : 1 ≤ n <;> by_cases h6 : n ≤ 64 <;> simp [h1, h2, h3, h4, h5, h6]
theorem validB_num {p : Packet_} (h : validB p = true) : 0 ≤ p.Sequence ∧ p.Sequence < 4 ∧ 0 ≤ p.Tag ∧ p.Tag < 8 ∧ 1 ≤ p.Data.length ∧ p.Data.length ≤ 64 := by
  simp only [validB, vnum, Bool.and_eq_true, decide_eq_true_eq] at h
  exact h.2.2
theorem endp_rg {n : Int} (h : endp n = true) : 8 ≤ n ∧ n ≤ 254 := by simpa [endp] using h
def fl1 (b : Bool) (m : Int) : Int := if b then m else 0
def flags (s e o : Bool) (q t : Int) : Int := fl1 s 128 + fl1 e 64 + 16 * q + fl1 o 8 + t
def orB (b : Bool) (x m : Int) : Int := if b then bOr .u8 x m else x
theorem flags_or : ∀ (q : Fin 4) (t : Fin 8) (s e o : Bool), orB o (orB e (orB s (IntKind.u8.wrap (IntKind.i64.wrap ((IntKind.i64.wrap (16 * ((q.val : Nat) : Int))) + ((t.val : Nat) : Int)))) 128) 64) 8 = flags s e o ((q.val : Nat) : Int) ((t.val : Nat) : Int) := by decide +kernel
theorem flags_dec : ∀ (q : Fin 4) (t : Fin 8) (s e o : Bool), let x := flags s e o ((q.val : Nat) : Int) ((t.val : Nat) : Int);
    0 ≤ x ∧ x ≤ 255 ∧ (x / 128 == 1) = s ∧ (x / 64 % 2 == 1) = e ∧ x / 16 % 4 = ((q.val : Nat) : Int) ∧ (x / 8 % 2 == 1) = o ∧ x % 8 = ((t.val : Nat) : Int) := by decide +kernel
theorem dec_and : ∀ (x : Fin 256), let v : Int := ((x.val : Nat) : Int);
    ((bAnd .u8 v 128) != 0) = (v / 128 == 1) ∧ ((bAnd .u8 v 64) != 0) = (v / 64 % 2 == 1) ∧ IntKind.i64.wrap (Int.tmod (IntKind.u8.wrap (Int.tdiv v 16)) 4) = v / 16 % 4 ∧ ((bAnd .u8 v 8) != 0) = (v / 8 % 2 == 1) ∧ IntKind.i64.wrap (Int.tmod v 8) = v % 8 := by decide +kernel
theorem dec_ref : ∀ (x : Fin 256), let v : Int := ((x.val : Nat) : Int);
    (IntKind.i64.wrap (Int.tdiv (IntKind.i64.wrap v) 128) == 1) = (v / 128 == 1) ∧ ((Int.tmod (IntKind.i64.wrap (Int.tdiv (IntKind.i64.wrap v) 64)) 2) == 1) = (v / 64 % 2 == 1) ∧ (Int.tmod (IntKind.i64.wrap (Int.tdiv (IntKind.i64.wrap v) 16)) 4) = v / 16 % 4 ∧ ((Int.tmod (IntKind.i64.wrap (Int.tdiv (IntKind.i64.wrap v) 8)) 2) == 1) = (v / 8 % 2 == 1) ∧ (Int.tmod (IntKind.i64.wrap v) 8) = v % 8 := by decide +kernel
theorem enc_dec : ∀ (x : Fin 256), let v : Int := ((x.val : Nat) : Int); flags (v / 128 == 1) (v / 64 % 2 == 1) (v / 8 % 2 == 1) (v / 16 % 4) (v % 8) = v ∧ 0 ≤ v / 16 % 4 ∧ v / 16 % 4 < 4 ∧ 0 ≤ v % 8 ∧ v % 8 < 8 := by decide +kernel
def encR (p : Packet_) : List Int × Int := if validB p = true then ([1, p.To, p.From, flags p.Start p.End p.Owner p.Sequence p.Tag] ++ p.Data, 0) else ([], 1)
theorem Encode_eq {fuel : Nat} (hf : 10 < fuel) (p : Packet_) : fragment_Encode fuel p = some (encR p) := by
  unfold fragment_Encode encR
  rw [Valid_eq, bindP_some]
  cases hv : validB p with
  | false => simp
  | true =>
    obtain ⟨h1, h2, h3, h4, h5, h6⟩ := validB_num hv
    simp only [Bool.not_true, iteP_false, letP_eq, if_true]
    obtain ⟨q, hq⟩ : ∃ q : Fin 4, p.Sequence = ((q.val : Nat) : Int) := ⟨⟨p.Sequence.toNat, by omega⟩, by simp; omega⟩
    obtain ⟨t, ht⟩ : ∃ t : Fin 8, p.Tag = ((t.val : Nat) : Int) := ⟨⟨p.Tag.toNat, by omega⟩, by simp; omega⟩
    have hfl := flags_or q t p.Start p.End p.Owner
    rw [← hq, ← ht] at hfl
    obtain ⟨f, rfl⟩ : ∃ f, fuel = f + 1 + 1 + 1 + 1 := ⟨fuel - 4, by omega⟩
    have w0 : IntKind.i64.wrap (0 + 1) = 1 := by decide
    have w1 : IntKind.i64.wrap (1 + 1) = 2 := by decide
    have w2 : IntKind.i64.wrap (2 + 1) = 3 := by decide
    have i0 : ∀ (a b c : Anon_af38c4), idx [a, b, c] 0 = some a := fun _ _ _ => rfl
    have i1 : ∀ (a b c : Anon_af38c4), idx [a, b, c] 1 = some b := fun _ _ _ => rfl
    have i2 : ∀ (a b c : Anon_af38c4), idx [a, b, c] 2 = some c := fun _ _ _ => rfl
    have d0 : decide ((0 : Int) < (([(⟨p.Start, 128⟩ : Anon_af38c4), (⟨p.End, 64⟩ : Anon_af38c4), (⟨p.Owner, 8⟩ : Anon_af38c4)]).length : Int)) = true := by simp
    have d1 : decide ((1 : Int) < (([(⟨p.Start, 128⟩ : Anon_af38c4), (⟨p.End, 64⟩ : Anon_af38c4), (⟨p.Owner, 8⟩ : Anon_af38c4)]).length : Int)) = true := by simp
    have d2 : decide ((2 : Int) < (([(⟨p.Start, 128⟩ : Anon_af38c4), (⟨p.End, 64⟩ : Anon_af38c4), (⟨p.Owner, 8⟩ : Anon_af38c4)]).length : Int)) = true := by simp
    have d3 : decide ((3 : Int) < (([(⟨p.Start, 128⟩ : Anon_af38c4), (⟨p.End, 64⟩ : Anon_af38c4), (⟨p.Owner, 8⟩ : Anon_af38c4)]).length : Int)) = false := by simp
    have key : ∀ (b : Bool) (x m : Int) (k : Int → Option (List Int × Int)), iteP b (k (bOr .u8 x m)) (k x) = k (orB b x m) := by intro b x m k; cases b <;> rfl
    simp only [loopP, d0, d1, d2, d3, iteP_true, iteP_false, i0, i1, i2, bindP_some, w0, w1, w2]
    have fin : ∀ y : Int, (bindP (app 1 [1, p.To, p.From, y] p.Data) fun x3 => some ((x3, 0) : List Int × Int)) = some ([1, p.To, p.From, y] ++ p.Data, 0) := fun y => by rw [app_ok (by simp; omega), bindP_some]
    simp only [fin]
    rw [← hfl]
    cases p.Start <;> cases p.End <;> cases p.Owner <;> rfl
theorem REncode_eq {fuel : Nat} (p : Packet_) : ref22_Encode fuel p = some (encR p) := by
  unfold ref22_Encode encR
  rw [RValid_eq, bindP_some]
  cases hv : validB p with
  | false => simp
  | true =>
    obtain ⟨h1, h2, h3, h4, h5, h6⟩ := validB_num hv
    simp only [Bool.not_true, iteP_false, letP_eq, if_true, joinP]
    have fin : ∀ y : Int, 0 ≤ y → y ≤ 255 → (bindP (app 1 [1, p.To, p.From, IntKind.u8.wrap y] p.Data) fun x3 => some ((x3, 0) : List Int × Int)) = some ([1, p.To, p.From, y] ++ p.Data, 0) := fun y hy1 hy2 => by
      rw [app_ok (by simp; omega), bindP_some, w_u8, Int.emod_eq_of_lt hy1 (by omega)]
    have a1 : IntKind.i64.wrap (16 * p.Sequence) = 16 * p.Sequence := wr (by omega)
    have a2 : IntKind.i64.wrap (16 * p.Sequence + p.Tag) = 16 * p.Sequence + p.Tag := wr (by omega)
    have a3 : IntKind.i64.wrap (16 * p.Sequence + p.Tag + 128) = 16 * p.Sequence + p.Tag + 128 := wr (by omega)
    have a4 : IntKind.i64.wrap (16 * p.Sequence + p.Tag + 64) = 16 * p.Sequence + p.Tag + 64 := wr (by omega)
    have a5 : IntKind.i64.wrap (16 * p.Sequence + p.Tag + 128 + 64) = 16 * p.Sequence + p.Tag + 128 + 64 := wr (by omega)
    have a6 : IntKind.i64.wrap (16 * p.Sequence + p.Tag + 8) = 16 * p.Sequence + p.Tag + 8 := wr (by omega)
    have a7 : IntKind.i64.wrap (16 * p.Sequence + p.Tag + 128 + 8) = 16 * p.Sequence + p.Tag + 128 + 8 := wr (by omega)
    have a8 : IntKind.i64.wrap (16 * p.Sequence + p.Tag + 64 + 8) = 16 * p.Sequence + p.Tag + 64 + 8 := wr (by omega)
    have a9 : IntKind.i64.wrap (16 * p.Sequence + p.Tag + 128 + 64 + 8) = 16 * p.Sequence + p.Tag + 128 + 64 + 8 := wr (by omega)
    unfold flags
    cases p.Start <;> cases p.End <;> cases p.Owner <;> simp only [iteP_true, iteP_false, fl1, if_true, Bool.false_eq_true, if_false, a1, a2, a3, a4, a5, a6, a7, a8, a9] <;> rw [fin _ (by omega) (by omega)] <;> exact congrArg (fun z : Int => some (([1, p.To, p.From, z] ++ p.Data, (0 : Int)))) (by omega)
def decR (b : List Int) : Packet_ × Int := match b with
  | x0 :: x1 :: x2 :: x3 :: y :: r => if x0 ≠ 1 then (Packet_.z, 6) else if endp x1 = false ∨ endp x2 = false then (Packet_.z, 13) else if 64 < (y :: r).length then (Packet_.z, 3) else
      (⟨x1, x2, x3 / 128 == 1, x3 / 64 % 2 == 1, x3 / 16 % 4, x3 / 8 % 2 == 1, x3 % 8, y :: r⟩, 0)
  | _ => (Packet_.z, 4)
theorem Decode_eq {fuel : Nat} (hf : 600 < fuel) {b : List Int} (hl : b.length ≤ 500) (hb : ∀ x ∈ b, byte x) : fragment_Decode fuel b = some (decR b) := by
  unfold fragment_Decode
  rw [letP_eq]
  match b, hl, hb with
  | [], _, _ => rfl
  | [_], _, _ => rfl
  | [_, _], _, _ => rfl
  | [_, _, _], _, _ => rfl
  | [_, _, _, _], _, _ => rfl
  | x0 :: x1 :: x2 :: x3 :: y :: r, hl, hb =>
    have e0 : idx (x0 :: x1 :: x2 :: x3 :: y :: r) 0 = some x0 := rfl
    have e1 : idx (x0 :: x1 :: x2 :: x3 :: y :: r) 1 = some x1 := rfl
    have e2 : idx (x0 :: x1 :: x2 :: x3 :: y :: r) 2 = some x2 := rfl
    have e3 : idx (x0 :: x1 :: x2 :: x3 :: y :: r) 3 = some x3 := rfl
    have e4 : sub (x0 :: x1 :: x2 :: x3 :: y :: r) 4 (((x0 :: x1 :: x2 :: x3 :: y :: r).length : Nat) : Int) = some (y :: r) := sub_drop (by omega) (by simp; omega)
    rw [show decide (((x0 :: x1 :: x2 :: x3 :: y :: r).length : Int) ≤ 4) = false by simp; omega, iteP_false, e0, bindP_some, letP_eq]
    simp only [decR]
    by_cases h0 : x0 = 1
    · rw [show (x0 != 1) = false by simp [h0], iteP_false, if_neg (by simp [h0]), e1, bindP_some, endpoint_eq, bindP_some, joinP]
      cases p1 : endp x1 with
      | false => simp
      | true =>
        simp only [Bool.not_true, iteP_false]
        rw [e2, bindP_some, endpoint_eq, bindP_some, letP_eq]
        cases p2 : endp x2 with
        | false => simp
        | true =>
          simp only [Bool.not_true, iteP_false, Bool.true_eq_false, or_self, if_false]
          rw [wr (by simp at hl ⊢; omega), letP_eq]
          by_cases h6 : 64 < (y :: r).length
          · rw [show decide (((x0 :: x1 :: x2 :: x3 :: y :: r).length : Int) - 4 > 64) = true by simp at h6 ⊢; omega, iteP_true, if_pos h6]
          · rw [show decide (((x0 :: x1 :: x2 :: x3 :: y :: r).length : Int) - 4 > 64) = false by simp at h6 ⊢; omega, iteP_false, if_neg h6, e3, bindP_some, bindP_some, bindP_some, e4, bindP_some, clone_eq (by simp at hl ⊢; omega), bindP_some]
            have hx3 := hb x3 (by simp)
            obtain ⟨v, hv⟩ : ∃ v : Fin 256, x3 = ((v.val : Nat) : Int) := ⟨⟨x3.toNat, by have := hx3.1; have := hx3.2; omega⟩, by have := hx3.1; simp; omega⟩
            obtain ⟨q1, q2, q3, q4, q5⟩ := dec_and v
            rw [hv]
            simp only [q1, q2, q3, q4, q5]
    · rw [show (x0 != 1) = true by simpa using h0, iteP_true, if_pos h0]
theorem RDecode_eq {fuel : Nat} (hf : 600 < fuel) {b : List Int} (hl : b.length ≤ 500) (hb : ∀ x ∈ b, byte x) : ref22_Decode fuel b = some (decR b) := by
  unfold ref22_Decode
  match b, hl, hb with
  | [], _, _ => rfl
  | [_], _, _ => rfl
  | [_, _], _, _ => rfl
  | [_, _, _], _, _ => rfl
  | [_, _, _, _], _, _ => rfl
  | x0 :: x1 :: x2 :: x3 :: y :: r, hl, hb =>
    have e0 : idx (x0 :: x1 :: x2 :: x3 :: y :: r) 0 = some x0 := rfl
    have e1 : idx (x0 :: x1 :: x2 :: x3 :: y :: r) 1 = some x1 := rfl
    have e2 : idx (x0 :: x1 :: x2 :: x3 :: y :: r) 2 = some x2 := rfl
    have e3 : idx (x0 :: x1 :: x2 :: x3 :: y :: r) 3 = some x3 := rfl
    have e4 : sub (x0 :: x1 :: x2 :: x3 :: y :: r) 4 (((x0 :: x1 :: x2 :: x3 :: y :: r).length : Nat) : Int) = some (y :: r) := sub_drop (by omega) (by simp; omega)
    rw [show decide (((x0 :: x1 :: x2 :: x3 :: y :: r).length : Int) < 5) = false by simp; omega, iteP_false, e0, bindP_some]
    simp only [decR]
    by_cases h0 : x0 = 1
    · rw [show (x0 != 1) = false by simp [h0], iteP_false, if_neg (by simp [h0]), e1, bindP_some, Endpoint_eq, bindP_some, joinP]
      cases p1 : endp x1 with
      | false => simp
      | true =>
        simp only [Bool.not_true, iteP_false]
        rw [e2, bindP_some, Endpoint_eq, bindP_some]
        cases p2 : endp x2 with
        | false => simp
        | true =>
          simp only [Bool.not_true, iteP_false, Bool.true_eq_false, or_self, if_false]
          rw [wr (by simp at hl ⊢; omega)]
          by_cases h6 : 64 < (y :: r).length
          · rw [show decide (((x0 :: x1 :: x2 :: x3 :: y :: r).length : Int) - 4 > 64) = true by simp at h6 ⊢; omega, iteP_true, if_pos h6]
          · rw [show decide (((x0 :: x1 :: x2 :: x3 :: y :: r).length : Int) - 4 > 64) = false by simp at h6 ⊢; omega, iteP_false, if_neg h6, e3, bindP_some, bindP_some, bindP_some, e4, bindP_some, Copy_eq (by simp at hl ⊢; omega) (by simp at hl ⊢; omega), bindP_some]
            have hx3 := hb x3 (by simp)
            obtain ⟨v, hv⟩ : ∃ v : Fin 256, x3 = ((v.val : Nat) : Int) := ⟨⟨x3.toNat, by have := hx3.1; have := hx3.2; omega⟩, by have := hx3.1; simp; omega⟩
            obtain ⟨q1, q2, q3, q4, q5⟩ := dec_ref v
            rw [hv]
            simp only [q1, q2, q3, q4, q5]
    · rw [show (x0 != 1) = true by simpa using h0, iteP_true, if_pos h0]
/-- A packet survives its bytes. -/
theorem dec_enc {p : Packet_} (h : validB p = true) : decR (encR p).1 = (p, 0) := by
  obtain ⟨h1, h2, h3, h4, h5, h6⟩ := validB_num h
  have hv := h
  simp only [validB, Bool.and_eq_true] at hv
  obtain ⟨v1, v2, _⟩ := hv
  simp only [encR, h, if_true]
  obtain ⟨q, hq⟩ : ∃ q : Fin 4, p.Sequence = ((q.val : Nat) : Int) := ⟨⟨p.Sequence.toNat, by omega⟩, by simp; omega⟩
  obtain ⟨t, ht⟩ : ∃ t : Fin 8, p.Tag = ((t.val : Nat) : Int) := ⟨⟨p.Tag.toNat, by omega⟩, by simp; omega⟩
  obtain ⟨_, _, d1, d2, d3, d4, d5⟩ := flags_dec q t p.Start p.End p.Owner
  rw [← hq, ← ht] at d1 d2 d3 d4 d5
  rcases p with ⟨a1, a2, a3, a4, a5, a6, a7, a8⟩
  simp only at *
  cases a8 with
  | nil => simp at h5
  | cons y r => simp only [List.cons_append, List.nil_append, decR, v1, v2, d1, d2, d3, d4, d5]; simp at h6 ⊢; omega
theorem enc_of_dec {b : List Int} (hb : ∀ x ∈ b, byte x) (h : (decR b).2 = 0) : encR (decR b).1 = (b, 0) := by
  match b, hb, h with
  | [], _, h => simp [decR] at h
  | [_], _, h => simp [decR] at h
  | [_, _], _, h => simp [decR] at h
  | [_, _, _], _, h => simp [decR] at h
  | [_, _, _, _], _, h => simp [decR] at h
  | x0 :: x1 :: x2 :: x3 :: y :: r, hb, h =>
    simp only [decR] at h ⊢
    by_cases h0 : x0 ≠ 1
    · rw [if_pos h0] at h; simp [decR] at h
    rw [if_neg h0] at h ⊢
    by_cases h1 : endp x1 = false ∨ endp x2 = false
    · rw [if_pos h1] at h; simp [decR] at h
    rw [if_neg h1] at h ⊢
    by_cases h6 : 64 < (y :: r).length
    · rw [if_pos h6] at h; simp [decR] at h
    rw [if_neg h6] at h ⊢
    have hx3 := hb x3 (by simp)
    obtain ⟨v, hv⟩ : ∃ v : Fin 256, x3 = ((v.val : Nat) : Int) := ⟨⟨x3.toNat, by have := hx3.1; have := hx3.2; omega⟩, by have := hx3.1; simp; omega⟩
    obtain ⟨q1, q2, q3, q4, q5⟩ := enc_dec v
    rw [← hv] at q1 q2 q3 q4 q5
    have p1 : endp x1 = true := by cases h : endp x1; exact absurd (.inl h) h1; rfl
    have p2 : endp x2 = true := by cases h : endp x2; exact absurd (.inr h) h1; rfl
    have hval : validB ⟨x1, x2, x3 / 128 == 1, x3 / 64 % 2 == 1, x3 / 16 % 4, x3 / 8 % 2 == 1, x3 % 8, y :: r⟩ = true := by
      simp only [validB, vnum, p1, p2, Bool.true_and, decide_eq_true_eq]
      exact ⟨q2, q3, q4, q5, by simp, by omega⟩
    simp only [encR, hval, if_true, q1, List.cons_append, List.nil_append, Prod.mk.injEq, and_true, List.cons.injEq, true_and]
    omega
theorem decR_small {b : List Int} (h : b.length ≤ 500) : (decR b).1.Data.length ≤ 500 := by
  match b, h with
  | [], _ => simp [decR, Packet_.z]
  | [_], _ => simp [decR, Packet_.z]
  | [_, _], _ => simp [decR, Packet_.z]
  | [_, _, _], _ => simp [decR, Packet_.z]
  | [_, _, _, _], _ => simp [decR, Packet_.z]
  | x0 :: x1 :: x2 :: x3 :: y :: r, h =>
    simp only [decR]
    split
    · simp [Packet_.z]
    split
    · simp [Packet_.z]
    split
    · simp [Packet_.z]
    simp at h ⊢; omega
theorem encR_len {p : Packet_} (h : p.Data.length ≤ 400) : (encR p).1.length ≤ 500 := by
  unfold encR; split <;> simp; omega
theorem encR_byte {p : Packet_} (h : validB p = true) (hd : ∀ x ∈ p.Data, byte x) : ∀ x ∈ (encR p).1, byte x := by
  obtain ⟨h1, h2, h3, h4, h5, h6⟩ := validB_num h
  have hv := h
  simp only [validB, Bool.and_eq_true] at hv
  obtain ⟨v1, v2, _⟩ := hv
  have r1 := endp_rg v1
  have r2 := endp_rg v2
  obtain ⟨q, hq⟩ : ∃ q : Fin 4, p.Sequence = ((q.val : Nat) : Int) := ⟨⟨p.Sequence.toNat, by omega⟩, by simp; omega⟩
  obtain ⟨t, ht⟩ : ∃ t : Fin 8, p.Tag = ((t.val : Nat) : Int) := ⟨⟨p.Tag.toNat, by omega⟩, by simp; omega⟩
  obtain ⟨f1, f2, _⟩ := flags_dec q t p.Start p.End p.Owner
  rw [← hq, ← ht] at f1 f2
  simp only [encR, h, if_true]
  intro x hx
  simp only [List.cons_append, List.nil_append, List.mem_cons] at hx
  rcases hx with rfl | rfl | rfl | rfl | hx
  · exact ⟨by decide, by decide⟩
  · exact ⟨by omega, by omega⟩
  · exact ⟨by omega, by omega⟩
  · exact ⟨f1, f2⟩
  · exact hd x hx
/-- The packets that the dice give. -/
theorem Packet_ok {fuel : Nat} (hf : 5000 < fuel) {d : made_Dice} (h : DOk d) : ∃ p d', made_Dice_Packet fuel d = some (p, d') ∧ p.Data.length ≤ 100 ∧ (∀ x ∈ p.Data, byte x) ∧ DOk d' := by
  unfold made_Dice_Packet
  obtain ⟨r1, d1, e1, _, _, h1⟩ := Next_ok fuel h (m := 3) (by omega) (by omega)
  obtain ⟨b2, d2, e2, h2⟩ := Bool_ok fuel h1 (m := 2) (by omega) (by omega)
  obtain ⟨b3, d3, e3, h3⟩ := Bool_ok fuel h2 (m := 3) (by omega) (by omega)
  obtain ⟨r4, d4, e4, _, _, h4⟩ := Next_ok fuel h3 (m := 4) (by omega) (by omega)
  obtain ⟨b5, d5, e5, h5⟩ := Bool_ok fuel h4 (m := 2) (by omega) (by omega)
  obtain ⟨r6, d6, e6, _, _, h6⟩ := Next_ok fuel h5 (m := 3) (by omega) (by omega)
  obtain ⟨l7, d7, e7, hl7, hb7, h7⟩ := Bytes_ok hf h6 (n := 3) (by omega) (by omega)
  obtain ⟨r8, d8, e8, _, _, h8⟩ := Next_ok fuel h7 (m := 30) (by omega) (by omega)
  have hall : ∀ x ∈ l7 ++ [7], byte x := fun x hx => (List.mem_append.1 hx).elim (hb7 x) (fun h => by simp at h; subst h; exact ⟨by decide, by decide⟩)
  have hlen : (l7 ++ [7]).length ≤ 100 := by simp; omega
  simp only [e1, e2, e3, e4, e5, e6, e7, e8, bindP_some, letP_eq]
  rw [app_ok (by simp; omega), bindP_some]
  by_cases c0 : r8 = 0
  · rw [show (r8 == 0) = true by simp [c0], iteP_true]; exact ⟨_, _, rfl, by simp, by simp, h8⟩
  rw [show (r8 == 0) = false by simpa using c0, iteP_false]
  by_cases c1 : r8 = 1
  · obtain ⟨b9, d9, e9, _, h9⟩ := Byte_ok fuel h8
    rw [show (r8 == 1) = true by simp [c1], iteP_true, e9, bindP_some]; exact ⟨_, _, rfl, hlen, hall, h9⟩
  rw [show (r8 == 1) = false by simpa using c1, iteP_false]
  by_cases c2 : r8 = 2
  · rw [show (r8 == 2) = true by simp [c2], iteP_true]; exact ⟨_, _, rfl, hlen, hall, h8⟩
  rw [show (r8 == 2) = false by simpa using c2, iteP_false]
  by_cases c3 : r8 = 3
  · obtain ⟨r9, d9, e9, q1, q2, h9⟩ := Next_ok fuel h8 (m := 2) (by omega) (by omega)
    rw [show (r8 == 3) = true by simp [c3], iteP_true, e9, bindP_some, wr (by omega)]
    have hmk : mk 1 (0 : Int) (64 + r9) = some (List.replicate (64 + r9).toNat 0) := by simp [mk]; omega
    rw [hmk, bindP_some]
    refine ⟨_, _, rfl, by simp; omega, fun x hx => ?_, h9⟩
    have := List.eq_of_mem_replicate hx
    subst this; exact ⟨by decide, by decide⟩
  · rw [show (r8 == 3) = false by simpa using c3, iteP_false]; exact ⟨_, _, rfl, hlen, hall, h8⟩
end Lift
