/- Frames: closed forms of encoding and decoding. No program in sight. -/
import Derived.Test.YtedddoifbhcinaaSealc
set_option linter.unusedVariables false
set_option linter.unusedSimpArgs false
namespace Lift
open Go

def addr (a : Int) : Bool := decide (8 ≤ a) && decide (a ≤ 119)
def valid (f : Frame_) : Bool := addr f.To && (addr f.From && decide (f.Data.length ≤ 72))
theorem address_eq (fuel : Nat) (a : Int) : frame_address fuel a = some (addr a) := by
  unfold frame_address addr
  by_cases h : 8 ≤ a <;> simp [h]
theorem Valid_eq (fuel : Nat) (f : Frame_) : frame_Valid fuel f = some (valid f) := by
  unfold frame_Valid valid
  rw [address_eq, address_eq]
  cases addr f.To <;> cases addr f.From <;> simp
  omega
def head (f : Frame_) : List Int := [2 * f.To, 15, f.Data.length + 1, 2 * f.From + 1]
def body (f : Frame_) : List Int := head f ++ f.Data
def encode (f : Frame_) : List Int × Int := if valid f then (body f ++ [crc8 (body f)], 0) else ([], 1)
theorem valid_iff {f : Frame_} : valid f = true ↔ (8 ≤ f.To ∧ f.To ≤ 119) ∧ (8 ≤ f.From ∧ f.From ≤ 119) ∧ f.Data.length ≤ 72 := by
  simp [valid, addr]
theorem body_small {f : Frame_} (h : valid f = true) (hd : ∀ x ∈ f.Data, byte x) : Small (body f) := by
  obtain ⟨⟨h1, h2⟩, ⟨h3, h4⟩, h5⟩ := valid_iff.1 h
  refine ⟨by simp [body, head]; omega, fun x hx => ?_⟩
  simp only [body, head, List.cons_append, List.nil_append, List.mem_cons] at hx
  rcases hx with rfl | rfl | rfl | rfl | hx
  · constructor <;> omega
  · constructor <;> omega
  · constructor <;> omega
  · constructor <;> omega
  · exact hd x hx
theorem Encode_eq {fuel : Nat} {f : Frame_} (hd : ∀ x ∈ f.Data, byte x) (hf : 5000 < fuel) : frame_Encode fuel f = some (encode f) := by
  unfold frame_Encode encode
  rw [Valid_eq, bindP_some]
  cases h : valid f with
  | false => rfl
  | true =>
    obtain ⟨⟨h1, h2⟩, ⟨h3, h4⟩, h5⟩ := valid_iff.1 h
    have e1 : IntKind.u8.wrap (2 * f.To) = 2 * f.To := by rw [w_u8]; omega
    have e2 : IntKind.u8.wrap (IntKind.i64.wrap ((f.Data.length : Int) + 1)) = (f.Data.length : Int) + 1 := by rw [w_i64 (by omega) (by omega), w_u8]; omega
    have e3 : IntKind.u8.wrap (IntKind.u8.wrap (2 * f.From) + 1) = 2 * f.From + 1 := by rw [w_u8, w_u8]; omega
    rw [e1, e2, e3]
    simp only [Bool.not_true, iteP_false, if_true]
    rw [app_ok (by simp; omega), bindP_some]
    show bindP (checksum_SealCRC8 fuel (body f)) _ = _
    rw [SealCRC8_eq (body_small h hd) hf]; rfl
def decode (l : List Int) : Frame_ × Int :=
  if l.length < 5 then (Frame_.z, 4) else if crc8 (l.take (l.length - 1)) ≠ last l then (Frame_.z, 5) else
    match l.take (l.length - 1) with
    | b0 :: b1 :: b2 :: b3 :: D =>
      if b0 % 2 = 0 ∧ b1 = 15 ∧ b2 = (l.length : Int) - 4 ∧ b3 % 2 = 1 then
        (if addr (b0 / 2) && addr (b3 / 2) then (if D.length ≤ 72 then (⟨b0 / 2, b3 / 2, D⟩, 0) else (Frame_.z, 3)) else (Frame_.z, 13))
      else (Frame_.z, 6)
    | _ => (Frame_.z, 4)
theorem take_four {l : List Int} (h : ¬ l.length < 5) : ∃ b0 b1 b2 b3 D, l.take (l.length - 1) = b0 :: b1 :: b2 :: b3 :: D ∧ D.length = l.length - 5 := by
  have hlen : (l.take (l.length - 1)).length = l.length - 1 := by simp
  match hm : l.take (l.length - 1), hlen with
  | b0 :: b1 :: b2 :: b3 :: D, hl => exact ⟨b0, b1, b2, b3, D, rfl, by simp at hl; omega⟩
  | [], hl => simp at hl; omega
  | [_], hl => simp at hl; omega
  | [_, _], hl => simp at hl; omega
  | [_, _, _], hl => simp at hl; omega
theorem half {b : Int} (h : byte b) : IntKind.u8.wrap (Int.tdiv b 2) = b / 2 ∧ Int.tmod b 2 = b % 2 := by
  obtain ⟨h1, h2⟩ := h
  rw [Int.tdiv_eq_ediv_of_nonneg h1, Int.tmod_eq_emod_of_nonneg h1, w_u8]
  omega
theorem Decode_eq {fuel : Nat} {l : List Int} (h : Small l) (hf : 5000 < fuel) : frame_Decode fuel l = some (decode l) := by
  have hl := h.1
  unfold frame_Decode decode
  by_cases h0 : l.length < 5
  · have ed : decide ((l.length : Int) < 5) = true := by simp; omega
    rw [ed, if_pos h0]; rfl
  · have ed : decide ((l.length : Int) < 5) = false := by simp; omega
    have hne : l ≠ [] := by intro e; subst e; simp at h0
    rw [ed, iteP_false, if_neg h0, OpenCRC8_eq h hf, bindP_some]
    by_cases hs : crc8 (l.take (l.length - 1)) = last l
    · have eo : openC l = (l.take (l.length - 1), 0) := by simp [openC, hne, hs]
      obtain ⟨b0, b1, b2, b3, D, hb, hD⟩ := take_four h0
      have hby := (h.take (l.length - 1)).2
      rw [hb] at hs hby eo ⊢
      rw [eo]
      have c0 := half (hby b0 (by simp))
      have c3 := half (hby b3 (by simp))
      obtain ⟨d1, d2⟩ := hby b2 (by simp)
      have i0 : idx (b0 :: b1 :: b2 :: b3 :: D) 0 = some b0 := rfl
      have i1 : idx (b0 :: b1 :: b2 :: b3 :: D) 1 = some b1 := rfl
      have i2 : idx (b0 :: b1 :: b2 :: b3 :: D) 2 = some b2 := rfl
      have i3 : idx (b0 :: b1 :: b2 :: b3 :: D) 3 = some b3 := rfl
      have sd : sub (b0 :: b1 :: b2 :: b3 :: D) 4 (b0 :: b1 :: b2 :: b3 :: D).length = some D := by
        have := sub_drop (l := b0 :: b1 :: b2 :: b3 :: D) (b := 4) (by omega) (by simp; omega)
        simpa using this
      have hn : ¬ crc8 (b0 :: b1 :: b2 :: b3 :: D) ≠ last l := by simpa using hs
      have w2 : IntKind.i64.wrap b2 = b2 := w_i64 (by omega) (by omega)
      have wl4 : IntKind.i64.wrap ((l.length : Int) - 4) = (l.length : Int) - 4 := w_i64 (by omega) (by omega)
      rw [if_neg hn]
      simp only [bne_self_eq_false, iteP_false, i0, i1, i2, i3, sd, bindP_some, c0.1, c0.2, c3.1, c3.2, w2, wl4, joinP_eq, letP_eq]
      rw [clone_eq (by omega), bindP_some]
      simp only [iteP_eq, address_eq, bindP_some]
      by_cases t0 : b0 % 2 = 0
      · by_cases t1 : b1 = 15
        · by_cases t2 : b2 = (l.length : Int) - 4
          · by_cases t3 : b3 % 2 = 1
            · have t3' : ¬ b3 % 2 = 0 := by omega
              cases a1 : addr (b0 / 2) <;> cases a2 : addr (b3 / 2) <;> by_cases t4 : D.length ≤ 72 <;> simp [t0, t1, t2, t3, a1, a2, t4] <;> omega
            · have t3' : b3 % 2 = 0 := by omega
              simp [t0, t1, t2, t3']
          · simp [t0, t1, t2]
        · simp [t0, t1]
      · simp [t0]
    · have eo : openC l = ([], 5) := by simp [openC, hne, hs]
      rw [eo, if_pos hs]; rfl
/-- What decodes encodes to the same bytes. -/
theorem last_take {l : List Int} (h : l ≠ []) : l = l.take (l.length - 1) ++ [last l] := by
  have hl : 0 < l.length := by cases l with | nil => exact absurd rfl h | cons _ _ => simp
  have e : last l = l[l.length - 1]'(by omega) := by
    rw [last, List.getLastD_eq_getLast?, List.getLast?_eq_getElem?, List.getElem?_eq_getElem (by omega)]; rfl
  rw [e]
  conv => lhs; rw [← List.take_length (l := l)]
  have : l.length = (l.length - 1) + 1 := by omega
  conv => lhs; rw [this]
  rw [List.take_add_one, List.getElem?_eq_getElem (by omega)]; rfl
theorem decode_encode {l : List Int} {f : Frame_} (h : Small l) (hd : decode l = (f, 0)) : valid f = true ∧ encode f = (l, 0) ∧ ∀ x ∈ f.Data, byte x := by
  unfold decode at hd
  split at hd
  · simp at hd
  · rename_i h0
    split at hd
    · simp at hd
    · rename_i hs
      obtain ⟨b0, b1, b2, b3, D, hb, hD⟩ := take_four h0
      have hby := (h.take (l.length - 1)).2
      have hne : l ≠ [] := by intro e; subst e; simp at h0
      have hsp := last_take hne
      rw [hb] at hd hby hs hsp
      simp only at hd
      split at hd
      · rename_i hc
        obtain ⟨t0, t1, t2, t3⟩ := hc
        split at hd
        · rename_i ha
          split at hd
          · rename_i hl72
            simp only [Prod.mk.injEq, and_true] at hd
            subst hd
            simp only [Bool.and_eq_true, addr, decide_eq_true_eq] at ha
            have hv : valid ⟨b0 / 2, b3 / 2, D⟩ = true := valid_iff.2 ⟨by simpa using ha.1, by simpa using ha.2, hl72⟩
            have hbody : body ⟨b0 / 2, b3 / 2, D⟩ = b0 :: b1 :: b2 :: b3 :: D := by
              simp only [body, head, List.cons_append, List.nil_append, List.cons.injEq, and_true]
              refine ⟨by omega, t1.symm, by omega, by omega⟩
            refine ⟨hv, ?_, fun x hx => hby x (by simp [hx])⟩
            unfold encode
            rw [hv, hbody]
            simp only [if_true]
            have hs' : crc8 (b0 :: b1 :: b2 :: b3 :: D) = last l := by simpa using hs
            rw [hs', ← hsp]
          · simp at hd
        · simp at hd
      · simp at hd
theorem decode_bytes {l : List Int} (h : Small l) : ∀ x ∈ (decode l).1.Data, byte x := by
  by_cases h0 : (decode l).2 = 0
  · exact (decode_encode (f := (decode l).1) h (by rw [← h0])).2.2
  · intro x hx
    exfalso
    revert hx h0
    unfold decode
    split
    · simp [Frame_.z]
    · split
      · simp [Frame_.z]
      · split
        · split
          · split
            · split <;> simp [Frame_.z]
            · simp [Frame_.z]
          · simp [Frame_.z]
        · simp [Frame_.z]
end Lift
