/- Checksums and frames. No program in sight. Written by wire.py out of other texts. -/
import Derived.Test.YthjhbfpacbldgaaDicemessage
import Derived.Test.YthjhbfpacbldgaaEach
import Derived.Test.YthjhbfpacbldgaaMround
set_option linter.unusedVariables false
set_option linter.unusedSimpArgs false
namespace Lift
open Go
def f8 (v : Int) : Int := bXor .u8 (bShl .u8 v 1) (IntKind.u8.wrap ((bShr .u8 v 7) * 7))
def r8 (v : Int) : Int := if IntKind.i64.wrap (2 * v) ≥ 256 then bXor .i64 (IntKind.i64.wrap (IntKind.i64.wrap (2 * v) - 256)) 7 else IntKind.i64.wrap (2 * v)
theorem f8_fin : ∀ v : Fin 256, f8 (v.val : Int) = r8 (v.val : Int) ∧ 0 ≤ f8 (v.val : Int) ∧ f8 (v.val : Int) ≤ 255 := by decide +kernel
theorem f8_eq {v : Int} (h : byte v) : f8 v = r8 v ∧ byte (f8 v) := by
  obtain ⟨n, rfl⟩ : ∃ n : Nat, v = n := ⟨v.toNat, by have := h.1; omega⟩
  have := f8_fin ⟨n, by have := h.2; omega⟩
  exact ⟨this.1, this.2⟩
def crc8 (l : List Int) : Int := l.foldl (fun s x => it f8 8 (bXor .u8 s x)) 0
def crc8r (l : List Int) : Int := l.foldl (fun s x => it r8 8 (bXor .i64 s x)) 0
theorem crc8_step {s x : Int} (hs : byte s) (hx : byte x) : it f8 8 (bXor .u8 s x) = it r8 8 (bXor .i64 s x) ∧ byte (it f8 8 (bXor .u8 s x)) := by
  obtain ⟨e, hb⟩ := xor_byte hs hx
  rw [← e]; exact it_eq (fun _ => f8_eq) hb 8
theorem crc8_eq {l : List Int} (h : Small l) : crc8 l = crc8r l ∧ byte (crc8 l) :=
  fold_eq l (fun s x hs hx => crc8_step hs (h.2 x hx)) 0 ⟨by decide, by decide⟩

theorem checksum_CRC8_eq {fuel : Nat} {l : List Int} (h : Small l) (hf : 5000 < fuel) : checksum_CRC8 fuel l = some (crc8 l) := by
  have hl := h.1
  unfold checksum_CRC8
  refine fold_run (fun s x => it f8 8 (bXor .u8 s x)) byte ⟨by decide, by decide⟩ (fun s x hs hx => (crc8_step hs (h.2 x hx)).2) (by omega) (fun s i x hs hx k => ?_) (fun k => by simp [crc8])
  have hi := lt_len hx
  simp only [show ((i : Int) < (l.length : Int)) by omega, decide_true, iteP_true, idx_nat, hx, bindP_some]
  refine loop_run (fun j => (it f8 j (bXor .u8 s x), (j : Int))) 8 rfl (by omega) (fun j hj k2 => ?_) (fun k2 => ?_)
  · simp only [show ((j : Int) < 8) by omega, decide_true, iteP_true, letP_eq, wi j (by omega)]; rfl
  · simp only [show ¬ (((8 : Nat) : Int) < 8) by omega, decide_false, iteP_false, wi i (by omega)]
theorem SealCRC8_eq {fuel : Nat} {l : List Int} (h : Small l) (hf : 5000 < fuel) : checksum_SealCRC8 fuel l = some (l ++ [crc8 l]) := by
  have := h.1
  unfold checksum_SealCRC8
  rw [clone_eq (by omega), bindP_some, checksum_CRC8_eq h hf, bindP_some, app_ok (by simp; omega)]; rfl
def openC (l : List Int) : List Int × Int := if l = [] then ([], 4) else if crc8 (l.take (l.length - 1)) = last l then (l.take (l.length - 1), 0) else ([], 5)
theorem OpenCRC8_eq {fuel : Nat} {l : List Int} (h : Small l) (hf : 5000 < fuel) : checksum_OpenCRC8 fuel l = some (openC l) := by
  have hl := h.1
  unfold checksum_OpenCRC8 openC
  by_cases h0 : l = []
  · subst h0; rfl
  · have hp : 0 < l.length := by cases l with | nil => exact absurd rfl h0 | cons _ _ => simp
    have e1 : ((l.length : Int) - 1).toNat = l.length - 1 := by omega
    have ed : decide (((l.length : Int) - 1) < 0) = false := by simp; omega
    simp only [letP_eq, wl' (show l.length ≤ 100000 by omega) (show (0:Int) ≤ 1 by omega) (show (1:Int) ≤ 100000 by omega), ed, iteP_false, h0, if_false]
    rw [sub_take (by omega) (by omega), bindP_some, e1, checksum_CRC8_eq (h.take _) hf, bindP_some, idx_last h0, bindP_some]
    by_cases hs : crc8 (l.take (l.length - 1)) = last l
    · simp only [hs, bne_self_eq_false, iteP_false, if_true]
      rw [bindP_some, clone_eq (by simp; omega), bindP_some]
    · have e : (crc8 (l.take (l.length - 1)) != last l) = true := by simpa using hs
      simp only [e, iteP_true, hs, if_false]

theorem openC_seal (l : List Int) : openC (l ++ [crc8 l]) = (l, 0) := by simp [openC, last, List.getLastD_eq_getLast?]
def addr (a : Int) : Bool := decide (8 ≤ a) && decide (a ≤ 119)
def valid (f : Frame_) : Bool := addr f.To && (addr f.From && decide (f.Data.length ≤ 72))
theorem address_eq (fuel : Nat) (a : Int) : frame_address fuel a = some (addr a) := by
  unfold frame_address addr
  by_cases h : 8 ≤ a <;> simp [h]
theorem Valid_eq (fuel : Nat) (f : Frame_) : frame_Valid fuel f = some (valid f) := by
  unfold frame_Valid valid
  rw [address_eq, address_eq]
  cases addr f.To <;> cases addr f.From <;> simp
  omega
def head (f : Frame_) : List Int := [2 * f.To, 15, f.Data.length + 1, 2 * f.From + 1]
def body (f : Frame_) : List Int := head f ++ f.Data
def encode (f : Frame_) : List Int × Int := if valid f then (body f ++ [crc8 (body f)], 0) else ([], 1)
theorem valid_iff {f : Frame_} : valid f = true ↔ (8 ≤ f.To ∧ f.To ≤ 119) ∧ (8 ≤ f.From ∧ f.From ≤ 119) ∧ f.Data.length ≤ 72 := by
  simp [valid, addr]
theorem body_small {f : Frame_} (h : valid f = true) (hd : ∀ x ∈ f.Data, byte x) : Small (body f) := by
  obtain ⟨⟨h1, h2⟩, ⟨h3, h4⟩, h5⟩ := valid_iff.1 h
  refine ⟨by simp [body, head]; omega, fun x hx => ?_⟩
  simp only [body, head, List.cons_append, List.nil_append, List.mem_cons] at hx
  rcases hx with rfl | rfl | rfl | rfl | hx
  · constructor <;> omega
  · constructor <;> omega
  · constructor <;> omega
  · constructor <;> omega
  · exact hd x hx
theorem Encode_eq {fuel : Nat} {f : Frame_} (hd : ∀ x ∈ f.Data, byte x) (hf : 5000 < fuel) : frame_Encode fuel f = some (encode f) := by
  unfold frame_Encode encode
  rw [Valid_eq, bindP_some]
  cases h : valid f with
  | false => rfl
  | true =>
    obtain ⟨⟨h1, h2⟩, ⟨h3, h4⟩, h5⟩ := valid_iff.1 h
    have e1 : IntKind.u8.wrap (2 * f.To) = 2 * f.To := by rw [w_u8]; omega
    have e2 : IntKind.u8.wrap (IntKind.i64.wrap ((f.Data.length : Int) + 1)) = (f.Data.length : Int) + 1 := by rw [w_i64 (by omega) (by omega), w_u8]; omega
    have e3 : IntKind.u8.wrap (IntKind.u8.wrap (2 * f.From) + 1) = 2 * f.From + 1 := by rw [w_u8, w_u8]; omega
    rw [e1, e2, e3]
    simp only [Bool.not_true, iteP_false, if_true]
    rw [app_ok (by simp; omega), bindP_some]
    show bindP (checksum_SealCRC8 fuel (body f)) _ = _
    rw [SealCRC8_eq (body_small h hd) hf]; rfl
def decode (l : List Int) : Frame_ × Int :=
  if l.length < 5 then (Frame_.z, 4) else if crc8 (l.take (l.length - 1)) ≠ last l then (Frame_.z, 5) else
    match l.take (l.length - 1) with
    | b0 :: b1 :: b2 :: b3 :: D =>
      if b0 % 2 = 0 ∧ b1 = 15 ∧ b2 = (l.length : Int) - 4 ∧ b3 % 2 = 1 then
        (if addr (b0 / 2) && addr (b3 / 2) then (if D.length ≤ 72 then (⟨b0 / 2, b3 / 2, D⟩, 0) else (Frame_.z, 3)) else (Frame_.z, 13))
      else (Frame_.z, 6)
    | _ => (Frame_.z, 4)
theorem take_four {l : List Int} (h : ¬ l.length < 5) : ∃ b0 b1 b2 b3 D, l.take (l.length - 1) = b0 :: b1 :: b2 :: b3 :: D ∧ D.length = l.length - 5 := by
  have hlen : (l.take (l.length - 1)).length = l.length - 1 := by simp
  match hm : l.take (l.length - 1), hlen with
  | b0 :: b1 :: b2 :: b3 :: D, hl => exact ⟨b0, b1, b2, b3, D, rfl, by simp at hl; omega⟩
  | [], hl => simp at hl; omega
  | [_], hl => simp at hl; omega
  | [_, _], hl => simp at hl; omega
  | [_, _, _], hl => simp at hl; omega
theorem half {b : Int} (h : byte b) : IntKind.u8.wrap (Int.tdiv b 2) = b / 2 ∧ Int.tmod b 2 = b % 2 := by
  obtain ⟨h1, h2⟩ := h
  rw [Int.tdiv_eq_ediv_of_nonneg h1, Int.tmod_eq_emod_of_nonneg h1, w_u8]
  omega
theorem Decode_eq {fuel : Nat} {l : List Int} (h : Small l) (hf : 5000 < fuel) : frame_Decode fuel l = some (decode l) := by
  have hl := h.1
  unfold frame_Decode decode
  by_cases h0 : l.length < 5
  · have ed : decide ((l.length : Int) < 5) = true := by simp; omega
    rw [ed, if_pos h0]; rfl
  · have ed : decide ((l.length : Int) < 5) = false := by simp; omega
    have hne : l ≠ [] := by intro e; subst e; simp at h0
    rw [ed, iteP_false, if_neg h0, OpenCRC8_eq h hf, bindP_some]
    by_cases hs : crc8 (l.take (l.length - 1)) = last l
    · have eo : openC l = (l.take (l.length - 1), 0) := by simp [openC, hne, hs]
      obtain ⟨b0, b1, b2, b3, D, hb, hD⟩ := take_four h0
      have hby := (h.take (l.length - 1)).2
      rw [hb] at hs hby eo ⊢
      rw [eo]
      have c0 := half (hby b0 (by simp))
      have c3 := half (hby b3 (by simp))
      obtain ⟨d1, d2⟩ := hby b2 (by simp)
      have i0 : idx (b0 :: b1 :: b2 :: b3 :: D) 0 = some b0 := rfl
      have i1 : idx (b0 :: b1 :: b2 :: b3 :: D) 1 = some b1 := rfl
      have i2 : idx (b0 :: b1 :: b2 :: b3 :: D) 2 = some b2 := rfl
      have i3 : idx (b0 :: b1 :: b2 :: b3 :: D) 3 = some b3 := rfl
      have sd : sub (b0 :: b1 :: b2 :: b3 :: D) 4 (b0 :: b1 :: b2 :: b3 :: D).length = some D := by
        have := sub_drop (l := b0 :: b1 :: b2 :: b3 :: D) (b := 4) (by omega) (by simp; omega)
        simpa using this
      have hn : ¬ crc8 (b0 :: b1 :: b2 :: b3 :: D) ≠ last l := by simpa using hs
      have w2 : IntKind.i64.wrap b2 = b2 := w_i64 (by omega) (by omega)
      have wl4 : IntKind.i64.wrap ((l.length : Int) - 4) = (l.length : Int) - 4 := w_i64 (by omega) (by omega)
      rw [if_neg hn]
      simp only [bne_self_eq_false, iteP_false, i0, i1, i2, i3, sd, bindP_some, c0.1, c0.2, c3.1, c3.2, w2, wl4, joinP_eq, letP_eq]
      rw [clone_eq (by omega), bindP_some]
      simp only [iteP_eq, address_eq, bindP_some]
      by_cases t0 : b0 % 2 = 0
      · by_cases t1 : b1 = 15
        · by_cases t2 : b2 = (l.length : Int) - 4
          · by_cases t3 : b3 % 2 = 1
            · have t3' : ¬ b3 % 2 = 0 := by omega
              cases a1 : addr (b0 / 2) <;> cases a2 : addr (b3 / 2) <;> by_cases t4 : D.length ≤ 72 <;> simp [t0, t1, t2, t3, a1, a2, t4] <;> omega
            · have t3' : b3 % 2 = 0 := by omega
              simp [t0, t1, t2, t3']
          · simp [t0, t1, t2]
        · simp [t0, t1]
      · simp [t0]
    · have eo : openC l = ([], 5) := by simp [openC, hne, hs]
      rw [eo, if_pos hs]; rfl
/-- What decodes encodes to the same bytes. -/
theorem last_take {l : List Int} (h : l ≠ []) : l = l.take (l.length - 1) ++ [last l] := by
  have hl : 0 < l.length := by cases l with | nil => exact absurd rfl h | cons _ _ => simp
  have e : last l = l[l.length - 1]'(by omega) := by
    rw [last, List.getLastD_eq_getLast?, List.getLast?_eq_getElem?, List.getElem?_eq_getElem (by omega)]; rfl
  rw [e]
  conv => lhs; rw [← List.take_length (l := l)]
  have : l.length = (l.length - 1) + 1 := by omega
  conv => lhs; rw [this]
  rw [List.take_add_one, List.getElem?_eq_getElem (by omega)]; rfl
theorem decode_encode {l : List Int} {f : Frame_} (h : Small l) (hd : decode l = (f, 0)) : valid f = true ∧ encode f = (l, 0) ∧ ∀ x ∈ f.Data, byte x := by
  unfold decode at hd
  split at hd
  · simp at hd
  · rename_i h0
    split at hd
    · simp at hd
    · rename_i hs
      obtain ⟨b0, b1, b2, b3, D, hb, hD⟩ := take_four h0
      have hby := (h.take (l.length - 1)).2
      have hne : l ≠ [] := by intro e; subst e; simp at h0
      have hsp := last_take hne
      rw [hb] at hd hby hs hsp
      simp only at hd
      split at hd
      · rename_i hc
        obtain ⟨t0, t1, t2, t3⟩ := hc
        split at hd
        · rename_i ha
          split at hd
          · rename_i hl72
            simp only [Prod.mk.injEq, and_true] at hd
            subst hd
            simp only [Bool.and_eq_true, addr, decide_eq_true_eq] at ha
            have hv : valid ⟨b0 / 2, b3 / 2, D⟩ = true := valid_iff.2 ⟨by simpa using ha.1, by simpa using ha.2, hl72⟩
            have hbody : body ⟨b0 / 2, b3 / 2, D⟩ = b0 :: b1 :: b2 :: b3 :: D := by
              simp only [body, head, List.cons_append, List.nil_append, List.cons.injEq, and_true]
              refine ⟨by omega, t1.symm, by omega, by omega⟩
            refine ⟨hv, ?_, fun x hx => hby x (by simp [hx])⟩
            unfold encode
            rw [hv, hbody]
            simp only [if_true]
            have hs' : crc8 (b0 :: b1 :: b2 :: b3 :: D) = last l := by simpa using hs
            rw [hs', ← hsp]
          · simp at hd
        · simp at hd
      · simp at hd
theorem decode_bytes {l : List Int} (h : Small l) : ∀ x ∈ (decode l).1.Data, byte x := by
  by_cases h0 : (decode l).2 = 0
  · exact (decode_encode (f := (decode l).1) h (by rw [← h0])).2.2
  · intro x hx
    exfalso
    revert hx h0
    unfold decode
    split
    · simp [Frame_.z]
    · split
      · simp [Frame_.z]
      · split
        · split
          · split
            · split <;> simp [Frame_.z]
            · simp [Frame_.z]
          · simp [Frame_.z]
        · simp [Frame_.z]
theorem xlc (a b c : Nat) : a ^^^ (b ^^^ c) = b ^^^ (a ^^^ c) := by rw [← Nat.xor_assoc, Nat.xor_comm a b, Nat.xor_assoc]
def n8 (v : Nat) : Nat := (2 * v) % 256 ^^^ (v / 128 * 7)
theorem f8_nat_fin : ∀ v : Fin 256, f8 (v.val : Int) = (n8 v.val : Int) := by decide +kernel
theorem f8_nat {v : Nat} (h : v < 256) : f8 (v : Int) = (n8 v : Int) := f8_nat_fin ⟨v, h⟩
theorem n8_lt {v : Nat} (h : v < 256) : n8 v < 256 := by
  have h1 : (2 * v) % 256 < 2 ^ 8 := by omega
  have h2 : v / 128 * 7 < 2 ^ 8 := by omega
  have := Nat.xor_lt_two_pow h1 h2
  unfold n8; omega
theorem n8_xor {a b : Nat} (ha : a < 256) (hb : b < 256) : n8 (a ^^^ b) = n8 a ^^^ n8 b := by
  have e1 : 2 * (a ^^^ b) = (2 * a) ^^^ (2 * b) := by
    have := @Nat.shiftLeft_xor_distrib 1 a b
    simpa [Nat.shiftLeft_eq, Nat.mul_comm] using this
  have e2 : (2 * (a ^^^ b)) % 256 = (2 * a) % 256 ^^^ (2 * b) % 256 := by
    rw [e1]; exact Nat.xor_mod_two_pow (n := 8)
  have e3 : (a ^^^ b) / 128 = a / 128 ^^^ b / 128 := by
    exact Nat.xor_div_two_pow (n := 7)
  have e4 : (a / 128 ^^^ b / 128) * 7 = (a / 128 * 7) ^^^ (b / 128 * 7) := by
    have h1 : a / 128 = 0 ∨ a / 128 = 1 := by omega
    have h2 : b / 128 = 0 ∨ b / 128 = 1 := by omega
    rcases h1 with h1 | h1 <;> rcases h2 with h2 | h2 <;> simp [h1, h2]
  unfold n8
  rw [e2, e3, e4]
  simp only [Nat.xor_assoc, xlc]
theorem it_lt : ∀ (k v : Nat), v < 256 → it n8 k v < 256
  | 0, _, h => h
  | k + 1, v, h => n8_lt (it_lt k v h)
theorem it_xor : ∀ (k a b : Nat), a < 256 → b < 256 → it n8 k (a ^^^ b) = it n8 k a ^^^ it n8 k b
  | 0, _, _, _, _ => rfl
  | k + 1, a, b, ha, hb => by simp only [it]; rw [it_xor k a b ha hb, n8_xor (it_lt k a ha) (it_lt k b hb)]
theorem it_nat : ∀ (k v : Nat), v < 256 → it f8 k (v : Int) = ((it n8 k v : Nat) : Int)
  | 0, _, _ => rfl
  | k + 1, v, h => by simp only [it]; rw [it_nat k v h, f8_nat (it_lt k v h)]
theorem n8_zero : n8 0 = 0 := by decide
theorem n8_inj_fin : ∀ v : Fin 256, n8 v.val = 0 → v.val = 0 := by decide +kernel
theorem it_ne : ∀ (k v : Nat), v < 256 → v ≠ 0 → it n8 k v ≠ 0
  | 0, _, _, h => h
  | k + 1, v, hv, h => fun e => it_ne k v hv h (n8_inj_fin ⟨_, it_lt k v hv⟩ e)
/-- The sum over numbers. -/
def cN (l : List Nat) (s : Nat) : Nat := l.foldl (fun s x => it n8 8 (s ^^^ x)) s
theorem cN_lt : ∀ (l : List Nat) (s : Nat), (∀ x ∈ l, x < 256) → s < 256 → cN l s < 256
  | [], _, _, h => h
  | x :: l, s, hl, hs => cN_lt l _ (fun y hy => hl y (by simp [hy])) (it_lt 8 _ (Nat.xor_lt_two_pow (n := 8) hs (hl x (by simp))))
theorem crc8_nat (l : List Nat) (h : ∀ x ∈ l, x < 256) : crc8 (l.map (fun (x : Nat) => (x : Int))) = ((cN l 0 : Nat) : Int) := by
  have key : ∀ (l : List Nat) (s : Nat), (∀ x ∈ l, x < 256) → s < 256 → (l.map (fun (x : Nat) => (x : Int))).foldl (fun s x => it f8 8 (bXor .u8 s x)) (s : Int) = ((cN l s : Nat) : Int) := by
    intro l
    induction l with
    | nil => intro s _ _; rfl
    | cons x l ih =>
      intro s hl hs
      have hx := hl x (by simp)
      have hsx : s ^^^ x < 256 := Nat.xor_lt_two_pow (n := 8) hs hx
      simp only [List.map_cons, List.foldl_cons]
      rw [xor_u8 hs hx, it_nat 8 _ hsx, ih _ (fun y hy => hl y (by simp [hy])) (it_lt 8 _ hsx)]; rfl
  exact key l 0 h (by omega)
/-- The sum of two lists laid over each other. -/
theorem cN_xor : ∀ (a b : List Nat) (s t : Nat), a.length = b.length → (∀ x ∈ a, x < 256) → (∀ x ∈ b, x < 256) → s < 256 → t < 256 → cN (List.zipWith (· ^^^ ·) a b) (s ^^^ t) = cN a s ^^^ cN b t
  | [], [], _, _, _, _, _, _, _ => rfl
  | x :: a, y :: b, s, t, hl, ha, hb, hs, ht => by
    have hx := ha x (by simp)
    have hy := hb y (by simp)
    have hsx : s ^^^ x < 256 := Nat.xor_lt_two_pow (n := 8) hs hx
    have hty : t ^^^ y < 256 := Nat.xor_lt_two_pow (n := 8) ht hy
    have e : (s ^^^ t) ^^^ (x ^^^ y) = (s ^^^ x) ^^^ (t ^^^ y) := by simp only [Nat.xor_assoc, xlc]
    show cN (List.zipWith (· ^^^ ·) a b) (it n8 8 ((s ^^^ t) ^^^ (x ^^^ y))) = cN a (it n8 8 (s ^^^ x)) ^^^ cN b (it n8 8 (t ^^^ y))
    rw [e, it_xor 8 _ _ hsx hty]
    exact cN_xor a b _ _ (by simpa using hl) (fun z hz => ha z (by simp [hz])) (fun z hz => hb z (by simp [hz])) (it_lt 8 _ hsx) (it_lt 8 _ hty)
  | [], _ :: _, _, _, hl, _, _, _, _ => by simp at hl
  | _ :: _, [], _, _, hl, _, _, _, _ => by simp at hl
/-- Zeros behind a state that is not zero leave it so. -/
theorem cN_zeros : ∀ (n s : Nat), s < 256 → s ≠ 0 → cN (List.replicate n 0) s ≠ 0
  | 0, _, _, h => h
  | n + 1, s, hs, h => by
    rw [List.replicate_succ]
    show cN (List.replicate n 0) (it n8 8 (s ^^^ 0)) ≠ 0
    rw [Nat.xor_zero]
    exact cN_zeros n _ (it_lt 8 s hs) (it_ne 8 s hs h)
theorem cN_zero : ∀ n : Nat, cN (List.replicate n 0) 0 = 0
  | 0 => rfl
  | n + 1 => by rw [List.replicate_succ]; exact cN_zero n
theorem cN_append (a b : List Nat) (s : Nat) : cN (a ++ b) s = cN b (cN a s) := by unfold cN; rw [List.foldl_append]
/-- A list of bytes as numbers. -/
def toI (l : List Nat) : List Int := l.map (fun (x : Nat) => (x : Int))
theorem nats_of {l : List Int} (h : ∀ x ∈ l, byte x) : ∃ n : List Nat, l = toI n ∧ ∀ x ∈ n, x < 256 := by
  induction l with
  | nil => exact ⟨[], rfl, by simp⟩
  | cons x l ih =>
    obtain ⟨n, e, hn⟩ := ih (fun y hy => h y (by simp [hy]))
    obtain ⟨h1, h2⟩ := h x (by simp)
    refine ⟨x.toNat :: n, ?_, fun y hy => ?_⟩
    · simp only [toI, List.map_cons]
      rw [e, Int.toNat_of_nonneg h1]; rfl
    · rcases List.mem_cons.1 hy with rfl | hy
      · omega
      · exact hn y hy
/-- A seal is right if and only if the sum over all of it is zero. -/
theorem openC_five {n : List Nat} (hn : ∀ x ∈ n, x < 256) (hne : n ≠ []) (h : cN n 0 ≠ 0) : openC (toI n) = ([], 5) := by
  have hl : toI n ≠ [] := by cases n with | nil => exact absurd rfl hne | cons _ _ => simp [toI]
  obtain ⟨b, c, rfl⟩ : ∃ b c, n = b ++ [c] := ⟨n.dropLast, n.getLast hne, (List.dropLast_concat_getLast hne).symm⟩
  have hb : ∀ x ∈ b, x < 256 := fun x hx => hn x (by simp [hx])
  have hc : c < 256 := hn c (by simp)
  have e1 : (toI (b ++ [c])).take ((toI (b ++ [c])).length - 1) = toI b := by simp [toI]
  have e2 : last (toI (b ++ [c])) = (c : Int) := by simp [toI, last, List.getLastD_eq_getLast?]
  unfold openC
  rw [if_neg hl, e1, e2]
  have hcr : crc8 (toI b) = ((cN b 0 : Nat) : Int) := crc8_nat b hb
  rw [hcr]
  have hd : ¬ ((cN b 0 : Nat) : Int) = (c : Int) := by
    intro e
    have e' : cN b 0 = c := by omega
    apply h
    rw [cN_append, e']
    show it n8 8 (c ^^^ c) = 0
    rw [Nat.xor_self]; decide
  rw [if_neg hd]
theorem seal_zero (b : List Nat) (hb : ∀ x ∈ b, x < 256) : cN (b ++ [cN b 0]) 0 = 0 := by
  rw [cN_append]
  show it n8 8 (cN b 0 ^^^ cN b 0) = 0
  rw [Nat.xor_self]; decide
/-- A sealed list that is changed by e is found out, if the sum of e is not zero. -/
theorem found {b e : List Nat} (hb : ∀ x ∈ b, x < 256) (he : ∀ x ∈ e, x < 256) (hl : e.length = b.length + 1) (h : cN e 0 ≠ 0) : openC (toI (List.zipWith (· ^^^ ·) (b ++ [cN b 0]) e)) = ([], 5) := by
  have hs : ∀ x ∈ b ++ [cN b 0], x < 256 := fun x hx => by
    rcases List.mem_append.1 hx with hx | hx
    · exact hb x hx
    · simp at hx; rw [hx]; exact cN_lt b 0 hb (by omega)
  have hx := cN_xor (b ++ [cN b 0]) e 0 0 (by simp; omega) hs he (by omega) (by omega)
  rw [Nat.xor_self, seal_zero b hb, Nat.zero_xor] at hx
  have hz : ∀ (a e : List Nat), (∀ x ∈ a, x < 256) → (∀ x ∈ e, x < 256) → ∀ x ∈ List.zipWith (· ^^^ ·) a e, x < 256 := by
    intro a
    induction a with
    | nil => intro e _ _ x hx; simp at hx
    | cons y a ih =>
      intro e ha he x hx
      cases e with
      | nil => simp at hx
      | cons z e =>
        simp only [List.zipWith_cons_cons, List.mem_cons] at hx
        rcases hx with rfl | hx
        · exact Nat.xor_lt_two_pow (n := 8) (ha y (by simp)) (he z (by simp))
        · exact ih e (fun w hw => ha w (by simp [hw])) (fun w hw => he w (by simp [hw])) x hx
  refine openC_five (hz _ _ hs he) (fun e0 => ?_) (by rw [hx]; exact h)
  have := congrArg List.length e0
  rw [List.length_zipWith, List.length_append, hl] at this
  simp at this
theorem xor_zero_eq {a b : Nat} (h : a ^^^ b = 0) : a = b := by
  have := congrArg (· ^^^ b) h
  simpa [Nat.xor_assoc] using this
theorem it_add {α : Type} (f : α → α) : ∀ (m n : Nat) (x : α), it f (m + n) x = it f m (it f n x)
  | 0, n, x => by simp [it]
  | m + 1, n, x => by rw [Nat.add_right_comm]; simp only [it]; rw [it_add f m n x]
theorem it_n8_zero : ∀ k : Nat, it n8 k 0 = 0
  | 0 => rfl
  | k + 1 => by simp only [it]; rw [it_n8_zero k]; rfl
theorem it_inj {k a b : Nat} (ha : a < 256) (hb : b < 256) (h : it n8 k a = it n8 k b) : a = b := by
  have h1 := it_xor k a b ha hb
  rw [h, Nat.xor_self] at h1
  have h2 : a ^^^ b = 0 := Classical.byContradiction fun hn => it_ne k _ (Nat.xor_lt_two_pow (n := 8) ha hb) hn h1
  exact xor_zero_eq h2
/-- A change of the state ahead. -/
theorem cN_st : ∀ (l : List Nat) (s t : Nat), (∀ x ∈ l, x < 256) → s < 256 → t < 256 → cN l (s ^^^ t) = cN l s ^^^ it n8 (8 * l.length) t
  | [], s, t, _, _, _ => rfl
  | x :: l, s, t, hl, hs, ht => by
    have hx := hl x (by simp)
    have hsx : s ^^^ x < 256 := Nat.xor_lt_two_pow (n := 8) hs hx
    show cN l (it n8 8 ((s ^^^ t) ^^^ x)) = cN l (it n8 8 (s ^^^ x)) ^^^ _
    rw [show (s ^^^ t) ^^^ x = (s ^^^ x) ^^^ t by simp only [Nat.xor_assoc, Nat.xor_comm t x], it_xor 8 _ _ hsx ht, cN_st l _ _ (fun y hy => hl y (by simp [hy])) (it_lt 8 _ hsx) (it_lt 8 _ ht), ← it_add,
      show 8 * (x :: l).length = 8 * l.length + 8 by simp; omega]
/-- A change of one byte. -/
theorem cN_mod : ∀ (l : List Nat) (s i m : Nat), (∀ x ∈ l, x < 256) → s < 256 → m < 256 → i < l.length → cN (l.modify i (· ^^^ m)) s = cN l s ^^^ it n8 (8 * (l.length - i)) m
  | [], _, _, _, _, _, _, h => by simp at h
  | x :: l, s, 0, m, hl, hs, hm, _ => by
    have hx := hl x (by simp)
    have hsx : s ^^^ x < 256 := Nat.xor_lt_two_pow (n := 8) hs hx
    have e : (x :: l).modify 0 (· ^^^ m) = (x ^^^ m) :: l := by simp
    rw [e]
    show cN l (it n8 8 (s ^^^ (x ^^^ m))) = cN l (it n8 8 (s ^^^ x)) ^^^ _
    rw [← Nat.xor_assoc, it_xor 8 _ _ hsx hm, cN_st l _ _ (fun y hy => hl y (by simp [hy])) (it_lt 8 _ hsx) (it_lt 8 _ hm), ← it_add, show 8 * ((x :: l).length - 0) = 8 * l.length + 8 by simp; omega]
  | x :: l, s, i + 1, m, hl, hs, hm, h => by
    have hx := hl x (by simp)
    have hsx : s ^^^ x < 256 := Nat.xor_lt_two_pow (n := 8) hs hx
    have e : (x :: l).modify (i + 1) (· ^^^ m) = x :: l.modify i (· ^^^ m) := by simp
    rw [e]
    show cN (l.modify i (· ^^^ m)) (it n8 8 (s ^^^ x)) = cN l (it n8 8 (s ^^^ x)) ^^^ _
    rw [cN_mod l _ i m (fun y hy => hl y (by simp [hy])) (it_lt 8 _ hsx) hm (by simpa using h), show (x :: l).length - (i + 1) = l.length - i by simp]
theorem it_pow : ∀ j : Fin 8, it n8 j.val (128 / 2 ^ j.val) = 128 := by decide +kernel
/-- One bit of a list: bit 0 is the highest of the first byte. -/
def flipB (n : List Nat) (k : Nat) : List Nat := n.modify (k / 8) (· ^^^ (128 / 2 ^ (k % 8)))
theorem flipB_len (n : List Nat) (k : Nat) : (flipB n k).length = n.length := by simp [flipB]
theorem mod_lt {l : List Nat} {i m : Nat} (h : ∀ y ∈ l, y < 256) (hm : m < 256) : ∀ y ∈ l.modify i (· ^^^ m), y < 256 := by
  intro y hy
  obtain ⟨j, hj⟩ := List.getElem?_of_mem hy
  simp only [List.getElem?_modify] at hj
  cases hl : l[j]? with
  | none => simp [hl] at hj
  | some z =>
    have hz := h z (List.mem_of_getElem? hl)
    rw [hl] at hj
    simp at hj
    split at hj <;> subst hj
    · exact Nat.xor_lt_two_pow (n := 8) hz hm
    · exact hz
theorem bit_lt (k : Nat) : 128 / 2 ^ (k % 8) < 256 := Nat.lt_of_le_of_lt (Nat.div_le_self _ _) (by omega)
theorem flipB_lt {l : List Nat} {k : Nat} (h : ∀ y ∈ l, y < 256) : ∀ y ∈ flipB l k, y < 256 := mod_lt h (bit_lt k)
theorem cN_flip {l : List Nat} {k : Nat} (h : ∀ x ∈ l, x < 256) (hk : k < 8 * l.length) : cN (flipB l k) 0 = cN l 0 ^^^ it n8 (8 * l.length - k) 128 := by
  unfold flipB
  rw [cN_mod l 0 (k / 8) _ h (by omega) (bit_lt k) (by omega)]
  congr 1
  have hj : k % 8 < 8 := by omega
  have e : 8 * (l.length - k / 8) = (8 * l.length - k) + k % 8 := by omega
  rw [e, it_add, it_pow ⟨k % 8, hj⟩]
theorem toI_len (n : List Nat) : (toI n).length = n.length := by simp [toI]
theorem toI_get {n : List Nat} {i : Nat} (h : i < n.length) : (toI n)[i]? = some ((n[i]'h : Nat) : Int) := by simp [toI, h]
theorem toI_byte {n : List Nat} (h : ∀ x ∈ n, x < 256) : ∀ x ∈ toI n, byte x := by
  intro x hx
  obtain ⟨y, hy, rfl⟩ := List.mem_map.1 hx
  have := h y hy
  constructor <;> omega
/-- A byte of the list is turned. -/
theorem upd_xor {n : List Nat} {i m : Nat} (h : ∀ x ∈ n, x < 256) (hi : i < n.length) (hm : m < 256) : upd (toI n) (i : Int) (bXor .u8 ((n[i]'hi : Nat) : Int) (m : Int)) = toI (n.modify i (· ^^^ m)) := by
  rw [xor_u8 (h _ (List.getElem_mem hi)) hm]
  simp only [upd, toI, Int.toNat_natCast]
  apply List.ext_getElem?
  intro j
  simp only [List.getElem?_set, List.getElem?_map, List.getElem?_modify, List.length_map]
  by_cases e : i = j
  · subst e; simp [hi]
  · simp only [e, if_false]; cases n[j]? <;> simp
theorem shr128 : ∀ j : Fin 8, bShr .u8 128 (j.val : Int) = ((128 / 2 ^ j.val : Nat) : Int) := by decide +kernel
/-- The opening tells by the sum over all. -/
theorem openC_zero {n : List Nat} (hn : ∀ x ∈ n, x < 256) (hne : n ≠ []) (h : cN n 0 = 0) : (openC (toI n)).2 = 0 := by
  have hl : toI n ≠ [] := by cases n with | nil => exact absurd rfl hne | cons _ _ => simp [toI]
  obtain ⟨b, c, rfl⟩ : ∃ b c, n = b ++ [c] := ⟨n.dropLast, n.getLast hne, (List.dropLast_concat_getLast hne).symm⟩
  have hb : ∀ x ∈ b, x < 256 := fun x hx => hn x (by simp [hx])
  have hc : c < 256 := hn c (by simp)
  have e1 : (toI (b ++ [c])).take ((toI (b ++ [c])).length - 1) = toI b := by simp [toI]
  have e2 : last (toI (b ++ [c])) = (c : Int) := by simp [toI, last, List.getLastD_eq_getLast?]
  unfold openC
  rw [if_neg hl, e1, e2]
  have hcr : crc8 (toI b) = ((cN b 0 : Nat) : Int) := crc8_nat b hb
  rw [cN_append] at h
  have h2 : it n8 8 (cN b 0 ^^^ c) = 0 := h
  have h3 : cN b 0 ^^^ c = 0 := Classical.byContradiction fun hx => it_ne 8 _ (Nat.xor_lt_two_pow (n := 8) (cN_lt b 0 hb (by omega)) hc) hx h2
  have h4 : cN b 0 = c := xor_zero_eq h3
  rw [hcr, h4, if_pos rfl]
/-- The sealed list as numbers. -/
theorem sealed_nat {l : List Int} (h : Small l) : ∃ n : List Nat, l ++ [crc8 l] = toI n ∧ (∀ x ∈ n, x < 256) ∧ n.length = l.length + 1 ∧ cN n 0 = 0 := by
  obtain ⟨b, e, hb⟩ := nats_of h.2
  refine ⟨b ++ [cN b 0], ?_, fun x hx => ?_, ?_, seal_zero b hb⟩
  · have hc : crc8 l = ((cN b 0 : Nat) : Int) := by rw [e]; exact crc8_nat b hb
    rw [hc, e]; simp [toI]
  · rcases List.mem_append.1 hx with hx | hx
    · exact hb x hx
    · simp at hx; rw [hx]; exact cN_lt b 0 hb (by omega)
  · have := congrArg List.length e
    rw [toI_len] at this
    simp; omega
/-- The first t bits of a byte. -/
def top8 (a t : Nat) : Nat := a / 2 ^ (8 - t) * 2 ^ (8 - t)
theorem top8_step : ∀ (a : Fin 256) (t : Fin 8), top8 a.val (t.val + 1) = (if a.val / 2 ^ (7 - t.val) % 2 = 1 then top8 a.val t.val ^^^ (128 / 2 ^ t.val) else top8 a.val t.val) ∧ top8 a.val t.val < 256 := by decide +kernel
theorem top8_end (a : Nat) : top8 a 8 = a := by simp [top8]
theorem top8_zero {a : Nat} (h : a < 256) : top8 a 0 = 0 := by unfold top8; rw [Nat.div_eq_of_lt (by simpa using h), Nat.zero_mul]
/-- One more bit of a burst that begins at k. -/
theorem burst_bit {L k t v : Nat} (ht : t < 8) (hk : k + 8 ≤ L) (hv : v < 256) : it n8 (L - k) v ^^^ it n8 (L - (k + t)) 128 = it n8 (L - k) (v ^^^ (128 / 2 ^ t)) := by
  have hm : 128 / 2 ^ t < 256 := Nat.lt_of_le_of_lt (Nat.div_le_self _ _) (by omega)
  rw [it_xor _ _ _ hv hm]
  congr 1
  have e : L - k = (L - (k + t)) + t := by omega
  rw [e, it_add, it_pow ⟨t, ht⟩]
theorem bit_test : ∀ (a : Fin 256) (t : Fin 8), (Int.tmod (bShr .u8 (a.val : Int) ((7 - t.val : Nat) : Int)) 2 == 1) = decide (a.val / 2 ^ (7 - t.val) % 2 = 1) := by decide +kernel
theorem mod_nat (fuel : Nat) (a : Int) {m : Nat} (h1 : 0 < m) (h2 : m ≤ 1000000) : ∃ k : Nat, k < m ∧ a % (m : Int) = (k : Int) ∧ made_Mod fuel a (m : Int) = some (k : Int) := by
  have e := Mod_eq fuel (a := a) (m := (m : Int)) (by omega) (by omega)
  have l1 := Int.emod_nonneg a (show (m : Int) ≠ 0 by omega)
  have l2 := Int.emod_lt_of_pos a (show (0 : Int) < m by omega)
  obtain ⟨k, hk⟩ : ∃ k : Nat, a % (m : Int) = k := ⟨_, (Int.toNat_of_nonneg l1).symm⟩
  exact ⟨k, by omega, hk, by rw [e, hk]⟩
theorem nat_of {a : Int} {m : Nat} (h1 : 0 ≤ a) (h2 : a < m) : ∃ n : Nat, a = n ∧ n < m := ⟨a.toNat, by omega, by omega⟩
theorem open_five {n : List Nat} (hn : ∀ x ∈ n, x < 256) (hne : n ≠ []) (h : cN n 0 ≠ 0) : (openC (toI n)).2 = 5 := by rw [openC_five hn hne h]
theorem toI_small {n : List Nat} (hn : ∀ x ∈ n, x < 256) (hl : n.length ≤ 5000) : Small (toI n) := ⟨by rw [toI_len]; exact hl, toI_byte hn⟩
theorem ne_nil {n : List Nat} (h : 0 < n.length) : n ≠ [] := by intro e; subst e; simp at h
end Lift
