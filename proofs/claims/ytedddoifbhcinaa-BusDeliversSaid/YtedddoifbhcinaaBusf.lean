/- The bytes of frames; a byte that is changed is noticed. No program in sight. -/
import Derived.Test.YtedddoifbhcinaaRefframes
set_option linter.unusedVariables false
set_option linter.unusedSimpArgs false
namespace Lift
open Go

theorem decode_body {f : Frame_} (hv : valid f = true) : decode (body f ++ [crc8 (body f)]) = (f, 0) := by
  obtain ⟨⟨h1, h2⟩, ⟨h3, h4⟩, h5⟩ := valid_iff.1 hv
  have hl : (body f ++ [crc8 (body f)]).length = f.Data.length + 5 := by simp [body, head]
  have ht : (body f ++ [crc8 (body f)]).take ((body f ++ [crc8 (body f)]).length - 1) = body f := by simp
  have hla : last (body f ++ [crc8 (body f)]) = crc8 (body f) := by simp [last, List.getLastD_eq_getLast?]
  unfold decode
  rw [ht, hla, hl]
  have c0 : ¬ (f.Data.length + 5 < 5) := by omega
  rw [if_neg c0, if_neg (by simp)]
  have eb : body f = 2 * f.To :: 15 :: ((f.Data.length : Int) + 1) :: (2 * f.From + 1) :: f.Data := rfl
  rw [eb]
  simp only
  have a1 : 2 * f.To / 2 = f.To := by omega
  have a2 : (2 * f.From + 1) / 2 = f.From := by omega
  have t1 : addr f.To = true := by simp [addr]; omega
  have t2 : addr f.From = true := by simp [addr]; omega
  rw [if_pos ⟨by omega, by simp, by push_cast; omega, by omega⟩, a1, a2, t1, t2, if_pos h5]
  rfl
theorem cmpL_anti : ∀ a b : List Int, cmpL a b = 0 - cmpL b a
  | [], [] => rfl
  | [], _ :: _ => rfl
  | _ :: _, [] => rfl
  | x :: a, y :: b => by
    simp only [cmpL]
    have := cmpL_anti a b
    by_cases h1 : x < y
    · have : ¬ y < x := by omega
      simp [h1, this]
    · by_cases h2 : y < x <;> simp only [h1, h2, if_true, if_false] <;> omega
theorem cmpL_range : ∀ a b : List Int, -1 ≤ cmpL a b ∧ cmpL a b ≤ 1
  | [], [] => by simp [cmpL]
  | [], _ :: _ => by simp [cmpL]
  | _ :: _, [] => by simp [cmpL]
  | x :: a, y :: b => by
    simp only [cmpL]
    have := cmpL_range a b
    split
    · omega
    · split <;> omega
theorem cmpL_zero : ∀ a b : List Int, cmpL a b = 0 → a = b
  | [], [] => fun _ => rfl
  | [], _ :: _ => fun h => by simp [cmpL] at h
  | _ :: _, [] => fun h => by simp [cmpL] at h
  | x :: a, y :: b => fun h => by
    simp only [cmpL] at h
    split at h
    · omega
    · split at h
      · omega
      · rw [cmpL_zero a b h]; congr 1; omega
theorem cmpL_trans : ∀ a b c : List Int, cmpL a b ≤ 0 → cmpL b c ≤ 0 → cmpL a c ≤ 0 ∧ (cmpL a c = 0 → cmpL a b = 0 ∧ cmpL b c = 0)
  | [], [], [] => by simp [cmpL]
  | [], [], _ :: _ => by simp [cmpL]
  | [], _ :: _, [] => by simp [cmpL]
  | [], _ :: _, _ :: _ => by simp [cmpL]
  | _ :: _, [], [] => by simp [cmpL]
  | _ :: _, [], _ :: _ => by simp [cmpL]
  | _ :: _, _ :: _, [] => by simp [cmpL]
  | x :: a, y :: b, z :: c => by
    simp only [cmpL]
    intro h1 h2
    have ih := cmpL_trans a b c
    by_cases p : x < y
    · by_cases q : y < z
      · have : x < z := by omega
        simp [this]
      · by_cases r : z < y
        · simp only [q, r, if_true, if_false] at h2; omega
        · have : x < z := by omega
          simp [this]
    · by_cases p2 : y < x
      · simp only [p, p2, if_true, if_false] at h1; omega
      · have e : x = y := by omega
        subst e
        simp only [Int.lt_irrefl, if_false] at h1 ⊢
        by_cases q : x < z
        · simp [q]
        · by_cases r : z < x
          · simp only [q, r, if_true, if_false] at h2; omega
          · simp only [q, r, if_false] at h2 ⊢
            exact ih h1 h2
def g8 (v : Int) : Int := if v % 2 = 1 then bXor .u8 v 7 / 2 + 128 else v / 2
theorem g8_fin : ∀ v : Fin 256, g8 (f8 (v.val : Int)) = (v.val : Int) := by decide +kernel
theorem f8_inj {v w : Int} (hv : byte v) (hw : byte w) (h : f8 v = f8 w) : v = w := by
  obtain ⟨a1, a2⟩ := hv
  obtain ⟨b1, b2⟩ := hw
  have e1 := g8_fin ⟨v.toNat, by omega⟩
  have e2 := g8_fin ⟨w.toNat, by omega⟩
  simp only at e1 e2
  rw [Int.toNat_of_nonneg a1] at e1
  rw [Int.toNat_of_nonneg b1] at e2
  rw [← e1, ← e2, h]
theorem it_f8_inj : ∀ (n : Nat) {v w : Int}, byte v → byte w → it f8 n v = it f8 n w → v = w
  | 0, _, _, _, _, h => h
  | n + 1, v, w, hv, hw, h => by
    have b1 := (it_eq (P := byte) (f := f8) (g := r8) (fun x hx => f8_eq hx) hv n).2
    have b2 := (it_eq (P := byte) (f := f8) (g := r8) (fun x hx => f8_eq hx) hw n).2
    exact it_f8_inj n hv hw (f8_inj b1 b2 h)
theorem xor_cancel {a b c : Int} (ha : byte a) (hb : byte b) (hc : byte c) (h : bXor .u8 a c = bXor .u8 b c) : a = b := by
  obtain ⟨x, rfl⟩ : ∃ n : Nat, a = n := ⟨a.toNat, by have := ha.1; omega⟩
  obtain ⟨y, rfl⟩ : ∃ n : Nat, b = n := ⟨b.toNat, by have := hb.1; omega⟩
  obtain ⟨z, rfl⟩ : ∃ n : Nat, c = n := ⟨c.toNat, by have := hc.1; omega⟩
  have h1 := ha.2
  have h2 := hb.2
  have h3 := hc.2
  rw [xor_u8 (by omega) (by omega), xor_u8 (by omega) (by omega)] at h
  have h' : x ^^^ z = y ^^^ z := by omega
  have : x = y := by
    have e := congrArg (· ^^^ z) h'
    simpa [Nat.xor_assoc] using e
  rw [this]
theorem xor_comm8 {a b : Int} (ha : byte a) (hb : byte b) : bXor .u8 a b = bXor .u8 b a := by
  obtain ⟨x, rfl⟩ : ∃ n : Nat, a = n := ⟨a.toNat, by have := ha.1; omega⟩
  obtain ⟨y, rfl⟩ : ∃ n : Nat, b = n := ⟨b.toNat, by have := hb.1; omega⟩
  have h1 := ha.2
  have h2 := hb.2
  rw [xor_u8 (by omega) (by omega), xor_u8 (by omega) (by omega), Nat.xor_comm]
theorem xor_zero8 {a : Int} (ha : byte a) : bXor .u8 a 0 = a := by
  obtain ⟨x, rfl⟩ : ∃ n : Nat, a = n := ⟨a.toNat, by have := ha.1; omega⟩
  have h1 := ha.2
  have := xor_u8 (a := x) (b := 0) (by omega) (by omega)
  simpa using this
theorem xor_self8 {a m : Int} (ha : byte a) (hm : byte m) (h : bXor .u8 a m = a) : m = 0 := by
  have h0 : byte 0 := ⟨by decide, by decide⟩
  have e : bXor .u8 m a = bXor .u8 0 a := by rw [xor_comm8 hm ha, h, xor_comm8 h0 ha, xor_zero8 ha]
  exact xor_cancel hm h0 ha e
def st8 (s x : Int) : Int := it f8 8 (bXor .u8 s x)
theorem st8_byte {s x : Int} (hs : byte s) (hx : byte x) : byte (st8 s x) := (crc8_step hs hx).2
theorem st8_fold {l : List Int} (hl : ∀ x ∈ l, byte x) : ∀ {s : Int}, byte s → byte (l.foldl st8 s) := by
  induction l with
  | nil => intro s hs; exact hs
  | cons x l ih => intro s hs; exact ih (fun y hy => hl y (by simp [hy])) (st8_byte hs (hl x (by simp)))
theorem st8_ne {l : List Int} (hl : ∀ x ∈ l, byte x) : ∀ {s t : Int}, byte s → byte t → l.foldl st8 s = l.foldl st8 t → s = t := by
  induction l with
  | nil => intro s t _ _ h; exact h
  | cons x l ih =>
    intro s t hs ht h
    have hx := hl x (by simp)
    have h1 := ih (fun y hy => hl y (by simp [hy])) (st8_byte hs hx) (st8_byte ht hx) h
    exact xor_cancel hs ht hx (it_f8_inj 8 (xor_byte hs hx).2 (xor_byte ht hx).2 h1)
theorem st8_set {l : List Int} (hl : ∀ x ∈ l, byte x) {i : Nat} {x v : Int} (hv : byte v) : ∀ {s : Int}, byte s → l[i]? = some x → (l.set i v).foldl st8 s = l.foldl st8 s → v = x := by
  induction l generalizing i with
  | nil => intro s hs h; simp at h
  | cons y l ih =>
    intro s hs h he
    have hy := hl y (by simp)
    have hl' : ∀ z ∈ l, byte z := fun z hz => hl z (by simp [hz])
    cases i with
    | zero =>
      simp at h
      subst h
      have h1 := st8_ne hl' (st8_byte hs hv) (st8_byte hs hy) (by simpa using he)
      have h2 := it_f8_inj 8 (xor_byte hs hv).2 (xor_byte hs hy).2 h1
      rw [xor_comm8 hs hv, xor_comm8 hs hy] at h2
      exact xor_cancel hv hy hs h2
    | succ i => exact ih hl' (st8_byte hs hy) (by simpa using h) (by simpa using he)
theorem crc8_set {l : List Int} (hl : ∀ x ∈ l, byte x) {i : Nat} {x v : Int} (hv : byte v) (h : l[i]? = some x) (he : crc8 (l.set i v) = crc8 l) : v = x := st8_set hl hv ⟨by decide, by decide⟩ h he
def oks (x : List Int) : Bool := (decode x).2 == 0
/-- The bytes of a frame. -/
def FB (x : List Int) : Prop := (∀ b ∈ x, byte b) ∧ 5 ≤ x.length ∧ x.length ≤ 100 ∧ oks x = true
theorem fb_body {x : List Int} (h : FB x) : ∃ f, valid f = true ∧ x = body f ++ [crc8 (body f)] ∧ ∀ b ∈ f.Data, byte b := by
  obtain ⟨h1, h2, h3, h4⟩ := h
  unfold oks at h4
  rcases hdx : decode x with ⟨f, e⟩
  rw [hdx] at h4
  have h5 : e = 0 := by simpa using h4
  subst h5
  obtain ⟨a, b, c⟩ := decode_encode (l := x) (f := f) ⟨by omega, h1⟩ hdx
  unfold encode at b
  rw [if_pos a] at b
  exact ⟨f, a, (Prod.mk.inj b).1.symm, c⟩
theorem enc_fb {f : Frame_} (h : valid f = true) (hd : ∀ x ∈ f.Data, byte x) : FB (encode f).1 := by
  obtain ⟨e, h1, h2, h3⟩ := encode_ok h hd
  rw [e]
  have := (valid_iff.1 h).2.2
  refine ⟨h1, h2, by simp [body, head]; omega, ?_⟩
  simp [oks, decode_body h]
theorem oks_set {x : List Int} (h : FB x) {i : Nat} {a v : Int} (hv : byte v) (hi : x[i]? = some a) (ho : oks (x.set i v) = true) : v = a := by
  obtain ⟨f, hf, rfl, hd⟩ := fb_body h
  have hb : ∀ z ∈ body f, byte z := fun z hz => h.1 z (by simp [hz])
  unfold oks decode at ho
  split at ho
  · simp at ho
  · split at ho
    · simp at ho
    · rename_i _ hc
      have hc' := Classical.not_not.1 hc
      clear ho hc
      by_cases hl : i < (body f).length
      · have hs : (body f ++ [crc8 (body f)]).set i v = (body f).set i v ++ [crc8 (body f)] := List.set_append_left i v hl
        rw [hs] at hc'
        have ht : ((body f).set i v ++ [crc8 (body f)]).take (((body f).set i v ++ [crc8 (body f)]).length - 1) = (body f).set i v := by simp
        have hla : last ((body f).set i v ++ [crc8 (body f)]) = crc8 (body f) := by simp [last, List.getLastD_eq_getLast?]
        rw [ht, hla] at hc'
        rw [List.getElem?_append_left hl] at hi
        exact crc8_set hb hv hi hc'
      · have hil := lt_len hi
        have hie : i = (body f).length := by simp at hil; omega
        subst hie
        have hs : (body f ++ [crc8 (body f)]).set (body f).length v = body f ++ [v] := by rw [List.set_append_right _ _ (by omega)]; simp
        rw [hs] at hc'
        have ht : (body f ++ [v]).take ((body f ++ [v]).length - 1) = body f := by simp
        have hla : last (body f ++ [v]) = v := by simp [last, List.getLastD_eq_getLast?]
        rw [ht, hla] at hc'
        simp at hi
        rw [← hc', hi]
end Lift
