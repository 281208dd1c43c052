/- The reference's frames: the same closed forms; the order of bytes. No program in sight. -/
import Derived.Test.YtedddoifbhcinaaFrames
set_option linter.unusedVariables false
set_option linter.unusedSimpArgs false
namespace Lift
open Go
theorem rAddress_eq (fuel : Nat) (a : Int) : ref20_Address fuel a = some (addr a) := by
  unfold ref20_Address addr
  by_cases h : 8 ≤ a <;> simp [h]
theorem rValid_eq (fuel : Nat) (f : Frame_) : ref20_Valid fuel f = some (valid f) := by
  unfold ref20_Valid valid
  rw [rAddress_eq, rAddress_eq]
  cases addr f.To <;> cases addr f.From <;> simp
  omega
theorem rEncode_eq {fuel : Nat} {f : Frame_} (hd : ∀ x ∈ f.Data, byte x) (hf : 5000 < fuel) : ref20_Encode fuel f = some (encode f) := by
  unfold ref20_Encode encode
  rw [rValid_eq, bindP_some]
  cases h : valid f with
  | false => rfl
  | true =>
    obtain ⟨⟨h1, h2⟩, ⟨h3, h4⟩, h5⟩ := valid_iff.1 h
    have e1 : IntKind.u8.wrap (2 * f.To) = 2 * f.To := by rw [w_u8]; omega
    have e2 : IntKind.u8.wrap (IntKind.i64.wrap ((f.Data.length : Int) + 1)) = (f.Data.length : Int) + 1 := by rw [w_i64 (by omega) (by omega), w_u8]; omega
    have e3 : IntKind.u8.wrap (IntKind.u8.wrap (2 * f.From) + 1) = 2 * f.From + 1 := by rw [w_u8, w_u8]; omega
    rw [e1, e2, e3]
    simp only [Bool.not_true, iteP_false, if_true]
    rw [app_ok (by simp; omega), bindP_some]
    show bindP (ref01_SealCRC8 fuel (body f)) _ = _
    rw [rSealCRC8_eq (body_small h hd) hf]; rfl
/-- The order of lists of numbers. -/
def cmpL : List Int → List Int → Int
  | [], [] => 0
  | [], _ :: _ => -1
  | _ :: _, [] => 1
  | x :: a, y :: b => if x < y then -1 else if y < x then 1 else cmpL a b
theorem get_bytes (l : List Int) (i : Nat) : (bytesI l)[i]! = ((Lib.bytesOf l)[i]?).getD default := by
  have hs : (bytesI l).size = (Lib.bytesOf l).length := by simp [bytesI, ByteArray.size]
  by_cases h : i < (Lib.bytesOf l).length
  · rw [getElem!_pos (bytesI l) i (by rw [hs]; exact h)]
    simp [bytesI, h]
    rfl
  · rw [getElem!_neg (bytesI l) i (by rw [hs]; exact h)]
    simp [List.getElem?_eq_none (Nat.le_of_not_lt h)]
theorem bsz (l : List Int) : (bytesI l).size = l.length := by simp [bytesI, ByteArray.size, Lib.bytesOf]
theorem ofNat_lt {x y : Int} (hx : byte x) (hy : byte y) : (UInt8.ofNat x.toNat < UInt8.ofNat y.toNat ↔ x < y) ∧ (UInt8.ofNat x.toNat = UInt8.ofNat y.toNat ↔ x = y) := by
  obtain ⟨a1, a2⟩ := hx
  obtain ⟨b1, b2⟩ := hy
  constructor
  · rw [UInt8.lt_iff_toNat_lt]; simp; omega
  · rw [← UInt8.toNat_inj]; simp; omega
theorem cmpB_eq : ∀ (a b : List Int), (∀ x ∈ a, byte x) → (∀ x ∈ b, byte x) → cmpB a b = cmpL a b
  | [], [], _, _ => rfl
  | [], y :: b, _, _ => by unfold cmpB Extern.BytealgCompare.cmp; rw [bsz, bsz]; simp [cmpL]
  | x :: a, [], _, _ => by unfold cmpB Extern.BytealgCompare.cmp; rw [bsz, bsz]; simp [cmpL]
  | x :: a, y :: b, ha, hb => by
    have ih := cmpB_eq a b (fun z hz => ha z (by simp [hz])) (fun z hz => hb z (by simp [hz]))
    obtain ⟨o1, o2⟩ := ofNat_lt (ha x (by simp)) (hb y (by simp))
    obtain ⟨o3, _⟩ := ofNat_lt (hb y (by simp)) (ha x (by simp))
    have sz : ∀ (z : Int) (l : List Int), (bytesI (z :: l)).size = (bytesI l).size + 1 := fun z l => by rw [bsz, bsz]; rfl
    have g0 : ∀ (z : Int) (l : List Int), (bytesI (z :: l))[0]! = UInt8.ofNat z.toNat := fun z l => by rw [get_bytes]; simp [Lib.bytesOf]
    have gs : ∀ (z : Int) (l : List Int) (i : Nat), (bytesI (z :: l))[i + 1]! = (bytesI l)[i]! := fun z l i => by rw [get_bytes, get_bytes]; simp [Lib.bytesOf]
    simp only [cmpL, ← ih]
    unfold cmpB Extern.BytealgCompare.cmp
    rw [sz, sz, Nat.add_min_add_right, List.range_succ_eq_map, List.find?_cons, g0, g0]
    by_cases hxy : x = y
    · subst hxy
      have e : (UInt8.ofNat x.toNat != UInt8.ofNat x.toNat) = false := by simp
      rw [e]
      simp only [Int.lt_irrefl, if_false]
      rw [List.find?_map]
      have ec : ((fun i => (bytesI (x :: a))[i]! != (bytesI (x :: b))[i]!) ∘ Nat.succ) = (fun i => (bytesI a)[i]! != (bytesI b)[i]!) := by
        funext i; simp only [Function.comp, Nat.succ_eq_add_one, gs]
      rw [ec]
      cases List.find? (fun i => (bytesI a)[i]! != (bytesI b)[i]!) (List.range (min (bytesI a).size (bytesI b).size)) with
      | none => simp only [Option.map_none]; simp
      | some i => simp only [Option.map_some, Nat.succ_eq_add_one, gs]
    · have e : (UInt8.ofNat x.toNat != UInt8.ofNat y.toNat) = true := by simp only [bne_iff_ne, ne_eq, o2]; exact hxy
      rw [e]
      simp only [g0, o1]
      by_cases h : x < y
      · simp [h]
      · have : y < x := by omega
        simp [h, this]
theorem rCompare_eq {fuel : Nat} {a b : List Int} (ha : a.length ≤ 100000) (hb : b.length ≤ 100000) (hf : a.length < fuel) : ref20_Compare fuel a b = some (cmpL a b) := by
  have key : ∀ (n : Nat) (a' b' : List Int) (i f : Nat), a'.length = n → a = a.take i ++ a' → b = b.take i ++ b' → i ≤ a.length → i ≤ b.length → a'.length < f →
      loopP (fun k1 (s1 : Int) => joinP (fun (s2 : Bool) => iteP s2 (bindP (idx a s1) fun x1 => bindP (idx b s1) fun x2 => iteP (decide (x1 < x2)) (some (-1)) (bindP (idx a s1) fun x3 => bindP (idx b s1) fun x4 => iteP (decide (x3 > x4)) (some 1) (letP (IntKind.i64.wrap (s1 + 1)) fun x5 => k1 (x5))))
        (letP (decide ((a.length : Int) < (b.length : Int))) fun x6 => iteP x6 (some (-1)) (letP (decide ((a.length : Int) > (b.length : Int))) fun x7 => iteP x7 (some 1) (some 0)))) fun j1 => iteP (decide (s1 < (a.length : Int))) (j1 (decide (s1 < (b.length : Int)))) (j1 (false))) f (i : Int) = some (cmpL a' b') := by
    intro n
    induction n with
    | zero =>
      intro a' b' i f hn ha' hb' hia hib hf
      have : a' = [] := List.eq_nil_of_length_eq_zero hn
      subst this
      have hi : i = a.length := by have := congrArg List.length ha'; simp at this; omega
      cases f with
      | zero => simp at hf
      | succ f =>
        have hbl : b.length = i + b'.length := by have := congrArg List.length hb'; rw [List.length_append, List.length_take] at this; omega
        show joinP _ _ = _
        simp only [joinP_eq, show decide ((i : Int) < (a.length : Int)) = false by simp; omega, iteP_false, letP_eq]
        cases b' with
        | nil =>
          simp at hbl
          simp only [show decide ((a.length : Int) < (b.length : Int)) = false by simp; omega, iteP_false, show decide ((a.length : Int) > (b.length : Int)) = false by simp; omega]; rfl
        | cons y b' =>
          simp at hbl
          rw [show decide ((a.length : Int) < (b.length : Int)) = true by simp; omega, iteP_true]; rfl
    | succ n ih =>
      intro a' b' i f hn ha' hb' hia hib hf
      cases a' with
      | nil => simp at hn
      | cons x a' =>
        have hal : a.length = i + (a'.length + 1) := by have := congrArg List.length ha'; rw [List.length_append, List.length_take] at this; simp at this; omega
        have hbl : b.length = i + b'.length := by have := congrArg List.length hb'; rw [List.length_append, List.length_take] at this; omega
        have hax : a[i]? = some x := by rw [ha', List.getElem?_append_right (by simp; omega)]; simp; rw [Nat.min_eq_left hia]; simp
        cases f with
        | zero => simp at hf
        | succ f =>
          show joinP _ _ = _
          simp only [joinP_eq, show decide ((i : Int) < (a.length : Int)) = true by simp; omega, iteP_true]
          cases b' with
          | nil =>
            simp at hbl
            simp only [show decide ((i : Int) < (b.length : Int)) = false by simp; omega, iteP_false, letP_eq, show decide ((a.length : Int) < (b.length : Int)) = false by simp; omega, show decide ((a.length : Int) > (b.length : Int)) = true by simp; omega, iteP_true]; rfl
          | cons y b' =>
            simp at hbl
            have hby : b[i]? = some y := by rw [hb', List.getElem?_append_right (by simp; omega)]; simp; rw [Nat.min_eq_left hib]; simp
            simp only [show decide ((i : Int) < (b.length : Int)) = true by simp; omega, iteP_true, idx_nat, hax, bindP_some, hby]
            simp only [cmpL]
            by_cases h1 : x < y
            · simp [h1]
            · by_cases h2 : y < x
              · simp [h1, h2]
              · simp only [h1, h2, if_false, decide_false, iteP_false, bindP_some, gt_iff_lt, letP_eq, wi i (by omega)]
                have hta : a.take (i + 1) = a.take i ++ [x] := by rw [List.take_add_one, hax]; rfl
                have htb : b.take (i + 1) = b.take i ++ [y] := by rw [List.take_add_one, hby]; rfl
                exact ih a' b' (i + 1) f (by simpa using hn) (by rw [hta]; simpa using ha') (by rw [htb]; simpa using hb') (by omega) (by omega) (by simp at hf; omega)
  unfold ref20_Compare
  exact key a.length a b 0 fuel rfl (by simp) (by simp) (by omega) (by omega) hf
theorem cmpL_self : ∀ a : List Int, cmpL a a = 0
  | [] => rfl
  | x :: a => by simp [cmpL, cmpL_self a]
theorem cmpL_prefix : ∀ (a b : List Int), b ≠ [] → cmpL a (a ++ b) = -1
  | [], b, h => by cases b with | nil => exact absurd rfl h | cons _ _ => rfl
  | x :: a, b, h => by simp [cmpL, cmpL_prefix a b h]
theorem Compare_eq (fuel : Nat) (a b : List Int) (ha : ∀ x ∈ a, byte x) (hb : ∀ x ∈ b, byte x) : frame_Compare fuel a b = some (cmpL a b) := by
  unfold frame_Compare bytes_Compare
  rw [bindP_some, cmpB_eq a b ha hb]
theorem encode_ok {f : Frame_} (h : valid f = true) (hd : ∀ x ∈ f.Data, byte x) : encode f = (body f ++ [crc8 (body f)], 0) ∧ (∀ x ∈ body f ++ [crc8 (body f)], byte x) ∧ 5 ≤ (body f ++ [crc8 (body f)]).length ∧ (body f ++ [crc8 (body f)]).length ≤ 100 := by
  have hs := body_small h hd
  obtain ⟨_, _, h5⟩ := valid_iff.1 h
  refine ⟨by simp [encode, h], fun x hx => ?_, by simp [body, head], by simp [body, head]; omega⟩
  rcases List.mem_append.1 hx with hx | hx
  · exact hs.2 x hx
  · simp at hx; subst hx; exact (crc8_eq hs).2
end Lift
