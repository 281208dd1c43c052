/- Messages: which are valid, and their bytes: closed forms. No program in sight. -/
import Derived.Test.YthjhbfpacbldgaaSum8
import Derived.Test.YthjhbfpacbldgaaEv
set_option linter.unusedVariables false
set_option linter.unusedSimpArgs false
namespace Lift
open Go

theorem rSeal8_eq' {fuel : Nat} {l : List Int} (h : Small l) (hf : 5000 < fuel) : ref01_Seal8 fuel l = some (l ++ [sum8 l]) := by
  have := h.1
  unfold ref01_Seal8
  rw [Copy_eq (by omega) (by omega), bindP_some, ref01_Sum8_eq h hf, bindP_some, app_ok (by simp; omega)]; rfl

/-- The fields are of their types. -/
structure MT (m : Message_) : Prop where
  to : byte m.To
  fr : byte m.From
  fn : byte m.Function
  cm : byte m.Command
  cd : byte m.Code
  tu : okI .i64 m.ToUnit
  fu : okI .i64 m.FromUnit
  sq : okI .i64 m.Sequence
  da : ∀ x ∈ m.Data, byte x
  le : m.Data.length ≤ 1000
theorem MT.of {m : Message_} (h : Message_.ok m) (hl : m.Data.length ≤ 1000) : MT m := by
  obtain ⟨h1, h2, h3, h4, h5, h6, h7, h8, h9, _⟩ := h
  exact ⟨okI_u8.1 h1, okI_u8.1 h2, okI_u8.1 h3, okI_u8.1 h4, okI_u8.1 h8, h5, h6, h7, fun x hx => okI_u8.1 (h9.2 x hx), hl⟩
def MV (m : Message_) : Prop := 8 ≤ m.To ∧ m.To ≤ 119 ∧ 8 ≤ m.From ∧ m.From ≤ 119 ∧ m.Function ≤ 63 ∧ 0 ≤ m.ToUnit ∧ m.ToUnit ≤ 3 ∧ 0 ≤ m.FromUnit ∧ m.FromUnit ≤ 3 ∧ 0 ≤ m.Sequence ∧ m.Sequence ≤ 63 ∧ m.Data.length ≤ 240 ∧ (m.Function % 2 = 1 ∨ m.Code = 0)
instance (m : Message_) : Decidable (MV m) := by unfold MV; infer_instance
theorem tm2 {n : Int} (h : 0 ≤ n) : Int.tmod n 2 = n % 2 := Int.tmod_eq_emod_of_nonneg h
theorem mValid_eq (fuel : Nat) {m : Message_} (h : 0 ≤ m.Function) : message_Valid fuel m = some (decide (MV m)) := by
  unfold message_Valid message_address message_unit message_request
  simp only [letP_eq, joinP_eq, tm2 h]
  by_cases a1 : 8 ≤ m.To
  rotate_left
  · simp [a1, MV]
  by_cases a2 : m.To ≤ 119
  rotate_left
  · simp [a1, a2, MV]
  by_cases a3 : 8 ≤ m.From
  rotate_left
  · simp [a1, a2, a3, MV]
  by_cases a4 : m.From ≤ 119
  rotate_left
  · simp [a1, a2, a3, a4, MV]
  by_cases a5 : m.Function ≤ 63
  rotate_left
  · have : 64 ≤ m.Function := by omega
    simp [a1, a2, a3, a4, a5, this, MV]
  have b5 : ¬ 64 ≤ m.Function := by omega
  by_cases a6 : 0 ≤ m.ToUnit
  rotate_left
  · simp [a1, a2, a3, a4, a5, b5, a6, MV]
  by_cases a7 : m.ToUnit ≤ 3
  rotate_left
  · have : ¬ m.ToUnit < 4 := by omega
    simp [a1, a2, a3, a4, a5, b5, a6, a7, this, MV]
  have b7 : m.ToUnit < 4 := by omega
  by_cases a8 : 0 ≤ m.FromUnit
  rotate_left
  · simp [a1, a2, a3, a4, a5, b5, a6, a7, b7, a8, MV]
  by_cases a9 : m.FromUnit ≤ 3
  rotate_left
  · have : ¬ m.FromUnit < 4 := by omega
    simp [a1, a2, a3, a4, a5, b5, a6, a7, b7, a8, a9, this, MV]
  have b9 : m.FromUnit < 4 := by omega
  by_cases c1 : 0 ≤ m.Sequence
  rotate_left
  · simp [a1, a2, a3, a4, a5, b5, a6, a7, b7, a8, a9, b9, c1, MV]
  by_cases c2 : m.Sequence ≤ 63
  rotate_left
  · have : ¬ m.Sequence < 64 := by omega
    simp [a1, a2, a3, a4, a5, b5, a6, a7, b7, a8, a9, b9, c1, c2, this, MV]
  have d2 : m.Sequence < 64 := by omega
  by_cases c3 : m.Data.length ≤ 240
  rotate_left
  · have : ¬ (m.Data.length : Int) ≤ 240 := by omega
    simp [a1, a2, a3, a4, a5, b5, a6, a7, b7, a8, a9, b9, c1, c2, d2, c3, this, MV]
  have d3 : (m.Data.length : Int) ≤ 240 := by omega
  by_cases c4 : m.Function % 2 = 1
  · have : ¬ m.Function % 2 = 0 := by omega
    simp [a1, a2, a3, a4, a5, b5, a6, a7, b7, a8, a9, b9, c1, c2, d2, c3, d3, c4, MV]
  · have d4 : m.Function % 2 = 0 := by omega
    simp [a1, a2, a3, a4, a5, b5, a6, a7, b7, a8, a9, b9, c1, c2, d2, c3, d3, d4, MV]
    rfl
theorem rValid23_eq (fuel : Nat) {m : Message_} (h : 0 ≤ m.Function) : ref23_Valid fuel m = some (decide (MV m)) := by
  unfold ref23_Valid ref20_Address
  simp only [letP_eq, tm2 h]
  by_cases a1 : 8 ≤ m.To
  rotate_left
  · simp [a1, MV]
  by_cases a2 : m.To ≤ 119
  rotate_left
  · simp [a1, a2, MV]
  by_cases a3 : 8 ≤ m.From
  rotate_left
  · simp [a1, a2, a3, MV]
  by_cases a4 : m.From ≤ 119
  rotate_left
  · simp [a1, a2, a3, a4, MV]
  by_cases a5 : m.Function ≤ 63
  rotate_left
  · simp [a1, a2, a3, a4, a5, MV]
  by_cases a6 : 0 ≤ m.ToUnit
  rotate_left
  · simp [a1, a2, a3, a4, a5, a6, MV]
  by_cases a7 : m.ToUnit ≤ 3
  rotate_left
  · simp [a1, a2, a3, a4, a5, a6, a7, MV]
  by_cases a8 : 0 ≤ m.FromUnit
  rotate_left
  · simp [a1, a2, a3, a4, a5, a6, a7, a8, MV]
  by_cases a9 : m.FromUnit ≤ 3
  rotate_left
  · simp [a1, a2, a3, a4, a5, a6, a7, a8, a9, MV]
  by_cases c1 : 0 ≤ m.Sequence
  rotate_left
  · simp [a1, a2, a3, a4, a5, a6, a7, a8, a9, c1, MV]
  by_cases c2 : m.Sequence ≤ 63
  rotate_left
  · simp [a1, a2, a3, a4, a5, a6, a7, a8, a9, c1, c2, MV]
  by_cases c3 : m.Data.length ≤ 240
  rotate_left
  · have : ¬ (m.Data.length : Int) ≤ 240 := by omega
    simp [a1, a2, a3, a4, a5, a6, a7, a8, a9, c1, c2, c3, this, MV]
  have d3 : (m.Data.length : Int) ≤ 240 := by omega
  by_cases c4 : m.Function % 2 = 1
  · simp [a1, a2, a3, a4, a5, a6, a7, a8, a9, c1, c2, c3, d3, c4, MV]
  · have d4 : m.Function % 2 = 0 := by omega
    simp [a1, a2, a3, a4, a5, a6, a7, a8, a9, c1, c2, c3, d3, d4, MV]
    rfl

/-! ### the bytes -/
def mhead (m : Message_) : List Int := [2 * m.To, 4 * m.Function + m.ToUnit]
def mbody (m : Message_) : List Int := [2 * m.From, 4 * m.Sequence + m.FromUnit, m.Command] ++ (if m.Function % 2 = 1 then [m.Code] else []) ++ m.Data
def mbytes (m : Message_) : List Int := (mhead m ++ [sum8 (mhead m)]) ++ (mbody m ++ [sum8 (mbody m)])
theorem mhead_small {m : Message_} (h : MV m) (t : MT m) : Small (mhead m) := by
  obtain ⟨h1, h2, h3, h4, h5, h6, h7, _⟩ := h
  have := t.fn.1
  refine ⟨by simp [mhead], fun x hx => ?_⟩
  simp only [mhead, List.mem_cons, List.not_mem_nil, or_false] at hx
  rcases hx with rfl | rfl <;> constructor <;> omega
theorem mbody_small {m : Message_} (h : MV m) (t : MT m) : Small (mbody m) := by
  obtain ⟨h1, h2, h3, h4, h5, h6, h7, h8, h9, h10, h11, h12, _⟩ := h
  refine ⟨by simp only [mbody]; split <;> simp <;> omega, fun x hx => ?_⟩
  simp only [mbody, List.mem_append, List.mem_cons, List.not_mem_nil, or_false] at hx
  rcases hx with ((rfl | rfl | rfl) | hx) | hx
  · constructor <;> omega
  · constructor <;> omega
  · exact t.cm
  · split at hx
    · simp at hx; subst hx; exact t.cd
    · simp at hx
  · exact t.da x hx
theorem mbody_len {m : Message_} (h : MV m) : (mbody m).length ≤ 244 ∧ 3 ≤ (mbody m).length := by
  have := h.2.2.2.2.2.2.2.2.2.2.2.1
  simp only [mbody]; split <;> simp <;> omega
theorem mhead_eq {m : Message_} (h : MV m) (t : MT m) : [(IntKind.u8.wrap (2 * m.To)), (IntKind.u8.wrap ((IntKind.u8.wrap (4 * m.Function)) + (IntKind.u8.wrap m.ToUnit)))] = mhead m := by
  obtain ⟨h1, h2, h3, h4, h5, h6, h7, _⟩ := h
  have := t.fn.1
  simp only [w_u8, mhead, List.cons.injEq, and_true]
  omega
theorem mthree_eq {m : Message_} (h : MV m) : [(IntKind.u8.wrap (2 * m.From)), (IntKind.u8.wrap (IntKind.i64.wrap ((IntKind.i64.wrap (4 * m.Sequence)) + m.FromUnit))), m.Command] = [2 * m.From, 4 * m.Sequence + m.FromUnit, m.Command] := by
  obtain ⟨h1, h2, h3, h4, h5, h6, h7, h8, h9, h10, h11, h12, _⟩ := h
  rw [w_i64 (n := 4 * m.Sequence) (by omega) (by omega), w_i64 (by omega) (by omega)]
  simp only [w_u8, List.cons.injEq, and_true]
  omega
theorem mEncode_eq {fuel : Nat} (hf : 5000 < fuel) {m : Message_} (h : MV m) (t : MT m) : message_encode fuel m = some (mbytes m) := by
  have hs := mhead_small h t
  have hb := mbody_small h t
  have hl := mbody_len h
  have hd : m.Data.length ≤ 240 := h.2.2.2.2.2.2.2.2.2.2.2.1
  unfold message_encode message_request
  rw [mhead_eq h t, Seal8_eq hs hf, bindP_some, letP_eq, bindP_some, joinP_eq, mthree_eq h, tm2 t.fn.1]
  by_cases c : m.Function % 2 = 1
  · have e1 : (m.Function % 2 == 0) = false := by simp; omega
    rw [e1, Bool.not_false, iteP_true, app_ok (by simp), bindP_some]
    have e2 : [2 * m.From, 4 * m.Sequence + m.FromUnit, m.Command] ++ [m.Code] ++ m.Data = mbody m := by simp [mbody, c]
    show bindP (app 1 _ m.Data) _ = _
    rw [app_ok (by simp; omega), bindP_some, e2, Seal8_eq hb hf, bindP_some, app_ok (by simp [mhead]; omega)]
    rfl
  · have e1 : (m.Function % 2 == 0) = true := by simp; omega
    rw [e1, Bool.not_true, iteP_false]
    have e2 : [2 * m.From, 4 * m.Sequence + m.FromUnit, m.Command] ++ m.Data = mbody m := by simp [mbody, c]
    show bindP (app 1 _ m.Data) _ = _
    rw [app_ok (by simp; omega), bindP_some, e2, Seal8_eq hb hf, bindP_some, app_ok (by simp [mhead]; omega)]
    rfl
theorem rEncode23_eq {fuel : Nat} (hf : 5000 < fuel) {m : Message_} (h : MV m) (t : MT m) : ref23_encode fuel m = some (mbytes m) := by
  have hs := mhead_small h t
  have hb := mbody_small h t
  have hl := mbody_len h
  have hd : m.Data.length ≤ 240 := h.2.2.2.2.2.2.2.2.2.2.2.1
  unfold ref23_encode
  rw [mhead_eq h t, rSeal8_eq' hs hf, bindP_some, joinP_eq, mthree_eq h, tm2 t.fn.1]
  by_cases c : m.Function % 2 = 1
  · have e1 : (m.Function % 2 == 1) = true := by simpa using c
    rw [e1, iteP_true, app_ok (by simp), bindP_some]
    have e2 : [2 * m.From, 4 * m.Sequence + m.FromUnit, m.Command] ++ [m.Code] ++ m.Data = mbody m := by simp [mbody, c]
    show bindP (app 1 _ m.Data) _ = _
    rw [app_ok (by simp; omega), bindP_some, e2, rSeal8_eq' hb hf, bindP_some, app_ok (by simp [mhead]; omega)]
    rfl
  · have e1 : (m.Function % 2 == 1) = false := by simpa using c
    rw [e1, iteP_false]
    have e2 : [2 * m.From, 4 * m.Sequence + m.FromUnit, m.Command] ++ m.Data = mbody m := by simp [mbody, c]
    show bindP (app 1 _ m.Data) _ = _
    rw [app_ok (by simp; omega), bindP_some, e2, rSeal8_eq' hb hf, bindP_some, app_ok (by simp [mhead]; omega)]
    rfl
def mreq (m : Message_) : List Int × Int := if MV m ∧ m.Function % 2 = 0 then (mbytes m, 0) else ([], 1)
def mres (m : Message_) : List Int × Int := if MV m ∧ m.Function % 2 = 1 then (mbytes m, 0) else ([], 1)
theorem mRequest_eq {fuel : Nat} (hf : 5000 < fuel) {m : Message_} (t : MT m) : message_Request fuel m = some (mreq m) := by
  unfold message_Request message_request mreq
  rw [mValid_eq fuel t.fn.1, bindP_some, letP_eq, joinP_eq, tm2 t.fn.1]
  by_cases h : MV m
  · by_cases c : m.Function % 2 = 0
    · simp [h, c, mEncode_eq hf h t]
    · have e : (m.Function % 2 == 0) = false := by simpa using c
      simp [h, c, e]
  · simp [h]
theorem mResponse_eq {fuel : Nat} (hf : 5000 < fuel) {m : Message_} (t : MT m) : message_Response fuel m = some (mres m) := by
  unfold message_Response message_request mres
  rw [mValid_eq fuel t.fn.1, bindP_some, letP_eq, joinP_eq, tm2 t.fn.1]
  by_cases h : MV m
  · by_cases c : m.Function % 2 = 0
    · simp [h, c]
    · have : m.Function % 2 = 1 := by omega
      simp [h, this, mEncode_eq hf h t]
  · simp [h]
theorem rRequest_eq {fuel : Nat} (hf : 5000 < fuel) {m : Message_} (t : MT m) : ref23_Request fuel m = some (mreq m) := by
  unfold ref23_Request mreq
  rw [rValid23_eq fuel t.fn.1, bindP_some, joinP_eq, tm2 t.fn.1]
  by_cases h : MV m
  · by_cases c : m.Function % 2 = 0
    · simp [h, c, rEncode23_eq hf h t]
    · have e : (m.Function % 2 != 0) = true := by simpa using c
      simp [h, c, e]
  · simp [h]
theorem rResponse_eq {fuel : Nat} (hf : 5000 < fuel) {m : Message_} (t : MT m) : ref23_Response fuel m = some (mres m) := by
  unfold ref23_Response mres
  rw [rValid23_eq fuel t.fn.1, bindP_some, joinP_eq, tm2 t.fn.1]
  by_cases h : MV m
  · by_cases c : m.Function % 2 = 1
    · simp [h, c, rEncode23_eq hf h t]
    · have e : (m.Function % 2 != 1) = true := by simpa using c
      simp [h, c, e]
  · simp [h]
theorem mbytes_small {m : Message_} (h : MV m) (t : MT m) : Small (mbytes m) ∧ 7 ≤ (mbytes m).length ∧ (mbytes m).length ≤ 248 := by
  have hs := mhead_small h t
  have hb := mbody_small h t
  have hl := mbody_len h
  have hlen : (mbytes m).length = (mbody m).length + 4 := by simp [mbytes, mhead]
  refine ⟨⟨by omega, fun x hx => ?_⟩, by omega, by omega⟩
  simp only [mbytes, List.mem_append, List.mem_cons, List.not_mem_nil, or_false] at hx
  rcases hx with (hx | rfl) | (hx | rfl)
  · exact hs.2 x hx
  · exact sum8_byte _
  · exact hb.2 x hx
  · exact sum8_byte _
theorem mreq_len {m : Message_} (t : MT m) : (mreq m).1.length ≤ 248 := by
  unfold mreq; split
  · rename_i h; exact (mbytes_small h.1 t).2.2
  · simp
theorem mres_len {m : Message_} (t : MT m) : (mres m).1.length ≤ 248 := by
  unfold mres; split
  · rename_i h; exact (mbytes_small h.1 t).2.2
  · simp
end Lift
