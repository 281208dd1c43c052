/- Replies, and which messages belong together: closed forms. No program in sight. -/
import Derived.Test.YthjhbfpacbldgaaMessages
set_option linter.unusedVariables false
set_option linter.unusedSimpArgs false
namespace Lift
open Go
instance : DecidableEq Message_ := fun a b => decidable_of_iff (a.To = b.To ∧ a.From = b.From ∧ a.Function = b.Function ∧ a.Command = b.Command ∧ a.ToUnit = b.ToUnit ∧ a.FromUnit = b.FromUnit ∧ a.Sequence = b.Sequence ∧ a.Code = b.Code ∧ a.Data = b.Data) (by cases a; cases b; simp)
theorem mext {a b : Message_} : (a = b) = (a.To = b.To ∧ a.From = b.From ∧ a.Function = b.Function ∧ a.Command = b.Command ∧ a.ToUnit = b.ToUnit ∧ a.FromUnit = b.FromUnit ∧ a.Sequence = b.Sequence ∧ a.Code = b.Code ∧ a.Data = b.Data) := by cases a; cases b; simp
theorem ibeq (a b : Int) : (a == b) = decide (a = b) := rfl
theorem ibne (a b : Int) : (a != b) = !decide (a = b) := rfl
theorem mSame_eq {fuel : Nat} (hf : 5000 < fuel) (a b : Message_) (hl : a.Data.length ≤ 4000) : ref23_Same fuel a b = some (decide (a = b)) := by
  unfold ref23_Same
  simp only [mext, ibeq]
  by_cases h1 : a.To = b.To
  rotate_left
  · simp [h1]
  by_cases h2 : a.From = b.From
  rotate_left
  · simp [h1, h2]
  by_cases h3 : a.Function = b.Function
  rotate_left
  · simp [h1, h2, h3]
  by_cases h4 : a.Command = b.Command
  rotate_left
  · simp [h1, h2, h3, h4]
  by_cases h5 : a.ToUnit = b.ToUnit
  rotate_left
  · simp [h1, h2, h3, h4, h5]
  by_cases h6 : a.FromUnit = b.FromUnit
  rotate_left
  · simp [h1, h2, h3, h4, h5, h6]
  by_cases h7 : a.Sequence = b.Sequence
  rotate_left
  · simp [h1, h2, h3, h4, h5, h6, h7]
  by_cases h8 : a.Code = b.Code
  rotate_left
  · simp [h1, h2, h3, h4, h5, h6, h7, h8]
  simp [h1, h2, h3, h4, h5, h6, h7, h8, Same_eq (fuel := fuel) (a := a.Data) (b := b.Data) (by omega) (by omega)]
def mreply (m : Message_) (code : Int) (data : List Int) : Message_ × Int :=
  if MV m ∧ m.Function % 2 = 0 ∧ data.length ≤ 240 then (⟨m.From, m.To, m.Function + 1, m.Command, m.FromUnit, m.ToUnit, m.Sequence, code, data⟩, 0) else (Message_.z, 1)
theorem mReply_eq {fuel : Nat} {m : Message_} (t : MT m) (code : Int) {data : List Int} (hd : data.length ≤ 1000) : message_Reply fuel m code data = some (mreply m code data) := by
  unfold message_Reply message_request mreply
  rw [mValid_eq fuel t.fn.1, bindP_some, letP_eq, joinP_eq, tm2 t.fn.1]
  by_cases h : MV m
  · by_cases c : m.Function % 2 = 0
    · by_cases l : data.length ≤ 240
      · have l2 : ¬ 240 < (data.length : Int) := by omega
        have w : IntKind.u8.wrap (m.Function + 1) = m.Function + 1 := by
          have := h.2.2.2.2.1
          have := t.fn.1
          rw [w_u8]; omega
        simp [h, c, l, l2, w, clone_eq (fuel := fuel) (l := data) (by omega)]
      · have l2 : 240 < (data.length : Int) := by omega
        simp [h, c, l, l2]
    · have e : (m.Function % 2 == 0) = false := by simpa using c
      simp [h, c, e]
  · simp [h]
theorem rReply_eq {fuel : Nat} (hf : 5000 < fuel) {m : Message_} (t : MT m) (code : Int) {data : List Int} (hd : data.length ≤ 1000) : ref23_Reply fuel m code data = some (mreply m code data) := by
  unfold ref23_Reply mreply
  rw [rValid23_eq fuel t.fn.1, bindP_some, joinP_eq, tm2 t.fn.1]
  by_cases h : MV m
  · by_cases c : m.Function % 2 = 0
    · by_cases l : data.length ≤ 240
      · have l2 : ¬ 240 < (data.length : Int) := by omega
        have w : IntKind.u8.wrap (m.Function + 1) = m.Function + 1 := by
          have := h.2.2.2.2.1
          have := t.fn.1
          rw [w_u8]; omega
        simp [h, c, l, l2, w, Copy_eq (fuel := fuel) (l := data) (by omega) (by omega)]
      · have l2 : 240 < (data.length : Int) := by omega
        simp [h, c, l, l2]
    · have e : (m.Function % 2 != 0) = true := by simpa using c
      simp [h, c, e]
  · simp [h]
def MM (m r : Message_) : Prop := (MV m ∧ m.Function % 2 = 0) ∧ MV r ∧ r.To = m.From ∧ r.From = m.To ∧ r.Function = m.Function + 1 ∧ r.Command = m.Command ∧ r.ToUnit = m.FromUnit ∧ r.FromUnit = m.ToUnit ∧ r.Sequence = m.Sequence
instance (m r : Message_) : Decidable (MM m r) := by unfold MM; infer_instance
theorem MV.len {m : Message_} (h : MV m) : m.Data.length ≤ 240 := h.2.2.2.2.2.2.2.2.2.2.2.1
theorem mMatches_eq {fuel : Nat} {m r : Message_} (t : MT m) (tr : MT r) : message_Matches fuel m r = some (decide (MM m r)) := by
  unfold message_Matches
  rw [mReply_eq t r.Code tr.le, bindP_some, joinP_eq, mValid_eq fuel tr.fn.1]
  by_cases hr : MV r
  · have hl := hr.len
    by_cases h : MV m ∧ m.Function % 2 = 0
    · have e : mreply m r.Code r.Data = (⟨m.From, m.To, m.Function + 1, m.Command, m.FromUnit, m.ToUnit, m.Sequence, r.Code, r.Data⟩, 0) := by simp [mreply, h, hl]
      rw [e]
      simp only [bne_self_eq_false, iteP_false, bindP_some, hr, decide_true, Bool.not_true, joinP_eq, letP_eq, ibeq]
      by_cases h1 : r.To = m.From
      rotate_left
      · simp [h1, MM, Ne.symm h1]
      by_cases h2 : r.From = m.To
      rotate_left
      · simp [h1, h2, MM, Ne.symm h2]
      by_cases h3 : r.Function = m.Function + 1
      rotate_left
      · simp [h1, h2, h3, MM, Ne.symm h3]
      by_cases h4 : r.Command = m.Command
      rotate_left
      · simp [h1, h2, h3, h4, MM, Ne.symm h4]
      by_cases h5 : r.ToUnit = m.FromUnit
      rotate_left
      · simp [h1, h2, h3, h4, h5, MM, Ne.symm h5]
      by_cases h6 : r.FromUnit = m.ToUnit
      rotate_left
      · simp [h1, h2, h3, h4, h5, h6, MM, Ne.symm h6]
      by_cases h7 : r.Sequence = m.Sequence
      rotate_left
      · simp [h1, h2, h3, h4, h5, h6, h7, MM, Ne.symm h7]
      simp [h, h1, h2, h3, h4, h5, h6, h7, MM, hr]
    · have e : mreply m r.Code r.Data = (Message_.z, 1) := by
        unfold mreply; rw [if_neg (fun hc => h ⟨hc.1, hc.2.1⟩)]
      have : ¬ MM m r := fun hc => h hc.1
      rw [e]; simp [this]
  · have : ¬ MM m r := fun hc => hr hc.2.1
    by_cases h : (mreply m r.Code r.Data).2 = 0
    · simp [h, hr, this]
    · have e : ((mreply m r.Code r.Data).2 != 0) = true := by simpa using h
      simp [e, this]
theorem rMatches_eq {fuel : Nat} (hf : 5000 < fuel) {m r : Message_} (t : MT m) (tr : MT r) : ref23_Matches fuel m r = some (decide (MM m r)) := by
  unfold ref23_Matches
  rw [rValid23_eq fuel tr.fn.1, bindP_some, joinP_eq, tm2 tr.fn.1, rReply_eq hf t r.Code tr.le]
  by_cases hr : MV r
  · have hl := hr.len
    by_cases hp : r.Function % 2 = 1
    · simp only [hr, hp, decide_true, Bool.not_true, iteP_false, bne_self_eq_false, bindP_some]
      by_cases h : MV m ∧ m.Function % 2 = 0
      · have e : mreply m r.Code r.Data = (⟨m.From, m.To, m.Function + 1, m.Command, m.FromUnit, m.ToUnit, m.Sequence, r.Code, r.Data⟩, 0) := by simp [mreply, h, hl]
        rw [e]
        simp only [beq_self_eq_true, iteP_true]
        rw [mSame_eq hf _ _ (by show r.Data.length ≤ 4000; omega), bindP_some]
        congr 1
        simp only [MM, mext, h, hr, true_and, and_true, decide_eq_decide]
        constructor
        · rintro ⟨h1, h2, h3, h4, h5, h6, h7⟩; exact ⟨h1.symm, h2.symm, h3.symm, h4.symm, h5.symm, h6.symm, h7.symm⟩
        · rintro ⟨h1, h2, h3, h4, h5, h6, h7⟩; exact ⟨h1.symm, h2.symm, h3.symm, h4.symm, h5.symm, h6.symm, h7.symm⟩
      · have e : mreply m r.Code r.Data = (Message_.z, 1) := by
          unfold mreply; rw [if_neg (fun hc => h ⟨hc.1, hc.2.1⟩)]
        have : ¬ MM m r := fun hc => h hc.1
        rw [e]; simp [this]
    · have : ¬ MM m r := by
        rintro ⟨⟨_, h1⟩, _, _, _, h2, _⟩
        omega
      have e : (r.Function % 2 != 1) = true := by simpa using hp
      simp [hr, e, this]
  · have : ¬ MM m r := fun hc => hr hc.2.1
    simp [hr, this]
theorem mreply_MT {m : Message_} (t : MT m) {code : Int} {data : List Int} (hc : byte code) (hd : ∀ x ∈ data, byte x) : MT (mreply m code data).1 ∧ (mreply m code data).1.Data.length ≤ 240 := by
  unfold mreply
  split
  · rename_i h
    have := h.1.2.2.2.2.1
    exact ⟨⟨t.fr, t.to, ⟨by have := t.fn.1; simp only; omega, by simp only; omega⟩, t.cm, hc, t.fu, t.tu, t.sq, hd, by simp only; omega⟩, h.2.2⟩
  · refine ⟨⟨?_, ?_, ?_, ?_, ?_, ?_, ?_, ?_, ?_, ?_⟩, ?_⟩ <;> simp [Message_.z, byte, okI, Lit.wf, IntKind.min, IntKind.max, IntKind.bits, IntKind.signed]
end Lift
