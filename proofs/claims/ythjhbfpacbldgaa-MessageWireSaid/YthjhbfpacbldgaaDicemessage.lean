/- The messages that the dice give. No program in sight. -/
import Derived.Test.YthjhbfpacbldgaaDicebytes
import Derived.Test.YthjhbfpacbldgaaMessages
set_option linter.unusedVariables false
set_option linter.unusedSimpArgs false
namespace Lift
open Go
theorem next_nat (fuel : Nat) {d : made_Dice} (h : DOk d) {m : Nat} (h1 : 0 < m) (h2 : m ≤ 1000000) : ∃ (r : Nat) (d' : made_Dice), made_Dice_Next fuel d (m : Int) = some ((r : Int), d') ∧ r < m ∧ DOk d' := by
  obtain ⟨r, d', e, r1, r2, hd⟩ := Next_ok fuel h (m := (m : Int)) (by omega) (by omega)
  exact ⟨r.toNat, d', by rw [e, Int.toNat_of_nonneg r1], by omega, hd⟩
theorem okI_small {n : Int} (h1 : -1000000 ≤ n) (h2 : n ≤ 1000000) : okI .i64 n := okI_i64.2 ⟨by omega, by omega⟩
theorem mk_zeros {n : Nat} (h : n ≤ 100000) : mk 1 (0 : Int) (n : Int) = some (List.replicate n 0) := by
  have h1 : 0 ≤ (n : Int) ∧ (n : Int).toNat * 1 ≤ 140737488355328 := by constructor <;> omega
  rw [mk, if_pos h1]; simp
theorem zeros_byte {n : Nat} : ∀ x ∈ List.replicate n (0 : Int), byte x := fun x hx => by rw [List.eq_of_mem_replicate hx]; constructor <;> omega
/-- A message of the dice: its fields are of their types, it is valid, it is a request or a response. -/
def MD (resp : Bool) (m : Message_) : Prop := MT m ∧ MV m ∧ m.Function % 2 = (if resp then 1 else 0) ∧ m.To ≤ 100 ∧ m.From ≤ 100
theorem Message_ok {fuel : Nat} (hf : 5000 < fuel) {d : made_Dice} (h : DOk d) (resp : Bool) : ∃ m d', made_Dice_Message fuel d resp = some (m, d') ∧ MD resp m ∧ DOk d' := by
  suffices hE : Ev (made_Dice_Message fuel d resp) (fun p => MD resp p.1 ∧ DOk p.2) by
    obtain ⟨⟨m, d'⟩, e, h1, h2⟩ := hE; exact ⟨m, d', e, h1, h2⟩
  unfold made_Dice_Message
  obtain ⟨y1, d1, e1, r1, h1⟩ := next_nat fuel h (m := 4) (by omega) (by omega)
  obtain ⟨y2, d2, e2, r2, h2⟩ := next_nat fuel h1 (m := 4) (by omega) (by omega)
  obtain ⟨y3, d3, e3, r3, h3⟩ := next_nat fuel h2 (m := 32) (by omega) (by omega)
  obtain ⟨y4, d4, e4, b4, h4⟩ := Byte_ok fuel h3
  obtain ⟨y5, d5, e5, r5, h5⟩ := next_nat fuel h4 (m := 4) (by omega) (by omega)
  obtain ⟨y6, d6, e6, r6, h6⟩ := next_nat fuel h5 (m := 4) (by omega) (by omega)
  obtain ⟨y7, d7, e7, r7, h7⟩ := next_nat fuel h6 (m := 64) (by omega) (by omega)
  obtain ⟨y8, d8, e8, l8, b8, h8⟩ := Bytes_ok hf h7 (n := 8) (by omega) (by omega)
  refine Ev.to e1 (Ev.to e2 (Ev.to e3 (Ev.to e4 (Ev.to e5 (Ev.to e6 (Ev.to e7 (Ev.to e8 ?_)))))))
  have w1 : IntKind.u8.wrap (IntKind.i64.wrap (16 + (y1 : Int))) = 16 + (y1 : Int) := by rw [w_i64 (by omega) (by omega), w_u8]; omega
  have w2 : IntKind.u8.wrap (IntKind.i64.wrap (64 + (y2 : Int))) = 64 + (y2 : Int) := by rw [w_i64 (by omega) (by omega), w_u8]; omega
  have w3 : IntKind.u8.wrap (IntKind.i64.wrap (2 * (y3 : Int))) = 2 * (y3 : Int) := by rw [w_i64 (by omega) (by omega), w_u8]; omega
  have w4 : IntKind.u8.wrap (2 * (y3 : Int) + 1) = 2 * (y3 : Int) + 1 := by rw [w_u8]; omega
  simp only [w1, w2, w3, w4]
  refine Ev.join (fun s => MD resp s.2 ∧ DOk s.1) (fun s hs => ?_) (fun j hj => ?_)
  · obtain ⟨dd, m⟩ := s
    obtain ⟨⟨hT, hV, hP⟩, hd⟩ := hs
    obtain ⟨b, d9, e9, h9⟩ := Bool_ok fuel hd (m := 40) (by omega) (by omega)
    refine Ev.to e9 (Ev.ite (fun _ => ?_) (fun _ => Ev.ret ⟨⟨hT, hV, hP⟩, h9⟩))
    refine Ev.to (a := List.replicate 240 0) (mk_zeros (n := 240) (by omega)) (Ev.letP (Ev.ret ⟨⟨⟨hT.to, hT.fr, hT.fn, hT.cm, hT.cd, hT.tu, hT.fu, hT.sq, zeros_byte, by show (List.replicate 240 (0 : Int)).length ≤ 1000; rw [List.length_replicate]; omega⟩, ?_, hP⟩, h9⟩))
    obtain ⟨q1, q2, q3, q4, q5, q6, q7, q8, q9, q10, q11, _, q13⟩ := hV
    exact ⟨q1, q2, q3, q4, q5, q6, q7, q8, q9, q10, q11, by show (List.replicate 240 (0 : Int)).length ≤ 240; rw [List.length_replicate]; omega, q13⟩
  · cases resp with
    | true =>
      obtain ⟨y10, d10, e10, b10, h10⟩ := Byte_ok fuel h8
      refine Ev.iteT rfl (Ev.letP (Ev.to e10 (Ev.letP (hj _ ⟨⟨⟨?_, ?_, ?_, b4, b10, okI_small ?_ ?_, okI_small ?_ ?_, okI_small ?_ ?_, b8, ?_⟩, ⟨?_, ?_, ?_, ?_, ?_, ?_, ?_, ?_, ?_, ?_, ?_, ?_, .inl ?_⟩, ?_, ?_, ?_⟩, h10⟩))))
      all_goals simp only [if_true]
      all_goals first | omega | (constructor <;> omega)
    | false =>
      refine Ev.iteF rfl (hj _ ⟨⟨⟨?_, ?_, ?_, b4, ?_, okI_small ?_ ?_, okI_small ?_ ?_, okI_small ?_ ?_, b8, ?_⟩, ⟨?_, ?_, ?_, ?_, ?_, ?_, ?_, ?_, ?_, ?_, ?_, ?_, .inr rfl⟩, ?_, ?_, ?_⟩, h8⟩)
      all_goals simp only [Bool.false_eq_true, if_false]
      all_goals first | omega | (constructor <;> omega)
end Lift
