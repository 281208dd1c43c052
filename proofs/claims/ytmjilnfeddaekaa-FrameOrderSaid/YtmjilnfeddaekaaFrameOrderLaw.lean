/- The plain law of FrameOrder. uses: crc8 lists sealc frames law20 dice diceframe refframes
-/
import Derived.Test.YtmjilnfeddaekaaLaw20
import Derived.Test.YtmjilnfeddaekaaDiceframe
import Derived.Test.YtmjilnfeddaekaaRefframes
namespace Lift
open Go
theorem cmpL_anti : ∀ a b : List Int, cmpL a b = 0 - cmpL b a
  | [], [] => rfl
  | [], _ :: _ => rfl
  | _ :: _, [] => rfl
  | x :: a, y :: b => by
    simp only [cmpL]
    have := cmpL_anti a b
    by_cases h1 : x < y
    · have : ¬ y < x := by omega
      simp [h1, this]
    · by_cases h2 : y < x <;> simp only [h1, h2, if_true, if_false] <;> omega
theorem cmpL_range : ∀ a b : List Int, -1 ≤ cmpL a b ∧ cmpL a b ≤ 1
  | [], [] => by simp [cmpL]
  | [], _ :: _ => by simp [cmpL]
  | _ :: _, [] => by simp [cmpL]
  | x :: a, y :: b => by
    simp only [cmpL]
    have := cmpL_range a b
    split
    · omega
    · split <;> omega
theorem cmpL_zero : ∀ a b : List Int, cmpL a b = 0 → a = b
  | [], [] => fun _ => rfl
  | [], _ :: _ => fun h => by simp [cmpL] at h
  | _ :: _, [] => fun h => by simp [cmpL] at h
  | x :: a, y :: b => fun h => by
    simp only [cmpL] at h
    split at h
    · omega
    · split at h
      · omega
      · rw [cmpL_zero a b h]; congr 1; omega
theorem cmpL_trans : ∀ a b c : List Int, cmpL a b ≤ 0 → cmpL b c ≤ 0 → cmpL a c ≤ 0 ∧ (cmpL a c = 0 → cmpL a b = 0 ∧ cmpL b c = 0)
  | [], [], [] => by simp [cmpL]
  | [], [], _ :: _ => by simp [cmpL]
  | [], _ :: _, [] => by simp [cmpL]
  | [], _ :: _, _ :: _ => by simp [cmpL]
  | _ :: _, [], [] => by simp [cmpL]
  | _ :: _, [], _ :: _ => by simp [cmpL]
  | _ :: _, _ :: _, [] => by simp [cmpL]
  | x :: a, y :: b, z :: c => by
    simp only [cmpL]
    intro h1 h2
    have ih := cmpL_trans a b c
    by_cases p : x < y
    · by_cases q : y < z
      · have : x < z := by omega
        simp [this]
      · by_cases r : z < y
        · simp only [q, r, if_true, if_false] at h2; omega
        · have : x < z := by omega
          simp [this]
    · by_cases p2 : y < x
      · simp only [p, p2, if_true, if_false] at h1; omega
      · have e : x = y := by omega
        subst e
        simp only [Int.lt_irrefl, if_false] at h1 ⊢
        by_cases q : x < z
        · simp [q]
        · by_cases r : z < x
          · simp only [q, r, if_true, if_false] at h2; omega
          · simp only [q, r, if_false] at h2 ⊢
            exact ih h1 h2
instance : DecidableEq Frame_ := fun f g => decidable_of_iff (f.To = g.To ∧ f.From = g.From ∧ f.Data = g.Data) (by cases f; cases g; simp)
theorem rSame_eq (f g : Frame_) (hf : f.Data.length ≤ 100) : ref20_Same 6000 f g = some (decide (f = g)) := by
  unfold ref20_Same
  obtain ⟨t1, r1, d1⟩ := f
  obtain ⟨t2, r2, d2⟩ := g
  simp only at hf
  by_cases h1 : t1 = t2
  · by_cases h2 : r1 = r2
    · simp only [h1, h2, beq_self_eq_true, iteP_true]
      rw [Same_eq (by omega) (by omega), bindP_some]; simp
    · have e2 : (r1 == r2) = false := by simpa using h2
      rw [e2]; simp [h1, h2]
  · have e1 : (t1 == t2) = false := by simpa using h1
    rw [e1]; simp [h1]
theorem encode_inj {f g : Frame_} (h : body f ++ [crc8 (body f)] = body g ++ [crc8 (body g)]) : f = g := by
  have hb : body f = body g := (List.append_inj' h (by simp)).1
  obtain ⟨t1, r1, d1⟩ := f
  obtain ⟨t2, r2, d2⟩ := g
  simp only [body, head, List.cons_append, List.nil_append, List.cons.injEq] at hb
  obtain ⟨h1, _, _, h4, h5⟩ := hb
  simp only [Frame_.mk.injEq]
  exact ⟨by omega, by omega, h5⟩
theorem law20_FrameOrder_true (a0 a1 a2 : List Int) (o0 : okL (okI .i64) a0) (o1 : okL (okI .i64) a1) (o2 : okL (okI .i64) a2) : ∃ fuel, law20_FrameOrder fuel a0 a1 a2 = some true := by
  refine ⟨6000, ?_⟩
  unfold law20_FrameOrder
  rw [law20_awake_eq, Light_eq, Light_eq, Light_eq, bindP_some, joinP_eq, Roll_eq, Roll_eq, Roll_eq]
  by_cases c0 : (a0.length : Int) ≤ 600
  · by_cases c1 : (a1.length : Int) ≤ 600
    · by_cases c2 : (a2.length : Int) ≤ 600
      · have hf : 5000 < 6000 := by omega
        obtain ⟨f, d1, e1, v1, y1, _⟩ := Frame_ok hf (roll_ok (l := a0) (by omega))
        obtain ⟨g, d2, e2, v2, y2, _⟩ := Frame_ok hf (roll_ok (l := a1) (by omega))
        obtain ⟨k, d3, e3, v3, y3, _⟩ := Frame_ok hf (roll_ok (l := a2) (by omega))
        obtain ⟨n1, m1, p1, q1⟩ := encode_ok v1 y1
        obtain ⟨n2, m2, p2, q2⟩ := encode_ok v2 y2
        obtain ⟨n3, m3, p3, q3⟩ := encode_ok v3 y3
        have hto : f.To ≠ g.To → (cmpL (body f ++ [crc8 (body f)]) (body g ++ [crc8 (body g)]) == -1) = decide (f.To < g.To) := by
          intro hne
          simp only [body, head, List.cons_append, cmpL]
          by_cases h : f.To < g.To
          · simp [h]
          · have hgt : g.To < f.To := by omega
            simp [h, hgt]
        have hsame : (cmpL (body f ++ [crc8 (body f)]) (body g ++ [crc8 (body g)]) == 0) = decide (f = g) := by
          by_cases h : f = g
          · subst h; simp [cmpL_self]
          · have : cmpL (body f ++ [crc8 (body f)]) (body g ++ [crc8 (body g)]) ≠ 0 := fun e => h (encode_inj (cmpL_zero _ _ e))
            rw [show (cmpL (body f ++ [crc8 (body f)]) (body g ++ [crc8 (body g)]) == 0) = false by simpa using this]; simp [h]
        rw [show decide ((a0.length : Int) ≤ 600) = true by simpa using c0, show decide ((a1.length : Int) ≤ 600) = true by simpa using c1, show decide ((a2.length : Int) ≤ 600) = true by simpa using c2]
        simp only [iteP_false, bindP_some, Bool.not_true, e1, e2, e3, Encode_eq y1 hf, Encode_eq y2 hf, Encode_eq y3 hf, n1, n2, n3, joinP_eq, bne_self_eq_false]
        rw [Compare_eq _ _ _ m1 m2, bindP_some, Compare_eq _ _ _ m2 m3, bindP_some, Compare_eq _ _ _ m1 m3, bindP_some, Compare_eq _ _ _ m2 m1, bindP_some, rSame_eq f g (by have := (valid_iff.1 v1).2.2; omega)]
        have hanti := cmpL_anti (body f ++ [crc8 (body f)]) (body g ++ [crc8 (body g)])
        have hr1 := cmpL_range (body f ++ [crc8 (body f)]) (body g ++ [crc8 (body g)])
        have hr2 := cmpL_range (body g ++ [crc8 (body g)]) (body f ++ [crc8 (body f)])
        have htr := cmpL_trans (body f ++ [crc8 (body f)]) (body g ++ [crc8 (body g)]) (body k ++ [crc8 (body k)])
        generalize body f ++ [crc8 (body f)] = A at *
        generalize body g ++ [crc8 (body g)] = B at *
        generalize body k ++ [crc8 (body k)] = C at *
        rw [w_i64 (n := 0 - cmpL B A) (by omega) (by omega)]
        rw [show (cmpL A B != 0 - cmpL B A) = false by simpa using hanti, show decide (cmpL A B < -1) = false by simp; omega, show decide (cmpL A B > 1) = false by simp; omega]
        simp only [iteP_false, bindP_some, hsame, bne_self_eq_false]
        have rest : (iteP (decide (cmpL A B > 0)) (some true) (iteP (decide (cmpL B C > 0)) (some true) (iteP (decide (cmpL A C ≤ 0)) (iteP (decide (cmpL A C < 0)) (some true) (iteP (cmpL A B == 0) (iteP (cmpL B C == 0) (some true) (some false)) (some false))) (some false)))) = some true := by
          by_cases g1 : cmpL A B > 0
          · simp [g1]
          · by_cases g2 : cmpL B C > 0
            · simp [g1, g2]
            · obtain ⟨t1, t2⟩ := htr (by omega) (by omega)
              by_cases g3 : cmpL A C < 0
              · simp [g1, g2, t1, g3]
              · obtain ⟨u1, u2⟩ := t2 (by omega)
                simp [g1, g2, t1, g3, u1, u2]
        rw [hsame] at rest
        by_cases hne : f.To = g.To
        · simp only [hne, bne_self_eq_false, iteP_false]; exact rest
        · rw [show (f.To != g.To) = true by simpa using hne, iteP_true, hto hne]
          simp only [bne_self_eq_false, iteP_false]; exact rest
      · simp [c0, c1, c2]
    · simp [c0, c1]
  · simp [c0]
end Lift
