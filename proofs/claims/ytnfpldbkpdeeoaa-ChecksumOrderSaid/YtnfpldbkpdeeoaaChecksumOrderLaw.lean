/- The plain law of ChecksumOrder. uses: crc8 lists sealc sums dice
-/
import Derived.Test.YtnfpldbkpdeeoaaSums
import Derived.Test.YtnfpldbkpdeeoaaDice
namespace Lift
open Go
theorem fold_sum (l : List Int) : ∀ s : Int, 0 ≤ s → s < 256 → l.foldl (fun s x => (s + x) % 256) s = (s + l.sum) % 256 := by
  induction l with
  | nil => intro s h1 h2; simp; omega
  | cons x l ih => intro s h1 h2; simp only [List.foldl_cons, List.sum_cons]; rw [ih _ (by omega) (by omega)]; omega
theorem sum8_sum (l : List Int) : sum8 l = (0 - l.sum) % 256 := by unfold sum8; rw [fold_sum l 0 (by omega) (by omega)]; omega
theorem sum_set : ∀ (l : List Int) (i : Nat) (x y : Int), l[i]? = some y → (l.set i x).sum = l.sum - y + x
  | [], _, _, _, h => by simp at h
  | z :: l, 0, x, y, h => by simp at h; subst h; simp [List.sum_cons]; omega
  | z :: l, i + 1, x, y, h => by simp only [List.set_cons_succ, List.sum_cons]; rw [sum_set l i x y (by simpa using h)]; omega
theorem upd_nat {α : Type} (l : List α) (i : Nat) (x : α) : upd l (i : Int) x = l.set i x := by simp [upd]
theorem Small.set {l : List Int} (h : Small l) (i : Nat) {x : Int} (hx : byte x) : Small (l.set i x) :=
  ⟨by simpa using h.1, fun y hy => (List.mem_or_eq_of_mem_set hy).elim (h.2 y) (fun e => e ▸ hx)⟩
theorem law01_ChecksumOrder_true (a0 a1 : List Int) (a2 a3 : Int) (o0 : okL (okI .u8) a0) (o1 : okL (okI .u8) a1) (o2 : okI .i64 a2) (o3 : okI .i64 a3) : ∃ fuel, law01_ChecksumOrder fuel a0 a1 a2 a3 = some true := by
  refine ⟨6000, ?_⟩
  unfold law01_ChecksumOrder
  rw [law01_light_eq, law01_light_eq, bindP_some, law01_awake_eq, joinP_eq]
  by_cases c0 : (a0.length : Int) ≤ 2000
  · by_cases c1 : (a1.length : Int) ≤ 2000
    · have hf : 5000 < 6000 := by omega
      have s0 := small_of o0 (by omega)
      have s1 := small_of o1 (by omega)
      have s2 : Small (a0 ++ a1) := s0.append s1.2 (by simp; omega)
      rw [show decide ((a0.length : Int) ≤ 2000) = true by simpa using c0, show decide ((a1.length : Int) ≤ 2000) = true by simpa using c1]
      simp only [Bool.not_true, iteP_false, bindP_some]
      rw [app_ok (by simp; omega), bindP_some, List.nil_append, app_ok (by simp; omega), bindP_some, checksum_Sum8_eq s2 hf, bindP_some, checksum_Sum8_eq s0 hf, bindP_some, checksum_Sum8_eq s1 hf, bindP_some]
      have e : sum8 (a0 ++ a1) = IntKind.u8.wrap (sum8 a0 + sum8 a1) := by
        rw [w_u8, sum8_sum, sum8_sum, sum8_sum, List.sum_append]; omega
      rw [show (sum8 (a0 ++ a1) != IntKind.u8.wrap (sum8 a0 + sum8 a1)) = false by rw [← e]; simp, iteP_false, joinP_eq]
      generalize hL : a0 ++ a1 = L at *
      by_cases hp : (L.length : Int) > 0
      · have hm : (L.length : Int) ≤ 1000000 := by have := s2.1; omega
        rw [show decide ((L.length : Int) > 0) = true by simpa using hp, iteP_true, Mod_eq _ hp hm, bindP_some, Mod_eq _ hp hm, bindP_some]
        obtain ⟨i, hi⟩ : ∃ i : Nat, a2 % (L.length : Int) = i := ⟨_, (Int.toNat_of_nonneg (Int.emod_nonneg _ (by omega))).symm⟩
        obtain ⟨j, hj⟩ : ∃ j : Nat, a3 % (L.length : Int) = j := ⟨_, (Int.toNat_of_nonneg (Int.emod_nonneg _ (by omega))).symm⟩
        have hil : i < L.length := by have := Int.emod_lt_of_pos a2 hp; omega
        have hjl : j < L.length := by have := Int.emod_lt_of_pos a3 hp; omega
        obtain ⟨x, hx⟩ : ∃ x, L[i]? = some x := ⟨_, List.getElem?_eq_getElem hil⟩
        obtain ⟨y, hy⟩ : ∃ y, L[j]? = some y := ⟨_, List.getElem?_eq_getElem hjl⟩
        have bx := s2.2 x (List.mem_of_getElem? hx)
        have by' := s2.2 y (List.mem_of_getElem? hy)
        obtain ⟨z, hz⟩ : ∃ z, (L.set i y)[j]? = some z := ⟨_, List.getElem?_eq_getElem (by simpa using hjl)⟩
        have hzy : z = y := by
          rw [List.getElem?_set] at hz
          split at hz
          · simp [hil] at hz; exact hz.symm
          · rw [hy] at hz; cases hz; rfl
        subst hzy
        have s3 : Small (L.set i z) := s2.set i by'
        have s4 : Small ((L.set i z).set j x) := s3.set j bx
        have hsum : sum8 ((L.set i z).set j x) = sum8 L := by
          rw [sum8_sum, sum8_sum, sum_set _ j x z hz, sum_set L i z x hx]; congr 1; omega
        rw [hi, hj, idx_nat, hy, bindP_some, idx_nat, hx, bindP_some, bindP_some, letP_eq, upd_nat, idx_nat, hz, bindP_some, letP_eq, upd_nat]
        show bindP (checksum_Sum8 6000 _) _ = _
        rw [checksum_Sum8_eq s4 hf, bindP_some, hsum]
        simp
      · rw [show decide ((L.length : Int) > 0) = false by simpa using hp, iteP_false]
        show bindP (checksum_Sum8 6000 _) _ = _
        rw [checksum_Sum8_eq s2 hf, bindP_some]
        simp
    · simp [c0, c1]
  · simp [c0]
end Lift
