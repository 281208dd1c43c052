/- The reference's seals: the same closed forms. No program in sight. -/
import Derived.Test.YtnfpldbkpdeeoaaSeals
namespace Lift
open Go

theorem Copy_eq {fuel : Nat} {l : List Int} (h : l.length ≤ 100000) (hf : l.length < fuel) : ref01_Copy fuel l = some l := by
  unfold ref01_Copy
  refine loop_run (fun i => ((i : Int), l.take i)) l.length rfl hf (fun i hi k => ?_) (fun k => ?_)
  · have hx : l[i]? = some (l[i]'hi) := by simp
    simp only [show ((i : Int) < (l.length : Int)) by omega, decide_true, iteP_true, idx_nat, hx, bindP_some, letP_eq]
    rw [app_ok (by simp; omega), bindP_some, wi i (by omega), List.take_add_one, hx]; rfl
  · simp
theorem rSeal8_eq {fuel : Nat} {l : List Int} (h : Small l) (hf : 5000 < fuel) : ref01_Seal8 fuel l = some (l ++ [sum8 l]) := by
  have := h.1
  unfold ref01_Seal8
  rw [Copy_eq (by omega) (by omega), bindP_some, ref01_Sum8_eq h hf, bindP_some, app_ok (by simp; omega)]; rfl
theorem rSealCRC8_eq {fuel : Nat} {l : List Int} (h : Small l) (hf : 5000 < fuel) : ref01_SealCRC8 fuel l = some (l ++ [crc8 l]) := by
  have := h.1
  unfold ref01_SealCRC8
  rw [Copy_eq (by omega) (by omega), bindP_some, ref01_CRC8_eq h hf, bindP_some, app_ok (by simp; omega)]; rfl
theorem rOpen8_eq {fuel : Nat} {l : List Int} (h : Small l) (hf : 5000 < fuel) : ref01_Open8 fuel l = some (open8 l) := by
  have hl := h.1
  unfold ref01_Open8 open8
  by_cases h0 : l = []
  · subst h0; rfl
  · have hp : 0 < l.length := by cases l with | nil => exact absurd rfl h0 | cons _ _ => simp
    have e0 : ((l.length : Int) == 0) = false := by simp; omega
    have e1 : ((l.length : Int) - 1).toNat = l.length - 1 := by omega
    simp only [e0, iteP_false, h0, if_false]
    rw [ref01_Sum8_eq h hf, bindP_some]
    by_cases hs : sum8 l = 0
    · simp only [hs, if_true, bne_self_eq_false, iteP_false]
      rw [wl' (by omega) (by omega) (by omega), sub_take (by omega) (by omega), bindP_some, e1, Copy_eq (by simp; omega) (by simp; omega), bindP_some]
    · have e : (sum8 l != 0) = true := by simpa using hs
      simp only [e, iteP_true, hs, if_false]
theorem rOpenCRC8_eq {fuel : Nat} {l : List Int} (h : Small l) (hf : 5000 < fuel) : ref01_OpenCRC8 fuel l = some (openC l) := by
  have hl := h.1
  unfold ref01_OpenCRC8 openC
  by_cases h0 : l = []
  · subst h0; rfl
  · have hp : 0 < l.length := by cases l with | nil => exact absurd rfl h0 | cons _ _ => simp
    have e0 : ((l.length : Int) == 0) = false := by simp; omega
    have e1 : ((l.length : Int) - 1).toNat = l.length - 1 := by omega
    simp only [letP_eq, wl' (show l.length ≤ 100000 by omega) (show (0:Int) ≤ 1 by omega) (show (1:Int) ≤ 100000 by omega), e0, iteP_false, h0, if_false]
    rw [sub_take (by omega) (by omega), bindP_some, e1, ref01_CRC8_eq (h.take _) hf, bindP_some, idx_last h0, bindP_some]
    by_cases hs : crc8 (l.take (l.length - 1)) = last l
    · simp only [hs, bne_self_eq_false, iteP_false, if_true]
      rw [bindP_some, Copy_eq (by simp; omega) (by simp; omega), bindP_some]
    · have e : (crc8 (l.take (l.length - 1)) != last l) = true := by simpa using hs
      simp only [e, iteP_true, hs, if_false]
theorem wu64 {n : Int} (h1 : 0 ≤ n) (h2 : n < 18446744073709551616) : IntKind.u64.wrap n = n := by rw [w_u64]; omega
theorem Little_eq {fuel : Nat} {v : Int} (h : word v) (hf : 5000 < fuel) : ref01_Little fuel v 4 = some (four v) := by
  obtain ⟨h1, h2⟩ := h
  have st : ∀ (u : Int) (i : Nat) (acc : List Int), 0 ≤ u → u ≤ 4294967295 → i < 4 → acc.length ≤ 10 → ∀ k : Int × Int × List Int → Option (List Int),
      (fun k1 (s1 : (Int × Int × (List Int))) => iteP (decide (s1.2.1 < 4)) (bindP (app 1 s1.2.2 ([(IntKind.u8.wrap (Int.tmod s1.1 256))])) fun x1 => letP (IntKind.u64.wrap (Int.tdiv s1.1 256)) fun x2 => letP (IntKind.i64.wrap (s1.2.1 + 1)) fun x3 => k1 (x2, x3, x1)) (some s1.2.2)) k (u, (i : Int), acc) = k (u / 256, (i : Int) + 1, acc ++ [u % 256]) := by
    intro u i acc hu1 hu2 hi ha k
    simp only [show ((i : Int) < 4) by omega, decide_true, iteP_true, letP_eq]
    rw [app_ok (by simp; omega), bindP_some, Int.tmod_eq_emod_of_nonneg hu1, Int.tdiv_eq_ediv_of_nonneg hu1, w_u8, wu64 (by omega) (by omega), wi i (by omega), show u % 256 % 256 = u % 256 by omega]
  unfold ref01_Little
  have S : Nat → Int × Int × List Int := fun i => (0, 0, [])
  refine loop_run (fun i => match i with | 0 => (v, 0, []) | 1 => (v / 256, 1, [v % 256]) | 2 => (v / 256 / 256, 2, [v % 256, v / 256 % 256]) | 3 => (v / 256 / 256 / 256, 3, [v % 256, v / 256 % 256, v / 256 / 256 % 256]) | _ => (v / 256 / 256 / 256 / 256, 4, [v % 256, v / 256 % 256, v / 256 / 256 % 256, v / 256 / 256 / 256 % 256])) 4 rfl (by omega) (fun i hi k => ?_) (fun k => ?_)
  · match i, hi with
    | 0, _ => exact st v 0 [] h1 h2 (by omega) (by simp) k
    | 1, _ => exact st (v / 256) 1 _ (by omega) (by omega) (by omega) (by simp) k
    | 2, _ => exact st (v / 256 / 256) 2 _ (by omega) (by omega) (by omega) (by simp) k
    | 3, _ => exact st (v / 256 / 256 / 256) 3 _ (by omega) (by omega) (by omega) (by simp) k
  · simp only [four]
    have e2 : v / 256 / 256 = v / 65536 := by omega
    have e3 : v / 65536 / 256 = v / 16777216 := by omega
    simp [e2, e3]
theorem rSealCRC32_eq {fuel : Nat} {l : List Int} (h : Small l) (hf : 5000 < fuel) : ref01_SealCRC32 fuel l = some (l ++ four (crc32 l)) := by
  have := h.1
  have hw := crc32_word h
  unfold ref01_SealCRC32
  rw [Copy_eq (by omega) (by omega), bindP_some, ref01_CRC32_eq h hf, bindP_some, wu64 hw.1 (by have := hw.2; omega), Little_eq hw hf, bindP_some, app_ok (by simp [four]; omega)]; rfl
/-- Four bytes as a number. -/
theorem Number_eq {fuel : Nat} {a b c d : Int} (ha : byte a) (hb : byte b) (hc : byte c) (hd : byte d) (hf : 5000 < fuel) : ref01_Number fuel [a, b, c, d] = some (a + 256 * (b + 256 * (c + 256 * d))) := by
  obtain ⟨a1, a2⟩ := ha
  obtain ⟨b1, b2⟩ := hb
  obtain ⟨c1, c2⟩ := hc
  obtain ⟨d1, d2⟩ := hd
  unfold ref01_Number
  have st : ∀ (i : Nat) (x acc : Int), [a, b, c, d][i]? = some x → 0 ≤ x → x ≤ 255 → 0 ≤ acc → acc ≤ 16777216 → i < 4 → ∀ k : Int × Int → Option Int,
      (fun k1 (s1 : (Int × Int)) => iteP (decide (s1.2 ≥ 0)) (bindP (idx [a, b, c, d] s1.2) fun x2 => letP (IntKind.u64.wrap ((IntKind.u64.wrap (256 * s1.1)) + (IntKind.u64.wrap x2))) fun x3 => letP (IntKind.i64.wrap (s1.2 - 1)) fun x4 => k1 (x3, x4)) (some s1.1)) k (acc, (i : Int)) = k (256 * acc + x, (i : Int) - 1) := by
    intro i x acc hx h1 h2 h3 h4 hi k
    simp only [show ((i : Int) ≥ 0) by omega, decide_true, iteP_true, letP_eq, idx_nat, hx, bindP_some]
    rw [wu64 (n := 256 * acc) (by omega) (by omega), wu64 (n := x) (by omega) (by omega), wu64 (by omega) (by omega), w_i64 (by omega) (by omega)]
  simp only [letP_eq]
  refine loop_run (fun i => match i with | 0 => (0, 3) | 1 => (256 * 0 + d, 2) | 2 => (256 * (256 * 0 + d) + c, 1) | 3 => (256 * (256 * (256 * 0 + d) + c) + b, 0) | _ => (256 * (256 * (256 * (256 * 0 + d) + c) + b) + a, -1)) 4 ?_ (by omega) (fun i hi k => ?_) (fun k => ?_)
  · simp; exact w_i64 (by omega) (by omega)
  · match i, hi with
    | 0, _ => exact st 3 d 0 rfl d1 d2 (by omega) (by omega) (by omega) k
    | 1, _ => exact st 2 c _ rfl c1 c2 (by omega) (by omega) (by omega) k
    | 2, _ => exact st 1 b _ rfl b1 b2 (by omega) (by omega) (by omega) k
    | 3, _ => exact st 0 a _ rfl a1 a2 (by omega) (by omega) (by omega) k
  · simp; omega
theorem rOpenCRC32_eq {fuel : Nat} {l : List Int} (h : Small l) (hf : 5000 < fuel) : ref01_OpenCRC32 fuel l = some (openL l) := by
  have hl := h.1
  unfold ref01_OpenCRC32 openL
  by_cases h0 : l.length < 4
  · have ed : decide ((l.length : Int) < 4) = true := by simp; omega
    simp [ed, h0]
  · have e1 : ((l.length : Int) - 4).toNat = l.length - 4 := by omega
    have ed : decide ((l.length : Int) < 4) = false := by simp; omega
    have hw := crc32_word (h.take (l.length - 4))
    simp only [letP_eq, wl' (show l.length ≤ 100000 by omega) (show (0:Int) ≤ 4 by omega) (show (4:Int) ≤ 100000 by omega), ed, iteP_false, h0, if_false]
    rw [sub_take (by omega) (by omega), bindP_some, e1, ref01_CRC32_eq (h.take _) hf, bindP_some, sub_drop (by omega) (by omega), bindP_some, e1]
    obtain ⟨a, b, c, d, hd⟩ : ∃ a b c d, l.drop (l.length - 4) = [a, b, c, d] := by
      have hlen : (l.drop (l.length - 4)).length = 4 := by simp; omega
      match hm : l.drop (l.length - 4), hlen with
      | [a, b, c, d], _ => exact ⟨a, b, c, d, rfl⟩
    have hb := (h.drop (l.length - 4)).2
    rw [hd] at hb ⊢
    have ha := hb a (by simp)
    have hbb := hb b (by simp)
    have hc := hb c (by simp)
    have hdd := hb d (by simp)
    rw [Number_eq ha hbb hc hdd hf, bindP_some, wu64 hw.1 (by have := hw.2; omega)]
    obtain ⟨a1, a2⟩ := ha
    obtain ⟨b1, b2⟩ := hbb
    obtain ⟨c1, c2⟩ := hc
    obtain ⟨d1, d2⟩ := hdd
    obtain ⟨w1, w2⟩ := hw
    by_cases hs : four (crc32 (l.take (l.length - 4))) = [a, b, c, d]
    · have e : (crc32 (l.take (l.length - 4)) != a + 256 * (b + 256 * (c + 256 * d))) = false := by
        simp only [four, List.cons.injEq, and_true] at hs
        simp; omega
      simp only [e, iteP_false, hs, if_true]
      rw [bindP_some, Copy_eq (by simp; omega) (by simp; omega), bindP_some]
    · have e : (crc32 (l.take (l.length - 4)) != a + 256 * (b + 256 * (c + 256 * d))) = true := by
        simp only [bne_iff_ne, ne_eq]
        intro he
        apply hs
        simp only [four, List.cons.injEq, and_true]
        omega
      simp only [e, iteP_true, hs, if_false]
end Lift
