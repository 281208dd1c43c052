/- The plain law of TransferZero. uses: ev gen codes transfer transfer2 transfer3 transfer4
-/
import Derived.Test.YtgfioeiebfponaaTransfer4
namespace Lift
open Go
theorem law30_TransferZero_true (a0 a1 a2 : Int) (o0 : okI .u8 a0) (o1 : okI .u8 a1) (o2 : okI .u8 a2) : ∃ fuel, law30_TransferZero fuel a0 a1 a2 = some true := by
  refine ⟨10000, Ev.isTrue ?_⟩
  unfold law30_TransferZero
  have h0 := okI_u8.1 o0
  have h1 := okI_u8.1 o1
  have h2 := okI_u8.1 o2
  obtain ⟨s, rfl⟩ := Int.eq_ofNat_of_zero_le h0.1
  obtain ⟨q, rfl⟩ := Int.eq_ofNat_of_zero_le h1.1
  obtain ⟨k, rfl⟩ := Int.eq_ofNat_of_zero_le h2.1
  refine Ev.to awake_eq (Ev.iteF rfl ?_)
  have hm : Int.tmod (q : Int) 64 = ((q % 64 : Nat) : Int) := (Int.ofNat_tmod q 64).symm
  have hml := Nat.mod_lt q (show 0 < 64 by omega)
  rw [wr (n := (s : Int)) (by omega), wr (n := 1 + (s : Int)) (by omega), wr (n := (q : Int)) (by omega), hm, wr (n := 1 + ((q % 64 : Nat) : Int)) (by omega)]
  refine Ev.letP (Ev.letP (Ev.to (New_eq _ _ _) ?_))
  obtain ⟨S, P, hS, hP, t, ht0, hf, v⟩ := tnew_V (s := 1 + (s : Int)) (p := 1 + ((q % 64 : Nat) : Int)) (by unfold Rng; omega)
  rw [hS, hP] at t ht0 hf v ⊢
  have hp1 := t.p1
  have hp2 := t.p2
  have hs2 := t.s2
  have hc0 := cnt_pos (S := S) hp1 t.s1
  have hcS := cnt_le (S := S) hp1
  refine Ev.chk (by simp; omega) (Ev.letE (tcount S P hs2 hp1 hp2) (Ev.chk (by simp; omega) ?_))
  rw [wr (n := (k : Int)) (by omega)]
  refine Ev.letE (Int.ofNat_tmod k (cnt S P)).symm ?_
  have hi : k % cnt S P < cnt S P := Nat.mod_lt _ hc0
  revert hi
  generalize k % cnt S P = i
  intro hi
  have hiP := (cnt_lt hp1).1 hi
  have hmn : min (P : Int) (IntKind.i64.wrap ((S : Int) - IntKind.i64.wrap ((i : Int) * P))) = ((min P (S - i * P) : Nat) : Int) := by
    have e : (i : Int) * (P : Int) = ((i * P : Nat) : Int) := by simp
    rw [e, wr (n := ((i * P : Nat) : Int)) (by omega), wr (n := (S : Int) - ((i * P : Nat) : Int)) (by omega)]; omega
  rw [hmn]
  refine Ev.to (mk_ok (by omega)) (Ev.to (tAccept_eq (by omega) _ _ (by simp; omega)) ?_)
  have hxl : (List.replicate (min P (S - i * P)) (0 : Int)).length = min P (S - i * P) := by simp
  rw [tacc_put t v hi hxl (.inl (hf i hi))]
  have hxl2 : (List.replicate (min P (S - i * P)) (0 : Int)).length = (pc (tnew S P).1.Data P i).length := by rw [pc_len t, hxl]
  have t2 := tput_T t hi hxl2
  have v2 := tput_V t v hi hxl2
  -- what is wanted, before and behind
  have hw1 : twant (tnew S P).1 (cnt S P) = (List.range (cnt S P)).map Int.ofNat := by
    unfold twant
    rw [if_pos v, t.h, fal_all hf, List.take_of_length_le (by simp)]
  have hH : (tput (tnew S P).1 P i (List.replicate (min P (S - i * P)) 0)).Have = (tnew S P).1.Have.set i true := rfl
  have hw2 : twant (tput (tnew S P).1 P i (List.replicate (min P (S - i * P)) 0)) (cnt S P) = fal ((tnew S P).1.Have.set i true) (cnt S P) := by
    unfold twant
    rw [if_pos v2, t2.h, hH, List.take_of_length_le (by have := fal_len ((tnew S P).1.Have.set i true) (cnt S P); simp; exact this)]
  have hw2l : (fal ((tnew S P).1.Have.set i true) (cnt S P)).length + 1 = cnt S P := by
    rw [fal_set (by rw [t.h]; exact hi) hi (hf i hi), fal_all hf]; simp
  refine Ev.join (fun s => s = false) (fun s hs => Ev.iteF hs ?_) (fun j hj => ?_)
  · refine Ev.to (tWanted_eq (by omega) _ _) ?_
    rw [hw2]
    refine Ev.count (fal ((tnew S P).1.Have.set i true) (cnt S P)).length (fun n s => s = (fal ((tnew S P).1.Have.set i true) (cnt S P), (n : Int))) (by omega) rfl (fun n s hn hI self hself => ?_)
    subst hI
    by_cases hl : n < (fal ((tnew S P).1.Have.set i true) (cnt S P)).length
    · have hx := List.getElem?_eq_getElem hl
      have hm := List.getElem_mem hl
      refine Ev.decT (by simp only; omega) (Ev.to (by simp only; rw [idx_nat, hx]) (Ev.beqF (fun e => ?_) ?_))
      · obtain ⟨k2, h3, h4, h5⟩ := mem_fal.1 hm
        rw [h3] at e
        obtain rfl : k2 = i := by omega
        rw [List.getElem?_set, if_pos rfl, if_pos (by rw [t.h]; exact hi)] at h5
        cases h5
      · simp only
        rw [wi n (by omega)]
        exact hself _ hl rfl
    · refine Ev.decF (by simp only; omega) (Ev.to (tComplete_eq (by omega) _) (Ev.letP (Ev.ret ?_)))
      have hTC : TC (tput (tnew S P).1 P i (List.replicate (min P (S - i * P)) 0)) ↔ cnt S P = 1 := by
        constructor
        · rintro ⟨_, hn⟩
          refine Classical.byContradiction fun h1 => ?_
          have : ∃ m, m < cnt S P ∧ m ≠ i := if h : i = 0 then ⟨1, by omega, by omega⟩ else ⟨0, by omega, by omega⟩
          obtain ⟨m, hm, hmi⟩ := this
          apply hn m
          rw [hH, List.getElem?_set, if_neg (fun h => hmi h.symm)]
          exact hf m hm
        · intro h1
          refine ⟨v2, fun m hm => ?_⟩
          have hml := lt_len hm
          rw [t2.h] at hml
          rw [hH, List.getElem?_set, if_pos (by omega), if_pos (by rw [t.h]; omega)] at hm
          cases hm
      have hb : tcompl (tput (tnew S P).1 P i (List.replicate (min P (S - i * P)) 0)) = ((cnt S P : Int) == 1) := by
        rw [Bool.eq_iff_iff, tcompl_iff, hTC]; simp; omega
      rw [hb]; simp
  · rw [ht0]
    refine Ev.bneF rfl (Ev.bneF rfl (Ev.to (tWanted_eq (by omega) _ _) ?_))
    rw [hw1]
    refine Ev.bneF (by simp) (Ev.to (tWanted_eq (by omega) _ _) (hj _ ?_))
    rw [hw2, wr (n := (cnt S P : Int) - 1) (by omega)]
    simp; omega
end Lift
