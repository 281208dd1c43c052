/- The plain law of TransferSizes. uses: ev gen codes transfer transfer2 transfer3 transfer4
-/
import Derived.Test.YtgfioeiebfponaaTransfer4
namespace Lift
open Go
theorem law30_TransferSizes_true (a0 a1 : Int) (o0 : okI .u16 a0) (o1 : okI .u8 a1) : ∃ fuel, law30_TransferSizes fuel a0 a1 = some true := by
  refine ⟨10000, Ev.isTrue ?_⟩
  unfold law30_TransferSizes
  have h0 : 0 ≤ a0 ∧ a0 ≤ 65535 := by simpa [okI, Lit.wf, IntKind.min, IntKind.max, IntKind.bits, IntKind.signed] using o0
  have h1 := okI_u8.1 o1
  obtain ⟨s, rfl⟩ := Int.eq_ofNat_of_zero_le h0.1
  obtain ⟨q, rfl⟩ := Int.eq_ofNat_of_zero_le h1.1
  refine Ev.to awake_eq (Ev.iteF rfl ?_)
  have hm : Int.tmod (q : Int) 64 = ((q % 64 : Nat) : Int) := (Int.ofNat_tmod q 64).symm
  have hm2 : Int.tmod (s : Int) 8192 = ((s % 8192 : Nat) : Int) := (Int.ofNat_tmod s 8192).symm
  have hml := Nat.mod_lt q (show 0 < 64 by omega)
  have hml2 := Nat.mod_lt s (show 0 < 8192 by omega)
  rw [wr (n := (s : Int)) (by omega), hm2, wr (n := 1 + ((s % 8192 : Nat) : Int)) (by omega), wr (n := (q : Int)) (by omega), hm, wr (n := 1 + ((q % 64 : Nat) : Int)) (by omega)]
  refine Ev.letP (Ev.letP (Ev.to (New_eq _ _ _) (Ev.to (tWanted_eq (by omega) _ _) ?_)))
  obtain ⟨S, P, hS, hP, t, ht0, hf, v⟩ := tnew_V (s := 1 + ((s % 8192 : Nat) : Int)) (p := 1 + ((q % 64 : Nat) : Int)) (by unfold Rng; omega)
  rw [hS, hP] at t ht0 hf v ⊢
  have hp1 := t.p1
  have hp2 := t.p2
  have hs1 := t.s1
  have hs2 := t.s2
  have hc0 := cnt_pos (S := S) hp1 t.s1
  have hcS := cnt_le (S := S) hp1
  have hw1 : twant (tnew S P).1 S = (List.range (cnt S P)).map Int.ofNat := by
    unfold twant
    rw [if_pos v, t.h, fal_all hf, List.take_of_length_le (by simp; exact hcS)]
  rw [hw1]
  have hwl : ((List.range (cnt S P)).map Int.ofNat).length = cnt S P := by simp
  have hwg : ∀ k, k < cnt S P → ((List.range (cnt S P)).map Int.ofNat)[k]? = some (k : Int) := fun k hk => by simp [hk]
  generalize (List.range (cnt S P)).map Int.ofNat = W at hwl hwg ⊢
  refine Ev.join (fun s => s = false) (fun s hs => Ev.iteF hs ?_) (fun j hj => ?_)
  · rw [hwl, wr (n := (cnt S P : Int) - 1) (by omega)]
    have hdiv : IntKind.i64.wrap (Int.tdiv (cnt S P : Int) 2) = ((cnt S P / 2 : Nat) : Int) := by
      have e : Int.tdiv (cnt S P : Int) 2 = ((cnt S P / 2 : Nat) : Int) := (Int.ofNat_tdiv (cnt S P) 2).symm
      rw [e, wr (by omega)]
    rw [hdiv]
    -- the total, once the last one has been looked at
    refine Ev.count 3 (fun n (st : Int × Int) => st.2 = (n : Int) ∧ (n = 3 → st.1 = (S : Int))) (by omega) ⟨rfl, fun h => by omega⟩ (fun n st hn hI self hself => ?_)
    obtain ⟨hn1, hn2⟩ := hI
    rw [hn1]
    by_cases hl : n < 3
    · obtain ⟨i, hi, hx, hlast⟩ : ∃ i : Nat, i < cnt S P ∧ ([0, ((cnt S P / 2 : Nat) : Int), (cnt S P : Int) - 1] : List Int)[n]? = some (i : Int) ∧ (n = 2 → i + 1 = cnt S P) := by
        have : n = 0 ∨ n = 1 ∨ n = 2 := by omega
        rcases this with rfl | rfl | rfl
        · exact ⟨0, hc0, rfl, fun h => by omega⟩
        · exact ⟨cnt S P / 2, by omega, rfl, fun h => by omega⟩
        · refine ⟨cnt S P - 1, by omega, ?_, fun _ => by omega⟩
          show some ((cnt S P : Int) - 1) = _
          congr 1; omega
      refine Ev.decT (by simp; omega) (Ev.to (by rw [idx_nat, hx]) ?_)
      have hiP := (cnt_lt hp1).1 hi
      have e : (i : Int) * (P : Int) = ((i * P : Nat) : Int) := by simp
      have hmn : min (P : Int) (IntKind.i64.wrap ((S : Int) - IntKind.i64.wrap ((i : Int) * P))) = ((min P (S - i * P) : Nat) : Int) := by
        rw [e, wr (n := ((i * P : Nat) : Int)) (by omega), wr (n := (S : Int) - ((i * P : Nat) : Int)) (by omega)]; omega
      refine Ev.letE hmn (Ev.to (by rw [idx_nat, hwg i hi]) (Ev.bneF rfl ?_))
      have hk0 : 0 < min P (S - i * P) := by omega
      have hk1 : min P (S - i * P) ≤ 64 := by omega
      have hkk : min P (S - i * P) = P ∨ i * P + min P (S - i * P) = S := by omega
      have hkS : i + 1 = cnt S P → i * P + min P (S - i * P) = S := fun h => by
        have := cnt_mul (S := S) hp1
        rw [← h, Nat.add_mul] at this; omega
      have hacc : ∀ x : List Int, x.length = min P (S - i * P) → tacc (tnew S P).1 (i : Int) x = (tput (tnew S P).1 P i x, 0) := fun x hx => tacc_put t v hi hx (.inl (hf i hi))
      have hacc2 : ∀ x : List Int, x.length ≠ min P (S - i * P) → tacc (tnew S P).1 (i : Int) x = (Download_.z, 4) := fun x hx => by
        unfold tacc
        rw [if_neg (fun h => h v), if_neg (by rw [t.h]; omega), if_pos]
        rw [t.p]
        show x.length ≠ (pc (tnew S P).1.Data P i).length
        rw [pc_len t]; exact hx
      generalize hK : min P (S - i * P) = K at hk0 hk1 hkS hacc hacc2 ⊢
      rw [wr (n := (K : Int) - 1) (by omega), wr (n := (K : Int) + 1) (by omega)]
      refine Ev.count 3 (fun m (st2 : Int) => st2 = (m : Int)) (by omega) rfl (fun m st2 hm hI2 self2 hself2 => ?_)
      subst hI2
      by_cases hml : m < 3
      · obtain ⟨z, hz, hzk⟩ : ∃ z : Nat, ([(K : Int) - 1, (K : Int), (K : Int) + 1] : List Int)[m]? = some (z : Int) ∧ z ≤ 65 := by
          have : m = 0 ∨ m = 1 ∨ m = 2 := by omega
          rcases this with rfl | rfl | rfl
          · refine ⟨K - 1, ?_, by omega⟩
            show some ((K : Int) - 1) = _
            congr 1; omega
          · exact ⟨K, rfl, by omega⟩
          · exact ⟨K + 1, rfl, by omega⟩
        refine Ev.decT (by simp; omega) (Ev.to (by rw [idx_nat, hz]) (Ev.to (mk_ok (by omega)) (Ev.to (tAccept_eq (by omega) _ _ (by simp; omega)) ?_)))
        refine Ev.join (fun s => s = false) (fun s hs => Ev.iteF hs ?_) (fun j2 hj2 => ?_)
        · rw [wi m (by omega)]; exact hself2 _ hml (by simp)
        · by_cases hzK : z = K
          · rw [hacc _ (by simp [hzK])]
            exact Ev.iteF (by simp [hzK]) (Ev.bneF rfl (hj2 _ rfl))
          · rw [hacc2 _ (by simp [hzK])]
            refine Ev.iteF ?_ (Ev.bneT (by simp) (hj2 _ rfl))
            have : ¬ (z : Int) = (K : Int) := by omega
            simp [ibeq, this]
      · refine Ev.decF (by simp; omega) ?_
        refine Ev.beq (fun hq => ?_) (fun hq => ?_)
        · rw [wi n (by omega)]
          refine Ev.letP (hself _ hl ⟨by simp, fun _ => ?_⟩)
          simp only
          rw [e, wr (n := ((i * P : Nat) : Int)) (by omega), wr (n := ((i * P : Nat) : Int) + (K : Int)) (by omega)]
          have := hkS (by omega)
          omega
        · rw [wi n (by omega)]
          refine hself _ hl ⟨by simp, fun h3 => ?_⟩
          exfalso; apply hq
          have := hlast (by omega)
          omega
    · refine Ev.decF (by simp; omega) (Ev.to (mk_ok (by omega)) (Ev.to (tAccept_eq (by omega) _ _ (by simp; omega)) ?_))
      refine Ev.beqT (hn2 (by omega)) (Ev.letP (Ev.ret ?_))
      have : tacc (tnew S P).1 (cnt S P : Int) (List.replicate P 0) = (Download_.z, 2) := by
        unfold tacc
        rw [if_neg (fun h => h v), if_pos (.inr (by rw [t.h]; omega))]
      rw [this]; rfl
  · rw [ht0]
    refine Ev.bneF rfl (Ev.chk (by simp; omega) ?_)
    rw [tcount S P hs2 hp1 hp2, hwl]
    exact hj _ (by simp)
end Lift
