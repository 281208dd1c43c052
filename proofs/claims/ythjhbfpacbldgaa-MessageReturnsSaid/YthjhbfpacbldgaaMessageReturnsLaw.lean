/- The plain law of MessageReturns. uses: base lists sum8 ev messages dice dicebytes dicemessage each mreplies mparse mround
-/
import Derived.Test.YthjhbfpacbldgaaDicemessage
import Derived.Test.YthjhbfpacbldgaaEach
import Derived.Test.YthjhbfpacbldgaaMround
namespace Lift
open Go
theorem law23_MessageReturns_true (a0 : List Int) (a1 : Bool) (a2 a3 : Int) (o0 : okL (okI .i64) a0) (o2 : okI .i64 a2) (o3 : okI .u8 a3) : ∃ fuel, law23_MessageReturns fuel a0 a1 a2 a3 = some true := by
  refine ⟨6000, Ev.isTrue ?_⟩
  unfold law23_MessageReturns
  have hf : 5000 < 6000 := by omega
  refine Ev.to (Light_eq _ _) (Ev.not (Ev.dec (fun hl => ?_) (fun _ => Ev.to law23_awake_eq (Ev.ret rfl))))
  obtain ⟨m, d2, e2, ⟨tm, vm, pm, _⟩, h2⟩ := Message_ok hf (roll_ok (l := a0) (by omega)) a1
  obtain ⟨hs, hl1, hl2⟩ := mbytes_small vm tm
  refine Ev.to (Roll_eq _ _) (Ev.to e2 (Ev.to (mRequest_eq hf tm) (Ev.join (fun s => s = ((0 : Int), mbytes m)) (fun s hs0 => ?_) (fun j hj => ?_))))
  · subst hs0
    refine Ev.to (mpar_eq hf hs) (Ev.to (mpas_eq hf hs) (Ev.join (fun s => s = false) (fun s hs0 => Ev.iteF hs0 ?_) (fun j2 hj2 => ?_)))
    · refine Ev.beq (fun _ => Ev.to law23_awake_eq (Ev.ret rfl)) (fun hne => ?_)
      have hp : 0 < (mbytes m).length := by omega
      refine Ev.to (Mod_eq _ (show (0 : Int) < ((mbytes m).length : Int) by omega) (show ((mbytes m).length : Int) ≤ 1000000 by omega)) ?_
      obtain ⟨k, hk⟩ : ∃ k : Nat, a2 % ((mbytes m).length : Int) = (k : Int) := ⟨(a2 % ((mbytes m).length : Int)).toNat, by have := Int.emod_nonneg a2 (b := ((mbytes m).length : Int)) (by omega); omega⟩
      have hk2 : k < (mbytes m).length := by have := Int.emod_lt_of_pos a2 (b := ((mbytes m).length : Int)) (by omega); omega
      simp only [hk]
      have hx : (mbytes m)[k]? = some ((mbytes m)[k]) := List.getElem?_eq_getElem hk2
      have bx : byte ((mbytes m)[k]) := hs.2 _ (List.getElem_mem hk2)
      have b3 := okI_u8.1 o3
      have hy := (xor_byte bx b3).2
      refine Ev.to (by rw [idx_nat, hx]) (Ev.to (by rw [idx_nat, hx]) (Ev.letP ?_))
      have eu : upd (mbytes m) (k : Int) (bXor .u8 ((mbytes m)[k]) a3) = (mbytes m).set k (bXor .u8 ((mbytes m)[k]) a3) := by simp [upd]
      rw [eu]
      have hs' : Small ((mbytes m).set k (bXor .u8 ((mbytes m)[k]) a3)) := ⟨by simp; omega, fun z hz => by
        rcases List.mem_or_eq_of_mem_set hz with hz | rfl
        · exact hs.2 z hz
        · exact hy⟩
      refine Ev.to (mpar_eq hf hs') (Ev.to (mpas_eq hf hs') (Ev.bneT (mparse_found false hx bx hy (xor_other bx b3 hne)) (Ev.bneT (mparse_found true hx bx hy (xor_other bx b3 hne)) (Ev.to law23_awake_eq (Ev.ret rfl)))))
    · refine Ev.bneF rfl (Ev.to (mValid_eq _ tm.fn.1) (Ev.not (Ev.iteT (by simpa using vm) ?_)))
      cases a1 with
      | true =>
        have q1 := mparse_back vm tm true pm
        have q2 := mparse_other vm tm false (by rw [pm]; simp)
        refine Ev.iteF (by simpa [ibeq] using q2) (Ev.iteT rfl (Ev.bneF (by rw [q1]) (Ev.to (mSame_eq hf _ _ (Nat.le_trans tm.le (by omega))) (Ev.not (Ev.iteT (by rw [q1]; simp) (Ev.iteF rfl (hj2 _ rfl)))))))
      | false =>
        have q1 := mparse_back vm tm false pm
        have q2 := mparse_other vm tm true (by rw [pm]; simp)
        refine Ev.iteF (by rw [q1]; rfl) (Ev.iteF rfl (Ev.iteT rfl (Ev.beqF q2 (Ev.to (mSame_eq hf _ _ (Nat.le_trans tm.le (by omega))) (hj2 _ (by rw [q1]; simp))))))
  · cases a1 with
    | true =>
      refine Ev.iteT rfl (Ev.to (mResponse_eq hf tm) (hj _ ?_))
      simp at pm
      simp [mres, vm, pm]
    | false =>
      refine Ev.iteF rfl (hj _ ?_)
      simp at pm
      simp [mreq, vm, pm]
end Lift
