/- The plain law of FragmentSplits. uses: base lists ev each dice dicebytes frag
-/
import Derived.Test.YtnilklnmhndlnaaFrag
set_option linter.unusedVariables false
set_option linter.unusedSimpArgs false
namespace Lift
open Go
theorem law22_FragmentSplits_true (a0 a1 : Int) (a2 : Bool) (a3 a4 : Int) (a5 : List Int) (o0 : okI .u8 a0) (o1 : okI .u8 a1) (o3 : okI .i64 a3) (o4 : okI .i64 a4) (o5 : okL (okI .u8) a5) : ∃ fuel, law22_FragmentSplits fuel a0 a1 a2 a3 a4 a5 = some true := by
  refine ⟨10000, Ev.isTrue ?_⟩
  unfold law22_FragmentSplits
  refine Ev.dec (fun h => ?_) (fun h => ?_)
  · exact Ev.to awake22 (Ev.ret rfl)
  · refine Ev.to (Mod_eq 10000 (by omega) (by omega)) (Ev.to (Mod_eq 10000 (by omega) (by omega)) ?_)
    refine Ev.each (l := [[a3, a4], [a3 % 9, a4 % 67]]) (by simp) (fun i x hx hm hi self hself => ?_) (fun self => ?_)
    · refine Ev.decT (by omega) ?_
      rw [idx_nat, hx]
      obtain ⟨u, v, rfl⟩ : ∃ u v : Int, x = [u, v] := by
        simp at hm
        rcases hm with rfl | rfl
        · exact ⟨_, _, rfl⟩
        · exact ⟨_, _, rfl⟩
      have e0 : idx [u, v] 0 = some u := rfl
      have e1 : idx [u, v] 1 = some v := rfl
      simp only [bindP_some, e0, e1, show Nat.beq [u, v].length 2 = true from rfl, chk_true]
      rw [Split_eq (by omega), bindP_some, RSplit_eq (by omega), bindP_some, Split_eq (by omega), bindP_some, RSplit_eq (by omega), bindP_some, joinP]
      refine Ev.bneF rfl (Ev.bneF rfl ?_)
      refine Ev.to (samePackets_eq (by omega) _ splitR_len.1 splitR_len.2) (Ev.iteF rfl ?_)
      refine Ev.to (samePackets_eq (by omega) _ splitR_len.1 splitR_len.2) (Ev.iteF rfl ?_)
      rw [wi i (by simp at hi; omega)]; exact hself
    · refine Ev.decF (by simp) ?_
      exact Ev.to awake22 (Ev.ret rfl)
end Lift
