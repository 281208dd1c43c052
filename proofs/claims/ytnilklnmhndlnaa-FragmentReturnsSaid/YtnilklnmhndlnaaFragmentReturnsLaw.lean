/- The plain law of FragmentReturns. uses: base lists ev each dice dicebytes frag fragb
-/
import Derived.Test.YtnilklnmhndlnaaFragb
set_option linter.unusedVariables false
set_option linter.unusedSimpArgs false
namespace Lift
open Go
theorem encR_ok {p : Packet_} : ((encR p).2 == 0) = validB p := by
  unfold encR
  cases h : validB p <;> simp
theorem law22_FragmentReturns_true (a0 a1 : List Int) (o0 : okL (okI .i64) a0) (o1 : okL (okI .u8) a1) : ∃ fuel, law22_FragmentReturns fuel a0 a1 = some true := by
  refine ⟨10000, Ev.isTrue ?_⟩
  unfold law22_FragmentReturns
  rw [Light_eq, bindP_some, joinP]
  have skip : Ev (bindP (law22_awake 10000) fun y2 => some y2) (fun b => b = true) := Ev.to awake22 (Ev.ret rfl)
  refine Ev.not (Ev.dec (fun h0 => ?_) (fun _ => skip))
  refine Ev.dec (fun _ => skip) (fun h1 => ?_)
  rw [Roll_eq, bindP_some]
  obtain ⟨p, d1, e1, hp, hpb, hd1⟩ := Packet_ok (fuel := 10000) (by omega) (roll_ok (l := a0) (by omega))
  rw [e1, bindP_some, Encode_eq (by omega), bindP_some, Valid_eq, bindP_some]
  refine Ev.bneF encR_ok.symm ?_
  have hb1 : ∀ x ∈ a1, byte x := fun x hx => okI_u8.1 (o1.2 x hx)
  have rest : Ev (bindP (app 1 ([1, 9, 10]) a1) fun x1 =>
      loopP (fun k1 (s3 : Int) => iteP (decide (s3 < (([a1, x1]).length : Int))) (bindP (idx ([a1, x1]) s3) fun x2 => bindP (fragment_Decode 10000 x2) fun y7 => iteP (y7.2 != 0) (k1 ((IntKind.i64.wrap (s3 + 1)))) (
        bindP (fragment_Encode 10000 y7.1) fun y8 => joinP (fun (s4 : Bool) => iteP s4 (some false) (k1 ((IntKind.i64.wrap (s3 + 1))))) fun j3 => iteP (y8.2 != 0) (j3 (true)) (bindP (ref01_Same 10000 y8.1 x2) fun y9 => j3 (!y9)))) (
        bindP (law22_awake 10000) fun y10 => some y10)) 10000 (0)) (fun b => b = true) := by
    rw [app_ok (by simp; omega), bindP_some]
    refine Ev.each (l := [a1, [1, 9, 10] ++ a1]) (by simp) (fun i x hx hm hi self hself => ?_) (fun self => ?_)
    · refine Ev.decT (by simp at hi ⊢; omega) ?_
      rw [idx_nat, hx, bindP_some, wi i (by simp at hi; omega)]
      have hx2 : x.length ≤ 500 ∧ ∀ z ∈ x, byte z := by
        simp at hm
        rcases hm with rfl | rfl
        · exact ⟨by omega, hb1⟩
        · refine ⟨by simp; omega, fun z hz => ?_⟩
          simp at hz
          rcases hz with rfl | rfl | rfl | hz
          · exact ⟨by decide, by decide⟩
          · exact ⟨by decide, by decide⟩
          · exact ⟨by decide, by decide⟩
          · exact hb1 z hz
      rw [Decode_eq (by omega) hx2.1 hx2.2, bindP_some]
      refine Ev.bne (fun _ => hself) (fun h0 => ?_)
      have he := enc_of_dec hx2.2 h0
      rw [Encode_eq (by omega), bindP_some, joinP, he]
      refine Ev.bneF rfl ?_
      have hs : ref01_Same 10000 x x = some true := by rw [Same_eq (by omega) (by omega)]; simp
      dsimp only
      rw [hs, bindP_some]
      exact Ev.iteF rfl hself
    · refine Ev.decF (by simp) skip
  rw [joinP]
  refine Ev.beq (fun h => ?_) (fun _ => rest)
  have hv : validB p = true := by rw [← encR_ok]; simpa using h
  rw [Decode_eq (by omega) (encR_len (by omega)) (encR_byte hv hpb), bindP_some, joinP, dec_enc hv]
  refine Ev.bneF rfl ?_
  have hs : ref22_Same 10000 p p = some true := by rw [RSame_eq (by omega) _ _ (by omega)]; simp
  dsimp only
  rw [hs, bindP_some]
  exact Ev.iteF rfl rest
end Lift
