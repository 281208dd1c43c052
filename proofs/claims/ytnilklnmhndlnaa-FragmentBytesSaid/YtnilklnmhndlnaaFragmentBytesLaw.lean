/- The plain law of FragmentBytes. uses: base lists ev each dice dicebytes frag fragb
-/
import Derived.Test.YtnilklnmhndlnaaFragb
set_option linter.unusedVariables false
set_option linter.unusedSimpArgs false
namespace Lift
open Go
theorem law22_FragmentBytes_true (a0 : Packet_) (a1 a2 : List Int) (o0 : Packet_.ok a0) (o1 : okL (okI .u8) a1) (o2 : okL (okI .i64) a2) : ∃ fuel, law22_FragmentBytes fuel a0 a1 a2 = some true := by
  refine ⟨10000, Ev.isTrue ?_⟩
  unfold law22_FragmentBytes
  rw [joinP]
  have skip : Ev (bindP (law22_awake 10000) fun y2 => some y2) (fun b => b = true) := Ev.to awake22 (Ev.ret rfl)
  refine Ev.dec (fun _ => skip) (fun h0 => Ev.dec (fun _ => skip) (fun h1 => ?_))
  rw [Light_eq, bindP_some]
  refine Ev.not (Ev.dec (fun h2 => ?_) (fun _ => skip))
  rw [Roll_eq, bindP_some]
  obtain ⟨p, d1, e1, hp, hpb, hd1⟩ := Packet_ok (fuel := 10000) (by omega) (roll_ok (l := a2) (by omega))
  rw [e1, bindP_some]
  have hb1 : ∀ x ∈ a1, byte x := fun x hx => okI_u8.1 (o1.2 x hx)
  refine Ev.each (l := [a0, p]) (by simp) (fun i x hx hm hi self hself => ?_) (fun self => ?_)
  · refine Ev.decT (by simp at hi ⊢; omega) ?_
    have hxl : x.Data.length ≤ 200 := by
      simp at hm
      rcases hm with rfl | rfl <;> omega
    rw [idx_nat, hx, bindP_some, wi i (by simp at hi; omega), Encode_eq (by omega), bindP_some, REncode_eq, bindP_some, joinP, Valid_eq, bindP_some, RValid_eq, bindP_some, letP_eq]
    refine Ev.bneF rfl ?_
    rw [letP_eq]
    refine Ev.bneF rfl ?_
    have hl := encR_len (p := x) (by omega)
    rw [Same_eq (by omega) (by omega), bindP_some]
    exact Ev.iteF (by simp) hself
  · refine Ev.decF (by simp) ?_
    obtain ⟨b9, d9, e9, hb9, h9⟩ := Byte_ok 10000 hd1
    obtain ⟨r10, d10, e10, q1, q2, h10⟩ := Next_ok 10000 h9 (m := 5) (by omega) (by omega)
    obtain ⟨b11, d11, e11, hb11, h11⟩ := Byte_ok 10000 h10
    obtain ⟨r12, d12, e12, q3, q4, h12⟩ := Next_ok 10000 h11 (m := 2) (by omega) (by omega)
    obtain ⟨r13, d13, e13, q5, q6, h13⟩ := Next_ok 10000 h12 (m := 4) (by omega) (by omega)
    simp only [e9, e10, e11, e12, e13, bindP_some, letP_eq]
    obtain ⟨n, hn⟩ : ∃ n : Nat, r10 = n := ⟨r10.toNat, by omega⟩
    have hix : ∃ z, idx ([1, 9, 10, b9, 5] : List Int) r10 = some z := by rw [hn, idx_nat]; exact ⟨_, List.getElem?_eq_getElem (by simp; omega)⟩
    obtain ⟨z0, hix⟩ := hix
    rw [hix, bindP_some, wr (show -1000000000 ≤ 62 * r12 ∧ 62 * r12 ≤ 1000000000 by omega), wr (by omega)]
    have hmk : mk 1 (0 : Int) (62 * r12 + r13) = some (List.replicate (62 * r12 + r13).toNat 0) := by simp [mk]; omega
    rw [hmk, bindP_some]
    have hu : (upd ([1, 9, 10, b9, 5] : List Int) r10 b11).length = 5 := by simp [upd]
    rw [app_ok (by rw [hu]; simp; omega), bindP_some]
    have hbyte : ∀ z ∈ upd ([1, 9, 10, b9, 5] : List Int) r10 b11 ++ List.replicate (62 * r12 + r13).toNat 0, byte z := by
      intro z hz
      rcases List.mem_append.1 hz with hz | hz
      · rcases List.mem_or_eq_of_mem_set hz with hz | rfl
        · simp at hz
          rcases hz with rfl | rfl | rfl | rfl | rfl
          · exact ⟨by decide, by decide⟩
          · exact ⟨by decide, by decide⟩
          · exact ⟨by decide, by decide⟩
          · exact hb9
          · exact ⟨by decide, by decide⟩
        · exact hb11
      · have := List.eq_of_mem_replicate hz
        subst this; exact ⟨by decide, by decide⟩
    have hlen : (upd ([1, 9, 10, b9, 5] : List Int) r10 b11 ++ List.replicate (62 * r12 + r13).toNat 0).length ≤ 100 ∧ 5 ≤ (upd ([1, 9, 10, b9, 5] : List Int) r10 b11 ++ List.replicate (62 * r12 + r13).toNat 0).length := by
      rw [List.length_append, hu]; simp; omega
    generalize hbad : upd ([1, 9, 10, b9, 5] : List Int) r10 b11 ++ List.replicate (62 * r12 + r13).toNat 0 = bad at *
    obtain ⟨r14, d14, e14, q7, q8, h14⟩ := Next_ok 10000 h13 (m := (bad.length : Int)) (by omega) (by omega)
    rw [e14, bindP_some]
    have hsub : sub bad 0 r14 = some (bad.take r14.toNat) := sub_take (by omega) (by omega)
    rw [hsub, bindP_some]
    refine Ev.each (l := [a1, bad, bad.take r14.toNat]) (by simp) (fun i x hx hm hi self hself => ?_) (fun self => ?_)
    · refine Ev.decT (by simp at hi ⊢; omega) ?_
      have hx2 : x.length ≤ 500 ∧ ∀ z ∈ x, byte z := by
        simp at hm
        rcases hm with rfl | rfl | rfl
        · exact ⟨by omega, hb1⟩
        · exact ⟨by omega, hbyte⟩
        · exact ⟨by simp; omega, fun z hz => hbyte z (List.mem_of_mem_take hz)⟩
      rw [idx_nat, hx, bindP_some, wi i (by simp at hi; omega), Decode_eq (by omega) hx2.1 hx2.2, bindP_some, RDecode_eq (by omega) hx2.1 hx2.2, bindP_some, joinP]
      refine Ev.bneF rfl ?_
      rw [RSame_eq (by omega) _ _ (by have := decR_small hx2.1; omega), bindP_some]
      exact Ev.iteF (by simp) hself
    · exact Ev.decF (by simp) skip
end Lift
