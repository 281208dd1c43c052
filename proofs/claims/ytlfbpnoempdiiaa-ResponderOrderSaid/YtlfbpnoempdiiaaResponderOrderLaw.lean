/- The plain law of ResponderOrder. uses: base lists sum8 ev messages mreplies mparse mparser mround mtyped mcanon gen2 codes2 resp resp2 same25 resp3 resp4 awake25
-/
import Derived.Test.YtlfbpnoempdiiaaAwake25
import Derived.Test.YtlfbpnoempdiiaaResp4
set_option linter.unusedVariables false
set_option linter.unusedSimpArgs false
namespace Lift
open Go
theorem oSm_eq {fuel : Nat} (hf : 6000 < fuel) {a b : Message_} (h : a.Data.length ≤ 1000) : responder_Same fuel a b = some (decide (isame a b)) := by
  unfold responder_Same
  rw [is_eq hf h, bindP_some]
theorem drop_cons {α : Type} {l : List α} {i : Nat} {x : α} (h : l[i]? = some x) : l.drop i = x :: l.drop (i + 1) := by
  have hi := lt_len h
  rw [List.drop_eq_getElem_cons hi]
  rw [List.getElem?_eq_getElem hi] at h
  cases h; rfl
theorem law25_ResponderOrder_true (a0 : List Int) (o0 : okL (okI .u8) a0) : ∃ fuel, law25_ResponderOrder fuel a0 = some true := by
  refine ⟨10000, Ev.isTrue ?_⟩
  unfold law25_ResponderOrder
  have hf : 6000 < 10000 := by omega
  refine Ev.to law25_awake_eq (Ev.iteF rfl ?_)
  obtain ⟨c, ec, hc⟩ := fNew_ok 10000 (l := a0) (n := 100) (fun x hx => okI_u8.1 (o0.2 x hx)) (by omega) (by omega)
  refine Ev.to ec (Ev.to (sNew_eq _ _) ?_)
  rw [if_pos (by omega)]
  refine Ev.bneF rfl ?_
  have b32 : byte 32 := ⟨by decide, by decide⟩
  refine Ev.count 8 (fun i (s : Int × field_Codes × Responder_ × List Message_) => s.1 = (i : Int) ∧ COk s.2.1 ∧ s.2.2.1 = ⟨32, s.2.2.2, []⟩ ∧ SV s.2.2.1 ∧ ST s.2.2.1 ∧ s.2.2.2.length ≤ i) (by omega) ⟨rfl, hc, rfl, nil_V (by omega) (by omega), nil_T b32, by simp⟩ (fun i s hi hI self hself => ?_)
  obtain ⟨n, c, r, want⟩ := s
  obtain ⟨h1, h2, h3, h4, h5, h6⟩ := hI
  simp only at h1 h2 h3 h4 h5 h6
  subst h1 h3
  simp only
  by_cases hil : i < 8
  · obtain ⟨r4, c4, e4, l4, k4⟩ := fnext_nat 10000 h2 (m := 3) (by omega) (by omega)
    obtain ⟨r5, c5, e5, l5, k5⟩ := fnext_nat 10000 k4 (m := 4) (by omega) (by omega)
    obtain ⟨x1, hx1, b1, b2⟩ : ∃ z, ([64, 66, 68] : List Int)[r4]? = some z ∧ 8 ≤ z ∧ z ≤ 119 := by
      have : r4 = 0 ∨ r4 = 1 ∨ r4 = 2 := by omega
      rcases this with rfl | rfl | rfl <;> exact ⟨_, rfl, by omega, by omega⟩
    refine Ev.decT (by omega) (Ev.to e4 (Ev.to (a := x1) (by rw [idx_nat]; exact hx1) (Ev.to e5 ?_)))
    obtain ⟨tm, vm⟩ := rqm_ok (fr := x1) (cm := 1) (sq := (r5 : Int)) (d := []) b1 b2 (show byte 1 from ⟨by decide, by decide⟩) (by omega) (by omega) (by simp) (fun x hx => (by cases hx))
    simp only [show (⟨32, x1, 6, 1, 0, 0, (r5 : Int), 0, []⟩ : Message_) = rqm x1 1 (r5 : Int) [] from rfl]
    generalize rqm x1 1 (r5 : Int) [] = m at tm vm
    have hb := (mbytes_small vm.1.1 tm).1
    refine Ev.to (mRequest_eq (by omega) tm) ?_
    rw [mreq_of vm.1]
    refine Ev.to (sAcc_eq hf h5 hb 5) ?_
    have t1 := (sacc_T h5 hb 5).1
    have key : sacc ⟨32, want, []⟩ (mbytes m) 5 = (⟨32, want ++ (if ∃ q ∈ want, isame q m then [] else [m]), []⟩, [], 0) ∧ SV ⟨32, want ++ (if ∃ q ∈ want, isame q m then [] else [m]), []⟩ := by
      by_cases hq : ∃ q ∈ want, isame q m
      · rw [if_pos hq, List.append_nil]
        exact ⟨acc_wait h4 vm tm (by omega) (by omega) (fun k hk => (by cases hk)) hq, h4⟩
      · rw [if_neg hq]
        refine acc_new h4 vm tm (by omega) (by omega) (fun q hq2 hc => hq ⟨q, ?_, hc⟩) (by show want.length < 8; omega) (by show want.length + 0 < 16; omega)
        have e : allq (sfresh ⟨32, want, []⟩ 5) = want := List.append_nil want
        rw [e] at hq2; exact hq2
    obtain ⟨ek, vk⟩ := key
    rw [ek] at t1 ⊢
    refine Ev.join (fun s => s = false) (fun s hs => Ev.iteF hs ?_) (fun j hj => Ev.bneF rfl (hj _ rfl))
    simp only
    refine Ev.count want.length (fun k (s : Bool × Int) => s.2 = (k : Int) ∧ (s.1 = true ↔ ∃ q ∈ want.take k, isame q m)) (by omega) ⟨rfl, by simp⟩ (fun k s hk hK self2 hself2 => ?_)
    obtain ⟨ag, kk⟩ := s
    obtain ⟨q1, q2⟩ := hK
    simp only at q1 q2
    subst q1
    simp only
    by_cases hkl : k < want.length
    · obtain ⟨x, hx, hxm⟩ := getq hkl
      have hmem : (∃ q ∈ want.take (k + 1), isame q m) ↔ (∃ q ∈ want.take k, isame q m) ∨ isame x m := by
        rw [take_q_succ hx]
        constructor
        · rintro ⟨q, hq, hc⟩
          rcases List.mem_append.1 hq with h | h
          · exact .inl ⟨q, h, hc⟩
          · simp only [List.mem_singleton] at h; subst h; exact .inr hc
        · rintro (⟨q, hq, hc⟩ | hc)
          · exact ⟨q, List.mem_append_left _ hq, hc⟩
          · exact ⟨x, List.mem_append_right _ (by simp), hc⟩
      refine Ev.decT (by omega) (Ev.to (by rw [idx_nat, hx]) ?_)
      rw [wi k (by omega)]
      refine Ev.ite (fun e => hself2 _ hkl ⟨rfl, ?_⟩) (fun e => Ev.to (oSm_eq hf (h5.qs x hxm).le) (hself2 _ hkl ⟨rfl, ?_⟩))
      · rw [hmem]; exact ⟨fun _ => .inl (q2.1 e), fun _ => rfl⟩
      · have hne : ¬ ∃ q ∈ want.take k, isame q m := fun h => by rw [q2.2 h] at e; cases e
        rw [hmem]
        simp only [decide_eq_true_eq]
        exact ⟨fun h => .inr h, fun h => h.elim (fun h => absurd h hne) (fun h => h)⟩
    · have hwt : want.take k = want := List.take_of_length_le (by omega)
      rw [hwt] at q2
      refine Ev.decF (by omega) (Ev.not (Ev.ite (fun e => Ev.letP ?_) (fun e => ?_)))
      · rw [wi i (by omega)]
        have hq := q2.1 e
        refine hself _ hil ⟨rfl, k5, ?_, vk, t1, by simp only; omega⟩
        simp only
        rw [if_pos hq, List.append_nil]
      · have hq : ¬ ∃ q ∈ want, isame q m := fun h => by rw [q2.2 h] at e; cases e
        refine Ev.to (app_ok (by simp only [List.length_singleton]; omega)) (Ev.letP ?_)
        rw [wi i (by omega)]
        refine hself _ hil ⟨rfl, k5, ?_, vk, t1, by simp; omega⟩
        simp only
        rw [if_neg hq]
  · refine Ev.decF (by omega) ?_
    refine Ev.count want.length (fun k (s : List Message_ × Int × Responder_) => s.1 = want ∧ s.2.1 = (k : Int) ∧ s.2.2.Queue = want.drop k ∧ SV s.2.2 ∧ ST s.2.2) (by omega) ⟨rfl, rfl, by simp, h4, h5⟩ (fun k s hk hK self2 hself2 => ?_)
    obtain ⟨w, kk, r⟩ := s
    obtain ⟨q1, q2, q3, q4, q5⟩ := hK
    simp only at q1 q2 q3 q4 q5
    subst q1 q2
    simp only
    by_cases hkl : k < w.length
    · obtain ⟨x, hx, hxm⟩ := getq hkl
      have hq := drop_cons hx
      rw [hq] at q3
      obtain ⟨y, _, ty, vy, e2, v2, _⟩ := done_ok q4 q5 q3 (code := 0) (show byte 0 from ⟨by decide, by decide⟩) (data := []) (by simp) (fun x hx => (by cases hx)) (now := 6) (by omega) (by omega)
      have t2 := (sdone_T q5 (code := 0) (show byte 0 from ⟨by decide, by decide⟩) (data := []) (fun x hx => (by cases hx)) 6).1
      rw [e2] at t2
      have tx := q5.qs x (by rw [q3]; simp)
      refine Ev.decT (by omega) (Ev.to (by rw [idx_nat, hx]) (Ev.to (sNext_eq hf q5) (Ev.to (sDone_eq hf q5 (show byte 0 from ⟨by decide, by decide⟩) (fun x hx => (by cases hx)) (by simp) 6) ?_)))
      rw [snext_cons q4 q3, e2]
      refine Ev.join (fun s => s = false) (fun s hs => Ev.iteF hs ?_) (fun j hj => Ev.iteF rfl (Ev.bneF rfl (Ev.to (sMsg_eq tx.da tx.da) (hj _ (by simp)))))
      rw [wi k (by omega)]
      exact hself2 _ hkl ⟨rfl, rfl, rfl, v2, t2⟩
    · refine Ev.decF (by omega) (Ev.to (sNext_eq hf q5) ?_)
      rw [snext_nil (by rw [q3, List.drop_of_length_le (by omega)])]
      exact Ev.letP (Ev.ret rfl)
end Lift
