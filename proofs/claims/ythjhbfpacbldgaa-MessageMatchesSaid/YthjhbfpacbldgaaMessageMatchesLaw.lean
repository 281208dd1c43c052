/- The plain law of MessageMatches. uses: base lists sum8 ev messages dice dicebytes dicemessage each mreplies mparse mround
-/
import Derived.Test.YthjhbfpacbldgaaDicemessage
import Derived.Test.YthjhbfpacbldgaaEach
import Derived.Test.YthjhbfpacbldgaaMround
namespace Lift
open Go
theorem law23_MessageMatches_true (a0 : List Int) (a1 : Int) (a2 : List Int) (a3 : Int) (o0 : okL (okI .i64) a0) (o1 : okI .u8 a1) (o2 : okL (okI .u8) a2) (o3 : okI .i64 a3) : ∃ fuel, law23_MessageMatches fuel a0 a1 a2 a3 = some true := by
  refine ⟨6000, Ev.isTrue ?_⟩
  unfold law23_MessageMatches
  have hf : 5000 < 6000 := by omega
  refine Ev.to (Light_eq _ _) (Ev.join (fun s => s = false → a0.length ≤ 600 ∧ a2.length ≤ 240) (fun s hs => Ev.ite (fun _ => Ev.to law23_awake_eq (Ev.ret rfl)) (fun e => ?_)) (fun j hj => ?_))
  · obtain ⟨l0, l2⟩ := hs e
    obtain ⟨m, d2, e2, ⟨tm, vm, pm, hto, hfr⟩, h2⟩ := Message_ok hf (roll_ok (l := a0) (by omega)) false
    simp only [Bool.false_eq_true, if_false] at pm
    have bc := okI_u8.1 o1
    have bd : ∀ x ∈ a2, byte x := fun x hx => okI_u8.1 (o2.2 x hx)
    obtain ⟨tr, _⟩ := mreply_MT tm bc bd
    have er : mreply m a1 a2 = (⟨m.From, m.To, m.Function + 1, m.Command, m.FromUnit, m.ToUnit, m.Sequence, a1, a2⟩, 0) := by simp [mreply, vm, pm, l2]
    rw [er] at tr
    generalize hR : (⟨m.From, m.To, m.Function + 1, m.Command, m.FromUnit, m.ToUnit, m.Sequence, a1, a2⟩ : Message_) = R at er tr
    have vR : MV R := by
      subst hR
      obtain ⟨q1, q2, q3, q4, q5, q6, q7, q8, q9, q10, q11, _, q13⟩ := vm
      exact ⟨q3, q4, q1, q2, by simp only; omega, q8, q9, q6, q7, q10, q11, l2, .inl (by simp only; omega)⟩
    have pR : R.Function % 2 = 1 := by subst hR; simp only; omega
    have es : mres R = (mbytes R, 0) := by simp [mres, vR, pR]
    obtain ⟨hs1, hl1, hl2⟩ := mbytes_small vR tr
    have ep : mparse true (mbytes R) = (R, 0) := mparse_back vR tr true pR
    have td : MT { m with Data := a2 } := ⟨tm.to, tm.fr, tm.fn, tm.cm, tm.cd, tm.tu, tm.fu, tm.sq, bd, by simp only; omega⟩
    have vd : MV { m with Data := a2 } := by
      obtain ⟨q1, q2, q3, q4, q5, q6, q7, q8, q9, q10, q11, _, q13⟩ := vm
      exact ⟨q1, q2, q3, q4, q5, q6, q7, q8, q9, q10, q11, l2, q13⟩
    have c0 : R.Code = a1 := by subst hR; rfl
    have c1 : R.Data = a2 := by subst hR; rfl
    have c2 : MM m R := by subst hR; exact ⟨⟨vm, pm⟩, vR, rfl, rfl, rfl, rfl, rfl, rfl, rfl⟩
    have c3 : MM { m with Data := a2 } R := by subst hR; exact ⟨⟨vd, pm⟩, vR, rfl, rfl, rfl, rfl, rfl, rfl, rfl⟩
    have c4 : ¬ MM R m := fun hc => by have := hc.1.2; omega
    have E3 : message_Reply 6000 m a1 a2 = some (R, 0) := by rw [mReply_eq tm a1 (by omega), er]
    have E4 : message_Response 6000 R = some (mbytes R, 0) := by rw [mResponse_eq hf tr, es]
    have E5 : message_ParseResponse 6000 (mbytes R) = some (R, 0) := by rw [mpas_eq hf hs1, ep]
    refine Ev.to (Roll_eq _ _) (Ev.to e2 ?_)
    refine Ev.to E3 ?_
    refine Ev.to E4 ?_
    refine Ev.to E5 ?_
    refine Ev.to (Mod_eq _ (by omega) (by omega)) (Ev.letP ?_)
    refine Ev.join (fun s => MT s ∧ MV s ∧ ¬ MM s R) (fun s hs => ?_) (fun j2 hj2 => ?_)
    · obtain ⟨ts, vs, ns⟩ := hs
      refine Ev.letP (Ev.beqT rfl (Ev.beqT rfl (Ev.beqT rfl ?_)))
      refine Ev.to (mValid_eq _ ts.fn.1) (Ev.decT vs (Ev.beqT c0 ?_))
      refine Ev.to (Same_eq (by show R.Data.length ≤ 100000; rw [c1]; omega) (by show R.Data.length < 6000; rw [c1]; omega)) (Ev.decT c1 ?_)
      refine Ev.to (mMatches_eq tm tr) (Ev.decT c2 ?_)
      refine Ev.to (mMatches_eq td tr) (Ev.decT c3 ?_)
      refine Ev.to (mMatches_eq ts tr) (Ev.not (Ev.decF ns ?_))
      refine Ev.to (mMatches_eq tr tm) (Ev.not (Ev.decF c4 ?_))
      exact Ev.to law23_awake_eq (Ev.ret rfl)
    · have vm' := vm
      obtain ⟨q1, q2, q3, q4, q5, q6, q7, q8, q9, q10, q11, q12, q13⟩ := vm'
      have hc := tm.cm
      have hfn := tm.fn
      refine Ev.ite (fun _ => Ev.letP (hj2 _ ?_)) (fun _ => Ev.letP ?_)
      rotate_left
      refine Ev.ite (fun _ => Ev.letP (hj2 _ ?_)) (fun _ => Ev.letP ?_)
      rotate_left
      refine Ev.ite (fun _ => Ev.letP (hj2 _ ?_)) (fun _ => Ev.letP ?_)
      rotate_left
      refine Ev.ite (fun _ => Ev.letP (hj2 _ ?_)) (fun _ => Ev.letP ?_)
      rotate_left
      refine Ev.ite (fun _ => Ev.letP (hj2 _ ?_)) (fun _ => Ev.letP ?_)
      rotate_left
      refine Ev.ite (fun _ => Ev.letP (hj2 _ ?_)) (fun _ => Ev.letP (hj2 _ ?_))
      rotate_left 2
      · have w : IntKind.u8.wrap (m.To + 1) = m.To + 1 := by rw [w_u8]; omega
        rw [w]
        refine ⟨⟨⟨by simp only; omega, by simp only; omega⟩, tm.fr, tm.fn, tm.cm, tm.cd, tm.tu, tm.fu, tm.sq, tm.da, tm.le⟩, ⟨by simp only; omega, by simp only; omega, q3, q4, q5, q6, q7, q8, q9, q10, q11, q12, q13⟩, fun hm => ?_⟩
        have := hm.2.2.2.1
        subst hR; simp only at this; omega
      · have w : IntKind.u8.wrap (m.From + 1) = m.From + 1 := by rw [w_u8]; omega
        rw [w]
        refine ⟨⟨tm.to, ⟨by simp only; omega, by simp only; omega⟩, tm.fn, tm.cm, tm.cd, tm.tu, tm.fu, tm.sq, tm.da, tm.le⟩, ⟨q1, q2, by simp only; omega, by simp only; omega, q5, q6, q7, q8, q9, q10, q11, q12, q13⟩, fun hm => ?_⟩
        have := hm.2.2.1
        subst hR; simp only at this; omega
      · obtain ⟨x1, x2, x3, x4⟩ := fn_two hfn.1 q5 pm
        refine ⟨⟨tm.to, tm.fr, x1, tm.cm, tm.cd, tm.tu, tm.fu, tm.sq, tm.da, tm.le⟩, ⟨q1, q2, q3, q4, x2, q6, q7, q8, q9, q10, q11, q12, .inr ?_⟩, fun hm => ?_⟩
        · rcases q13 with q13 | q13
          · omega
          · exact q13
        · have := hm.2.2.2.2.1
          subst hR; simp only at this; omega
      · have wb : byte (IntKind.u8.wrap (m.Command + 1)) := ⟨by rw [w_u8]; omega, by rw [w_u8]; omega⟩
        refine ⟨⟨tm.to, tm.fr, tm.fn, wb, tm.cd, tm.tu, tm.fu, tm.sq, tm.da, tm.le⟩, ⟨q1, q2, q3, q4, q5, q6, q7, q8, q9, q10, q11, q12, q13⟩, fun hm => ?_⟩
        have := hm.2.2.2.2.2.1
        obtain ⟨hc1, hc2⟩ := hc
        subst hR; simp only [w_u8] at this; omega
      · have w : Int.tmod (IntKind.i64.wrap (m.Sequence + 1)) 64 = (m.Sequence + 1) % 64 := by rw [w_i64 (by omega) (by omega), Int.tmod_eq_emod_of_nonneg (by omega)]
        rw [w]
        refine ⟨⟨tm.to, tm.fr, tm.fn, tm.cm, tm.cd, tm.tu, tm.fu, okI_small (n := (m.Sequence + 1) % 64) (by omega) (by omega), tm.da, tm.le⟩, ⟨q1, q2, q3, q4, q5, q6, q7, q8, q9, by simp only; omega, by simp only; omega, q12, q13⟩, fun hm => ?_⟩
        have := hm.2.2.2.2.2.2.2.2
        subst hR; simp only at this; omega
      · have w : Int.tmod (IntKind.i64.wrap (m.ToUnit + 1)) 4 = (m.ToUnit + 1) % 4 := by rw [w_i64 (by omega) (by omega), Int.tmod_eq_emod_of_nonneg (by omega)]
        rw [w]
        refine ⟨⟨tm.to, tm.fr, tm.fn, tm.cm, tm.cd, okI_small (n := (m.ToUnit + 1) % 4) (by omega) (by omega), tm.fu, tm.sq, tm.da, tm.le⟩, ⟨q1, q2, q3, q4, q5, by simp only; omega, by simp only; omega, q8, q9, q10, q11, q12, q13⟩, fun hm => ?_⟩
        have := hm.2.2.2.2.2.2.2.1
        subst hR; simp only at this; omega
      · have w : Int.tmod (IntKind.i64.wrap (m.FromUnit + 1)) 4 = (m.FromUnit + 1) % 4 := by rw [w_i64 (by omega) (by omega), Int.tmod_eq_emod_of_nonneg (by omega)]
        rw [w]
        refine ⟨⟨tm.to, tm.fr, tm.fn, tm.cm, tm.cd, tm.tu, okI_small (n := (m.FromUnit + 1) % 4) (by omega) (by omega), tm.sq, tm.da, tm.le⟩, ⟨q1, q2, q3, q4, q5, q6, q7, by simp only; omega, by simp only; omega, q10, q11, q12, q13⟩, fun hm => ?_⟩
        have := hm.2.2.2.2.2.2.1
        subst hR; simp only at this; omega
  · refine Ev.not (Ev.dec (fun h0 => hj _ (fun e => ?_)) (fun _ => hj _ (fun e => by cases e)))
    have h2 : ¬ 240 < (a2.length : Int) := by simpa using e
    omega
end Lift
