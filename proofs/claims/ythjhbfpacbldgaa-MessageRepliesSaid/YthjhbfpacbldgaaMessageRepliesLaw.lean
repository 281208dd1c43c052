/- The plain law of MessageReplies. uses: base lists sum8 ev messages dice dicebytes dicemessage each mreplies
-/
import Derived.Test.YthjhbfpacbldgaaDicemessage
import Derived.Test.YthjhbfpacbldgaaEach
import Derived.Test.YthjhbfpacbldgaaMreplies
namespace Lift
open Go
theorem law23_MessageReplies_true (a0 a1 : Message_) (a2 : List Int) (a3 : Int) (a4 : List Int) (o0 : Message_.ok a0) (o1 : Message_.ok a1) (o2 : okL (okI .i64) a2) (o3 : okI .u8 a3) (o4 : okL (okI .u8) a4) : ∃ fuel, law23_MessageReplies fuel a0 a1 a2 a3 a4 = some true := by
  refine ⟨6000, Ev.isTrue ?_⟩
  unfold law23_MessageReplies
  have hf : 5000 < 6000 := by omega
  refine Ev.join (fun s => s = false → a0.Data.length ≤ 300 ∧ a1.Data.length ≤ 300 ∧ a4.length ≤ 300 ∧ a2.length ≤ 600) (fun s hs => Ev.ite (fun _ => Ev.to law23_awake_eq (Ev.ret rfl)) (fun e => ?_)) (fun j hj => ?_)
  · obtain ⟨l0, l1, l4, l2⟩ := hs e
    have t0 := MT.of o0 (by omega)
    have t1 := MT.of o1 (by omega)
    have hc := okI_u8.1 o3
    obtain ⟨b, d1, e1, h1⟩ := Bool_ok 6000 (roll_ok (l := a2) (by omega)) (m := 8) (by omega) (by omega)
    obtain ⟨x, d2, e2, ⟨tx, vx, px⟩, h2⟩ := Message_ok hf h1 b
    obtain ⟨L, d3, e3, hL1, hL2, h3⟩ := Bytes_ok hf h2 (n := 5) (by omega) (by omega)
    obtain ⟨ty, _⟩ := mreply_MT tx hc hL2
    obtain ⟨r, d4, e4, hr, h4⟩ := next_nat 6000 h3 (m := 8) (by omega) (by omega)
    refine Ev.to (Roll_eq _ _) (Ev.to e1 (Ev.to e2 (Ev.to e3 (Ev.to (rReply_eq hf tx a3 (data := L) (by omega)) (Ev.to e4 (Ev.letP (Ev.join MT (fun z tz => ?_) (fun j2 hj2 => ?_))))))))
    · refine Ev.each (l := [[a0, a1], [x, (mreply x a3 L).1], [x, z], [a0, (mreply x a3 L).1]]) (by simp) (fun i w hw hmem hi self hself => ?_) (fun self => Ev.decF (by simp) (Ev.to law23_awake_eq (Ev.ret rfl)))
      obtain ⟨p, q, rfl, tp, tq⟩ : ∃ p q, w = [p, q] ∧ MT p ∧ MT q := by
        simp only [List.mem_cons, List.not_mem_nil, or_false] at hmem
        rcases hmem with rfl | rfl | rfl | rfl
        · exact ⟨_, _, rfl, t0, t1⟩
        · exact ⟨_, _, rfl, tx, ty⟩
        · exact ⟨_, _, rfl, tx, tz⟩
        · exact ⟨_, _, rfl, t0, ty⟩
      have i0 : idx [p, q] 0 = some p := rfl
      have i1 : idx [p, q] 1 = some q := rfl
      have hlen : (mreply p a3 a4).1.Data.length ≤ 240 := (mreply_MT tp hc (fun y hy => okI_u8.1 (o4.2 y hy))).2
      refine Ev.decT (by simp at hi ⊢; omega) ?_
      refine Ev.to (by rw [idx_nat, hw]) ?_
      refine Ev.to i0 (Ev.chk rfl ?_)
      refine Ev.to (mReply_eq tp a3 (by omega)) ?_
      refine Ev.to i0 (Ev.chk rfl ?_)
      refine Ev.to (rReply_eq hf tp a3 (by omega)) ?_
      refine Ev.join (fun s => s = false) (fun s hs => Ev.iteF hs ?_) (fun j3 hj3 => ?_)
      · rw [w_i64 (by have : i < 4 := by simpa using hi
                      omega) (by have : i < 4 := by simpa using hi
                                 omega)]
        exact hself
      · refine Ev.letP (Ev.bneF rfl ?_)
        refine Ev.to (mSame_eq hf _ _ (by omega)) ?_
        refine Ev.letP (Ev.not (Ev.iteT (by simp) ?_))
        refine Ev.to i0 (Ev.chk rfl ?_)
        refine Ev.to i1 (Ev.chk rfl ?_)
        refine Ev.to (mMatches_eq tp tq) ?_
        refine Ev.to i0 (Ev.chk rfl ?_)
        refine Ev.to i1 (Ev.chk rfl ?_)
        exact Ev.to (rMatches_eq hf tp tq) (hj3 _ (by simp))
    · refine Ev.beq (fun _ => ?_) (fun _ => Ev.letP (Ev.beq (fun _ => ?_) (fun _ => Ev.letP (Ev.beq (fun _ => ?_) (fun _ => Ev.letP (Ev.beq (fun _ => ?_) (fun _ => Ev.letP (Ev.beq (fun _ => ?_) (fun _ => hj2 _ ty)))))))))
      · obtain ⟨y, d5, e5, hy, h5⟩ := next_nat 6000 h4 (m := 64) (by omega) (by omega)
        exact Ev.to e5 (Ev.letP (hj2 _ ⟨ty.to, ty.fr, ty.fn, ty.cm, ty.cd, ty.tu, ty.fu, okI_small (by show (-1000000 : Int) ≤ (y : Int); omega) (by show (y : Int) ≤ 1000000; omega), ty.da, ty.le⟩))
      · obtain ⟨y, d5, e5, hy, h5⟩ := Byte_ok 6000 h4
        exact Ev.to e5 (Ev.letP (hj2 _ ⟨ty.to, ty.fr, ty.fn, hy, ty.cd, ty.tu, ty.fu, ty.sq, ty.da, ty.le⟩))
      · obtain ⟨y, d5, e5, hy, h5⟩ := next_nat 6000 h4 (m := 4) (by omega) (by omega)
        exact Ev.to e5 (Ev.letP (hj2 _ ⟨ty.to, ty.fr, (xor_byte ty.fn ⟨by rw [w_u8]; omega, by rw [w_u8]; omega⟩).2, ty.cm, ty.cd, ty.tu, ty.fu, ty.sq, ty.da, ty.le⟩))
      · obtain ⟨y, d5, e5, hy, h5⟩ := Byte_ok 6000 h4
        exact Ev.to e5 (Ev.letP (hj2 _ ⟨ty.to, hy, ty.fn, ty.cm, ty.cd, ty.tu, ty.fu, ty.sq, ty.da, ty.le⟩))
      · obtain ⟨y, d5, e5, hy, h5⟩ := next_nat 6000 h4 (m := 4) (by omega) (by omega)
        exact Ev.to e5 (Ev.letP (hj2 _ ⟨ty.to, ty.fr, ty.fn, ty.cm, ty.cd, okI_small (by show (-1000000 : Int) ≤ (y : Int); omega) (by show (y : Int) ≤ 1000000; omega), ty.fu, ty.sq, ty.da, ty.le⟩))
  · refine Ev.dec (fun _ => hj _ (fun e => by cases e)) (fun h0 => Ev.dec (fun _ => hj _ (fun e => by cases e)) (fun h1 => Ev.dec (fun _ => hj _ (fun e => by cases e)) (fun h2 => Ev.to (Light_eq _ _) (hj _ (fun e => ?_)))))
    have h3 : (a2.length : Int) ≤ 600 := by simpa using e
    omega
end Lift
