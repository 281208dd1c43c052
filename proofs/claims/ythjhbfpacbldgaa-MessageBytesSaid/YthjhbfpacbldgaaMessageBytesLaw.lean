/- The plain law of MessageBytes. uses: base lists sum8 ev messages dice dicebytes dicemessage each
-/
import Derived.Test.YthjhbfpacbldgaaDicemessage
import Derived.Test.YthjhbfpacbldgaaEach
namespace Lift
open Go
theorem law23_MessageBytes_true (a0 : Message_) (a1 : List Int) (o0 : Message_.ok a0) (o1 : okL (okI .i64) a1) : ∃ fuel, law23_MessageBytes fuel a0 a1 = some true := by
  refine ⟨6000, Ev.isTrue ?_⟩
  unfold law23_MessageBytes
  have hf : 5000 < 6000 := by omega
  refine Ev.join (fun s => s = false → a0.Data.length ≤ 400 ∧ a1.length ≤ 600) (fun s hs => Ev.ite (fun _ => Ev.to law23_awake_eq (Ev.ret rfl)) (fun e => ?_)) (fun j hj => ?_)
  · obtain ⟨l0, l1⟩ := hs e
    have t0 := MT.of o0 (by omega)
    obtain ⟨b, d1, e1, h1⟩ := Bool_ok 6000 (roll_ok (l := a1) (by omega)) (m := 2) (by omega) (by omega)
    obtain ⟨m, d2, e2, ⟨tm, vm, pm⟩, h2⟩ := Message_ok hf h1 b
    obtain ⟨r, d3, e3, hr, h3⟩ := next_nat 6000 h2 (m := 7) (by omega) (by omega)
    refine Ev.to (Roll_eq _ _) (Ev.to e1 (Ev.to e2 (Ev.to e3 (Ev.letP (Ev.join (fun s => MT s.2 ∧ DOk s.1) (fun s hs => ?_) (fun j2 hj2 => ?_))))))
    · obtain ⟨dd, x⟩ := s
      obtain ⟨tx, hd⟩ := hs
      obtain ⟨p, d4, e4, ⟨tp, _, _⟩, h4⟩ := Message_ok hf hd false
      obtain ⟨q, d5, e5, ⟨tq, _, _⟩, h5⟩ := Message_ok hf h4 true
      refine Ev.to e4 (Ev.to e5 (Ev.each (l := [a0, p, q, x]) (by simp) (fun i y hy hmem hi self hself => ?_) (fun self => Ev.decF (by simp) (Ev.to law23_awake_eq (Ev.ret rfl)))))
      have ty : MT y := by
        simp only [List.mem_cons, List.not_mem_nil, or_false] at hmem
        rcases hmem with rfl | rfl | rfl | rfl
        · exact t0
        · exact tp
        · exact tq
        · exact tx
      have n1 := mreq_len ty
      have n2 := mres_len ty
      refine Ev.decT (by simp at hi ⊢; omega) (Ev.to (by rw [idx_nat, hy]) (Ev.to (mRequest_eq hf ty) (Ev.to (rRequest_eq hf ty) (Ev.to (mResponse_eq hf ty) (Ev.to (rResponse_eq hf ty) (Ev.join (fun s => s = false) (fun s hs => Ev.iteF hs ?_) (fun j3 hj3 => ?_)))))))
      · rw [w_i64 (by have : i < 4 := by simpa using hi
                      omega) (by have : i < 4 := by simpa using hi
                                 omega)]
        exact hself
      · exact Ev.to (mValid_eq _ ty.fn.1) (Ev.to (rValid23_eq _ ty.fn.1) (Ev.letP (Ev.bneF rfl (Ev.letP (Ev.bneF rfl (Ev.letP (Ev.bneF rfl (Ev.to (Same_eq (by omega) (by omega)) (Ev.letP (Ev.not (Ev.iteT (by simp) (Ev.to (Same_eq (by omega) (by omega)) (hj3 _ (by simp))))))))))))))
    · refine Ev.beq (fun _ => ?_) (fun _ => Ev.letP (Ev.beq (fun _ => ?_) (fun _ => Ev.letP (Ev.beq (fun _ => ?_) (fun _ => Ev.letP (Ev.beq (fun _ => ?_) (fun _ => Ev.letP (Ev.beq (fun _ => ?_) (fun _ => Ev.letP (Ev.beq (fun _ => ?_) (fun _ => hj2 _ ⟨tm, h3⟩)))))))))))
      · obtain ⟨y, d4, e4, by4, h4⟩ := Byte_ok 6000 h3
        exact Ev.to e4 (Ev.letP (hj2 _ ⟨⟨by4, tm.fr, tm.fn, tm.cm, tm.cd, tm.tu, tm.fu, tm.sq, tm.da, tm.le⟩, h4⟩))
      · obtain ⟨y, d4, e4, by4, h4⟩ := Byte_ok 6000 h3
        exact Ev.to e4 (Ev.letP (hj2 _ ⟨⟨tm.to, tm.fr, by4, tm.cm, tm.cd, tm.tu, tm.fu, tm.sq, tm.da, tm.le⟩, h4⟩))
      · obtain ⟨y, d4, e4, hy, h4⟩ := next_nat 6000 h3 (m := 70) (by omega) (by omega)
        refine Ev.to e4 (Ev.letP (hj2 _ ⟨⟨tm.to, tm.fr, tm.fn, tm.cm, tm.cd, tm.tu, tm.fu, ?_, tm.da, tm.le⟩, h4⟩))
        simp only
        rw [w_i64 (by omega) (by omega)]
        exact okI_small (by omega) (by omega)
      · obtain ⟨y, d4, e4, hy, h4⟩ := next_nat 6000 h3 (m := 7) (by omega) (by omega)
        refine Ev.to e4 (Ev.letP (hj2 _ ⟨⟨tm.to, tm.fr, tm.fn, tm.cm, tm.cd, ?_, tm.fu, tm.sq, tm.da, tm.le⟩, h4⟩))
        simp only
        rw [w_i64 (by omega) (by omega)]
        exact okI_small (by omega) (by omega)
      · exact Ev.letP (hj2 _ ⟨⟨tm.to, tm.fr, tm.fn, tm.cm, ⟨by simp, by simp⟩, tm.tu, tm.fu, tm.sq, tm.da, tm.le⟩, h3⟩)
      · obtain ⟨y, d4, e4, hy, h4⟩ := next_nat 6000 h3 (m := 2) (by omega) (by omega)
        refine Ev.to e4 (Ev.to (a := List.replicate (240 + y) 0) ?_ (Ev.letP (hj2 _ ⟨⟨tm.to, tm.fr, tm.fn, tm.cm, tm.cd, tm.tu, tm.fu, tm.sq, zeros_byte, by simp; omega⟩, h4⟩)))
        rw [w_i64 (by omega) (by omega), show (240 + (y : Int)) = ((240 + y : Nat) : Int) by omega, mk_zeros (by omega)]
  · refine Ev.dec (fun _ => hj _ (fun e => by cases e)) (fun h0 => Ev.to (Light_eq _ _) (hj _ (fun e => ?_)))
    have h2 : (a1.length : Int) ≤ 600 := by simpa using e
    omega
end Lift
