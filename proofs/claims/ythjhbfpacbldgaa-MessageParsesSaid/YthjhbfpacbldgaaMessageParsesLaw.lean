/- The plain law of MessageParses. uses: base lists sum8 ev messages dice dicebytes dicemessage each mreplies mparse mround
-/
import Derived.Test.YthjhbfpacbldgaaDicemessage
import Derived.Test.YthjhbfpacbldgaaEach
import Derived.Test.YthjhbfpacbldgaaMround
namespace Lift
open Go
theorem law23_MessageParses_true (a0 a1 : List Int) (o0 : okL (okI .u8) a0) (o1 : okL (okI .i64) a1) : ∃ fuel, law23_MessageParses fuel a0 a1 = some true := by
  refine ⟨6000, Ev.isTrue ?_⟩
  unfold law23_MessageParses
  have hf : 5000 < 6000 := by omega
  refine Ev.join (fun s => s = false → a0.length ≤ 300 ∧ a1.length ≤ 600) (fun s hs => Ev.ite (fun _ => Ev.to law23_awake_eq (Ev.ret rfl)) (fun e => ?_)) (fun j hj => ?_)
  · obtain ⟨l0, l1⟩ := hs e
    obtain ⟨m, d1, e1, ⟨tm, vm, pm, _⟩, h1⟩ := Message_ok hf (roll_ok (l := a1) (by omega)) false
    obtain ⟨n, d2, e2, ⟨tn, vn, pn, _⟩, h2⟩ := Message_ok hf h1 true
    obtain ⟨hsm, lm1, lm2⟩ := mbytes_small vm tm
    obtain ⟨hsn, ln1, ln2⟩ := mbytes_small vn tn
    have em : mreq m = (mbytes m, 0) := by simp at pm; simp [mreq, vm, pm]
    have en : mres n = (mbytes n, 0) := by simp at pn; simp [mres, vn, pn]
    refine Ev.to (Roll_eq _ _) (Ev.to e1 (Ev.to ((rRequest_eq hf tm).trans (by rw [em])) (Ev.to e2 (Ev.to ((rResponse_eq hf tn).trans (by rw [en])) (Ev.join (fun s => (Small s.1 ∧ s.1.length ≤ 1000) ∧ DOk s.2) (fun s hs => ?_) (fun j2 hj2 => ?_))))))
    · obtain ⟨w, dd⟩ := s
      obtain ⟨⟨hw, lw⟩, hd⟩ := hs
      have s1 : Small [32, 24] := ⟨by simp, fun x hx => by
        simp only [List.mem_cons, List.not_mem_nil, or_false] at hx
        rcases hx with rfl | rfl <;> constructor <;> omega⟩
      obtain ⟨y, d3, e3, hy, h3⟩ := next_nat 6000 hd (m := 3) (by omega) (by omega)
      have s2 : Small ([128, 4, 1] ++ List.replicate (240 + y) 0) := ⟨by simp; omega, fun x hx => by
        simp only [List.mem_append, List.mem_cons, List.not_mem_nil, or_false] at hx
        rcases hx with (rfl | rfl | rfl) | hx
        · constructor <;> omega
        · constructor <;> omega
        · constructor <;> omega
        · exact zeros_byte x hx⟩
      obtain ⟨z, d4, e4, hz, h4⟩ := next_nat 6000 h3 (m := (mbytes m).length) (by omega) (by omega)
      have s3 : Small (([32, 24] ++ [sum8 [32, 24]]) ++ (([128, 4, 1] ++ List.replicate (240 + y) 0) ++ [sum8 ([128, 4, 1] ++ List.replicate (240 + y) 0)])) := ⟨by simp; omega, fun x hx => by
        simp only [List.mem_append] at hx
        rcases hx with (hx | hx) | (hx | hx)
        · exact s1.2 x hx
        · simp at hx; subst hx; exact sum8_byte _
        · exact s2.2 x (List.mem_append.2 hx)
        · simp at hx; subst hx; exact sum8_byte _⟩
      refine Ev.to (rSeal8_eq' s1 hf) (Ev.to e3 (Ev.to (a := List.replicate (240 + y) 0) ?_ (Ev.to (app_ok (by simp; omega)) (Ev.to (rSeal8_eq' s2 hf) (Ev.to (app_ok (by simp; omega)) (Ev.to e4 (Ev.to (sub_take (by omega) (by simp only; omega)) ?_)))))))
      · simp only
        rw [w_i64 (by omega) (by omega), show (240 + (y : Int)) = ((240 + y : Nat) : Int) by omega, mk_zeros (by omega)]
      · refine Ev.each (l := [a0, mbytes m, mbytes n, w, ([32, 24] ++ [sum8 [32, 24]]) ++ (([128, 4, 1] ++ List.replicate (240 + y) 0) ++ [sum8 ([128, 4, 1] ++ List.replicate (240 + y) 0)]), (mbytes m).take (z : Int).toNat]) (by simp) (fun i x hx hmem hi self hself => ?_) (fun self => Ev.decF (by simp) (Ev.to law23_awake_eq (Ev.ret rfl)))
        have hsx : Small x ∧ x.length ≤ 4000 := by
          simp only [List.mem_cons, List.not_mem_nil, or_false] at hmem
          rcases hmem with rfl | rfl | rfl | rfl | rfl | rfl
          · exact ⟨small_of o0 (by omega), by omega⟩
          · exact ⟨hsm, by omega⟩
          · exact ⟨hsn, by omega⟩
          · exact ⟨hw, Nat.le_trans lw (by omega)⟩
          · exact ⟨s3, by simp; omega⟩
          · exact ⟨hsm.take _, by simp; omega⟩
        obtain ⟨hx1, hx2⟩ := hsx
        have k1 := mparse_len false x
        have k2 := mparse_len true x
        refine Ev.decT (by simp at hi ⊢; omega) (Ev.to (by rw [idx_nat, hx]) (Ev.to (mpar_eq hf hx1) (Ev.to (rpar_eq hf hx1) (Ev.to (mpas_eq hf hx1) (Ev.to (rpas_eq hf hx1) (Ev.join (fun s => s = false) (fun s hs => Ev.iteF hs ?_) (fun j3 hj3 => ?_)))))))
        · rw [w_i64 (by have : i < 6 := by simpa using hi
                        omega) (by have : i < 6 := by simpa using hi
                                   omega)]
          exact hself
        · exact Ev.bneF rfl (Ev.bneF rfl (Ev.to (mSame_eq hf _ _ (by omega)) (Ev.not (Ev.iteT (by simp) (Ev.to (mSame_eq hf _ _ (by omega)) (hj3 _ (by simp)))))))
    · refine Ev.dec (fun _ => ?_) (fun _ => hj2 _ ⟨⟨⟨by simp, by simp⟩, by simp⟩, h2⟩)
      obtain ⟨k, d3, e3, hk, h3⟩ := next_nat 6000 h2 (m := (mbytes m).length) (by omega) (by omega)
      obtain ⟨b, d4, e4, hb, h4⟩ := Byte_ok 6000 h3
      have hL : Small ((mbytes m).set k b) := ⟨by simp; omega, fun x hx => by
        rcases List.mem_or_eq_of_mem_set hx with hx | rfl
        · exact hsm.2 x hx
        · exact hb⟩
      have hlen : ((mbytes m).set k b).length = (mbytes m).length := by simp
      generalize hLe : (mbytes m).set k b = L at hL hlen
      have t2 : Small (L.take 2) := hL.take 2
      have dm : Small ((L.drop 3).take (L.length - 1 - 3)) := (hL.drop 3).take _
      have hsub : sub L 3 (IntKind.i64.wrap ((L.length : Int) - 1)) = some ((L.drop 3).take (L.length - 1 - 3)) := by
        rw [w_i64 (by omega) (by omega), show (L.length : Int) - 1 = ((L.length - 1 : Nat) : Int) by omega, show (3 : Int) = ((3 : Nat) : Int) from rfl, sub_ok (by omega) (by omega)]
      refine Ev.to e3 (Ev.to (a := mbytes m) ?_ (Ev.to e4 (Ev.to (by rw [idx_nat, List.getElem?_eq_getElem hk]) (Ev.letE (c := L) ?_ (Ev.to (sub_take (b := 2) (by omega) (by omega)) (Ev.to (rSeal8_eq' t2 hf) (Ev.to hsub (Ev.to (rSeal8_eq' dm hf) (Ev.to (app_ok (by simp; omega)) (hj2 _ ⟨⟨⟨?_, ?_⟩, ?_⟩, h4⟩))))))))))
      · rw [app_ok (by simp; omega), List.nil_append]
      · rw [← hLe]; simp [upd]
      · simp; omega
      · intro x hx
        simp only [List.mem_append] at hx
        rcases hx with (hx | hx) | (hx | hx)
        · exact t2.2 x hx
        · simp at hx; subst hx; exact sum8_byte _
        · exact dm.2 x hx
        · simp at hx; subst hx; exact sum8_byte _
      · simp; omega
  · refine Ev.dec (fun _ => hj _ (fun e => by cases e)) (fun h0 => Ev.to (Light_eq _ _) (hj _ (fun e => ?_)))
    have h2 : (a1.length : Int) ≤ 600 := by simpa using e
    omega
end Lift
