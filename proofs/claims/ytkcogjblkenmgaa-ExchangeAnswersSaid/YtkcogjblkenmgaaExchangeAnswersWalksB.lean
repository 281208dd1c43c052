/- Each Go function computes its plain function. Written by lift.py. -/
import Derived.Test.YtkcogjblkenmgaaExchangeAnswersWalksA
set_option linter.unusedVariables false
set_option linter.unusedSimpArgs false
namespace Lift
open Go Go.Proofs
theorem ref23_encode_ok {fuel : Nat} {a0 : Message_} {y : (List Int)} (hF : ref23_encode fuel a0 = some y) {w : World} {v0 : Value} :
    Spec Try.prog 46 [v0].toArray w [(false, .val Message_.rep v0 a0)] [] (fun v Γr Ωr Ωo => ∃ u0 : Value, v = u0 ∧ Γr = [] ∧ Ωr = [(true, .slice 5 (Rep.int .u8) u0 y)] ∧ Ωo = []) := by
  refine Spec.of (L := [(0, v0)]) Try.func46 rfl ⟨rfl, trivial⟩ rfl (fun e h => ?_)
  unfold ref23_encode at hF
  refine Run.seq ?_
  refine Run.reg ?_
  refine RunL.op (OpS.boxF h rfl rfl rfl (V.at .z) (fun u1 w1 h1 => ?_))
  refine RunL.op (OpS.as rfl rfl rfl ?_)
  refine RunL.nil ?_
  refine Run.slim [(1, u1)] ⟨rfl, trivial⟩ ?_
  refine Run.seq ?_
  refine Run.reg ?_
  refine RunL.op (OpS.fbox (o3 := 0) h1 .z PA.z fa51_0 rfl rfl rfl rfl ?_)
  refine RunL.op (OpS.loadBi h1 .z PA.a (Get.fld Message_.f0) ty5 rfl rfl rfl ?_)
  refine RunL.op (OpS.bin rfl rfl rfl rfl rfl ?_)
  refine RunL.op (OpS.fbox (o3 := 2) h1 .z PA.z fa51_2 rfl rfl rfl rfl ?_)
  refine RunL.op (OpS.loadBi h1 .z PA.a (Get.fld Message_.f2) ty5 rfl rfl rfl ?_)
  refine RunL.op (OpS.bin rfl rfl rfl rfl rfl ?_)
  refine RunL.op (OpS.fbox (o3 := 4) h1 .z PA.z fa51_4 rfl rfl rfl rfl ?_)
  refine RunL.op (OpS.loadBi h1 .z PA.a (Get.fld Message_.f4) ty3 rfl rfl rfl ?_)
  refine RunL.op (OpS.conv Try.underlying3 Try.underlying5 rfl rfl rfl ?_)
  refine RunL.op (OpS.bin rfl rfl rfl rfl rfl ?_)
  refine RunL.op (OpS.lit (r := (Rep.int .u8)) (f := true) h1 Try.underlying22 ti5 rfl rfl rfl rfl rfl (.cons rfl V.int (.cons rfl V.int .nil)) rfl rfl (fun u2 w2 h2 => ?_))
  obtain ⟨y1, e1, hF⟩ := bindP_use hF
  refine RunL.op (OpS.callP h2 Try.func55 rfl rfl rfl rfl (vs := [u2]) rfl (ref01_Seal8_ok e1) (.cons (f := true) (V.at .z) .nil) ?_)
  rintro u3 w3 _ _ _ ⟨_, rfl, rfl, rfl, rfl⟩ h3
  have h4 := h3 rfl rfl
  simp only [List.cons_append, List.nil_append] at h4
  refine RunL.op (OpS.as rfl rfl rfl ?_)
  refine RunL.nil ?_
  refine Run.slim [(3, u3), (1, u1)] ⟨rfl, rfl, trivial⟩ ?_
  refine Run.seq ?_
  refine Run.reg ?_
  refine RunL.op (OpS.fbox (o3 := 1) h4 (.s .z) PA.z fa51_1 rfl rfl rfl rfl ?_)
  refine RunL.op (OpS.loadBi h4 (.s .z) PA.a (Get.fld Message_.f1) ty5 rfl rfl rfl ?_)
  refine RunL.op (OpS.bin rfl rfl rfl rfl rfl ?_)
  refine RunL.op (OpS.fbox (o3 := 6) h4 (.s .z) PA.z fa51_6 rfl rfl rfl rfl ?_)
  refine RunL.op (OpS.loadBi h4 (.s .z) PA.a (Get.fld Message_.f6) ty3 rfl rfl rfl ?_)
  refine RunL.op (OpS.bin rfl rfl rfl rfl rfl ?_)
  refine RunL.op (OpS.fbox (o3 := 5) h4 (.s .z) PA.z fa51_5 rfl rfl rfl rfl ?_)
  refine RunL.op (OpS.loadBi h4 (.s .z) PA.a (Get.fld Message_.f5) ty3 rfl rfl rfl ?_)
  refine RunL.op (OpS.bin rfl rfl rfl rfl rfl ?_)
  refine RunL.op (OpS.conv Try.underlying3 Try.underlying5 rfl rfl rfl ?_)
  refine RunL.op (OpS.fbox (o3 := 3) h4 (.s .z) PA.z fa51_3 rfl rfl rfl rfl ?_)
  refine RunL.op (OpS.loadBi h4 (.s .z) PA.a (Get.fld Message_.f3) ty5 rfl rfl rfl ?_)
  refine RunL.op (OpS.litO (r := (Rep.int .u8)) (f := true) h4 Try.underlying22 ti5 rfl rfl rfl rfl rfl (.cons rfl V.int (.cons rfl V.int (.cons rfl V.int .nil))) rfl rfl (fun u4 w4 h5 => ?_))
  refine RunL.op (OpS.as rfl rfl rfl ?_)
  refine RunL.nil ?_
  refine Run.slim [(4, u4), (3, u3), (1, u1)] ⟨rfl, rfl, rfl, trivial⟩ ?_
  refine Run.seq ?_
  refine Run.seq ?_
  refine Run.reg ?_
  refine RunL.op (OpS.fbox (o3 := 2) h5 (.s (.s .z)) PA.z fa51_2 rfl rfl rfl rfl ?_)
  refine RunL.op (OpS.loadBi h5 (.s (.s .z)) PA.a (Get.fld Message_.f2) ty5 rfl rfl rfl ?_)
  refine RunL.op (OpS.rem rfl rfl rfl rfl (by decide) ?_)
  refine RunL.op (OpS.bin rfl rfl rfl rfl rfl ?_)
  refine RunL.nil ?_
  refine Run.slim [(33, .bool ((Int.tmod a0.Function 2) == 1)), (4, u4), (3, u3), (1, u1)] ⟨rfl, rfl, rfl, rfl, trivial⟩ ?_
  refine Run.join (σ := ((List Int))) (fun s_ L_ w_ => ∃ u0_ : Value, L_ = [(1, u1), (3, u3), (4, u0_)] ∧ St e w_ [] [(false, .box 51 Message_.rep u1 a0), (true, .slice 5 (Rep.int .u8) u3 y1), (true, .slice 5 (Rep.int .u8) u0_ s_)]) hF (fun s1 _ w5 hI hF => ?_) (fun j1 hj1 hF => ?_)
  ·
    obtain ⟨u5, rfl, h6⟩ := hI
    refine Run.seq ?_
    refine Run.reg ?_
    refine RunL.op (OpS.mv rfl rfl rfl ?_)
    refine RunL.op (OpS.mv rfl rfl rfl ?_)
    refine RunL.op (OpS.fbox (o3 := 8) h6 .z PA.z fa51_8 rfl rfl rfl rfl ?_)
    refine RunL.op (OpS.loadB h6 .z PA.a (Get.fld Message_.f8) ty22 rfl rfl rfl (fun u6 h7 => ?_))
    obtain ⟨x1, e2, hF⟩ := bindP_use hF
    refine RunL.op (OpS.app (f' := false) h7 (.s (.s .z)) Try.underlying22 ti5 rfl rfl rfl rfl rfl rfl rfl (V.at .z) (.inr Pure.int) e2 (fun u7 w6 h8 => ?_))
    obtain ⟨y2, e3, hF⟩ := bindP_use hF
    refine RunL.op (OpS.callP h8 Try.func55 rfl rfl rfl rfl (vs := [u7]) rfl (ref01_Seal8_ok e3) (.own .z .nil) ?_)
    rintro u8 w7 _ _ _ ⟨_, rfl, rfl, rfl, rfl⟩ h9
    have h10 := h9 rfl rfl
    simp only [List.cons_append, List.nil_append] at h10
    have h11 := (h10.pick .z).freeze
    obtain ⟨x2, e4, hF⟩ := bindP_use hF
    refine RunL.op (OpS.app (f' := true) h11 (.s (.s .z)) Try.underlying22 ti5 rfl rfl rfl rfl rfl rfl rfl (V.at .z) (.inr Pure.int) e4 (fun u9 w8 h12 => ?_))
    refine RunL.op (OpS.as rfl rfl rfl ?_)
    refine RunL.nil ?_
    refine Run.slim [(2, u9)] ⟨rfl, trivial⟩ ?_
    refine Run.retP rfl (.tmp rfl .nil) ?_
    cases hF
    exact Post.mk' ⟨u9, rfl, rfl, rfl, rfl⟩ (h12.picks (.cons .z .nil)) .nil
  ·
    refine Run.ite rfl hF (fun e5 hF => ?_) (fun e5 hF => ?_)
    ·
      refine Run.reg ?_
      refine RunL.op (OpS.mv rfl rfl rfl ?_)
      refine RunL.op (OpS.fbox (o3 := 7) h5 (.s (.s .z)) PA.z fa51_7 rfl rfl rfl rfl ?_)
      refine RunL.op (OpS.loadBi h5 (.s (.s .z)) PA.a (Get.fld Message_.f7) ty5 rfl rfl rfl ?_)
      refine RunL.op (OpS.lit (r := (Rep.int .u8)) (f := true) h5 Try.underlying22 ti5 rfl rfl rfl rfl rfl (.cons rfl V.int .nil) rfl rfl (fun u10 w9 h13 => ?_))
      obtain ⟨x3, e6, hF⟩ := bindP_use hF
      refine RunL.op (OpS.app (f' := true) h13 .z Try.underlying22 ti5 rfl rfl rfl rfl rfl rfl rfl (V.at .z) (.inr Pure.int) e6 (fun u11 w10 h14 => ?_))
      refine RunL.op (OpS.as rfl rfl rfl ?_)
      refine RunL.nil ?_
      refine Run.slim [(4, u11), (3, u3), (1, u1)] ⟨rfl, rfl, rfl, trivial⟩ ?_
      refine Run.slim [(1, u1), (3, u3), (4, u11)] ⟨rfl, rfl, rfl, trivial⟩ ?_
      exact hj1 (x3) _ _ ⟨u11, rfl, (h14.facts .nil).picks (.cons (.s (.s .z)) (.cons (.s .z) (.cons .z .nil)))⟩ hF
    ·
      refine Run.skip ?_
      refine Run.slim [(1, u1), (3, u3), (4, u4)] ⟨rfl, rfl, rfl, trivial⟩ ?_
      exact hj1 ([(IntKind.u8.wrap (2 * a0.From)), (IntKind.u8.wrap (IntKind.i64.wrap ((IntKind.i64.wrap (4 * a0.Sequence)) + a0.FromUnit))), a0.Command]) _ _ ⟨u4, rfl, (h5.facts .nil).picks (.cons (.s (.s .z)) (.cons (.s .z) (.cons .z .nil)))⟩ hF
theorem ref23_Request_ok {fuel : Nat} {a0 : Message_} {y : (List Int) × Int} (hF : ref23_Request fuel a0 = some y) {w : World} {v0 : Value} :
    Spec Try.prog 41 [v0].toArray w [(false, .val Message_.rep v0 a0)] [] (fun v Γr Ωr Ωo => ∃ u0 : Value, v = .tuple #[u0, .int .i64 y.2] ∧ Γr = [] ∧ Ωr = [(true, .slice 5 (Rep.int .u8) u0 y.1)] ∧ Ωo = []) := by
  refine Spec.of (L := [(0, v0)]) Try.func41 rfl ⟨rfl, trivial⟩ rfl (fun e h => ?_)
  unfold ref23_Request at hF
  refine Run.seq ?_
  refine Run.reg ?_
  refine RunL.op (OpS.boxF h rfl rfl rfl (V.at .z) (fun u1 w1 h1 => ?_))
  refine RunL.op (OpS.as rfl rfl rfl ?_)
  refine RunL.op (OpS.as rfl rfl rfl ?_)
  refine RunL.nil ?_
  refine Run.slim [(1, u1)] ⟨rfl, trivial⟩ ?_
  refine Run.seq ?_
  refine Run.seq ?_
  refine Run.reg ?_
  refine RunL.op (OpS.loadB h1 .z PA.z Get.id ty51 rfl rfl rfl (fun u2 h2 => ?_))
  obtain ⟨y1, e1, hF⟩ := bindP_use hF
  refine RunL.op (OpS.callP h2 Try.func44 rfl rfl rfl rfl (vs := [u2]) rfl (ref23_Valid_ok e1) (.cons (f := false) (V.at .z) .nil) ?_)
  rintro _ w2 _ _ _ ⟨rfl, rfl, rfl, rfl⟩ h3
  have h4 := h3 rfl rfl
  simp only [List.cons_append, List.nil_append] at h4
  refine RunL.op (OpS.not rfl rfl rfl ?_)
  refine RunL.op (OpS.mv rfl rfl rfl ?_)
  refine RunL.join (σ := Bool) (fun s_ L_ w_ => L_ = [(1, u1), (12, .bool s_)] ∧ St e w_ [] [(false, .box 51 Message_.rep u1 a0)]) hF (fun s1 _ w3 hI hF => ?_) (fun j1 hj1 hF => ?_)
  ·
    obtain ⟨rfl, h5⟩ := hI
    refine Run.ite rfl hF (fun e2 hF => ?_) (fun e2 hF => ?_)
    ·
      refine Run.seq ?_
      refine Run.reg ?_
      refine RunL.op (OpS.as rfl rfl rfl ?_)
      refine RunL.op (OpS.as rfl rfl rfl ?_)
      refine RunL.nil ?_
      refine Run.slim [(3, .int .i64 1), (2, .slice none 0 0)] ⟨rfl, rfl, trivial⟩ ?_
      have h6 := St.nil 5 (Rep.int .u8) h5
      refine Run.retP rfl (.tmp rfl (.tmp rfl .nil)) ?_
      cases hF
      exact Post.mk' ⟨(.slice none 0 0), rfl, rfl, rfl, rfl⟩ (h6.picks (.cons .z .nil)) .nil
    ·
      refine Run.skip ?_
      refine Run.seq ?_
      refine Run.reg ?_
      refine RunL.op (OpS.loadB h5 .z PA.z Get.id ty51 rfl rfl rfl (fun u3 h7 => ?_))
      obtain ⟨y2, e3, hF⟩ := bindP_use hF
      refine RunL.op (OpS.callP h7 Try.func46 rfl rfl rfl rfl (vs := [u3]) rfl (ref23_encode_ok e3) (.cons (f := false) (V.at .z) .nil) ?_)
      rintro u4 w4 _ _ _ ⟨_, rfl, rfl, rfl, rfl⟩ h8
      have h9 := h8 rfl rfl
      simp only [List.cons_append, List.nil_append] at h9
      refine RunL.op (OpS.as rfl rfl rfl ?_)
      refine RunL.op (OpS.as rfl rfl rfl ?_)
      refine RunL.nil ?_
      refine Run.slim [(3, .int .i64 0), (2, u4)] ⟨rfl, rfl, trivial⟩ ?_
      refine Run.retP rfl (.tmp rfl (.tmp rfl .nil)) ?_
      cases hF
      exact Post.mk' ⟨u4, rfl, rfl, rfl, rfl⟩ (h9.picks (.cons .z .nil)) .nil
  ·
    refine RunL.caseb hF (fun e4 hF => ?_) (fun e4 hF => ?_)
    ·
      refine RunL.op (OpS.pass rfl rfl rfl ?_)
      refine RunL.op (OpS.pass rfl rfl rfl ?_)
      refine RunL.op (OpS.pass rfl rfl rfl ?_)
      refine RunL.op (OpS.pass rfl rfl rfl ?_)
      refine RunL.op (OpS.pick rfl rfl rfl rfl ?_)
      refine RunL.nil ?_
      refine Run.slim [(12, .bool true), (1, u1)] ⟨rfl, rfl, trivial⟩ ?_
      refine Run.slim [(1, u1), (12, .bool true)] ⟨rfl, rfl, trivial⟩ ?_
      exact hj1 (true) _ _ ⟨rfl, (h4.facts .nil).picks (.cons .z .nil)⟩ hF
    ·
      refine RunL.op (OpS.fbox (o3 := 2) h4 .z PA.z fa51_2 rfl rfl rfl rfl ?_)
      refine RunL.op (OpS.loadBi h4 .z PA.a (Get.fld Message_.f2) ty5 rfl rfl rfl ?_)
      refine RunL.op (OpS.rem rfl rfl rfl rfl (by decide) ?_)
      refine RunL.op (OpS.bin rfl rfl rfl rfl rfl ?_)
      refine RunL.op (OpS.pick rfl rfl rfl rfl ?_)
      refine RunL.nil ?_
      refine Run.slim [(12, .bool ((Int.tmod a0.Function 2) != 0)), (1, u1)] ⟨rfl, rfl, trivial⟩ ?_
      refine Run.slim [(1, u1), (12, .bool ((Int.tmod a0.Function 2) != 0))] ⟨rfl, rfl, trivial⟩ ?_
      exact hj1 ((Int.tmod a0.Function 2) != 0) _ _ ⟨rfl, (h4.facts .nil).picks (.cons .z .nil)⟩ hF
set_option maxHeartbeats 8000000 in
theorem ref24_Valid_ok {fuel : Nat} {a0 : Requester_} {y : Bool} (hF : ref24_Valid fuel a0 = some y) {w : World} {v0 : Value} :
    Spec Try.prog 20 [v0].toArray w [(false, .val Requester_.rep v0 a0)] [] (fun v Γr Ωr Ωo => v = .bool y ∧ Γr = [] ∧ Ωr = [] ∧ Ωo = []) := by
  refine Spec.of (L := [(0, v0)]) Try.func20 rfl ⟨rfl, trivial⟩ rfl (fun e h => ?_)
  unfold ref24_Valid at hF
  refine Run.seq ?_
  refine Run.reg ?_
  refine RunL.op (OpS.boxF h rfl rfl rfl (V.at .z) (fun u1 w1 h1 => ?_))
  refine RunL.op (OpS.as rfl rfl rfl ?_)
  refine RunL.nil ?_
  refine Run.slim [(1, u1)] ⟨rfl, trivial⟩ ?_
  refine Run.seq ?_
  refine Run.seq ?_
  refine Run.reg ?_
  refine RunL.op (OpS.fbox (o3 := 0) h1 .z PA.z fa26_0 rfl rfl rfl rfl ?_)
  refine RunL.op (OpS.loadBi h1 .z PA.a (Get.fld Requester_.f0) ty5 rfl rfl rfl ?_)
  refine RunL.op (OpS.bin rfl rfl rfl rfl rfl ?_)
  refine RunL.op (OpS.mv rfl rfl rfl ?_)
  refine RunL.join (σ := Bool) (fun s_ L_ w_ => L_ = [(1, u1), (31, .bool s_)] ∧ St e w_ [] [(false, .box 26 Requester_.rep u1 a0)]) hF (fun s1 _ w2 hI hF => ?_) (fun j1 hj1 hF => ?_)
  ·
    obtain ⟨rfl, h2⟩ := hI
    refine Run.ite rfl hF (fun e1 hF => ?_) (fun e1 hF => ?_)
    ·
      refine Run.seq ?_
      refine Run.reg ?_
      refine RunL.op (OpS.as rfl rfl rfl ?_)
      refine RunL.nil ?_
      refine Run.slim [(2, .bool false)] ⟨rfl, trivial⟩ ?_
      refine Run.retP rfl (.tmp rfl .nil) ?_
      cases hF
      exact Post.mk' ⟨rfl, rfl, rfl, rfl⟩ (h2.picks .nil) .nil
    ·
      refine Run.skip ?_
      refine Run.seq ?_
      refine Run.seq ?_
      refine Run.reg ?_
      refine RunL.op (OpS.as rfl rfl rfl ?_)
      refine RunL.nil ?_
      refine Run.slim [(3, .int .i64 0), (1, u1)] ⟨rfl, rfl, trivial⟩ ?_
      refine Run.block ?_
      refine Run.slim [(1, u1), (3, .int .i64 0)] ⟨rfl, rfl, trivial⟩ ?_
      refine Run.loopP (σ := Int) (fun s_ L_ w_ => L_ = [(1, u1), (3, .int .i64 s_)] ∧ St e w_ [] [(false, .box 26 Requester_.rep u1 a0)]) hF ⟨rfl, (h2.facts .nil).picks (.cons .z .nil)⟩ (fun k1 hk1 s2 _ w3 hI hF => ?_)
      obtain ⟨rfl, h3⟩ := hI
      refine Run.seq ?_
      refine Run.seq ?_
      refine Run.reg ?_
      refine RunL.op (OpS.mv rfl rfl rfl ?_)
      refine RunL.op (OpS.fbox (o3 := 2) h3 .z PA.z fa26_2 rfl rfl rfl rfl ?_)
      refine RunL.op (OpS.loadB h3 .z PA.a (Get.fld Requester_.f2) ty24 rfl rfl rfl (fun u2 h4 => ?_))
      refine RunL.op (OpS.len h4 Try.underlying24 rfl rfl rfl (V.at .z) ?_)
      refine RunL.op (OpS.bin rfl rfl rfl rfl rfl ?_)
      refine RunL.nil ?_
      refine Run.slim [(36, .bool (decide (s2 < (a0.Pending.length : Int)))), (1, u1), (3, .int .i64 s2)] ⟨rfl, rfl, rfl, trivial⟩ ?_
      refine Run.ite rfl hF (fun e2 hF => ?_) (fun e2 hF => ?_)
      ·
        refine Run.skip ?_
        refine Run.seq ?_
        refine Run.block ?_
        refine Run.seq ?_
        refine Run.reg ?_
        refine RunL.op (OpS.fbox (o3 := 2) h4 .z PA.z fa26_2 rfl rfl rfl rfl ?_)
        refine RunL.op (OpS.loadB h4 .z PA.a (Get.fld Requester_.f2) ty24 rfl rfl rfl (fun u3 h5 => ?_))
        refine RunL.op (OpS.mv rfl rfl rfl ?_)
        obtain ⟨x1, e3, hF⟩ := bindP_use hF
        refine RunL.op (OpS.iptr h5 Try.underlying24 ty55 rfl rfl rfl rfl (V.at .z) e3 (fun u4 h6 => ?_))
        refine RunL.op (OpS.load h6 ty55 rfl rfl rfl .z (fun u5 h7 => ?_))
        refine RunL.op (OpS.alloc h7 ti55 Pending_.zr rfl rfl (fun u6 w4 h8 => ?_))
        have h9 := (h8.pick .z).weak
        refine RunL.op (OpS.storeB (f' := false) h9 .z PA.z Put.id ty55 rfl rfl rfl (V.at .z) (.inr rfl) (fun w5 h10 => ?_))
        refine RunL.nil ?_
        refine Run.slim [(4, u6), (1, u1), (3, .int .i64 s2)] ⟨rfl, rfl, rfl, trivial⟩ ?_
        refine Run.seq ?_
        refine Run.reg ?_
        refine RunL.op (OpS.fbox (o3 := 0) h10 .z PA.z fa55_0 rfl rfl rfl rfl ?_)
        refine RunL.op (OpS.loadB h10 .z PA.a (Get.fld Pending_.f0) ty51 rfl rfl rfl (fun u7 h11 => ?_))
        obtain ⟨y1, e4, hF⟩ := bindP_use hF
        refine RunL.op (OpS.callP h11 Try.func41 rfl rfl rfl rfl (vs := [u7]) rfl (ref23_Request_ok e4) (.cons (f := false) (V.at .z) .nil) ?_)
        rintro _ w6 _ _ _ ⟨u8, rfl, rfl, rfl, rfl⟩ h12
        have h13 := h12 rfl rfl
        simp only [List.cons_append, List.nil_append] at h13
        refine RunL.op (OpS.mv rfl rfl rfl ?_)
        refine RunL.op (OpS.ext rfl rfl rfl rfl ?_)
        refine RunL.op (OpS.ext rfl rfl rfl rfl ?_)
        refine RunL.op (OpS.as rfl rfl rfl ?_)
        have h14 := (h13.pick .z).freeze
        refine RunL.op (OpS.as rfl rfl rfl ?_)
        refine RunL.nil ?_
        refine Run.slim [(6, .int .i64 y1.2), (4, u6), (1, u1), (3, .int .i64 s2)] ⟨rfl, rfl, rfl, rfl, trivial⟩ ?_
        refine Run.seq ?_
        refine Run.seq ?_
        refine Run.reg ?_
        refine RunL.op (OpS.mv rfl rfl rfl ?_)
        refine RunL.op (OpS.bin rfl rfl rfl rfl rfl ?_)
        refine RunL.op (OpS.mv rfl rfl rfl ?_)
        refine RunL.join (σ := Bool) (fun s_ L_ w_ => L_ = [(1, u1), (3, .int .i64 s2), (4, u6), (74, .bool s_)] ∧ St e w_ [] [(false, .box 26 Requester_.rep u1 a0), (false, .box 55 Pending_.rep u6 x1)]) hF (fun s3 _ w7 hI hF => ?_) (fun j2 hj2 hF => ?_)
        ·
          obtain ⟨rfl, h15⟩ := hI
          refine Run.ite rfl hF (fun e5 hF => ?_) (fun e5 hF => ?_)
          ·
            refine Run.seq ?_
            refine Run.reg ?_
            refine RunL.op (OpS.as rfl rfl rfl ?_)
            refine RunL.nil ?_
            refine Run.slim [(2, .bool false)] ⟨rfl, trivial⟩ ?_
            refine Run.retP rfl (.tmp rfl .nil) ?_
            cases hF
            exact Post.mk' ⟨rfl, rfl, rfl, rfl⟩ (h15.picks .nil) .nil
          ·
            refine Run.skip ?_
            refine Run.seq ?_
            refine Run.reg ?_
            refine RunL.op (OpS.as rfl rfl rfl ?_)
            refine RunL.nil ?_
            refine Run.slim [(7, .int .i64 0), (1, u1), (3, .int .i64 s2), (4, u6)] ⟨rfl, rfl, rfl, rfl, trivial⟩ ?_
            refine Run.block ?_
            refine Run.slim [(1, u1), (3, .int .i64 s2), (4, u6), (7, .int .i64 0)] ⟨rfl, rfl, rfl, rfl, trivial⟩ ?_
            refine Run.loopP (σ := Int) (fun s_ L_ w_ => L_ = [(1, u1), (3, .int .i64 s2), (4, u6), (7, .int .i64 s_)] ∧ St e w_ [] [(false, .box 26 Requester_.rep u1 a0), (false, .box 55 Pending_.rep u6 x1)]) hF ⟨rfl, (h15.facts .nil).picks (.cons .z (.cons .z .nil))⟩ (fun k2 hk2 s4 _ w8 hI hF => ?_)
            obtain ⟨rfl, h16⟩ := hI
            refine Run.seq ?_
            refine Run.seq ?_
            refine Run.reg ?_
            refine RunL.op (OpS.mv rfl rfl rfl ?_)
            refine RunL.op (OpS.mv rfl rfl rfl ?_)
            refine RunL.op (OpS.bin rfl rfl rfl rfl rfl ?_)
            refine RunL.nil ?_
            refine Run.slim [(77, .bool (decide (s4 < s2))), (1, u1), (3, .int .i64 s2), (4, u6), (7, .int .i64 s4)] ⟨rfl, rfl, rfl, rfl, rfl, trivial⟩ ?_
            refine Run.ite rfl hF (fun e6 hF => ?_) (fun e6 hF => ?_)
            ·
              refine Run.skip ?_
              refine Run.seq ?_
              refine Run.block ?_
              refine Run.seq ?_
              refine Run.join (σ := Bool) (fun s_ L_ w_ => L_ = [(1, u1), (3, .int .i64 s2), (4, u6), (7, .int .i64 s4), (103, .bool s_)] ∧ St e w_ [] [(false, .box 26 Requester_.rep u1 a0), (false, .box 55 Pending_.rep u6 x1)]) hF (fun s5 _ w9 hI hF => ?_) (fun j3 hj3 hF => ?_)
              ·
                obtain ⟨rfl, h17⟩ := hI
                refine Run.ite rfl hF (fun e7 hF => ?_) (fun e7 hF => ?_)
                ·
                  refine Run.seq ?_
                  refine Run.reg ?_
                  refine RunL.op (OpS.as rfl rfl rfl ?_)
                  refine RunL.nil ?_
                  refine Run.slim [(2, .bool false)] ⟨rfl, trivial⟩ ?_
                  refine Run.retP rfl (.tmp rfl .nil) ?_
                  cases hF
                  exact Post.mk' ⟨rfl, rfl, rfl, rfl⟩ (h17.picks .nil) .nil
                ·
                  refine Run.skip ?_
                  refine Run.endBlock ?_
                  refine Run.reg ?_
                  refine RunL.op (OpS.mv rfl rfl rfl ?_)
                  refine RunL.op (OpS.bin rfl rfl rfl rfl rfl ?_)
                  refine RunL.op (OpS.as rfl rfl rfl ?_)
                  obtain ⟨x2, e8, hF⟩ := letP_use hF
                  refine RunL.name e8 ?_
                  refine RunL.nil ?_
                  refine Run.slim [(7, .int .i64 x2), (1, u1), (3, .int .i64 s2), (4, u6)] ⟨rfl, rfl, rfl, rfl, trivial⟩ ?_
                  refine Run.slim [(1, u1), (3, .int .i64 s2), (4, u6), (7, .int .i64 x2)] ⟨rfl, rfl, rfl, rfl, trivial⟩ ?_
                  exact hk2 (x2) _ _ ⟨rfl, (h17.facts .nil).picks (.cons .z (.cons .z .nil))⟩ hF
              ·
                obtain ⟨x3, e9, hF⟩ := bindP_use hF
                obtain ⟨x4, e10, hF⟩ := letP_use hF
                refine iteP_use hF (fun e11 hF => ?_) (fun e11 hF => ?_)
                ·
                  have hG := hF
                  subst e11
                  have hF := hG
                  obtain ⟨x5, e12, hF⟩ := bindP_use hF
                  refine Run.drawV (Ωs := []) [⟨some 80, some ((padd u1 2)), fun _ => [], fun ds_ u_ => [], [], [(0, [])], none⟩, ⟨some 81, none, fun u_ => [(false, .val (Rep.slice Pending_.rep) u_ a0.Pending)], fun ds_ u_ => [], [], [(0, [])], none⟩, ⟨some 82, some (.int .i64 s4), fun _ => [], fun ds_ u_ => [], [], [], none⟩, ⟨some 83, none, fun u_ => [(false, .ptr Pending_.rep u_ x3)], fun ds_ u_ => [], [], [], none⟩, ⟨some 84, none, fun u_ => [(false, .ptr Message_.rep u_ x3.Request)], fun ds_ u_ => [], [], [], none⟩, ⟨some 85, none, fun u_ => [(false, .ptr (Rep.int .u8) u_ x3.Request.To)], fun ds_ u_ => [], [], [], none⟩, ⟨some 86, some (.int .u8 x3.Request.To), fun _ => [], fun ds_ u_ => [], [], [], none⟩, ⟨some 87, some ((padd u6 0)), fun _ => [], fun ds_ u_ => [], [], [(1, [])], none⟩, ⟨some 88, some ((padd u6 0)), fun _ => [], fun ds_ u_ => [], [], [(1, [])], none⟩, ⟨some 89, some (.int .u8 x1.Request.To), fun _ => [], fun ds_ u_ => [], [], [(1, [])], none⟩, ⟨some 90, some (.bool (x3.Request.To == x1.Request.To)), fun _ => [], fun ds_ u_ => [], [], [], none⟩, ⟨some 91, some (.bool true), fun _ => [], fun ds_ u_ => [], [], [], none⟩, ⟨some 92, some ((padd u1 2)), fun _ => [], fun ds_ u_ => [], [], [(0, [])], none⟩, ⟨some 93, none, fun u_ => [(false, .val (Rep.slice Pending_.rep) u_ a0.Pending)], fun ds_ u_ => [], [], [(0, [])], none⟩, ⟨some 94, some (.int .i64 s4), fun _ => [], fun ds_ u_ => [], [], [], none⟩, ⟨some 95, none, fun u_ => [(false, .ptr Pending_.rep u_ x5)], fun ds_ u_ => [], [], [], none⟩, ⟨some 96, none, fun u_ => [(false, .ptr Message_.rep u_ x5.Request)], fun ds_ u_ => [], [], [], none⟩, ⟨some 97, none, fun u_ => [(false, .ptr (Rep.int .i64) u_ x5.Request.Sequence)], fun ds_ u_ => [], [], [], none⟩, ⟨some 98, some (.int .i64 x5.Request.Sequence), fun _ => [], fun ds_ u_ => [], [], [], none⟩, ⟨some 99, some ((padd u6 0)), fun _ => [], fun ds_ u_ => [], [], [(1, [])], none⟩, ⟨some 100, some ((padd u6 6)), fun _ => [], fun ds_ u_ => [], [], [(1, [])], none⟩, ⟨some 101, some (.int .i64 x1.Request.Sequence), fun _ => [], fun ds_ u_ => [], [], [(1, [])], none⟩, ⟨some 102, some (.bool (x5.Request.Sequence == x1.Request.Sequence)), fun _ => [], fun ds_ u_ => [], [], [], none⟩, ⟨some 103, some (.bool (x5.Request.Sequence == x1.Request.Sequence)), fun _ => [], fun ds_ u_ => [], [], [], none⟩] [[], [0], [], [1, 2], [3], [4], [5], [], [7], [8], [6, 9], [10], [11], [12, 11], [11], [13, 14, 11], [15, 11], [16, 11], [17, 11], [11], [19, 11], [20, 11], [18, 21, 11], [11, 22]] [[(false, .box 26 Requester_.rep u1 a0)], [(false, .box 55 Pending_.rep u6 x1)]] [0, 1, 2, 3, 4, 5, 6, 7, 8, 9, 10, 11, 12, 13, 14, 15, 16, 17, 18, 19, 20, 21, 22, 23, 24, 25] Try_mixed rfl rfl rfl h16 (.cons ?_ (.cons ?_ (.cons ?_ (.cons ?_ (.cons ?_ (.cons ?_ (.cons ?_ (.cons ?_ (.cons ?_ (.cons ?_ (.cons ?_ (.cons ?_ (.cons ?_ (.cons ?_ (.cons ?_ (.cons ?_ (.cons ?_ (.cons ?_ (.cons ?_ (.cons ?_ (.cons ?_ (.cons ?_ (.cons ?_ (.cons ?_ .nil)))))))))))))))))))))))) (fun q1 w hq1 h => ?_)
                  · intro q1 w Γx Ωx h
                    have h : St e w ([] ++ Γx) ([(false, .box 26 Requester_.rep u1 a0)] ++ Ωx) := h
                    refine OpS.fbox (o3 := 2) h .z PA.z fa26_2 rfl rfl rfl rfl ?_
                    exact ⟨undef, rfl, trivial, h⟩
                  · intro q1 w Γx Ωx h
                    have h : St e w ([] ++ Γx) ([(false, .box 26 Requester_.rep u1 a0)] ++ Ωx) := h
                    refine OpS.loadB h .z PA.a (Get.fld Requester_.f2) ty24 rfl rfl rfl (fun u h26 => ?_)
                    exact ⟨u, rfl, trivial, h26⟩
                  · intro q1 w Γx Ωx h
                    refine OpS.mv rfl rfl rfl ?_
                    exact ⟨undef, rfl, trivial, h⟩
                  · intro q1 w Γx Ωx h
                    refine OpS.iptr h Try.underlying24 ty55 rfl rfl rfl rfl (V.at .z) e9 (fun u h27 => ?_)
                    exact ⟨u, rfl, trivial, h27⟩
                  · intro q1 w Γx Ωx h
                    refine OpS.fptr h fa55_0 Pending_.f0 rfl rfl rfl .z (fun u h28 => ?_)
                    exact ⟨u, rfl, trivial, h28⟩
                  · intro q1 w Γx Ωx h
                    refine OpS.fptr h fa51_0 Message_.f0 rfl rfl rfl .z (fun u h29 => ?_)
                    exact ⟨u, rfl, trivial, h29⟩
                  · intro q1 w Γx Ωx h
                    refine OpS.loadi h ty5 rfl rfl rfl .z ?_
                    exact ⟨undef, rfl, trivial, h⟩
                  · intro q1 w Γx Ωx h
                    have h : St e w ([] ++ Γx) ([(false, .box 55 Pending_.rep u6 x1)] ++ Ωx) := h
                    refine OpS.fbox (o3 := 0) h .z PA.z fa55_0 rfl rfl rfl rfl ?_
                    exact ⟨undef, rfl, trivial, h⟩
                  · intro q1 w Γx Ωx h
                    have h : St e w ([] ++ Γx) ([(false, .box 55 Pending_.rep u6 x1)] ++ Ωx) := h
                    refine OpS.fbox (o3 := 0) h .z PA.a fa51_0 rfl rfl rfl rfl ?_
                    exact ⟨undef, rfl, trivial, h⟩
                  · intro q1 w Γx Ωx h
                    have h : St e w ([] ++ Γx) ([(false, .box 55 Pending_.rep u6 x1)] ++ Ωx) := h
                    refine OpS.loadBi h .z PA.a (Get.comp (Get.fld Pending_.f0) (Get.fld Message_.f0)) ty5 rfl rfl rfl ?_
                    exact ⟨undef, rfl, trivial, h⟩
                  · intro q1 w Γx Ωx h
                    refine OpS.bin rfl rfl rfl rfl rfl ?_
                    exact ⟨undef, rfl, trivial, h⟩
                  · intro q1 w Γx Ωx h
                    refine OpS.mv rfl rfl rfl ?_
                    exact ⟨undef, (congrArg (fun z_ => some (Value.bool z_)) e10), trivial, h⟩
                  · intro q1 w Γx Ωx h
                    have h : St e w ([] ++ Γx) ([(false, .box 26 Requester_.rep u1 a0)] ++ Ωx) := h
                    refine OpS.fbox (o3 := 2) h .z PA.z fa26_2 rfl rfl rfl rfl ?_
                    exact ⟨undef, rfl, trivial, h⟩
                  · intro q1 w Γx Ωx h
                    have h : St e w ([] ++ Γx) ([(false, .box 26 Requester_.rep u1 a0)] ++ Ωx) := h
                    refine OpS.loadB h .z PA.a (Get.fld Requester_.f2) ty24 rfl rfl rfl (fun u h30 => ?_)
                    exact ⟨u, rfl, trivial, h30⟩
                  · intro q1 w Γx Ωx h
                    refine OpS.mv rfl rfl rfl ?_
                    exact ⟨undef, rfl, trivial, h⟩
                  · intro q1 w Γx Ωx h
                    refine OpS.iptr h Try.underlying24 ty55 rfl rfl rfl rfl (V.at .z) e12 (fun u h31 => ?_)
                    exact ⟨u, rfl, trivial, h31⟩
                  · intro q1 w Γx Ωx h
                    refine OpS.fptr h fa55_0 Pending_.f0 rfl rfl rfl .z (fun u h32 => ?_)
                    exact ⟨u, rfl, trivial, h32⟩
                  · intro q1 w Γx Ωx h
                    refine OpS.fptr h fa51_6 Message_.f6 rfl rfl rfl .z (fun u h33 => ?_)
                    exact ⟨u, rfl, trivial, h33⟩
                  · intro q1 w Γx Ωx h
                    refine OpS.loadi h ty3 rfl rfl rfl .z ?_
                    exact ⟨undef, rfl, trivial, h⟩
                  · intro q1 w Γx Ωx h
                    have h : St e w ([] ++ Γx) ([(false, .box 55 Pending_.rep u6 x1)] ++ Ωx) := h
                    refine OpS.fbox (o3 := 0) h .z PA.z fa55_0 rfl rfl rfl rfl ?_
                    exact ⟨undef, rfl, trivial, h⟩
                  · intro q1 w Γx Ωx h
                    have h : St e w ([] ++ Γx) ([(false, .box 55 Pending_.rep u6 x1)] ++ Ωx) := h
                    refine OpS.fbox (o3 := 6) h .z PA.a fa51_6 rfl rfl rfl rfl ?_
                    exact ⟨undef, rfl, trivial, h⟩
                  · intro q1 w Γx Ωx h
                    have h : St e w ([] ++ Γx) ([(false, .box 55 Pending_.rep u6 x1)] ++ Ωx) := h
                    refine OpS.loadBi h .z PA.a (Get.comp (Get.fld Pending_.f0) (Get.fld Message_.f6)) ty3 rfl rfl rfl ?_
                    exact ⟨undef, rfl, trivial, h⟩
                  · intro q1 w Γx Ωx h
                    refine OpS.bin rfl rfl rfl rfl rfl ?_
                    exact ⟨undef, rfl, trivial, h⟩
                  · intro q1 w Γx Ωx h
                    refine OpS.pick rfl rfl rfl rfl ?_
                    exact ⟨undef, rfl, trivial, h⟩
                  have h34 : St e w [(false, .val (Rep.slice Pending_.rep) (q1 1) a0.Pending), (false, .ptr Pending_.rep (q1 3) x3), (false, .ptr Message_.rep (q1 4) x3.Request), (false, .ptr (Rep.int .u8) (q1 5) x3.Request.To), (false, .val (Rep.slice Pending_.rep) (q1 13) a0.Pending), (false, .ptr Pending_.rep (q1 15) x5), (false, .ptr Message_.rep (q1 16) x5.Request), (false, .ptr (Rep.int .i64) (q1 17) x5.Request.Sequence)] [(false, .box 26 Requester_.rep u1 a0), (false, .box 55 Pending_.rep u6 x1)] := h
                  refine RunL.nil ?_
                  refine Run.slim [(103, .bool (x5.Request.Sequence == x1.Request.Sequence)), (1, u1), (3, .int .i64 s2), (4, u6), (7, .int .i64 s4)] ⟨rfl, rfl, rfl, rfl, rfl, trivial⟩ ?_
                  refine Run.slim [(1, u1), (3, .int .i64 s2), (4, u6), (7, .int .i64 s4), (103, .bool (x5.Request.Sequence == x1.Request.Sequence))] ⟨rfl, rfl, rfl, rfl, rfl, trivial⟩ ?_
                  exact hj3 (x5.Request.Sequence == x1.Request.Sequence) _ _ ⟨rfl, (h34.facts .nil).picks (.cons .z (.cons .z .nil))⟩ hF
                ·
                  have hG := hF
                  subst e11
                  have hF := hG
                  refine Run.drawV (Ωs := []) [⟨some 80, some ((padd u1 2)), fun _ => [], fun ds_ u_ => [], [], [(0, [])], none⟩, ⟨some 81, none, fun u_ => [(false, .val (Rep.slice Pending_.rep) u_ a0.Pending)], fun ds_ u_ => [], [], [(0, [])], none⟩, ⟨some 82, some (.int .i64 s4), fun _ => [], fun ds_ u_ => [], [], [], none⟩, ⟨some 83, none, fun u_ => [(false, .ptr Pending_.rep u_ x3)], fun ds_ u_ => [], [], [], none⟩, ⟨some 84, none, fun u_ => [(false, .ptr Message_.rep u_ x3.Request)], fun ds_ u_ => [], [], [], none⟩, ⟨some 85, none, fun u_ => [(false, .ptr (Rep.int .u8) u_ x3.Request.To)], fun ds_ u_ => [], [], [], none⟩, ⟨some 86, some (.int .u8 x3.Request.To), fun _ => [], fun ds_ u_ => [], [], [], none⟩, ⟨some 87, some ((padd u6 0)), fun _ => [], fun ds_ u_ => [], [], [(1, [])], none⟩, ⟨some 88, some ((padd u6 0)), fun _ => [], fun ds_ u_ => [], [], [(1, [])], none⟩, ⟨some 89, some (.int .u8 x1.Request.To), fun _ => [], fun ds_ u_ => [], [], [(1, [])], none⟩, ⟨some 90, some (.bool (x3.Request.To == x1.Request.To)), fun _ => [], fun ds_ u_ => [], [], [], none⟩, ⟨some 91, some (.bool false), fun _ => [], fun ds_ u_ => [], [], [], none⟩, ⟨some 92, some undef, fun _ => [], fun _ _ => [], [], [], none⟩, ⟨some 93, some undef, fun _ => [], fun _ _ => [], [], [], none⟩, ⟨some 94, some undef, fun _ => [], fun _ _ => [], [], [], none⟩, ⟨some 95, some undef, fun _ => [], fun _ _ => [], [], [], none⟩, ⟨some 96, some undef, fun _ => [], fun _ _ => [], [], [], none⟩, ⟨some 97, some undef, fun _ => [], fun _ _ => [], [], [], none⟩, ⟨some 98, some undef, fun _ => [], fun _ _ => [], [], [], none⟩, ⟨some 99, some undef, fun _ => [], fun _ _ => [], [], [], none⟩, ⟨some 100, some undef, fun _ => [], fun _ _ => [], [], [], none⟩, ⟨some 101, some undef, fun _ => [], fun _ _ => [], [], [], none⟩, ⟨some 102, some undef, fun _ => [], fun _ _ => [], [], [], none⟩, ⟨some 103, some (.bool false), fun _ => [], fun ds_ u_ => [], [], [], none⟩] [[], [0], [], [1, 2], [3], [4], [5], [], [7], [8], [6, 9], [10], [11], [11], [11], [11], [11], [11], [11], [11], [11], [11], [11], [11, 22]] [[(false, .box 26 Requester_.rep u1 a0)], [(false, .box 55 Pending_.rep u6 x1)]] [0, 1, 2, 3, 4, 5, 6, 7, 8, 9, 10, 11, 12, 13, 14, 15, 16, 17, 18, 19, 20, 21, 22, 23, 24, 25] Try_mixed rfl rfl rfl h16 (.cons ?_ (.cons ?_ (.cons ?_ (.cons ?_ (.cons ?_ (.cons ?_ (.cons ?_ (.cons ?_ (.cons ?_ (.cons ?_ (.cons ?_ (.cons ?_ (.cons ?_ (.cons ?_ (.cons ?_ (.cons ?_ (.cons ?_ (.cons ?_ (.cons ?_ (.cons ?_ (.cons ?_ (.cons ?_ (.cons ?_ (.cons ?_ .nil)))))))))))))))))))))))) (fun q1 w hq2 h => ?_)
                  · intro q1 w Γx Ωx h
                    have h : St e w ([] ++ Γx) ([(false, .box 26 Requester_.rep u1 a0)] ++ Ωx) := h
                    refine OpS.fbox (o3 := 2) h .z PA.z fa26_2 rfl rfl rfl rfl ?_
                    exact ⟨undef, rfl, trivial, h⟩
                  · intro q1 w Γx Ωx h
                    have h : St e w ([] ++ Γx) ([(false, .box 26 Requester_.rep u1 a0)] ++ Ωx) := h
                    refine OpS.loadB h .z PA.a (Get.fld Requester_.f2) ty24 rfl rfl rfl (fun u h35 => ?_)
                    exact ⟨u, rfl, trivial, h35⟩
                  · intro q1 w Γx Ωx h
                    refine OpS.mv rfl rfl rfl ?_
                    exact ⟨undef, rfl, trivial, h⟩
                  · intro q1 w Γx Ωx h
                    refine OpS.iptr h Try.underlying24 ty55 rfl rfl rfl rfl (V.at .z) e9 (fun u h36 => ?_)
                    exact ⟨u, rfl, trivial, h36⟩
                  · intro q1 w Γx Ωx h
                    refine OpS.fptr h fa55_0 Pending_.f0 rfl rfl rfl .z (fun u h37 => ?_)
                    exact ⟨u, rfl, trivial, h37⟩
                  · intro q1 w Γx Ωx h
                    refine OpS.fptr h fa51_0 Message_.f0 rfl rfl rfl .z (fun u h38 => ?_)
                    exact ⟨u, rfl, trivial, h38⟩
                  · intro q1 w Γx Ωx h
                    refine OpS.loadi h ty5 rfl rfl rfl .z ?_
                    exact ⟨undef, rfl, trivial, h⟩
                  · intro q1 w Γx Ωx h
                    have h : St e w ([] ++ Γx) ([(false, .box 55 Pending_.rep u6 x1)] ++ Ωx) := h
                    refine OpS.fbox (o3 := 0) h .z PA.z fa55_0 rfl rfl rfl rfl ?_
                    exact ⟨undef, rfl, trivial, h⟩
                  · intro q1 w Γx Ωx h
                    have h : St e w ([] ++ Γx) ([(false, .box 55 Pending_.rep u6 x1)] ++ Ωx) := h
                    refine OpS.fbox (o3 := 0) h .z PA.a fa51_0 rfl rfl rfl rfl ?_
                    exact ⟨undef, rfl, trivial, h⟩
                  · intro q1 w Γx Ωx h
                    have h : St e w ([] ++ Γx) ([(false, .box 55 Pending_.rep u6 x1)] ++ Ωx) := h
                    refine OpS.loadBi h .z PA.a (Get.comp (Get.fld Pending_.f0) (Get.fld Message_.f0)) ty5 rfl rfl rfl ?_
                    exact ⟨undef, rfl, trivial, h⟩
                  · intro q1 w Γx Ωx h
                    refine OpS.bin rfl rfl rfl rfl rfl ?_
                    exact ⟨undef, rfl, trivial, h⟩
                  · intro q1 w Γx Ωx h
                    refine OpS.mv rfl rfl rfl ?_
                    exact ⟨undef, (congrArg (fun z_ => some (Value.bool z_)) e10), trivial, h⟩
                  · intro q1 w Γx Ωx h
                    exact OpS.pass rfl rfl rfl ⟨undef, rfl, trivial, h⟩
                  · intro q1 w Γx Ωx h
                    exact OpS.pass rfl rfl rfl ⟨undef, rfl, trivial, h⟩
                  · intro q1 w Γx Ωx h
                    exact OpS.pass rfl rfl rfl ⟨undef, rfl, trivial, h⟩
                  · intro q1 w Γx Ωx h
                    exact OpS.pass rfl rfl rfl ⟨undef, rfl, trivial, h⟩
                  · intro q1 w Γx Ωx h
                    exact OpS.pass rfl rfl rfl ⟨undef, rfl, trivial, h⟩
                  · intro q1 w Γx Ωx h
                    exact OpS.pass rfl rfl rfl ⟨undef, rfl, trivial, h⟩
                  · intro q1 w Γx Ωx h
                    exact OpS.pass rfl rfl rfl ⟨undef, rfl, trivial, h⟩
                  · intro q1 w Γx Ωx h
                    exact OpS.pass rfl rfl rfl ⟨undef, rfl, trivial, h⟩
                  · intro q1 w Γx Ωx h
                    exact OpS.pass rfl rfl rfl ⟨undef, rfl, trivial, h⟩
                  · intro q1 w Γx Ωx h
                    exact OpS.pass rfl rfl rfl ⟨undef, rfl, trivial, h⟩
                  · intro q1 w Γx Ωx h
                    exact OpS.pass rfl rfl rfl ⟨undef, rfl, trivial, h⟩
                  · intro q1 w Γx Ωx h
                    refine OpS.pick rfl rfl rfl rfl ?_
                    exact ⟨undef, rfl, trivial, h⟩
                  have h39 : St e w [(false, .val (Rep.slice Pending_.rep) (q1 1) a0.Pending), (false, .ptr Pending_.rep (q1 3) x3), (false, .ptr Message_.rep (q1 4) x3.Request), (false, .ptr (Rep.int .u8) (q1 5) x3.Request.To)] [(false, .box 26 Requester_.rep u1 a0), (false, .box 55 Pending_.rep u6 x1)] := h
                  refine RunL.nil ?_
                  refine Run.slim [(103, .bool false), (1, u1), (3, .int .i64 s2), (4, u6), (7, .int .i64 s4)] ⟨rfl, rfl, rfl, rfl, rfl, trivial⟩ ?_
                  refine Run.slim [(1, u1), (3, .int .i64 s2), (4, u6), (7, .int .i64 s4), (103, .bool false)] ⟨rfl, rfl, rfl, rfl, rfl, trivial⟩ ?_
                  exact hj3 (false) _ _ ⟨rfl, (h39.facts .nil).picks (.cons .z (.cons .z .nil))⟩ hF
            ·
              refine Run.exit rfl ?_
              refine Run.endBlock ?_
              refine Run.reg ?_
              refine RunL.op (OpS.mv rfl rfl rfl ?_)
              refine RunL.op (OpS.bin rfl rfl rfl rfl rfl ?_)
              refine RunL.op (OpS.as rfl rfl rfl ?_)
              obtain ⟨x6, e13, hF⟩ := letP_use hF
              refine RunL.name e13 ?_
              refine RunL.nil ?_
              refine Run.slim [(3, .int .i64 x6), (1, u1)] ⟨rfl, rfl, trivial⟩ ?_
              refine Run.slim [(1, u1), (3, .int .i64 x6)] ⟨rfl, rfl, trivial⟩ ?_
              exact hk1 (x6) _ _ ⟨rfl, (h16.facts .nil).picks (.cons .z .nil)⟩ hF
        ·
          refine RunL.caseb hF (fun e14 hF => ?_) (fun e14 hF => ?_)
          ·
            refine RunL.op (OpS.pass rfl rfl rfl ?_)
            refine RunL.op (OpS.pass rfl rfl rfl ?_)
            refine RunL.op (OpS.pass rfl rfl rfl ?_)
            refine RunL.op (OpS.pick rfl rfl rfl rfl ?_)
            refine RunL.op (OpS.mv rfl rfl rfl ?_)
            refine RunL.op (OpS.pass rfl rfl rfl ?_)
            refine RunL.op (OpS.pass rfl rfl rfl ?_)
            refine RunL.op (OpS.pass rfl rfl rfl ?_)
            refine RunL.op (OpS.pick rfl rfl rfl rfl ?_)
            refine RunL.op (OpS.mv rfl rfl rfl ?_)
            refine RunL.op (OpS.pass rfl rfl rfl ?_)
            refine RunL.op (OpS.pass rfl rfl rfl ?_)
            refine RunL.op (OpS.pass rfl rfl rfl ?_)
            refine RunL.op (OpS.pick rfl rfl rfl rfl ?_)
            refine RunL.op (OpS.mv rfl rfl rfl ?_)
            refine RunL.op (OpS.pass rfl rfl rfl ?_)
            refine RunL.op (OpS.pass rfl rfl rfl ?_)
            refine RunL.op (OpS.pass rfl rfl rfl ?_)
            refine RunL.op (OpS.pass rfl rfl rfl ?_)
            refine RunL.op (OpS.pass rfl rfl rfl ?_)
            refine RunL.op (OpS.pass rfl rfl rfl ?_)
            refine RunL.op (OpS.pick rfl rfl rfl rfl ?_)
            refine RunL.nil ?_
            refine Run.slim [(74, .bool true), (4, u6), (1, u1), (3, .int .i64 s2)] ⟨rfl, rfl, rfl, rfl, trivial⟩ ?_
            refine Run.slim [(1, u1), (3, .int .i64 s2), (4, u6), (74, .bool true)] ⟨rfl, rfl, rfl, rfl, trivial⟩ ?_
            exact hj2 (true) _ _ ⟨rfl, (h14.facts .nil).picks (.cons (.s .z) (.cons .z .nil))⟩ hF
          ·
            refine RunL.op (OpS.fbox (o3 := 10) h14 .z PA.z fa55_2 rfl rfl rfl rfl ?_)
            refine RunL.op (OpS.loadBi h14 .z PA.a (Get.fld Pending_.f2) ty3 rfl rfl rfl ?_)
            refine RunL.op (OpS.bin rfl rfl rfl rfl rfl ?_)
            refine RunL.op (OpS.pick rfl rfl rfl rfl ?_)
            refine RunL.op (OpS.mv rfl rfl rfl ?_)
            refine RunL.caseb hF (fun e15 hF => ?_) (fun e15 hF => ?_)
            ·
              refine RunL.op (OpS.pass rfl rfl rfl ?_)
              refine RunL.op (OpS.pass rfl rfl rfl ?_)
              refine RunL.op (OpS.pass rfl rfl rfl ?_)
              refine RunL.op (OpS.pick rfl rfl rfl rfl ?_)
              refine RunL.op (OpS.mv rfl rfl rfl ?_)
              refine RunL.op (OpS.pass rfl rfl rfl ?_)
              refine RunL.op (OpS.pass rfl rfl rfl ?_)
              refine RunL.op (OpS.pass rfl rfl rfl ?_)
              refine RunL.op (OpS.pick rfl rfl rfl rfl ?_)
              refine RunL.op (OpS.mv rfl rfl rfl ?_)
              refine RunL.op (OpS.pass rfl rfl rfl ?_)
              refine RunL.op (OpS.pass rfl rfl rfl ?_)
              refine RunL.op (OpS.pass rfl rfl rfl ?_)
              refine RunL.op (OpS.pass rfl rfl rfl ?_)
              refine RunL.op (OpS.pass rfl rfl rfl ?_)
              refine RunL.op (OpS.pass rfl rfl rfl ?_)
              refine RunL.op (OpS.pick rfl rfl rfl rfl ?_)
              refine RunL.nil ?_
              refine Run.slim [(74, .bool true), (4, u6), (1, u1), (3, .int .i64 s2)] ⟨rfl, rfl, rfl, rfl, trivial⟩ ?_
              refine Run.slim [(1, u1), (3, .int .i64 s2), (4, u6), (74, .bool true)] ⟨rfl, rfl, rfl, rfl, trivial⟩ ?_
              exact hj2 (true) _ _ ⟨rfl, (h14.facts .nil).picks (.cons (.s .z) (.cons .z .nil))⟩ hF
            ·
              refine RunL.op (OpS.fbox (o3 := 10) h14 .z PA.z fa55_2 rfl rfl rfl rfl ?_)
              refine RunL.op (OpS.loadBi h14 .z PA.a (Get.fld Pending_.f2) ty3 rfl rfl rfl ?_)
              refine RunL.op (OpS.bin rfl rfl rfl rfl rfl ?_)
              refine RunL.op (OpS.pick rfl rfl rfl rfl ?_)
              refine RunL.op (OpS.mv rfl rfl rfl ?_)
              refine RunL.caseb hF (fun e16 hF => ?_) (fun e16 hF => ?_)
              ·
                refine RunL.op (OpS.pass rfl rfl rfl ?_)
                refine RunL.op (OpS.pass rfl rfl rfl ?_)
                refine RunL.op (OpS.pass rfl rfl rfl ?_)
                refine RunL.op (OpS.pick rfl rfl rfl rfl ?_)
                refine RunL.op (OpS.mv rfl rfl rfl ?_)
                refine RunL.op (OpS.pass rfl rfl rfl ?_)
                refine RunL.op (OpS.pass rfl rfl rfl ?_)
                refine RunL.op (OpS.pass rfl rfl rfl ?_)
                refine RunL.op (OpS.pass rfl rfl rfl ?_)
                refine RunL.op (OpS.pass rfl rfl rfl ?_)
                refine RunL.op (OpS.pass rfl rfl rfl ?_)
                refine RunL.op (OpS.pick rfl rfl rfl rfl ?_)
                refine RunL.nil ?_
                refine Run.slim [(74, .bool true), (4, u6), (1, u1), (3, .int .i64 s2)] ⟨rfl, rfl, rfl, rfl, trivial⟩ ?_
                refine Run.slim [(1, u1), (3, .int .i64 s2), (4, u6), (74, .bool true)] ⟨rfl, rfl, rfl, rfl, trivial⟩ ?_
                exact hj2 (true) _ _ ⟨rfl, (h14.facts .nil).picks (.cons (.s .z) (.cons .z .nil))⟩ hF
              ·
                refine RunL.op (OpS.fbox (o3 := 9) h14 .z PA.z fa55_1 rfl rfl rfl rfl ?_)
                refine RunL.op (OpS.loadBi h14 .z PA.a (Get.fld Pending_.f1) ty2 rfl rfl rfl ?_)
                refine RunL.op (OpS.bin rfl rfl rfl rfl rfl ?_)
                refine RunL.op (OpS.pick rfl rfl rfl rfl ?_)
                refine RunL.op (OpS.mv rfl rfl rfl ?_)
                refine RunL.caseb hF (fun e17 hF => ?_) (fun e17 hF => ?_)
                ·
                  refine RunL.op (OpS.pass rfl rfl rfl ?_)
                  refine RunL.op (OpS.pass rfl rfl rfl ?_)
                  refine RunL.op (OpS.pass rfl rfl rfl ?_)
                  refine RunL.op (OpS.pass rfl rfl rfl ?_)
                  refine RunL.op (OpS.pass rfl rfl rfl ?_)
                  refine RunL.op (OpS.pass rfl rfl rfl ?_)
                  refine RunL.op (OpS.pick rfl rfl rfl rfl ?_)
                  refine RunL.nil ?_
                  refine Run.slim [(74, .bool true), (4, u6), (1, u1), (3, .int .i64 s2)] ⟨rfl, rfl, rfl, rfl, trivial⟩ ?_
                  refine Run.slim [(1, u1), (3, .int .i64 s2), (4, u6), (74, .bool true)] ⟨rfl, rfl, rfl, rfl, trivial⟩ ?_
                  exact hj2 (true) _ _ ⟨rfl, (h14.facts .nil).picks (.cons (.s .z) (.cons .z .nil))⟩ hF
                ·
                  refine RunL.op (OpS.fbox (o3 := 0) h14 .z PA.z fa55_0 rfl rfl rfl rfl ?_)
                  refine RunL.op (OpS.fbox (o3 := 1) h14 .z PA.a fa51_1 rfl rfl rfl rfl ?_)
                  refine RunL.op (OpS.loadBi h14 .z PA.a (Get.comp (Get.fld Pending_.f0) (Get.fld Message_.f1)) ty5 rfl rfl rfl ?_)
                  refine RunL.op (OpS.fbox (o3 := 0) h14 (.s .z) PA.z fa26_0 rfl rfl rfl rfl ?_)
                  refine RunL.op (OpS.loadBi h14 (.s .z) PA.a (Get.fld Requester_.f0) ty5 rfl rfl rfl ?_)
                  refine RunL.op (OpS.bin rfl rfl rfl rfl rfl ?_)
                  refine RunL.op (OpS.pick rfl rfl rfl rfl ?_)
                  refine RunL.nil ?_
                  refine Run.slim [(74, .bool (x1.Request.From != a0.Own)), (4, u6), (1, u1), (3, .int .i64 s2)] ⟨rfl, rfl, rfl, rfl, trivial⟩ ?_
                  refine Run.slim [(1, u1), (3, .int .i64 s2), (4, u6), (74, .bool (x1.Request.From != a0.Own))] ⟨rfl, rfl, rfl, rfl, trivial⟩ ?_
                  exact hj2 (x1.Request.From != a0.Own) _ _ ⟨rfl, (h14.facts .nil).picks (.cons (.s .z) (.cons .z .nil))⟩ hF
      ·
        refine Run.exit rfl ?_
        refine Run.seq ?_
        refine Run.reg ?_
        refine RunL.op (OpS.as rfl rfl rfl ?_)
        refine RunL.nil ?_
        refine Run.slim [(2, .bool true)] ⟨rfl, trivial⟩ ?_
        refine Run.retP rfl (.tmp rfl .nil) ?_
        cases hF
        exact Post.mk' ⟨rfl, rfl, rfl, rfl⟩ (h4.picks .nil) .nil
  ·
    refine RunL.caseb hF (fun e18 hF => ?_) (fun e18 hF => ?_)
    ·
      refine RunL.op (OpS.pass rfl rfl rfl ?_)
      refine RunL.op (OpS.pass rfl rfl rfl ?_)
      refine RunL.op (OpS.pass rfl rfl rfl ?_)
      refine RunL.op (OpS.pick rfl rfl rfl rfl ?_)
      refine RunL.op (OpS.mv rfl rfl rfl ?_)
      refine RunL.op (OpS.pass rfl rfl rfl ?_)
      refine RunL.op (OpS.pass rfl rfl rfl ?_)
      refine RunL.op (OpS.pass rfl rfl rfl ?_)
      refine RunL.op (OpS.pick rfl rfl rfl rfl ?_)
      refine RunL.op (OpS.mv rfl rfl rfl ?_)
      refine RunL.op (OpS.pass rfl rfl rfl ?_)
      refine RunL.op (OpS.pass rfl rfl rfl ?_)
      refine RunL.op (OpS.pass rfl rfl rfl ?_)
      refine RunL.op (OpS.pick rfl rfl rfl rfl ?_)
      refine RunL.op (OpS.mv rfl rfl rfl ?_)
      refine RunL.op (OpS.pass rfl rfl rfl ?_)
      refine RunL.op (OpS.pass rfl rfl rfl ?_)
      refine RunL.op (OpS.pass rfl rfl rfl ?_)
      refine RunL.op (OpS.pass rfl rfl rfl ?_)
      refine RunL.op (OpS.pick rfl rfl rfl rfl ?_)
      refine RunL.nil ?_
      refine Run.slim [(31, .bool true), (1, u1)] ⟨rfl, rfl, trivial⟩ ?_
      refine Run.slim [(1, u1), (31, .bool true)] ⟨rfl, rfl, trivial⟩ ?_
      exact hj1 (true) _ _ ⟨rfl, (h1.facts .nil).picks (.cons .z .nil)⟩ hF
    ·
      refine RunL.op (OpS.fbox (o3 := 0) h1 .z PA.z fa26_0 rfl rfl rfl rfl ?_)
      refine RunL.op (OpS.loadBi h1 .z PA.a (Get.fld Requester_.f0) ty5 rfl rfl rfl ?_)
      refine RunL.op (OpS.bin rfl rfl rfl rfl rfl ?_)
      refine RunL.op (OpS.pick rfl rfl rfl rfl ?_)
      refine RunL.op (OpS.mv rfl rfl rfl ?_)
      refine RunL.caseb hF (fun e19 hF => ?_) (fun e19 hF => ?_)
      ·
        refine RunL.op (OpS.pass rfl rfl rfl ?_)
        refine RunL.op (OpS.pass rfl rfl rfl ?_)
        refine RunL.op (OpS.pass rfl rfl rfl ?_)
        refine RunL.op (OpS.pick rfl rfl rfl rfl ?_)
        refine RunL.op (OpS.mv rfl rfl rfl ?_)
        refine RunL.op (OpS.pass rfl rfl rfl ?_)
        refine RunL.op (OpS.pass rfl rfl rfl ?_)
        refine RunL.op (OpS.pass rfl rfl rfl ?_)
        refine RunL.op (OpS.pick rfl rfl rfl rfl ?_)
        refine RunL.op (OpS.mv rfl rfl rfl ?_)
        refine RunL.op (OpS.pass rfl rfl rfl ?_)
        refine RunL.op (OpS.pass rfl rfl rfl ?_)
        refine RunL.op (OpS.pass rfl rfl rfl ?_)
        refine RunL.op (OpS.pass rfl rfl rfl ?_)
        refine RunL.op (OpS.pick rfl rfl rfl rfl ?_)
        refine RunL.nil ?_
        refine Run.slim [(31, .bool true), (1, u1)] ⟨rfl, rfl, trivial⟩ ?_
        refine Run.slim [(1, u1), (31, .bool true)] ⟨rfl, rfl, trivial⟩ ?_
        exact hj1 (true) _ _ ⟨rfl, (h1.facts .nil).picks (.cons .z .nil)⟩ hF
      ·
        refine RunL.op (OpS.fbox (o3 := 1) h1 .z PA.z fa26_1 rfl rfl rfl rfl ?_)
        refine RunL.op (OpS.loadBi h1 .z PA.a (Get.fld Requester_.f1) ty3 rfl rfl rfl ?_)
        refine RunL.op (OpS.bin rfl rfl rfl rfl rfl ?_)
        refine RunL.op (OpS.pick rfl rfl rfl rfl ?_)
        refine RunL.op (OpS.mv rfl rfl rfl ?_)
        refine RunL.caseb hF (fun e20 hF => ?_) (fun e20 hF => ?_)
        ·
          refine RunL.op (OpS.pass rfl rfl rfl ?_)
          refine RunL.op (OpS.pass rfl rfl rfl ?_)
          refine RunL.op (OpS.pass rfl rfl rfl ?_)
          refine RunL.op (OpS.pick rfl rfl rfl rfl ?_)
          refine RunL.op (OpS.mv rfl rfl rfl ?_)
          refine RunL.op (OpS.pass rfl rfl rfl ?_)
          refine RunL.op (OpS.pass rfl rfl rfl ?_)
          refine RunL.op (OpS.pass rfl rfl rfl ?_)
          refine RunL.op (OpS.pass rfl rfl rfl ?_)
          refine RunL.op (OpS.pick rfl rfl rfl rfl ?_)
          refine RunL.nil ?_
          refine Run.slim [(31, .bool true), (1, u1)] ⟨rfl, rfl, trivial⟩ ?_
          refine Run.slim [(1, u1), (31, .bool true)] ⟨rfl, rfl, trivial⟩ ?_
          exact hj1 (true) _ _ ⟨rfl, (h1.facts .nil).picks (.cons .z .nil)⟩ hF
        ·
          refine RunL.op (OpS.fbox (o3 := 1) h1 .z PA.z fa26_1 rfl rfl rfl rfl ?_)
          refine RunL.op (OpS.loadBi h1 .z PA.a (Get.fld Requester_.f1) ty3 rfl rfl rfl ?_)
          refine RunL.op (OpS.bin rfl rfl rfl rfl rfl ?_)
          refine RunL.op (OpS.pick rfl rfl rfl rfl ?_)
          refine RunL.op (OpS.mv rfl rfl rfl ?_)
          refine RunL.caseb hF (fun e21 hF => ?_) (fun e21 hF => ?_)
          ·
            refine RunL.op (OpS.pass rfl rfl rfl ?_)
            refine RunL.op (OpS.pass rfl rfl rfl ?_)
            refine RunL.op (OpS.pass rfl rfl rfl ?_)
            refine RunL.op (OpS.pass rfl rfl rfl ?_)
            refine RunL.op (OpS.pick rfl rfl rfl rfl ?_)
            refine RunL.nil ?_
            refine Run.slim [(31, .bool true), (1, u1)] ⟨rfl, rfl, trivial⟩ ?_
            refine Run.slim [(1, u1), (31, .bool true)] ⟨rfl, rfl, trivial⟩ ?_
            exact hj1 (true) _ _ ⟨rfl, (h1.facts .nil).picks (.cons .z .nil)⟩ hF
          ·
            refine RunL.op (OpS.fbox (o3 := 2) h1 .z PA.z fa26_2 rfl rfl rfl rfl ?_)
            refine RunL.op (OpS.loadB h1 .z PA.a (Get.fld Requester_.f2) ty24 rfl rfl rfl (fun u9 h40 => ?_))
            refine RunL.op (OpS.len h40 Try.underlying24 rfl rfl rfl (V.at .z) ?_)
            refine RunL.op (OpS.bin rfl rfl rfl rfl rfl ?_)
            refine RunL.op (OpS.pick rfl rfl rfl rfl ?_)
            refine RunL.nil ?_
            refine Run.slim [(31, .bool (decide ((a0.Pending.length : Int) > 8))), (1, u1)] ⟨rfl, rfl, trivial⟩ ?_
            refine Run.slim [(1, u1), (31, .bool (decide ((a0.Pending.length : Int) > 8)))] ⟨rfl, rfl, trivial⟩ ?_
            exact hj1 (decide ((a0.Pending.length : Int) > 8)) _ _ ⟨rfl, (h40.facts .nil).picks (.cons .z .nil)⟩ hF
theorem ref24_Time_ok {fuel : Nat} {a0 : Int} {y : Bool} (hF : ref24_Time fuel a0 = some y) {w : World} :
    Spec Try.prog 42 [.int .i64 a0].toArray w [] [] (fun v Γr Ωr Ωo => v = .bool y ∧ Γr = [] ∧ Ωr = [] ∧ Ωo = []) := by
  refine Spec.of (L := [(0, .int .i64 a0)]) Try.func42 rfl ⟨rfl, trivial⟩ rfl (fun e h => ?_)
  unfold ref24_Time at hF
  refine Run.seq ?_
  refine Run.reg ?_
  refine RunL.op (OpS.as rfl rfl rfl ?_)
  refine RunL.nil ?_
  refine Run.slim [(0, .int .i64 a0)] ⟨rfl, trivial⟩ ?_
  refine Run.seq ?_
  refine Run.reg ?_
  refine RunL.op (OpS.mv rfl rfl rfl ?_)
  refine RunL.op (OpS.bin rfl rfl rfl rfl rfl ?_)
  refine RunL.op (OpS.mv rfl rfl rfl ?_)
  refine RunL.caseb hF (fun e1 hF => ?_) (fun e1 hF => ?_)
  ·
    refine RunL.op (OpS.mv rfl rfl rfl ?_)
    refine RunL.op (OpS.bin rfl rfl rfl rfl rfl ?_)
    refine RunL.op (OpS.pick rfl rfl rfl rfl ?_)
    refine RunL.op (OpS.as rfl rfl rfl ?_)
    obtain ⟨x1, e2, hF⟩ := letP_use hF
    refine RunL.nameb e2 ?_
    refine RunL.nil ?_
    refine Run.slim [(2, .bool x1)] ⟨rfl, trivial⟩ ?_
    refine Run.retP rfl (.tmp rfl .nil) ?_
    cases hF
    exact Post.mk' ⟨rfl, rfl, rfl, rfl⟩ (h.picks .nil) .nil
  ·
    refine RunL.op (OpS.pass rfl rfl rfl ?_)
    refine RunL.op (OpS.pass rfl rfl rfl ?_)
    refine RunL.op (OpS.pick rfl rfl rfl rfl ?_)
    refine RunL.op (OpS.as rfl rfl rfl ?_)
    refine RunL.nil ?_
    refine Run.slim [(2, .bool false)] ⟨rfl, trivial⟩ ?_
    refine Run.retP rfl (.tmp rfl .nil) ?_
    cases hF
    exact Post.mk' ⟨rfl, rfl, rfl, rfl⟩ (h.picks .nil) .nil
theorem ref24_used_ok {fuel : Nat} {a0 : Requester_} {a1 : Int} {a2 : Int} {y : Bool} (hF : ref24_used fuel a0 a1 a2 = some y) {w : World} {v0 : Value} :
    Spec Try.prog 43 [v0, .int .u8 a1, .int .i64 a2].toArray w [(false, .val Requester_.rep v0 a0)] [] (fun v Γr Ωr Ωo => v = .bool y ∧ Γr = [] ∧ Ωr = [] ∧ Ωo = []) := by
  refine Spec.of (L := [(0, v0), (1, .int .u8 a1), (2, .int .i64 a2)]) Try.func43 rfl ⟨rfl, rfl, rfl, trivial⟩ rfl (fun e h => ?_)
  unfold ref24_used at hF
  refine Run.seq ?_
  refine Run.reg ?_
  refine RunL.op (OpS.boxF h rfl rfl rfl (V.at .z) (fun u1 w1 h1 => ?_))
  refine RunL.op (OpS.as rfl rfl rfl ?_)
  refine RunL.nil ?_
  refine Run.slim [(3, u1), (1, .int .u8 a1), (2, .int .i64 a2)] ⟨rfl, rfl, rfl, trivial⟩ ?_
  refine Run.seq ?_
  refine Run.seq ?_
  refine Run.reg ?_
  refine RunL.op (OpS.as rfl rfl rfl ?_)
  refine RunL.nil ?_
  refine Run.block ?_
  refine Run.slim [(1, .int .u8 a1), (2, .int .i64 a2), (3, u1), (7, .int .i64 0)] ⟨rfl, rfl, rfl, rfl, trivial⟩ ?_
  refine Run.loopP (σ := Int) (fun s_ L_ w_ => L_ = [(1, .int .u8 a1), (2, .int .i64 a2), (3, u1), (7, .int .i64 s_)] ∧ St e w_ [] [(false, .box 26 Requester_.rep u1 a0)]) hF ⟨rfl, (h1.facts .nil).picks (.cons .z .nil)⟩ (fun k1 hk1 s1 _ w2 hI hF => ?_)
  obtain ⟨rfl, h2⟩ := hI
  refine Run.seq ?_
  refine Run.seq ?_
  refine Run.reg ?_
  refine RunL.op (OpS.mv rfl rfl rfl ?_)
  refine RunL.op (OpS.fbox (o3 := 2) h2 .z PA.z fa26_2 rfl rfl rfl rfl ?_)
  refine RunL.op (OpS.loadB h2 .z PA.a (Get.fld Requester_.f2) ty24 rfl rfl rfl (fun u2 h3 => ?_))
  refine RunL.op (OpS.len h3 Try.underlying24 rfl rfl rfl (V.at .z) ?_)
  refine RunL.op (OpS.bin rfl rfl rfl rfl rfl ?_)
  refine RunL.nil ?_
  refine Run.slim [(12, .bool (decide (s1 < (a0.Pending.length : Int)))), (1, .int .u8 a1), (2, .int .i64 a2), (3, u1), (7, .int .i64 s1)] ⟨rfl, rfl, rfl, rfl, rfl, trivial⟩ ?_
  refine Run.ite rfl hF (fun e1 hF => ?_) (fun e1 hF => ?_)
  ·
    refine Run.skip ?_
    refine Run.seq ?_
    refine Run.block ?_
    refine Run.seq ?_
    refine Run.reg ?_
    refine RunL.op (OpS.fbox (o3 := 2) h3 .z PA.z fa26_2 rfl rfl rfl rfl ?_)
    refine RunL.op (OpS.loadB h3 .z PA.a (Get.fld Requester_.f2) ty24 rfl rfl rfl (fun u3 h4 => ?_))
    refine RunL.op (OpS.mv rfl rfl rfl ?_)
    obtain ⟨x1, e2, hF⟩ := bindP_use hF
    refine RunL.op (OpS.iptr h4 Try.underlying24 ty55 rfl rfl rfl rfl (V.at .z) e2 (fun u4 h5 => ?_))
    refine RunL.op (OpS.fptr h5 fa55_0 Pending_.f0 rfl rfl rfl .z (fun u5 h6 => ?_))
    refine RunL.op (OpS.fptr h6 fa51_0 Message_.f0 rfl rfl rfl .z (fun u6 h7 => ?_))
    refine RunL.op (OpS.loadi h7 ty5 rfl rfl rfl .z ?_)
    refine RunL.op (OpS.mv rfl rfl rfl ?_)
    refine RunL.op (OpS.bin rfl rfl rfl rfl rfl ?_)
    refine RunL.op (OpS.mv rfl rfl rfl ?_)
    refine RunL.join (σ := Bool) (fun s_ L_ w_ => L_ = [(1, .int .u8 a1), (2, .int .i64 a2), (3, u1), (7, .int .i64 s1), (34, .bool s_)] ∧ St e w_ [] [(false, .box 26 Requester_.rep u1 a0)]) hF (fun s2 _ w3 hI hF => ?_) (fun j1 hj1 hF => ?_)
    ·
      obtain ⟨rfl, h8⟩ := hI
      refine Run.ite rfl hF (fun e3 hF => ?_) (fun e3 hF => ?_)
      ·
        refine Run.seq ?_
        refine Run.reg ?_
        refine RunL.op (OpS.as rfl rfl rfl ?_)
        refine RunL.nil ?_
        refine Run.slim [(6, .bool true)] ⟨rfl, trivial⟩ ?_
        refine Run.retP rfl (.tmp rfl .nil) ?_
        cases hF
        exact Post.mk' ⟨rfl, rfl, rfl, rfl⟩ (h8.picks .nil) .nil
      ·
        refine Run.skip ?_
        refine Run.endBlock ?_
        refine Run.reg ?_
        refine RunL.op (OpS.mv rfl rfl rfl ?_)
        refine RunL.op (OpS.bin rfl rfl rfl rfl rfl ?_)
        refine RunL.op (OpS.as rfl rfl rfl ?_)
        obtain ⟨x2, e4, hF⟩ := letP_use hF
        refine RunL.name e4 ?_
        refine RunL.nil ?_
        refine Run.slim [(7, .int .i64 x2), (1, .int .u8 a1), (2, .int .i64 a2), (3, u1)] ⟨rfl, rfl, rfl, rfl, trivial⟩ ?_
        refine Run.slim [(1, .int .u8 a1), (2, .int .i64 a2), (3, u1), (7, .int .i64 x2)] ⟨rfl, rfl, rfl, rfl, trivial⟩ ?_
        exact hk1 (x2) _ _ ⟨rfl, (h8.facts .nil).picks (.cons .z .nil)⟩ hF
    ·
      refine RunL.caseb hF (fun e5 hF => ?_) (fun e5 hF => ?_)
      ·
        refine RunL.op (OpS.fbox (o3 := 2) h7 .z PA.z fa26_2 rfl rfl rfl rfl ?_)
        refine RunL.op (OpS.loadB h7 .z PA.a (Get.fld Requester_.f2) ty24 rfl rfl rfl (fun u7 h9 => ?_))
        refine RunL.op (OpS.mv rfl rfl rfl ?_)
        obtain ⟨x3, e6, hF⟩ := bindP_use hF
        refine RunL.op (OpS.iptr h9 Try.underlying24 ty55 rfl rfl rfl rfl (V.at .z) e6 (fun u8 h10 => ?_))
        refine RunL.op (OpS.fptr h10 fa55_0 Pending_.f0 rfl rfl rfl .z (fun u9 h11 => ?_))
        refine RunL.op (OpS.fptr h11 fa51_6 Message_.f6 rfl rfl rfl .z (fun u10 h12 => ?_))
        refine RunL.op (OpS.loadi h12 ty3 rfl rfl rfl .z ?_)
        refine RunL.op (OpS.mv rfl rfl rfl ?_)
        refine RunL.op (OpS.bin rfl rfl rfl rfl rfl ?_)
        refine RunL.op (OpS.pick rfl rfl rfl rfl ?_)
        refine RunL.nil ?_
        refine Run.slim [(34, .bool (x3.Request.Sequence == a2)), (1, .int .u8 a1), (2, .int .i64 a2), (3, u1), (7, .int .i64 s1)] ⟨rfl, rfl, rfl, rfl, rfl, trivial⟩ ?_
        refine Run.slim [(1, .int .u8 a1), (2, .int .i64 a2), (3, u1), (7, .int .i64 s1), (34, .bool (x3.Request.Sequence == a2))] ⟨rfl, rfl, rfl, rfl, rfl, trivial⟩ ?_
        exact hj1 (x3.Request.Sequence == a2) _ _ ⟨rfl, (h12.facts .nil).picks (.cons .z .nil)⟩ hF
      ·
        refine RunL.op (OpS.pass rfl rfl rfl ?_)
        refine RunL.op (OpS.pass rfl rfl rfl ?_)
        refine RunL.op (OpS.pass rfl rfl rfl ?_)
        refine RunL.op (OpS.pass rfl rfl rfl ?_)
        refine RunL.op (OpS.pass rfl rfl rfl ?_)
        refine RunL.op (OpS.pass rfl rfl rfl ?_)
        refine RunL.op (OpS.pass rfl rfl rfl ?_)
        refine RunL.op (OpS.pass rfl rfl rfl ?_)
        refine RunL.op (OpS.pass rfl rfl rfl ?_)
        refine RunL.op (OpS.pick rfl rfl rfl rfl ?_)
        refine RunL.nil ?_
        refine Run.slim [(34, .bool false), (1, .int .u8 a1), (2, .int .i64 a2), (3, u1), (7, .int .i64 s1)] ⟨rfl, rfl, rfl, rfl, rfl, trivial⟩ ?_
        refine Run.slim [(1, .int .u8 a1), (2, .int .i64 a2), (3, u1), (7, .int .i64 s1), (34, .bool false)] ⟨rfl, rfl, rfl, rfl, rfl, trivial⟩ ?_
        exact hj1 (false) _ _ ⟨rfl, (h7.facts .nil).picks (.cons .z .nil)⟩ hF
  ·
    refine Run.exit rfl ?_
    refine Run.seq ?_
    refine Run.reg ?_
    refine RunL.op (OpS.as rfl rfl rfl ?_)
    refine RunL.nil ?_
    refine Run.slim [(6, .bool false)] ⟨rfl, trivial⟩ ?_
    refine Run.retP rfl (.tmp rfl .nil) ?_
    cases hF
    exact Post.mk' ⟨rfl, rfl, rfl, rfl⟩ (h3.picks .nil) .nil
theorem ref24_Copy_ok {fuel : Nat} {a0 : Requester_} {y : Requester_} (hF : ref24_Copy fuel a0 = some y) {w : World} {v0 : Value} :
    Spec Try.prog 40 [v0].toArray w [(false, .val Requester_.rep v0 a0)] [] (fun v Γr Ωr Ωo => ∃ u0 u0_0 : Value, v = u0 ∧ Γr = [(true, .val (Rep.iso (fun s : Requester_ => (s.Own, s.Next, s.Pending, ())) (Rep.prod (Rep.int .u8) (Rep.prod (Rep.int .i64) (Rep.prod (Rep.raw u0_0) Rep.unit)))) u0 y)] ∧ Ωr = [(true, .slice 55 Pending_.rep u0_0 y.Pending)] ∧ Ωo = []) := by
  refine Spec.of (L := [(0, v0)]) Try.func40 rfl ⟨rfl, trivial⟩ rfl (fun e h => ?_)
  unfold ref24_Copy at hF
  refine Run.seq ?_
  refine Run.reg ?_
  refine RunL.op (OpS.boxF h rfl rfl rfl (V.at .z) (fun u1 w1 h1 => ?_))
  refine RunL.op (OpS.alloc h1 ti26 Requester_.zr rfl rfl (fun u2 w2 h2 => ?_))
  refine RunL.nil ?_
  refine Run.slim [(2, u2), (1, u1)] ⟨rfl, rfl, trivial⟩ ?_
  refine Run.seq ?_
  refine Run.reg ?_
  refine RunL.op (OpS.fbox (o3 := 0) h2 (.s .z) PA.z fa26_0 rfl rfl rfl rfl ?_)
  refine RunL.op (OpS.loadBi h2 (.s .z) PA.a (Get.fld Requester_.f0) ty5 rfl rfl rfl ?_)
  refine RunL.op (OpS.fbox (o3 := 1) h2 (.s .z) PA.z fa26_1 rfl rfl rfl rfl ?_)
  refine RunL.op (OpS.loadBi h2 (.s .z) PA.a (Get.fld Requester_.f1) ty3 rfl rfl rfl ?_)
  have h3 := St.nil 55 Pending_.rep h2
  refine RunL.op (OpS.build (r := (Rep.iso (fun s : Requester_ => (s.Own, s.Next, s.Pending, ())) (Rep.prod (Rep.int .u8) (Rep.prod (Rep.int .i64) (Rep.prod (Rep.raw (.slice none 0 0)) Rep.unit))))) (f := true) (x' := (⟨a0.Own, a0.Next, []⟩ : Requester_)) h3 pl26 ti26 (Zr.iso (y := Requester_.z) _ (Zr.of (Zr.prod (Zr.int .u8 0) (Zr.prod (Zr.int .i64 0) (Zr.prod (Zr.raw rfl _) Zr.unit))) (by rfl))) rfl rfl rfl (.cons rfl (Fld.iso (g' := Requester_.Own) (st' := fun s y => { s with Own := y }) (fun s : Requester_ => (s.Own, s.Next, s.Pending, ())) Fld.here (fun _ => rfl) (fun _ _ => rfl)) rfl V.int (.cons rfl (Fld.iso (g' := Requester_.Next) (st' := fun s y => { s with Next := y }) (fun s : Requester_ => (s.Own, s.Next, s.Pending, ())) (Fld.there Fld.here) (fun _ => rfl) (fun _ _ => rfl)) rfl V.int .nil)) (fun u3 h4 => ?_))
  have h5 := St.nil 55 Pending_.rep h4
  refine RunL.op (OpS.alloc (r := (Rep.iso (fun s : Requester_ => (s.Own, s.Next, s.Pending, ())) (Rep.prod (Rep.int .u8) (Rep.prod (Rep.int .i64) (Rep.prod (Rep.raw (.slice none 0 0)) Rep.unit))))) h5 ti26 (Zr.iso (y := Requester_.z) _ (Zr.of (Zr.prod (Zr.int .u8 0) (Zr.prod (Zr.int .i64 0) (Zr.prod (Zr.raw rfl _) Zr.unit))) (by rfl))) rfl rfl (fun u4 w3 h6 => ?_))
  refine RunL.op (OpS.storeC (f' := true) (fr := (Rep.iso (fun s : Requester_ => (s.Own, s.Next, s.Pending, ())) (Rep.prod (Rep.int .u8) (Rep.prod (Rep.int .i64) (Rep.prod (Rep.raw (.slice none 0 0)) Rep.unit))))) (r' := (Rep.iso (fun s : Requester_ => (s.Own, s.Next, s.Pending, ())) (Rep.prod (Rep.int .u8) (Rep.prod (Rep.int .i64) (Rep.prod (Rep.raw (.slice none 0 0)) Rep.unit))))) (x' := (⟨a0.Own, a0.Next, []⟩ : Requester_)) h6 .z PA.z (Chg.id (by rfl)) (Ty.like ty26 (by rfl) (by rfl)) rfl rfl rfl (V.at .z) (.inl rfl) (fun w4 h7 => ?_))
  refine RunL.nil ?_
  refine Run.slim [(3, u4), (2, u2), (1, u1)] ⟨rfl, rfl, rfl, trivial⟩ ?_
  refine Run.seq ?_
  refine Run.seq ?_
  refine Run.reg ?_
  refine RunL.op (OpS.as rfl rfl rfl ?_)
  refine RunL.nil ?_
  refine Run.block ?_
  refine Run.slim [(1, u1), (2, u2), (3, u4), (4, .int .i64 0)] ⟨rfl, rfl, rfl, rfl, trivial⟩ ?_
  refine Run.loopP (σ := (Int × (List Pending_))) (fun s_ L_ w_ => ∃ u0_ : Value, L_ = [(1, u1), (2, u2), (3, u4), (4, .int .i64 s_.1)] ∧ St e w_ [] [(false, .box 26 Requester_.rep u1 a0), (true, .box 26 Requester_.rep u2 Requester_.z), (true, .box 26 (Rep.iso (fun s : Requester_ => (s.Own, s.Next, s.Pending, ())) (Rep.prod (Rep.int .u8) (Rep.prod (Rep.int .i64) (Rep.prod (Rep.raw u0_) Rep.unit)))) u4 (⟨a0.Own, a0.Next, []⟩ : Requester_)), (true, .slice 55 Pending_.rep u0_ s_.2)]) hF ⟨(.slice none 0 0), rfl, (h7.facts .nil).picks (.cons (.s (.s (.s (.s .z)))) (.cons (.s (.s (.s .z))) (.cons .z (.cons (.s .z) .nil))))⟩ (fun k1 hk1 s1 _ w5 hI hF => ?_)
  obtain ⟨u5, rfl, h8⟩ := hI
  refine Run.seq ?_
  refine Run.seq ?_
  refine Run.reg ?_
  refine RunL.op (OpS.mv rfl rfl rfl ?_)
  refine RunL.op (OpS.fbox (o3 := 2) h8 .z PA.z fa26_2 rfl rfl rfl rfl ?_)
  refine RunL.op (OpS.loadB h8 .z PA.a (Get.fld Requester_.f2) ty24 rfl rfl rfl (fun u6 h9 => ?_))
  refine RunL.op (OpS.len h9 Try.underlying24 rfl rfl rfl (V.at .z) ?_)
  refine RunL.op (OpS.bin rfl rfl rfl rfl rfl ?_)
  refine RunL.nil ?_
  refine Run.slim [(15, .bool (decide (s1.1 < (a0.Pending.length : Int)))), (1, u1), (2, u2), (3, u4), (4, .int .i64 s1.1)] ⟨rfl, rfl, rfl, rfl, rfl, trivial⟩ ?_
  refine Run.ite rfl hF (fun e1 hF => ?_) (fun e1 hF => ?_)
  ·
    refine Run.skip ?_
    refine Run.seq ?_
    refine Run.block ?_
    refine Run.seq ?_
    refine Run.reg ?_
    refine RunL.op (OpS.fbox (o3 := 2) h9 .z PA.z fa26_2 rfl rfl rfl rfl ?_)
    refine RunL.op (OpS.loadB h9 .z PA.a (Get.fld Requester_.f2) ty24 rfl rfl rfl (fun u7 h10 => ?_))
    refine RunL.op (OpS.mv rfl rfl rfl ?_)
    obtain ⟨x1, e2, hF⟩ := bindP_use hF
    refine RunL.op (OpS.iptr h10 Try.underlying24 ty55 rfl rfl rfl rfl (V.at .z) e2 (fun u8 h11 => ?_))
    refine RunL.op (OpS.load h11 ty55 rfl rfl rfl .z (fun u9 h12 => ?_))
    refine RunL.op (OpS.alloc h12 ti55 Pending_.zr rfl rfl (fun u10 w6 h13 => ?_))
    have h14 := (h13.pick .z).weak
    refine RunL.op (OpS.storeB (f' := false) h14 .z PA.z Put.id ty55 rfl rfl rfl (V.at .z) (.inr rfl) (fun w7 h15 => ?_))
    refine RunL.nil ?_
    refine Run.slim [(5, u10), (1, u1), (2, u2), (3, u4), (4, .int .i64 s1.1)] ⟨rfl, rfl, rfl, rfl, rfl, trivial⟩ ?_
    refine Run.seq ?_
    refine Run.reg ?_
    refine RunL.op (OpS.fbox (o3 := 0) h15 .z PA.z fa55_0 rfl rfl rfl rfl ?_)
    refine RunL.op (OpS.fbox (o3 := 8) h15 .z PA.a fa51_8 rfl rfl rfl rfl ?_)
    refine RunL.op (OpS.loadB h15 .z PA.a (Get.comp (Get.fld Pending_.f0) (Get.fld Message_.f8)) ty22 rfl rfl rfl (fun u11 h16 => ?_))
    have h17 := St.nil 5 (Rep.int .u8) h16
    obtain ⟨x2, e3, hF⟩ := bindP_use hF
    refine RunL.op (OpS.app (f' := false) h17 .z Try.underlying22 ti5 rfl rfl rfl rfl rfl rfl rfl (V.at .z) (.inr Pure.int) e3 (fun u12 w8 h18 => ?_))
    refine RunL.op (OpS.fbox (o3 := 0) h18 (.s .z) PA.z fa55_0 rfl rfl rfl rfl ?_)
    refine RunL.op (OpS.fbox (o3 := 8) h18 (.s .z) PA.a fa51_8 rfl rfl rfl rfl ?_)
    refine RunL.op (OpS.storeC (f' := false) (fr := (Rep.raw u12)) (r' := (Rep.iso (fun s : Pending_ => (s.Request, s.Deadline, s.Tries, ())) (Rep.prod (Rep.iso (fun s : Message_ => (s.To, s.From, s.Function, s.Command, s.ToUnit, s.FromUnit, s.Sequence, s.Code, s.Data, ())) (Rep.prod (Rep.int .u8) (Rep.prod (Rep.int .u8) (Rep.prod (Rep.int .u8) (Rep.prod (Rep.int .u8) (Rep.prod (Rep.int .i64) (Rep.prod (Rep.int .i64) (Rep.prod (Rep.int .i64) (Rep.prod (Rep.int .u8) (Rep.prod (Rep.raw u12) Rep.unit)))))))))) (Rep.prod (Rep.int .i64) (Rep.prod (Rep.int .i64) Rep.unit))))) (x' := x1) h18 (.s .z) PA.a (Chg.iso _ (Chg.here (Chg.iso _ (Chg.there (Chg.there (Chg.there (Chg.there (Chg.there (Chg.there (Chg.there (Chg.there (Chg.here (Chg.id (by rfl)))))))))))))) (Ty.like ty22 (by rfl) (by rfl)) rfl rfl rfl (V.raw (f := false) (St.own1 h18 .z) x1.Request.Data) (.inr rfl) (fun w9 h19 => ?_))
    refine RunL.nil ?_
    refine Run.slim [(5, u10), (1, u1), (2, u2), (3, u4), (4, .int .i64 s1.1)] ⟨rfl, rfl, rfl, rfl, rfl, trivial⟩ ?_
    refine Run.reg ?_
    refine RunL.op (OpS.fbox (o3 := 2) h19 (.s (.s (.s (.s .z)))) PA.z fa26_2 rfl rfl rfl rfl ?_)
    refine RunL.op (OpS.loadR h19 (.s (.s (.s (.s .z)))) PA.a (GetS.ok (GetS.iso _ (GetS.there (GetS.there (GetS.here GetS.id))))) ty24 rfl rfl rfl rfl rfl ?_)
    refine RunL.op (OpS.loadB (fr := (Rep.iso (fun s : Pending_ => (s.Request, s.Deadline, s.Tries, ())) (Rep.prod (Rep.iso (fun s : Message_ => (s.To, s.From, s.Function, s.Command, s.ToUnit, s.FromUnit, s.Sequence, s.Code, s.Data, ())) (Rep.prod (Rep.int .u8) (Rep.prod (Rep.int .u8) (Rep.prod (Rep.int .u8) (Rep.prod (Rep.int .u8) (Rep.prod (Rep.int .i64) (Rep.prod (Rep.int .i64) (Rep.prod (Rep.int .i64) (Rep.prod (Rep.int .u8) (Rep.prod (Rep.raw u12) Rep.unit)))))))))) (Rep.prod (Rep.int .i64) (Rep.prod (Rep.int .i64) Rep.unit))))) h19 .z PA.z (GetS.ok GetS.id) (Ty.like ty55 (by rfl) (by rfl)) rfl rfl rfl (fun u13 h20 => ?_))
    have h21 := (h20.pick (.s .z)).freeze
    have h22 := h21.pick .z
    have h23 := St.boxJ (r' := Pending_.rep) (x' := { x1 with Request := { x1.Request with Data := x2 } }) h22 (fun _ _ hs_ => (Jn.iso _ (Jn.prod (Jn.iso _ (Jn.prod Jn.refl (Jn.prod Jn.refl (Jn.prod Jn.refl (Jn.prod Jn.refl (Jn.prod Jn.refl (Jn.prod Jn.refl (Jn.prod Jn.refl (Jn.prod Jn.refl (Jn.prod (Jn.raw ((V.weak (V.at .z)) _ _ hs_) rfl) Jn.refl)))))))))) Jn.refl)))
    have h24 := St.addV (f := true) (r := Pending_.rep) (x := { x1 with Request := { x1.Request with Data := x2 } }) h23 (V.jn (r := (Rep.iso (fun s : Pending_ => (s.Request, s.Deadline, s.Tries, ())) (Rep.prod (Rep.iso (fun s : Message_ => (s.To, s.From, s.Function, s.Command, s.ToUnit, s.FromUnit, s.Sequence, s.Code, s.Data, ())) (Rep.prod (Rep.int .u8) (Rep.prod (Rep.int .u8) (Rep.prod (Rep.int .u8) (Rep.prod (Rep.int .u8) (Rep.prod (Rep.int .i64) (Rep.prod (Rep.int .i64) (Rep.prod (Rep.int .i64) (Rep.prod (Rep.int .u8) (Rep.prod (Rep.raw u12) Rep.unit)))))))))) (Rep.prod (Rep.int .i64) (Rep.prod (Rep.int .i64) Rep.unit))))) (x := x1) (V.pure (V.at (.s .z)) (Pure.iso (Pure.prod (Pure.iso (Pure.prod Pure.int (Pure.prod Pure.int (Pure.prod Pure.int (Pure.prod Pure.int (Pure.prod Pure.int (Pure.prod Pure.int (Pure.prod Pure.int (Pure.prod Pure.int (Pure.prod Pure.raw Pure.unit)))))))))) (Pure.prod Pure.int (Pure.prod Pure.int Pure.unit))))) rfl (fun _ _ hs_ => (Jn.iso _ (Jn.prod (Jn.iso _ (Jn.prod Jn.refl (Jn.prod Jn.refl (Jn.prod Jn.refl (Jn.prod Jn.refl (Jn.prod Jn.refl (Jn.prod Jn.refl (Jn.prod Jn.refl (Jn.prod Jn.refl (Jn.prod (Jn.raw ((V.at .z) _ _ hs_) rfl) Jn.refl)))))))))) Jn.refl))))
    refine RunL.op (OpS.lit (r := Pending_.rep) (f := true) h24 Try.underlying24 ti55 rfl rfl rfl rfl rfl (.cons rfl (V.at .z) .nil) rfl rfl (fun u14 w10 h25 => ?_))
    obtain ⟨x3, e4, hF⟩ := bindP_use hF
    refine RunL.op (OpS.app (f' := true) h25 (.s (.s (.s (.s .z)))) Try.underlying24 ti55 rfl rfl rfl rfl rfl rfl rfl (V.at .z) (.inl (.inl rfl)) e4 (fun u15 w11 h26 => ?_))
    refine RunL.op (OpS.fbox (o3 := 2) h26 (.s (.s (.s (.s .z)))) PA.z fa26_2 rfl rfl rfl rfl ?_)
    refine RunL.op (OpS.storeC (f' := true) (fr := (Rep.raw u15)) (r' := (Rep.iso (fun s : Requester_ => (s.Own, s.Next, s.Pending, ())) (Rep.prod (Rep.int .u8) (Rep.prod (Rep.int .i64) (Rep.prod (Rep.raw u15) Rep.unit))))) (x' := (⟨a0.Own, a0.Next, []⟩ : Requester_)) h26 (.s (.s (.s (.s .z)))) PA.a (Chg.iso _ (Chg.there (Chg.there (Chg.here (Chg.id (by rfl)))))) (Ty.like ty24 (by rfl) (by rfl)) rfl rfl rfl (V.raw (f := true) (St.own1 h26 .z) ((⟨a0.Own, a0.Next, []⟩ : Requester_).Pending)) (.inl rfl) (fun w12 h27 => ?_))
    refine RunL.nil ?_
    refine Run.slim [(1, u1), (2, u2), (3, u4), (4, .int .i64 s1.1)] ⟨rfl, rfl, rfl, rfl, trivial⟩ ?_
    refine Run.endBlock ?_
    refine Run.reg ?_
    refine RunL.op (OpS.mv rfl rfl rfl ?_)
    refine RunL.op (OpS.bin rfl rfl rfl rfl rfl ?_)
    refine RunL.op (OpS.as rfl rfl rfl ?_)
    obtain ⟨x4, e5, hF⟩ := letP_use hF
    refine RunL.name e5 ?_
    refine RunL.nil ?_
    refine Run.slim [(4, .int .i64 x4), (1, u1), (2, u2), (3, u4)] ⟨rfl, rfl, rfl, rfl, trivial⟩ ?_
    refine Run.slim [(1, u1), (2, u2), (3, u4), (4, .int .i64 x4)] ⟨rfl, rfl, rfl, rfl, trivial⟩ ?_
    exact hk1 (x4, x3) _ _ ⟨u15, rfl, (h27.facts .nil).picks (.cons (.s (.s (.s .z))) (.cons (.s (.s (.s .z))) (.cons .z (.cons .z .nil))))⟩ hF
  ·
    refine Run.exit rfl ?_
    refine Run.seq ?_
    refine Run.reg ?_
    refine RunL.op (OpS.loadB (fr := (Rep.iso (fun s : Requester_ => (s.Own, s.Next, s.Pending, ())) (Rep.prod (Rep.int .u8) (Rep.prod (Rep.int .i64) (Rep.prod (Rep.raw u5) Rep.unit))))) h9 (.s (.s .z)) PA.z (GetS.ok GetS.id) (Ty.like ty26 (by rfl) (by rfl)) rfl rfl rfl (fun u16 h28 => ?_))
    refine RunL.op (OpS.storeC (f' := true) (fr := (Rep.iso (fun s : Requester_ => (s.Own, s.Next, s.Pending, ())) (Rep.prod (Rep.int .u8) (Rep.prod (Rep.int .i64) (Rep.prod (Rep.raw u5) Rep.unit))))) (r' := (Rep.iso (fun s : Requester_ => (s.Own, s.Next, s.Pending, ())) (Rep.prod (Rep.int .u8) (Rep.prod (Rep.int .i64) (Rep.prod (Rep.raw u5) Rep.unit))))) (x' := (⟨a0.Own, a0.Next, []⟩ : Requester_)) h28 (.s .z) PA.z (Chg.id (by rfl)) (Ty.like ty26 (by rfl) (by rfl)) rfl rfl rfl (V.at .z) (.inl rfl) (fun w13 h29 => ?_))
    refine RunL.nil ?_
    refine Run.slim [(2, u2)] ⟨rfl, trivial⟩ ?_
    obtain ⟨u17, hu1, h30⟩ := res_box h29 .z (Ty.like ty26 (by rfl) (by rfl))
    refine Run.retP rfl (.cell rfl hu1 .nil) ?_
    cases hF
    exact Post.mk' ⟨u17, u5, rfl, rfl, rfl, rfl⟩ (h30.picks (.cons (.s (.s (.s .z))) .nil)) (.val (V.jn (r := (Rep.iso (fun s : Requester_ => (s.Own, s.Next, s.Pending, ())) (Rep.prod (Rep.int .u8) (Rep.prod (Rep.int .i64) (Rep.prod (Rep.raw u5) Rep.unit))))) (x := (⟨a0.Own, a0.Next, []⟩ : Requester_)) (x' := { (⟨a0.Own, a0.Next, []⟩ : Requester_) with Pending := s1.2 }) (V.at .z) rfl (fun _ _ _ => (Jn.iso _ (Jn.prod Jn.refl (Jn.prod Jn.refl (Jn.prod Jn.same Jn.refl)))))) .nil)
set_option maxHeartbeats 8000000 in
theorem ref24_Send_ok {fuel : Nat} {a0 : Requester_} {a1 : Int} {a2 : Int} {a3 : Int} {a4 : List Int} {a5 : Int} {y : Requester_ × (List Int) × Int} (hF : ref24_Send fuel a0 a1 a2 a3 a4 a5 = some y) {w : World} {v0 v4 : Value} :
    Spec Try.prog 21 [v0, .int .u8 a1, .int .u8 a2, .int .u8 a3, v4, .int .i64 a5].toArray w [(false, .val Requester_.rep v0 a0), (false, .val (Rep.slice (Rep.int .u8)) v4 a4)] [] (fun v Γr Ωr Ωo => ∃ u0 u1 : Value, v = .tuple #[u0, u1, .int .i64 y.2.2] ∧ Γr = [(true, .val Requester_.rep u0 y.1), (true, .val (Rep.slice (Rep.int .u8)) u1 y.2.1)] ∧ Ωr = [] ∧ Ωo = []) := by
  refine Spec.of (L := [(0, v0), (1, .int .u8 a1), (2, .int .u8 a2), (3, .int .u8 a3), (4, v4), (5, .int .i64 a5)]) Try.func21 rfl ⟨rfl, rfl, rfl, rfl, rfl, rfl, trivial⟩ rfl (fun e h => ?_)
  unfold ref24_Send at hF
  refine Run.seq ?_
  refine Run.reg ?_
  refine RunL.op (OpS.boxF h rfl rfl rfl (V.at .z) (fun u1 w1 h1 => ?_))
  refine RunL.op (OpS.alloc h1 ti26 Requester_.zr rfl rfl (fun u2 w2 h2 => ?_))
  refine RunL.op (OpS.as rfl rfl rfl ?_)
  refine RunL.op (OpS.as rfl rfl rfl ?_)
  refine RunL.nil ?_
  refine Run.slim [(12, u2), (6, u1), (1, .int .u8 a1), (2, .int .u8 a2), (3, .int .u8 a3), (4, v4), (5, .int .i64 a5)] ⟨rfl, rfl, rfl, rfl, rfl, rfl, rfl, trivial⟩ ?_
  refine Run.seq ?_
  refine Run.block ?_
  refine Run.seq ?_
  refine Run.reg ?_
  refine RunL.op (OpS.loadB h2 (.s .z) PA.z Get.id ty26 rfl rfl rfl (fun u3 h3 => ?_))
  obtain ⟨y1, e1, hF⟩ := bindP_use hF
  refine RunL.op (OpS.callP h3 Try.func20 rfl rfl rfl rfl (vs := [u3]) rfl (ref24_Valid_ok e1) (.cons (f := false) (V.at .z) .nil) ?_)
  rintro _ w3 _ _ _ ⟨rfl, rfl, rfl, rfl⟩ h4
  have h5 := h4 rfl rfl
  simp only [List.cons_append, List.nil_append] at h5
  refine RunL.op (OpS.not rfl rfl rfl ?_)
  refine RunL.op (OpS.as rfl rfl rfl ?_)
  obtain ⟨x1, e2, hF⟩ := letP_use hF
  refine RunL.nameb e2 ?_
  refine RunL.nil ?_
  refine Run.slim [(20, .bool x1), (12, u2), (6, u1), (1, .int .u8 a1), (2, .int .u8 a2), (3, .int .u8 a3), (4, v4), (5, .int .i64 a5)] ⟨rfl, rfl, rfl, rfl, rfl, rfl, rfl, rfl, trivial⟩ ?_
  refine Run.ite rfl hF (fun e3 hF => ?_) (fun e3 hF => ?_)
  ·
    refine Run.seq ?_
    refine Run.reg ?_
    refine RunL.op (OpS.build (f := true) (x' := Requester_.z) h5 pl26 ti26 Requester_.zr rfl rfl rfl .nil (fun u4 h6 => ?_))
    refine RunL.op (OpS.storeB (f' := true) h6 .z PA.z Put.id ty26 rfl rfl rfl (V.at .z) (.inl rfl) (fun w4 h7 => ?_))
    refine RunL.op (OpS.as rfl rfl rfl ?_)
    refine RunL.op (OpS.as rfl rfl rfl ?_)
    refine RunL.nil ?_
    refine Run.slim [(14, .int .i64 1), (13, .slice none 0 0), (12, u2)] ⟨rfl, rfl, rfl, trivial⟩ ?_
    obtain ⟨u5, hu1, h8⟩ := res_box h7 .z ty26
    refine Run.retP rfl (.cell rfl hu1 (.tmp rfl (.tmp rfl .nil))) ?_
    cases hF
    exact Post.mk' ⟨u5, .slice none 0 0, rfl, rfl, rfl, rfl⟩ (h8.picks .nil) (.val (V.at .z) (.val V.nil .nil))
  ·
    refine Run.seq ?_
    refine Run.reg ?_
    refine RunL.op (OpS.mv rfl rfl rfl ?_)
    obtain ⟨y2, e4, hF⟩ := bindP_use hF
    refine RunL.op (OpS.callP h5 Try.func42 rfl rfl rfl rfl (vs := [.int .i64 a5]) rfl (ref24_Time_ok e4) .nil ?_)
    rintro _ w5 _ _ _ ⟨rfl, rfl, rfl, rfl⟩ h9
    have h10 := h9 rfl rfl
    simp only [List.cons_append, List.nil_append] at h10
    refine RunL.op (OpS.not rfl rfl rfl ?_)
    refine RunL.op (OpS.as rfl rfl rfl ?_)
    obtain ⟨x2, e5, hF⟩ := letP_use hF
    refine RunL.nameb e5 ?_
    refine RunL.nil ?_
    refine Run.slim [(25, .bool x2), (12, u2), (6, u1), (1, .int .u8 a1), (2, .int .u8 a2), (3, .int .u8 a3), (4, v4), (5, .int .i64 a5)] ⟨rfl, rfl, rfl, rfl, rfl, rfl, rfl, rfl, trivial⟩ ?_
    refine Run.ite rfl hF (fun e6 hF => ?_) (fun e6 hF => ?_)
    ·
      refine Run.seq ?_
      refine Run.reg ?_
      refine RunL.op (OpS.build (f := true) (x' := Requester_.z) h10 pl26 ti26 Requester_.zr rfl rfl rfl .nil (fun u6 h11 => ?_))
      refine RunL.op (OpS.storeB (f' := true) h11 .z PA.z Put.id ty26 rfl rfl rfl (V.at .z) (.inl rfl) (fun w6 h12 => ?_))
      refine RunL.op (OpS.as rfl rfl rfl ?_)
      refine RunL.op (OpS.as rfl rfl rfl ?_)
      refine RunL.nil ?_
      refine Run.slim [(14, .int .i64 2), (13, .slice none 0 0), (12, u2)] ⟨rfl, rfl, rfl, trivial⟩ ?_
      obtain ⟨u7, hu2, h13⟩ := res_box h12 .z ty26
      refine Run.retP rfl (.cell rfl hu2 (.tmp rfl (.tmp rfl .nil))) ?_
      cases hF
      exact Post.mk' ⟨u7, .slice none 0 0, rfl, rfl, rfl, rfl⟩ (h13.picks .nil) (.val (V.at .z) (.val V.nil .nil))
    ·
      refine Run.seq ?_
      refine Run.reg ?_
      refine RunL.op (OpS.fbox (o3 := 2) h10 (.s .z) PA.z fa26_2 rfl rfl rfl rfl ?_)
      refine RunL.op (OpS.loadB h10 (.s .z) PA.a (Get.fld Requester_.f2) ty24 rfl rfl rfl (fun u8 h14 => ?_))
      refine RunL.op (OpS.len h14 Try.underlying24 rfl rfl rfl (V.at .z) ?_)
      refine RunL.op (OpS.bin rfl rfl rfl rfl rfl ?_)
      refine RunL.op (OpS.as rfl rfl rfl ?_)
      obtain ⟨x3, e7, hF⟩ := letP_use hF
      refine RunL.nameb e7 ?_
      refine RunL.nil ?_
      refine Run.slim [(30, .bool x3), (12, u2), (6, u1), (1, .int .u8 a1), (2, .int .u8 a2), (3, .int .u8 a3), (4, v4), (5, .int .i64 a5)] ⟨rfl, rfl, rfl, rfl, rfl, rfl, rfl, rfl, trivial⟩ ?_
      refine Run.ite rfl hF (fun e8 hF => ?_) (fun e8 hF => ?_)
      ·
        refine Run.seq ?_
        refine Run.reg ?_
        refine RunL.op (OpS.build (f := true) (x' := Requester_.z) h14 pl26 ti26 Requester_.zr rfl rfl rfl .nil (fun u9 h15 => ?_))
        refine RunL.op (OpS.storeB (f' := true) h15 .z PA.z Put.id ty26 rfl rfl rfl (V.at .z) (.inl rfl) (fun w7 h16 => ?_))
        refine RunL.op (OpS.as rfl rfl rfl ?_)
        refine RunL.op (OpS.as rfl rfl rfl ?_)
        refine RunL.nil ?_
        refine Run.slim [(14, .int .i64 9), (13, .slice none 0 0), (12, u2)] ⟨rfl, rfl, rfl, trivial⟩ ?_
        obtain ⟨u10, hu3, h17⟩ := res_box h16 .z ty26
        refine Run.retP rfl (.cell rfl hu3 (.tmp rfl (.tmp rfl .nil))) ?_
        cases hF
        exact Post.mk' ⟨u10, .slice none 0 0, rfl, rfl, rfl, rfl⟩ (h17.picks .nil) (.val (V.at .z) (.val V.nil .nil))
      ·
        refine Run.skip ?_
        refine Run.endBlock ?_
        refine Run.seq ?_
        refine Run.reg ?_
        refine RunL.op (OpS.fbox (o3 := 1) h14 (.s .z) PA.z fa26_1 rfl rfl rfl rfl ?_)
        refine RunL.op (OpS.loadBi h14 (.s .z) PA.a (Get.fld Requester_.f1) ty3 rfl rfl rfl ?_)
        refine RunL.op (OpS.as rfl rfl rfl ?_)
        refine RunL.nil ?_
        refine Run.slim [(15, .int .i64 a0.Next), (12, u2), (6, u1), (1, .int .u8 a1), (2, .int .u8 a2), (3, .int .u8 a3), (4, v4), (5, .int .i64 a5)] ⟨rfl, rfl, rfl, rfl, rfl, rfl, rfl, rfl, trivial⟩ ?_
        refine Run.seq ?_
        refine Run.block ?_
        refine Run.slim [(1, .int .u8 a1), (2, .int .u8 a2), (3, .int .u8 a3), (4, v4), (5, .int .i64 a5), (6, u1), (12, u2), (15, .int .i64 a0.Next)] ⟨rfl, rfl, rfl, rfl, rfl, rfl, rfl, rfl, trivial⟩ ?_
        refine Run.loopP (σ := Int) (fun s_ L_ w_ => L_ = [(1, .int .u8 a1), (2, .int .u8 a2), (3, .int .u8 a3), (4, v4), (5, .int .i64 a5), (6, u1), (12, u2), (15, .int .i64 s_)] ∧ St e w_ [(false, .val (Rep.slice (Rep.int .u8)) v4 a4)] [(false, .box 26 Requester_.rep u1 a0), (true, .box 26 Requester_.rep u2 Requester_.z)]) hF ⟨rfl, (h14.facts (.atm (.s (.s (.s .z))) .nil)).picks (.cons (.s .z) (.cons .z .nil))⟩ (fun k1 hk1 s1 _ w8 hI hF => ?_)
        obtain ⟨rfl, h18⟩ := hI
        refine Run.seq ?_
        refine Run.seq ?_
        refine Run.reg ?_
        refine RunL.op (OpS.loadB h18 .z PA.z Get.id ty26 rfl rfl rfl (fun u11 h19 => ?_))
        refine RunL.op (OpS.mv rfl rfl rfl ?_)
        refine RunL.op (OpS.mv rfl rfl rfl ?_)
        obtain ⟨y3, e9, hF⟩ := bindP_use hF
        refine RunL.op (OpS.callP h19 Try.func43 rfl rfl rfl rfl (vs := [u11, .int .u8 a1, .int .i64 s1]) rfl (ref24_used_ok e9) (.cons (f := false) (V.at .z) .nil) ?_)
        rintro _ w9 _ _ _ ⟨rfl, rfl, rfl, rfl⟩ h20
        have h21 := h20 rfl rfl
        simp only [List.cons_append, List.nil_append] at h21
        refine RunL.nil ?_
        refine Run.slim [(41, .bool y3), (1, .int .u8 a1), (2, .int .u8 a2), (3, .int .u8 a3), (4, v4), (5, .int .i64 a5), (6, u1), (12, u2), (15, .int .i64 s1)] ⟨rfl, rfl, rfl, rfl, rfl, rfl, rfl, rfl, rfl, trivial⟩ ?_
        refine Run.ite rfl hF (fun e10 hF => ?_) (fun e10 hF => ?_)
        ·
          refine Run.skip ?_
          refine Run.block ?_
          refine Run.reg ?_
          refine RunL.op (OpS.mv rfl rfl rfl ?_)
          refine RunL.op (OpS.bin rfl rfl rfl rfl rfl ?_)
          refine RunL.op (OpS.rem rfl rfl rfl rfl (by decide) ?_)
          refine RunL.op (OpS.as rfl rfl rfl ?_)
          obtain ⟨x4, e11, hF⟩ := letP_use hF
          refine RunL.name e11 ?_
          refine RunL.nil ?_
          refine Run.slim [(15, .int .i64 x4), (1, .int .u8 a1), (2, .int .u8 a2), (3, .int .u8 a3), (4, v4), (5, .int .i64 a5), (6, u1), (12, u2)] ⟨rfl, rfl, rfl, rfl, rfl, rfl, rfl, rfl, trivial⟩ ?_
          refine Run.endBlock ?_
          refine Run.slim [(1, .int .u8 a1), (2, .int .u8 a2), (3, .int .u8 a3), (4, v4), (5, .int .i64 a5), (6, u1), (12, u2), (15, .int .i64 x4)] ⟨rfl, rfl, rfl, rfl, rfl, rfl, rfl, rfl, trivial⟩ ?_
          exact hk1 (x4) _ _ ⟨rfl, (h21.facts (.atm (.s .z) .nil)).picks (.cons .z (.cons .z .nil))⟩ hF
        ·
          refine Run.exit rfl ?_
          refine Run.seq ?_
          obtain ⟨x5, e12, hF⟩ := bindP_use hF
          refine Run.drawV (Ωs := [(true, .box 26 Requester_.rep u2 Requester_.z)]) [⟨some 45, some (.int .u8 a1), fun _ => [], fun ds_ u_ => [], [], [], none⟩, ⟨some 46, some ((padd u1 0)), fun _ => [], fun ds_ u_ => [], [], [(0, [])], none⟩, ⟨some 47, some (.int .u8 a0.Own), fun _ => [], fun ds_ u_ => [], [], [(0, [])], none⟩, ⟨some 48, some (.int .u8 a2), fun _ => [], fun ds_ u_ => [], [], [], none⟩, ⟨some 49, some (.int .u8 a3), fun _ => [], fun ds_ u_ => [], [], [], none⟩, ⟨some 50, some (.int .i64 s1), fun _ => [], fun ds_ u_ => [], [], [], none⟩, ⟨some 51, some (v4), fun _ => [], fun ds_ u_ => [], [], [], none⟩, ⟨some 52, none, fun u_ => [(true, .val (Rep.slice (Rep.int .u8)) u_ x5)], fun ds_ u_ => [], [], [], none⟩, ⟨some 53, none, fun u_ => [(true, .val Message_.rep u_ (⟨a1, a0.Own, a2, a3, 0, 0, s1, 0, x5⟩ : Message_))], fun ds_ u_ => [], [], [], none⟩, ⟨some 16, none, fun u_ => [], fun ds_ u_ => [(true, .box 51 Message_.rep u_ Message_.z)], [], [], none⟩] [[], [], [1], [], [], [], [], [6], [0, 2, 3, 4, 5, 7], []] [[(false, .box 26 Requester_.rep u1 a0)]] [0, 1, 2, 3, 4, 5, 6, 7, 8, 9, 10] Try_mixed rfl rfl rfl h21 (.cons ?_ (.cons ?_ (.cons ?_ (.cons ?_ (.cons ?_ (.cons ?_ (.cons ?_ (.cons ?_ (.cons ?_ (.cons ?_ .nil)))))))))) (fun q1 w hq1 h => ?_)
          · intro q1 w Γx Ωx h
            refine OpS.mv rfl rfl rfl ?_
            exact ⟨undef, rfl, trivial, h⟩
          · intro q1 w Γx Ωx h
            have h : St e w ([(false, .val Requester_.rep u11 a0), (false, .val (Rep.slice (Rep.int .u8)) v4 a4)] ++ Γx) ([(false, .box 26 Requester_.rep u1 a0), (true, .box 26 Requester_.rep u2 Requester_.z)] ++ Ωx) := h
            refine OpS.fbox (o3 := 0) h .z PA.z fa26_0 rfl rfl rfl rfl ?_
            exact ⟨undef, rfl, trivial, h⟩
          · intro q1 w Γx Ωx h
            have h : St e w ([(false, .val Requester_.rep u11 a0), (false, .val (Rep.slice (Rep.int .u8)) v4 a4)] ++ Γx) ([(false, .box 26 Requester_.rep u1 a0), (true, .box 26 Requester_.rep u2 Requester_.z)] ++ Ωx) := h
            refine OpS.loadBi h .z PA.a (Get.fld Requester_.f0) ty5 rfl rfl rfl ?_
            exact ⟨undef, rfl, trivial, h⟩
          · intro q1 w Γx Ωx h
            refine OpS.mv rfl rfl rfl ?_
            exact ⟨undef, rfl, trivial, h⟩
          · intro q1 w Γx Ωx h
            refine OpS.mv rfl rfl rfl ?_
            exact ⟨undef, rfl, trivial, h⟩
          · intro q1 w Γx Ωx h
            refine OpS.mv rfl rfl rfl ?_
            exact ⟨undef, rfl, trivial, h⟩
          · intro q1 w Γx Ωx h
            refine OpS.mv rfl rfl rfl ?_
            exact ⟨undef, rfl, trivial, h⟩
          · intro q1 w Γx Ωx h
            have h26 := St.nil 5 (Rep.int .u8) h
            refine OpS.app (f' := false) h26 .z Try.underlying22 ti5 rfl rfl rfl rfl rfl rfl rfl (V.at (.s .z)) (.inr Pure.int) e12 (fun u w12 h27 => ?_)
            exact ⟨u, rfl, trivial, (h27.freeze)⟩
          · intro q1 w Γx Ωx h
            refine OpS.build (f := true) (x' := (⟨a1, a0.Own, a2, a3, 0, 0, s1, 0, x5⟩ : Message_)) h pl51 ti51 Message_.zr rfl rfl rfl (.cons rfl Message_.f0 rfl V.int (.cons rfl Message_.f1 rfl V.int (.cons rfl Message_.f2 rfl V.int (.cons rfl Message_.f3 rfl V.int (.cons rfl Message_.f6 rfl V.int (.cons rfl Message_.f8 rfl (V.at .z) .nil)))))) (fun u h28 => ?_)
            exact ⟨u, rfl, trivial, h28⟩
          · intro q1 w Γx Ωx h
            refine OpS.alloc h ti51 Message_.zr rfl rfl (fun u w13 h29 => ?_)
            exact ⟨u, rfl, trivial, h29⟩
          have h30 : St e w [(true, .val (Rep.slice (Rep.int .u8)) (q1 7) x5), (true, .val Message_.rep (q1 8) (⟨a1, a0.Own, a2, a3, 0, 0, s1, 0, x5⟩ : Message_)), (false, .val Requester_.rep u11 a0), (false, .val (Rep.slice (Rep.int .u8)) v4 a4)] [(false, .box 26 Requester_.rep u1 a0), (true, .box 51 Message_.rep (q1 9) Message_.z), (true, .box 26 Requester_.rep u2 Requester_.z)] := h
          refine RunL.op (OpS.storeB (f' := true) h30 (.s .z) PA.z Put.id ty51 rfl rfl rfl (V.at (.s .z)) (.inl rfl) (fun w14 h31 => ?_))
          refine RunL.nil ?_
          refine Run.slim [(16, (q1 9)), (5, .int .i64 a5), (6, u1), (12, u2), (15, .int .i64 s1)] ⟨rfl, rfl, rfl, rfl, rfl, trivial⟩ ?_
          refine Run.seq ?_
          refine Run.reg ?_
          refine RunL.op (OpS.loadB h31 .z PA.z Get.id ty51 rfl rfl rfl (fun u12 h32 => ?_))
          obtain ⟨y4, e13, hF⟩ := bindP_use hF
          refine RunL.op (OpS.callP h32 Try.func41 rfl rfl rfl rfl (vs := [u12]) rfl (ref23_Request_ok e13) (.cons (f := true) (V.at .z) .nil) ?_)
          rintro _ w15 _ _ _ ⟨u13, rfl, rfl, rfl, rfl⟩ h33
          have h34 := h33 rfl rfl
          simp only [List.cons_append, List.nil_append] at h34
          refine RunL.op (OpS.mv rfl rfl rfl ?_)
          refine RunL.op (OpS.ext rfl rfl rfl rfl ?_)
          refine RunL.op (OpS.ext rfl rfl rfl rfl ?_)
          refine RunL.op (OpS.as rfl rfl rfl ?_)
          have h35 := (h34.pick .z).freeze
          refine RunL.op (OpS.as rfl rfl rfl ?_)
          refine RunL.nil ?_
          refine Run.slim [(18, .int .i64 y4.2), (17, u13), (16, (q1 9)), (5, .int .i64 a5), (6, u1), (12, u2), (15, .int .i64 s1)] ⟨rfl, rfl, rfl, rfl, rfl, rfl, rfl, trivial⟩ ?_
          refine Run.seq ?_
          refine Run.seq ?_
          refine Run.reg ?_
          refine RunL.op (OpS.mv rfl rfl rfl ?_)
          refine RunL.op (OpS.bin rfl rfl rfl rfl rfl ?_)
          refine RunL.nil ?_
          refine Run.slim [(60, .bool (y4.2 != 0)), (18, .int .i64 y4.2), (17, u13), (16, (q1 9)), (5, .int .i64 a5), (6, u1), (12, u2), (15, .int .i64 s1)] ⟨rfl, rfl, rfl, rfl, rfl, rfl, rfl, rfl, trivial⟩ ?_
          refine Run.ite rfl hF (fun e14 hF => ?_) (fun e14 hF => ?_)
          ·
            refine Run.seq ?_
            refine Run.reg ?_
            refine RunL.op (OpS.build (f := true) (x' := Requester_.z) h35 pl26 ti26 Requester_.zr rfl rfl rfl .nil (fun u14 h36 => ?_))
            refine RunL.op (OpS.mv rfl rfl rfl ?_)
            refine RunL.op (OpS.storeB (f' := true) h36 (.s (.s .z)) PA.z Put.id ty26 rfl rfl rfl (V.at .z) (.inl rfl) (fun w16 h37 => ?_))
            refine RunL.op (OpS.as rfl rfl rfl ?_)
            refine RunL.op (OpS.as rfl rfl rfl ?_)
            refine RunL.nil ?_
            refine Run.slim [(14, .int .i64 y4.2), (13, .slice none 0 0), (12, u2)] ⟨rfl, rfl, rfl, trivial⟩ ?_
            obtain ⟨u15, hu4, h38⟩ := res_box h37 .z ty26
            refine Run.retP rfl (.cell rfl hu4 (.tmp rfl (.tmp rfl .nil))) ?_
            cases hF
            exact Post.mk' ⟨u15, .slice none 0 0, rfl, rfl, rfl, rfl⟩ (h38.picks .nil) (.val (V.at .z) (.val V.nil .nil))
          ·
            refine Run.skip ?_
            refine Run.seq ?_
            refine Run.reg ?_
            refine RunL.op (OpS.loadB h35 (.s .z) PA.z Get.id ty26 rfl rfl rfl (fun u16 h39 => ?_))
            obtain ⟨y5, e15, hF⟩ := bindP_use hF
            refine RunL.op (OpS.callP h39 Try.func40 rfl rfl rfl rfl (vs := [u16]) rfl (ref24_Copy_ok e15) (.cons (f := false) (V.at .z) .nil) ?_)
            rintro u17 w17 _ _ _ ⟨_, u18, rfl, rfl, rfl, rfl⟩ h40
            have h41 := h40 rfl rfl
            simp only [List.cons_append, List.nil_append] at h41
            have h42 := St.nil 55 Pending_.rep h41
            refine RunL.op (OpS.alloc (r := (Rep.iso (fun s : Requester_ => (s.Own, s.Next, s.Pending, ())) (Rep.prod (Rep.int .u8) (Rep.prod (Rep.int .i64) (Rep.prod (Rep.raw (.slice none 0 0)) Rep.unit))))) h42 ti26 (Zr.iso (y := Requester_.z) _ (Zr.of (Zr.prod (Zr.int .u8 0) (Zr.prod (Zr.int .i64 0) (Zr.prod (Zr.raw rfl _) Zr.unit))) (by rfl))) rfl rfl (fun u19 w18 h43 => ?_))
            refine RunL.op (OpS.storeC (f' := true) (fr := (Rep.iso (fun s : Requester_ => (s.Own, s.Next, s.Pending, ())) (Rep.prod (Rep.int .u8) (Rep.prod (Rep.int .i64) (Rep.prod (Rep.raw u18) Rep.unit))))) (r' := (Rep.iso (fun s : Requester_ => (s.Own, s.Next, s.Pending, ())) (Rep.prod (Rep.int .u8) (Rep.prod (Rep.int .i64) (Rep.prod (Rep.raw u18) Rep.unit))))) (x' := y5) h43 .z PA.z (Chg.id (by rfl)) (Ty.like ty26 (by rfl) (by rfl)) rfl rfl rfl (V.at .z) (.inl rfl) (fun w19 h44 => ?_))
            refine RunL.nil ?_
            refine Run.slim [(19, u19), (17, u13), (16, (q1 9)), (5, .int .i64 a5), (12, u2), (15, .int .i64 s1)] ⟨rfl, rfl, rfl, rfl, rfl, rfl, trivial⟩ ?_
            refine Run.seq ?_
            refine Run.reg ?_
            refine RunL.op (OpS.fbox (o3 := 2) h44 .z PA.z fa26_2 rfl rfl rfl rfl ?_)
            refine RunL.op (OpS.loadR h44 .z PA.a (GetS.ok (GetS.iso _ (GetS.there (GetS.there (GetS.here GetS.id))))) ty24 rfl rfl rfl rfl rfl ?_)
            refine RunL.op (OpS.loadB h44 (.s (.s (.s .z))) PA.z Get.id ty51 rfl rfl rfl (fun u20 h45 => ?_))
            refine RunL.op (OpS.mv rfl rfl rfl ?_)
            refine RunL.op (OpS.bin rfl rfl rfl rfl rfl ?_)
            refine RunL.op (OpS.build (f := true) (x' := (⟨(⟨a1, a0.Own, a2, a3, 0, 0, s1, 0, x5⟩ : Message_), (IntKind.i64.wrap (a5 + 10)), 1⟩ : Pending_)) h45 pl55 ti55 Pending_.zr rfl rfl rfl (.cons rfl Pending_.f0 rfl (V.at .z) (.cons rfl Pending_.f1 rfl V.int (.cons rfl Pending_.f2 rfl V.int .nil))) (fun u21 h46 => ?_))
            refine RunL.op (OpS.lit (r := Pending_.rep) (f := true) h46 Try.underlying24 ti55 rfl rfl rfl rfl rfl (.cons rfl (V.at .z) .nil) rfl rfl (fun u22 w20 h47 => ?_))
            obtain ⟨x6, e16, hF⟩ := bindP_use hF
            refine RunL.op (OpS.app (f' := true) h47 (.s (.s .z)) Try.underlying24 ti55 rfl rfl rfl rfl rfl rfl rfl (V.at .z) (.inl (.inl rfl)) e16 (fun u23 w21 h48 => ?_))
            refine RunL.op (OpS.fbox (o3 := 2) h48 (.s .z) PA.z fa26_2 rfl rfl rfl rfl ?_)
            refine RunL.op (OpS.storeC (f' := true) (fr := (Rep.raw u23)) (r' := (Rep.iso (fun s : Requester_ => (s.Own, s.Next, s.Pending, ())) (Rep.prod (Rep.int .u8) (Rep.prod (Rep.int .i64) (Rep.prod (Rep.raw u23) Rep.unit))))) (x' := y5) h48 (.s .z) PA.a (Chg.iso _ (Chg.there (Chg.there (Chg.here (Chg.id (by rfl)))))) (Ty.like ty24 (by rfl) (by rfl)) rfl rfl rfl (V.raw (f := true) (St.own1 h48 .z) y5.Pending) (.inl rfl) (fun w22 h49 => ?_))
            refine RunL.nil ?_
            refine Run.slim [(19, u19), (17, u13), (12, u2), (15, .int .i64 s1)] ⟨rfl, rfl, rfl, rfl, trivial⟩ ?_
            refine Run.seq ?_
            refine Run.reg ?_
            refine RunL.op (OpS.mv rfl rfl rfl ?_)
            refine RunL.op (OpS.bin rfl rfl rfl rfl rfl ?_)
            refine RunL.op (OpS.rem rfl rfl rfl rfl (by decide) ?_)
            refine RunL.op (OpS.fbox (o3 := 1) h49 .z PA.z fa26_1 rfl rfl rfl rfl ?_)
            obtain ⟨d1, e17, hF⟩ := letP_use hF
            refine RunL.op (OpS.storeC (f' := true) (fr := (Rep.int .i64)) (r' := (Rep.iso (fun s : Requester_ => (s.Own, s.Next, s.Pending, ())) (Rep.prod (Rep.int .u8) (Rep.prod (Rep.int .i64) (Rep.prod (Rep.raw u23) Rep.unit))))) (x' := d1) h49 .z PA.a (Chg.of (x' := { y5 with Next := (Int.tmod (IntKind.i64.wrap (s1 + 1)) 64) }) (Chg.iso _ (Chg.there (Chg.here (Chg.id (by rfl))))) e17) ty3 rfl rfl rfl V.int (.inl rfl) (fun w23 h50 => ?_))
            refine RunL.nil ?_
            refine Run.slim [(19, u19), (17, u13), (12, u2)] ⟨rfl, rfl, rfl, trivial⟩ ?_
            refine Run.seq ?_
            refine Run.reg ?_
            refine RunL.op (OpS.loadB (fr := (Rep.iso (fun s : Requester_ => (s.Own, s.Next, s.Pending, ())) (Rep.prod (Rep.int .u8) (Rep.prod (Rep.int .i64) (Rep.prod (Rep.raw u23) Rep.unit))))) h50 .z PA.z (GetS.ok GetS.id) (Ty.like ty26 (by rfl) (by rfl)) rfl rfl rfl (fun u24 h51 => ?_))
            refine RunL.op (OpS.mv rfl rfl rfl ?_)
            refine RunL.op (OpS.storeC (f' := true) (fr := (Rep.iso (fun s : Requester_ => (s.Own, s.Next, s.Pending, ())) (Rep.prod (Rep.int .u8) (Rep.prod (Rep.int .i64) (Rep.prod (Rep.raw u23) Rep.unit))))) (r' := (Rep.iso (fun s : Requester_ => (s.Own, s.Next, s.Pending, ())) (Rep.prod (Rep.int .u8) (Rep.prod (Rep.int .i64) (Rep.prod (Rep.raw u23) Rep.unit))))) (x' := d1) h51 (.s (.s (.s (.s (.s .z))))) PA.z (Chg.id (by rfl)) (Ty.like ty26 (by rfl) (by rfl)) rfl rfl rfl (V.at .z) (.inl rfl) (fun w24 h52 => ?_))
            refine RunL.op (OpS.as rfl rfl rfl ?_)
            refine RunL.op (OpS.as rfl rfl rfl ?_)
            refine RunL.nil ?_
            refine Run.slim [(14, .int .i64 0), (13, u13), (12, u2)] ⟨rfl, rfl, rfl, trivial⟩ ?_
            obtain ⟨u25, hu5, h53⟩ := res_box h52 .z (Ty.like ty26 (by rfl) (by rfl))
            have h54 := (h53.pick (.s (.s .z))).freeze
            have h55 := h54.pick .z
            have h56 := St.boxJ (r' := Requester_.rep) (x' := { d1 with Pending := x6 }) h55 (fun _ _ hs_ => (Jn.iso _ (Jn.prod Jn.refl (Jn.prod Jn.refl (Jn.prod (Jn.raw ((V.at .z) _ _ hs_) rfl) Jn.refl)))))
            have h57 := h56.pick (.s .z)
            have h58 := St.boxJ (r' := Requester_.rep) (x' := { d1 with Pending := x6 }) h57 (fun _ _ hs_ => (Jn.iso _ (Jn.prod Jn.refl (Jn.prod Jn.refl (Jn.prod (Jn.raw ((V.at .z) _ _ hs_) rfl) Jn.refl)))))
            have h59 := St.addV (f := true) (r := Requester_.rep) (x := { d1 with Pending := x6 }) h58 (V.jn (r := (Rep.iso (fun s : Requester_ => (s.Own, s.Next, s.Pending, ())) (Rep.prod (Rep.int .u8) (Rep.prod (Rep.int .i64) (Rep.prod (Rep.raw u23) Rep.unit))))) (x := d1) (V.at (.s .z)) rfl (fun _ _ hs_ => (Jn.iso _ (Jn.prod Jn.refl (Jn.prod Jn.refl (Jn.prod (Jn.raw ((V.at .z) _ _ hs_) rfl) Jn.refl))))))
            refine Run.retP rfl (.cell rfl hu5 (.tmp rfl (.tmp rfl .nil))) ?_
            cases hF
            exact Post.mk' ⟨u25, u13, rfl, rfl, rfl, rfl⟩ (h59.picks .nil) (.val (V.at .z) (.val (V.at (.s (.s (.s (.s (.s (.s (.s (.s (.s .z)))))))))) .nil))
set_option maxHeartbeats 8000000 in
theorem ref24_Tick_ok {fuel : Nat} {a0 : Requester_} {a1 : Int} {y : Requester_ × (List (List Int)) × (List Message_)} (hF : ref24_Tick fuel a0 a1 = some y) {w : World} {v0 : Value} :
    Spec Try.prog 22 [v0, .int .i64 a1].toArray w [(false, .val Requester_.rep v0 a0)] [] (fun v Γr Ωr Ωo => ∃ u0 u1 u2 : Value, v = .tuple #[u0, u1, u2] ∧ Γr = [(true, .val Requester_.rep u0 y.1)] ∧ Ωr = [(true, .slice 22 (Rep.slice (Rep.int .u8)) u1 y.2.1), (true, .slice 51 Message_.rep u2 y.2.2)] ∧ Ωo = []) := by
  refine Spec.of (L := [(0, v0), (1, .int .i64 a1)]) Try.func22 rfl ⟨rfl, rfl, trivial⟩ rfl (fun e h => ?_)
  unfold ref24_Tick at hF
  refine Run.seq ?_
  refine Run.reg ?_
  refine RunL.op (OpS.boxF h rfl rfl rfl (V.at .z) (fun u1 w1 h1 => ?_))
  refine RunL.op (OpS.alloc h1 ti26 Requester_.zr rfl rfl (fun u2 w2 h2 => ?_))
  refine RunL.op (OpS.as rfl rfl rfl ?_)
  refine RunL.op (OpS.as rfl rfl rfl ?_)
  refine RunL.nil ?_
  refine Run.slim [(4, u2), (2, u1), (1, .int .i64 a1)] ⟨rfl, rfl, rfl, trivial⟩ ?_
  refine Run.seq ?_
  refine Run.seq ?_
  refine Run.reg ?_
  refine RunL.op (OpS.loadB h2 (.s .z) PA.z Get.id ty26 rfl rfl rfl (fun u3 h3 => ?_))
  obtain ⟨y1, e1, hF⟩ := bindP_use hF
  refine RunL.op (OpS.callP h3 Try.func20 rfl rfl rfl rfl (vs := [u3]) rfl (ref24_Valid_ok e1) (.cons (f := false) (V.at .z) .nil) ?_)
  rintro _ w3 _ _ _ ⟨rfl, rfl, rfl, rfl⟩ h4
  have h5 := h4 rfl rfl
  simp only [List.cons_append, List.nil_append] at h5
  refine RunL.op (OpS.not rfl rfl rfl ?_)
  refine RunL.op (OpS.mv rfl rfl rfl ?_)
  refine RunL.join (σ := Bool) (fun s_ L_ w_ => L_ = [(1, .int .i64 a1), (2, u1), (4, u2), (21, .bool s_)] ∧ St e w_ [] [(false, .box 26 Requester_.rep u1 a0), (true, .box 26 Requester_.rep u2 Requester_.z)]) hF (fun s1 _ w4 hI hF => ?_) (fun j1 hj1 hF => ?_)
  ·
    obtain ⟨rfl, h6⟩ := hI
    refine Run.ite rfl hF (fun e2 hF => ?_) (fun e2 hF => ?_)
    ·
      refine Run.seq ?_
      refine Run.reg ?_
      refine RunL.op (OpS.loadB h6 .z PA.z Get.id ty26 rfl rfl rfl (fun u4 h7 => ?_))
      obtain ⟨y2, e3, hF⟩ := bindP_use hF
      refine RunL.op (OpS.callP h7 Try.func40 rfl rfl rfl rfl (vs := [u4]) rfl (ref24_Copy_ok e3) (.cons (f := false) (V.at .z) .nil) ?_)
      rintro u5 w5 _ _ _ ⟨_, u6, rfl, rfl, rfl, rfl⟩ h8
      have h9 := h8 rfl rfl
      simp only [List.cons_append, List.nil_append] at h9
      refine RunL.op (OpS.storeC (f' := true) (fr := (Rep.iso (fun s : Requester_ => (s.Own, s.Next, s.Pending, ())) (Rep.prod (Rep.int .u8) (Rep.prod (Rep.int .i64) (Rep.prod (Rep.raw u6) Rep.unit))))) (r' := (Rep.iso (fun s : Requester_ => (s.Own, s.Next, s.Pending, ())) (Rep.prod (Rep.int .u8) (Rep.prod (Rep.int .i64) (Rep.prod (Rep.raw u6) Rep.unit))))) (x' := y2) h9 (.s (.s .z)) PA.z (Chg.id (by rfl)) (Ty.like ty26 (by rfl) (by rfl)) rfl rfl rfl (V.at .z) (.inl rfl) (fun w6 h10 => ?_))
      refine RunL.op (OpS.as rfl rfl rfl ?_)
      refine RunL.op (OpS.as rfl rfl rfl ?_)
      refine RunL.nil ?_
      refine Run.slim [(6, .slice none 0 0), (5, .slice none 0 0), (4, u2)] ⟨rfl, rfl, rfl, trivial⟩ ?_
      obtain ⟨u7, hu1, h11⟩ := res_box h10 .z (Ty.like ty26 (by rfl) (by rfl))
      have h12 := (h11.pick (.s .z)).freeze
      have h13 := h12.pick .z
      have h14 := St.boxJ (r' := Requester_.rep) (x' := { y2 with Pending := y2.Pending }) h13 (fun _ _ hs_ => (Jn.iso _ (Jn.prod Jn.refl (Jn.prod Jn.refl (Jn.prod (Jn.raw ((V.at .z) _ _ hs_) rfl) Jn.refl)))))
      have h15 := St.addV (f := true) (r := Requester_.rep) (x := { y2 with Pending := y2.Pending }) h14 (V.jn (r := (Rep.iso (fun s : Requester_ => (s.Own, s.Next, s.Pending, ())) (Rep.prod (Rep.int .u8) (Rep.prod (Rep.int .i64) (Rep.prod (Rep.raw u6) Rep.unit))))) (x := y2) (V.at (.s .z)) rfl (fun _ _ hs_ => (Jn.iso _ (Jn.prod Jn.refl (Jn.prod Jn.refl (Jn.prod (Jn.raw ((V.at .z) _ _ hs_) rfl) Jn.refl))))))
      have h16 := St.nil 22 (Rep.slice (Rep.int .u8)) h15
      have h17 := St.nil 51 Message_.rep h16
      refine Run.retP rfl (.cell rfl hu1 (.tmp rfl (.tmp rfl .nil))) ?_
      cases hF
      exact Post.mk' ⟨u7, (.slice none 0 0), (.slice none 0 0), rfl, rfl, rfl, rfl⟩ (h17.picks (.cons (.s .z) (.cons .z .nil))) (.val (V.at .z) .nil)
    ·
      refine Run.skip ?_
      refine Run.seq ?_
      refine Run.reg ?_
      refine RunL.op (OpS.fbox (o3 := 0) h6 .z PA.z fa26_0 rfl rfl rfl rfl ?_)
      refine RunL.op (OpS.loadBi h6 .z PA.a (Get.fld Requester_.f0) ty5 rfl rfl rfl ?_)
      refine RunL.op (OpS.fbox (o3 := 1) h6 .z PA.z fa26_1 rfl rfl rfl rfl ?_)
      refine RunL.op (OpS.loadBi h6 .z PA.a (Get.fld Requester_.f1) ty3 rfl rfl rfl ?_)
      have h18 := St.nil 55 Pending_.rep h6
      refine RunL.op (OpS.build (r := (Rep.iso (fun s : Requester_ => (s.Own, s.Next, s.Pending, ())) (Rep.prod (Rep.int .u8) (Rep.prod (Rep.int .i64) (Rep.prod (Rep.raw (.slice none 0 0)) Rep.unit))))) (f := true) (x' := (⟨a0.Own, a0.Next, []⟩ : Requester_)) h18 pl26 ti26 (Zr.iso (y := Requester_.z) _ (Zr.of (Zr.prod (Zr.int .u8 0) (Zr.prod (Zr.int .i64 0) (Zr.prod (Zr.raw rfl _) Zr.unit))) (by rfl))) rfl rfl rfl (.cons rfl (Fld.iso (g' := Requester_.Own) (st' := fun s y => { s with Own := y }) (fun s : Requester_ => (s.Own, s.Next, s.Pending, ())) Fld.here (fun _ => rfl) (fun _ _ => rfl)) rfl V.int (.cons rfl (Fld.iso (g' := Requester_.Next) (st' := fun s y => { s with Next := y }) (fun s : Requester_ => (s.Own, s.Next, s.Pending, ())) (Fld.there Fld.here) (fun _ => rfl) (fun _ _ => rfl)) rfl V.int .nil)) (fun u8 h19 => ?_))
      have h20 := St.nil 55 Pending_.rep h19
      refine RunL.op (OpS.alloc (r := (Rep.iso (fun s : Requester_ => (s.Own, s.Next, s.Pending, ())) (Rep.prod (Rep.int .u8) (Rep.prod (Rep.int .i64) (Rep.prod (Rep.raw (.slice none 0 0)) Rep.unit))))) h20 ti26 (Zr.iso (y := Requester_.z) _ (Zr.of (Zr.prod (Zr.int .u8 0) (Zr.prod (Zr.int .i64 0) (Zr.prod (Zr.raw rfl _) Zr.unit))) (by rfl))) rfl rfl (fun u9 w7 h21 => ?_))
      refine RunL.op (OpS.storeC (f' := true) (fr := (Rep.iso (fun s : Requester_ => (s.Own, s.Next, s.Pending, ())) (Rep.prod (Rep.int .u8) (Rep.prod (Rep.int .i64) (Rep.prod (Rep.raw (.slice none 0 0)) Rep.unit))))) (r' := (Rep.iso (fun s : Requester_ => (s.Own, s.Next, s.Pending, ())) (Rep.prod (Rep.int .u8) (Rep.prod (Rep.int .i64) (Rep.prod (Rep.raw (.slice none 0 0)) Rep.unit))))) (x' := (⟨a0.Own, a0.Next, []⟩ : Requester_)) h21 .z PA.z (Chg.id (by rfl)) (Ty.like ty26 (by rfl) (by rfl)) rfl rfl rfl (V.at .z) (.inl rfl) (fun w8 h22 => ?_))
      refine RunL.nil ?_
      refine Run.slim [(7, u9), (1, .int .i64 a1), (2, u1), (4, u2)] ⟨rfl, rfl, rfl, rfl, trivial⟩ ?_
      refine Run.seq ?_
      refine Run.reg ?_
      refine RunL.op (OpS.as rfl rfl rfl ?_)
      refine RunL.nil ?_
      refine Run.seq ?_
      refine Run.reg ?_
      refine RunL.op (OpS.as rfl rfl rfl ?_)
      refine RunL.nil ?_
      refine Run.seq ?_
      refine Run.seq ?_
      refine Run.reg ?_
      refine RunL.op (OpS.loadB h22 (.s (.s (.s .z))) PA.z Get.id ty26 rfl rfl rfl (fun u10 h23 => ?_))
      obtain ⟨y3, e4, hF⟩ := bindP_use hF
      refine RunL.op (OpS.callP h23 Try.func40 rfl rfl rfl rfl (vs := [u10]) rfl (ref24_Copy_ok e4) (.cons (f := false) (V.at .z) .nil) ?_)
      rintro u11 w9 _ _ _ ⟨_, u12, rfl, rfl, rfl, rfl⟩ h24
      have h25 := h24 rfl rfl
      simp only [List.cons_append, List.nil_append] at h25
      refine RunL.op (OpS.fieldR h25 fd26_2 (GetS.ok (GetS.iso _ (GetS.there (GetS.there (GetS.here GetS.id))))) rfl ty24 rfl rfl rfl rfl rfl (V.at .z) ?_)
      refine RunL.op (OpS.lenO h25 .z Try.underlying24 rfl rfl rfl ?_)
      refine RunL.op (OpS.mv rfl rfl rfl ?_)
      refine RunL.nil ?_
      refine Run.slim [(33, .int .i64 0), (32, .int .i64 (y3.Pending.length : Int)), (31, u12), (9, .slice none 0 0), (8, .slice none 0 0), (7, u9), (1, .int .i64 a1), (4, u2)] ⟨rfl, rfl, rfl, rfl, rfl, rfl, rfl, rfl, trivial⟩ ?_
      refine Run.block ?_
      have h26 := St.nil 22 (Rep.slice (Rep.int .u8)) h25
      have h27 := St.nil 51 Message_.rep h26
      have h28 := (h27.pick (.s (.s .z))).freeze
      refine Run.slim [(1, .int .i64 a1), (4, u2), (7, u9), (8, (.slice none 0 0)), (9, (.slice none 0 0)), (31, u12), (32, .int .i64 (y3.Pending.length : Int)), (33, .int .i64 0)] ⟨rfl, rfl, rfl, rfl, rfl, rfl, rfl, rfl, trivial⟩ ?_
      refine Run.loopP (σ := ((List Pending_) × Int × (List (List Int)) × (List Message_) × (List Pending_))) (fun s_ L_ w_ => ∃ u0_ u1_ u2_ u3_ : Value, L_ = [(1, .int .i64 a1), (4, u2), (7, u9), (8, u1_), (9, u2_), (31, u0_), (32, .int .i64 (y3.Pending.length : Int)), (33, .int .i64 s_.2.1)] ∧ St e w_ [(true, .val (Rep.slice Pending_.rep) u0_ s_.1)] [(true, .box 26 Requester_.rep u2 Requester_.z), (true, .box 26 (Rep.iso (fun s : Requester_ => (s.Own, s.Next, s.Pending, ())) (Rep.prod (Rep.int .u8) (Rep.prod (Rep.int .i64) (Rep.prod (Rep.raw u3_) Rep.unit)))) u9 (⟨a0.Own, a0.Next, []⟩ : Requester_)), (true, .slice 22 (Rep.slice (Rep.int .u8)) u1_ s_.2.2.1), (true, .slice 51 Message_.rep u2_ s_.2.2.2.1), (true, .slice 55 Pending_.rep u3_ s_.2.2.2.2)]) hF ⟨u12, (.slice none 0 0), (.slice none 0 0), (.slice none 0 0), rfl, (h28.facts (.val (V.at .z) .nil)).picks (.cons (.s (.s (.s (.s (.s (.s .z)))))) (.cons (.s (.s .z)) (.cons (.s .z) (.cons .z (.cons (.s .z) .nil)))))⟩ (fun k1 hk1 s2 _ w10 hI hF => ?_)
      obtain ⟨u13, u14, u15, u16, rfl, h29⟩ := hI
      refine Run.seq ?_
      refine Run.reg ?_
      refine RunL.op (OpS.bin rfl rfl rfl rfl rfl ?_)
      refine RunL.nil ?_
      refine Run.seq ?_
      refine Run.ite rfl hF (fun e5 hF => ?_) (fun e5 hF => ?_)
      ·
        refine Run.skip ?_
        refine Run.seq ?_
        refine Run.block ?_
        refine Run.seq ?_
        refine Run.reg ?_
        obtain ⟨x1, e6, hF⟩ := bindP_use hF
        refine RunL.op (OpS.iptr h29 Try.underlying24 ty55 rfl rfl rfl rfl (V.at .z) e6 (fun u17 h30 => ?_))
        refine RunL.op (OpS.load h30 ty55 rfl rfl rfl .z (fun u18 h31 => ?_))
        refine RunL.op (OpS.alloc h31 ti55 Pending_.zr rfl rfl (fun u19 w11 h32 => ?_))
        refine RunL.op (OpS.storeB (f' := true) h32 .z PA.z Put.id ty55 rfl rfl rfl (V.at .z) (.inl rfl) (fun w12 h33 => ?_))
        refine RunL.nil ?_
        refine Run.slim [(11, u19), (1, .int .i64 a1), (4, u2), (7, u9), (8, u14), (9, u15), (31, u13), (32, .int .i64 (y3.Pending.length : Int)), (33, .int .i64 s2.2.1)] ⟨rfl, rfl, rfl, rfl, rfl, rfl, rfl, rfl, rfl, trivial⟩ ?_
        refine Run.seq ?_
        refine Run.seq ?_
        refine Run.reg ?_
        refine RunL.op (OpS.fbox (o3 := 9) h33 .z PA.z fa55_1 rfl rfl rfl rfl ?_)
        refine RunL.op (OpS.loadBi h33 .z PA.a (Get.fld Pending_.f1) ty2 rfl rfl rfl ?_)
        refine RunL.op (OpS.mv rfl rfl rfl ?_)
        refine RunL.op (OpS.bin rfl rfl rfl rfl rfl ?_)
        refine RunL.nil ?_
        refine Run.slim [(40, .bool (decide (x1.Deadline > a1))), (11, u19), (1, .int .i64 a1), (4, u2), (7, u9), (8, u14), (9, u15), (31, u13), (32, .int .i64 (y3.Pending.length : Int)), (33, .int .i64 s2.2.1)] ⟨rfl, rfl, rfl, rfl, rfl, rfl, rfl, rfl, rfl, rfl, trivial⟩ ?_
        refine Run.ite rfl hF (fun e7 hF => ?_) (fun e7 hF => ?_)
        ·
          refine Run.seq ?_
          refine Run.reg ?_
          refine RunL.op (OpS.fbox (o3 := 2) h33 (.s (.s .z)) PA.z fa26_2 rfl rfl rfl rfl ?_)
          refine RunL.op (OpS.loadR h33 (.s (.s .z)) PA.a (GetS.ok (GetS.iso _ (GetS.there (GetS.there (GetS.here GetS.id))))) ty24 rfl rfl rfl rfl rfl ?_)
          refine RunL.op (OpS.loadB h33 .z PA.z Get.id ty55 rfl rfl rfl (fun u20 h34 => ?_))
          refine RunL.op (OpS.lit (r := Pending_.rep) (f := true) h34 Try.underlying24 ti55 rfl rfl rfl rfl rfl (.cons rfl (V.at .z) .nil) rfl rfl (fun u21 w13 h35 => ?_))
          obtain ⟨x2, e8, hF⟩ := bindP_use hF
          refine RunL.op (OpS.app (f' := true) h35 (.s (.s (.s (.s (.s .z))))) Try.underlying24 ti55 rfl rfl rfl rfl rfl rfl rfl (V.at .z) (.inl (.inl rfl)) e8 (fun u22 w14 h36 => ?_))
          refine RunL.op (OpS.fbox (o3 := 2) h36 (.s (.s (.s .z))) PA.z fa26_2 rfl rfl rfl rfl ?_)
          refine RunL.op (OpS.storeC (f' := true) (fr := (Rep.raw u22)) (r' := (Rep.iso (fun s : Requester_ => (s.Own, s.Next, s.Pending, ())) (Rep.prod (Rep.int .u8) (Rep.prod (Rep.int .i64) (Rep.prod (Rep.raw u22) Rep.unit))))) (x' := (⟨a0.Own, a0.Next, []⟩ : Requester_)) h36 (.s (.s (.s .z))) PA.a (Chg.iso _ (Chg.there (Chg.there (Chg.here (Chg.id (by rfl)))))) (Ty.like ty24 (by rfl) (by rfl)) rfl rfl rfl (V.raw (f := true) (St.own1 h36 .z) ((⟨a0.Own, a0.Next, []⟩ : Requester_).Pending)) (.inl rfl) (fun w15 h37 => ?_))
          refine RunL.nil ?_
          refine Run.slim [(1, .int .i64 a1), (4, u2), (7, u9), (8, u14), (9, u15), (31, u13), (32, .int .i64 (y3.Pending.length : Int)), (33, .int .i64 s2.2.1)] ⟨rfl, rfl, rfl, rfl, rfl, rfl, rfl, rfl, trivial⟩ ?_
          refine Run.exit rfl ?_
          refine Run.reg ?_
          refine RunL.op (OpS.bin rfl rfl rfl rfl rfl ?_)
          refine RunL.op (OpS.mv rfl rfl rfl ?_)
          refine RunL.nil ?_
          refine Run.slim [(33, .int .i64 (IntKind.i64.wrap (s2.2.1 + 1))), (1, .int .i64 a1), (4, u2), (7, u9), (8, u14), (9, u15), (31, u13), (32, .int .i64 (y3.Pending.length : Int))] ⟨rfl, rfl, rfl, rfl, rfl, rfl, rfl, rfl, trivial⟩ ?_
          refine Run.slim [(1, .int .i64 a1), (4, u2), (7, u9), (8, u14), (9, u15), (31, u13), (32, .int .i64 (y3.Pending.length : Int)), (33, .int .i64 (IntKind.i64.wrap (s2.2.1 + 1)))] ⟨rfl, rfl, rfl, rfl, rfl, rfl, rfl, rfl, trivial⟩ ?_
          exact hk1 (s2.1, (IntKind.i64.wrap (s2.2.1 + 1)), s2.2.2.1, s2.2.2.2.1, x2) _ _ ⟨u13, u14, u15, u22, rfl, (h37.facts (.val (V.at (.s (.s (.s (.s .z))))) .nil)).picks (.cons (.s (.s (.s .z))) (.cons .z (.cons (.s (.s .z)) (.cons (.s (.s .z)) (.cons .z .nil)))))⟩ hF
        ·
          refine Run.skip ?_
          refine Run.seq ?_
          refine Run.seq ?_
          refine Run.reg ?_
          refine RunL.op (OpS.fbox (o3 := 10) h33 .z PA.z fa55_2 rfl rfl rfl rfl ?_)
          refine RunL.op (OpS.loadBi h33 .z PA.a (Get.fld Pending_.f2) ty3 rfl rfl rfl ?_)
          refine RunL.op (OpS.bin rfl rfl rfl rfl rfl ?_)
          refine RunL.nil ?_
          refine Run.slim [(49, .bool (x1.Tries == 3)), (11, u19), (1, .int .i64 a1), (4, u2), (7, u9), (8, u14), (9, u15), (31, u13), (32, .int .i64 (y3.Pending.length : Int)), (33, .int .i64 s2.2.1)] ⟨rfl, rfl, rfl, rfl, rfl, rfl, rfl, rfl, rfl, rfl, trivial⟩ ?_
          refine Run.ite rfl hF (fun e9 hF => ?_) (fun e9 hF => ?_)
          ·
            refine Run.seq ?_
            refine Run.reg ?_
            refine RunL.op (OpS.mv rfl rfl rfl ?_)
            refine RunL.op (OpS.fbox (o3 := 0) h33 .z PA.z fa55_0 rfl rfl rfl rfl ?_)
            refine RunL.op (OpS.loadB h33 .z PA.a (Get.fld Pending_.f0) ty51 rfl rfl rfl (fun u23 h38 => ?_))
            refine RunL.op (OpS.lit (r := Message_.rep) (f := true) h38 Try.underlying34 ti51 rfl rfl rfl rfl rfl (.cons rfl (V.at .z) .nil) rfl rfl (fun u24 w16 h39 => ?_))
            obtain ⟨x3, e10, hF⟩ := bindP_use hF
            refine RunL.op (OpS.app (f' := true) h39 (.s (.s (.s (.s .z)))) Try.underlying34 ti51 rfl rfl rfl rfl rfl rfl rfl (V.at .z) (.inl (.inl rfl)) e10 (fun u25 w17 h40 => ?_))
            refine RunL.op (OpS.as rfl rfl rfl ?_)
            refine RunL.nil ?_
            refine Run.slim [(9, u25), (1, .int .i64 a1), (4, u2), (7, u9), (8, u14), (31, u13), (32, .int .i64 (y3.Pending.length : Int)), (33, .int .i64 s2.2.1)] ⟨rfl, rfl, rfl, rfl, rfl, rfl, rfl, rfl, trivial⟩ ?_
            refine Run.exit rfl ?_
            refine Run.reg ?_
            refine RunL.op (OpS.bin rfl rfl rfl rfl rfl ?_)
            refine RunL.op (OpS.mv rfl rfl rfl ?_)
            refine RunL.nil ?_
            refine Run.slim [(33, .int .i64 (IntKind.i64.wrap (s2.2.1 + 1))), (9, u25), (1, .int .i64 a1), (4, u2), (7, u9), (8, u14), (31, u13), (32, .int .i64 (y3.Pending.length : Int))] ⟨rfl, rfl, rfl, rfl, rfl, rfl, rfl, rfl, trivial⟩ ?_
            refine Run.slim [(1, .int .i64 a1), (4, u2), (7, u9), (8, u14), (9, u25), (31, u13), (32, .int .i64 (y3.Pending.length : Int)), (33, .int .i64 (IntKind.i64.wrap (s2.2.1 + 1)))] ⟨rfl, rfl, rfl, rfl, rfl, rfl, rfl, rfl, trivial⟩ ?_
            exact hk1 (s2.1, (IntKind.i64.wrap (s2.2.1 + 1)), s2.2.2.1, x3, s2.2.2.2.2) _ _ ⟨u13, u14, u25, u16, rfl, (h40.facts (.val (V.at (.s (.s (.s (.s .z))))) .nil)).picks (.cons (.s (.s .z)) (.cons (.s (.s .z)) (.cons (.s (.s .z)) (.cons .z (.cons (.s .z) .nil)))))⟩ hF
          ·
            refine Run.skip ?_
            refine Run.seq ?_
            refine Run.reg ?_
            refine RunL.op (OpS.fbox (o3 := 0) h33 .z PA.z fa55_0 rfl rfl rfl rfl ?_)
            refine RunL.op (OpS.loadB h33 .z PA.a (Get.fld Pending_.f0) ty51 rfl rfl rfl (fun u26 h41 => ?_))
            obtain ⟨y4, e11, hF⟩ := bindP_use hF
            refine RunL.op (OpS.callP h41 Try.func41 rfl rfl rfl rfl (vs := [u26]) rfl (ref23_Request_ok e11) (.cons (f := true) (V.at .z) .nil) ?_)
            rintro _ w18 _ _ _ ⟨u27, rfl, rfl, rfl, rfl⟩ h42
            have h43 := h42 rfl rfl
            simp only [List.cons_append, List.nil_append] at h43
            refine RunL.op (OpS.mv rfl rfl rfl ?_)
            refine RunL.op (OpS.ext rfl rfl rfl rfl ?_)
            refine RunL.op (OpS.ext rfl rfl rfl rfl ?_)
            refine RunL.op (OpS.as rfl rfl rfl ?_)
            have h44 := (h43.pick .z).freeze
            refine RunL.op (OpS.as rfl rfl rfl ?_)
            refine RunL.nil ?_
            refine Run.slim [(12, u27), (11, u19), (1, .int .i64 a1), (4, u2), (7, u9), (8, u14), (9, u15), (31, u13), (32, .int .i64 (y3.Pending.length : Int)), (33, .int .i64 s2.2.1)] ⟨rfl, rfl, rfl, rfl, rfl, rfl, rfl, rfl, rfl, rfl, trivial⟩ ?_
            refine Run.seq ?_
            refine Run.reg ?_
            refine RunL.op (OpS.mv rfl rfl rfl ?_)
            refine RunL.op (OpS.mv rfl rfl rfl ?_)
            refine RunL.op (OpS.lit (r := (Rep.slice (Rep.int .u8))) (f := true) h44 Try.underlying33 ti22 rfl rfl rfl rfl rfl (.cons rfl (V.at .z) .nil) rfl rfl (fun u28 w19 h45 => ?_))
            obtain ⟨x4, e12, hF⟩ := bindP_use hF
            refine RunL.op (OpS.app (f' := true) h45 (.s (.s (.s .z))) Try.underlying33 ti22 rfl rfl rfl rfl rfl rfl rfl (V.at .z) (.inl (.inl rfl)) e12 (fun u29 w20 h46 => ?_))
            refine RunL.op (OpS.as rfl rfl rfl ?_)
            refine RunL.nil ?_
            refine Run.slim [(8, u29), (11, u19), (1, .int .i64 a1), (4, u2), (7, u9), (9, u15), (31, u13), (32, .int .i64 (y3.Pending.length : Int)), (33, .int .i64 s2.2.1)] ⟨rfl, rfl, rfl, rfl, rfl, rfl, rfl, rfl, rfl, trivial⟩ ?_
            refine Run.seq ?_
            refine Run.reg ?_
            refine RunL.op (OpS.mv rfl rfl rfl ?_)
            refine RunL.op (OpS.fbox (o3 := 10) h46 (.s .z) PA.z fa55_2 rfl rfl rfl rfl ?_)
            refine RunL.op (OpS.loadBi h46 (.s .z) PA.a (Get.fld Pending_.f2) ty3 rfl rfl rfl ?_)
            refine RunL.op (OpS.conv Try.underlying3 Try.underlying73 rfl rfl rfl ?_)
            obtain ⟨e13, hF⟩ := chk_use hF
            refine RunL.op (OpS.shl rfl rfl rfl rfl e13 ?_)
            refine RunL.op (OpS.bin rfl rfl rfl rfl rfl ?_)
            refine RunL.op (OpS.fbox (o3 := 9) h46 (.s .z) PA.z fa55_1 rfl rfl rfl rfl ?_)
            obtain ⟨d1, e14, hF⟩ := letP_use hF
            refine RunL.op (OpS.storeB (f' := true) h46 (.s .z) PA.a (Put.of (Put.fld Pending_.f1) e14) ty2 rfl rfl rfl V.int (.inl rfl) (fun w21 h47 => ?_))
            refine RunL.nil ?_
            refine Run.slim [(8, u29), (11, u19), (1, .int .i64 a1), (4, u2), (7, u9), (9, u15), (31, u13), (32, .int .i64 (y3.Pending.length : Int)), (33, .int .i64 s2.2.1)] ⟨rfl, rfl, rfl, rfl, rfl, rfl, rfl, rfl, rfl, trivial⟩ ?_
            refine Run.seq ?_
            refine Run.reg ?_
            refine RunL.op (OpS.fbox (o3 := 10) h47 .z PA.z fa55_2 rfl rfl rfl rfl ?_)
            refine RunL.op (OpS.loadBi h47 .z PA.a (Get.fld Pending_.f2) ty3 rfl rfl rfl ?_)
            refine RunL.op (OpS.bin rfl rfl rfl rfl rfl ?_)
            refine RunL.op (OpS.fbox (o3 := 10) h47 .z PA.z fa55_2 rfl rfl rfl rfl ?_)
            obtain ⟨d2, e15, hF⟩ := letP_use hF
            refine RunL.op (OpS.storeB (f' := true) h47 .z PA.a (Put.of (Put.fld Pending_.f2) e15) ty3 rfl rfl rfl V.int (.inl rfl) (fun w22 h48 => ?_))
            refine RunL.nil ?_
            refine Run.slim [(8, u29), (11, u19), (1, .int .i64 a1), (4, u2), (7, u9), (9, u15), (31, u13), (32, .int .i64 (y3.Pending.length : Int)), (33, .int .i64 s2.2.1)] ⟨rfl, rfl, rfl, rfl, rfl, rfl, rfl, rfl, rfl, trivial⟩ ?_
            refine Run.reg ?_
            refine RunL.op (OpS.fbox (o3 := 2) h48 (.s (.s (.s .z))) PA.z fa26_2 rfl rfl rfl rfl ?_)
            refine RunL.op (OpS.loadR h48 (.s (.s (.s .z))) PA.a (GetS.ok (GetS.iso _ (GetS.there (GetS.there (GetS.here GetS.id))))) ty24 rfl rfl rfl rfl rfl ?_)
            refine RunL.op (OpS.loadB h48 .z PA.z Get.id ty55 rfl rfl rfl (fun u30 h49 => ?_))
            refine RunL.op (OpS.lit (r := Pending_.rep) (f := true) h49 Try.underlying24 ti55 rfl rfl rfl rfl rfl (.cons rfl (V.at .z) .nil) rfl rfl (fun u31 w23 h50 => ?_))
            obtain ⟨x5, e16, hF⟩ := bindP_use hF
            refine RunL.op (OpS.app (f' := true) h50 (.s (.s (.s (.s (.s .z))))) Try.underlying24 ti55 rfl rfl rfl rfl rfl rfl rfl (V.at .z) (.inl (.inl rfl)) e16 (fun u32 w24 h51 => ?_))
            refine RunL.op (OpS.fbox (o3 := 2) h51 (.s (.s (.s (.s .z)))) PA.z fa26_2 rfl rfl rfl rfl ?_)
            refine RunL.op (OpS.storeC (f' := true) (fr := (Rep.raw u32)) (r' := (Rep.iso (fun s : Requester_ => (s.Own, s.Next, s.Pending, ())) (Rep.prod (Rep.int .u8) (Rep.prod (Rep.int .i64) (Rep.prod (Rep.raw u32) Rep.unit))))) (x' := (⟨a0.Own, a0.Next, []⟩ : Requester_)) h51 (.s (.s (.s (.s .z)))) PA.a (Chg.iso _ (Chg.there (Chg.there (Chg.here (Chg.id (by rfl)))))) (Ty.like ty24 (by rfl) (by rfl)) rfl rfl rfl (V.raw (f := true) (St.own1 h51 .z) ((⟨a0.Own, a0.Next, []⟩ : Requester_).Pending)) (.inl rfl) (fun w25 h52 => ?_))
            refine RunL.nil ?_
            refine Run.slim [(8, u29), (1, .int .i64 a1), (4, u2), (7, u9), (9, u15), (31, u13), (32, .int .i64 (y3.Pending.length : Int)), (33, .int .i64 s2.2.1)] ⟨rfl, rfl, rfl, rfl, rfl, rfl, rfl, rfl, trivial⟩ ?_
            refine Run.endBlock ?_
            refine Run.reg ?_
            refine RunL.op (OpS.bin rfl rfl rfl rfl rfl ?_)
            refine RunL.op (OpS.mv rfl rfl rfl ?_)
            refine RunL.nil ?_
            refine Run.slim [(33, .int .i64 (IntKind.i64.wrap (s2.2.1 + 1))), (8, u29), (1, .int .i64 a1), (4, u2), (7, u9), (9, u15), (31, u13), (32, .int .i64 (y3.Pending.length : Int))] ⟨rfl, rfl, rfl, rfl, rfl, rfl, rfl, rfl, trivial⟩ ?_
            refine Run.slim [(1, .int .i64 a1), (4, u2), (7, u9), (8, u29), (9, u15), (31, u13), (32, .int .i64 (y3.Pending.length : Int)), (33, .int .i64 (IntKind.i64.wrap (s2.2.1 + 1)))] ⟨rfl, rfl, rfl, rfl, rfl, rfl, rfl, rfl, trivial⟩ ?_
            exact hk1 (s2.1, (IntKind.i64.wrap (s2.2.1 + 1)), x4, s2.2.2.2.1, x5) _ _ ⟨u13, u29, u15, u32, rfl, (h52.facts (.val (V.at (.s (.s (.s (.s (.s (.s (.s .z)))))))) .nil)).picks (.cons (.s (.s (.s (.s .z)))) (.cons .z (.cons (.s (.s .z)) (.cons (.s (.s .z)) (.cons .z .nil)))))⟩ hF
      ·
        refine Run.exit rfl ?_
        refine Run.seq ?_
        refine Run.reg ?_
        refine RunL.op (OpS.loadB (fr := (Rep.iso (fun s : Requester_ => (s.Own, s.Next, s.Pending, ())) (Rep.prod (Rep.int .u8) (Rep.prod (Rep.int .i64) (Rep.prod (Rep.raw u16) Rep.unit))))) h29 (.s .z) PA.z (GetS.ok GetS.id) (Ty.like ty26 (by rfl) (by rfl)) rfl rfl rfl (fun u33 h53 => ?_))
        refine RunL.op (OpS.mv rfl rfl rfl ?_)
        refine RunL.op (OpS.mv rfl rfl rfl ?_)
        refine RunL.op (OpS.storeC (f' := true) (fr := (Rep.iso (fun s : Requester_ => (s.Own, s.Next, s.Pending, ())) (Rep.prod (Rep.int .u8) (Rep.prod (Rep.int .i64) (Rep.prod (Rep.raw u16) Rep.unit))))) (r' := (Rep.iso (fun s : Requester_ => (s.Own, s.Next, s.Pending, ())) (Rep.prod (Rep.int .u8) (Rep.prod (Rep.int .i64) (Rep.prod (Rep.raw u16) Rep.unit))))) (x' := (⟨a0.Own, a0.Next, []⟩ : Requester_)) h53 .z PA.z (Chg.id (by rfl)) (Ty.like ty26 (by rfl) (by rfl)) rfl rfl rfl (V.at .z) (.inl rfl) (fun w26 h54 => ?_))
        refine RunL.op (OpS.as rfl rfl rfl ?_)
        refine RunL.op (OpS.as rfl rfl rfl ?_)
        refine RunL.nil ?_
        refine Run.slim [(6, u15), (5, u14), (4, u2)] ⟨rfl, rfl, rfl, trivial⟩ ?_
        obtain ⟨u34, hu2, h55⟩ := res_box h54 .z (Ty.like ty26 (by rfl) (by rfl))
        have h56 := (h55.pick (.s (.s (.s (.s .z))))).freeze
        have h57 := h56.pick .z
        have h58 := St.boxJ (r' := Requester_.rep) (x' := { (⟨a0.Own, a0.Next, []⟩ : Requester_) with Pending := s2.2.2.2.2 }) h57 (fun _ _ hs_ => (Jn.iso _ (Jn.prod Jn.refl (Jn.prod Jn.refl (Jn.prod (Jn.raw ((V.at .z) _ _ hs_) rfl) Jn.refl)))))
        have h59 := h58.pick (.s .z)
        have h60 := St.boxJ (r' := Requester_.rep) (x' := { (⟨a0.Own, a0.Next, []⟩ : Requester_) with Pending := s2.2.2.2.2 }) h59 (fun _ _ hs_ => (Jn.iso _ (Jn.prod Jn.refl (Jn.prod Jn.refl (Jn.prod (Jn.raw ((V.at .z) _ _ hs_) rfl) Jn.refl)))))
        have h61 := St.addV (f := true) (r := Requester_.rep) (x := { (⟨a0.Own, a0.Next, []⟩ : Requester_) with Pending := s2.2.2.2.2 }) h60 (V.jn (r := (Rep.iso (fun s : Requester_ => (s.Own, s.Next, s.Pending, ())) (Rep.prod (Rep.int .u8) (Rep.prod (Rep.int .i64) (Rep.prod (Rep.raw u16) Rep.unit))))) (x := (⟨a0.Own, a0.Next, []⟩ : Requester_)) (V.at (.s .z)) rfl (fun _ _ hs_ => (Jn.iso _ (Jn.prod Jn.refl (Jn.prod Jn.refl (Jn.prod (Jn.raw ((V.at .z) _ _ hs_) rfl) Jn.refl))))))
        refine Run.retP rfl (.cell rfl hu2 (.tmp rfl (.tmp rfl .nil))) ?_
        cases hF
        exact Post.mk' ⟨u34, u14, u15, rfl, rfl, rfl, rfl⟩ (h61.picks (.cons (.s (.s .z)) (.cons (.s (.s .z)) .nil))) (.val (V.at .z) .nil)
  ·
    refine RunL.caseb hF (fun e17 hF => ?_) (fun e17 hF => ?_)
    ·
      refine RunL.op (OpS.pass rfl rfl rfl ?_)
      refine RunL.op (OpS.pass rfl rfl rfl ?_)
      refine RunL.op (OpS.pass rfl rfl rfl ?_)
      refine RunL.op (OpS.pick rfl rfl rfl rfl ?_)
      refine RunL.nil ?_
      refine Run.slim [(21, .bool true), (4, u2), (2, u1), (1, .int .i64 a1)] ⟨rfl, rfl, rfl, rfl, trivial⟩ ?_
      refine Run.slim [(1, .int .i64 a1), (2, u1), (4, u2), (21, .bool true)] ⟨rfl, rfl, rfl, rfl, trivial⟩ ?_
      exact hj1 (true) _ _ ⟨rfl, (h5.facts .nil).picks (.cons (.s .z) (.cons .z .nil))⟩ hF
    ·
      refine RunL.op (OpS.mv rfl rfl rfl ?_)
      obtain ⟨y5, e18, hF⟩ := bindP_use hF
      refine RunL.op (OpS.callP h5 Try.func42 rfl rfl rfl rfl (vs := [.int .i64 a1]) rfl (ref24_Time_ok e18) .nil ?_)
      rintro _ w27 _ _ _ ⟨rfl, rfl, rfl, rfl⟩ h62
      have h63 := h62 rfl rfl
      simp only [List.cons_append, List.nil_append] at h63
      refine RunL.op (OpS.not rfl rfl rfl ?_)
      refine RunL.op (OpS.pick rfl rfl rfl rfl ?_)
      refine RunL.nil ?_
      refine Run.slim [(21, .bool (!y5)), (4, u2), (2, u1), (1, .int .i64 a1)] ⟨rfl, rfl, rfl, rfl, trivial⟩ ?_
      refine Run.slim [(1, .int .i64 a1), (2, u1), (4, u2), (21, .bool (!y5))] ⟨rfl, rfl, rfl, rfl, trivial⟩ ?_
      exact hj1 (!y5) _ _ ⟨rfl, (h63.facts .nil).picks (.cons (.s .z) (.cons .z .nil))⟩ hF
theorem ref23_Reply_ok {fuel : Nat} {a0 : Message_} {a1 : Int} {a2 : List Int} {y : Message_ × Int} (hF : ref23_Reply fuel a0 a1 a2 = some y) {w : World} {v0 v2 : Value} :
    Spec Try.prog 25 [v0, .int .u8 a1, v2].toArray w [(false, .val Message_.rep v0 a0), (false, .val (Rep.slice (Rep.int .u8)) v2 a2)] [] (fun v Γr Ωr Ωo => ∃ u0 : Value, v = .tuple #[u0, .int .i64 y.2] ∧ Γr = [(true, .val Message_.rep u0 y.1)] ∧ Ωr = [] ∧ Ωo = []) := by
  refine Spec.of (L := [(0, v0), (1, .int .u8 a1), (2, v2)]) Try.func25 rfl ⟨rfl, rfl, rfl, trivial⟩ rfl (fun e h => ?_)
  unfold ref23_Reply at hF
  refine Run.seq ?_
  refine Run.reg ?_
  refine RunL.op (OpS.boxF h rfl rfl rfl (V.at .z) (fun u1 w1 h1 => ?_))
  refine RunL.op (OpS.alloc h1 ti51 Message_.zr rfl rfl (fun u2 w2 h2 => ?_))
  refine RunL.op (OpS.as rfl rfl rfl ?_)
  refine RunL.nil ?_
  refine Run.slim [(6, u2), (3, u1), (1, .int .u8 a1), (2, v2)] ⟨rfl, rfl, rfl, rfl, trivial⟩ ?_
  refine Run.seq ?_
  refine Run.seq ?_
  refine Run.reg ?_
  refine RunL.op (OpS.loadB h2 (.s .z) PA.z Get.id ty51 rfl rfl rfl (fun u3 h3 => ?_))
  obtain ⟨y1, e1, hF⟩ := bindP_use hF
  refine RunL.op (OpS.callP h3 Try.func44 rfl rfl rfl rfl (vs := [u3]) rfl (ref23_Valid_ok e1) (.cons (f := false) (V.at .z) .nil) ?_)
  rintro _ w3 _ _ _ ⟨rfl, rfl, rfl, rfl⟩ h4
  have h5 := h4 rfl rfl
  simp only [List.cons_append, List.nil_append] at h5
  refine RunL.op (OpS.not rfl rfl rfl ?_)
  refine RunL.op (OpS.mv rfl rfl rfl ?_)
  refine RunL.join (σ := Bool) (fun s_ L_ w_ => L_ = [(1, .int .u8 a1), (2, v2), (3, u1), (6, u2), (21, .bool s_)] ∧ St e w_ [(false, .val (Rep.slice (Rep.int .u8)) v2 a2)] [(false, .box 51 Message_.rep u1 a0), (true, .box 51 Message_.rep u2 Message_.z)]) hF (fun s1 _ w4 hI hF => ?_) (fun j1 hj1 hF => ?_)
  ·
    obtain ⟨rfl, h6⟩ := hI
    refine Run.ite rfl hF (fun e2 hF => ?_) (fun e2 hF => ?_)
    ·
      refine Run.seq ?_
      refine Run.reg ?_
      refine RunL.op (OpS.build (f := true) (x' := Message_.z) h6 pl51 ti51 Message_.zr rfl rfl rfl .nil (fun u4 h7 => ?_))
      refine RunL.op (OpS.storeB (f' := true) h7 (.s .z) PA.z Put.id ty51 rfl rfl rfl (V.at .z) (.inl rfl) (fun w5 h8 => ?_))
      refine RunL.op (OpS.as rfl rfl rfl ?_)
      refine RunL.nil ?_
      refine Run.slim [(7, .int .i64 1), (6, u2)] ⟨rfl, rfl, trivial⟩ ?_
      obtain ⟨u5, hu1, h9⟩ := res_box h8 .z ty51
      refine Run.retP rfl (.cell rfl hu1 (.tmp rfl .nil)) ?_
      cases hF
      exact Post.mk' ⟨u5, rfl, rfl, rfl, rfl⟩ (h9.picks .nil) (.val (V.at .z) .nil)
    ·
      refine Run.skip ?_
      refine Run.seq ?_
      obtain ⟨y2, e3, hF⟩ := bindP_use hF
      refine Run.drawV (Ωs := [(true, .box 51 Message_.rep u2 Message_.z)]) [⟨some 23, some ((padd u1 1)), fun _ => [], fun ds_ u_ => [], [], [(0, [])], none⟩, ⟨some 24, some (.int .u8 a0.From), fun _ => [], fun ds_ u_ => [], [], [(0, [])], none⟩, ⟨some 25, some ((padd u1 0)), fun _ => [], fun ds_ u_ => [], [], [(0, [])], none⟩, ⟨some 26, some (.int .u8 a0.To), fun _ => [], fun ds_ u_ => [], [], [(0, [])], none⟩, ⟨some 27, some ((padd u1 2)), fun _ => [], fun ds_ u_ => [], [], [(0, [])], none⟩, ⟨some 28, some (.int .u8 a0.Function), fun _ => [], fun ds_ u_ => [], [], [(0, [])], none⟩, ⟨some 29, some (.int .u8 (IntKind.u8.wrap (a0.Function + 1))), fun _ => [], fun ds_ u_ => [], [], [], none⟩, ⟨some 30, some ((padd u1 3)), fun _ => [], fun ds_ u_ => [], [], [(0, [])], none⟩, ⟨some 31, some (.int .u8 a0.Command), fun _ => [], fun ds_ u_ => [], [], [(0, [])], none⟩, ⟨some 32, some ((padd u1 5)), fun _ => [], fun ds_ u_ => [], [], [(0, [])], none⟩, ⟨some 33, some (.int .i64 a0.FromUnit), fun _ => [], fun ds_ u_ => [], [], [(0, [])], none⟩, ⟨some 34, some ((padd u1 4)), fun _ => [], fun ds_ u_ => [], [], [(0, [])], none⟩, ⟨some 35, some (.int .i64 a0.ToUnit), fun _ => [], fun ds_ u_ => [], [], [(0, [])], none⟩, ⟨some 36, some ((padd u1 6)), fun _ => [], fun ds_ u_ => [], [], [(0, [])], none⟩, ⟨some 37, some (.int .i64 a0.Sequence), fun _ => [], fun ds_ u_ => [], [], [(0, [])], none⟩, ⟨some 38, some (.int .u8 a1), fun _ => [], fun ds_ u_ => [], [], [], none⟩, ⟨some 39, some (v2), fun _ => [], fun ds_ u_ => [], [], [], none⟩, ⟨some 40, none, fun u_ => [(true, .val (Rep.slice (Rep.int .u8)) u_ y2)], fun ds_ u_ => [], [], [], none⟩, ⟨some 41, none, fun u_ => [(true, .val Message_.rep u_ (⟨a0.From, a0.To, (IntKind.u8.wrap (a0.Function + 1)), a0.Command, a0.FromUnit, a0.ToUnit, a0.Sequence, a1, y2⟩ : Message_))], fun ds_ u_ => [], [], [], none⟩] [[], [0], [], [2], [], [4], [5], [], [7], [], [9], [], [11], [], [13], [], [], [16], [1, 3, 6, 8, 10, 12, 14, 15, 17]] [[(false, .box 51 Message_.rep u1 a0)]] [0, 1, 2, 3, 4, 5, 6, 7, 8, 9, 10, 11, 12, 13, 14, 15, 16, 17, 18, 19] Try_mixed rfl rfl rfl h6 (.cons ?_ (.cons ?_ (.cons ?_ (.cons ?_ (.cons ?_ (.cons ?_ (.cons ?_ (.cons ?_ (.cons ?_ (.cons ?_ (.cons ?_ (.cons ?_ (.cons ?_ (.cons ?_ (.cons ?_ (.cons ?_ (.cons ?_ (.cons ?_ (.cons ?_ .nil))))))))))))))))))) (fun q1 w hq1 h => ?_)
      · intro q1 w Γx Ωx h
        have h : St e w ([(false, .val (Rep.slice (Rep.int .u8)) v2 a2)] ++ Γx) ([(false, .box 51 Message_.rep u1 a0), (true, .box 51 Message_.rep u2 Message_.z)] ++ Ωx) := h
        refine OpS.fbox (o3 := 1) h .z PA.z fa51_1 rfl rfl rfl rfl ?_
        exact ⟨undef, rfl, trivial, h⟩
      · intro q1 w Γx Ωx h
        have h : St e w ([(false, .val (Rep.slice (Rep.int .u8)) v2 a2)] ++ Γx) ([(false, .box 51 Message_.rep u1 a0), (true, .box 51 Message_.rep u2 Message_.z)] ++ Ωx) := h
        refine OpS.loadBi h .z PA.a (Get.fld Message_.f1) ty5 rfl rfl rfl ?_
        exact ⟨undef, rfl, trivial, h⟩
      · intro q1 w Γx Ωx h
        have h : St e w ([(false, .val (Rep.slice (Rep.int .u8)) v2 a2)] ++ Γx) ([(false, .box 51 Message_.rep u1 a0), (true, .box 51 Message_.rep u2 Message_.z)] ++ Ωx) := h
        refine OpS.fbox (o3 := 0) h .z PA.z fa51_0 rfl rfl rfl rfl ?_
        exact ⟨undef, rfl, trivial, h⟩
      · intro q1 w Γx Ωx h
        have h : St e w ([(false, .val (Rep.slice (Rep.int .u8)) v2 a2)] ++ Γx) ([(false, .box 51 Message_.rep u1 a0), (true, .box 51 Message_.rep u2 Message_.z)] ++ Ωx) := h
        refine OpS.loadBi h .z PA.a (Get.fld Message_.f0) ty5 rfl rfl rfl ?_
        exact ⟨undef, rfl, trivial, h⟩
      · intro q1 w Γx Ωx h
        have h : St e w ([(false, .val (Rep.slice (Rep.int .u8)) v2 a2)] ++ Γx) ([(false, .box 51 Message_.rep u1 a0), (true, .box 51 Message_.rep u2 Message_.z)] ++ Ωx) := h
        refine OpS.fbox (o3 := 2) h .z PA.z fa51_2 rfl rfl rfl rfl ?_
        exact ⟨undef, rfl, trivial, h⟩
      · intro q1 w Γx Ωx h
        have h : St e w ([(false, .val (Rep.slice (Rep.int .u8)) v2 a2)] ++ Γx) ([(false, .box 51 Message_.rep u1 a0), (true, .box 51 Message_.rep u2 Message_.z)] ++ Ωx) := h
        refine OpS.loadBi h .z PA.a (Get.fld Message_.f2) ty5 rfl rfl rfl ?_
        exact ⟨undef, rfl, trivial, h⟩
      · intro q1 w Γx Ωx h
        refine OpS.bin rfl rfl rfl rfl rfl ?_
        exact ⟨undef, rfl, trivial, h⟩
      · intro q1 w Γx Ωx h
        have h : St e w ([(false, .val (Rep.slice (Rep.int .u8)) v2 a2)] ++ Γx) ([(false, .box 51 Message_.rep u1 a0), (true, .box 51 Message_.rep u2 Message_.z)] ++ Ωx) := h
        refine OpS.fbox (o3 := 3) h .z PA.z fa51_3 rfl rfl rfl rfl ?_
        exact ⟨undef, rfl, trivial, h⟩
      · intro q1 w Γx Ωx h
        have h : St e w ([(false, .val (Rep.slice (Rep.int .u8)) v2 a2)] ++ Γx) ([(false, .box 51 Message_.rep u1 a0), (true, .box 51 Message_.rep u2 Message_.z)] ++ Ωx) := h
        refine OpS.loadBi h .z PA.a (Get.fld Message_.f3) ty5 rfl rfl rfl ?_
        exact ⟨undef, rfl, trivial, h⟩
      · intro q1 w Γx Ωx h
        have h : St e w ([(false, .val (Rep.slice (Rep.int .u8)) v2 a2)] ++ Γx) ([(false, .box 51 Message_.rep u1 a0), (true, .box 51 Message_.rep u2 Message_.z)] ++ Ωx) := h
        refine OpS.fbox (o3 := 5) h .z PA.z fa51_5 rfl rfl rfl rfl ?_
        exact ⟨undef, rfl, trivial, h⟩
      · intro q1 w Γx Ωx h
        have h : St e w ([(false, .val (Rep.slice (Rep.int .u8)) v2 a2)] ++ Γx) ([(false, .box 51 Message_.rep u1 a0), (true, .box 51 Message_.rep u2 Message_.z)] ++ Ωx) := h
        refine OpS.loadBi h .z PA.a (Get.fld Message_.f5) ty3 rfl rfl rfl ?_
        exact ⟨undef, rfl, trivial, h⟩
      · intro q1 w Γx Ωx h
        have h : St e w ([(false, .val (Rep.slice (Rep.int .u8)) v2 a2)] ++ Γx) ([(false, .box 51 Message_.rep u1 a0), (true, .box 51 Message_.rep u2 Message_.z)] ++ Ωx) := h
        refine OpS.fbox (o3 := 4) h .z PA.z fa51_4 rfl rfl rfl rfl ?_
        exact ⟨undef, rfl, trivial, h⟩
      · intro q1 w Γx Ωx h
        have h : St e w ([(false, .val (Rep.slice (Rep.int .u8)) v2 a2)] ++ Γx) ([(false, .box 51 Message_.rep u1 a0), (true, .box 51 Message_.rep u2 Message_.z)] ++ Ωx) := h
        refine OpS.loadBi h .z PA.a (Get.fld Message_.f4) ty3 rfl rfl rfl ?_
        exact ⟨undef, rfl, trivial, h⟩
      · intro q1 w Γx Ωx h
        have h : St e w ([(false, .val (Rep.slice (Rep.int .u8)) v2 a2)] ++ Γx) ([(false, .box 51 Message_.rep u1 a0), (true, .box 51 Message_.rep u2 Message_.z)] ++ Ωx) := h
        refine OpS.fbox (o3 := 6) h .z PA.z fa51_6 rfl rfl rfl rfl ?_
        exact ⟨undef, rfl, trivial, h⟩
      · intro q1 w Γx Ωx h
        have h : St e w ([(false, .val (Rep.slice (Rep.int .u8)) v2 a2)] ++ Γx) ([(false, .box 51 Message_.rep u1 a0), (true, .box 51 Message_.rep u2 Message_.z)] ++ Ωx) := h
        refine OpS.loadBi h .z PA.a (Get.fld Message_.f6) ty3 rfl rfl rfl ?_
        exact ⟨undef, rfl, trivial, h⟩
      · intro q1 w Γx Ωx h
        refine OpS.mv rfl rfl rfl ?_
        exact ⟨undef, rfl, trivial, h⟩
      · intro q1 w Γx Ωx h
        refine OpS.mv rfl rfl rfl ?_
        exact ⟨undef, rfl, trivial, h⟩
      · intro q1 w Γx Ωx h
        refine OpS.callP h Try.func45 rfl rfl rfl rfl (vs := [v2]) rfl (ref01_Copy_ok e3) (.cons (f := false) (V.at .z) .nil) ?_
        rintro u w7 _ _ _ ⟨_, rfl, rfl, rfl, rfl⟩ h14
        have h15 := h14 rfl rfl
        simp only [List.cons_append, List.nil_append] at h15
        have h16 := h15.freeze
        exact ⟨u, rfl, trivial, h16⟩
      · intro q1 w Γx Ωx h
        refine OpS.build (f := true) (x' := (⟨a0.From, a0.To, (IntKind.u8.wrap (a0.Function + 1)), a0.Command, a0.FromUnit, a0.ToUnit, a0.Sequence, a1, y2⟩ : Message_)) h pl51 ti51 Message_.zr rfl rfl rfl (.cons rfl Message_.f0 rfl V.int (.cons rfl Message_.f1 rfl V.int (.cons rfl Message_.f2 rfl V.int (.cons rfl Message_.f3 rfl V.int (.cons rfl Message_.f4 rfl V.int (.cons rfl Message_.f5 rfl V.int (.cons rfl Message_.f6 rfl V.int (.cons rfl Message_.f7 rfl V.int (.cons rfl Message_.f8 rfl (V.at .z) .nil))))))))) (fun u h17 => ?_)
        exact ⟨u, rfl, trivial, h17⟩
      have h18 : St e w [(true, .val (Rep.slice (Rep.int .u8)) (q1 17) y2), (true, .val Message_.rep (q1 18) (⟨a0.From, a0.To, (IntKind.u8.wrap (a0.Function + 1)), a0.Command, a0.FromUnit, a0.ToUnit, a0.Sequence, a1, y2⟩ : Message_)), (false, .val (Rep.slice (Rep.int .u8)) v2 a2)] [(false, .box 51 Message_.rep u1 a0), (true, .box 51 Message_.rep u2 Message_.z)] := h
      refine RunL.op (OpS.storeB (f' := true) h18 (.s .z) PA.z Put.id ty51 rfl rfl rfl (V.at (.s .z)) (.inl rfl) (fun w8 h19 => ?_))
      refine RunL.op (OpS.as rfl rfl rfl ?_)
      refine RunL.nil ?_
      refine Run.slim [(7, .int .i64 0), (6, u2)] ⟨rfl, rfl, trivial⟩ ?_
      obtain ⟨u6, hu2, h20⟩ := res_box h19 .z ty51
      refine Run.retP rfl (.cell rfl hu2 (.tmp rfl .nil)) ?_
      cases hF
      exact Post.mk' ⟨u6, rfl, rfl, rfl, rfl⟩ (h20.picks .nil) (.val (V.at .z) .nil)
  ·
    refine RunL.caseb hF (fun e4 hF => ?_) (fun e4 hF => ?_)
    ·
      refine RunL.op (OpS.pass rfl rfl rfl ?_)
      refine RunL.op (OpS.pass rfl rfl rfl ?_)
      refine RunL.op (OpS.pass rfl rfl rfl ?_)
      refine RunL.op (OpS.pass rfl rfl rfl ?_)
      refine RunL.op (OpS.pick rfl rfl rfl rfl ?_)
      refine RunL.op (OpS.mv rfl rfl rfl ?_)
      refine RunL.op (OpS.pass rfl rfl rfl ?_)
      refine RunL.op (OpS.pass rfl rfl rfl ?_)
      refine RunL.op (OpS.pass rfl rfl rfl ?_)
      refine RunL.op (OpS.pick rfl rfl rfl rfl ?_)
      refine RunL.nil ?_
      refine Run.slim [(21, .bool true), (6, u2), (3, u1), (1, .int .u8 a1), (2, v2)] ⟨rfl, rfl, rfl, rfl, rfl, trivial⟩ ?_
      refine Run.slim [(1, .int .u8 a1), (2, v2), (3, u1), (6, u2), (21, .bool true)] ⟨rfl, rfl, rfl, rfl, rfl, trivial⟩ ?_
      exact hj1 (true) _ _ ⟨rfl, (h5.facts (.atm (.s (.s .z)) .nil)).picks (.cons (.s .z) (.cons .z .nil))⟩ hF
    ·
      refine RunL.op (OpS.fbox (o3 := 2) h5 (.s .z) PA.z fa51_2 rfl rfl rfl rfl ?_)
      refine RunL.op (OpS.loadBi h5 (.s .z) PA.a (Get.fld Message_.f2) ty5 rfl rfl rfl ?_)
      refine RunL.op (OpS.rem rfl rfl rfl rfl (by decide) ?_)
      refine RunL.op (OpS.bin rfl rfl rfl rfl rfl ?_)
      refine RunL.op (OpS.pick rfl rfl rfl rfl ?_)
      refine RunL.op (OpS.mv rfl rfl rfl ?_)
      refine RunL.caseb hF (fun e5 hF => ?_) (fun e5 hF => ?_)
      ·
        refine RunL.op (OpS.pass rfl rfl rfl ?_)
        refine RunL.op (OpS.pass rfl rfl rfl ?_)
        refine RunL.op (OpS.pass rfl rfl rfl ?_)
        refine RunL.op (OpS.pick rfl rfl rfl rfl ?_)
        refine RunL.nil ?_
        refine Run.slim [(21, .bool true), (6, u2), (3, u1), (1, .int .u8 a1), (2, v2)] ⟨rfl, rfl, rfl, rfl, rfl, trivial⟩ ?_
        refine Run.slim [(1, .int .u8 a1), (2, v2), (3, u1), (6, u2), (21, .bool true)] ⟨rfl, rfl, rfl, rfl, rfl, trivial⟩ ?_
        exact hj1 (true) _ _ ⟨rfl, (h5.facts (.atm (.s (.s .z)) .nil)).picks (.cons (.s .z) (.cons .z .nil))⟩ hF
      ·
        refine RunL.op (OpS.mv rfl rfl rfl ?_)
        refine RunL.op (OpS.len h5 Try.underlying22 rfl rfl rfl (V.at (.s (.s .z))) ?_)
        refine RunL.op (OpS.bin rfl rfl rfl rfl rfl ?_)
        refine RunL.op (OpS.pick rfl rfl rfl rfl ?_)
        refine RunL.nil ?_
        refine Run.slim [(21, .bool (decide ((a2.length : Int) > 240))), (6, u2), (3, u1), (1, .int .u8 a1), (2, v2)] ⟨rfl, rfl, rfl, rfl, rfl, trivial⟩ ?_
        refine Run.slim [(1, .int .u8 a1), (2, v2), (3, u1), (6, u2), (21, .bool (decide ((a2.length : Int) > 240)))] ⟨rfl, rfl, rfl, rfl, rfl, trivial⟩ ?_
        exact hj1 (decide ((a2.length : Int) > 240)) _ _ ⟨rfl, (h5.facts (.atm (.s (.s .z)) .nil)).picks (.cons (.s .z) (.cons .z .nil))⟩ hF
theorem ref23_Response_ok {fuel : Nat} {a0 : Message_} {y : (List Int) × Int} (hF : ref23_Response fuel a0 = some y) {w : World} {v0 : Value} :
    Spec Try.prog 27 [v0].toArray w [(false, .val Message_.rep v0 a0)] [] (fun v Γr Ωr Ωo => ∃ u0 : Value, v = .tuple #[u0, .int .i64 y.2] ∧ Γr = [] ∧ Ωr = [(true, .slice 5 (Rep.int .u8) u0 y.1)] ∧ Ωo = []) := by
  refine Spec.of (L := [(0, v0)]) Try.func27 rfl ⟨rfl, trivial⟩ rfl (fun e h => ?_)
  unfold ref23_Response at hF
  refine Run.seq ?_
  refine Run.reg ?_
  refine RunL.op (OpS.boxF h rfl rfl rfl (V.at .z) (fun u1 w1 h1 => ?_))
  refine RunL.op (OpS.as rfl rfl rfl ?_)
  refine RunL.op (OpS.as rfl rfl rfl ?_)
  refine RunL.nil ?_
  refine Run.slim [(1, u1)] ⟨rfl, trivial⟩ ?_
  refine Run.seq ?_
  refine Run.seq ?_
  refine Run.reg ?_
  refine RunL.op (OpS.loadB h1 .z PA.z Get.id ty51 rfl rfl rfl (fun u2 h2 => ?_))
  obtain ⟨y1, e1, hF⟩ := bindP_use hF
  refine RunL.op (OpS.callP h2 Try.func44 rfl rfl rfl rfl (vs := [u2]) rfl (ref23_Valid_ok e1) (.cons (f := false) (V.at .z) .nil) ?_)
  rintro _ w2 _ _ _ ⟨rfl, rfl, rfl, rfl⟩ h3
  have h4 := h3 rfl rfl
  simp only [List.cons_append, List.nil_append] at h4
  refine RunL.op (OpS.not rfl rfl rfl ?_)
  refine RunL.op (OpS.mv rfl rfl rfl ?_)
  refine RunL.join (σ := Bool) (fun s_ L_ w_ => L_ = [(1, u1), (12, .bool s_)] ∧ St e w_ [] [(false, .box 51 Message_.rep u1 a0)]) hF (fun s1 _ w3 hI hF => ?_) (fun j1 hj1 hF => ?_)
  ·
    obtain ⟨rfl, h5⟩ := hI
    refine Run.ite rfl hF (fun e2 hF => ?_) (fun e2 hF => ?_)
    ·
      refine Run.seq ?_
      refine Run.reg ?_
      refine RunL.op (OpS.as rfl rfl rfl ?_)
      refine RunL.op (OpS.as rfl rfl rfl ?_)
      refine RunL.nil ?_
      refine Run.slim [(3, .int .i64 1), (2, .slice none 0 0)] ⟨rfl, rfl, trivial⟩ ?_
      have h6 := St.nil 5 (Rep.int .u8) h5
      refine Run.retP rfl (.tmp rfl (.tmp rfl .nil)) ?_
      cases hF
      exact Post.mk' ⟨(.slice none 0 0), rfl, rfl, rfl, rfl⟩ (h6.picks (.cons .z .nil)) .nil
    ·
      refine Run.skip ?_
      refine Run.seq ?_
      refine Run.reg ?_
      refine RunL.op (OpS.loadB h5 .z PA.z Get.id ty51 rfl rfl rfl (fun u3 h7 => ?_))
      obtain ⟨y2, e3, hF⟩ := bindP_use hF
      refine RunL.op (OpS.callP h7 Try.func46 rfl rfl rfl rfl (vs := [u3]) rfl (ref23_encode_ok e3) (.cons (f := false) (V.at .z) .nil) ?_)
      rintro u4 w4 _ _ _ ⟨_, rfl, rfl, rfl, rfl⟩ h8
      have h9 := h8 rfl rfl
      simp only [List.cons_append, List.nil_append] at h9
      refine RunL.op (OpS.as rfl rfl rfl ?_)
      refine RunL.op (OpS.as rfl rfl rfl ?_)
      refine RunL.nil ?_
      refine Run.slim [(3, .int .i64 0), (2, u4)] ⟨rfl, rfl, trivial⟩ ?_
      refine Run.retP rfl (.tmp rfl (.tmp rfl .nil)) ?_
      cases hF
      exact Post.mk' ⟨u4, rfl, rfl, rfl, rfl⟩ (h9.picks (.cons .z .nil)) .nil
  ·
    refine RunL.caseb hF (fun e4 hF => ?_) (fun e4 hF => ?_)
    ·
      refine RunL.op (OpS.pass rfl rfl rfl ?_)
      refine RunL.op (OpS.pass rfl rfl rfl ?_)
      refine RunL.op (OpS.pass rfl rfl rfl ?_)
      refine RunL.op (OpS.pass rfl rfl rfl ?_)
      refine RunL.op (OpS.pick rfl rfl rfl rfl ?_)
      refine RunL.nil ?_
      refine Run.slim [(12, .bool true), (1, u1)] ⟨rfl, rfl, trivial⟩ ?_
      refine Run.slim [(1, u1), (12, .bool true)] ⟨rfl, rfl, trivial⟩ ?_
      exact hj1 (true) _ _ ⟨rfl, (h4.facts .nil).picks (.cons .z .nil)⟩ hF
    ·
      refine RunL.op (OpS.fbox (o3 := 2) h4 .z PA.z fa51_2 rfl rfl rfl rfl ?_)
      refine RunL.op (OpS.loadBi h4 .z PA.a (Get.fld Message_.f2) ty5 rfl rfl rfl ?_)
      refine RunL.op (OpS.rem rfl rfl rfl rfl (by decide) ?_)
      refine RunL.op (OpS.bin rfl rfl rfl rfl rfl ?_)
      refine RunL.op (OpS.pick rfl rfl rfl rfl ?_)
      refine RunL.nil ?_
      refine Run.slim [(12, .bool ((Int.tmod a0.Function 2) != 1)), (1, u1)] ⟨rfl, rfl, trivial⟩ ?_
      refine Run.slim [(1, u1), (12, .bool ((Int.tmod a0.Function 2) != 1))] ⟨rfl, rfl, trivial⟩ ?_
      exact hj1 ((Int.tmod a0.Function 2) != 1) _ _ ⟨rfl, (h4.facts .nil).picks (.cons .z .nil)⟩ hF
set_option maxHeartbeats 8000000 in
theorem ref23_parse_ok {fuel : Nat} {a0 : List Int} {a1 : Int} {y : Message_ × Int} (hF : ref23_parse fuel a0 a1 = some y) {w : World} {v0 : Value} :
    Spec Try.prog 56 [v0, .int .i64 a1].toArray w [(false, .val (Rep.slice (Rep.int .u8)) v0 a0)] [] (fun v Γr Ωr Ωo => ∃ u0 : Value, v = .tuple #[u0, .int .i64 y.2] ∧ Γr = [(true, .val Message_.rep u0 y.1)] ∧ Ωr = [] ∧ Ωo = []) := by
  refine Spec.of (L := [(0, v0), (1, .int .i64 a1)]) Try.func56 rfl ⟨rfl, rfl, trivial⟩ rfl (fun e h => ?_)
  unfold ref23_parse at hF
  refine Run.seq ?_
  refine Run.reg ?_
  refine RunL.op (OpS.alloc h ti51 Message_.zr rfl rfl (fun u1 w1 h1 => ?_))
  refine RunL.op (OpS.as rfl rfl rfl ?_)
  refine RunL.nil ?_
  refine Run.slim [(4, u1), (0, v0), (1, .int .i64 a1)] ⟨rfl, rfl, rfl, trivial⟩ ?_
  refine Run.seq ?_
  refine Run.reg ?_
  refine RunL.op (OpS.build (f := true) (x' := Message_.z) h1 pl51 ti51 Message_.zr rfl rfl rfl .nil (fun u2 h2 => ?_))
  refine RunL.op (OpS.alloc h2 ti51 Message_.zr rfl rfl (fun u3 w2 h3 => ?_))
  refine RunL.op (OpS.storeB (f' := true) h3 .z PA.z Put.id ty51 rfl rfl rfl (V.at .z) (.inl rfl) (fun w3 h4 => ?_))
  refine RunL.nil ?_
  refine Run.slim [(6, u3), (4, u1), (0, v0), (1, .int .i64 a1)] ⟨rfl, rfl, rfl, rfl, trivial⟩ ?_
  refine Run.seq ?_
  refine Run.seq ?_
  refine Run.reg ?_
  refine RunL.op (OpS.mv rfl rfl rfl ?_)
  refine RunL.op (OpS.len h4 Try.underlying22 rfl rfl rfl (V.at (.s .z)) ?_)
  refine RunL.op (OpS.mv rfl rfl rfl ?_)
  refine RunL.op (OpS.bin rfl rfl rfl rfl rfl ?_)
  refine RunL.op (OpS.bin rfl rfl rfl rfl rfl ?_)
  refine RunL.nil ?_
  refine Run.slim [(13, .bool (decide ((a0.length : Int) < (IntKind.i64.wrap (7 + a1))))), (6, u3), (4, u1), (0, v0), (1, .int .i64 a1)] ⟨rfl, rfl, rfl, rfl, rfl, trivial⟩ ?_
  refine Run.ite rfl hF (fun e1 hF => ?_) (fun e1 hF => ?_)
  ·
    refine Run.seq ?_
    refine Run.reg ?_
    refine RunL.op (OpS.loadB h4 .z PA.z Get.id ty51 rfl rfl rfl (fun u4 h5 => ?_))
    refine RunL.op (OpS.storeB (f' := true) h5 (.s .z) PA.z Put.id ty51 rfl rfl rfl (V.at .z) (.inl rfl) (fun w4 h6 => ?_))
    refine RunL.op (OpS.as rfl rfl rfl ?_)
    refine RunL.nil ?_
    refine Run.slim [(5, .int .i64 4), (4, u1)] ⟨rfl, rfl, trivial⟩ ?_
    obtain ⟨u5, hu1, h7⟩ := res_box h6 .z ty51
    refine Run.retP rfl (.cell rfl hu1 (.tmp rfl .nil)) ?_
    cases hF
    exact Post.mk' ⟨u5, rfl, rfl, rfl, rfl⟩ (h7.picks .nil) (.val (V.at .z) .nil)
  ·
    refine Run.skip ?_
    refine Run.seq ?_
    refine Run.seq ?_
    refine Run.reg ?_
    refine RunL.op (OpS.mv rfl rfl rfl ?_)
    obtain ⟨x1, e2, hF⟩ := bindP_use hF
    refine RunL.op (OpS.sub h4 Try.underlying22 ty5 rfl rfl rfl rfl rfl (V.at (.s .z)) e2 (fun u6 h8 => ?_))
    obtain ⟨y1, e3, hF⟩ := bindP_use hF
    refine RunL.op (OpS.callP h8 Try.func62 rfl rfl rfl rfl (vs := [u6]) rfl (ref01_Sum8_ok e3) (.cons (f := false) (V.at .z) .nil) ?_)
    rintro _ w5 _ _ _ ⟨rfl, rfl, rfl, rfl⟩ h9
    have h10 := h9 rfl rfl
    simp only [List.cons_append, List.nil_append] at h10
    refine RunL.op (OpS.bin rfl rfl rfl rfl rfl ?_)
    refine RunL.op (OpS.mv rfl rfl rfl ?_)
    refine RunL.join (σ := Bool) (fun s_ L_ w_ => L_ = [(0, v0), (1, .int .i64 a1), (4, u1), (6, u3), (24, .bool s_)] ∧ St e w_ [(false, .val (Rep.slice (Rep.int .u8)) v0 a0)] [(true, .box 51 Message_.rep u1 Message_.z), (true, .box 51 Message_.rep u3 Message_.z)]) hF (fun s1 _ w6 hI hF => ?_) (fun j1 hj1 hF => ?_)
    ·
      obtain ⟨rfl, h11⟩ := hI
      refine Run.ite rfl hF (fun e4 hF => ?_) (fun e4 hF => ?_)
      ·
        refine Run.seq ?_
        refine Run.reg ?_
        refine RunL.op (OpS.loadB h11 (.s .z) PA.z Get.id ty51 rfl rfl rfl (fun u7 h12 => ?_))
        refine RunL.op (OpS.storeB (f' := true) h12 .z PA.z Put.id ty51 rfl rfl rfl (V.at .z) (.inl rfl) (fun w7 h13 => ?_))
        refine RunL.op (OpS.as rfl rfl rfl ?_)
        refine RunL.nil ?_
        refine Run.slim [(5, .int .i64 5), (4, u1)] ⟨rfl, rfl, trivial⟩ ?_
        obtain ⟨u8, hu2, h14⟩ := res_box h13 .z ty51
        refine Run.retP rfl (.cell rfl hu2 (.tmp rfl .nil)) ?_
        cases hF
        exact Post.mk' ⟨u8, rfl, rfl, rfl, rfl⟩ (h14.picks .nil) (.val (V.at .z) .nil)
      ·
        refine Run.skip ?_
        refine Run.seq ?_
        obtain ⟨x2, e5, hF⟩ := bindP_use hF
        obtain ⟨x3, e6, hF⟩ := bindP_use hF
        obtain ⟨x4, e7, hF⟩ := bindP_use hF
        obtain ⟨x5, e8, hF⟩ := bindP_use hF
        obtain ⟨x6, e9, hF⟩ := bindP_use hF
        obtain ⟨x7, e10, hF⟩ := bindP_use hF
        obtain ⟨x8, e11, hF⟩ := bindP_use hF
        refine Run.drawV (Ωs := [(true, .box 51 Message_.rep u1 Message_.z), (true, .box 51 Message_.rep u3 Message_.z)]) [⟨some 26, some (v0), fun _ => [], fun ds_ u_ => [], [], [], none⟩, ⟨some 27, none, fun u_ => [(false, .ptr (Rep.int .u8) u_ x2)], fun ds_ u_ => [], [], [], none⟩, ⟨some 28, some (.int .u8 x2), fun _ => [], fun ds_ u_ => [], [], [], none⟩, ⟨some 29, some (.int .u8 (IntKind.u8.wrap (Int.tdiv x2 2))), fun _ => [], fun ds_ u_ => [], [], [], none⟩, ⟨some 30, some (v0), fun _ => [], fun ds_ u_ => [], [], [], none⟩, ⟨some 31, none, fun u_ => [(false, .ptr (Rep.int .u8) u_ x3)], fun ds_ u_ => [], [], [], none⟩, ⟨some 32, some (.int .u8 x3), fun _ => [], fun ds_ u_ => [], [], [], none⟩, ⟨some 33, some (.int .u8 (IntKind.u8.wrap (Int.tdiv x3 2))), fun _ => [], fun ds_ u_ => [], [], [], none⟩, ⟨some 34, some (v0), fun _ => [], fun ds_ u_ => [], [], [], none⟩, ⟨some 35, none, fun u_ => [(false, .ptr (Rep.int .u8) u_ x4)], fun ds_ u_ => [], [], [], none⟩, ⟨some 36, some (.int .u8 x4), fun _ => [], fun ds_ u_ => [], [], [], none⟩, ⟨some 37, some (.int .u8 (IntKind.u8.wrap (Int.tdiv x4 4))), fun _ => [], fun ds_ u_ => [], [], [], none⟩, ⟨some 38, some (v0), fun _ => [], fun ds_ u_ => [], [], [], none⟩, ⟨some 39, none, fun u_ => [(false, .ptr (Rep.int .u8) u_ x5)], fun ds_ u_ => [], [], [], none⟩, ⟨some 40, some (.int .u8 x5), fun _ => [], fun ds_ u_ => [], [], [], none⟩, ⟨some 41, some (v0), fun _ => [], fun ds_ u_ => [], [], [], none⟩, ⟨some 42, none, fun u_ => [(false, .ptr (Rep.int .u8) u_ x6)], fun ds_ u_ => [], [], [], none⟩, ⟨some 43, some (.int .u8 x6), fun _ => [], fun ds_ u_ => [], [], [], none⟩, ⟨some 44, some (.int .i64 (IntKind.i64.wrap x6)), fun _ => [], fun ds_ u_ => [], [], [], none⟩, ⟨some 45, some (.int .i64 (Int.tmod (IntKind.i64.wrap x6) 4)), fun _ => [], fun ds_ u_ => [], [], [], none⟩, ⟨some 46, some (v0), fun _ => [], fun ds_ u_ => [], [], [], none⟩, ⟨some 47, none, fun u_ => [(false, .ptr (Rep.int .u8) u_ x7)], fun ds_ u_ => [], [], [], none⟩, ⟨some 48, some (.int .u8 x7), fun _ => [], fun ds_ u_ => [], [], [], none⟩, ⟨some 49, some (.int .i64 (IntKind.i64.wrap x7)), fun _ => [], fun ds_ u_ => [], [], [], none⟩, ⟨some 50, some (.int .i64 (Int.tmod (IntKind.i64.wrap x7) 4)), fun _ => [], fun ds_ u_ => [], [], [], none⟩, ⟨some 51, some (v0), fun _ => [], fun ds_ u_ => [], [], [], none⟩, ⟨some 52, none, fun u_ => [(false, .ptr (Rep.int .u8) u_ x8)], fun ds_ u_ => [], [], [], none⟩, ⟨some 53, some (.int .u8 x8), fun _ => [], fun ds_ u_ => [], [], [], none⟩, ⟨some 54, some (.int .i64 (IntKind.i64.wrap x8)), fun _ => [], fun ds_ u_ => [], [], [], none⟩, ⟨some 55, some (.int .i64 (IntKind.i64.wrap (Int.tdiv (IntKind.i64.wrap x8) 4))), fun _ => [], fun ds_ u_ => [], [], [], none⟩, ⟨some 56, none, fun u_ => [(true, .val Message_.rep u_ (⟨(IntKind.u8.wrap (Int.tdiv x2 2)), (IntKind.u8.wrap (Int.tdiv x3 2)), (IntKind.u8.wrap (Int.tdiv x4 4)), x5, (Int.tmod (IntKind.i64.wrap x6) 4), (Int.tmod (IntKind.i64.wrap x7) 4), (IntKind.i64.wrap (Int.tdiv (IntKind.i64.wrap x8) 4)), 0, []⟩ : Message_))], fun ds_ u_ => [], [], [], none⟩, ⟨some 7, none, fun u_ => [], fun ds_ u_ => [(true, .box 51 Message_.rep u_ Message_.z)], [], [], none⟩] [[], [0], [1], [2], [], [4], [5], [6], [], [8], [9], [10], [], [12], [13], [], [15], [16], [17], [18], [], [20], [21], [22], [23], [], [25], [26], [27], [28], [3, 7, 11, 14, 19, 24, 29], []] [] [0, 1, 2, 3, 4, 5, 6, 7, 8, 9, 10, 11, 12, 13, 14, 15, 16, 17, 18, 19, 20, 21, 22, 23, 24, 25, 26, 27, 28, 29, 30, 31] Try_mixed rfl rfl rfl h11 (.cons ?_ (.cons ?_ (.cons ?_ (.cons ?_ (.cons ?_ (.cons ?_ (.cons ?_ (.cons ?_ (.cons ?_ (.cons ?_ (.cons ?_ (.cons ?_ (.cons ?_ (.cons ?_ (.cons ?_ (.cons ?_ (.cons ?_ (.cons ?_ (.cons ?_ (.cons ?_ (.cons ?_ (.cons ?_ (.cons ?_ (.cons ?_ (.cons ?_ (.cons ?_ (.cons ?_ (.cons ?_ (.cons ?_ (.cons ?_ (.cons ?_ (.cons ?_ .nil)))))))))))))))))))))))))))))))) (fun q1 w hq1 h => ?_)
        · intro q1 w Γx Ωx h
          refine OpS.mv rfl rfl rfl ?_
          exact ⟨undef, rfl, trivial, h⟩
        · intro q1 w Γx Ωx h
          refine OpS.iptr h Try.underlying22 ty5 rfl rfl rfl rfl (V.at .z) e5 (fun u h24 => ?_)
          exact ⟨u, rfl, trivial, h24⟩
        · intro q1 w Γx Ωx h
          refine OpS.loadi h ty5 rfl rfl rfl .z ?_
          exact ⟨undef, rfl, trivial, h⟩
        · intro q1 w Γx Ωx h
          refine OpS.quo rfl rfl rfl rfl (by decide) ?_
          exact ⟨undef, rfl, trivial, h⟩
        · intro q1 w Γx Ωx h
          refine OpS.mv rfl rfl rfl ?_
          exact ⟨undef, rfl, trivial, h⟩
        · intro q1 w Γx Ωx h
          refine OpS.iptr h Try.underlying22 ty5 rfl rfl rfl rfl (V.at .z) e6 (fun u h25 => ?_)
          exact ⟨u, rfl, trivial, h25⟩
        · intro q1 w Γx Ωx h
          refine OpS.loadi h ty5 rfl rfl rfl .z ?_
          exact ⟨undef, rfl, trivial, h⟩
        · intro q1 w Γx Ωx h
          refine OpS.quo rfl rfl rfl rfl (by decide) ?_
          exact ⟨undef, rfl, trivial, h⟩
        · intro q1 w Γx Ωx h
          refine OpS.mv rfl rfl rfl ?_
          exact ⟨undef, rfl, trivial, h⟩
        · intro q1 w Γx Ωx h
          refine OpS.iptr h Try.underlying22 ty5 rfl rfl rfl rfl (V.at .z) e7 (fun u h26 => ?_)
          exact ⟨u, rfl, trivial, h26⟩
        · intro q1 w Γx Ωx h
          refine OpS.loadi h ty5 rfl rfl rfl .z ?_
          exact ⟨undef, rfl, trivial, h⟩
        · intro q1 w Γx Ωx h
          refine OpS.quo rfl rfl rfl rfl (by decide) ?_
          exact ⟨undef, rfl, trivial, h⟩
        · intro q1 w Γx Ωx h
          refine OpS.mv rfl rfl rfl ?_
          exact ⟨undef, rfl, trivial, h⟩
        · intro q1 w Γx Ωx h
          refine OpS.iptr h Try.underlying22 ty5 rfl rfl rfl rfl (V.at .z) e8 (fun u h27 => ?_)
          exact ⟨u, rfl, trivial, h27⟩
        · intro q1 w Γx Ωx h
          refine OpS.loadi h ty5 rfl rfl rfl .z ?_
          exact ⟨undef, rfl, trivial, h⟩
        · intro q1 w Γx Ωx h
          refine OpS.mv rfl rfl rfl ?_
          exact ⟨undef, rfl, trivial, h⟩
        · intro q1 w Γx Ωx h
          refine OpS.iptr h Try.underlying22 ty5 rfl rfl rfl rfl (V.at .z) e9 (fun u h28 => ?_)
          exact ⟨u, rfl, trivial, h28⟩
        · intro q1 w Γx Ωx h
          refine OpS.loadi h ty5 rfl rfl rfl .z ?_
          exact ⟨undef, rfl, trivial, h⟩
        · intro q1 w Γx Ωx h
          refine OpS.conv Try.underlying5 Try.underlying3 rfl rfl rfl ?_
          exact ⟨undef, rfl, trivial, h⟩
        · intro q1 w Γx Ωx h
          refine OpS.rem rfl rfl rfl rfl (by decide) ?_
          exact ⟨undef, rfl, trivial, h⟩
        · intro q1 w Γx Ωx h
          refine OpS.mv rfl rfl rfl ?_
          exact ⟨undef, rfl, trivial, h⟩
        · intro q1 w Γx Ωx h
          refine OpS.iptr h Try.underlying22 ty5 rfl rfl rfl rfl (V.at .z) e10 (fun u h29 => ?_)
          exact ⟨u, rfl, trivial, h29⟩
        · intro q1 w Γx Ωx h
          refine OpS.loadi h ty5 rfl rfl rfl .z ?_
          exact ⟨undef, rfl, trivial, h⟩
        · intro q1 w Γx Ωx h
          refine OpS.conv Try.underlying5 Try.underlying3 rfl rfl rfl ?_
          exact ⟨undef, rfl, trivial, h⟩
        · intro q1 w Γx Ωx h
          refine OpS.rem rfl rfl rfl rfl (by decide) ?_
          exact ⟨undef, rfl, trivial, h⟩
        · intro q1 w Γx Ωx h
          refine OpS.mv rfl rfl rfl ?_
          exact ⟨undef, rfl, trivial, h⟩
        · intro q1 w Γx Ωx h
          refine OpS.iptr h Try.underlying22 ty5 rfl rfl rfl rfl (V.at .z) e11 (fun u h30 => ?_)
          exact ⟨u, rfl, trivial, h30⟩
        · intro q1 w Γx Ωx h
          refine OpS.loadi h ty5 rfl rfl rfl .z ?_
          exact ⟨undef, rfl, trivial, h⟩
        · intro q1 w Γx Ωx h
          refine OpS.conv Try.underlying5 Try.underlying3 rfl rfl rfl ?_
          exact ⟨undef, rfl, trivial, h⟩
        · intro q1 w Γx Ωx h
          refine OpS.quo rfl rfl rfl rfl (by decide) ?_
          exact ⟨undef, rfl, trivial, h⟩
        · intro q1 w Γx Ωx h
          refine OpS.build (f := true) (x' := (⟨(IntKind.u8.wrap (Int.tdiv x2 2)), (IntKind.u8.wrap (Int.tdiv x3 2)), (IntKind.u8.wrap (Int.tdiv x4 4)), x5, (Int.tmod (IntKind.i64.wrap x6) 4), (Int.tmod (IntKind.i64.wrap x7) 4), (IntKind.i64.wrap (Int.tdiv (IntKind.i64.wrap x8) 4)), 0, []⟩ : Message_)) h pl51 ti51 Message_.zr rfl rfl rfl (.cons rfl Message_.f0 rfl V.int (.cons rfl Message_.f1 rfl V.int (.cons rfl Message_.f2 rfl V.int (.cons rfl Message_.f3 rfl V.int (.cons rfl Message_.f4 rfl V.int (.cons rfl Message_.f5 rfl V.int (.cons rfl Message_.f6 rfl V.int .nil))))))) (fun u h31 => ?_)
          exact ⟨u, rfl, trivial, h31⟩
        · intro q1 w Γx Ωx h
          refine OpS.alloc h ti51 Message_.zr rfl rfl (fun u w9 h32 => ?_)
          exact ⟨u, rfl, trivial, h32⟩
        have h33 : St e w [(false, .ptr (Rep.int .u8) (q1 1) x2), (false, .ptr (Rep.int .u8) (q1 5) x3), (false, .ptr (Rep.int .u8) (q1 9) x4), (false, .ptr (Rep.int .u8) (q1 13) x5), (false, .ptr (Rep.int .u8) (q1 16) x6), (false, .ptr (Rep.int .u8) (q1 21) x7), (false, .ptr (Rep.int .u8) (q1 26) x8), (true, .val Message_.rep (q1 30) (⟨(IntKind.u8.wrap (Int.tdiv x2 2)), (IntKind.u8.wrap (Int.tdiv x3 2)), (IntKind.u8.wrap (Int.tdiv x4 4)), x5, (Int.tmod (IntKind.i64.wrap x6) 4), (Int.tmod (IntKind.i64.wrap x7) 4), (IntKind.i64.wrap (Int.tdiv (IntKind.i64.wrap x8) 4)), 0, []⟩ : Message_)), (false, .val (Rep.slice (Rep.int .u8)) v0 a0)] [(true, .box 51 Message_.rep (q1 31) Message_.z), (true, .box 51 Message_.rep u1 Message_.z), (true, .box 51 Message_.rep u3 Message_.z)] := h
        refine RunL.op (OpS.storeB (f' := true) h33 .z PA.z Put.id ty51 rfl rfl rfl (V.at (.s (.s (.s (.s (.s (.s (.s .z)))))))) (.inl rfl) (fun w10 h34 => ?_))
        refine RunL.nil ?_
        refine Run.slim [(7, (q1 31)), (0, v0), (1, .int .i64 a1), (4, u1), (6, u3)] ⟨rfl, rfl, rfl, rfl, rfl, trivial⟩ ?_
        refine Run.seq ?_
        refine Run.seq ?_
        refine Run.reg ?_
        refine RunL.op (OpS.mv rfl rfl rfl ?_)
        obtain ⟨x9, e12, hF⟩ := bindP_use hF
        refine RunL.op (OpS.iptr h34 Try.underlying22 ty5 rfl rfl rfl rfl (V.at (.s (.s (.s (.s (.s (.s (.s (.s .z))))))))) e12 (fun u9 h35 => ?_))
        refine RunL.op (OpS.loadi h35 ty5 rfl rfl rfl .z ?_)
        refine RunL.op (OpS.rem rfl rfl rfl rfl (by decide) ?_)
        refine RunL.op (OpS.bin rfl rfl rfl rfl rfl ?_)
        refine RunL.op (OpS.mv rfl rfl rfl ?_)
        refine RunL.join (σ := Bool) (fun s_ L_ w_ => L_ = [(0, v0), (1, .int .i64 a1), (4, u1), (6, u3), (7, (q1 31)), (76, .bool s_)] ∧ St e w_ [(false, .val (Rep.slice (Rep.int .u8)) v0 a0)] [(true, .box 51 Message_.rep u1 Message_.z), (true, .box 51 Message_.rep u3 Message_.z), (true, .box 51 Message_.rep (q1 31) (⟨(IntKind.u8.wrap (Int.tdiv x2 2)), (IntKind.u8.wrap (Int.tdiv x3 2)), (IntKind.u8.wrap (Int.tdiv x4 4)), x5, (Int.tmod (IntKind.i64.wrap x6) 4), (Int.tmod (IntKind.i64.wrap x7) 4), (IntKind.i64.wrap (Int.tdiv (IntKind.i64.wrap x8) 4)), 0, []⟩ : Message_))]) hF (fun s2 _ w11 hI hF => ?_) (fun j2 hj2 hF => ?_)
        ·
          obtain ⟨rfl, h36⟩ := hI
          refine Run.ite rfl hF (fun e13 hF => ?_) (fun e13 hF => ?_)
          ·
            refine Run.seq ?_
            refine Run.reg ?_
            refine RunL.op (OpS.loadB h36 (.s .z) PA.z Get.id ty51 rfl rfl rfl (fun u10 h37 => ?_))
            refine RunL.op (OpS.storeB (f' := true) h37 .z PA.z Put.id ty51 rfl rfl rfl (V.at .z) (.inl rfl) (fun w12 h38 => ?_))
            refine RunL.op (OpS.as rfl rfl rfl ?_)
            refine RunL.nil ?_
            refine Run.slim [(5, .int .i64 6), (4, u1)] ⟨rfl, rfl, trivial⟩ ?_
            obtain ⟨u11, hu3, h39⟩ := res_box h38 .z ty51
            refine Run.retP rfl (.cell rfl hu3 (.tmp rfl .nil)) ?_
            cases hF
            exact Post.mk' ⟨u11, rfl, rfl, rfl, rfl⟩ (h39.picks .nil) (.val (V.at .z) .nil)
          ·
            refine Run.skip ?_
            refine Run.seq ?_
            refine Run.seq ?_
            refine Run.reg ?_
            refine RunL.op (OpS.fbox (o3 := 0) h36 (.s (.s .z)) PA.z fa51_0 rfl rfl rfl rfl ?_)
            refine RunL.op (OpS.loadBi h36 (.s (.s .z)) PA.a (Get.fld Message_.f0) ty5 rfl rfl rfl ?_)
            obtain ⟨y2, e14, hF⟩ := bindP_use hF
            refine RunL.op (OpS.callP h36 Try.func54 rfl rfl rfl rfl (vs := [.int .u8 ((⟨(IntKind.u8.wrap (Int.tdiv x2 2)), (IntKind.u8.wrap (Int.tdiv x3 2)), (IntKind.u8.wrap (Int.tdiv x4 4)), x5, (Int.tmod (IntKind.i64.wrap x6) 4), (Int.tmod (IntKind.i64.wrap x7) 4), (IntKind.i64.wrap (Int.tdiv (IntKind.i64.wrap x8) 4)), 0, []⟩ : Message_).To)]) rfl (ref20_Address_ok e14) .nil ?_)
            rintro _ w13 _ _ _ ⟨rfl, rfl, rfl, rfl⟩ h40
            have h41 := h40 rfl rfl
            simp only [List.cons_append, List.nil_append] at h41
            refine RunL.op (OpS.not rfl rfl rfl ?_)
            refine RunL.op (OpS.mv rfl rfl rfl ?_)
            refine RunL.join (σ := Bool) (fun s_ L_ w_ => L_ = [(0, v0), (1, .int .i64 a1), (4, u1), (6, u3), (7, (q1 31)), (87, .bool s_)] ∧ St e w_ [(false, .val (Rep.slice (Rep.int .u8)) v0 a0)] [(true, .box 51 Message_.rep u1 Message_.z), (true, .box 51 Message_.rep u3 Message_.z), (true, .box 51 Message_.rep (q1 31) (⟨(IntKind.u8.wrap (Int.tdiv x2 2)), (IntKind.u8.wrap (Int.tdiv x3 2)), (IntKind.u8.wrap (Int.tdiv x4 4)), x5, (Int.tmod (IntKind.i64.wrap x6) 4), (Int.tmod (IntKind.i64.wrap x7) 4), (IntKind.i64.wrap (Int.tdiv (IntKind.i64.wrap x8) 4)), 0, []⟩ : Message_))]) hF (fun s3 _ w14 hI hF => ?_) (fun j3 hj3 hF => ?_)
            ·
              obtain ⟨rfl, h42⟩ := hI
              refine Run.ite rfl hF (fun e15 hF => ?_) (fun e15 hF => ?_)
              ·
                refine Run.seq ?_
                refine Run.reg ?_
                refine RunL.op (OpS.loadB h42 (.s .z) PA.z Get.id ty51 rfl rfl rfl (fun u12 h43 => ?_))
                refine RunL.op (OpS.storeB (f' := true) h43 .z PA.z Put.id ty51 rfl rfl rfl (V.at .z) (.inl rfl) (fun w15 h44 => ?_))
                refine RunL.op (OpS.as rfl rfl rfl ?_)
                refine RunL.nil ?_
                refine Run.slim [(5, .int .i64 13), (4, u1)] ⟨rfl, rfl, trivial⟩ ?_
                obtain ⟨u13, hu4, h45⟩ := res_box h44 .z ty51
                refine Run.retP rfl (.cell rfl hu4 (.tmp rfl .nil)) ?_
                cases hF
                exact Post.mk' ⟨u13, rfl, rfl, rfl, rfl⟩ (h45.picks .nil) (.val (V.at .z) .nil)
              ·
                refine Run.skip ?_
                refine Run.seq ?_
                refine Run.seq ?_
                refine Run.reg ?_
                refine RunL.op (OpS.mv rfl rfl rfl ?_)
                refine RunL.op (OpS.bin rfl rfl rfl rfl rfl ?_)
                refine RunL.nil ?_
                refine Run.slim [(90, .bool (a1 == 1)), (0, v0), (1, .int .i64 a1), (4, u1), (6, u3), (7, (q1 31))] ⟨rfl, rfl, rfl, rfl, rfl, rfl, trivial⟩ ?_
                refine Run.join (σ := Message_) (fun s_ L_ w_ => L_ = [(0, v0), (1, .int .i64 a1), (4, u1), (6, u3), (7, (q1 31))] ∧ St e w_ [(false, .val (Rep.slice (Rep.int .u8)) v0 a0)] [(true, .box 51 Message_.rep u1 Message_.z), (true, .box 51 Message_.rep u3 Message_.z), (true, .box 51 Message_.rep (q1 31) s_)]) hF (fun s4 _ w16 hI hF => ?_) (fun j4 hj4 hF => ?_)
                ·
                  obtain ⟨rfl, h46⟩ := hI
                  refine Run.seq ?_
                  refine Run.reg ?_
                  refine RunL.op (OpS.mv rfl rfl rfl ?_)
                  refine RunL.op (OpS.mv rfl rfl rfl ?_)
                  refine RunL.op (OpS.bin rfl rfl rfl rfl rfl ?_)
                  refine RunL.op (OpS.mv rfl rfl rfl ?_)
                  refine RunL.op (OpS.len h46 Try.underlying22 rfl rfl rfl (V.at .z) ?_)
                  refine RunL.op (OpS.bin rfl rfl rfl rfl rfl ?_)
                  obtain ⟨x10, e16, hF⟩ := bindP_use hF
                  refine RunL.op (OpS.sub h46 Try.underlying22 ty5 rfl rfl rfl rfl rfl (V.at .z) e16 (fun u14 h47 => ?_))
                  obtain ⟨y3, e17, hF⟩ := bindP_use hF
                  refine RunL.op (OpS.callP h47 Try.func45 rfl rfl rfl rfl (vs := [u14]) rfl (ref01_Copy_ok e17) (.cons (f := false) (V.at .z) .nil) ?_)
                  rintro u15 w17 _ _ _ ⟨_, rfl, rfl, rfl, rfl⟩ h48
                  have h49 := h48 rfl rfl
                  simp only [List.cons_append, List.nil_append] at h49
                  refine RunL.op (OpS.fbox (o3 := 8) h49 (.s (.s (.s .z))) PA.z fa51_8 rfl rfl rfl rfl ?_)
                  refine RunL.op (OpS.storeC (f' := true) (fr := (Rep.raw u15)) (r' := (Rep.iso (fun s : Message_ => (s.To, s.From, s.Function, s.Command, s.ToUnit, s.FromUnit, s.Sequence, s.Code, s.Data, ())) (Rep.prod (Rep.int .u8) (Rep.prod (Rep.int .u8) (Rep.prod (Rep.int .u8) (Rep.prod (Rep.int .u8) (Rep.prod (Rep.int .i64) (Rep.prod (Rep.int .i64) (Rep.prod (Rep.int .i64) (Rep.prod (Rep.int .u8) (Rep.prod (Rep.raw u15) Rep.unit))))))))))) (x' := s4) h49 (.s (.s (.s .z))) PA.a (Chg.iso _ (Chg.there (Chg.there (Chg.there (Chg.there (Chg.there (Chg.there (Chg.there (Chg.there (Chg.here (Chg.id (by rfl)))))))))))) (Ty.like ty22 (by rfl) (by rfl)) rfl rfl rfl (V.raw (f := true) (St.own1 h49 .z) s4.Data) (.inl rfl) (fun w18 h50 => ?_))
                  refine RunL.nil ?_
                  refine Run.slim [(4, u1), (6, u3), (7, (q1 31))] ⟨rfl, rfl, rfl, trivial⟩ ?_
                  refine Run.seq ?_
                  refine Run.seq ?_
                  refine Run.reg ?_
                  refine RunL.op (OpS.fbox (o3 := 8) h50 .z PA.z fa51_8 rfl rfl rfl rfl ?_)
                  refine RunL.op (OpS.loadR h50 .z PA.a (GetS.ok (GetS.iso _ (GetS.there (GetS.there (GetS.there (GetS.there (GetS.there (GetS.there (GetS.there (GetS.there (GetS.here GetS.id))))))))))) ty22 rfl rfl rfl rfl rfl ?_)
                  refine RunL.op (OpS.lenO h50 (.s .z) Try.underlying22 rfl rfl rfl ?_)
                  refine RunL.op (OpS.bin rfl rfl rfl rfl rfl ?_)
                  refine RunL.nil ?_
                  refine Run.slim [(107, .bool (decide ((y3.length : Int) > 240))), (4, u1), (6, u3), (7, (q1 31))] ⟨rfl, rfl, rfl, rfl, trivial⟩ ?_
                  refine Run.ite rfl hF (fun e18 hF => ?_) (fun e18 hF => ?_)
                  ·
                    refine Run.seq ?_
                    refine Run.reg ?_
                    refine RunL.op (OpS.loadB h50 (.s (.s (.s .z))) PA.z Get.id ty51 rfl rfl rfl (fun u16 h51 => ?_))
                    refine RunL.op (OpS.storeB (f' := true) h51 (.s (.s .z)) PA.z Put.id ty51 rfl rfl rfl (V.at .z) (.inl rfl) (fun w19 h52 => ?_))
                    refine RunL.op (OpS.as rfl rfl rfl ?_)
                    refine RunL.nil ?_
                    refine Run.slim [(5, .int .i64 3), (4, u1)] ⟨rfl, rfl, trivial⟩ ?_
                    obtain ⟨u17, hu5, h53⟩ := res_box h52 .z ty51
                    refine Run.retP rfl (.cell rfl hu5 (.tmp rfl .nil)) ?_
                    cases hF
                    exact Post.mk' ⟨u17, rfl, rfl, rfl, rfl⟩ (h53.picks .nil) (.val (V.at .z) .nil)
                  ·
                    refine Run.skip ?_
                    refine Run.seq ?_
                    refine Run.reg ?_
                    refine RunL.op (OpS.loadB (fr := (Rep.iso (fun s : Message_ => (s.To, s.From, s.Function, s.Command, s.ToUnit, s.FromUnit, s.Sequence, s.Code, s.Data, ())) (Rep.prod (Rep.int .u8) (Rep.prod (Rep.int .u8) (Rep.prod (Rep.int .u8) (Rep.prod (Rep.int .u8) (Rep.prod (Rep.int .i64) (Rep.prod (Rep.int .i64) (Rep.prod (Rep.int .i64) (Rep.prod (Rep.int .u8) (Rep.prod (Rep.raw u15) Rep.unit))))))))))) h50 .z PA.z (GetS.ok GetS.id) (Ty.like ty51 (by rfl) (by rfl)) rfl rfl rfl (fun u18 h54 => ?_))
                    refine RunL.op (OpS.storeC (f' := true) (fr := (Rep.iso (fun s : Message_ => (s.To, s.From, s.Function, s.Command, s.ToUnit, s.FromUnit, s.Sequence, s.Code, s.Data, ())) (Rep.prod (Rep.int .u8) (Rep.prod (Rep.int .u8) (Rep.prod (Rep.int .u8) (Rep.prod (Rep.int .u8) (Rep.prod (Rep.int .i64) (Rep.prod (Rep.int .i64) (Rep.prod (Rep.int .i64) (Rep.prod (Rep.int .u8) (Rep.prod (Rep.raw u15) Rep.unit))))))))))) (r' := (Rep.iso (fun s : Message_ => (s.To, s.From, s.Function, s.Command, s.ToUnit, s.FromUnit, s.Sequence, s.Code, s.Data, ())) (Rep.prod (Rep.int .u8) (Rep.prod (Rep.int .u8) (Rep.prod (Rep.int .u8) (Rep.prod (Rep.int .u8) (Rep.prod (Rep.int .i64) (Rep.prod (Rep.int .i64) (Rep.prod (Rep.int .i64) (Rep.prod (Rep.int .u8) (Rep.prod (Rep.raw u15) Rep.unit))))))))))) (x' := s4) h54 (.s (.s .z)) PA.z (Chg.id (by rfl)) (Ty.like ty51 (by rfl) (by rfl)) rfl rfl rfl (V.at .z) (.inl rfl) (fun w20 h55 => ?_))
                    refine RunL.op (OpS.as rfl rfl rfl ?_)
                    refine RunL.nil ?_
                    refine Run.slim [(5, .int .i64 0), (4, u1)] ⟨rfl, rfl, trivial⟩ ?_
                    obtain ⟨u19, hu6, h56⟩ := res_box h55 .z (Ty.like ty51 (by rfl) (by rfl))
                    have h57 := (h56.pick (.s (.s .z))).freeze
                    have h58 := h57.pick .z
                    have h59 := St.boxJ (r' := Message_.rep) (x' := { s4 with Data := y3 }) h58 (fun _ _ hs_ => (Jn.iso _ (Jn.prod Jn.refl (Jn.prod Jn.refl (Jn.prod Jn.refl (Jn.prod Jn.refl (Jn.prod Jn.refl (Jn.prod Jn.refl (Jn.prod Jn.refl (Jn.prod Jn.refl (Jn.prod (Jn.raw ((V.at .z) _ _ hs_) rfl) Jn.refl)))))))))))
                    have h60 := h59.pick (.s .z)
                    have h61 := St.boxJ (r' := Message_.rep) (x' := { s4 with Data := y3 }) h60 (fun _ _ hs_ => (Jn.iso _ (Jn.prod Jn.refl (Jn.prod Jn.refl (Jn.prod Jn.refl (Jn.prod Jn.refl (Jn.prod Jn.refl (Jn.prod Jn.refl (Jn.prod Jn.refl (Jn.prod Jn.refl (Jn.prod (Jn.raw ((V.at .z) _ _ hs_) rfl) Jn.refl)))))))))))
                    have h62 := St.addV (f := true) (r := Message_.rep) (x := { s4 with Data := y3 }) h61 (V.jn (r := (Rep.iso (fun s : Message_ => (s.To, s.From, s.Function, s.Command, s.ToUnit, s.FromUnit, s.Sequence, s.Code, s.Data, ())) (Rep.prod (Rep.int .u8) (Rep.prod (Rep.int .u8) (Rep.prod (Rep.int .u8) (Rep.prod (Rep.int .u8) (Rep.prod (Rep.int .i64) (Rep.prod (Rep.int .i64) (Rep.prod (Rep.int .i64) (Rep.prod (Rep.int .u8) (Rep.prod (Rep.raw u15) Rep.unit))))))))))) (x := s4) (V.at (.s .z)) rfl (fun _ _ hs_ => (Jn.iso _ (Jn.prod Jn.refl (Jn.prod Jn.refl (Jn.prod Jn.refl (Jn.prod Jn.refl (Jn.prod Jn.refl (Jn.prod Jn.refl (Jn.prod Jn.refl (Jn.prod Jn.refl (Jn.prod (Jn.raw ((V.at .z) _ _ hs_) rfl) Jn.refl))))))))))))
                    refine Run.retP rfl (.cell rfl hu6 (.tmp rfl .nil)) ?_
                    cases hF
                    exact Post.mk' ⟨u19, rfl, rfl, rfl, rfl⟩ (h62.picks .nil) (.val (V.at .z) .nil)
                ·
                  refine Run.ite rfl hF (fun e19 hF => ?_) (fun e19 hF => ?_)
                  ·
                    refine Run.reg ?_
                    refine RunL.op (OpS.mv rfl rfl rfl ?_)
                    obtain ⟨x11, e20, hF⟩ := bindP_use hF
                    refine RunL.op (OpS.iptr h42 Try.underlying22 ty5 rfl rfl rfl rfl (V.at .z) e20 (fun u20 h63 => ?_))
                    refine RunL.op (OpS.loadi h63 ty5 rfl rfl rfl .z ?_)
                    refine RunL.op (OpS.fbox (o3 := 7) h63 (.s (.s .z)) PA.z fa51_7 rfl rfl rfl rfl ?_)
                    obtain ⟨d1, e21, hF⟩ := letP_use hF
                    refine RunL.op (OpS.storeB (f' := true) h63 (.s (.s .z)) PA.a (Put.of (Put.fld Message_.f7) e21) ty5 rfl rfl rfl V.int (.inl rfl) (fun w21 h64 => ?_))
                    refine RunL.nil ?_
                    refine Run.slim [(0, v0), (1, .int .i64 a1), (4, u1), (6, u3), (7, (q1 31))] ⟨rfl, rfl, rfl, rfl, rfl, trivial⟩ ?_
                    refine Run.slim [(0, v0), (1, .int .i64 a1), (4, u1), (6, u3), (7, (q1 31))] ⟨rfl, rfl, rfl, rfl, rfl, trivial⟩ ?_
                    exact hj4 (d1) _ _ ⟨rfl, (h64.facts (.atm (.s .z) .nil)).picks (.cons (.s .z) (.cons (.s .z) (.cons .z .nil)))⟩ hF
                  ·
                    refine Run.skip ?_
                    refine Run.slim [(0, v0), (1, .int .i64 a1), (4, u1), (6, u3), (7, (q1 31))] ⟨rfl, rfl, rfl, rfl, rfl, trivial⟩ ?_
                    exact hj4 ((⟨(IntKind.u8.wrap (Int.tdiv x2 2)), (IntKind.u8.wrap (Int.tdiv x3 2)), (IntKind.u8.wrap (Int.tdiv x4 4)), x5, (Int.tmod (IntKind.i64.wrap x6) 4), (Int.tmod (IntKind.i64.wrap x7) 4), (IntKind.i64.wrap (Int.tdiv (IntKind.i64.wrap x8) 4)), 0, []⟩ : Message_)) _ _ ⟨rfl, (h42.facts (.atm .z .nil)).picks (.cons .z (.cons .z (.cons .z .nil)))⟩ hF
            ·
              refine RunL.caseb hF (fun e22 hF => ?_) (fun e22 hF => ?_)
              ·
                refine RunL.op (OpS.pass rfl rfl rfl ?_)
                refine RunL.op (OpS.pass rfl rfl rfl ?_)
                refine RunL.op (OpS.pass rfl rfl rfl ?_)
                refine RunL.op (OpS.pass rfl rfl rfl ?_)
                refine RunL.op (OpS.pick rfl rfl rfl rfl ?_)
                refine RunL.nil ?_
                refine Run.slim [(87, .bool true), (0, v0), (1, .int .i64 a1), (4, u1), (6, u3), (7, (q1 31))] ⟨rfl, rfl, rfl, rfl, rfl, rfl, trivial⟩ ?_
                refine Run.slim [(0, v0), (1, .int .i64 a1), (4, u1), (6, u3), (7, (q1 31)), (87, .bool true)] ⟨rfl, rfl, rfl, rfl, rfl, rfl, trivial⟩ ?_
                exact hj3 (true) _ _ ⟨rfl, (h41.facts (.atm .z .nil)).picks (.cons .z (.cons .z (.cons .z .nil)))⟩ hF
              ·
                refine RunL.op (OpS.fbox (o3 := 1) h41 (.s (.s .z)) PA.z fa51_1 rfl rfl rfl rfl ?_)
                refine RunL.op (OpS.loadBi h41 (.s (.s .z)) PA.a (Get.fld Message_.f1) ty5 rfl rfl rfl ?_)
                obtain ⟨y4, e23, hF⟩ := bindP_use hF
                refine RunL.op (OpS.callP h41 Try.func54 rfl rfl rfl rfl (vs := [.int .u8 ((⟨(IntKind.u8.wrap (Int.tdiv x2 2)), (IntKind.u8.wrap (Int.tdiv x3 2)), (IntKind.u8.wrap (Int.tdiv x4 4)), x5, (Int.tmod (IntKind.i64.wrap x6) 4), (Int.tmod (IntKind.i64.wrap x7) 4), (IntKind.i64.wrap (Int.tdiv (IntKind.i64.wrap x8) 4)), 0, []⟩ : Message_).From)]) rfl (ref20_Address_ok e23) .nil ?_)
                rintro _ w22 _ _ _ ⟨rfl, rfl, rfl, rfl⟩ h65
                have h66 := h65 rfl rfl
                simp only [List.cons_append, List.nil_append] at h66
                refine RunL.op (OpS.not rfl rfl rfl ?_)
                refine RunL.op (OpS.pick rfl rfl rfl rfl ?_)
                refine RunL.nil ?_
                refine Run.slim [(87, .bool (!y4)), (0, v0), (1, .int .i64 a1), (4, u1), (6, u3), (7, (q1 31))] ⟨rfl, rfl, rfl, rfl, rfl, rfl, trivial⟩ ?_
                refine Run.slim [(0, v0), (1, .int .i64 a1), (4, u1), (6, u3), (7, (q1 31)), (87, .bool (!y4))] ⟨rfl, rfl, rfl, rfl, rfl, rfl, trivial⟩ ?_
                exact hj3 (!y4) _ _ ⟨rfl, (h66.facts (.atm .z .nil)).picks (.cons .z (.cons .z (.cons .z .nil)))⟩ hF
        ·
          refine RunL.caseb hF (fun e24 hF => ?_) (fun e24 hF => ?_)
          ·
            refine RunL.op (OpS.pass rfl rfl rfl ?_)
            refine RunL.op (OpS.pass rfl rfl rfl ?_)
            refine RunL.op (OpS.pass rfl rfl rfl ?_)
            refine RunL.op (OpS.pass rfl rfl rfl ?_)
            refine RunL.op (OpS.pass rfl rfl rfl ?_)
            refine RunL.op (OpS.pick rfl rfl rfl rfl ?_)
            refine RunL.op (OpS.mv rfl rfl rfl ?_)
            refine RunL.op (OpS.pass rfl rfl rfl ?_)
            refine RunL.op (OpS.pass rfl rfl rfl ?_)
            refine RunL.op (OpS.pass rfl rfl rfl ?_)
            refine RunL.op (OpS.pass rfl rfl rfl ?_)
            refine RunL.op (OpS.pass rfl rfl rfl ?_)
            refine RunL.op (OpS.pass rfl rfl rfl ?_)
            refine RunL.op (OpS.pick rfl rfl rfl rfl ?_)
            refine RunL.nil ?_
            refine Run.slim [(76, .bool true), (7, (q1 31)), (0, v0), (1, .int .i64 a1), (4, u1), (6, u3)] ⟨rfl, rfl, rfl, rfl, rfl, rfl, trivial⟩ ?_
            refine Run.slim [(0, v0), (1, .int .i64 a1), (4, u1), (6, u3), (7, (q1 31)), (76, .bool true)] ⟨rfl, rfl, rfl, rfl, rfl, rfl, trivial⟩ ?_
            exact hj2 (true) _ _ ⟨rfl, (h35.facts (.atm (.s (.s (.s (.s (.s (.s (.s (.s (.s .z))))))))) .nil)).picks (.cons (.s .z) (.cons (.s .z) (.cons .z .nil)))⟩ hF
          ·
            refine RunL.op (OpS.mv rfl rfl rfl ?_)
            obtain ⟨x12, e25, hF⟩ := bindP_use hF
            refine RunL.op (OpS.iptr h35 Try.underlying22 ty5 rfl rfl rfl rfl (V.at (.s (.s (.s (.s (.s (.s (.s (.s (.s .z)))))))))) e25 (fun u21 h67 => ?_))
            refine RunL.op (OpS.loadi h67 ty5 rfl rfl rfl .z ?_)
            refine RunL.op (OpS.rem rfl rfl rfl rfl (by decide) ?_)
            refine RunL.op (OpS.bin rfl rfl rfl rfl rfl ?_)
            refine RunL.op (OpS.pick rfl rfl rfl rfl ?_)
            refine RunL.op (OpS.mv rfl rfl rfl ?_)
            refine RunL.caseb hF (fun e26 hF => ?_) (fun e26 hF => ?_)
            ·
              refine RunL.op (OpS.pass rfl rfl rfl ?_)
              refine RunL.op (OpS.pass rfl rfl rfl ?_)
              refine RunL.op (OpS.pass rfl rfl rfl ?_)
              refine RunL.op (OpS.pass rfl rfl rfl ?_)
              refine RunL.op (OpS.pass rfl rfl rfl ?_)
              refine RunL.op (OpS.pass rfl rfl rfl ?_)
              refine RunL.op (OpS.pick rfl rfl rfl rfl ?_)
              refine RunL.nil ?_
              refine Run.slim [(76, .bool true), (7, (q1 31)), (0, v0), (1, .int .i64 a1), (4, u1), (6, u3)] ⟨rfl, rfl, rfl, rfl, rfl, rfl, trivial⟩ ?_
              refine Run.slim [(0, v0), (1, .int .i64 a1), (4, u1), (6, u3), (7, (q1 31)), (76, .bool true)] ⟨rfl, rfl, rfl, rfl, rfl, rfl, trivial⟩ ?_
              exact hj2 (true) _ _ ⟨rfl, (h67.facts (.atm (.s (.s (.s (.s (.s (.s (.s (.s (.s (.s .z)))))))))) .nil)).picks (.cons (.s .z) (.cons (.s .z) (.cons .z .nil)))⟩ hF
            ·
              refine RunL.op (OpS.fbox (o3 := 2) h67 .z PA.z fa51_2 rfl rfl rfl rfl ?_)
              refine RunL.op (OpS.loadBi h67 .z PA.a (Get.fld Message_.f2) ty5 rfl rfl rfl ?_)
              refine RunL.op (OpS.conv Try.underlying5 Try.underlying3 rfl rfl rfl ?_)
              refine RunL.op (OpS.rem rfl rfl rfl rfl (by decide) ?_)
              refine RunL.op (OpS.mv rfl rfl rfl ?_)
              refine RunL.op (OpS.bin rfl rfl rfl rfl rfl ?_)
              refine RunL.op (OpS.pick rfl rfl rfl rfl ?_)
              refine RunL.nil ?_
              refine Run.slim [(76, .bool ((Int.tmod (IntKind.i64.wrap ((⟨(IntKind.u8.wrap (Int.tdiv x2 2)), (IntKind.u8.wrap (Int.tdiv x3 2)), (IntKind.u8.wrap (Int.tdiv x4 4)), x5, (Int.tmod (IntKind.i64.wrap x6) 4), (Int.tmod (IntKind.i64.wrap x7) 4), (IntKind.i64.wrap (Int.tdiv (IntKind.i64.wrap x8) 4)), 0, []⟩ : Message_).Function)) 2) != a1)), (7, (q1 31)), (0, v0), (1, .int .i64 a1), (4, u1), (6, u3)] ⟨rfl, rfl, rfl, rfl, rfl, rfl, trivial⟩ ?_
              refine Run.slim [(0, v0), (1, .int .i64 a1), (4, u1), (6, u3), (7, (q1 31)), (76, .bool ((Int.tmod (IntKind.i64.wrap ((⟨(IntKind.u8.wrap (Int.tdiv x2 2)), (IntKind.u8.wrap (Int.tdiv x3 2)), (IntKind.u8.wrap (Int.tdiv x4 4)), x5, (Int.tmod (IntKind.i64.wrap x6) 4), (Int.tmod (IntKind.i64.wrap x7) 4), (IntKind.i64.wrap (Int.tdiv (IntKind.i64.wrap x8) 4)), 0, []⟩ : Message_).Function)) 2) != a1))] ⟨rfl, rfl, rfl, rfl, rfl, rfl, trivial⟩ ?_
              exact hj2 ((Int.tmod (IntKind.i64.wrap ((⟨(IntKind.u8.wrap (Int.tdiv x2 2)), (IntKind.u8.wrap (Int.tdiv x3 2)), (IntKind.u8.wrap (Int.tdiv x4 4)), x5, (Int.tmod (IntKind.i64.wrap x6) 4), (Int.tmod (IntKind.i64.wrap x7) 4), (IntKind.i64.wrap (Int.tdiv (IntKind.i64.wrap x8) 4)), 0, []⟩ : Message_).Function)) 2) != a1) _ _ ⟨rfl, (h67.facts (.atm (.s (.s (.s (.s (.s (.s (.s (.s (.s (.s .z)))))))))) .nil)).picks (.cons (.s .z) (.cons (.s .z) (.cons .z .nil)))⟩ hF
    ·
      refine RunL.caseb hF (fun e27 hF => ?_) (fun e27 hF => ?_)
      ·
        refine RunL.op (OpS.pass rfl rfl rfl ?_)
        refine RunL.op (OpS.pass rfl rfl rfl ?_)
        refine RunL.op (OpS.pass rfl rfl rfl ?_)
        refine RunL.op (OpS.pass rfl rfl rfl ?_)
        refine RunL.op (OpS.pick rfl rfl rfl rfl ?_)
        refine RunL.nil ?_
        refine Run.slim [(24, .bool true), (6, u3), (4, u1), (0, v0), (1, .int .i64 a1)] ⟨rfl, rfl, rfl, rfl, rfl, trivial⟩ ?_
        refine Run.slim [(0, v0), (1, .int .i64 a1), (4, u1), (6, u3), (24, .bool true)] ⟨rfl, rfl, rfl, rfl, rfl, trivial⟩ ?_
        exact hj1 (true) _ _ ⟨rfl, (h10.facts (.atm (.s (.s .z)) .nil)).picks (.cons (.s .z) (.cons .z .nil))⟩ hF
      ·
        refine RunL.op (OpS.mv rfl rfl rfl ?_)
        obtain ⟨x13, e28, hF⟩ := bindP_use hF
        refine RunL.op (OpS.sub h10 Try.underlying22 ty5 rfl rfl rfl rfl rfl (V.at (.s (.s .z))) e28 (fun u22 h68 => ?_))
        obtain ⟨y5, e29, hF⟩ := bindP_use hF
        refine RunL.op (OpS.callP h68 Try.func62 rfl rfl rfl rfl (vs := [u22]) rfl (ref01_Sum8_ok e29) (.cons (f := false) (V.at .z) .nil) ?_)
        rintro _ w23 _ _ _ ⟨rfl, rfl, rfl, rfl⟩ h69
        have h70 := h69 rfl rfl
        simp only [List.cons_append, List.nil_append] at h70
        refine RunL.op (OpS.bin rfl rfl rfl rfl rfl ?_)
        refine RunL.op (OpS.pick rfl rfl rfl rfl ?_)
        refine RunL.nil ?_
        refine Run.slim [(24, .bool (y5 != 0)), (6, u3), (4, u1), (0, v0), (1, .int .i64 a1)] ⟨rfl, rfl, rfl, rfl, rfl, trivial⟩ ?_
        refine Run.slim [(0, v0), (1, .int .i64 a1), (4, u1), (6, u3), (24, .bool (y5 != 0))] ⟨rfl, rfl, rfl, rfl, rfl, trivial⟩ ?_
        exact hj1 (y5 != 0) _ _ ⟨rfl, (h70.facts (.atm (.s (.s (.s .z))) .nil)).picks (.cons (.s .z) (.cons .z .nil))⟩ hF
theorem ref23_ParseResponse_ok {fuel : Nat} {a0 : List Int} {y : Message_ × Int} (hF : ref23_ParseResponse fuel a0 = some y) {w : World} {v0 : Value} :
    Spec Try.prog 47 [v0].toArray w [(false, .val (Rep.slice (Rep.int .u8)) v0 a0)] [] (fun v Γr Ωr Ωo => ∃ u0 : Value, v = .tuple #[u0, .int .i64 y.2] ∧ Γr = [(true, .val Message_.rep u0 y.1)] ∧ Ωr = [] ∧ Ωo = []) := by
  refine Spec.of (L := [(0, v0)]) Try.func47 rfl ⟨rfl, trivial⟩ rfl (fun e h => ?_)
  unfold ref23_ParseResponse at hF
  refine Run.seq ?_
  refine Run.reg ?_
  refine RunL.op (OpS.alloc h ti51 Message_.zr rfl rfl (fun u1 w1 h1 => ?_))
  refine RunL.op (OpS.as rfl rfl rfl ?_)
  refine RunL.nil ?_
  refine Run.slim [(2, u1), (0, v0)] ⟨rfl, rfl, trivial⟩ ?_
  refine Run.seq ?_
  refine Run.reg ?_
  refine RunL.op (OpS.mv rfl rfl rfl ?_)
  obtain ⟨y1, e1, hF⟩ := bindP_use hF
  refine RunL.op (OpS.callP h1 Try.func56 rfl rfl rfl rfl (vs := [v0, .int .i64 1]) rfl (ref23_parse_ok e1) (.cons (f := false) (V.at .z) .nil) ?_)
  rintro _ w2 _ _ _ ⟨u2, rfl, rfl, rfl, rfl⟩ h2
  have h3 := h2 rfl rfl
  simp only [List.cons_append, List.nil_append] at h3
  refine RunL.op (OpS.ext rfl rfl rfl rfl ?_)
  refine RunL.op (OpS.ext rfl rfl rfl rfl ?_)
  refine RunL.op (OpS.storeB (f' := true) h3 .z PA.z Put.id ty51 rfl rfl rfl (V.at .z) (.inl rfl) (fun w3 h4 => ?_))
  refine RunL.op (OpS.as rfl rfl rfl ?_)
  refine RunL.nil ?_
  refine Run.slim [(3, .int .i64 y1.2), (2, u1)] ⟨rfl, rfl, trivial⟩ ?_
  obtain ⟨u3, hu1, h5⟩ := res_box h4 .z ty51
  refine Run.retP rfl (.cell rfl hu1 (.tmp rfl .nil)) ?_
  cases hF
  exact Post.mk' ⟨u3, rfl, rfl, rfl, rfl⟩ (h5.picks .nil) (.val (V.at .z) .nil)
theorem ref01_Same_ok {fuel : Nat} {a0 : List Int} {a1 : List Int} {y : Bool} (hF : ref01_Same fuel a0 a1 = some y) {w : World} {v0 v1 : Value} :
    Spec Try.prog 63 [v0, v1].toArray w [(false, .val (Rep.slice (Rep.int .u8)) v0 a0), (false, .val (Rep.slice (Rep.int .u8)) v1 a1)] [] (fun v Γr Ωr Ωo => v = .bool y ∧ Γr = [] ∧ Ωr = [] ∧ Ωo = []) := by
  refine Spec.of (L := [(0, v0), (1, v1)]) Try.func63 rfl ⟨rfl, rfl, trivial⟩ rfl (fun e h => ?_)
  unfold ref01_Same at hF
  refine Run.seq ?_
  refine Run.reg ?_
  refine RunL.op (OpS.as rfl rfl rfl ?_)
  refine RunL.nil ?_
  refine Run.slim [(0, v0), (1, v1)] ⟨rfl, rfl, trivial⟩ ?_
  refine Run.seq ?_
  refine Run.seq ?_
  refine Run.reg ?_
  refine RunL.op (OpS.mv rfl rfl rfl ?_)
  refine RunL.op (OpS.len h Try.underlying22 rfl rfl rfl (V.at .z) ?_)
  refine RunL.op (OpS.mv rfl rfl rfl ?_)
  refine RunL.op (OpS.len h Try.underlying22 rfl rfl rfl (V.at (.s .z)) ?_)
  refine RunL.op (OpS.bin rfl rfl rfl rfl rfl ?_)
  refine RunL.nil ?_
  refine Run.slim [(10, .bool ((a0.length : Int) != (a1.length : Int))), (0, v0), (1, v1)] ⟨rfl, rfl, rfl, trivial⟩ ?_
  refine Run.ite rfl hF (fun e1 hF => ?_) (fun e1 hF => ?_)
  ·
    refine Run.seq ?_
    refine Run.reg ?_
    refine RunL.op (OpS.as rfl rfl rfl ?_)
    refine RunL.nil ?_
    refine Run.slim [(4, .bool false)] ⟨rfl, trivial⟩ ?_
    refine Run.retP rfl (.tmp rfl .nil) ?_
    cases hF
    exact Post.mk' ⟨rfl, rfl, rfl, rfl⟩ (h.picks .nil) .nil
  ·
    refine Run.skip ?_
    refine Run.seq ?_
    refine Run.seq ?_
    refine Run.reg ?_
    refine RunL.op (OpS.as rfl rfl rfl ?_)
    refine RunL.nil ?_
    refine Run.slim [(5, .int .i64 0), (0, v0), (1, v1)] ⟨rfl, rfl, rfl, trivial⟩ ?_
    refine Run.block ?_
    refine Run.slim [(0, v0), (1, v1), (5, .int .i64 0)] ⟨rfl, rfl, rfl, trivial⟩ ?_
    refine Run.loopP (σ := Int) (fun s_ L_ w_ => L_ = [(0, v0), (1, v1), (5, .int .i64 s_)] ∧ St e w_ [(false, .val (Rep.slice (Rep.int .u8)) v0 a0), (false, .val (Rep.slice (Rep.int .u8)) v1 a1)] []) hF ⟨rfl, (h.facts (.atm .z (.atm (.s .z) .nil))).picks .nil⟩ (fun k1 hk1 s1 _ w1 hI hF => ?_)
    obtain ⟨rfl, h1⟩ := hI
    refine Run.seq ?_
    refine Run.seq ?_
    refine Run.reg ?_
    refine RunL.op (OpS.mv rfl rfl rfl ?_)
    refine RunL.op (OpS.mv rfl rfl rfl ?_)
    refine RunL.op (OpS.len h1 Try.underlying22 rfl rfl rfl (V.at .z) ?_)
    refine RunL.op (OpS.bin rfl rfl rfl rfl rfl ?_)
    refine RunL.nil ?_
    refine Run.slim [(14, .bool (decide (s1 < (a0.length : Int)))), (0, v0), (1, v1), (5, .int .i64 s1)] ⟨rfl, rfl, rfl, rfl, trivial⟩ ?_
    refine Run.ite rfl hF (fun e2 hF => ?_) (fun e2 hF => ?_)
    ·
      refine Run.skip ?_
      refine Run.seq ?_
      refine Run.block ?_
      refine Run.seq ?_
      obtain ⟨x1, e3, hF⟩ := bindP_use hF
      obtain ⟨x2, e4, hF⟩ := bindP_use hF
      refine Run.drawV (Ωs := []) [⟨some 17, some (v0), fun _ => [], fun ds_ u_ => [], [], [], none⟩, ⟨some 18, some (.int .i64 s1), fun _ => [], fun ds_ u_ => [], [], [], none⟩, ⟨some 19, none, fun u_ => [(false, .ptr (Rep.int .u8) u_ x1)], fun ds_ u_ => [], [], [], none⟩, ⟨some 20, some (.int .u8 x1), fun _ => [], fun ds_ u_ => [], [], [], none⟩, ⟨some 21, some (v1), fun _ => [], fun ds_ u_ => [], [], [], none⟩, ⟨some 22, some (.int .i64 s1), fun _ => [], fun ds_ u_ => [], [], [], none⟩, ⟨some 23, none, fun u_ => [(false, .ptr (Rep.int .u8) u_ x2)], fun ds_ u_ => [], [], [], none⟩, ⟨some 24, some (.int .u8 x2), fun _ => [], fun ds_ u_ => [], [], [], none⟩, ⟨some 25, some (.bool (x1 != x2)), fun _ => [], fun ds_ u_ => [], [], [], none⟩] [[], [], [0, 1], [2], [], [], [4, 5], [6], [3, 7]] [] [0, 1, 2, 3, 4, 5, 6, 7, 8] Try_mixed rfl rfl rfl h1 (.cons ?_ (.cons ?_ (.cons ?_ (.cons ?_ (.cons ?_ (.cons ?_ (.cons ?_ (.cons ?_ (.cons ?_ .nil))))))))) (fun q1 w hq1 h => ?_)
      · intro q1 w Γx Ωx h
        refine OpS.mv rfl rfl rfl ?_
        exact ⟨undef, rfl, trivial, h⟩
      · intro q1 w Γx Ωx h
        refine OpS.mv rfl rfl rfl ?_
        exact ⟨undef, rfl, trivial, h⟩
      · intro q1 w Γx Ωx h
        refine OpS.iptr h Try.underlying22 ty5 rfl rfl rfl rfl (V.at .z) e3 (fun u h4 => ?_)
        exact ⟨u, rfl, trivial, h4⟩
      · intro q1 w Γx Ωx h
        refine OpS.loadi h ty5 rfl rfl rfl .z ?_
        exact ⟨undef, rfl, trivial, h⟩
      · intro q1 w Γx Ωx h
        refine OpS.mv rfl rfl rfl ?_
        exact ⟨undef, rfl, trivial, h⟩
      · intro q1 w Γx Ωx h
        refine OpS.mv rfl rfl rfl ?_
        exact ⟨undef, rfl, trivial, h⟩
      · intro q1 w Γx Ωx h
        refine OpS.iptr h Try.underlying22 ty5 rfl rfl rfl rfl (V.at (.s .z)) e4 (fun u h5 => ?_)
        exact ⟨u, rfl, trivial, h5⟩
      · intro q1 w Γx Ωx h
        refine OpS.loadi h ty5 rfl rfl rfl .z ?_
        exact ⟨undef, rfl, trivial, h⟩
      · intro q1 w Γx Ωx h
        refine OpS.bin rfl rfl rfl rfl rfl ?_
        exact ⟨undef, rfl, trivial, h⟩
      have h6 : St e w [(false, .ptr (Rep.int .u8) (q1 2) x1), (false, .ptr (Rep.int .u8) (q1 6) x2), (false, .val (Rep.slice (Rep.int .u8)) v0 a0), (false, .val (Rep.slice (Rep.int .u8)) v1 a1)] [] := h
      refine RunL.nil ?_
      refine Run.slim [(25, .bool (x1 != x2)), (0, v0), (1, v1), (5, .int .i64 s1)] ⟨rfl, rfl, rfl, rfl, trivial⟩ ?_
      refine Run.ite rfl hF (fun e5 hF => ?_) (fun e5 hF => ?_)
      ·
        refine Run.seq ?_
        refine Run.reg ?_
        refine RunL.op (OpS.as rfl rfl rfl ?_)
        refine RunL.nil ?_
        refine Run.slim [(4, .bool false)] ⟨rfl, trivial⟩ ?_
        refine Run.retP rfl (.tmp rfl .nil) ?_
        cases hF
        exact Post.mk' ⟨rfl, rfl, rfl, rfl⟩ (h6.picks .nil) .nil
      ·
        refine Run.skip ?_
        refine Run.endBlock ?_
        refine Run.reg ?_
        refine RunL.op (OpS.mv rfl rfl rfl ?_)
        refine RunL.op (OpS.bin rfl rfl rfl rfl rfl ?_)
        refine RunL.op (OpS.as rfl rfl rfl ?_)
        obtain ⟨x3, e6, hF⟩ := letP_use hF
        refine RunL.name e6 ?_
        refine RunL.nil ?_
        refine Run.slim [(5, .int .i64 x3), (0, v0), (1, v1)] ⟨rfl, rfl, rfl, trivial⟩ ?_
        refine Run.slim [(0, v0), (1, v1), (5, .int .i64 x3)] ⟨rfl, rfl, rfl, trivial⟩ ?_
        exact hk1 (x3) _ _ ⟨rfl, (h6.facts (.atm (.s (.s .z)) (.atm (.s (.s (.s .z))) .nil))).picks .nil⟩ hF
    ·
      refine Run.exit rfl ?_
      refine Run.seq ?_
      refine Run.reg ?_
      refine RunL.op (OpS.as rfl rfl rfl ?_)
      refine RunL.nil ?_
      refine Run.slim [(4, .bool true)] ⟨rfl, trivial⟩ ?_
      refine Run.retP rfl (.tmp rfl .nil) ?_
      cases hF
      exact Post.mk' ⟨rfl, rfl, rfl, rfl⟩ (h1.picks .nil) .nil
set_option maxHeartbeats 8000000 in
theorem ref23_Same_ok {fuel : Nat} {a0 : Message_} {a1 : Message_} {y : Bool} (hF : ref23_Same fuel a0 a1 = some y) {w : World} {v0 v1 : Value} :
    Spec Try.prog 57 [v0, v1].toArray w [(false, .val Message_.rep v0 a0), (false, .val Message_.rep v1 a1)] [] (fun v Γr Ωr Ωo => v = .bool y ∧ Γr = [] ∧ Ωr = [] ∧ Ωo = []) := by
  refine Spec.of (L := [(0, v0), (1, v1)]) Try.func57 rfl ⟨rfl, rfl, trivial⟩ rfl (fun e h => ?_)
  unfold ref23_Same at hF
  refine Run.seq ?_
  refine Run.reg ?_
  refine RunL.op (OpS.boxF h rfl rfl rfl (V.at .z) (fun u1 w1 h1 => ?_))
  refine RunL.op (OpS.boxF h1 rfl rfl rfl (V.at (.s .z)) (fun u2 w2 h2 => ?_))
  refine RunL.op (OpS.as rfl rfl rfl ?_)
  refine RunL.nil ?_
  refine Run.slim [(3, u2), (2, u1)] ⟨rfl, rfl, trivial⟩ ?_
  refine Run.seq ?_
  refine Run.reg ?_
  refine RunL.op (OpS.fbox (o3 := 0) h2 (.s .z) PA.z fa51_0 rfl rfl rfl rfl ?_)
  refine RunL.op (OpS.loadBi h2 (.s .z) PA.a (Get.fld Message_.f0) ty5 rfl rfl rfl ?_)
  refine RunL.op (OpS.fbox (o3 := 0) h2 .z PA.z fa51_0 rfl rfl rfl rfl ?_)
  refine RunL.op (OpS.loadBi h2 .z PA.a (Get.fld Message_.f0) ty5 rfl rfl rfl ?_)
  refine RunL.op (OpS.bin rfl rfl rfl rfl rfl ?_)
  refine RunL.op (OpS.mv rfl rfl rfl ?_)
  refine RunL.caseb hF (fun e1 hF => ?_) (fun e1 hF => ?_)
  ·
    refine RunL.op (OpS.fbox (o3 := 1) h2 (.s .z) PA.z fa51_1 rfl rfl rfl rfl ?_)
    refine RunL.op (OpS.loadBi h2 (.s .z) PA.a (Get.fld Message_.f1) ty5 rfl rfl rfl ?_)
    refine RunL.op (OpS.fbox (o3 := 1) h2 .z PA.z fa51_1 rfl rfl rfl rfl ?_)
    refine RunL.op (OpS.loadBi h2 .z PA.a (Get.fld Message_.f1) ty5 rfl rfl rfl ?_)
    refine RunL.op (OpS.bin rfl rfl rfl rfl rfl ?_)
    refine RunL.op (OpS.pick rfl rfl rfl rfl ?_)
    refine RunL.op (OpS.mv rfl rfl rfl ?_)
    refine RunL.caseb hF (fun e2 hF => ?_) (fun e2 hF => ?_)
    ·
      refine RunL.op (OpS.fbox (o3 := 2) h2 (.s .z) PA.z fa51_2 rfl rfl rfl rfl ?_)
      refine RunL.op (OpS.loadBi h2 (.s .z) PA.a (Get.fld Message_.f2) ty5 rfl rfl rfl ?_)
      refine RunL.op (OpS.fbox (o3 := 2) h2 .z PA.z fa51_2 rfl rfl rfl rfl ?_)
      refine RunL.op (OpS.loadBi h2 .z PA.a (Get.fld Message_.f2) ty5 rfl rfl rfl ?_)
      refine RunL.op (OpS.bin rfl rfl rfl rfl rfl ?_)
      refine RunL.op (OpS.pick rfl rfl rfl rfl ?_)
      refine RunL.op (OpS.mv rfl rfl rfl ?_)
      refine RunL.caseb hF (fun e3 hF => ?_) (fun e3 hF => ?_)
      ·
        refine RunL.op (OpS.fbox (o3 := 3) h2 (.s .z) PA.z fa51_3 rfl rfl rfl rfl ?_)
        refine RunL.op (OpS.loadBi h2 (.s .z) PA.a (Get.fld Message_.f3) ty5 rfl rfl rfl ?_)
        refine RunL.op (OpS.fbox (o3 := 3) h2 .z PA.z fa51_3 rfl rfl rfl rfl ?_)
        refine RunL.op (OpS.loadBi h2 .z PA.a (Get.fld Message_.f3) ty5 rfl rfl rfl ?_)
        refine RunL.op (OpS.bin rfl rfl rfl rfl rfl ?_)
        refine RunL.op (OpS.pick rfl rfl rfl rfl ?_)
        refine RunL.op (OpS.mv rfl rfl rfl ?_)
        refine RunL.caseb hF (fun e4 hF => ?_) (fun e4 hF => ?_)
        ·
          refine RunL.op (OpS.fbox (o3 := 4) h2 (.s .z) PA.z fa51_4 rfl rfl rfl rfl ?_)
          refine RunL.op (OpS.loadBi h2 (.s .z) PA.a (Get.fld Message_.f4) ty3 rfl rfl rfl ?_)
          refine RunL.op (OpS.fbox (o3 := 4) h2 .z PA.z fa51_4 rfl rfl rfl rfl ?_)
          refine RunL.op (OpS.loadBi h2 .z PA.a (Get.fld Message_.f4) ty3 rfl rfl rfl ?_)
          refine RunL.op (OpS.bin rfl rfl rfl rfl rfl ?_)
          refine RunL.op (OpS.pick rfl rfl rfl rfl ?_)
          refine RunL.op (OpS.mv rfl rfl rfl ?_)
          refine RunL.caseb hF (fun e5 hF => ?_) (fun e5 hF => ?_)
          ·
            refine RunL.op (OpS.fbox (o3 := 5) h2 (.s .z) PA.z fa51_5 rfl rfl rfl rfl ?_)
            refine RunL.op (OpS.loadBi h2 (.s .z) PA.a (Get.fld Message_.f5) ty3 rfl rfl rfl ?_)
            refine RunL.op (OpS.fbox (o3 := 5) h2 .z PA.z fa51_5 rfl rfl rfl rfl ?_)
            refine RunL.op (OpS.loadBi h2 .z PA.a (Get.fld Message_.f5) ty3 rfl rfl rfl ?_)
            refine RunL.op (OpS.bin rfl rfl rfl rfl rfl ?_)
            refine RunL.op (OpS.pick rfl rfl rfl rfl ?_)
            refine RunL.op (OpS.mv rfl rfl rfl ?_)
            refine RunL.caseb hF (fun e6 hF => ?_) (fun e6 hF => ?_)
            ·
              refine RunL.op (OpS.fbox (o3 := 6) h2 (.s .z) PA.z fa51_6 rfl rfl rfl rfl ?_)
              refine RunL.op (OpS.loadBi h2 (.s .z) PA.a (Get.fld Message_.f6) ty3 rfl rfl rfl ?_)
              refine RunL.op (OpS.fbox (o3 := 6) h2 .z PA.z fa51_6 rfl rfl rfl rfl ?_)
              refine RunL.op (OpS.loadBi h2 .z PA.a (Get.fld Message_.f6) ty3 rfl rfl rfl ?_)
              refine RunL.op (OpS.bin rfl rfl rfl rfl rfl ?_)
              refine RunL.op (OpS.pick rfl rfl rfl rfl ?_)
              refine RunL.op (OpS.mv rfl rfl rfl ?_)
              refine RunL.caseb hF (fun e7 hF => ?_) (fun e7 hF => ?_)
              ·
                refine RunL.op (OpS.fbox (o3 := 7) h2 (.s .z) PA.z fa51_7 rfl rfl rfl rfl ?_)
                refine RunL.op (OpS.loadBi h2 (.s .z) PA.a (Get.fld Message_.f7) ty5 rfl rfl rfl ?_)
                refine RunL.op (OpS.fbox (o3 := 7) h2 .z PA.z fa51_7 rfl rfl rfl rfl ?_)
                refine RunL.op (OpS.loadBi h2 .z PA.a (Get.fld Message_.f7) ty5 rfl rfl rfl ?_)
                refine RunL.op (OpS.bin rfl rfl rfl rfl rfl ?_)
                refine RunL.op (OpS.pick rfl rfl rfl rfl ?_)
                refine RunL.op (OpS.mv rfl rfl rfl ?_)
                refine RunL.caseb hF (fun e8 hF => ?_) (fun e8 hF => ?_)
                ·
                  refine RunL.op (OpS.fbox (o3 := 8) h2 (.s .z) PA.z fa51_8 rfl rfl rfl rfl ?_)
                  refine RunL.op (OpS.loadB h2 (.s .z) PA.a (Get.fld Message_.f8) ty22 rfl rfl rfl (fun u3 h3 => ?_))
                  refine RunL.op (OpS.fbox (o3 := 8) h3 .z PA.z fa51_8 rfl rfl rfl rfl ?_)
                  refine RunL.op (OpS.loadB h3 .z PA.a (Get.fld Message_.f8) ty22 rfl rfl rfl (fun u4 h4 => ?_))
                  obtain ⟨y1, e9, hF⟩ := bindP_use hF
                  refine RunL.op (OpS.callP h4 Try.func63 rfl rfl rfl rfl (vs := [u3, u4]) rfl (ref01_Same_ok e9) (.cons (f := false) (V.at (.s .z)) (.cons (f := false) (V.at .z) .nil)) ?_)
                  rintro _ w3 _ _ _ ⟨rfl, rfl, rfl, rfl⟩ h5
                  have h6 := h5 rfl rfl
                  simp only [List.cons_append, List.nil_append] at h6
                  refine RunL.op (OpS.pick rfl rfl rfl rfl ?_)
                  refine RunL.op (OpS.as rfl rfl rfl ?_)
                  refine RunL.nil ?_
                  refine Run.slim [(4, .bool y1)] ⟨rfl, trivial⟩ ?_
                  refine Run.retP rfl (.tmp rfl .nil) ?_
                  cases hF
                  exact Post.mk' ⟨rfl, rfl, rfl, rfl⟩ (h6.picks .nil) .nil
                ·
                  refine RunL.op (OpS.pass rfl rfl rfl ?_)
                  refine RunL.op (OpS.pass rfl rfl rfl ?_)
                  refine RunL.op (OpS.pass rfl rfl rfl ?_)
                  refine RunL.op (OpS.pass rfl rfl rfl ?_)
                  refine RunL.op (OpS.pass rfl rfl rfl ?_)
                  refine RunL.op (OpS.pick rfl rfl rfl rfl ?_)
                  refine RunL.op (OpS.as rfl rfl rfl ?_)
                  refine RunL.nil ?_
                  refine Run.slim [(4, .bool false)] ⟨rfl, trivial⟩ ?_
                  refine Run.retP rfl (.tmp rfl .nil) ?_
                  cases hF
                  exact Post.mk' ⟨rfl, rfl, rfl, rfl⟩ (h2.picks .nil) .nil
              ·
                refine RunL.op (OpS.pass rfl rfl rfl ?_)
                refine RunL.op (OpS.pass rfl rfl rfl ?_)
                refine RunL.op (OpS.pass rfl rfl rfl ?_)
                refine RunL.op (OpS.pass rfl rfl rfl ?_)
                refine RunL.op (OpS.pass rfl rfl rfl ?_)
                refine RunL.op (OpS.pick rfl rfl rfl rfl ?_)
                refine RunL.op (OpS.mv rfl rfl rfl ?_)
                refine RunL.op (OpS.pass rfl rfl rfl ?_)
                refine RunL.op (OpS.pass rfl rfl rfl ?_)
                refine RunL.op (OpS.pass rfl rfl rfl ?_)
                refine RunL.op (OpS.pass rfl rfl rfl ?_)
                refine RunL.op (OpS.pass rfl rfl rfl ?_)
                refine RunL.op (OpS.pick rfl rfl rfl rfl ?_)
                refine RunL.op (OpS.as rfl rfl rfl ?_)
                refine RunL.nil ?_
                refine Run.slim [(4, .bool false)] ⟨rfl, trivial⟩ ?_
                refine Run.retP rfl (.tmp rfl .nil) ?_
                cases hF
                exact Post.mk' ⟨rfl, rfl, rfl, rfl⟩ (h2.picks .nil) .nil
            ·
              refine RunL.op (OpS.pass rfl rfl rfl ?_)
              refine RunL.op (OpS.pass rfl rfl rfl ?_)
              refine RunL.op (OpS.pass rfl rfl rfl ?_)
              refine RunL.op (OpS.pass rfl rfl rfl ?_)
              refine RunL.op (OpS.pass rfl rfl rfl ?_)
              refine RunL.op (OpS.pick rfl rfl rfl rfl ?_)
              refine RunL.op (OpS.mv rfl rfl rfl ?_)
              refine RunL.op (OpS.pass rfl rfl rfl ?_)
              refine RunL.op (OpS.pass rfl rfl rfl ?_)
              refine RunL.op (OpS.pass rfl rfl rfl ?_)
              refine RunL.op (OpS.pass rfl rfl rfl ?_)
              refine RunL.op (OpS.pass rfl rfl rfl ?_)
              refine RunL.op (OpS.pick rfl rfl rfl rfl ?_)
              refine RunL.op (OpS.mv rfl rfl rfl ?_)
              refine RunL.op (OpS.pass rfl rfl rfl ?_)
              refine RunL.op (OpS.pass rfl rfl rfl ?_)
              refine RunL.op (OpS.pass rfl rfl rfl ?_)
              refine RunL.op (OpS.pass rfl rfl rfl ?_)
              refine RunL.op (OpS.pass rfl rfl rfl ?_)
              refine RunL.op (OpS.pick rfl rfl rfl rfl ?_)
              refine RunL.op (OpS.as rfl rfl rfl ?_)
              refine RunL.nil ?_
              refine Run.slim [(4, .bool false)] ⟨rfl, trivial⟩ ?_
              refine Run.retP rfl (.tmp rfl .nil) ?_
              cases hF
              exact Post.mk' ⟨rfl, rfl, rfl, rfl⟩ (h2.picks .nil) .nil
          ·
            refine RunL.op (OpS.pass rfl rfl rfl ?_)
            refine RunL.op (OpS.pass rfl rfl rfl ?_)
            refine RunL.op (OpS.pass rfl rfl rfl ?_)
            refine RunL.op (OpS.pass rfl rfl rfl ?_)
            refine RunL.op (OpS.pass rfl rfl rfl ?_)
            refine RunL.op (OpS.pick rfl rfl rfl rfl ?_)
            refine RunL.op (OpS.mv rfl rfl rfl ?_)
            refine RunL.op (OpS.pass rfl rfl rfl ?_)
            refine RunL.op (OpS.pass rfl rfl rfl ?_)
            refine RunL.op (OpS.pass rfl rfl rfl ?_)
            refine RunL.op (OpS.pass rfl rfl rfl ?_)
            refine RunL.op (OpS.pass rfl rfl rfl ?_)
            refine RunL.op (OpS.pick rfl rfl rfl rfl ?_)
            refine RunL.op (OpS.mv rfl rfl rfl ?_)
            refine RunL.op (OpS.pass rfl rfl rfl ?_)
            refine RunL.op (OpS.pass rfl rfl rfl ?_)
            refine RunL.op (OpS.pass rfl rfl rfl ?_)
            refine RunL.op (OpS.pass rfl rfl rfl ?_)
            refine RunL.op (OpS.pass rfl rfl rfl ?_)
            refine RunL.op (OpS.pick rfl rfl rfl rfl ?_)
            refine RunL.op (OpS.mv rfl rfl rfl ?_)
            refine RunL.op (OpS.pass rfl rfl rfl ?_)
            refine RunL.op (OpS.pass rfl rfl rfl ?_)
            refine RunL.op (OpS.pass rfl rfl rfl ?_)
            refine RunL.op (OpS.pass rfl rfl rfl ?_)
            refine RunL.op (OpS.pass rfl rfl rfl ?_)
            refine RunL.op (OpS.pick rfl rfl rfl rfl ?_)
            refine RunL.op (OpS.as rfl rfl rfl ?_)
            refine RunL.nil ?_
            refine Run.slim [(4, .bool false)] ⟨rfl, trivial⟩ ?_
            refine Run.retP rfl (.tmp rfl .nil) ?_
            cases hF
            exact Post.mk' ⟨rfl, rfl, rfl, rfl⟩ (h2.picks .nil) .nil
        ·
          refine RunL.op (OpS.pass rfl rfl rfl ?_)
          refine RunL.op (OpS.pass rfl rfl rfl ?_)
          refine RunL.op (OpS.pass rfl rfl rfl ?_)
          refine RunL.op (OpS.pass rfl rfl rfl ?_)
          refine RunL.op (OpS.pass rfl rfl rfl ?_)
          refine RunL.op (OpS.pick rfl rfl rfl rfl ?_)
          refine RunL.op (OpS.mv rfl rfl rfl ?_)
          refine RunL.op (OpS.pass rfl rfl rfl ?_)
          refine RunL.op (OpS.pass rfl rfl rfl ?_)
          refine RunL.op (OpS.pass rfl rfl rfl ?_)
          refine RunL.op (OpS.pass rfl rfl rfl ?_)
          refine RunL.op (OpS.pass rfl rfl rfl ?_)
          refine RunL.op (OpS.pick rfl rfl rfl rfl ?_)
          refine RunL.op (OpS.mv rfl rfl rfl ?_)
          refine RunL.op (OpS.pass rfl rfl rfl ?_)
          refine RunL.op (OpS.pass rfl rfl rfl ?_)
          refine RunL.op (OpS.pass rfl rfl rfl ?_)
          refine RunL.op (OpS.pass rfl rfl rfl ?_)
          refine RunL.op (OpS.pass rfl rfl rfl ?_)
          refine RunL.op (OpS.pick rfl rfl rfl rfl ?_)
          refine RunL.op (OpS.mv rfl rfl rfl ?_)
          refine RunL.op (OpS.pass rfl rfl rfl ?_)
          refine RunL.op (OpS.pass rfl rfl rfl ?_)
          refine RunL.op (OpS.pass rfl rfl rfl ?_)
          refine RunL.op (OpS.pass rfl rfl rfl ?_)
          refine RunL.op (OpS.pass rfl rfl rfl ?_)
          refine RunL.op (OpS.pick rfl rfl rfl rfl ?_)
          refine RunL.op (OpS.mv rfl rfl rfl ?_)
          refine RunL.op (OpS.pass rfl rfl rfl ?_)
          refine RunL.op (OpS.pass rfl rfl rfl ?_)
          refine RunL.op (OpS.pass rfl rfl rfl ?_)
          refine RunL.op (OpS.pass rfl rfl rfl ?_)
          refine RunL.op (OpS.pass rfl rfl rfl ?_)
          refine RunL.op (OpS.pick rfl rfl rfl rfl ?_)
          refine RunL.op (OpS.as rfl rfl rfl ?_)
          refine RunL.nil ?_
          refine Run.slim [(4, .bool false)] ⟨rfl, trivial⟩ ?_
          refine Run.retP rfl (.tmp rfl .nil) ?_
          cases hF
          exact Post.mk' ⟨rfl, rfl, rfl, rfl⟩ (h2.picks .nil) .nil
      ·
        refine RunL.op (OpS.pass rfl rfl rfl ?_)
        refine RunL.op (OpS.pass rfl rfl rfl ?_)
        refine RunL.op (OpS.pass rfl rfl rfl ?_)
        refine RunL.op (OpS.pass rfl rfl rfl ?_)
        refine RunL.op (OpS.pass rfl rfl rfl ?_)
        refine RunL.op (OpS.pick rfl rfl rfl rfl ?_)
        refine RunL.op (OpS.mv rfl rfl rfl ?_)
        refine RunL.op (OpS.pass rfl rfl rfl ?_)
        refine RunL.op (OpS.pass rfl rfl rfl ?_)
        refine RunL.op (OpS.pass rfl rfl rfl ?_)
        refine RunL.op (OpS.pass rfl rfl rfl ?_)
        refine RunL.op (OpS.pass rfl rfl rfl ?_)
        refine RunL.op (OpS.pick rfl rfl rfl rfl ?_)
        refine RunL.op (OpS.mv rfl rfl rfl ?_)
        refine RunL.op (OpS.pass rfl rfl rfl ?_)
        refine RunL.op (OpS.pass rfl rfl rfl ?_)
        refine RunL.op (OpS.pass rfl rfl rfl ?_)
        refine RunL.op (OpS.pass rfl rfl rfl ?_)
        refine RunL.op (OpS.pass rfl rfl rfl ?_)
        refine RunL.op (OpS.pick rfl rfl rfl rfl ?_)
        refine RunL.op (OpS.mv rfl rfl rfl ?_)
        refine RunL.op (OpS.pass rfl rfl rfl ?_)
        refine RunL.op (OpS.pass rfl rfl rfl ?_)
        refine RunL.op (OpS.pass rfl rfl rfl ?_)
        refine RunL.op (OpS.pass rfl rfl rfl ?_)
        refine RunL.op (OpS.pass rfl rfl rfl ?_)
        refine RunL.op (OpS.pick rfl rfl rfl rfl ?_)
        refine RunL.op (OpS.mv rfl rfl rfl ?_)
        refine RunL.op (OpS.pass rfl rfl rfl ?_)
        refine RunL.op (OpS.pass rfl rfl rfl ?_)
        refine RunL.op (OpS.pass rfl rfl rfl ?_)
        refine RunL.op (OpS.pass rfl rfl rfl ?_)
        refine RunL.op (OpS.pass rfl rfl rfl ?_)
        refine RunL.op (OpS.pick rfl rfl rfl rfl ?_)
        refine RunL.op (OpS.mv rfl rfl rfl ?_)
        refine RunL.op (OpS.pass rfl rfl rfl ?_)
        refine RunL.op (OpS.pass rfl rfl rfl ?_)
        refine RunL.op (OpS.pass rfl rfl rfl ?_)
        refine RunL.op (OpS.pass rfl rfl rfl ?_)
        refine RunL.op (OpS.pass rfl rfl rfl ?_)
        refine RunL.op (OpS.pick rfl rfl rfl rfl ?_)
        refine RunL.op (OpS.as rfl rfl rfl ?_)
        refine RunL.nil ?_
        refine Run.slim [(4, .bool false)] ⟨rfl, trivial⟩ ?_
        refine Run.retP rfl (.tmp rfl .nil) ?_
        cases hF
        exact Post.mk' ⟨rfl, rfl, rfl, rfl⟩ (h2.picks .nil) .nil
    ·
      refine RunL.op (OpS.pass rfl rfl rfl ?_)
      refine RunL.op (OpS.pass rfl rfl rfl ?_)
      refine RunL.op (OpS.pass rfl rfl rfl ?_)
      refine RunL.op (OpS.pass rfl rfl rfl ?_)
      refine RunL.op (OpS.pass rfl rfl rfl ?_)
      refine RunL.op (OpS.pick rfl rfl rfl rfl ?_)
      refine RunL.op (OpS.mv rfl rfl rfl ?_)
      refine RunL.op (OpS.pass rfl rfl rfl ?_)
      refine RunL.op (OpS.pass rfl rfl rfl ?_)
      refine RunL.op (OpS.pass rfl rfl rfl ?_)
      refine RunL.op (OpS.pass rfl rfl rfl ?_)
      refine RunL.op (OpS.pass rfl rfl rfl ?_)
      refine RunL.op (OpS.pick rfl rfl rfl rfl ?_)
      refine RunL.op (OpS.mv rfl rfl rfl ?_)
      refine RunL.op (OpS.pass rfl rfl rfl ?_)
      refine RunL.op (OpS.pass rfl rfl rfl ?_)
      refine RunL.op (OpS.pass rfl rfl rfl ?_)
      refine RunL.op (OpS.pass rfl rfl rfl ?_)
      refine RunL.op (OpS.pass rfl rfl rfl ?_)
      refine RunL.op (OpS.pick rfl rfl rfl rfl ?_)
      refine RunL.op (OpS.mv rfl rfl rfl ?_)
      refine RunL.op (OpS.pass rfl rfl rfl ?_)
      refine RunL.op (OpS.pass rfl rfl rfl ?_)
      refine RunL.op (OpS.pass rfl rfl rfl ?_)
      refine RunL.op (OpS.pass rfl rfl rfl ?_)
      refine RunL.op (OpS.pass rfl rfl rfl ?_)
      refine RunL.op (OpS.pick rfl rfl rfl rfl ?_)
      refine RunL.op (OpS.mv rfl rfl rfl ?_)
      refine RunL.op (OpS.pass rfl rfl rfl ?_)
      refine RunL.op (OpS.pass rfl rfl rfl ?_)
      refine RunL.op (OpS.pass rfl rfl rfl ?_)
      refine RunL.op (OpS.pass rfl rfl rfl ?_)
      refine RunL.op (OpS.pass rfl rfl rfl ?_)
      refine RunL.op (OpS.pick rfl rfl rfl rfl ?_)
      refine RunL.op (OpS.mv rfl rfl rfl ?_)
      refine RunL.op (OpS.pass rfl rfl rfl ?_)
      refine RunL.op (OpS.pass rfl rfl rfl ?_)
      refine RunL.op (OpS.pass rfl rfl rfl ?_)
      refine RunL.op (OpS.pass rfl rfl rfl ?_)
      refine RunL.op (OpS.pass rfl rfl rfl ?_)
      refine RunL.op (OpS.pick rfl rfl rfl rfl ?_)
      refine RunL.op (OpS.mv rfl rfl rfl ?_)
      refine RunL.op (OpS.pass rfl rfl rfl ?_)
      refine RunL.op (OpS.pass rfl rfl rfl ?_)
      refine RunL.op (OpS.pass rfl rfl rfl ?_)
      refine RunL.op (OpS.pass rfl rfl rfl ?_)
      refine RunL.op (OpS.pass rfl rfl rfl ?_)
      refine RunL.op (OpS.pick rfl rfl rfl rfl ?_)
      refine RunL.op (OpS.as rfl rfl rfl ?_)
      refine RunL.nil ?_
      refine Run.slim [(4, .bool false)] ⟨rfl, trivial⟩ ?_
      refine Run.retP rfl (.tmp rfl .nil) ?_
      cases hF
      exact Post.mk' ⟨rfl, rfl, rfl, rfl⟩ (h2.picks .nil) .nil
  ·
    refine RunL.op (OpS.pass rfl rfl rfl ?_)
    refine RunL.op (OpS.pass rfl rfl rfl ?_)
    refine RunL.op (OpS.pass rfl rfl rfl ?_)
    refine RunL.op (OpS.pass rfl rfl rfl ?_)
    refine RunL.op (OpS.pass rfl rfl rfl ?_)
    refine RunL.op (OpS.pick rfl rfl rfl rfl ?_)
    refine RunL.op (OpS.mv rfl rfl rfl ?_)
    refine RunL.op (OpS.pass rfl rfl rfl ?_)
    refine RunL.op (OpS.pass rfl rfl rfl ?_)
    refine RunL.op (OpS.pass rfl rfl rfl ?_)
    refine RunL.op (OpS.pass rfl rfl rfl ?_)
    refine RunL.op (OpS.pass rfl rfl rfl ?_)
    refine RunL.op (OpS.pick rfl rfl rfl rfl ?_)
    refine RunL.op (OpS.mv rfl rfl rfl ?_)
    refine RunL.op (OpS.pass rfl rfl rfl ?_)
    refine RunL.op (OpS.pass rfl rfl rfl ?_)
    refine RunL.op (OpS.pass rfl rfl rfl ?_)
    refine RunL.op (OpS.pass rfl rfl rfl ?_)
    refine RunL.op (OpS.pass rfl rfl rfl ?_)
    refine RunL.op (OpS.pick rfl rfl rfl rfl ?_)
    refine RunL.op (OpS.mv rfl rfl rfl ?_)
    refine RunL.op (OpS.pass rfl rfl rfl ?_)
    refine RunL.op (OpS.pass rfl rfl rfl ?_)
    refine RunL.op (OpS.pass rfl rfl rfl ?_)
    refine RunL.op (OpS.pass rfl rfl rfl ?_)
    refine RunL.op (OpS.pass rfl rfl rfl ?_)
    refine RunL.op (OpS.pick rfl rfl rfl rfl ?_)
    refine RunL.op (OpS.mv rfl rfl rfl ?_)
    refine RunL.op (OpS.pass rfl rfl rfl ?_)
    refine RunL.op (OpS.pass rfl rfl rfl ?_)
    refine RunL.op (OpS.pass rfl rfl rfl ?_)
    refine RunL.op (OpS.pass rfl rfl rfl ?_)
    refine RunL.op (OpS.pass rfl rfl rfl ?_)
    refine RunL.op (OpS.pick rfl rfl rfl rfl ?_)
    refine RunL.op (OpS.mv rfl rfl rfl ?_)
    refine RunL.op (OpS.pass rfl rfl rfl ?_)
    refine RunL.op (OpS.pass rfl rfl rfl ?_)
    refine RunL.op (OpS.pass rfl rfl rfl ?_)
    refine RunL.op (OpS.pass rfl rfl rfl ?_)
    refine RunL.op (OpS.pass rfl rfl rfl ?_)
    refine RunL.op (OpS.pick rfl rfl rfl rfl ?_)
    refine RunL.op (OpS.mv rfl rfl rfl ?_)
    refine RunL.op (OpS.pass rfl rfl rfl ?_)
    refine RunL.op (OpS.pass rfl rfl rfl ?_)
    refine RunL.op (OpS.pass rfl rfl rfl ?_)
    refine RunL.op (OpS.pass rfl rfl rfl ?_)
    refine RunL.op (OpS.pass rfl rfl rfl ?_)
    refine RunL.op (OpS.pick rfl rfl rfl rfl ?_)
    refine RunL.op (OpS.mv rfl rfl rfl ?_)
    refine RunL.op (OpS.pass rfl rfl rfl ?_)
    refine RunL.op (OpS.pass rfl rfl rfl ?_)
    refine RunL.op (OpS.pass rfl rfl rfl ?_)
    refine RunL.op (OpS.pass rfl rfl rfl ?_)
    refine RunL.op (OpS.pass rfl rfl rfl ?_)
    refine RunL.op (OpS.pick rfl rfl rfl rfl ?_)
    refine RunL.op (OpS.as rfl rfl rfl ?_)
    refine RunL.nil ?_
    refine Run.slim [(4, .bool false)] ⟨rfl, trivial⟩ ?_
    refine Run.retP rfl (.tmp rfl .nil) ?_
    cases hF
    exact Post.mk' ⟨rfl, rfl, rfl, rfl⟩ (h2.picks .nil) .nil
theorem ref23_Matches_ok {fuel : Nat} {a0 : Message_} {a1 : Message_} {y : Bool} (hF : ref23_Matches fuel a0 a1 = some y) {w : World} {v0 v1 : Value} :
    Spec Try.prog 48 [v0, v1].toArray w [(false, .val Message_.rep v0 a0), (false, .val Message_.rep v1 a1)] [] (fun v Γr Ωr Ωo => v = .bool y ∧ Γr = [] ∧ Ωr = [] ∧ Ωo = []) := by
  refine Spec.of (L := [(0, v0), (1, v1)]) Try.func48 rfl ⟨rfl, rfl, trivial⟩ rfl (fun e h => ?_)
  unfold ref23_Matches at hF
  refine Run.seq ?_
  refine Run.reg ?_
  refine RunL.op (OpS.boxF h rfl rfl rfl (V.at .z) (fun u1 w1 h1 => ?_))
  refine RunL.op (OpS.boxF h1 rfl rfl rfl (V.at (.s .z)) (fun u2 w2 h2 => ?_))
  refine RunL.op (OpS.as rfl rfl rfl ?_)
  refine RunL.nil ?_
  refine Run.slim [(3, u2), (2, u1)] ⟨rfl, rfl, trivial⟩ ?_
  refine Run.seq ?_
  refine Run.seq ?_
  refine Run.reg ?_
  refine RunL.op (OpS.loadB h2 .z PA.z Get.id ty51 rfl rfl rfl (fun u3 h3 => ?_))
  obtain ⟨y1, e1, hF⟩ := bindP_use hF
  refine RunL.op (OpS.callP h3 Try.func44 rfl rfl rfl rfl (vs := [u3]) rfl (ref23_Valid_ok e1) (.cons (f := false) (V.at .z) .nil) ?_)
  rintro _ w3 _ _ _ ⟨rfl, rfl, rfl, rfl⟩ h4
  have h5 := h4 rfl rfl
  simp only [List.cons_append, List.nil_append] at h5
  refine RunL.op (OpS.not rfl rfl rfl ?_)
  refine RunL.op (OpS.mv rfl rfl rfl ?_)
  refine RunL.join (σ := Bool) (fun s_ L_ w_ => L_ = [(2, u1), (3, u2), (15, .bool s_)] ∧ St e w_ [] [(false, .box 51 Message_.rep u1 a0), (false, .box 51 Message_.rep u2 a1)]) hF (fun s1 _ w4 hI hF => ?_) (fun j1 hj1 hF => ?_)
  ·
    obtain ⟨rfl, h6⟩ := hI
    refine Run.ite rfl hF (fun e2 hF => ?_) (fun e2 hF => ?_)
    ·
      refine Run.seq ?_
      refine Run.reg ?_
      refine RunL.op (OpS.as rfl rfl rfl ?_)
      refine RunL.nil ?_
      refine Run.slim [(4, .bool false)] ⟨rfl, trivial⟩ ?_
      refine Run.retP rfl (.tmp rfl .nil) ?_
      cases hF
      exact Post.mk' ⟨rfl, rfl, rfl, rfl⟩ (h6.picks .nil) .nil
    ·
      refine Run.skip ?_
      refine Run.seq ?_
      refine Run.reg ?_
      refine RunL.op (OpS.loadB h6 .z PA.z Get.id ty51 rfl rfl rfl (fun u4 h7 => ?_))
      refine RunL.op (OpS.fbox (o3 := 7) h7 (.s .z) PA.z fa51_7 rfl rfl rfl rfl ?_)
      refine RunL.op (OpS.loadBi h7 (.s .z) PA.a (Get.fld Message_.f7) ty5 rfl rfl rfl ?_)
      refine RunL.op (OpS.fbox (o3 := 8) h7 (.s .z) PA.z fa51_8 rfl rfl rfl rfl ?_)
      refine RunL.op (OpS.loadB h7 (.s .z) PA.a (Get.fld Message_.f8) ty22 rfl rfl rfl (fun u5 h8 => ?_))
      obtain ⟨y2, e3, hF⟩ := bindP_use hF
      refine RunL.op (OpS.callP h8 Try.func25 rfl rfl rfl rfl (vs := [u4, .int .u8 a1.Code, u5]) rfl (ref23_Reply_ok e3) (.cons (f := false) (V.at (.s .z)) (.cons (f := false) (V.at .z) .nil)) ?_)
      rintro _ w5 _ _ _ ⟨u6, rfl, rfl, rfl, rfl⟩ h9
      have h10 := h9 rfl rfl
      simp only [List.cons_append, List.nil_append] at h10
      refine RunL.op (OpS.mv rfl rfl rfl ?_)
      refine RunL.op (OpS.ext rfl rfl rfl rfl ?_)
      refine RunL.op (OpS.ext rfl rfl rfl rfl ?_)
      refine RunL.op (OpS.alloc h10 ti51 Message_.zr rfl rfl (fun u7 w6 h11 => ?_))
      refine RunL.op (OpS.storeB (f' := true) h11 .z PA.z Put.id ty51 rfl rfl rfl (V.at .z) (.inl rfl) (fun w7 h12 => ?_))
      refine RunL.op (OpS.as rfl rfl rfl ?_)
      refine RunL.nil ?_
      refine Run.slim [(6, .int .i64 y2.2), (5, u7), (3, u2)] ⟨rfl, rfl, rfl, trivial⟩ ?_
      refine Run.seq ?_
      refine Run.reg ?_
      refine RunL.op (OpS.mv rfl rfl rfl ?_)
      refine RunL.op (OpS.bin rfl rfl rfl rfl rfl ?_)
      refine RunL.op (OpS.mv rfl rfl rfl ?_)
      refine RunL.caseb hF (fun e4 hF => ?_) (fun e4 hF => ?_)
      ·
        refine RunL.op (OpS.loadB h12 .z PA.z Get.id ty51 rfl rfl rfl (fun u8 h13 => ?_))
        refine RunL.op (OpS.loadB h13 (.s (.s .z)) PA.z Get.id ty51 rfl rfl rfl (fun u9 h14 => ?_))
        obtain ⟨y3, e5, hF⟩ := bindP_use hF
        refine RunL.op (OpS.callP h14 Try.func57 rfl rfl rfl rfl (vs := [u8, u9]) rfl (ref23_Same_ok e5) (.cons (f := true) (V.at (.s .z)) (.cons (f := false) (V.at .z) .nil)) ?_)
        rintro _ w8 _ _ _ ⟨rfl, rfl, rfl, rfl⟩ h15
        have h16 := h15 rfl rfl
        simp only [List.cons_append, List.nil_append] at h16
        refine RunL.op (OpS.pick rfl rfl rfl rfl ?_)
        refine RunL.op (OpS.as rfl rfl rfl ?_)
        refine RunL.nil ?_
        refine Run.slim [(4, .bool y3)] ⟨rfl, trivial⟩ ?_
        refine Run.retP rfl (.tmp rfl .nil) ?_
        cases hF
        exact Post.mk' ⟨rfl, rfl, rfl, rfl⟩ (h16.picks .nil) .nil
      ·
        refine RunL.op (OpS.pass rfl rfl rfl ?_)
        refine RunL.op (OpS.pass rfl rfl rfl ?_)
        refine RunL.op (OpS.pass rfl rfl rfl ?_)
        refine RunL.op (OpS.pick rfl rfl rfl rfl ?_)
        refine RunL.op (OpS.as rfl rfl rfl ?_)
        refine RunL.nil ?_
        refine Run.slim [(4, .bool false)] ⟨rfl, trivial⟩ ?_
        refine Run.retP rfl (.tmp rfl .nil) ?_
        cases hF
        exact Post.mk' ⟨rfl, rfl, rfl, rfl⟩ (h12.picks .nil) .nil
  ·
    refine RunL.caseb hF (fun e6 hF => ?_) (fun e6 hF => ?_)
    ·
      refine RunL.op (OpS.pass rfl rfl rfl ?_)
      refine RunL.op (OpS.pass rfl rfl rfl ?_)
      refine RunL.op (OpS.pass rfl rfl rfl ?_)
      refine RunL.op (OpS.pass rfl rfl rfl ?_)
      refine RunL.op (OpS.pick rfl rfl rfl rfl ?_)
      refine RunL.nil ?_
      refine Run.slim [(15, .bool true), (3, u2), (2, u1)] ⟨rfl, rfl, rfl, trivial⟩ ?_
      refine Run.slim [(2, u1), (3, u2), (15, .bool true)] ⟨rfl, rfl, rfl, trivial⟩ ?_
      exact hj1 (true) _ _ ⟨rfl, (h5.facts .nil).picks (.cons (.s .z) (.cons .z .nil))⟩ hF
    ·
      refine RunL.op (OpS.fbox (o3 := 2) h5 .z PA.z fa51_2 rfl rfl rfl rfl ?_)
      refine RunL.op (OpS.loadBi h5 .z PA.a (Get.fld Message_.f2) ty5 rfl rfl rfl ?_)
      refine RunL.op (OpS.rem rfl rfl rfl rfl (by decide) ?_)
      refine RunL.op (OpS.bin rfl rfl rfl rfl rfl ?_)
      refine RunL.op (OpS.pick rfl rfl rfl rfl ?_)
      refine RunL.nil ?_
      refine Run.slim [(15, .bool ((Int.tmod a1.Function 2) != 1)), (3, u2), (2, u1)] ⟨rfl, rfl, rfl, trivial⟩ ?_
      refine Run.slim [(2, u1), (3, u2), (15, .bool ((Int.tmod a1.Function 2) != 1))] ⟨rfl, rfl, rfl, trivial⟩ ?_
      exact hj1 ((Int.tmod a1.Function 2) != 1) _ _ ⟨rfl, (h5.facts .nil).picks (.cons (.s .z) (.cons .z .nil))⟩ hF
end Lift
