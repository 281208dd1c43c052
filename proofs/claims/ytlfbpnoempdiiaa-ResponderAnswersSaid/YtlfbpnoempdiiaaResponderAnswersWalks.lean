/- Each Go function computes its plain function. Written by lift.py. -/
import Derived.Test.YtlfbpnoempdiiaaResponderAnswersWalksD
set_option linter.unusedVariables false
set_option linter.unusedSimpArgs false
namespace Lift
open Go Go.Proofs
open RunL (op)
set_option maxHeartbeats 8000000 in
theorem law25_ResponderAnswers_ok {fuel : Nat} {a0 : List Int} {a1 : List Int} {a2 : List Int} {a3 : Int} {y : Bool} (hF : law25_ResponderAnswers fuel a0 a1 a2 a3 = some y) {w : World} {v0 v1 v2 : Value} :
  Spec Try.prog 6 [v0, v1, v2, .int .i64 a3].toArray w [(false, .val (Rep.slice (Rep.int .u8)) v0 a0), (false, .val (Rep.slice (Rep.int .u8)) v1 a1), (false, .val (Rep.slice (Rep.int .u8)) v2 a2)] [] (fun v Γr Ωr Ωo => v = .bool y ∧ Γr = [] ∧ Ωr = [] ∧ Ωo = []) := by
 refine Spec.of (L := [(0, v0), (1, v1), (2, v2), (3, .int .i64 a3)]) Try.func6 rfl ⟨rfl, rfl, rfl, rfl, trivial⟩ rfl (fun e h => ?_)
 unfold law25_ResponderAnswers at hF
 refine Run.seq ?_
 refine Run.reg ?_
 refine op (OpS.as rfl rfl rfl ?_)
 refine RunL.nil ?_
 refine Run.slim [(0, v0), (1, v1), (2, v2), (3, .int .i64 a3)] ⟨rfl, rfl, rfl, rfl, trivial⟩ ?_
 refine Run.seq ?_
 refine Run.seq ?_
 refine Run.reg ?_
 obtain ⟨y1, e1, hF⟩ := bindP_use hF
 refine op (OpS.callP h Try.func8 rfl rfl rfl rfl (vs := []) rfl (law25_awake_ok e1) .nil ?_)
 rintro _ w1 _ _ _ ⟨rfl, rfl, rfl, rfl⟩ h1
 have h2 := h1 rfl rfl
 simp only [List.cons_append, List.nil_append] at h2
 refine op (OpS.not rfl rfl rfl ?_)
 refine RunL.nil ?_
 refine Run.slim [(35, .bool (!y1)), (0, v0), (1, v1), (2, v2), (3, .int .i64 a3)] ⟨rfl, rfl, rfl, rfl, rfl, trivial⟩ ?_
 refine Run.ite rfl hF (fun e2 hF => ?_) (fun e2 hF => ?_)
 ·
  refine Run.seq ?_
  refine Run.reg ?_
  refine op (OpS.as rfl rfl rfl ?_)
  refine RunL.nil ?_
  refine Run.slim [(8, .bool false)] ⟨rfl, trivial⟩ ?_
  refine Run.retP rfl (.tmp rfl .nil) ?_
  cases hF
  exact Post.mk' ⟨rfl, rfl, rfl, rfl⟩ (h2.picks .nil) .nil
 ·
  refine Run.skip ?_
  refine Run.seq ?_
  refine Run.seq ?_
  refine Run.reg ?_
  refine op (OpS.mv rfl rfl rfl ?_)
  refine op (OpS.len h2 Try.underlying22 rfl rfl rfl (V.at (.s .z)) ?_)
  refine op (OpS.bin rfl rfl rfl rfl rfl ?_)
  refine op (OpS.mv rfl rfl rfl ?_)
  refine RunL.join (σ := Bool) (fun s_ L_ w_ => L_ = [(0, v0), (1, v1), (2, v2), (3, .int .i64 a3), (43, .bool s_)] ∧ St e w_ [(false, .val (Rep.slice (Rep.int .u8)) v0 a0), (false, .val (Rep.slice (Rep.int .u8)) v1 a1), (false, .val (Rep.slice (Rep.int .u8)) v2 a2)] []) hF (fun s1 _ w2 hI hF => ?_) (fun j1 hj1 hF => ?_)
  ·
   obtain ⟨rfl, h3⟩ := hI
   refine Run.ite rfl hF (fun e3 hF => ?_) (fun e3 hF => ?_)
   ·
    refine Run.seq ?_
    refine Run.reg ?_
    refine op (OpS.as rfl rfl rfl ?_)
    refine RunL.nil ?_
    refine Run.slim [(8, .bool true)] ⟨rfl, trivial⟩ ?_
    refine Run.retP rfl (.tmp rfl .nil) ?_
    cases hF
    exact Post.mk' ⟨rfl, rfl, rfl, rfl⟩ (h3.picks .nil) .nil
   ·
    refine Run.skip ?_
    refine Run.seq ?_
    refine Run.reg ?_
    refine op (OpS.mv rfl rfl rfl ?_)
    obtain ⟨y2, e4, hF⟩ := bindP_use hF
    have h4 := h3.front .nil
    refine op (OpS.callO h4 Try.func9 rfl rfl rfl rfl (vs := [v0, .int .i64 300]) rfl (field_New_ok e4) rfl (.cons (f := false) (V.at .z) .nil) ?_)
    rintro u1 w3 _ _ _ ⟨_, rfl, rfl, rfl, rfl⟩ h5
    have h6 := h5
    simp only [List.cons_append, List.nil_append] at h6
    refine op (OpS.as rfl rfl rfl ?_)
    refine RunL.nil ?_
    refine Run.slim [(9, u1), (1, v1), (2, v2), (3, .int .i64 a3)] ⟨rfl, rfl, rfl, rfl, trivial⟩ ?_
    refine Run.seq ?_
    refine Run.reg ?_
    refine op (OpS.mv rfl rfl rfl ?_)
    obtain ⟨y3, e5, hF⟩ := bindP_use hF
    have h7 := h6.front (.cons .z .nil)
    refine op (OpS.callO h7 Try.func21 rfl rfl rfl rfl (vs := [u1, .int .i64 24]) rfl (law25_play_ok e5) rfl .nil ?_)
    rintro _ w4 _ _ _ ⟨u2, rfl, rfl, rfl, rfl⟩ h8
    have h9 := h8
    simp only [List.cons_append, List.nil_append] at h9
    refine op (OpS.mv rfl rfl rfl ?_)
    refine op (OpS.ext rfl rfl rfl rfl ?_)
    refine op (OpS.ext rfl rfl rfl rfl ?_)
    refine op (OpS.alloc h9 ti29 Responder_.zr rfl rfl (fun u3 w5 h10 => ?_))
    have h11 := (h10.pick .z).weak
    refine op (OpS.storeB (f' := false) h11 .z PA.z Put.id ty29 rfl rfl rfl (V.at .z) (.inr rfl) (fun w6 h12 => ?_))
    refine op (OpS.as rfl rfl rfl ?_)
    refine RunL.nil ?_
    refine Run.slim [(11, .int .i64 y3.2.1), (10, u3), (9, u1), (1, v1), (2, v2), (3, .int .i64 a3)] ⟨rfl, rfl, rfl, rfl, rfl, rfl, trivial⟩ ?_
    refine Run.seq ?_
    refine Run.reg ?_
    refine op (OpS.mv rfl rfl rfl ?_)
    obtain ⟨y4, e6, hF⟩ := bindP_use hF
    have h13 := h12.front (.cons (.s .z) .nil)
    refine op (OpS.callO h13 Try.func12 rfl rfl rfl rfl (vs := [u1, .int .i64 256]) rfl (field_Codes_Next_ok e6) rfl .nil ?_)
    rintro _ w7 _ _ _ ⟨rfl, rfl, rfl, rfl⟩ h14
    have h15 := h14
    simp only [List.cons_append, List.nil_append] at h15
    refine op (OpS.conv Try.underlying3 Try.underlying5 rfl rfl rfl ?_)
    refine op (OpS.as rfl rfl rfl ?_)
    refine RunL.nil ?_
    refine Run.slim [(12, .int .u8 (IntKind.u8.wrap y4.1)), (11, .int .i64 y3.2.1), (10, u3), (9, u1), (1, v1), (2, v2), (3, .int .i64 a3)] ⟨rfl, rfl, rfl, rfl, rfl, rfl, rfl, trivial⟩ ?_
    refine Run.seq ?_
    refine Run.reg ?_
    refine op (OpS.mv rfl rfl rfl ?_)
    obtain ⟨y5, e7, hF⟩ := bindP_use hF
    refine op (OpS.callP h15 Try.func10 rfl rfl rfl rfl (vs := [.int .u8 (IntKind.u8.wrap y4.1)]) rfl (responder_New_ok e7) .nil ?_)
    rintro _ w8 _ _ _ ⟨u4, rfl, rfl, rfl, rfl⟩ h16
    have h17 := h16 rfl rfl
    simp only [List.cons_append, List.nil_append] at h17
    refine op (OpS.mv rfl rfl rfl ?_)
    refine op (OpS.ext rfl rfl rfl rfl ?_)
    refine op (OpS.ext rfl rfl rfl rfl ?_)
    refine op (OpS.alloc h17 ti29 Responder_.zr rfl rfl (fun u5 w9 h18 => ?_))
    refine op (OpS.storeB (f' := true) h18 .z PA.z Put.id ty29 rfl rfl rfl (V.at .z) (.inl rfl) (fun w10 h19 => ?_))
    refine op (OpS.as rfl rfl rfl ?_)
    refine RunL.nil ?_
    refine Run.slim [(14, .int .i64 y5.2), (13, u5), (12, .int .u8 (IntKind.u8.wrap y4.1)), (11, .int .i64 y3.2.1), (10, u3), (9, u1), (1, v1), (2, v2), (3, .int .i64 a3)] ⟨rfl, rfl, rfl, rfl, rfl, rfl, rfl, rfl, rfl, trivial⟩ ?_
    refine Run.seq ?_
    refine Run.reg ?_
    refine op (OpS.mv rfl rfl rfl ?_)
    obtain ⟨y6, e8, hF⟩ := bindP_use hF
    refine op (OpS.callP h19 Try.func22 rfl rfl rfl rfl (vs := [.int .u8 (IntKind.u8.wrap y4.1)]) rfl (ref25_New_ok e8) .nil ?_)
    rintro _ w11 _ _ _ ⟨u6, rfl, rfl, rfl, rfl⟩ h20
    have h21 := h20 rfl rfl
    simp only [List.cons_append, List.nil_append] at h21
    refine op (OpS.mv rfl rfl rfl ?_)
    refine op (OpS.ext rfl rfl rfl rfl ?_)
    refine op (OpS.ext rfl rfl rfl rfl ?_)
    refine op (OpS.alloc h21 ti29 Responder_.zr rfl rfl (fun u7 w12 h22 => ?_))
    refine op (OpS.storeB (f' := true) h22 .z PA.z Put.id ty29 rfl rfl rfl (V.at .z) (.inl rfl) (fun w13 h23 => ?_))
    refine op (OpS.as rfl rfl rfl ?_)
    refine RunL.nil ?_
    refine Run.slim [(16, .int .i64 y6.2), (15, u7), (14, .int .i64 y5.2), (13, u5), (11, .int .i64 y3.2.1), (10, u3), (9, u1), (1, v1), (2, v2), (3, .int .i64 a3)] ⟨rfl, rfl, rfl, rfl, rfl, rfl, rfl, rfl, rfl, rfl, trivial⟩ ?_
    refine Run.seq ?_
    refine Run.seq ?_
    refine Run.reg ?_
    refine op (OpS.mv rfl rfl rfl ?_)
    refine op (OpS.mv rfl rfl rfl ?_)
    refine op (OpS.bin rfl rfl rfl rfl rfl ?_)
    refine op (OpS.mv rfl rfl rfl ?_)
    refine RunL.join (σ := Bool) (fun s_ L_ w_ => L_ = [(1, v1), (2, v2), (3, .int .i64 a3), (9, u1), (10, u3), (11, .int .i64 y3.2.1), (72, .bool s_)] ∧ St e w_ [(false, .val (Rep.slice (Rep.int .u8)) v1 a1), (false, .val (Rep.slice (Rep.int .u8)) v2 a2)] [(false, .box 64 field_Codes.rep u1 y4.2), (false, .box 29 Responder_.rep u3 y3.1)]) hF (fun s2 _ w14 hI hF => ?_) (fun j2 hj2 hF => ?_)
    ·
     obtain ⟨rfl, h24⟩ := hI
     refine Run.ite rfl hF (fun e9 hF => ?_) (fun e9 hF => ?_)
     ·
      refine Run.seq ?_
      refine Run.reg ?_
      refine op (OpS.as rfl rfl rfl ?_)
      refine RunL.nil ?_
      refine Run.slim [(8, .bool false)] ⟨rfl, trivial⟩ ?_
      refine Run.retP rfl (.tmp rfl .nil) ?_
      cases hF
      exact Post.mk' ⟨rfl, rfl, rfl, rfl⟩ (h24.picks .nil) .nil
     ·
      refine Run.skip ?_
      refine Run.seq ?_
      refine Run.seq ?_
      obtain ⟨y7, e10, hF⟩ := bindP_use hF
      refine Run.drawV (Ωs := []) [⟨some 73, none, fun u_ => [(false, .val Responder_.rep u_ y3.1)], fun ds_ u_ => [], [], [(1, [])], none⟩, ⟨some 74, some (u1), fun _ => [], fun ds_ u_ => [], [], [], none⟩, ⟨some 75, none, fun u_ => [(false, .val Responder_.rep u_ y3.1)], fun ds_ u_ => [], [], [(1, [])], none⟩, ⟨some 76, none, fun u_ => [(false, .val Responder_.rep u_ y7.1)], fun ds_ u_ => [(false, .box 64 field_Codes.rep u1 y7.2)], [0], [], none⟩, ⟨some 77, none, fun u_ => [(false, .val (Rep.slice Responder_.rep) u_ ([y3.1, y7.1]))], fun ds_ u_ => [], [], [], none⟩, ⟨some 78, some (.int .i64 (([y3.1, y7.1]).length : Int)), fun _ => [], fun ds_ u_ => [], [], [], none⟩, ⟨some 79, some (.int .i64 0), fun _ => [], fun ds_ u_ => [], [], [], none⟩] [[], [], [], [1, 2], [0, 3], [4], []] [[(false, .box 64 field_Codes.rep u1 y4.2)], [(false, .box 29 Responder_.rep u3 y3.1)]] [1, 2, 3, 4, 5, 6, 7, 8] Try_mixed rfl rfl rfl h24 (.cons ?_ (.cons ?_ (.cons ?_ (.cons ?_ (.cons ?_ (.cons ?_ (.cons ?_ .nil))))))) (fun q1 w hq1 h => ?_)
      ·intro q1 w Γx Ωx h
       have h : St e w ([(false, .val (Rep.slice (Rep.int .u8)) v1 a1), (false, .val (Rep.slice (Rep.int .u8)) v2 a2)] ++ Γx) ([(false, .box 29 Responder_.rep u3 y3.1)] ++ Ωx) := h
       refine OpS.loadB h .z PA.z Get.id ty29 rfl rfl rfl (fun u h31 => ?_)
       exact ⟨u, rfl, trivial, h31⟩
      ·intro q1 w Γx Ωx h
       refine OpS.mv rfl rfl rfl ?_
       exact ⟨undef, rfl, trivial, h⟩
      ·intro q1 w Γx Ωx h
       have h : St e w ([(false, .val (Rep.slice (Rep.int .u8)) v1 a1), (false, .val (Rep.slice (Rep.int .u8)) v2 a2)] ++ Γx) ([(false, .box 29 Responder_.rep u3 y3.1)] ++ Ωx) := h
       refine OpS.loadB h .z PA.z Get.id ty29 rfl rfl rfl (fun u h32 => ?_)
       exact ⟨u, rfl, trivial, h32⟩
      ·intro q1 w Γx Ωx h
       have h : St e w ([(false, .val Responder_.rep (q1 2) y3.1), (false, .val (Rep.slice (Rep.int .u8)) v1 a1), (false, .val (Rep.slice (Rep.int .u8)) v2 a2)] ++ Γx) ([(false, .box 64 field_Codes.rep u1 y4.2)] ++ Ωx) := h
       have h33 := h.front (.cons .z .nil)
       refine OpS.callO h33 Try.func24 rfl rfl rfl rfl (vs := [u1, (q1 2)]) rfl (law25_odd_ok e10) rfl (.cons (f := false) (V.at .z) .nil) ?_
       rintro u w17 _ _ _ ⟨_, rfl, rfl, rfl, rfl⟩ h34
       have h35 := h34
       simp only [List.cons_append, List.nil_append] at h35
       exact ⟨u, rfl, trivial, h35⟩
      ·intro q1 w Γx Ωx h
       refine OpS.lit (r := Responder_.rep) (f := false) h Try.underlying58 ti29 rfl rfl rfl rfl rfl (.cons rfl (V.at .z) (.cons rfl (V.at (.s .z)) .nil)) rfl rfl (fun u w18 h36 => ?_)
       exact ⟨u, rfl, trivial, h36⟩
      ·intro q1 w Γx Ωx h
       refine OpS.len h Try.underlying58 rfl rfl rfl (V.at .z) ?_
       exact ⟨undef, rfl, trivial, h⟩
      ·intro q1 w Γx Ωx h
       refine OpS.mv rfl rfl rfl ?_
       exact ⟨undef, rfl, trivial, h⟩
      have h37 : St e w [(false, .val Responder_.rep (q1 0) y3.1), (false, .val Responder_.rep (q1 2) y3.1), (false, .val Responder_.rep (q1 3) y7.1), (false, .val (Rep.slice Responder_.rep) (q1 4) ([y3.1, y7.1])), (false, .val (Rep.slice (Rep.int .u8)) v1 a1), (false, .val (Rep.slice (Rep.int .u8)) v2 a2)] [(false, .box 29 Responder_.rep u3 y3.1), (false, .box 64 field_Codes.rep u1 y7.2)] := h
      refine RunL.nil ?_
      refine Run.slim [(77, (q1 4)), (78, .int .i64 (([y3.1, y7.1]).length : Int)), (79, .int .i64 0), (1, v1), (2, v2), (3, .int .i64 a3), (9, u1), (11, .int .i64 y3.2.1)] ⟨rfl, rfl, rfl, rfl, rfl, rfl, rfl, rfl, trivial⟩ ?_
      refine Run.block ?_
      refine Run.slim [(1, v1), (2, v2), (3, .int .i64 a3), (9, u1), (11, .int .i64 y3.2.1), (77, (q1 4)), (78, .int .i64 (([y3.1, y7.1]).length : Int)), (79, .int .i64 0)] ⟨rfl, rfl, rfl, rfl, rfl, rfl, rfl, rfl, trivial⟩ ?_
      refine Run.loopP (σ := (Int × field_Codes)) (fun s_ L_ w_ => L_ = [(1, v1), (2, v2), (3, .int .i64 a3), (9, u1), (11, .int .i64 y3.2.1), (77, (q1 4)), (78, .int .i64 (([y3.1, y7.1]).length : Int)), (79, .int .i64 s_.1)] ∧ St e w_ [(false, .val (Rep.slice (Rep.int .u8)) v1 a1), (false, .val (Rep.slice (Rep.int .u8)) v2 a2), (false, .val (Rep.slice Responder_.rep) (q1 4) ([y3.1, y7.1]))] [(false, .box 64 field_Codes.rep u1 s_.2)]) hF ⟨rfl, (h37.facts (.atm (.s (.s (.s (.s .z)))) (.atm (.s (.s (.s (.s (.s .z))))) (.atm (.s (.s (.s .z))) .nil)))).picks (.cons (.s .z) .nil)⟩ (fun k1 hk1 s3 _ w19 hI hF => ?_)
      obtain ⟨rfl, h38⟩ := hI
      refine Run.seq ?_
      refine Run.reg ?_
      refine op (OpS.bin rfl rfl rfl rfl rfl ?_)
      refine RunL.nil ?_
      refine Run.seq ?_
      refine Run.ite rfl hF (fun e11 hF => ?_) (fun e11 hF => ?_)
      ·
       refine Run.skip ?_
       refine Run.seq ?_
       refine Run.block ?_
       refine Run.seq ?_
       refine Run.reg ?_
       obtain ⟨x1, e12, hF⟩ := bindP_use hF
       refine op (OpS.iptr h38 Try.underlying58 ty29 rfl rfl rfl rfl (V.at (.s (.s .z))) e12 (fun u8 h39 => ?_))
       refine op (OpS.load h39 ty29 rfl rfl rfl .z (fun u9 h40 => ?_))
       refine op (OpS.alloc h40 ti29 Responder_.zr rfl rfl (fun u10 w20 h41 => ?_))
       have h42 := (h41.pick .z).weak
       refine op (OpS.storeB (f' := false) h42 .z PA.z Put.id ty29 rfl rfl rfl (V.at .z) (.inr rfl) (fun w21 h43 => ?_))
       refine RunL.nil ?_
       refine Run.slim [(18, u10), (1, v1), (2, v2), (3, .int .i64 a3), (9, u1), (11, .int .i64 y3.2.1), (77, (q1 4)), (78, .int .i64 (([y3.1, y7.1]).length : Int)), (79, .int .i64 s3.1)] ⟨rfl, rfl, rfl, rfl, rfl, rfl, rfl, rfl, rfl, trivial⟩ ?_
       refine Run.seq ?_
       refine Run.reg ?_
       refine op (OpS.mv rfl rfl rfl ?_)
       refine op (OpS.mv rfl rfl rfl ?_)
       refine op (OpS.mv rfl rfl rfl ?_)
       obtain ⟨y8, e13, hF⟩ := bindP_use hF
       have h44 := h43.front (.cons (.s .z) .nil)
       refine op (OpS.callO h44 Try.func12 rfl rfl rfl rfl (vs := [u1, .int .i64 200]) rfl (field_Codes_Next_ok e13) rfl .nil ?_)
       rintro _ w22 _ _ _ ⟨rfl, rfl, rfl, rfl⟩ h45
       have h46 := h45
       simp only [List.cons_append, List.nil_append] at h46
       refine op (OpS.bin rfl rfl rfl rfl rfl ?_)
       refine op (OpS.mv rfl rfl rfl ?_)
       refine op (OpS.mv rfl rfl rfl ?_)
       obtain ⟨y9, e14, hF⟩ := bindP_use hF
       have h47 := h46.front (.cons .z .nil)
       refine op (OpS.callO h47 Try.func25 rfl rfl rfl rfl (vs := [u1]) rfl (field_Codes_Now_ok e14) rfl .nil ?_)
       rintro _ w23 _ _ _ ⟨rfl, rfl, rfl, rfl⟩ h48
       have h49 := h48
       simp only [List.cons_append, List.nil_append] at h49
       refine op (OpS.lit (r := (Rep.int .i64)) (f := true) h49 Try.underlying60 ti2 rfl rfl rfl rfl rfl (.cons rfl V.int (.cons rfl V.int (.cons rfl V.int (.cons rfl V.int .nil)))) rfl rfl (fun u11 w24 h50 => ?_))
       refine op (OpS.mv rfl rfl rfl ?_)
       obtain ⟨y10, e15, hF⟩ := bindP_use hF
       have h51 := h50.front (.cons .z .nil)
       refine op (OpS.callO h51 Try.func12 rfl rfl rfl rfl (vs := [u1, .int .i64 4]) rfl (field_Codes_Next_ok e15) rfl .nil ?_)
       rintro _ w25 _ _ _ ⟨rfl, rfl, rfl, rfl⟩ h52
       have h53 := h52
       simp only [List.cons_append, List.nil_append] at h53
       obtain ⟨x2, e16, hF⟩ := bindP_use hF
       refine op (OpS.iptr h53 Try.underlying60 ty2 rfl rfl rfl rfl (V.at .z) e16 (fun u12 h54 => ?_))
       refine op (OpS.loadi h54 ty2 rfl rfl rfl .z ?_)
       refine op (OpS.as rfl rfl rfl ?_)
       refine RunL.nil ?_
       refine Run.slim [(19, .int .i64 x2), (18, u10), (1, v1), (2, v2), (3, .int .i64 a3), (9, u1), (11, .int .i64 y3.2.1), (77, (q1 4)), (78, .int .i64 (([y3.1, y7.1]).length : Int)), (79, .int .i64 s3.1)] ⟨rfl, rfl, rfl, rfl, rfl, rfl, rfl, rfl, rfl, rfl, trivial⟩ ?_
       refine Run.seq ?_
       refine Run.reg ?_
       refine op (OpS.mv rfl rfl rfl ?_)
       refine op (OpS.as rfl rfl rfl ?_)
       refine RunL.nil ?_
       refine Run.slim [(20, v1), (19, .int .i64 x2), (18, u10), (1, v1), (2, v2), (3, .int .i64 a3), (9, u1), (11, .int .i64 y3.2.1), (77, (q1 4)), (78, .int .i64 (([y3.1, y7.1]).length : Int)), (79, .int .i64 s3.1)] ⟨rfl, rfl, rfl, rfl, rfl, rfl, rfl, rfl, rfl, rfl, rfl, trivial⟩ ?_
       refine Run.seq ?_
       refine Run.reg ?_
       refine op (OpS.mv rfl rfl rfl ?_)
       obtain ⟨y11, e17, hF⟩ := bindP_use hF
       have h55 := h54.front (.cons .z .nil)
       refine op (OpS.callO h55 Try.func26 rfl rfl rfl rfl (vs := [u1, .int .u8 32]) rfl (field_Codes_Request_ok e17) rfl .nil ?_)
       rintro u13 w26 _ _ _ ⟨_, rfl, rfl, rfl, rfl⟩ h56
       have h57 := h56
       simp only [List.cons_append, List.nil_append] at h57
       refine op (OpS.mv rfl rfl rfl ?_)
       obtain ⟨y12, e18, hF⟩ := bindP_use hF
       have h58 := h57.front (.cons .z .nil)
       refine op (OpS.callO h58 Try.func26 rfl rfl rfl rfl (vs := [u1, .int .u8 32]) rfl (field_Codes_Request_ok e18) rfl .nil ?_)
       rintro u14 w27 _ _ _ ⟨_, rfl, rfl, rfl, rfl⟩ h59
       have h60 := h59
       simp only [List.cons_append, List.nil_append] at h60
       refine op (OpS.alloc h60 ti37 Message_.zr rfl rfl (fun u15 w28 h61 => ?_))
       refine op (OpS.alloc h61 ti37 Message_.zr rfl rfl (fun u16 w29 h62 => ?_))
       refine op (OpS.storeB (f' := true) h62 (.s .z) PA.z Put.id ty37 rfl rfl rfl (V.at (.s .z)) (.inl rfl) (fun w30 h63 => ?_))
       refine op (OpS.storeB (f' := true) h63 (.s .z) PA.z Put.id ty37 rfl rfl rfl (V.at .z) (.inl rfl) (fun w31 h64 => ?_))
       refine RunL.nil ?_
       refine Run.slim [(22, u16), (21, u15), (20, v1), (19, .int .i64 x2), (18, u10), (1, v1), (2, v2), (3, .int .i64 a3), (9, u1), (11, .int .i64 y3.2.1), (77, (q1 4)), (78, .int .i64 (([y3.1, y7.1]).length : Int)), (79, .int .i64 s3.1)] ⟨rfl, rfl, rfl, rfl, rfl, rfl, rfl, rfl, rfl, rfl, rfl, rfl, rfl, trivial⟩ ?_
       refine Run.seq ?_
       refine Run.seq ?_
       refine Run.reg ?_
       refine op (OpS.mv rfl rfl rfl ?_)
       obtain ⟨y13, e19, hF⟩ := bindP_use hF
       have h65 := h64.front (.cons (.s (.s .z)) .nil)
       refine op (OpS.callO h65 Try.func12 rfl rfl rfl rfl (vs := [u1, .int .i64 6]) rfl (field_Codes_Next_ok e19) rfl .nil ?_)
       rintro _ w32 _ _ _ ⟨rfl, rfl, rfl, rfl⟩ h66
       have h67 := h66
       simp only [List.cons_append, List.nil_append] at h67
       refine op (OpS.bin rfl rfl rfl rfl rfl ?_)
       refine RunL.nil ?_
       refine Run.slim [(103, .bool (decide (y13.1 > 0))), (22, u16), (21, u15), (20, v1), (19, .int .i64 x2), (18, u10), (1, v1), (2, v2), (3, .int .i64 a3), (9, u1), (11, .int .i64 y3.2.1), (77, (q1 4)), (78, .int .i64 (([y3.1, y7.1]).length : Int)), (79, .int .i64 s3.1)] ⟨rfl, rfl, rfl, rfl, rfl, rfl, rfl, rfl, rfl, rfl, rfl, rfl, rfl, rfl, trivial⟩ ?_
       refine Run.join (σ := ((List Int))) (fun s_ L_ w_ => ∃ u0_ : Value, L_ = [(1, v1), (2, v2), (3, .int .i64 a3), (9, u1), (11, .int .i64 y3.2.1), (18, u10), (19, .int .i64 x2), (20, u0_), (21, u15), (22, u16), (77, (q1 4)), (78, .int .i64 (([y3.1, y7.1]).length : Int)), (79, .int .i64 s3.1)] ∧ St e w_ [(false, .val (Rep.slice (Rep.int .u8)) v1 a1), (false, .val (Rep.slice (Rep.int .u8)) v2 a2), (false, .val (Rep.slice Responder_.rep) (q1 4) ([y3.1, y7.1])), (false, .val (Rep.slice (Rep.int .u8)) u0_ s_)] [(false, .box 64 field_Codes.rep u1 y13.2), (false, .box 29 Responder_.rep u10 x1), (true, .box 37 Message_.rep u15 y11.1), (true, .box 37 Message_.rep u16 y12.1)]) hF (fun s4 _ w33 hI hF => ?_) (fun j3 hj3 hF => ?_)
       ·
        obtain ⟨u17, rfl, h68⟩ := hI
        refine Run.seq ?_
        refine Run.seq ?_
        refine Run.join (σ := Bool) (fun s_ L_ w_ => L_ = [(1, v1), (2, v2), (3, .int .i64 a3), (9, u1), (11, .int .i64 y3.2.1), (18, u10), (19, .int .i64 x2), (20, u17), (77, (q1 4)), (78, .int .i64 (([y3.1, y7.1]).length : Int)), (79, .int .i64 s3.1), (128, .bool s_)] ∧ St e w_ [(false, .val (Rep.slice (Rep.int .u8)) v1 a1), (false, .val (Rep.slice (Rep.int .u8)) v2 a2), (false, .val (Rep.slice (Rep.int .u8)) u17 s4), (false, .val (Rep.slice Responder_.rep) (q1 4) ([y3.1, y7.1]))] [(false, .box 64 field_Codes.rep u1 y13.2), (false, .box 29 Responder_.rep u10 x1)]) hF (fun s5 _ w34 hI hF => ?_) (fun j4 hj4 hF => ?_)
        ·
         obtain ⟨rfl, h69⟩ := hI
         refine Run.ite rfl hF (fun e20 hF => ?_) (fun e20 hF => ?_)
         ·
          refine Run.seq ?_
          refine Run.reg ?_
          refine op (OpS.as rfl rfl rfl ?_)
          refine RunL.nil ?_
          refine Run.slim [(8, .bool false)] ⟨rfl, trivial⟩ ?_
          refine Run.retP rfl (.tmp rfl .nil) ?_
          cases hF
          exact Post.mk' ⟨rfl, rfl, rfl, rfl⟩ (h69.picks .nil) .nil
         ·
          refine Run.skip ?_
          refine Run.seq ?_
          refine Run.reg ?_
          refine op (OpS.loadB h69 (.s .z) PA.z Get.id ty29 rfl rfl rfl (fun u18 h70 => ?_))
          refine op (OpS.mv rfl rfl rfl ?_)
          refine op (OpS.mv rfl rfl rfl ?_)
          obtain ⟨y14, e21, hF⟩ := bindP_use hF
          have h71 := h70.front .nil
          refine op (OpS.callO h71 Try.func14 rfl rfl rfl rfl (vs := [u18, u17, .int .i64 x2]) rfl (responder_Accept_ok e21) rfl (.cons (f := false) (V.at .z) (.cons (f := false) (V.at (.s (.s (.s .z)))) .nil)) ?_)
          rintro _ w35 _ _ _ ⟨u19, u20, rfl, rfl, rfl, rfl⟩ h72
          have h73 := h72
          simp only [List.cons_append, List.nil_append] at h73
          refine op (OpS.mv rfl rfl rfl ?_)
          refine op (OpS.ext rfl rfl rfl rfl ?_)
          refine op (OpS.ext rfl rfl rfl rfl ?_)
          refine op (OpS.ext rfl rfl rfl rfl ?_)
          refine op (OpS.alloc h73 ti29 Responder_.zr rfl rfl (fun u21 w36 h74 => ?_))
          have h75 := (h74.pick .z).weak
          refine op (OpS.storeB (f' := false) h75 .z PA.z Put.id ty29 rfl rfl rfl (V.at .z) (.inr rfl) (fun w37 h76 => ?_))
          refine op (OpS.as rfl rfl rfl ?_)
          refine op (OpS.as rfl rfl rfl ?_)
          refine RunL.nil ?_
          refine Run.slim [(25, .int .i64 y14.2.2), (24, u20), (23, u21), (1, v1), (2, v2), (3, .int .i64 a3), (9, u1), (11, .int .i64 y3.2.1), (18, u10), (19, .int .i64 x2), (20, u17), (77, (q1 4)), (78, .int .i64 (([y3.1, y7.1]).length : Int)), (79, .int .i64 s3.1)] ⟨rfl, rfl, rfl, rfl, rfl, rfl, rfl, rfl, rfl, rfl, rfl, rfl, rfl, rfl, trivial⟩ ?_
          refine Run.seq ?_
          refine Run.reg ?_
          refine op (OpS.loadB h76 (.s (.s .z)) PA.z Get.id ty29 rfl rfl rfl (fun u22 h77 => ?_))
          refine op (OpS.mv rfl rfl rfl ?_)
          refine op (OpS.mv rfl rfl rfl ?_)
          obtain ⟨y15, e22, hF⟩ := bindP_use hF
          have h78 := h77.front .nil
          refine op (OpS.callO h78 Try.func31 rfl rfl rfl rfl (vs := [u22, u17, .int .i64 x2]) rfl (ref25_Accept_ok e22) rfl (.cons (f := false) (V.at .z) (.cons (f := false) (V.at (.s (.s (.s (.s (.s (.s .z))))))) .nil)) ?_)
          rintro _ w38 _ _ _ ⟨u23, u24, rfl, rfl, rfl, rfl⟩ h79
          have h80 := h79
          simp only [List.cons_append, List.nil_append] at h80
          refine op (OpS.mv rfl rfl rfl ?_)
          refine op (OpS.ext rfl rfl rfl rfl ?_)
          refine op (OpS.ext rfl rfl rfl rfl ?_)
          refine op (OpS.ext rfl rfl rfl rfl ?_)
          refine op (OpS.alloc h80 ti29 Responder_.zr rfl rfl (fun u25 w39 h81 => ?_))
          have h82 := (h81.pick .z).weak
          refine op (OpS.storeB (f' := false) h82 .z PA.z Put.id ty29 rfl rfl rfl (V.at .z) (.inr rfl) (fun w40 h83 => ?_))
          refine op (OpS.as rfl rfl rfl ?_)
          refine op (OpS.as rfl rfl rfl ?_)
          refine RunL.nil ?_
          refine Run.slim [(28, .int .i64 y15.2.2), (27, u24), (26, u25), (25, .int .i64 y14.2.2), (24, u20), (23, u21), (1, v1), (2, v2), (3, .int .i64 a3), (9, u1), (11, .int .i64 y3.2.1), (18, u10), (19, .int .i64 x2), (77, (q1 4)), (78, .int .i64 (([y3.1, y7.1]).length : Int)), (79, .int .i64 s3.1)] ⟨rfl, rfl, rfl, rfl, rfl, rfl, rfl, rfl, rfl, rfl, rfl, rfl, rfl, rfl, rfl, rfl, trivial⟩ ?_
          refine Run.seq ?_
          refine Run.seq ?_
          refine Run.reg ?_
          refine op (OpS.mv rfl rfl rfl ?_)
          refine op (OpS.mv rfl rfl rfl ?_)
          refine op (OpS.bin rfl rfl rfl rfl rfl ?_)
          refine op (OpS.mv rfl rfl rfl ?_)
          refine RunL.join (σ := Bool) (fun s_ L_ w_ => L_ = [(1, v1), (2, v2), (3, .int .i64 a3), (9, u1), (11, .int .i64 y3.2.1), (18, u10), (19, .int .i64 x2), (23, u21), (26, u25), (77, (q1 4)), (78, .int .i64 (([y3.1, y7.1]).length : Int)), (79, .int .i64 s3.1), (160, .bool s_)] ∧ St e w_ [(false, .val (Rep.slice (Rep.int .u8)) v1 a1), (false, .val (Rep.slice (Rep.int .u8)) v2 a2), (false, .val (Rep.slice Responder_.rep) (q1 4) ([y3.1, y7.1]))] [(false, .box 64 field_Codes.rep u1 y13.2), (false, .box 29 Responder_.rep u10 x1), (false, .box 29 Responder_.rep u21 y14.1), (false, .box 29 Responder_.rep u25 y15.1)]) hF (fun s6 _ w41 hI hF => ?_) (fun j5 hj5 hF => ?_)
          ·
           obtain ⟨rfl, h84⟩ := hI
           refine Run.ite rfl hF (fun e23 hF => ?_) (fun e23 hF => ?_)
           ·
            refine Run.seq ?_
            refine Run.reg ?_
            refine op (OpS.as rfl rfl rfl ?_)
            refine RunL.nil ?_
            refine Run.slim [(8, .bool false)] ⟨rfl, trivial⟩ ?_
            refine Run.retP rfl (.tmp rfl .nil) ?_
            cases hF
            exact Post.mk' ⟨rfl, rfl, rfl, rfl⟩ (h84.picks .nil) .nil
           ·
            refine Run.skip ?_
            refine Run.seq ?_
            refine Run.reg ?_
            refine op (OpS.loadB h84 (.s .z) PA.z Get.id ty29 rfl rfl rfl (fun u26 h85 => ?_))
            obtain ⟨y16, e24, hF⟩ := bindP_use hF
            refine op (OpS.callP h85 Try.func16 rfl rfl rfl rfl (vs := [u26]) rfl (responder_Next_ok e24) (.cons (f := false) (V.at .z) .nil) ?_)
            rintro _ w42 _ _ _ ⟨u27, rfl, rfl, rfl, rfl⟩ h86
            have h87 := h86 rfl rfl
            simp only [List.cons_append, List.nil_append] at h87
            refine op (OpS.mv rfl rfl rfl ?_)
            refine op (OpS.ext rfl rfl rfl rfl ?_)
            refine op (OpS.ext rfl rfl rfl rfl ?_)
            refine op (OpS.alloc h87 ti37 Message_.zr rfl rfl (fun u28 w43 h88 => ?_))
            refine op (OpS.storeB (f' := true) h88 .z PA.z Put.id ty37 rfl rfl rfl (V.at .z) (.inl rfl) (fun w44 h89 => ?_))
            refine op (OpS.as rfl rfl rfl ?_)
            refine RunL.nil ?_
            refine Run.slim [(30, .bool y16.2), (29, u28), (1, v1), (2, v2), (3, .int .i64 a3), (9, u1), (11, .int .i64 y3.2.1), (18, u10), (19, .int .i64 x2), (23, u21), (26, u25), (77, (q1 4)), (78, .int .i64 (([y3.1, y7.1]).length : Int)), (79, .int .i64 s3.1)] ⟨rfl, rfl, rfl, rfl, rfl, rfl, rfl, rfl, rfl, rfl, rfl, rfl, rfl, rfl, trivial⟩ ?_
            refine Run.seq ?_
            refine Run.reg ?_
            refine op (OpS.loadB h89 (.s (.s .z)) PA.z Get.id ty29 rfl rfl rfl (fun u29 h90 => ?_))
            obtain ⟨y17, e25, hF⟩ := bindP_use hF
            refine op (OpS.callP h90 Try.func32 rfl rfl rfl rfl (vs := [u29]) rfl (ref25_Next_ok e25) (.cons (f := false) (V.at .z) .nil) ?_)
            rintro _ w45 _ _ _ ⟨u30, rfl, rfl, rfl, rfl⟩ h91
            have h92 := h91 rfl rfl
            simp only [List.cons_append, List.nil_append] at h92
            refine op (OpS.mv rfl rfl rfl ?_)
            refine op (OpS.ext rfl rfl rfl rfl ?_)
            refine op (OpS.ext rfl rfl rfl rfl ?_)
            refine op (OpS.alloc h92 ti37 Message_.zr rfl rfl (fun u31 w46 h93 => ?_))
            refine op (OpS.storeB (f' := true) h93 .z PA.z Put.id ty37 rfl rfl rfl (V.at .z) (.inl rfl) (fun w47 h94 => ?_))
            refine op (OpS.as rfl rfl rfl ?_)
            refine RunL.nil ?_
            refine Run.slim [(32, .bool y17.2), (31, u31), (30, .bool y16.2), (29, u28), (1, v1), (2, v2), (3, .int .i64 a3), (9, u1), (11, .int .i64 y3.2.1), (18, u10), (19, .int .i64 x2), (23, u21), (26, u25), (77, (q1 4)), (78, .int .i64 (([y3.1, y7.1]).length : Int)), (79, .int .i64 s3.1)] ⟨rfl, rfl, rfl, rfl, rfl, rfl, rfl, rfl, rfl, rfl, rfl, rfl, rfl, rfl, rfl, rfl, trivial⟩ ?_
            refine Run.seq ?_
            refine Run.seq ?_
            refine Run.reg ?_
            refine op (OpS.mv rfl rfl rfl ?_)
            refine op (OpS.mv rfl rfl rfl ?_)
            refine op (OpS.neb Try.underlying4 rfl rfl rfl rfl ?_)
            refine op (OpS.mv rfl rfl rfl ?_)
            refine RunL.join (σ := Bool) (fun s_ L_ w_ => L_ = [(1, v1), (2, v2), (3, .int .i64 a3), (9, u1), (11, .int .i64 y3.2.1), (18, u10), (19, .int .i64 x2), (23, u21), (26, u25), (77, (q1 4)), (78, .int .i64 (([y3.1, y7.1]).length : Int)), (79, .int .i64 s3.1), (179, .bool s_)] ∧ St e w_ [(false, .val (Rep.slice (Rep.int .u8)) v1 a1), (false, .val (Rep.slice (Rep.int .u8)) v2 a2), (false, .val (Rep.slice Responder_.rep) (q1 4) ([y3.1, y7.1]))] [(false, .box 64 field_Codes.rep u1 y13.2), (false, .box 29 Responder_.rep u10 x1), (false, .box 29 Responder_.rep u21 y14.1), (false, .box 29 Responder_.rep u25 y15.1)]) hF (fun s7 _ w48 hI hF => ?_) (fun j6 hj6 hF => ?_)
            ·
             obtain ⟨rfl, h95⟩ := hI
             refine Run.ite rfl hF (fun e26 hF => ?_) (fun e26 hF => ?_)
             ·
              refine Run.seq ?_
              refine Run.reg ?_
              refine op (OpS.as rfl rfl rfl ?_)
              refine RunL.nil ?_
              refine Run.slim [(8, .bool false)] ⟨rfl, trivial⟩ ?_
              refine Run.retP rfl (.tmp rfl .nil) ?_
              cases hF
              exact Post.mk' ⟨rfl, rfl, rfl, rfl⟩ (h95.picks .nil) .nil
             ·
              refine Run.skip ?_
              refine Run.seq ?_
              refine Run.reg ?_
              refine op (OpS.mv rfl rfl rfl ?_)
              obtain ⟨y18, e27, hF⟩ := bindP_use hF
              have h96 := h95.front (.cons .z .nil)
              refine op (OpS.callO h96 Try.func12 rfl rfl rfl rfl (vs := [u1, .int .i64 256]) rfl (field_Codes_Next_ok e27) rfl .nil ?_)
              rintro _ w49 _ _ _ ⟨rfl, rfl, rfl, rfl⟩ h97
              have h98 := h97
              simp only [List.cons_append, List.nil_append] at h98
              refine op (OpS.conv Try.underlying3 Try.underlying5 rfl rfl rfl ?_)
              refine op (OpS.as rfl rfl rfl ?_)
              refine RunL.nil ?_
              refine Run.slim [(33, .int .u8 (IntKind.u8.wrap y18.1)), (1, v1), (2, v2), (3, .int .i64 a3), (9, u1), (11, .int .i64 y3.2.1), (18, u10), (19, .int .i64 x2), (23, u21), (26, u25), (77, (q1 4)), (78, .int .i64 (([y3.1, y7.1]).length : Int)), (79, .int .i64 s3.1)] ⟨rfl, rfl, rfl, rfl, rfl, rfl, rfl, rfl, rfl, rfl, rfl, rfl, rfl, trivial⟩ ?_
              refine Run.seq ?_
              refine Run.reg ?_
              refine op (OpS.loadB h98 (.s .z) PA.z Get.id ty29 rfl rfl rfl (fun u32 h99 => ?_))
              refine op (OpS.mv rfl rfl rfl ?_)
              refine op (OpS.mv rfl rfl rfl ?_)
              refine op (OpS.mv rfl rfl rfl ?_)
              obtain ⟨y19, e28, hF⟩ := bindP_use hF
              have h100 := h99.front .nil
              refine op (OpS.callO h100 Try.func17 rfl rfl rfl rfl (vs := [u32, .int .u8 (IntKind.u8.wrap y18.1), v2, .int .i64 x2]) rfl (responder_Done_ok e28) rfl (.cons (f := false) (V.at .z) (.cons (f := false) (V.at (.s (.s .z))) .nil)) ?_)
              rintro _ w50 _ _ _ ⟨u33, u34, rfl, rfl, rfl, rfl⟩ h101
              have h102 := h101
              simp only [List.cons_append, List.nil_append] at h102
              refine op (OpS.mv rfl rfl rfl ?_)
              refine op (OpS.ext rfl rfl rfl rfl ?_)
              refine op (OpS.ext rfl rfl rfl rfl ?_)
              refine op (OpS.ext rfl rfl rfl rfl ?_)
              refine op (OpS.storeB (f' := false) h102 (.s (.s .z)) PA.z Put.id ty29 rfl rfl rfl (V.at .z) (.inr rfl) (fun w51 h103 => ?_))
              refine op (OpS.as rfl rfl rfl ?_)
              refine op (OpS.as rfl rfl rfl ?_)
              refine RunL.nil ?_
              refine Run.slim [(25, .int .i64 y19.2.2), (24, u34), (33, .int .u8 (IntKind.u8.wrap y18.1)), (1, v1), (2, v2), (3, .int .i64 a3), (9, u1), (11, .int .i64 y3.2.1), (18, u10), (19, .int .i64 x2), (23, u21), (26, u25), (77, (q1 4)), (78, .int .i64 (([y3.1, y7.1]).length : Int)), (79, .int .i64 s3.1)] ⟨rfl, rfl, rfl, rfl, rfl, rfl, rfl, rfl, rfl, rfl, rfl, rfl, rfl, rfl, rfl, trivial⟩ ?_
              refine Run.seq ?_
              refine Run.reg ?_
              refine op (OpS.loadB h103 (.s (.s .z)) PA.z Get.id ty29 rfl rfl rfl (fun u35 h104 => ?_))
              refine op (OpS.mv rfl rfl rfl ?_)
              refine op (OpS.mv rfl rfl rfl ?_)
              refine op (OpS.mv rfl rfl rfl ?_)
              obtain ⟨y20, e29, hF⟩ := bindP_use hF
              have h105 := h104.front .nil
              refine op (OpS.callO h105 Try.func33 rfl rfl rfl rfl (vs := [u35, .int .u8 (IntKind.u8.wrap y18.1), v2, .int .i64 x2]) rfl (ref25_Done_ok e29) rfl (.cons (f := false) (V.at .z) (.cons (f := false) (V.at (.s (.s (.s (.s (.s .z)))))) .nil)) ?_)
              rintro _ w52 _ _ _ ⟨u36, u37, rfl, rfl, rfl, rfl⟩ h106
              have h107 := h106
              simp only [List.cons_append, List.nil_append] at h107
              refine op (OpS.mv rfl rfl rfl ?_)
              refine op (OpS.ext rfl rfl rfl rfl ?_)
              refine op (OpS.ext rfl rfl rfl rfl ?_)
              refine op (OpS.ext rfl rfl rfl rfl ?_)
              refine op (OpS.storeB (f' := false) h107 (.s (.s (.s .z))) PA.z Put.id ty29 rfl rfl rfl (V.at .z) (.inr rfl) (fun w53 h108 => ?_))
              refine op (OpS.as rfl rfl rfl ?_)
              refine op (OpS.as rfl rfl rfl ?_)
              refine RunL.nil ?_
              refine Run.slim [(28, .int .i64 y20.2.2), (27, u37), (25, .int .i64 y19.2.2), (24, u34), (1, v1), (2, v2), (3, .int .i64 a3), (9, u1), (11, .int .i64 y3.2.1), (23, u21), (26, u25), (77, (q1 4)), (78, .int .i64 (([y3.1, y7.1]).length : Int)), (79, .int .i64 s3.1)] ⟨rfl, rfl, rfl, rfl, rfl, rfl, rfl, rfl, rfl, rfl, rfl, rfl, rfl, rfl, trivial⟩ ?_
              refine Run.seq ?_
              refine Run.reg ?_
              refine op (OpS.mv rfl rfl rfl ?_)
              refine op (OpS.mv rfl rfl rfl ?_)
              refine op (OpS.bin rfl rfl rfl rfl rfl ?_)
              refine op (OpS.mv rfl rfl rfl ?_)
              refine RunL.join (σ := Bool) (fun s_ L_ w_ => L_ = [(1, v1), (2, v2), (3, .int .i64 a3), (9, u1), (11, .int .i64 y3.2.1), (77, (q1 4)), (78, .int .i64 (([y3.1, y7.1]).length : Int)), (79, .int .i64 s3.1), (216, .bool s_)] ∧ St e w_ [(false, .val (Rep.slice (Rep.int .u8)) v1 a1), (false, .val (Rep.slice (Rep.int .u8)) v2 a2), (false, .val (Rep.slice Responder_.rep) (q1 4) ([y3.1, y7.1]))] [(false, .box 64 field_Codes.rep u1 y18.2)]) hF (fun s8 _ w54 hI hF => ?_) (fun j7 hj7 hF => ?_)
              ·
               obtain ⟨rfl, h109⟩ := hI
               refine Run.ite rfl hF (fun e30 hF => ?_) (fun e30 hF => ?_)
               ·
                refine Run.seq ?_
                refine Run.reg ?_
                refine op (OpS.as rfl rfl rfl ?_)
                refine RunL.nil ?_
                refine Run.slim [(8, .bool false)] ⟨rfl, trivial⟩ ?_
                refine Run.retP rfl (.tmp rfl .nil) ?_
                cases hF
                exact Post.mk' ⟨rfl, rfl, rfl, rfl⟩ (h109.picks .nil) .nil
               ·
                refine Run.skip ?_
                refine Run.endBlock ?_
                refine Run.reg ?_
                refine op (OpS.bin rfl rfl rfl rfl rfl ?_)
                refine op (OpS.mv rfl rfl rfl ?_)
                refine RunL.nil ?_
                refine Run.slim [(79, .int .i64 (IntKind.i64.wrap (s3.1 + 1))), (1, v1), (2, v2), (3, .int .i64 a3), (9, u1), (11, .int .i64 y3.2.1), (77, (q1 4)), (78, .int .i64 (([y3.1, y7.1]).length : Int))] ⟨rfl, rfl, rfl, rfl, rfl, rfl, rfl, rfl, trivial⟩ ?_
                refine Run.slim [(1, v1), (2, v2), (3, .int .i64 a3), (9, u1), (11, .int .i64 y3.2.1), (77, (q1 4)), (78, .int .i64 (([y3.1, y7.1]).length : Int)), (79, .int .i64 (IntKind.i64.wrap (s3.1 + 1)))] ⟨rfl, rfl, rfl, rfl, rfl, rfl, rfl, rfl, trivial⟩ ?_
                exact hk1 ((IntKind.i64.wrap (s3.1 + 1)), y18.2) _ _ ⟨rfl, (h109.facts (.atm .z (.atm (.s .z) (.atm (.s (.s .z)) .nil)))).picks (.cons .z .nil)⟩ hF
              ·
               refine RunL.caseb hF (fun e31 hF => ?_) (fun e31 hF => ?_)
               ·
                refine op (OpS.pass rfl rfl rfl ?_)
                refine op (OpS.pass rfl rfl rfl ?_)
                refine op (OpS.pass rfl rfl rfl ?_)
                refine op (OpS.pass rfl rfl rfl ?_)
                refine op (OpS.pass rfl rfl rfl ?_)
                refine op (OpS.pick rfl rfl rfl rfl ?_)
                refine op (OpS.mv rfl rfl rfl ?_)
                refine op (OpS.pass rfl rfl rfl ?_)
                refine op (OpS.pass rfl rfl rfl ?_)
                refine op (OpS.pass rfl rfl rfl ?_)
                refine op (OpS.pass rfl rfl rfl ?_)
                refine op (OpS.pick rfl rfl rfl rfl ?_)
                refine RunL.nil ?_
                refine Run.slim [(216, .bool true), (1, v1), (2, v2), (3, .int .i64 a3), (9, u1), (11, .int .i64 y3.2.1), (77, (q1 4)), (78, .int .i64 (([y3.1, y7.1]).length : Int)), (79, .int .i64 s3.1)] ⟨rfl, rfl, rfl, rfl, rfl, rfl, rfl, rfl, rfl, trivial⟩ ?_
                refine Run.slim [(1, v1), (2, v2), (3, .int .i64 a3), (9, u1), (11, .int .i64 y3.2.1), (77, (q1 4)), (78, .int .i64 (([y3.1, y7.1]).length : Int)), (79, .int .i64 s3.1), (216, .bool true)] ⟨rfl, rfl, rfl, rfl, rfl, rfl, rfl, rfl, rfl, trivial⟩ ?_
                exact hj7 (true) _ _ ⟨rfl, (h108.facts (.atm (.s (.s (.s (.s (.s (.s .z)))))) (.atm (.s (.s (.s (.s (.s (.s (.s .z))))))) (.atm (.s (.s (.s (.s (.s (.s (.s (.s .z)))))))) .nil)))).picks (.cons (.s (.s .z)) .nil)⟩ hF
               ·
                refine op (OpS.mv rfl rfl rfl ?_)
                refine op (OpS.toStr h108 Try.underlying22 Try.underlying5 Try.underlying9 rfl rfl rfl (V.at (.s (.s (.s (.s .z))))) (fun u38 h110 => ?_))
                refine op (OpS.mv rfl rfl rfl ?_)
                refine op (OpS.toStr h110 Try.underlying22 Try.underlying5 Try.underlying9 rfl rfl rfl (V.at (.s (.s .z))) (fun u39 h111 => ?_))
                refine op (OpS.nes h111 rfl rfl rfl rfl (V.at (.s .z)) (V.at .z) Try.underlying9 ?_)
                refine op (OpS.pick rfl rfl rfl rfl ?_)
                refine op (OpS.mv rfl rfl rfl ?_)
                refine RunL.caseb hF (fun e32 hF => ?_) (fun e32 hF => ?_)
                ·
                 refine op (OpS.pass rfl rfl rfl ?_)
                 refine op (OpS.pass rfl rfl rfl ?_)
                 refine op (OpS.pass rfl rfl rfl ?_)
                 refine op (OpS.pass rfl rfl rfl ?_)
                 refine op (OpS.pick rfl rfl rfl rfl ?_)
                 refine RunL.nil ?_
                 refine Run.slim [(216, .bool true), (1, v1), (2, v2), (3, .int .i64 a3), (9, u1), (11, .int .i64 y3.2.1), (77, (q1 4)), (78, .int .i64 (([y3.1, y7.1]).length : Int)), (79, .int .i64 s3.1)] ⟨rfl, rfl, rfl, rfl, rfl, rfl, rfl, rfl, rfl, trivial⟩ ?_
                 refine Run.slim [(1, v1), (2, v2), (3, .int .i64 a3), (9, u1), (11, .int .i64 y3.2.1), (77, (q1 4)), (78, .int .i64 (([y3.1, y7.1]).length : Int)), (79, .int .i64 s3.1), (216, .bool true)] ⟨rfl, rfl, rfl, rfl, rfl, rfl, rfl, rfl, rfl, trivial⟩ ?_
                 exact hj7 (true) _ _ ⟨rfl, (h111.facts (.atm (.s (.s (.s (.s (.s (.s (.s (.s .z)))))))) (.atm (.s (.s (.s (.s (.s (.s (.s (.s (.s .z))))))))) (.atm (.s (.s (.s (.s (.s (.s (.s (.s (.s (.s .z)))))))))) .nil)))).picks (.cons (.s (.s .z)) .nil)⟩ hF
                ·
                 refine op (OpS.loadB h111 (.s .z) PA.z Get.id ty29 rfl rfl rfl (fun u40 h112 => ?_))
                 refine op (OpS.loadB h112 .z PA.z Get.id ty29 rfl rfl rfl (fun u41 h113 => ?_))
                 obtain ⟨y21, e33, hF⟩ := bindP_use hF
                 refine op (OpS.callP h113 Try.func23 rfl rfl rfl rfl (vs := [u40, u41]) rfl (ref25_Equal_ok e33) (.cons (f := false) (V.at (.s .z)) (.cons (f := false) (V.at .z) .nil)) ?_)
                 rintro _ w55 _ _ _ ⟨rfl, rfl, rfl, rfl⟩ h114
                 have h115 := h114 rfl rfl
                 simp only [List.cons_append, List.nil_append] at h115
                 refine op (OpS.not rfl rfl rfl ?_)
                 refine op (OpS.pick rfl rfl rfl rfl ?_)
                 refine RunL.nil ?_
                 refine Run.slim [(216, .bool (!y21)), (1, v1), (2, v2), (3, .int .i64 a3), (9, u1), (11, .int .i64 y3.2.1), (77, (q1 4)), (78, .int .i64 (([y3.1, y7.1]).length : Int)), (79, .int .i64 s3.1)] ⟨rfl, rfl, rfl, rfl, rfl, rfl, rfl, rfl, rfl, trivial⟩ ?_
                 refine Run.slim [(1, v1), (2, v2), (3, .int .i64 a3), (9, u1), (11, .int .i64 y3.2.1), (77, (q1 4)), (78, .int .i64 (([y3.1, y7.1]).length : Int)), (79, .int .i64 s3.1), (216, .bool (!y21))] ⟨rfl, rfl, rfl, rfl, rfl, rfl, rfl, rfl, rfl, trivial⟩ ?_
                 exact hj7 (!y21) _ _ ⟨rfl, (h115.facts (.atm (.s (.s (.s (.s (.s (.s (.s (.s (.s (.s .z)))))))))) (.atm (.s (.s (.s (.s (.s (.s (.s (.s (.s (.s (.s .z))))))))))) (.atm (.s (.s (.s (.s (.s (.s (.s (.s (.s (.s (.s (.s .z)))))))))))) .nil)))).picks (.cons (.s (.s .z)) .nil)⟩ hF
            ·
             refine RunL.caseb hF (fun e34 hF => ?_) (fun e34 hF => ?_)
             ·
              refine op (OpS.pass rfl rfl rfl ?_)
              refine op (OpS.pass rfl rfl rfl ?_)
              refine op (OpS.pass rfl rfl rfl ?_)
              refine op (OpS.pass rfl rfl rfl ?_)
              refine op (OpS.pick rfl rfl rfl rfl ?_)
              refine RunL.nil ?_
              refine Run.slim [(179, .bool true), (1, v1), (2, v2), (3, .int .i64 a3), (9, u1), (11, .int .i64 y3.2.1), (18, u10), (19, .int .i64 x2), (23, u21), (26, u25), (77, (q1 4)), (78, .int .i64 (([y3.1, y7.1]).length : Int)), (79, .int .i64 s3.1)] ⟨rfl, rfl, rfl, rfl, rfl, rfl, rfl, rfl, rfl, rfl, rfl, rfl, rfl, trivial⟩ ?_
              refine Run.slim [(1, v1), (2, v2), (3, .int .i64 a3), (9, u1), (11, .int .i64 y3.2.1), (18, u10), (19, .int .i64 x2), (23, u21), (26, u25), (77, (q1 4)), (78, .int .i64 (([y3.1, y7.1]).length : Int)), (79, .int .i64 s3.1), (179, .bool true)] ⟨rfl, rfl, rfl, rfl, rfl, rfl, rfl, rfl, rfl, rfl, rfl, rfl, rfl, trivial⟩ ?_
              exact hj6 (true) _ _ ⟨rfl, (h94.facts (.atm (.s (.s (.s (.s .z)))) (.atm (.s (.s (.s (.s (.s .z))))) (.atm (.s (.s (.s (.s (.s (.s .z)))))) .nil)))).picks (.cons (.s (.s .z)) (.cons (.s (.s .z)) (.cons (.s (.s .z)) (.cons (.s (.s .z)) .nil))))⟩ hF
             ·
              refine op (OpS.loadB h94 (.s .z) PA.z Get.id ty37 rfl rfl rfl (fun u42 h116 => ?_))
              refine op (OpS.loadB h116 .z PA.z Get.id ty37 rfl rfl rfl (fun u43 h117 => ?_))
              obtain ⟨y22, e35, hF⟩ := bindP_use hF
              refine op (OpS.callP h117 Try.func19 rfl rfl rfl rfl (vs := [u42, u43]) rfl (ref24_SameMessage_ok e35) (.cons (f := true) (V.at (.s .z)) (.cons (f := true) (V.at .z) .nil)) ?_)
              rintro _ w56 _ _ _ ⟨rfl, rfl, rfl, rfl⟩ h118
              have h119 := h118 rfl rfl
              simp only [List.cons_append, List.nil_append] at h119
              refine op (OpS.not rfl rfl rfl ?_)
              refine op (OpS.pick rfl rfl rfl rfl ?_)
              refine RunL.nil ?_
              refine Run.slim [(179, .bool (!y22)), (1, v1), (2, v2), (3, .int .i64 a3), (9, u1), (11, .int .i64 y3.2.1), (18, u10), (19, .int .i64 x2), (23, u21), (26, u25), (77, (q1 4)), (78, .int .i64 (([y3.1, y7.1]).length : Int)), (79, .int .i64 s3.1)] ⟨rfl, rfl, rfl, rfl, rfl, rfl, rfl, rfl, rfl, rfl, rfl, rfl, rfl, trivial⟩ ?_
              refine Run.slim [(1, v1), (2, v2), (3, .int .i64 a3), (9, u1), (11, .int .i64 y3.2.1), (18, u10), (19, .int .i64 x2), (23, u21), (26, u25), (77, (q1 4)), (78, .int .i64 (([y3.1, y7.1]).length : Int)), (79, .int .i64 s3.1), (179, .bool (!y22))] ⟨rfl, rfl, rfl, rfl, rfl, rfl, rfl, rfl, rfl, rfl, rfl, rfl, rfl, trivial⟩ ?_
              exact hj6 (!y22) _ _ ⟨rfl, (h119.facts (.atm (.s (.s (.s (.s (.s (.s .z)))))) (.atm (.s (.s (.s (.s (.s (.s (.s .z))))))) (.atm (.s (.s (.s (.s (.s (.s (.s (.s .z)))))))) .nil)))).picks (.cons (.s (.s .z)) (.cons (.s (.s .z)) (.cons (.s (.s .z)) (.cons (.s (.s .z)) .nil))))⟩ hF
          ·
           refine RunL.caseb hF (fun e36 hF => ?_) (fun e36 hF => ?_)
           ·
            refine op (OpS.pass rfl rfl rfl ?_)
            refine op (OpS.pass rfl rfl rfl ?_)
            refine op (OpS.pass rfl rfl rfl ?_)
            refine op (OpS.pass rfl rfl rfl ?_)
            refine op (OpS.pass rfl rfl rfl ?_)
            refine op (OpS.pick rfl rfl rfl rfl ?_)
            refine op (OpS.mv rfl rfl rfl ?_)
            refine op (OpS.pass rfl rfl rfl ?_)
            refine op (OpS.pass rfl rfl rfl ?_)
            refine op (OpS.pass rfl rfl rfl ?_)
            refine op (OpS.pass rfl rfl rfl ?_)
            refine op (OpS.pick rfl rfl rfl rfl ?_)
            refine RunL.nil ?_
            refine Run.slim [(160, .bool true), (26, u25), (23, u21), (1, v1), (2, v2), (3, .int .i64 a3), (9, u1), (11, .int .i64 y3.2.1), (18, u10), (19, .int .i64 x2), (77, (q1 4)), (78, .int .i64 (([y3.1, y7.1]).length : Int)), (79, .int .i64 s3.1)] ⟨rfl, rfl, rfl, rfl, rfl, rfl, rfl, rfl, rfl, rfl, rfl, rfl, rfl, trivial⟩ ?_
            refine Run.slim [(1, v1), (2, v2), (3, .int .i64 a3), (9, u1), (11, .int .i64 y3.2.1), (18, u10), (19, .int .i64 x2), (23, u21), (26, u25), (77, (q1 4)), (78, .int .i64 (([y3.1, y7.1]).length : Int)), (79, .int .i64 s3.1), (160, .bool true)] ⟨rfl, rfl, rfl, rfl, rfl, rfl, rfl, rfl, rfl, rfl, rfl, rfl, rfl, trivial⟩ ?_
            exact hj5 (true) _ _ ⟨rfl, (h83.facts (.atm (.s (.s (.s (.s (.s (.s .z)))))) (.atm (.s (.s (.s (.s (.s (.s (.s .z))))))) (.atm (.s (.s (.s (.s (.s (.s (.s (.s (.s .z))))))))) .nil)))).picks (.cons (.s (.s .z)) (.cons (.s (.s .z)) (.cons (.s .z) (.cons .z .nil))))⟩ hF
           ·
            refine op (OpS.mv rfl rfl rfl ?_)
            refine op (OpS.toStr h83 Try.underlying22 Try.underlying5 Try.underlying9 rfl rfl rfl (V.at (.s (.s (.s (.s .z))))) (fun u44 h120 => ?_))
            refine op (OpS.mv rfl rfl rfl ?_)
            refine op (OpS.toStr h120 Try.underlying22 Try.underlying5 Try.underlying9 rfl rfl rfl (V.at (.s (.s .z))) (fun u45 h121 => ?_))
            refine op (OpS.nes h121 rfl rfl rfl rfl (V.at (.s .z)) (V.at .z) Try.underlying9 ?_)
            refine op (OpS.pick rfl rfl rfl rfl ?_)
            refine op (OpS.mv rfl rfl rfl ?_)
            refine RunL.caseb hF (fun e37 hF => ?_) (fun e37 hF => ?_)
            ·
             refine op (OpS.pass rfl rfl rfl ?_)
             refine op (OpS.pass rfl rfl rfl ?_)
             refine op (OpS.pass rfl rfl rfl ?_)
             refine op (OpS.pass rfl rfl rfl ?_)
             refine op (OpS.pick rfl rfl rfl rfl ?_)
             refine RunL.nil ?_
             refine Run.slim [(160, .bool true), (26, u25), (23, u21), (1, v1), (2, v2), (3, .int .i64 a3), (9, u1), (11, .int .i64 y3.2.1), (18, u10), (19, .int .i64 x2), (77, (q1 4)), (78, .int .i64 (([y3.1, y7.1]).length : Int)), (79, .int .i64 s3.1)] ⟨rfl, rfl, rfl, rfl, rfl, rfl, rfl, rfl, rfl, rfl, rfl, rfl, rfl, trivial⟩ ?_
             refine Run.slim [(1, v1), (2, v2), (3, .int .i64 a3), (9, u1), (11, .int .i64 y3.2.1), (18, u10), (19, .int .i64 x2), (23, u21), (26, u25), (77, (q1 4)), (78, .int .i64 (([y3.1, y7.1]).length : Int)), (79, .int .i64 s3.1), (160, .bool true)] ⟨rfl, rfl, rfl, rfl, rfl, rfl, rfl, rfl, rfl, rfl, rfl, rfl, rfl, trivial⟩ ?_
             exact hj5 (true) _ _ ⟨rfl, (h121.facts (.atm (.s (.s (.s (.s (.s (.s (.s (.s .z)))))))) (.atm (.s (.s (.s (.s (.s (.s (.s (.s (.s .z))))))))) (.atm (.s (.s (.s (.s (.s (.s (.s (.s (.s (.s (.s .z))))))))))) .nil)))).picks (.cons (.s (.s .z)) (.cons (.s (.s .z)) (.cons (.s .z) (.cons .z .nil))))⟩ hF
            ·
             refine op (OpS.loadB h121 (.s .z) PA.z Get.id ty29 rfl rfl rfl (fun u46 h122 => ?_))
             refine op (OpS.loadB h122 .z PA.z Get.id ty29 rfl rfl rfl (fun u47 h123 => ?_))
             obtain ⟨y23, e38, hF⟩ := bindP_use hF
             refine op (OpS.callP h123 Try.func23 rfl rfl rfl rfl (vs := [u46, u47]) rfl (ref25_Equal_ok e38) (.cons (f := false) (V.at (.s .z)) (.cons (f := false) (V.at .z) .nil)) ?_)
             rintro _ w57 _ _ _ ⟨rfl, rfl, rfl, rfl⟩ h124
             have h125 := h124 rfl rfl
             simp only [List.cons_append, List.nil_append] at h125
             refine op (OpS.not rfl rfl rfl ?_)
             refine op (OpS.pick rfl rfl rfl rfl ?_)
             refine RunL.nil ?_
             refine Run.slim [(160, .bool (!y23)), (26, u25), (23, u21), (1, v1), (2, v2), (3, .int .i64 a3), (9, u1), (11, .int .i64 y3.2.1), (18, u10), (19, .int .i64 x2), (77, (q1 4)), (78, .int .i64 (([y3.1, y7.1]).length : Int)), (79, .int .i64 s3.1)] ⟨rfl, rfl, rfl, rfl, rfl, rfl, rfl, rfl, rfl, rfl, rfl, rfl, rfl, trivial⟩ ?_
             refine Run.slim [(1, v1), (2, v2), (3, .int .i64 a3), (9, u1), (11, .int .i64 y3.2.1), (18, u10), (19, .int .i64 x2), (23, u21), (26, u25), (77, (q1 4)), (78, .int .i64 (([y3.1, y7.1]).length : Int)), (79, .int .i64 s3.1), (160, .bool (!y23))] ⟨rfl, rfl, rfl, rfl, rfl, rfl, rfl, rfl, rfl, rfl, rfl, rfl, rfl, trivial⟩ ?_
             exact hj5 (!y23) _ _ ⟨rfl, (h125.facts (.atm (.s (.s (.s (.s (.s (.s (.s (.s (.s (.s .z)))))))))) (.atm (.s (.s (.s (.s (.s (.s (.s (.s (.s (.s (.s .z))))))))))) (.atm (.s (.s (.s (.s (.s (.s (.s (.s (.s (.s (.s (.s (.s .z))))))))))))) .nil)))).picks (.cons (.s (.s .z)) (.cons (.s (.s .z)) (.cons (.s .z) (.cons .z .nil))))⟩ hF
        ·
         have h126 := h68.picks (.cons (.s .z) (.cons (.s .z) (.cons (.s .z) (.cons .z .nil))))
         obtain ⟨y24, e39, hF⟩ := bindP_use hF
         obtain ⟨y25, e40, hF⟩ := bindP_use hF
         obtain ⟨x3, e41, hF⟩ := letP_use hF
         refine iteP_use hF (fun e42 hF => ?_) (fun e42 hF => ?_)
         ·
          have hG := hF
          subst e42
          have hF := hG
          refine Run.drawV (Ωs := [(false, .box 64 field_Codes.rep u1 y13.2)]) [⟨some 109, none, fun u_ => [(false, .val Responder_.rep u_ x1)], fun ds_ u_ => [], [], [(0, [])], none⟩, ⟨some 110, some (.bool y24), fun _ => [], fun ds_ u_ => [], [], [], none⟩, ⟨some 111, none, fun u_ => [(false, .val Responder_.rep u_ x1)], fun ds_ u_ => [], [], [(0, [])], none⟩, ⟨some 112, some (.bool y25), fun _ => [], fun ds_ u_ => [], [], [], none⟩, ⟨some 113, some (.bool (y24 != y25)), fun _ => [], fun ds_ u_ => [], [], [], none⟩, ⟨some 114, some (.bool true), fun _ => [], fun ds_ u_ => [], [], [], none⟩, ⟨some 115, some undef, fun _ => [], fun _ _ => [], [], [], none⟩, ⟨some 116, some undef, fun _ => [], fun _ _ => [], [], [], none⟩, ⟨some 117, some undef, fun _ => [], fun _ _ => [], [], [], none⟩, ⟨some 118, some undef, fun _ => [], fun _ _ => [], [], [], none⟩, ⟨some 119, some undef, fun _ => [], fun _ _ => [], [], [], none⟩, ⟨some 120, some undef, fun _ => [], fun _ _ => [], [], [], none⟩, ⟨some 121, some undef, fun _ => [], fun _ _ => [], [], [], none⟩, ⟨some 122, some (.bool true), fun _ => [], fun ds_ u_ => [], [], [], none⟩, ⟨some 123, some (.bool true), fun _ => [], fun ds_ u_ => [], [], [], none⟩, ⟨some 124, some undef, fun _ => [], fun _ _ => [], [], [], none⟩, ⟨some 125, some undef, fun _ => [], fun _ _ => [], [], [], none⟩, ⟨some 126, some undef, fun _ => [], fun _ _ => [], [], [], none⟩, ⟨some 127, some undef, fun _ => [], fun _ _ => [], [], [], none⟩, ⟨some 128, some (.bool true), fun _ => [], fun ds_ u_ => [], [], [], none⟩] [[], [0], [], [2], [1, 3], [4], [5], [5], [5], [5], [5], [5], [5], [5, 12], [13], [14], [14], [14], [14], [14, 18]] [[(false, .box 29 Responder_.rep u10 x1)], [(true, .box 37 Message_.rep u15 y11.1)], [(true, .box 37 Message_.rep u16 y12.1)]] [0, 1, 2, 3, 4, 5, 6, 7, 8, 9, 10, 11, 12, 13, 14, 15, 16, 17, 18, 19, 20, 21, 22] Try_mixed rfl rfl rfl h126 (.cons ?_ (.cons ?_ (.cons ?_ (.cons ?_ (.cons ?_ (.cons ?_ (.cons ?_ (.cons ?_ (.cons ?_ (.cons ?_ (.cons ?_ (.cons ?_ (.cons ?_ (.cons ?_ (.cons ?_ (.cons ?_ (.cons ?_ (.cons ?_ (.cons ?_ (.cons ?_ .nil)))))))))))))))))))) (fun q2 w hq2 h => ?_)
          ·intro q2 w Γx Ωx h
           have h : St e w ([(false, .val (Rep.slice (Rep.int .u8)) v1 a1), (false, .val (Rep.slice (Rep.int .u8)) v2 a2), (false, .val (Rep.slice Responder_.rep) (q1 4) ([y3.1, y7.1])), (false, .val (Rep.slice (Rep.int .u8)) u17 s4)] ++ Γx) ([(false, .box 29 Responder_.rep u10 x1), (false, .box 64 field_Codes.rep u1 y13.2)] ++ Ωx) := h
           refine OpS.loadB h .z PA.z Get.id ty29 rfl rfl rfl (fun u h133 => ?_)
           exact ⟨u, rfl, trivial, h133⟩
          ·intro q2 w Γx Ωx h
           refine OpS.callP h Try.func20 rfl rfl rfl rfl (vs := [(q2 0)]) rfl (responder_Valid_ok e39) (.cons (f := false) (V.at .z) .nil) ?_
           rintro _ w60 _ _ _ ⟨rfl, rfl, rfl, rfl⟩ h134
           have h135 := h134 rfl rfl
           simp only [List.cons_append, List.nil_append] at h135
           exact ⟨undef, rfl, trivial, h135⟩
          ·intro q2 w Γx Ωx h
           have h : St e w ([(false, .val (Rep.slice (Rep.int .u8)) v1 a1), (false, .val (Rep.slice (Rep.int .u8)) v2 a2), (false, .val (Rep.slice Responder_.rep) (q1 4) ([y3.1, y7.1])), (false, .val (Rep.slice (Rep.int .u8)) u17 s4)] ++ Γx) ([(false, .box 29 Responder_.rep u10 x1), (false, .box 64 field_Codes.rep u1 y13.2)] ++ Ωx) := h
           refine OpS.loadB h .z PA.z Get.id ty29 rfl rfl rfl (fun u h136 => ?_)
           exact ⟨u, rfl, trivial, h136⟩
          ·intro q2 w Γx Ωx h
           refine OpS.callP h Try.func28 rfl rfl rfl rfl (vs := [(q2 2)]) rfl (ref25_Valid_ok e40) (.cons (f := false) (V.at .z) .nil) ?_
           rintro _ w61 _ _ _ ⟨rfl, rfl, rfl, rfl⟩ h137
           have h138 := h137 rfl rfl
           simp only [List.cons_append, List.nil_append] at h138
           exact ⟨undef, rfl, trivial, h138⟩
          ·intro q2 w Γx Ωx h
           refine OpS.neb Try.underlying4 rfl rfl rfl rfl ?_
           exact ⟨undef, rfl, trivial, h⟩
          ·intro q2 w Γx Ωx h
           refine OpS.mv rfl rfl rfl ?_
           exact ⟨undef, (congrArg (fun z_ => some (Value.bool z_)) e41), trivial, h⟩
          ·intro q2 w Γx Ωx h
           exact OpS.pass rfl rfl rfl ⟨undef, rfl, trivial, h⟩
          ·intro q2 w Γx Ωx h
           exact OpS.pass rfl rfl rfl ⟨undef, rfl, trivial, h⟩
          ·intro q2 w Γx Ωx h
           exact OpS.pass rfl rfl rfl ⟨undef, rfl, trivial, h⟩
          ·intro q2 w Γx Ωx h
           exact OpS.pass rfl rfl rfl ⟨undef, rfl, trivial, h⟩
          ·intro q2 w Γx Ωx h
           exact OpS.pass rfl rfl rfl ⟨undef, rfl, trivial, h⟩
          ·intro q2 w Γx Ωx h
           exact OpS.pass rfl rfl rfl ⟨undef, rfl, trivial, h⟩
          ·intro q2 w Γx Ωx h
           exact OpS.pass rfl rfl rfl ⟨undef, rfl, trivial, h⟩
          ·intro q2 w Γx Ωx h
           refine OpS.pick rfl rfl rfl rfl ?_
           exact ⟨undef, rfl, trivial, h⟩
          ·intro q2 w Γx Ωx h
           refine OpS.mv rfl rfl rfl ?_
           exact ⟨undef, rfl, trivial, h⟩
          ·intro q2 w Γx Ωx h
           exact OpS.pass rfl rfl rfl ⟨undef, rfl, trivial, h⟩
          ·intro q2 w Γx Ωx h
           exact OpS.pass rfl rfl rfl ⟨undef, rfl, trivial, h⟩
          ·intro q2 w Γx Ωx h
           exact OpS.pass rfl rfl rfl ⟨undef, rfl, trivial, h⟩
          ·intro q2 w Γx Ωx h
           exact OpS.pass rfl rfl rfl ⟨undef, rfl, trivial, h⟩
          ·intro q2 w Γx Ωx h
           refine OpS.pick rfl rfl rfl rfl ?_
           exact ⟨undef, rfl, trivial, h⟩
          have h139 : St e w [(false, .val Responder_.rep (q2 0) x1), (false, .val Responder_.rep (q2 2) x1), (false, .val (Rep.slice (Rep.int .u8)) v1 a1), (false, .val (Rep.slice (Rep.int .u8)) v2 a2), (false, .val (Rep.slice Responder_.rep) (q1 4) ([y3.1, y7.1])), (false, .val (Rep.slice (Rep.int .u8)) u17 s4)] [(false, .box 29 Responder_.rep u10 x1), (true, .box 37 Message_.rep u15 y11.1), (true, .box 37 Message_.rep u16 y12.1), (false, .box 64 field_Codes.rep u1 y13.2)] := h
          refine RunL.nil ?_
          refine Run.slim [(128, .bool true), (1, v1), (2, v2), (3, .int .i64 a3), (9, u1), (11, .int .i64 y3.2.1), (18, u10), (19, .int .i64 x2), (20, u17), (77, (q1 4)), (78, .int .i64 (([y3.1, y7.1]).length : Int)), (79, .int .i64 s3.1)] ⟨rfl, rfl, rfl, rfl, rfl, rfl, rfl, rfl, rfl, rfl, rfl, rfl, trivial⟩ ?_
          refine Run.slim [(1, v1), (2, v2), (3, .int .i64 a3), (9, u1), (11, .int .i64 y3.2.1), (18, u10), (19, .int .i64 x2), (20, u17), (77, (q1 4)), (78, .int .i64 (([y3.1, y7.1]).length : Int)), (79, .int .i64 s3.1), (128, .bool true)] ⟨rfl, rfl, rfl, rfl, rfl, rfl, rfl, rfl, rfl, rfl, rfl, rfl, trivial⟩ ?_
          exact hj4 (true) _ _ ⟨rfl, (h139.facts (.atm (.s (.s .z)) (.atm (.s (.s (.s .z))) (.atm (.s (.s (.s (.s (.s .z))))) (.atm (.s (.s (.s (.s .z)))) .nil))))).picks (.cons (.s (.s (.s .z))) (.cons .z .nil))⟩ hF
         ·
          have hG := hF
          subst e42
          have hF := hG
          obtain ⟨y26, e43, hF⟩ := bindP_use hF
          obtain ⟨y27, e44, hF⟩ := bindP_use hF
          obtain ⟨x4, e45, hF⟩ := letP_use hF
          refine iteP_use hF (fun e46 hF => ?_) (fun e46 hF => ?_)
          ·
           have hG := hF
           subst e46
           have hF := hG
           refine Run.drawV (Ωs := [(false, .box 64 field_Codes.rep u1 y13.2)]) [⟨some 109, none, fun u_ => [(false, .val Responder_.rep u_ x1)], fun ds_ u_ => [], [], [(0, [])], none⟩, ⟨some 110, some (.bool y24), fun _ => [], fun ds_ u_ => [], [], [], none⟩, ⟨some 111, none, fun u_ => [(false, .val Responder_.rep u_ x1)], fun ds_ u_ => [], [], [(0, [])], none⟩, ⟨some 112, some (.bool y25), fun _ => [], fun ds_ u_ => [], [], [], none⟩, ⟨some 113, some (.bool (y24 != y25)), fun _ => [], fun ds_ u_ => [], [], [], none⟩, ⟨some 114, some (.bool false), fun _ => [], fun ds_ u_ => [], [], [], none⟩, ⟨some 115, none, fun u_ => [(true, .val Message_.rep u_ y11.1)], fun ds_ u_ => [], [], [(1, [])], none⟩, ⟨some 116, none, fun u_ => [(true, .val Message_.rep u_ y12.1)], fun ds_ u_ => [], [], [(2, [])], none⟩, ⟨some 117, some (.bool y26), fun _ => [], fun ds_ u_ => [], [], [], none⟩, ⟨some 118, none, fun u_ => [(true, .val Message_.rep u_ y11.1)], fun ds_ u_ => [], [], [(1, [])], none⟩, ⟨some 119, none, fun u_ => [(true, .val Message_.rep u_ y12.1)], fun ds_ u_ => [], [], [(2, [])], none⟩, ⟨some 120, some (.bool y27), fun _ => [], fun ds_ u_ => [], [], [], none⟩, ⟨some 121, some (.bool (y26 != y27)), fun _ => [], fun ds_ u_ => [], [], [], none⟩, ⟨some 122, some (.bool (y26 != y27)), fun _ => [], fun ds_ u_ => [], [], [], none⟩, ⟨some 123, some (.bool true), fun _ => [], fun ds_ u_ => [], [], [], none⟩, ⟨some 124, some undef, fun _ => [], fun _ _ => [], [], [], none⟩, ⟨some 125, some undef, fun _ => [], fun _ _ => [], [], [], none⟩, ⟨some 126, some undef, fun _ => [], fun _ _ => [], [], [], none⟩, ⟨some 127, some undef, fun _ => [], fun _ _ => [], [], [], none⟩, ⟨some 128, some (.bool true), fun _ => [], fun ds_ u_ => [], [], [], none⟩] [[], [0], [], [2], [1, 3], [4], [5], [5], [6, 7, 5], [5], [5], [9, 10, 5], [8, 11, 5], [5, 12], [13], [14], [14], [14], [14], [14, 18]] [[(false, .box 29 Responder_.rep u10 x1)], [(true, .box 37 Message_.rep u15 y11.1)], [(true, .box 37 Message_.rep u16 y12.1)]] [0, 1, 2, 3, 4, 5, 6, 7, 8, 9, 10, 11, 12, 13, 14, 15, 16, 17, 18, 19, 20, 21, 22] Try_mixed rfl rfl rfl h126 (.cons ?_ (.cons ?_ (.cons ?_ (.cons ?_ (.cons ?_ (.cons ?_ (.cons ?_ (.cons ?_ (.cons ?_ (.cons ?_ (.cons ?_ (.cons ?_ (.cons ?_ (.cons ?_ (.cons ?_ (.cons ?_ (.cons ?_ (.cons ?_ (.cons ?_ (.cons ?_ .nil)))))))))))))))))))) (fun q2 w hq3 h => ?_)
           ·intro q2 w Γx Ωx h
            have h : St e w ([(false, .val (Rep.slice (Rep.int .u8)) v1 a1), (false, .val (Rep.slice (Rep.int .u8)) v2 a2), (false, .val (Rep.slice Responder_.rep) (q1 4) ([y3.1, y7.1])), (false, .val (Rep.slice (Rep.int .u8)) u17 s4)] ++ Γx) ([(false, .box 29 Responder_.rep u10 x1), (false, .box 64 field_Codes.rep u1 y13.2)] ++ Ωx) := h
            refine OpS.loadB h .z PA.z Get.id ty29 rfl rfl rfl (fun u h148 => ?_)
            exact ⟨u, rfl, trivial, h148⟩
           ·intro q2 w Γx Ωx h
            refine OpS.callP h Try.func20 rfl rfl rfl rfl (vs := [(q2 0)]) rfl (responder_Valid_ok e39) (.cons (f := false) (V.at .z) .nil) ?_
            rintro _ w64 _ _ _ ⟨rfl, rfl, rfl, rfl⟩ h149
            have h150 := h149 rfl rfl
            simp only [List.cons_append, List.nil_append] at h150
            exact ⟨undef, rfl, trivial, h150⟩
           ·intro q2 w Γx Ωx h
            have h : St e w ([(false, .val (Rep.slice (Rep.int .u8)) v1 a1), (false, .val (Rep.slice (Rep.int .u8)) v2 a2), (false, .val (Rep.slice Responder_.rep) (q1 4) ([y3.1, y7.1])), (false, .val (Rep.slice (Rep.int .u8)) u17 s4)] ++ Γx) ([(false, .box 29 Responder_.rep u10 x1), (false, .box 64 field_Codes.rep u1 y13.2)] ++ Ωx) := h
            refine OpS.loadB h .z PA.z Get.id ty29 rfl rfl rfl (fun u h151 => ?_)
            exact ⟨u, rfl, trivial, h151⟩
           ·intro q2 w Γx Ωx h
            refine OpS.callP h Try.func28 rfl rfl rfl rfl (vs := [(q2 2)]) rfl (ref25_Valid_ok e40) (.cons (f := false) (V.at .z) .nil) ?_
            rintro _ w65 _ _ _ ⟨rfl, rfl, rfl, rfl⟩ h152
            have h153 := h152 rfl rfl
            simp only [List.cons_append, List.nil_append] at h153
            exact ⟨undef, rfl, trivial, h153⟩
           ·intro q2 w Γx Ωx h
            refine OpS.neb Try.underlying4 rfl rfl rfl rfl ?_
            exact ⟨undef, rfl, trivial, h⟩
           ·intro q2 w Γx Ωx h
            refine OpS.mv rfl rfl rfl ?_
            exact ⟨undef, (congrArg (fun z_ => some (Value.bool z_)) e41), trivial, h⟩
           ·intro q2 w Γx Ωx h
            have h : St e w ([(false, .val (Rep.slice (Rep.int .u8)) v1 a1), (false, .val (Rep.slice (Rep.int .u8)) v2 a2), (false, .val (Rep.slice Responder_.rep) (q1 4) ([y3.1, y7.1])), (false, .val (Rep.slice (Rep.int .u8)) u17 s4)] ++ Γx) ([(true, .box 37 Message_.rep u15 y11.1), (false, .box 64 field_Codes.rep u1 y13.2)] ++ Ωx) := h
            refine OpS.loadB h .z PA.z Get.id ty37 rfl rfl rfl (fun u h154 => ?_)
            exact ⟨u, rfl, trivial, h154⟩
           ·intro q2 w Γx Ωx h
            have h : St e w ([(false, .val (Rep.slice (Rep.int .u8)) v1 a1), (false, .val (Rep.slice (Rep.int .u8)) v2 a2), (false, .val (Rep.slice Responder_.rep) (q1 4) ([y3.1, y7.1])), (false, .val (Rep.slice (Rep.int .u8)) u17 s4)] ++ Γx) ([(true, .box 37 Message_.rep u16 y12.1), (false, .box 64 field_Codes.rep u1 y13.2)] ++ Ωx) := h
            refine OpS.loadB h .z PA.z Get.id ty37 rfl rfl rfl (fun u h155 => ?_)
            exact ⟨u, rfl, trivial, h155⟩
           ·intro q2 w Γx Ωx h
            refine OpS.callP h Try.func29 rfl rfl rfl rfl (vs := [(q2 6), (q2 7)]) rfl (responder_Same_ok e43) (.cons (f := true) (V.at .z) (.cons (f := true) (V.at (.s .z)) .nil)) ?_
            rintro _ w66 _ _ _ ⟨rfl, rfl, rfl, rfl⟩ h156
            have h157 := h156 rfl rfl
            simp only [List.cons_append, List.nil_append] at h157
            exact ⟨undef, rfl, trivial, h157⟩
           ·intro q2 w Γx Ωx h
            have h : St e w ([(false, .val (Rep.slice (Rep.int .u8)) v1 a1), (false, .val (Rep.slice (Rep.int .u8)) v2 a2), (false, .val (Rep.slice Responder_.rep) (q1 4) ([y3.1, y7.1])), (false, .val (Rep.slice (Rep.int .u8)) u17 s4)] ++ Γx) ([(true, .box 37 Message_.rep u15 y11.1), (false, .box 64 field_Codes.rep u1 y13.2)] ++ Ωx) := h
            refine OpS.loadB h .z PA.z Get.id ty37 rfl rfl rfl (fun u h158 => ?_)
            exact ⟨u, rfl, trivial, h158⟩
           ·intro q2 w Γx Ωx h
            have h : St e w ([(false, .val (Rep.slice (Rep.int .u8)) v1 a1), (false, .val (Rep.slice (Rep.int .u8)) v2 a2), (false, .val (Rep.slice Responder_.rep) (q1 4) ([y3.1, y7.1])), (false, .val (Rep.slice (Rep.int .u8)) u17 s4)] ++ Γx) ([(true, .box 37 Message_.rep u16 y12.1), (false, .box 64 field_Codes.rep u1 y13.2)] ++ Ωx) := h
            refine OpS.loadB h .z PA.z Get.id ty37 rfl rfl rfl (fun u h159 => ?_)
            exact ⟨u, rfl, trivial, h159⟩
           ·intro q2 w Γx Ωx h
            refine OpS.callP h Try.func30 rfl rfl rfl rfl (vs := [(q2 9), (q2 10)]) rfl (ref25_Same_ok e44) (.cons (f := true) (V.at .z) (.cons (f := true) (V.at (.s .z)) .nil)) ?_
            rintro _ w67 _ _ _ ⟨rfl, rfl, rfl, rfl⟩ h160
            have h161 := h160 rfl rfl
            simp only [List.cons_append, List.nil_append] at h161
            exact ⟨undef, rfl, trivial, h161⟩
           ·intro q2 w Γx Ωx h
            refine OpS.neb Try.underlying4 rfl rfl rfl rfl ?_
            exact ⟨undef, rfl, trivial, h⟩
           ·intro q2 w Γx Ωx h
            refine OpS.pick rfl rfl rfl rfl ?_
            exact ⟨undef, rfl, trivial, h⟩
           ·intro q2 w Γx Ωx h
            refine OpS.mv rfl rfl rfl ?_
            exact ⟨undef, (congrArg (fun z_ => some (Value.bool z_)) e45), trivial, h⟩
           ·intro q2 w Γx Ωx h
            exact OpS.pass rfl rfl rfl ⟨undef, rfl, trivial, h⟩
           ·intro q2 w Γx Ωx h
            exact OpS.pass rfl rfl rfl ⟨undef, rfl, trivial, h⟩
           ·intro q2 w Γx Ωx h
            exact OpS.pass rfl rfl rfl ⟨undef, rfl, trivial, h⟩
           ·intro q2 w Γx Ωx h
            exact OpS.pass rfl rfl rfl ⟨undef, rfl, trivial, h⟩
           ·intro q2 w Γx Ωx h
            refine OpS.pick rfl rfl rfl rfl ?_
            exact ⟨undef, rfl, trivial, h⟩
           have h162 : St e w [(false, .val Responder_.rep (q2 0) x1), (false, .val Responder_.rep (q2 2) x1), (true, .val Message_.rep (q2 6) y11.1), (true, .val Message_.rep (q2 7) y12.1), (true, .val Message_.rep (q2 9) y11.1), (true, .val Message_.rep (q2 10) y12.1), (false, .val (Rep.slice (Rep.int .u8)) v1 a1), (false, .val (Rep.slice (Rep.int .u8)) v2 a2), (false, .val (Rep.slice Responder_.rep) (q1 4) ([y3.1, y7.1])), (false, .val (Rep.slice (Rep.int .u8)) u17 s4)] [(false, .box 29 Responder_.rep u10 x1), (true, .box 37 Message_.rep u15 y11.1), (true, .box 37 Message_.rep u16 y12.1), (false, .box 64 field_Codes.rep u1 y13.2)] := h
           refine RunL.nil ?_
           refine Run.slim [(128, .bool true), (1, v1), (2, v2), (3, .int .i64 a3), (9, u1), (11, .int .i64 y3.2.1), (18, u10), (19, .int .i64 x2), (20, u17), (77, (q1 4)), (78, .int .i64 (([y3.1, y7.1]).length : Int)), (79, .int .i64 s3.1)] ⟨rfl, rfl, rfl, rfl, rfl, rfl, rfl, rfl, rfl, rfl, rfl, rfl, trivial⟩ ?_
           refine Run.slim [(1, v1), (2, v2), (3, .int .i64 a3), (9, u1), (11, .int .i64 y3.2.1), (18, u10), (19, .int .i64 x2), (20, u17), (77, (q1 4)), (78, .int .i64 (([y3.1, y7.1]).length : Int)), (79, .int .i64 s3.1), (128, .bool true)] ⟨rfl, rfl, rfl, rfl, rfl, rfl, rfl, rfl, rfl, rfl, rfl, rfl, trivial⟩ ?_
           exact hj4 (true) _ _ ⟨rfl, (h162.facts (.atm (.s (.s (.s (.s (.s (.s .z)))))) (.atm (.s (.s (.s (.s (.s (.s (.s .z))))))) (.atm (.s (.s (.s (.s (.s (.s (.s (.s (.s .z))))))))) (.atm (.s (.s (.s (.s (.s (.s (.s (.s .z)))))))) .nil))))).picks (.cons (.s (.s (.s .z))) (.cons .z .nil))⟩ hF
          ·
           have hG := hF
           subst e46
           have hF := hG
           obtain ⟨y28, e47, hF⟩ := bindP_use hF
           refine Run.drawV (Ωs := [(false, .box 64 field_Codes.rep u1 y13.2)]) [⟨some 109, none, fun u_ => [(false, .val Responder_.rep u_ x1)], fun ds_ u_ => [], [], [(0, [])], none⟩, ⟨some 110, some (.bool y24), fun _ => [], fun ds_ u_ => [], [], [], none⟩, ⟨some 111, none, fun u_ => [(false, .val Responder_.rep u_ x1)], fun ds_ u_ => [], [], [(0, [])], none⟩, ⟨some 112, some (.bool y25), fun _ => [], fun ds_ u_ => [], [], [], none⟩, ⟨some 113, some (.bool (y24 != y25)), fun _ => [], fun ds_ u_ => [], [], [], none⟩, ⟨some 114, some (.bool false), fun _ => [], fun ds_ u_ => [], [], [], none⟩, ⟨some 115, none, fun u_ => [(true, .val Message_.rep u_ y11.1)], fun ds_ u_ => [], [], [(1, [])], none⟩, ⟨some 116, none, fun u_ => [(true, .val Message_.rep u_ y12.1)], fun ds_ u_ => [], [], [(2, [])], none⟩, ⟨some 117, some (.bool y26), fun _ => [], fun ds_ u_ => [], [], [], none⟩, ⟨some 118, none, fun u_ => [(true, .val Message_.rep u_ y11.1)], fun ds_ u_ => [], [], [(1, [])], none⟩, ⟨some 119, none, fun u_ => [(true, .val Message_.rep u_ y12.1)], fun ds_ u_ => [], [], [(2, [])], none⟩, ⟨some 120, some (.bool y27), fun _ => [], fun ds_ u_ => [], [], [], none⟩, ⟨some 121, some (.bool (y26 != y27)), fun _ => [], fun ds_ u_ => [], [], [], none⟩, ⟨some 122, some (.bool (y26 != y27)), fun _ => [], fun ds_ u_ => [], [], [], none⟩, ⟨some 123, some (.bool false), fun _ => [], fun ds_ u_ => [], [], [], none⟩, ⟨some 124, none, fun u_ => [(true, .val Message_.rep u_ y11.1)], fun ds_ u_ => [], [], [(1, [])], none⟩, ⟨some 125, none, fun u_ => [(true, .val Message_.rep u_ y11.1)], fun ds_ u_ => [], [], [(1, [])], none⟩, ⟨some 126, some (.bool y28), fun _ => [], fun ds_ u_ => [], [], [], none⟩, ⟨some 127, some (.bool (!y28)), fun _ => [], fun ds_ u_ => [], [], [], none⟩, ⟨some 128, some (.bool (!y28)), fun _ => [], fun ds_ u_ => [], [], [], none⟩] [[], [0], [], [2], [1, 3], [4], [5], [5], [6, 7, 5], [5], [5], [9, 10, 5], [8, 11, 5], [5, 12], [13], [14], [14], [15, 16, 14], [17, 14], [14, 18]] [[(false, .box 29 Responder_.rep u10 x1)], [(true, .box 37 Message_.rep u15 y11.1)], [(true, .box 37 Message_.rep u16 y12.1)]] [0, 1, 2, 3, 4, 5, 6, 7, 8, 9, 10, 11, 12, 13, 14, 15, 16, 17, 18, 19, 20, 21, 22] Try_mixed rfl rfl rfl h126 (.cons ?_ (.cons ?_ (.cons ?_ (.cons ?_ (.cons ?_ (.cons ?_ (.cons ?_ (.cons ?_ (.cons ?_ (.cons ?_ (.cons ?_ (.cons ?_ (.cons ?_ (.cons ?_ (.cons ?_ (.cons ?_ (.cons ?_ (.cons ?_ (.cons ?_ (.cons ?_ .nil)))))))))))))))))))) (fun q2 w hq4 h => ?_)
           ·intro q2 w Γx Ωx h
            have h : St e w ([(false, .val (Rep.slice (Rep.int .u8)) v1 a1), (false, .val (Rep.slice (Rep.int .u8)) v2 a2), (false, .val (Rep.slice Responder_.rep) (q1 4) ([y3.1, y7.1])), (false, .val (Rep.slice (Rep.int .u8)) u17 s4)] ++ Γx) ([(false, .box 29 Responder_.rep u10 x1), (false, .box 64 field_Codes.rep u1 y13.2)] ++ Ωx) := h
            refine OpS.loadB h .z PA.z Get.id ty29 rfl rfl rfl (fun u h167 => ?_)
            exact ⟨u, rfl, trivial, h167⟩
           ·intro q2 w Γx Ωx h
            refine OpS.callP h Try.func20 rfl rfl rfl rfl (vs := [(q2 0)]) rfl (responder_Valid_ok e39) (.cons (f := false) (V.at .z) .nil) ?_
            rintro _ w69 _ _ _ ⟨rfl, rfl, rfl, rfl⟩ h168
            have h169 := h168 rfl rfl
            simp only [List.cons_append, List.nil_append] at h169
            exact ⟨undef, rfl, trivial, h169⟩
           ·intro q2 w Γx Ωx h
            have h : St e w ([(false, .val (Rep.slice (Rep.int .u8)) v1 a1), (false, .val (Rep.slice (Rep.int .u8)) v2 a2), (false, .val (Rep.slice Responder_.rep) (q1 4) ([y3.1, y7.1])), (false, .val (Rep.slice (Rep.int .u8)) u17 s4)] ++ Γx) ([(false, .box 29 Responder_.rep u10 x1), (false, .box 64 field_Codes.rep u1 y13.2)] ++ Ωx) := h
            refine OpS.loadB h .z PA.z Get.id ty29 rfl rfl rfl (fun u h170 => ?_)
            exact ⟨u, rfl, trivial, h170⟩
           ·intro q2 w Γx Ωx h
            refine OpS.callP h Try.func28 rfl rfl rfl rfl (vs := [(q2 2)]) rfl (ref25_Valid_ok e40) (.cons (f := false) (V.at .z) .nil) ?_
            rintro _ w70 _ _ _ ⟨rfl, rfl, rfl, rfl⟩ h171
            have h172 := h171 rfl rfl
            simp only [List.cons_append, List.nil_append] at h172
            exact ⟨undef, rfl, trivial, h172⟩
           ·intro q2 w Γx Ωx h
            refine OpS.neb Try.underlying4 rfl rfl rfl rfl ?_
            exact ⟨undef, rfl, trivial, h⟩
           ·intro q2 w Γx Ωx h
            refine OpS.mv rfl rfl rfl ?_
            exact ⟨undef, (congrArg (fun z_ => some (Value.bool z_)) e41), trivial, h⟩
           ·intro q2 w Γx Ωx h
            have h : St e w ([(false, .val (Rep.slice (Rep.int .u8)) v1 a1), (false, .val (Rep.slice (Rep.int .u8)) v2 a2), (false, .val (Rep.slice Responder_.rep) (q1 4) ([y3.1, y7.1])), (false, .val (Rep.slice (Rep.int .u8)) u17 s4)] ++ Γx) ([(true, .box 37 Message_.rep u15 y11.1), (false, .box 64 field_Codes.rep u1 y13.2)] ++ Ωx) := h
            refine OpS.loadB h .z PA.z Get.id ty37 rfl rfl rfl (fun u h173 => ?_)
            exact ⟨u, rfl, trivial, h173⟩
           ·intro q2 w Γx Ωx h
            have h : St e w ([(false, .val (Rep.slice (Rep.int .u8)) v1 a1), (false, .val (Rep.slice (Rep.int .u8)) v2 a2), (false, .val (Rep.slice Responder_.rep) (q1 4) ([y3.1, y7.1])), (false, .val (Rep.slice (Rep.int .u8)) u17 s4)] ++ Γx) ([(true, .box 37 Message_.rep u16 y12.1), (false, .box 64 field_Codes.rep u1 y13.2)] ++ Ωx) := h
            refine OpS.loadB h .z PA.z Get.id ty37 rfl rfl rfl (fun u h174 => ?_)
            exact ⟨u, rfl, trivial, h174⟩
           ·intro q2 w Γx Ωx h
            refine OpS.callP h Try.func29 rfl rfl rfl rfl (vs := [(q2 6), (q2 7)]) rfl (responder_Same_ok e43) (.cons (f := true) (V.at .z) (.cons (f := true) (V.at (.s .z)) .nil)) ?_
            rintro _ w71 _ _ _ ⟨rfl, rfl, rfl, rfl⟩ h175
            have h176 := h175 rfl rfl
            simp only [List.cons_append, List.nil_append] at h176
            exact ⟨undef, rfl, trivial, h176⟩
           ·intro q2 w Γx Ωx h
            have h : St e w ([(false, .val (Rep.slice (Rep.int .u8)) v1 a1), (false, .val (Rep.slice (Rep.int .u8)) v2 a2), (false, .val (Rep.slice Responder_.rep) (q1 4) ([y3.1, y7.1])), (false, .val (Rep.slice (Rep.int .u8)) u17 s4)] ++ Γx) ([(true, .box 37 Message_.rep u15 y11.1), (false, .box 64 field_Codes.rep u1 y13.2)] ++ Ωx) := h
            refine OpS.loadB h .z PA.z Get.id ty37 rfl rfl rfl (fun u h177 => ?_)
            exact ⟨u, rfl, trivial, h177⟩
           ·intro q2 w Γx Ωx h
            have h : St e w ([(false, .val (Rep.slice (Rep.int .u8)) v1 a1), (false, .val (Rep.slice (Rep.int .u8)) v2 a2), (false, .val (Rep.slice Responder_.rep) (q1 4) ([y3.1, y7.1])), (false, .val (Rep.slice (Rep.int .u8)) u17 s4)] ++ Γx) ([(true, .box 37 Message_.rep u16 y12.1), (false, .box 64 field_Codes.rep u1 y13.2)] ++ Ωx) := h
            refine OpS.loadB h .z PA.z Get.id ty37 rfl rfl rfl (fun u h178 => ?_)
            exact ⟨u, rfl, trivial, h178⟩
           ·intro q2 w Γx Ωx h
            refine OpS.callP h Try.func30 rfl rfl rfl rfl (vs := [(q2 9), (q2 10)]) rfl (ref25_Same_ok e44) (.cons (f := true) (V.at .z) (.cons (f := true) (V.at (.s .z)) .nil)) ?_
            rintro _ w72 _ _ _ ⟨rfl, rfl, rfl, rfl⟩ h179
            have h180 := h179 rfl rfl
            simp only [List.cons_append, List.nil_append] at h180
            exact ⟨undef, rfl, trivial, h180⟩
           ·intro q2 w Γx Ωx h
            refine OpS.neb Try.underlying4 rfl rfl rfl rfl ?_
            exact ⟨undef, rfl, trivial, h⟩
           ·intro q2 w Γx Ωx h
            refine OpS.pick rfl rfl rfl rfl ?_
            exact ⟨undef, rfl, trivial, h⟩
           ·intro q2 w Γx Ωx h
            refine OpS.mv rfl rfl rfl ?_
            exact ⟨undef, (congrArg (fun z_ => some (Value.bool z_)) e45), trivial, h⟩
           ·intro q2 w Γx Ωx h
            have h : St e w ([(false, .val (Rep.slice (Rep.int .u8)) v1 a1), (false, .val (Rep.slice (Rep.int .u8)) v2 a2), (false, .val (Rep.slice Responder_.rep) (q1 4) ([y3.1, y7.1])), (false, .val (Rep.slice (Rep.int .u8)) u17 s4)] ++ Γx) ([(true, .box 37 Message_.rep u15 y11.1), (false, .box 64 field_Codes.rep u1 y13.2)] ++ Ωx) := h
            refine OpS.loadB h .z PA.z Get.id ty37 rfl rfl rfl (fun u h181 => ?_)
            exact ⟨u, rfl, trivial, h181⟩
           ·intro q2 w Γx Ωx h
            have h : St e w ([(false, .val (Rep.slice (Rep.int .u8)) v1 a1), (false, .val (Rep.slice (Rep.int .u8)) v2 a2), (false, .val (Rep.slice Responder_.rep) (q1 4) ([y3.1, y7.1])), (false, .val (Rep.slice (Rep.int .u8)) u17 s4)] ++ Γx) ([(true, .box 37 Message_.rep u15 y11.1), (false, .box 64 field_Codes.rep u1 y13.2)] ++ Ωx) := h
            refine OpS.loadB h .z PA.z Get.id ty37 rfl rfl rfl (fun u h182 => ?_)
            exact ⟨u, rfl, trivial, h182⟩
           ·intro q2 w Γx Ωx h
            refine OpS.callP h Try.func29 rfl rfl rfl rfl (vs := [(q2 15), (q2 16)]) rfl (responder_Same_ok e47) (.cons (f := true) (V.at .z) (.cons (f := true) (V.at (.s .z)) .nil)) ?_
            rintro _ w73 _ _ _ ⟨rfl, rfl, rfl, rfl⟩ h183
            have h184 := h183 rfl rfl
            simp only [List.cons_append, List.nil_append] at h184
            exact ⟨undef, rfl, trivial, h184⟩
           ·intro q2 w Γx Ωx h
            refine OpS.not rfl rfl rfl ?_
            exact ⟨undef, rfl, trivial, h⟩
           ·intro q2 w Γx Ωx h
            refine OpS.pick rfl rfl rfl rfl ?_
            exact ⟨undef, rfl, trivial, h⟩
           have h185 : St e w [(false, .val Responder_.rep (q2 0) x1), (false, .val Responder_.rep (q2 2) x1), (true, .val Message_.rep (q2 6) y11.1), (true, .val Message_.rep (q2 7) y12.1), (true, .val Message_.rep (q2 9) y11.1), (true, .val Message_.rep (q2 10) y12.1), (true, .val Message_.rep (q2 15) y11.1), (true, .val Message_.rep (q2 16) y11.1), (false, .val (Rep.slice (Rep.int .u8)) v1 a1), (false, .val (Rep.slice (Rep.int .u8)) v2 a2), (false, .val (Rep.slice Responder_.rep) (q1 4) ([y3.1, y7.1])), (false, .val (Rep.slice (Rep.int .u8)) u17 s4)] [(false, .box 29 Responder_.rep u10 x1), (true, .box 37 Message_.rep u15 y11.1), (true, .box 37 Message_.rep u16 y12.1), (false, .box 64 field_Codes.rep u1 y13.2)] := h
           refine RunL.nil ?_
           refine Run.slim [(128, .bool (!y28)), (1, v1), (2, v2), (3, .int .i64 a3), (9, u1), (11, .int .i64 y3.2.1), (18, u10), (19, .int .i64 x2), (20, u17), (77, (q1 4)), (78, .int .i64 (([y3.1, y7.1]).length : Int)), (79, .int .i64 s3.1)] ⟨rfl, rfl, rfl, rfl, rfl, rfl, rfl, rfl, rfl, rfl, rfl, rfl, trivial⟩ ?_
           refine Run.slim [(1, v1), (2, v2), (3, .int .i64 a3), (9, u1), (11, .int .i64 y3.2.1), (18, u10), (19, .int .i64 x2), (20, u17), (77, (q1 4)), (78, .int .i64 (([y3.1, y7.1]).length : Int)), (79, .int .i64 s3.1), (128, .bool (!y28))] ⟨rfl, rfl, rfl, rfl, rfl, rfl, rfl, rfl, rfl, rfl, rfl, rfl, trivial⟩ ?_
           exact hj4 (!y28) _ _ ⟨rfl, (h185.facts (.atm (.s (.s (.s (.s (.s (.s (.s (.s .z)))))))) (.atm (.s (.s (.s (.s (.s (.s (.s (.s (.s .z))))))))) (.atm (.s (.s (.s (.s (.s (.s (.s (.s (.s (.s (.s .z))))))))))) (.atm (.s (.s (.s (.s (.s (.s (.s (.s (.s (.s .z)))))))))) .nil))))).picks (.cons (.s (.s (.s .z))) (.cons .z .nil))⟩ hF
       ·
        refine Run.ite rfl hF (fun e48 hF => ?_) (fun e48 hF => ?_)
        ·
         refine Run.reg ?_
         refine op (OpS.loadB h67 (.s (.s .z)) PA.z Get.id ty37 rfl rfl rfl (fun u48 h186 => ?_))
         obtain ⟨y29, e49, hF⟩ := bindP_use hF
         refine op (OpS.callP h186 Try.func27 rfl rfl rfl rfl (vs := [u48]) rfl (ref23_Request_ok e49) (.cons (f := true) (V.at .z) .nil) ?_)
         rintro _ w74 _ _ _ ⟨u49, rfl, rfl, rfl, rfl⟩ h187
         have h188 := h187 rfl rfl
         simp only [List.cons_append, List.nil_append] at h188
         refine op (OpS.mv rfl rfl rfl ?_)
         refine op (OpS.ext rfl rfl rfl rfl ?_)
         refine op (OpS.ext rfl rfl rfl rfl ?_)
         refine op (OpS.as rfl rfl rfl ?_)
         have h189 := (h188.pick .z).freeze
         refine RunL.nil ?_
         refine Run.slim [(20, u49), (22, u16), (21, u15), (19, .int .i64 x2), (18, u10), (1, v1), (2, v2), (3, .int .i64 a3), (9, u1), (11, .int .i64 y3.2.1), (77, (q1 4)), (78, .int .i64 (([y3.1, y7.1]).length : Int)), (79, .int .i64 s3.1)] ⟨rfl, rfl, rfl, rfl, rfl, rfl, rfl, rfl, rfl, rfl, rfl, rfl, rfl, trivial⟩ ?_
         refine Run.slim [(1, v1), (2, v2), (3, .int .i64 a3), (9, u1), (11, .int .i64 y3.2.1), (18, u10), (19, .int .i64 x2), (20, u49), (21, u15), (22, u16), (77, (q1 4)), (78, .int .i64 (([y3.1, y7.1]).length : Int)), (79, .int .i64 s3.1)] ⟨rfl, rfl, rfl, rfl, rfl, rfl, rfl, rfl, rfl, rfl, rfl, rfl, rfl, trivial⟩ ?_
         exact hj3 (y29.1) _ _ ⟨u49, rfl, (h189.facts (.atm (.s (.s (.s (.s (.s (.s (.s (.s .z)))))))) (.atm (.s (.s (.s (.s (.s (.s (.s (.s (.s .z))))))))) (.atm (.s (.s (.s (.s (.s (.s (.s (.s (.s (.s .z)))))))))) (.val (V.weak (V.at .z)) .nil))))).picks (.cons .z (.cons (.s (.s .z)) (.cons (.s .z) (.cons .z .nil))))⟩ hF
        ·
         refine Run.skip ?_
         refine Run.slim [(1, v1), (2, v2), (3, .int .i64 a3), (9, u1), (11, .int .i64 y3.2.1), (18, u10), (19, .int .i64 x2), (20, v1), (21, u15), (22, u16), (77, (q1 4)), (78, .int .i64 (([y3.1, y7.1]).length : Int)), (79, .int .i64 s3.1)] ⟨rfl, rfl, rfl, rfl, rfl, rfl, rfl, rfl, rfl, rfl, rfl, rfl, rfl, trivial⟩ ?_
         exact hj3 (a1) _ _ ⟨v1, rfl, (h67.facts (.atm (.s (.s (.s (.s (.s (.s .z)))))) (.atm (.s (.s (.s (.s (.s (.s (.s .z))))))) (.atm (.s (.s (.s (.s (.s (.s (.s (.s .z)))))))) (.val (V.at (.s (.s (.s (.s (.s (.s .z))))))) .nil))))).picks (.cons .z (.cons (.s (.s .z)) (.cons (.s .z) (.cons .z .nil))))⟩ hF
      ·
       refine Run.exit rfl ?_
       refine Run.seq ?_
       refine Run.reg ?_
       refine op (OpS.as rfl rfl rfl ?_)
       refine RunL.nil ?_
       refine Run.slim [(8, .bool true)] ⟨rfl, trivial⟩ ?_
       refine Run.retP rfl (.tmp rfl .nil) ?_
       cases hF
       exact Post.mk' ⟨rfl, rfl, rfl, rfl⟩ (h38.picks .nil) .nil
    ·
     refine RunL.caseb hF (fun e50 hF => ?_) (fun e50 hF => ?_)
     ·
      refine op (OpS.pass rfl rfl rfl ?_)
      refine op (OpS.pass rfl rfl rfl ?_)
      refine op (OpS.pass rfl rfl rfl ?_)
      refine op (OpS.pass rfl rfl rfl ?_)
      refine op (OpS.pick rfl rfl rfl rfl ?_)
      refine RunL.nil ?_
      refine Run.slim [(72, .bool true), (11, .int .i64 y3.2.1), (10, u3), (9, u1), (1, v1), (2, v2), (3, .int .i64 a3)] ⟨rfl, rfl, rfl, rfl, rfl, rfl, rfl, trivial⟩ ?_
      refine Run.slim [(1, v1), (2, v2), (3, .int .i64 a3), (9, u1), (10, u3), (11, .int .i64 y3.2.1), (72, .bool true)] ⟨rfl, rfl, rfl, rfl, rfl, rfl, rfl, trivial⟩ ?_
      exact hj2 (true) _ _ ⟨rfl, (h23.facts (.atm (.s (.s (.s (.s .z)))) (.atm (.s (.s (.s (.s (.s .z))))) .nil))).picks (.cons (.s (.s .z)) (.cons (.s (.s .z)) .nil))⟩ hF
     ·
      refine op (OpS.loadB h23 (.s .z) PA.z Get.id ty29 rfl rfl rfl (fun u50 h190 => ?_))
      refine op (OpS.loadB h190 .z PA.z Get.id ty29 rfl rfl rfl (fun u51 h191 => ?_))
      obtain ⟨y30, e51, hF⟩ := bindP_use hF
      refine op (OpS.callP h191 Try.func23 rfl rfl rfl rfl (vs := [u50, u51]) rfl (ref25_Equal_ok e51) (.cons (f := true) (V.at (.s .z)) (.cons (f := true) (V.at .z) .nil)) ?_)
      rintro _ w75 _ _ _ ⟨rfl, rfl, rfl, rfl⟩ h192
      have h193 := h192 rfl rfl
      simp only [List.cons_append, List.nil_append] at h193
      refine op (OpS.not rfl rfl rfl ?_)
      refine op (OpS.pick rfl rfl rfl rfl ?_)
      refine RunL.nil ?_
      refine Run.slim [(72, .bool (!y30)), (11, .int .i64 y3.2.1), (10, u3), (9, u1), (1, v1), (2, v2), (3, .int .i64 a3)] ⟨rfl, rfl, rfl, rfl, rfl, rfl, rfl, trivial⟩ ?_
      refine Run.slim [(1, v1), (2, v2), (3, .int .i64 a3), (9, u1), (10, u3), (11, .int .i64 y3.2.1), (72, .bool (!y30))] ⟨rfl, rfl, rfl, rfl, rfl, rfl, rfl, trivial⟩ ?_
      exact hj2 (!y30) _ _ ⟨rfl, (h193.facts (.atm (.s (.s (.s (.s (.s (.s .z)))))) (.atm (.s (.s (.s (.s (.s (.s (.s .z))))))) .nil))).picks (.cons (.s (.s .z)) (.cons (.s (.s .z)) .nil))⟩ hF
  ·
   refine RunL.caseb hF (fun e52 hF => ?_) (fun e52 hF => ?_)
   ·
    refine op (OpS.pass rfl rfl rfl ?_)
    refine op (OpS.pass rfl rfl rfl ?_)
    refine op (OpS.pass rfl rfl rfl ?_)
    refine op (OpS.pick rfl rfl rfl rfl ?_)
    refine RunL.nil ?_
    refine Run.slim [(43, .bool true), (0, v0), (1, v1), (2, v2), (3, .int .i64 a3)] ⟨rfl, rfl, rfl, rfl, rfl, trivial⟩ ?_
    refine Run.slim [(0, v0), (1, v1), (2, v2), (3, .int .i64 a3), (43, .bool true)] ⟨rfl, rfl, rfl, rfl, rfl, trivial⟩ ?_
    exact hj1 (true) _ _ ⟨rfl, (h2.facts (.atm .z (.atm (.s .z) (.atm (.s (.s .z)) .nil)))).picks .nil⟩ hF
   ·
    refine op (OpS.mv rfl rfl rfl ?_)
    refine op (OpS.len h2 Try.underlying22 rfl rfl rfl (V.at (.s (.s .z))) ?_)
    refine op (OpS.bin rfl rfl rfl rfl rfl ?_)
    refine op (OpS.pick rfl rfl rfl rfl ?_)
    refine RunL.nil ?_
    refine Run.slim [(43, .bool (decide ((a2.length : Int) > 300))), (0, v0), (1, v1), (2, v2), (3, .int .i64 a3)] ⟨rfl, rfl, rfl, rfl, rfl, trivial⟩ ?_
    refine Run.slim [(0, v0), (1, v1), (2, v2), (3, .int .i64 a3), (43, .bool (decide ((a2.length : Int) > 300)))] ⟨rfl, rfl, rfl, rfl, rfl, trivial⟩ ?_
    exact hj1 (decide ((a2.length : Int) > 300)) _ _ ⟨rfl, (h2.facts (.atm .z (.atm (.s .z) (.atm (.s (.s .z)) .nil)))).picks .nil⟩ hF
end Lift
