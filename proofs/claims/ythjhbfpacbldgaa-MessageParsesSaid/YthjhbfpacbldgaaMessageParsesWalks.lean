/- Each Go function computes its plain function. Written by lift.py. -/
import Derived.Test.YthjhbfpacbldgaaMessageParsesWalksA
namespace Lift
open Go Go.Proofs
set_option maxHeartbeats 8000000 in
theorem law23_MessageParses_ok {fuel : Nat} {a0 : List Int} {a1 : List Int} {y : Bool} (hF : law23_MessageParses fuel a0 a1 = some y) {w : World} {v0 v1 : Value} :
    Spec Try.prog 5 [v0, v1].toArray w [(false, .val (Rep.slice (Rep.int .u8)) v0 a0), (false, .val (Rep.slice (Rep.int .i64)) v1 a1)] [] (fun v Γr Ωr Ωo => v = .bool y ∧ Γr = [] ∧ Ωr = [] ∧ Ωo = []) := by
  refine Spec.of (L := [(0, v0), (1, v1)]) Try.func5 rfl ⟨rfl, rfl, trivial⟩ rfl (fun e h => ?_)
  unfold law23_MessageParses at hF
  refine Run.seq ?_
  refine Run.reg ?_
  refine RunL.op (OpS.as rfl rfl rfl ?_)
  refine RunL.nil ?_
  refine Run.slim [(0, v0), (1, v1)] ⟨rfl, rfl, trivial⟩ ?_
  refine Run.seq ?_
  refine Run.seq ?_
  refine Run.reg ?_
  refine RunL.op (OpS.mv rfl rfl rfl ?_)
  refine RunL.op (OpS.len h Try.underlying22 rfl rfl rfl (V.at .z) ?_)
  refine RunL.op (OpS.bin rfl rfl rfl rfl rfl ?_)
  refine RunL.op (OpS.mv rfl rfl rfl ?_)
  refine RunL.join (σ := Bool) (fun s_ L_ w_ => L_ = [(0, v0), (1, v1), (31, .bool s_)] ∧ St e w_ [(false, .val (Rep.slice (Rep.int .u8)) v0 a0), (false, .val (Rep.slice (Rep.int .i64)) v1 a1)] []) hF (fun s1 _ w1 hI hF => ?_) (fun j1 hj1 hF => ?_)
  ·
    obtain ⟨rfl, h1⟩ := hI
    refine Run.ite rfl hF (fun e1 hF => ?_) (fun e1 hF => ?_)
    ·
      refine Run.seq ?_
      refine Run.reg ?_
      obtain ⟨y1, e2, hF⟩ := bindP_use hF
      refine RunL.op (OpS.callP h1 Try.func10 rfl rfl rfl rfl (vs := []) rfl (law23_awake_ok e2) .nil ?_)
      rintro _ w2 _ _ _ ⟨rfl, rfl, rfl, rfl⟩ h2
      have h3 := h2 rfl rfl
      simp only [List.cons_append, List.nil_append] at h3
      refine RunL.op (OpS.as rfl rfl rfl ?_)
      refine RunL.nil ?_
      refine Run.slim [(4, .bool y1)] ⟨rfl, trivial⟩ ?_
      refine Run.retP rfl (.tmp rfl .nil) ?_
      cases hF
      exact Post.mk' ⟨rfl, rfl, rfl, rfl⟩ (h3.picks .nil) .nil
    ·
      refine Run.skip ?_
      refine Run.seq ?_
      refine Run.reg ?_
      refine RunL.op (OpS.mv rfl rfl rfl ?_)
      obtain ⟨y2, e3, hF⟩ := bindP_use hF
      have h4 := h1.front .nil
      refine RunL.op (OpS.callO h4 Try.func11 rfl rfl rfl rfl (vs := [v1]) rfl (made_Roll_ok e3) rfl (.cons (V.at (.s .z)) .nil) ?_)
      rintro u1 w3 _ _ _ ⟨_, rfl, rfl, rfl, rfl⟩ h5
      have h6 := h5
      simp only [List.cons_append, List.nil_append] at h6
      refine RunL.op (OpS.as rfl rfl rfl ?_)
      refine RunL.nil ?_
      refine Run.slim [(5, u1), (0, v0)] ⟨rfl, rfl, trivial⟩ ?_
      refine Run.seq ?_
      refine Run.reg ?_
      refine RunL.op (OpS.mv rfl rfl rfl ?_)
      obtain ⟨y3, e4, hF⟩ := bindP_use hF
      have h7 := h6.front (.cons .z .nil)
      refine RunL.op (OpS.callO h7 Try.func12 rfl rfl rfl rfl (vs := [u1, .bool false]) rfl (made_Dice_Message_ok e4) rfl .nil ?_)
      rintro u2 w4 _ _ _ ⟨_, rfl, rfl, rfl, rfl⟩ h8
      have h9 := h8
      simp only [List.cons_append, List.nil_append] at h9
      obtain ⟨y4, e5, hF⟩ := bindP_use hF
      refine RunL.op (OpS.callP h9 Try.func17 rfl rfl rfl rfl (vs := [u2]) rfl (ref23_Request_ok e5) (.cons (V.at .z) .nil) ?_)
      rintro _ w5 _ _ _ ⟨u3, rfl, rfl, rfl, rfl⟩ h10
      have h11 := h10 rfl rfl
      simp only [List.cons_append, List.nil_append] at h11
      refine RunL.op (OpS.mv rfl rfl rfl ?_)
      refine RunL.op (OpS.ext rfl rfl rfl rfl ?_)
      refine RunL.op (OpS.ext rfl rfl rfl rfl ?_)
      refine RunL.op (OpS.as rfl rfl rfl ?_)
      have h12 := (h11.pick .z).freeze
      refine RunL.op (OpS.as rfl rfl rfl ?_)
      refine RunL.nil ?_
      refine Run.slim [(6, u3), (5, u1), (0, v0)] ⟨rfl, rfl, rfl, trivial⟩ ?_
      refine Run.seq ?_
      refine Run.reg ?_
      refine RunL.op (OpS.mv rfl rfl rfl ?_)
      obtain ⟨y5, e6, hF⟩ := bindP_use hF
      have h13 := h12.front (.cons .z .nil)
      refine RunL.op (OpS.callO h13 Try.func12 rfl rfl rfl rfl (vs := [u1, .bool true]) rfl (made_Dice_Message_ok e6) rfl .nil ?_)
      rintro u4 w6 _ _ _ ⟨_, rfl, rfl, rfl, rfl⟩ h14
      have h15 := h14
      simp only [List.cons_append, List.nil_append] at h15
      obtain ⟨y6, e7, hF⟩ := bindP_use hF
      refine RunL.op (OpS.callP h15 Try.func19 rfl rfl rfl rfl (vs := [u4]) rfl (ref23_Response_ok e7) (.cons (V.at .z) .nil) ?_)
      rintro _ w7 _ _ _ ⟨u5, rfl, rfl, rfl, rfl⟩ h16
      have h17 := h16 rfl rfl
      simp only [List.cons_append, List.nil_append] at h17
      refine RunL.op (OpS.mv rfl rfl rfl ?_)
      refine RunL.op (OpS.ext rfl rfl rfl rfl ?_)
      refine RunL.op (OpS.ext rfl rfl rfl rfl ?_)
      refine RunL.op (OpS.as rfl rfl rfl ?_)
      have h18 := (h17.pick .z).freeze
      refine RunL.op (OpS.as rfl rfl rfl ?_)
      refine RunL.nil ?_
      refine Run.slim [(8, u5), (6, u3), (5, u1), (0, v0)] ⟨rfl, rfl, rfl, rfl, trivial⟩ ?_
      refine Run.seq ?_
      refine Run.reg ?_
      refine RunL.op (OpS.as rfl rfl rfl ?_)
      refine RunL.nil ?_
      refine Run.seq ?_
      refine Run.seq ?_
      refine Run.reg ?_
      refine RunL.op (OpS.mv rfl rfl rfl ?_)
      refine RunL.op (OpS.len h18 Try.underlying22 rfl rfl rfl (V.at (.s (.s .z))) ?_)
      refine RunL.op (OpS.bin rfl rfl rfl rfl rfl ?_)
      refine RunL.nil ?_
      refine Run.slim [(49, .bool (decide ((y4.1.length : Int) > 6))), (10, .slice none 0 0), (8, u5), (6, u3), (5, u1), (0, v0)] ⟨rfl, rfl, rfl, rfl, rfl, rfl, trivial⟩ ?_
      refine Run.join (σ := ((List Int) × made_Dice)) (fun s_ L_ w_ => ∃ u0_ : Value, L_ = [(0, v0), (5, u1), (6, u3), (8, u5), (10, u0_)] ∧ St e w_ [(false, .val (Rep.slice (Rep.int .u8)) v0 a0), (true, .val (Rep.slice (Rep.int .u8)) u3 y4.1), (true, .val (Rep.slice (Rep.int .u8)) u5 y6.1), (true, .val (Rep.slice (Rep.int .u8)) u0_ s_.1)] [(false, .box 77 made_Dice.rep u1 s_.2)]) hF (fun s2 _ w8 hI hF => ?_) (fun j2 hj2 hF => ?_)
      ·
        obtain ⟨u6, rfl, h19⟩ := hI
        refine Run.seq ?_
        refine Run.reg ?_
        refine RunL.op (OpS.lit (r := (Rep.int .u8)) (f := true) h19 Try.underlying22 ti5 rfl rfl rfl rfl rfl (.cons rfl V.int (.cons rfl V.int .nil)) rfl rfl (fun u7 w9 h20 => ?_))
        obtain ⟨y7, e8, hF⟩ := bindP_use hF
        refine RunL.op (OpS.callP h20 Try.func29 rfl rfl rfl rfl (vs := [u7]) rfl (ref01_Seal8_ok e8) (.cons (V.at .z) .nil) ?_)
        rintro u8 w10 _ _ _ ⟨_, rfl, rfl, rfl, rfl⟩ h21
        have h22 := h21 rfl rfl
        simp only [List.cons_append, List.nil_append] at h22
        refine RunL.op (OpS.litO (r := (Rep.int .u8)) (f := true) h22 Try.underlying22 ti5 rfl rfl rfl rfl rfl (.cons rfl V.int (.cons rfl V.int (.cons rfl V.int .nil))) rfl rfl (fun u9 w11 h23 => ?_))
        refine RunL.op (OpS.mv rfl rfl rfl ?_)
        obtain ⟨y8, e9, hF⟩ := bindP_use hF
        have h24 := h23.front (.cons (.s (.s .z)) .nil)
        refine RunL.op (OpS.callO h24 Try.func14 rfl rfl rfl rfl (vs := [u1, .int .i64 3]) rfl (made_Dice_Next_ok e9) rfl .nil ?_)
        rintro _ w12 _ _ _ ⟨rfl, rfl, rfl, rfl⟩ h25
        have h26 := h25
        simp only [List.cons_append, List.nil_append] at h26
        refine RunL.op (OpS.bin rfl rfl rfl rfl rfl ?_)
        obtain ⟨x1, e10, hF⟩ := bindP_use hF
        obtain ⟨x2, e11, hF⟩ := bindP_use hF
        refine RunL.op (OpS.appZ h26 (.s .z) Try.underlying22 Try.underlying3 ti5 (Zr.int .u8 0) rfl rfl rfl rfl rfl rfl rfl e10 e11 (fun u10 w13 h27 => ?_))
        obtain ⟨y9, e12, hF⟩ := bindP_use hF
        refine RunL.op (OpS.callP h27 Try.func29 rfl rfl rfl rfl (vs := [u10]) rfl (ref01_Seal8_ok e12) (.own .z .nil) ?_)
        rintro u11 w14 _ _ _ ⟨_, rfl, rfl, rfl, rfl⟩ h28
        have h29 := h28 rfl rfl
        simp only [List.cons_append, List.nil_append] at h29
        have h30 := (h29.pick .z).freeze
        obtain ⟨x3, e13, hF⟩ := bindP_use hF
        refine RunL.op (OpS.app (f' := true) h30 (.s (.s .z)) Try.underlying22 ti5 rfl rfl rfl rfl rfl rfl rfl (V.at .z) (.inr Pure.int) e13 (fun u12 w15 h31 => ?_))
        refine RunL.op (OpS.as rfl rfl rfl ?_)
        have h32 := (h31.pick .z).freeze
        refine RunL.nil ?_
        refine Run.slim [(13, u12), (0, v0), (5, u1), (6, u3), (8, u5), (10, u6)] ⟨rfl, rfl, rfl, rfl, rfl, rfl, trivial⟩ ?_
        refine Run.seq ?_
        refine Run.seq ?_
        refine Run.reg ?_
        refine RunL.op (OpS.mv rfl rfl rfl ?_)
        refine RunL.op (OpS.mv rfl rfl rfl ?_)
        refine RunL.op (OpS.mv rfl rfl rfl ?_)
        refine RunL.op (OpS.mv rfl rfl rfl ?_)
        refine RunL.op (OpS.mv rfl rfl rfl ?_)
        refine RunL.op (OpS.mv rfl rfl rfl ?_)
        refine RunL.op (OpS.mv rfl rfl rfl ?_)
        refine RunL.op (OpS.mv rfl rfl rfl ?_)
        refine RunL.op (OpS.len h32 Try.underlying22 rfl rfl rfl (V.at (.s (.s (.s (.s .z))))) ?_)
        obtain ⟨y10, e14, hF⟩ := bindP_use hF
        have h33 := h32.front (.cons (.s .z) .nil)
        refine RunL.op (OpS.callO h33 Try.func14 rfl rfl rfl rfl (vs := [u1, .int .i64 (y4.1.length : Int)]) rfl (made_Dice_Next_ok e14) rfl .nil ?_)
        rintro _ w16 _ _ _ ⟨rfl, rfl, rfl, rfl⟩ h34
        have h35 := h34
        simp only [List.cons_append, List.nil_append] at h35
        obtain ⟨x4, e15, hF⟩ := bindP_use hF
        refine RunL.op (OpS.sub h35 Try.underlying22 ty5 rfl rfl rfl rfl rfl (V.at (.s (.s (.s (.s .z))))) e15 (fun u13 h36 => ?_))
        refine RunL.op (OpS.lit (r := (Rep.slice (Rep.int .u8))) (f := false) h36 Try.underlying49 ti22 rfl rfl rfl rfl rfl (.cons rfl (V.at (.s (.s (.s (.s .z))))) (.cons rfl (V.weak (V.at (.s (.s (.s (.s (.s .z))))))) (.cons rfl (V.weak (V.at (.s (.s (.s (.s (.s (.s .z)))))))) (.cons rfl (V.weak (V.at (.s (.s (.s (.s (.s (.s (.s .z))))))))) (.cons rfl (V.weak (V.at (.s .z))) (.cons rfl (V.weak (V.at .z)) .nil)))))) rfl rfl (fun u14 w17 h37 => ?_))
        refine RunL.op (OpS.len h37 Try.underlying49 rfl rfl rfl (V.at .z) ?_)
        refine RunL.op (OpS.mv rfl rfl rfl ?_)
        refine RunL.nil ?_
        refine Run.slim [(93, .int .i64 0), (92, .int .i64 (([a0, y4.1, y6.1, s2.1, x3, x4]).length : Int)), (91, u14)] ⟨rfl, rfl, rfl, trivial⟩ ?_
        refine Run.block ?_
        refine Run.slim [(91, u14), (92, .int .i64 (([a0, y4.1, y6.1, s2.1, x3, x4]).length : Int)), (93, .int .i64 0)] ⟨rfl, rfl, rfl, trivial⟩ ?_
        refine Run.loopP (σ := Int) (fun s_ L_ w_ => L_ = [(91, u14), (92, .int .i64 (([a0, y4.1, y6.1, s2.1, x3, x4]).length : Int)), (93, .int .i64 s_)] ∧ St e w_ [(false, .val (Rep.slice (Rep.slice (Rep.int .u8))) u14 ([a0, y4.1, y6.1, s2.1, x3, x4]))] []) hF ⟨rfl, (h37.facts (.atm .z .nil)).picks .nil⟩ (fun k1 hk1 s3 _ w18 hI hF => ?_)
        obtain ⟨rfl, h38⟩ := hI
        refine Run.seq ?_
        refine Run.reg ?_
        refine RunL.op (OpS.bin rfl rfl rfl rfl rfl ?_)
        refine RunL.nil ?_
        refine Run.seq ?_
        refine Run.ite rfl hF (fun e16 hF => ?_) (fun e16 hF => ?_)
        ·
          refine Run.skip ?_
          refine Run.seq ?_
          refine Run.block ?_
          refine Run.seq ?_
          refine Run.reg ?_
          obtain ⟨x5, e17, hF⟩ := bindP_use hF
          refine RunL.op (OpS.iptr h38 Try.underlying49 ty22 rfl rfl rfl rfl (V.at .z) e17 (fun u15 h39 => ?_))
          refine RunL.op (OpS.load h39 ty22 rfl rfl rfl .z (fun u16 h40 => ?_))
          refine RunL.op (OpS.as rfl rfl rfl ?_)
          refine RunL.nil ?_
          refine Run.slim [(15, u16), (91, u14), (92, .int .i64 (([a0, y4.1, y6.1, s2.1, x3, x4]).length : Int)), (93, .int .i64 s3)] ⟨rfl, rfl, rfl, rfl, trivial⟩ ?_
          refine Run.seq ?_
          refine Run.reg ?_
          refine RunL.op (OpS.mv rfl rfl rfl ?_)
          obtain ⟨y11, e18, hF⟩ := bindP_use hF
          refine RunL.op (OpS.callP h40 Try.func30 rfl rfl rfl rfl (vs := [u16]) rfl (message_ParseRequest_ok e18) (.cons (V.at .z) .nil) ?_)
          rintro _ w19 _ _ _ ⟨u17, rfl, rfl, rfl, rfl⟩ h41
          have h42 := h41 rfl rfl
          simp only [List.cons_append, List.nil_append] at h42
          refine RunL.op (OpS.mv rfl rfl rfl ?_)
          refine RunL.op (OpS.ext rfl rfl rfl rfl ?_)
          refine RunL.op (OpS.ext rfl rfl rfl rfl ?_)
          refine RunL.op (OpS.alloc h42 ti24 Message_.zr rfl rfl (fun u18 w20 h43 => ?_))
          refine RunL.op (OpS.storeB (f' := true) h43 .z PA.z Put.id ty24 rfl rfl rfl (V.at .z) (.inl rfl) (fun w21 h44 => ?_))
          refine RunL.op (OpS.as rfl rfl rfl ?_)
          refine RunL.nil ?_
          refine Run.slim [(17, .int .i64 y11.2), (16, u18), (15, u16), (91, u14), (92, .int .i64 (([a0, y4.1, y6.1, s2.1, x3, x4]).length : Int)), (93, .int .i64 s3)] ⟨rfl, rfl, rfl, rfl, rfl, rfl, trivial⟩ ?_
          refine Run.seq ?_
          refine Run.reg ?_
          refine RunL.op (OpS.mv rfl rfl rfl ?_)
          obtain ⟨y12, e19, hF⟩ := bindP_use hF
          refine RunL.op (OpS.callP h44 Try.func31 rfl rfl rfl rfl (vs := [u16]) rfl (ref23_ParseRequest_ok e19) (.cons (V.at (.s .z)) .nil) ?_)
          rintro _ w22 _ _ _ ⟨u19, rfl, rfl, rfl, rfl⟩ h45
          have h46 := h45 rfl rfl
          simp only [List.cons_append, List.nil_append] at h46
          refine RunL.op (OpS.mv rfl rfl rfl ?_)
          refine RunL.op (OpS.ext rfl rfl rfl rfl ?_)
          refine RunL.op (OpS.ext rfl rfl rfl rfl ?_)
          refine RunL.op (OpS.alloc h46 ti24 Message_.zr rfl rfl (fun u20 w23 h47 => ?_))
          refine RunL.op (OpS.storeB (f' := true) h47 .z PA.z Put.id ty24 rfl rfl rfl (V.at .z) (.inl rfl) (fun w24 h48 => ?_))
          refine RunL.op (OpS.as rfl rfl rfl ?_)
          refine RunL.nil ?_
          refine Run.slim [(19, .int .i64 y12.2), (18, u20), (17, .int .i64 y11.2), (16, u18), (15, u16), (91, u14), (92, .int .i64 (([a0, y4.1, y6.1, s2.1, x3, x4]).length : Int)), (93, .int .i64 s3)] ⟨rfl, rfl, rfl, rfl, rfl, rfl, rfl, rfl, trivial⟩ ?_
          refine Run.seq ?_
          refine Run.reg ?_
          refine RunL.op (OpS.mv rfl rfl rfl ?_)
          obtain ⟨y13, e20, hF⟩ := bindP_use hF
          refine RunL.op (OpS.callP h48 Try.func32 rfl rfl rfl rfl (vs := [u16]) rfl (message_ParseResponse_ok e20) (.cons (V.at (.s (.s .z))) .nil) ?_)
          rintro _ w25 _ _ _ ⟨u21, rfl, rfl, rfl, rfl⟩ h49
          have h50 := h49 rfl rfl
          simp only [List.cons_append, List.nil_append] at h50
          refine RunL.op (OpS.mv rfl rfl rfl ?_)
          refine RunL.op (OpS.ext rfl rfl rfl rfl ?_)
          refine RunL.op (OpS.ext rfl rfl rfl rfl ?_)
          refine RunL.op (OpS.alloc h50 ti24 Message_.zr rfl rfl (fun u22 w26 h51 => ?_))
          refine RunL.op (OpS.storeB (f' := true) h51 .z PA.z Put.id ty24 rfl rfl rfl (V.at .z) (.inl rfl) (fun w27 h52 => ?_))
          refine RunL.op (OpS.as rfl rfl rfl ?_)
          refine RunL.nil ?_
          refine Run.slim [(21, .int .i64 y13.2), (20, u22), (19, .int .i64 y12.2), (18, u20), (17, .int .i64 y11.2), (16, u18), (15, u16), (91, u14), (92, .int .i64 (([a0, y4.1, y6.1, s2.1, x3, x4]).length : Int)), (93, .int .i64 s3)] ⟨rfl, rfl, rfl, rfl, rfl, rfl, rfl, rfl, rfl, rfl, trivial⟩ ?_
          refine Run.seq ?_
          refine Run.reg ?_
          refine RunL.op (OpS.mv rfl rfl rfl ?_)
          obtain ⟨y14, e21, hF⟩ := bindP_use hF
          refine RunL.op (OpS.callP h52 Try.func33 rfl rfl rfl rfl (vs := [u16]) rfl (ref23_ParseResponse_ok e21) (.cons (V.at (.s (.s (.s .z)))) .nil) ?_)
          rintro _ w28 _ _ _ ⟨u23, rfl, rfl, rfl, rfl⟩ h53
          have h54 := h53 rfl rfl
          simp only [List.cons_append, List.nil_append] at h54
          refine RunL.op (OpS.mv rfl rfl rfl ?_)
          refine RunL.op (OpS.ext rfl rfl rfl rfl ?_)
          refine RunL.op (OpS.ext rfl rfl rfl rfl ?_)
          refine RunL.op (OpS.alloc h54 ti24 Message_.zr rfl rfl (fun u24 w29 h55 => ?_))
          refine RunL.op (OpS.storeB (f' := true) h55 .z PA.z Put.id ty24 rfl rfl rfl (V.at .z) (.inl rfl) (fun w30 h56 => ?_))
          refine RunL.op (OpS.as rfl rfl rfl ?_)
          refine RunL.nil ?_
          refine Run.slim [(23, .int .i64 y14.2), (22, u24), (21, .int .i64 y13.2), (20, u22), (19, .int .i64 y12.2), (18, u20), (17, .int .i64 y11.2), (16, u18), (91, u14), (92, .int .i64 (([a0, y4.1, y6.1, s2.1, x3, x4]).length : Int)), (93, .int .i64 s3)] ⟨rfl, rfl, rfl, rfl, rfl, rfl, rfl, rfl, rfl, rfl, rfl, trivial⟩ ?_
          refine Run.seq ?_
          refine Run.reg ?_
          refine RunL.op (OpS.mv rfl rfl rfl ?_)
          refine RunL.op (OpS.mv rfl rfl rfl ?_)
          refine RunL.op (OpS.bin rfl rfl rfl rfl rfl ?_)
          refine RunL.op (OpS.mv rfl rfl rfl ?_)
          refine RunL.join (σ := Bool) (fun s_ L_ w_ => L_ = [(91, u14), (92, .int .i64 (([a0, y4.1, y6.1, s2.1, x3, x4]).length : Int)), (93, .int .i64 s3), (136, .bool s_)] ∧ St e w_ [(false, .val (Rep.slice (Rep.slice (Rep.int .u8))) u14 ([a0, y4.1, y6.1, s2.1, x3, x4]))] []) hF (fun s4 _ w31 hI hF => ?_) (fun j3 hj3 hF => ?_)
          ·
            obtain ⟨rfl, h57⟩ := hI
            refine Run.ite rfl hF (fun e22 hF => ?_) (fun e22 hF => ?_)
            ·
              refine Run.seq ?_
              refine Run.reg ?_
              refine RunL.op (OpS.as rfl rfl rfl ?_)
              refine RunL.nil ?_
              refine Run.slim [(4, .bool false)] ⟨rfl, trivial⟩ ?_
              refine Run.retP rfl (.tmp rfl .nil) ?_
              cases hF
              exact Post.mk' ⟨rfl, rfl, rfl, rfl⟩ (h57.picks .nil) .nil
            ·
              refine Run.skip ?_
              refine Run.endBlock ?_
              refine Run.reg ?_
              refine RunL.op (OpS.bin rfl rfl rfl rfl rfl ?_)
              refine RunL.op (OpS.mv rfl rfl rfl ?_)
              refine RunL.nil ?_
              refine Run.slim [(93, .int .i64 (IntKind.i64.wrap (s3 + 1))), (91, u14), (92, .int .i64 (([a0, y4.1, y6.1, s2.1, x3, x4]).length : Int))] ⟨rfl, rfl, rfl, trivial⟩ ?_
              refine Run.slim [(91, u14), (92, .int .i64 (([a0, y4.1, y6.1, s2.1, x3, x4]).length : Int)), (93, .int .i64 (IntKind.i64.wrap (s3 + 1)))] ⟨rfl, rfl, rfl, trivial⟩ ?_
              exact hk1 ((IntKind.i64.wrap (s3 + 1))) _ _ ⟨rfl, (h57.facts (.atm .z .nil)).picks .nil⟩ hF
          ·
            refine RunL.caseb hF (fun e23 hF => ?_) (fun e23 hF => ?_)
            ·
              refine RunL.op (OpS.pass rfl rfl rfl ?_)
              refine RunL.op (OpS.pass rfl rfl rfl ?_)
              refine RunL.op (OpS.pass rfl rfl rfl ?_)
              refine RunL.op (OpS.pick rfl rfl rfl rfl ?_)
              refine RunL.op (OpS.mv rfl rfl rfl ?_)
              refine RunL.op (OpS.pass rfl rfl rfl ?_)
              refine RunL.op (OpS.pass rfl rfl rfl ?_)
              refine RunL.op (OpS.pass rfl rfl rfl ?_)
              refine RunL.op (OpS.pass rfl rfl rfl ?_)
              refine RunL.op (OpS.pick rfl rfl rfl rfl ?_)
              refine RunL.op (OpS.mv rfl rfl rfl ?_)
              refine RunL.op (OpS.pass rfl rfl rfl ?_)
              refine RunL.op (OpS.pass rfl rfl rfl ?_)
              refine RunL.op (OpS.pass rfl rfl rfl ?_)
              refine RunL.op (OpS.pass rfl rfl rfl ?_)
              refine RunL.op (OpS.pick rfl rfl rfl rfl ?_)
              refine RunL.nil ?_
              refine Run.slim [(136, .bool true), (91, u14), (92, .int .i64 (([a0, y4.1, y6.1, s2.1, x3, x4]).length : Int)), (93, .int .i64 s3)] ⟨rfl, rfl, rfl, rfl, trivial⟩ ?_
              refine Run.slim [(91, u14), (92, .int .i64 (([a0, y4.1, y6.1, s2.1, x3, x4]).length : Int)), (93, .int .i64 s3), (136, .bool true)] ⟨rfl, rfl, rfl, rfl, trivial⟩ ?_
              exact hj3 (true) _ _ ⟨rfl, (h56.facts (.atm (.s (.s (.s (.s (.s (.s .z)))))) .nil)).picks .nil⟩ hF
            ·
              refine RunL.op (OpS.mv rfl rfl rfl ?_)
              refine RunL.op (OpS.mv rfl rfl rfl ?_)
              refine RunL.op (OpS.bin rfl rfl rfl rfl rfl ?_)
              refine RunL.op (OpS.pick rfl rfl rfl rfl ?_)
              refine RunL.op (OpS.mv rfl rfl rfl ?_)
              refine RunL.caseb hF (fun e24 hF => ?_) (fun e24 hF => ?_)
              ·
                refine RunL.op (OpS.pass rfl rfl rfl ?_)
                refine RunL.op (OpS.pass rfl rfl rfl ?_)
                refine RunL.op (OpS.pass rfl rfl rfl ?_)
                refine RunL.op (OpS.pass rfl rfl rfl ?_)
                refine RunL.op (OpS.pick rfl rfl rfl rfl ?_)
                refine RunL.op (OpS.mv rfl rfl rfl ?_)
                refine RunL.op (OpS.pass rfl rfl rfl ?_)
                refine RunL.op (OpS.pass rfl rfl rfl ?_)
                refine RunL.op (OpS.pass rfl rfl rfl ?_)
                refine RunL.op (OpS.pass rfl rfl rfl ?_)
                refine RunL.op (OpS.pick rfl rfl rfl rfl ?_)
                refine RunL.nil ?_
                refine Run.slim [(136, .bool true), (91, u14), (92, .int .i64 (([a0, y4.1, y6.1, s2.1, x3, x4]).length : Int)), (93, .int .i64 s3)] ⟨rfl, rfl, rfl, rfl, trivial⟩ ?_
                refine Run.slim [(91, u14), (92, .int .i64 (([a0, y4.1, y6.1, s2.1, x3, x4]).length : Int)), (93, .int .i64 s3), (136, .bool true)] ⟨rfl, rfl, rfl, rfl, trivial⟩ ?_
                exact hj3 (true) _ _ ⟨rfl, (h56.facts (.atm (.s (.s (.s (.s (.s (.s .z)))))) .nil)).picks .nil⟩ hF
              ·
                refine RunL.op (OpS.loadB h56 (.s (.s (.s .z))) PA.z Get.id ty24 rfl rfl rfl (fun u25 h58 => ?_))
                refine RunL.op (OpS.loadB h58 (.s (.s .z)) PA.z Get.id ty24 rfl rfl rfl (fun u26 h59 => ?_))
                obtain ⟨y15, e25, hF⟩ := bindP_use hF
                refine RunL.op (OpS.callP h59 Try.func26 rfl rfl rfl rfl (vs := [u25, u26]) rfl (ref23_Same_ok e25) (.cons (V.at (.s .z)) (.cons (V.at .z) .nil)) ?_)
                rintro _ w32 _ _ _ ⟨rfl, rfl, rfl, rfl⟩ h60
                have h61 := h60 rfl rfl
                simp only [List.cons_append, List.nil_append] at h61
                refine RunL.op (OpS.not rfl rfl rfl ?_)
                refine RunL.op (OpS.pick rfl rfl rfl rfl ?_)
                refine RunL.op (OpS.mv rfl rfl rfl ?_)
                refine RunL.caseb hF (fun e26 hF => ?_) (fun e26 hF => ?_)
                ·
                  refine RunL.op (OpS.pass rfl rfl rfl ?_)
                  refine RunL.op (OpS.pass rfl rfl rfl ?_)
                  refine RunL.op (OpS.pass rfl rfl rfl ?_)
                  refine RunL.op (OpS.pass rfl rfl rfl ?_)
                  refine RunL.op (OpS.pick rfl rfl rfl rfl ?_)
                  refine RunL.nil ?_
                  refine Run.slim [(136, .bool true), (91, u14), (92, .int .i64 (([a0, y4.1, y6.1, s2.1, x3, x4]).length : Int)), (93, .int .i64 s3)] ⟨rfl, rfl, rfl, rfl, trivial⟩ ?_
                  refine Run.slim [(91, u14), (92, .int .i64 (([a0, y4.1, y6.1, s2.1, x3, x4]).length : Int)), (93, .int .i64 s3), (136, .bool true)] ⟨rfl, rfl, rfl, rfl, trivial⟩ ?_
                  exact hj3 (true) _ _ ⟨rfl, (h61.facts (.atm (.s (.s (.s (.s (.s (.s (.s (.s .z)))))))) .nil)).picks .nil⟩ hF
                ·
                  refine RunL.op (OpS.loadB h61 (.s .z) PA.z Get.id ty24 rfl rfl rfl (fun u27 h62 => ?_))
                  refine RunL.op (OpS.loadB h62 .z PA.z Get.id ty24 rfl rfl rfl (fun u28 h63 => ?_))
                  obtain ⟨y16, e27, hF⟩ := bindP_use hF
                  refine RunL.op (OpS.callP h63 Try.func26 rfl rfl rfl rfl (vs := [u27, u28]) rfl (ref23_Same_ok e27) (.cons (V.at (.s .z)) (.cons (V.at .z) .nil)) ?_)
                  rintro _ w33 _ _ _ ⟨rfl, rfl, rfl, rfl⟩ h64
                  have h65 := h64 rfl rfl
                  simp only [List.cons_append, List.nil_append] at h65
                  refine RunL.op (OpS.not rfl rfl rfl ?_)
                  refine RunL.op (OpS.pick rfl rfl rfl rfl ?_)
                  refine RunL.nil ?_
                  refine Run.slim [(136, .bool (!y16)), (91, u14), (92, .int .i64 (([a0, y4.1, y6.1, s2.1, x3, x4]).length : Int)), (93, .int .i64 s3)] ⟨rfl, rfl, rfl, rfl, trivial⟩ ?_
                  refine Run.slim [(91, u14), (92, .int .i64 (([a0, y4.1, y6.1, s2.1, x3, x4]).length : Int)), (93, .int .i64 s3), (136, .bool (!y16))] ⟨rfl, rfl, rfl, rfl, trivial⟩ ?_
                  exact hj3 (!y16) _ _ ⟨rfl, (h65.facts (.atm (.s (.s (.s (.s (.s (.s (.s (.s (.s (.s .z)))))))))) .nil)).picks .nil⟩ hF
        ·
          refine Run.exit rfl ?_
          refine Run.seq ?_
          refine Run.reg ?_
          obtain ⟨y17, e28, hF⟩ := bindP_use hF
          refine RunL.op (OpS.callP h38 Try.func10 rfl rfl rfl rfl (vs := []) rfl (law23_awake_ok e28) .nil ?_)
          rintro _ w34 _ _ _ ⟨rfl, rfl, rfl, rfl⟩ h66
          have h67 := h66 rfl rfl
          simp only [List.cons_append, List.nil_append] at h67
          refine RunL.op (OpS.as rfl rfl rfl ?_)
          refine RunL.nil ?_
          refine Run.slim [(4, .bool y17)] ⟨rfl, trivial⟩ ?_
          refine Run.retP rfl (.tmp rfl .nil) ?_
          cases hF
          exact Post.mk' ⟨rfl, rfl, rfl, rfl⟩ (h67.picks .nil) .nil
      ·
        refine Run.ite rfl hF (fun e29 hF => ?_) (fun e29 hF => ?_)
        ·
          refine Run.seq ?_
          refine Run.reg ?_
          refine RunL.op (OpS.mv rfl rfl rfl ?_)
          refine RunL.op (OpS.mv rfl rfl rfl ?_)
          refine RunL.op (OpS.len h18 Try.underlying22 rfl rfl rfl (V.at (.s (.s .z))) ?_)
          obtain ⟨y18, e30, hF⟩ := bindP_use hF
          have h68 := h18.front (.cons .z .nil)
          refine RunL.op (OpS.callO h68 Try.func14 rfl rfl rfl rfl (vs := [u1, .int .i64 (y4.1.length : Int)]) rfl (made_Dice_Next_ok e30) rfl .nil ?_)
          rintro _ w35 _ _ _ ⟨rfl, rfl, rfl, rfl⟩ h69
          have h70 := h69
          simp only [List.cons_append, List.nil_append] at h70
          refine RunL.op (OpS.as rfl rfl rfl ?_)
          refine RunL.nil ?_
          refine Run.slim [(11, .int .i64 y18.1), (8, u5), (6, u3), (5, u1), (0, v0)] ⟨rfl, rfl, rfl, rfl, rfl, trivial⟩ ?_
          refine Run.seq ?_
          refine Run.reg ?_
          refine RunL.op (OpS.mv rfl rfl rfl ?_)
          have h71 := St.nil 5 (Rep.int .u8) h70
          obtain ⟨x6, e31, hF⟩ := bindP_use hF
          refine RunL.op (OpS.app (f' := true) h71 .z Try.underlying22 ti5 rfl rfl rfl rfl rfl rfl rfl (V.at (.s (.s .z))) (.inr Pure.int) e31 (fun u29 w36 h72 => ?_))
          refine RunL.op (OpS.as rfl rfl rfl ?_)
          refine RunL.nil ?_
          refine Run.slim [(12, u29), (11, .int .i64 y18.1), (8, u5), (6, u3), (5, u1), (0, v0)] ⟨rfl, rfl, rfl, rfl, rfl, rfl, trivial⟩ ?_
          refine Run.seq ?_
          refine Run.reg ?_
          refine RunL.op (OpS.mv rfl rfl rfl ?_)
          refine RunL.op (OpS.mv rfl rfl rfl ?_)
          refine RunL.op (OpS.mv rfl rfl rfl ?_)
          obtain ⟨y19, e32, hF⟩ := bindP_use hF
          have h73 := h72.front (.cons (.s .z) .nil)
          refine RunL.op (OpS.callO h73 Try.func15 rfl rfl rfl rfl (vs := [u1]) rfl (made_Dice_Byte_ok e32) rfl .nil ?_)
          rintro _ w37 _ _ _ ⟨rfl, rfl, rfl, rfl⟩ h74
          have h75 := h74
          simp only [List.cons_append, List.nil_append] at h75
          obtain ⟨x7, e33, hF⟩ := bindP_use hF
          refine RunL.op (OpS.iown h75 (.s .z) Try.underlying22 ty5 rfl rfl rfl rfl e33 ?_)
          obtain ⟨d1, e34, hF⟩ := letP_use hF
          refine RunL.op (OpS.storeO (f' := true) h75 (.s .z) (idx_ne e33) PA.a (Put.of (Put.arr e33) e34) ty5 rfl rfl rfl V.int (.inl rfl) (fun w38 h76 => ?_))
          refine RunL.nil ?_
          refine Run.slim [(12, u29), (8, u5), (6, u3), (5, u1), (0, v0)] ⟨rfl, rfl, rfl, rfl, rfl, trivial⟩ ?_
          have h77 := (h76.pick .z).freeze
          obtain ⟨x8, e35, hF⟩ := bindP_use hF
          obtain ⟨y20, e36, hF⟩ := bindP_use hF
          obtain ⟨x9, e37, hF⟩ := bindP_use hF
          obtain ⟨y21, e38, hF⟩ := bindP_use hF
          obtain ⟨x10, e39, hF⟩ := bindP_use hF
          refine Run.drawV (Ωs := [(false, .box 77 made_Dice.rep u1 y19.2)]) [⟨some 61, some (u29), fun _ => [], fun ds_ u_ => [], [], [], none⟩, ⟨some 62, none, fun u_ => [(true, .val (Rep.slice (Rep.int .u8)) u_ x8)], fun ds_ u_ => [], [], [], none⟩, ⟨some 63, none, fun u_ => [], fun ds_ u_ => [(true, .slice 5 (Rep.int .u8) u_ y20)], [], [], none⟩, ⟨some 64, some (u29), fun _ => [], fun ds_ u_ => [], [], [], none⟩, ⟨some 65, some (u29), fun _ => [], fun ds_ u_ => [], [], [], none⟩, ⟨some 66, some (.int .i64 (d1.length : Int)), fun _ => [], fun ds_ u_ => [], [], [], none⟩, ⟨some 67, some (.int .i64 (IntKind.i64.wrap ((d1.length : Int) - 1))), fun _ => [], fun ds_ u_ => [], [], [], none⟩, ⟨some 68, none, fun u_ => [(true, .val (Rep.slice (Rep.int .u8)) u_ x9)], fun ds_ u_ => [], [], [], none⟩, ⟨some 69, none, fun u_ => [(true, .val (Rep.slice (Rep.int .u8)) u_ y21)], fun ds_ u_ => [], [], [], none⟩, ⟨some 70, none, fun u_ => [], fun ds_ u_ => [(true, .slice 5 (Rep.int .u8) u_ x10)], [2], [], none⟩] [[], [0], [1], [], [], [4], [5], [3, 6], [7], [2, 8]] [] [0, 1, 3, 4, 5, 6, 7, 8, 9] Try_mixed rfl rfl rfl h77 (.cons ?_ (.cons ?_ (.cons ?_ (.cons ?_ (.cons ?_ (.cons ?_ (.cons ?_ (.cons ?_ (.cons ?_ (.cons ?_ .nil)))))))))) (fun q1 w hq1 h => ?_)
          · intro q1 w Γx Ωx h
            refine OpS.mv rfl rfl rfl ?_
            exact ⟨undef, rfl, trivial, h⟩
          · intro q1 w Γx Ωx h
            refine OpS.sub h Try.underlying22 ty5 rfl rfl rfl rfl rfl (V.at .z) e35 (fun u h86 => ?_)
            exact ⟨u, rfl, trivial, h86⟩
          · intro q1 w Γx Ωx h
            refine OpS.callP h Try.func29 rfl rfl rfl rfl (vs := [(q1 1)]) rfl (ref01_Seal8_ok e36) (.cons (V.at .z) .nil) ?_
            rintro u w42 _ _ _ ⟨_, rfl, rfl, rfl, rfl⟩ h87
            have h88 := h87 rfl rfl
            simp only [List.cons_append, List.nil_append] at h88
            exact ⟨u, rfl, trivial, h88⟩
          · intro q1 w Γx Ωx h
            refine OpS.mv rfl rfl rfl ?_
            exact ⟨undef, rfl, trivial, h⟩
          · intro q1 w Γx Ωx h
            refine OpS.mv rfl rfl rfl ?_
            exact ⟨undef, rfl, trivial, h⟩
          · intro q1 w Γx Ωx h
            refine OpS.len h Try.underlying22 rfl rfl rfl (V.at .z) ?_
            exact ⟨undef, rfl, trivial, h⟩
          · intro q1 w Γx Ωx h
            refine OpS.bin rfl rfl rfl rfl rfl ?_
            exact ⟨undef, rfl, trivial, h⟩
          · intro q1 w Γx Ωx h
            refine OpS.sub h Try.underlying22 ty5 rfl rfl rfl rfl rfl (V.at .z) e37 (fun u h89 => ?_)
            exact ⟨u, rfl, trivial, h89⟩
          · intro q1 w Γx Ωx h
            refine OpS.callP h Try.func29 rfl rfl rfl rfl (vs := [(q1 7)]) rfl (ref01_Seal8_ok e38) (.cons (V.at .z) .nil) ?_
            rintro u w43 _ _ _ ⟨_, rfl, rfl, rfl, rfl⟩ h90
            have h91 := h90 rfl rfl
            simp only [List.cons_append, List.nil_append] at h91
            have h92 := h91.freeze
            exact ⟨u, rfl, trivial, h92⟩
          · intro q1 w Γx Ωx h
            have h : St e w ([(true, .val (Rep.slice (Rep.int .u8)) (q1 8) y21), (true, .val (Rep.slice (Rep.int .u8)) u29 d1), (true, .val (Rep.slice (Rep.int .u8)) u5 y6.1), (true, .val Message_.rep u4 y5.1), (true, .val (Rep.slice (Rep.int .u8)) u3 y4.1), (true, .val Message_.rep u2 y3.1), (false, .val (Rep.slice (Rep.int .u8)) v0 a0), (false, .val (Rep.slice (Rep.int .i64)) v1 a1)] ++ Γx) ([(true, .slice 5 (Rep.int .u8) (q1 2) y20), (false, .box 77 made_Dice.rep u1 y19.2)] ++ Ωx) := h
            refine OpS.app (f' := true) h .z Try.underlying22 ti5 rfl rfl rfl rfl rfl rfl rfl (V.at .z) (.inr Pure.int) e39 (fun u w44 h93 => ?_)
            exact ⟨u, rfl, trivial, h93⟩
          have h94 : St e w [(true, .val (Rep.slice (Rep.int .u8)) (q1 1) x8), (true, .val (Rep.slice (Rep.int .u8)) (q1 7) x9), (true, .val (Rep.slice (Rep.int .u8)) (q1 8) y21), (true, .val (Rep.slice (Rep.int .u8)) u29 d1), (true, .val (Rep.slice (Rep.int .u8)) u5 y6.1), (true, .val Message_.rep u4 y5.1), (true, .val (Rep.slice (Rep.int .u8)) u3 y4.1), (true, .val Message_.rep u2 y3.1), (false, .val (Rep.slice (Rep.int .u8)) v0 a0), (false, .val (Rep.slice (Rep.int .i64)) v1 a1)] [(true, .slice 5 (Rep.int .u8) (q1 9) x10), (false, .box 77 made_Dice.rep u1 y19.2)] := h
          refine RunL.op (OpS.as rfl rfl rfl ?_)
          have h95 := (h94.pick .z).freeze
          refine RunL.nil ?_
          refine Run.slim [(10, (q1 9)), (8, u5), (6, u3), (5, u1), (0, v0)] ⟨rfl, rfl, rfl, rfl, rfl, trivial⟩ ?_
          refine Run.slim [(0, v0), (5, u1), (6, u3), (8, u5), (10, (q1 9))] ⟨rfl, rfl, rfl, rfl, rfl, trivial⟩ ?_
          exact hj2 (x10, y19.2) _ _ ⟨(q1 9), rfl, (h95.facts (.atm (.s (.s (.s (.s (.s (.s (.s (.s (.s .z))))))))) (.atm (.s (.s (.s (.s (.s (.s (.s .z))))))) (.atm (.s (.s (.s (.s (.s .z))))) (.val (V.at .z) .nil))))).picks (.cons .z .nil)⟩ hF
        ·
          refine Run.skip ?_
          refine Run.slim [(0, v0), (5, u1), (6, u3), (8, u5), (10, .slice none 0 0)] ⟨rfl, rfl, rfl, rfl, rfl, trivial⟩ ?_
          exact hj2 ([], y5.2) _ _ ⟨.slice none 0 0, rfl, (h18.facts (.atm (.s (.s (.s (.s .z)))) (.atm (.s (.s .z)) (.atm .z (.val V.nil .nil))))).picks (.cons .z .nil)⟩ hF
  ·
    refine RunL.caseb hF (fun e40 hF => ?_) (fun e40 hF => ?_)
    ·
      refine RunL.op (OpS.pass rfl rfl rfl ?_)
      refine RunL.op (OpS.pass rfl rfl rfl ?_)
      refine RunL.op (OpS.pass rfl rfl rfl ?_)
      refine RunL.op (OpS.pick rfl rfl rfl rfl ?_)
      refine RunL.nil ?_
      refine Run.slim [(31, .bool true), (0, v0), (1, v1)] ⟨rfl, rfl, rfl, trivial⟩ ?_
      refine Run.slim [(0, v0), (1, v1), (31, .bool true)] ⟨rfl, rfl, rfl, trivial⟩ ?_
      exact hj1 (true) _ _ ⟨rfl, (h.facts (.atm .z (.atm (.s .z) .nil))).picks .nil⟩ hF
    ·
      refine RunL.op (OpS.mv rfl rfl rfl ?_)
      obtain ⟨y22, e41, hF⟩ := bindP_use hF
      refine RunL.op (OpS.callP h Try.func9 rfl rfl rfl rfl (vs := [v1]) rfl (made_Light_ok e41) (.cons (V.at (.s .z)) .nil) ?_)
      rintro _ w45 _ _ _ ⟨rfl, rfl, rfl, rfl⟩ h96
      have h97 := h96 rfl rfl
      simp only [List.cons_append, List.nil_append] at h97
      refine RunL.op (OpS.not rfl rfl rfl ?_)
      refine RunL.op (OpS.pick rfl rfl rfl rfl ?_)
      refine RunL.nil ?_
      refine Run.slim [(31, .bool (!y22)), (0, v0), (1, v1)] ⟨rfl, rfl, rfl, trivial⟩ ?_
      refine Run.slim [(0, v0), (1, v1), (31, .bool (!y22))] ⟨rfl, rfl, rfl, trivial⟩ ?_
      exact hj1 (!y22) _ _ ⟨rfl, (h97.facts (.atm .z (.atm (.s .z) .nil))).picks .nil⟩ hF
end Lift
