/- Each Go function computes its plain function. Written by lift.py. -/
import Derived.Test.YthjhbfpacbldgaaMessageWireWalksB
set_option linter.unusedVariables false
set_option linter.unusedSimpArgs false
namespace Lift
open Go Go.Proofs
open RunL (op)
set_option maxHeartbeats 8000000 in
theorem law23_MessageWire_ok {fuel : Nat} {a0 : List Int} {a1 : Int} {a2 : Int} {a3 : Int} {y : Bool} (hF : law23_MessageWire fuel a0 a1 a2 a3 = some y) {w : World} {v0 : Value} :
  Spec Try.prog 8 [v0, .int .i64 a1, .int .i64 a2, .int .u8 a3].toArray w [(false, .val (Rep.slice (Rep.int .i64)) v0 a0)] [] (fun v Γr Ωr Ωo => v = .bool y ∧ Γr = [] ∧ Ωr = [] ∧ Ωo = []) := by
 refine Spec.of (L := [(0, v0), (1, .int .i64 a1), (2, .int .i64 a2), (3, .int .u8 a3)]) Try.func8 rfl ⟨rfl, rfl, rfl, rfl, trivial⟩ rfl (fun e h => ?_)
 unfold law23_MessageWire at hF
 refine Run.seq ?_
 refine Run.reg ?_
 refine op (OpS.as rfl rfl rfl ?_)
 refine RunL.nil ?_
 refine Run.slim [(0, v0), (1, .int .i64 a1), (2, .int .i64 a2), (3, .int .u8 a3)] ⟨rfl, rfl, rfl, rfl, trivial⟩ ?_
 refine Run.seq ?_
 refine Run.seq ?_
 refine Run.reg ?_
 refine op (OpS.mv rfl rfl rfl ?_)
 obtain ⟨y1, e1, hF⟩ := bindP_use hF
 refine op (OpS.callP h Try.func9 rfl rfl rfl rfl (vs := [v0]) rfl (made_Light_ok e1) (.cons (f := false) (V.at .z) .nil) ?_)
 rintro _ w1 _ _ _ ⟨rfl, rfl, rfl, rfl⟩ h1
 have h2 := h1 rfl rfl
 simp only [List.cons_append, List.nil_append] at h2
 refine op (OpS.not rfl rfl rfl ?_)
 refine RunL.nil ?_
 refine Run.slim [(35, .bool (!y1)), (0, v0), (1, .int .i64 a1), (2, .int .i64 a2), (3, .int .u8 a3)] ⟨rfl, rfl, rfl, rfl, rfl, trivial⟩ ?_
 refine Run.ite rfl hF (fun e2 hF => ?_) (fun e2 hF => ?_)
 ·
  refine Run.seq ?_
  refine Run.reg ?_
  obtain ⟨y2, e3, hF⟩ := bindP_use hF
  refine op (OpS.callP h2 Try.func10 rfl rfl rfl rfl (vs := []) rfl (law23_awake_ok e3) .nil ?_)
  rintro _ w2 _ _ _ ⟨rfl, rfl, rfl, rfl⟩ h3
  have h4 := h3 rfl rfl
  simp only [List.cons_append, List.nil_append] at h4
  refine op (OpS.as rfl rfl rfl ?_)
  refine RunL.nil ?_
  refine Run.slim [(8, .bool y2)] ⟨rfl, trivial⟩ ?_
  refine Run.retP rfl (.tmp rfl .nil) ?_
  cases hF
  exact Post.mk' ⟨rfl, rfl, rfl, rfl⟩ (h4.picks .nil) .nil
 ·
  refine Run.skip ?_
  refine Run.seq ?_
  refine Run.reg ?_
  refine op (OpS.mv rfl rfl rfl ?_)
  obtain ⟨y3, e4, hF⟩ := bindP_use hF
  have h5 := h2.front .nil
  refine op (OpS.callO h5 Try.func11 rfl rfl rfl rfl (vs := [v0]) rfl (made_Roll_ok e4) rfl (.cons (f := false) (V.at .z) .nil) ?_)
  rintro u1 w3 _ _ _ ⟨_, rfl, rfl, rfl, rfl⟩ h6
  have h7 := h6
  simp only [List.cons_append, List.nil_append] at h7
  obtain ⟨y4, e5, hF⟩ := bindP_use hF
  have h8 := h7.front (.cons .z .nil)
  refine op (OpS.callO h8 Try.func12 rfl rfl rfl rfl (vs := [u1, .bool false]) rfl (made_Dice_Message_ok e5) rfl .nil ?_)
  rintro u2 w4 _ _ _ ⟨_, rfl, rfl, rfl, rfl⟩ h9
  have h10 := h9
  simp only [List.cons_append, List.nil_append] at h10
  refine op (OpS.alloc h10 ti24 Message_.zr rfl rfl (fun u3 w5 h11 => ?_))
  refine op (OpS.storeB (f' := true) h11 .z PA.z Put.id ty24 rfl rfl rfl (V.at .z) (.inl rfl) (fun w6 h12 => ?_))
  refine RunL.nil ?_
  refine Run.slim [(9, u3), (1, .int .i64 a1), (2, .int .i64 a2), (3, .int .u8 a3)] ⟨rfl, rfl, rfl, rfl, trivial⟩ ?_
  refine Run.seq ?_
  refine Run.reg ?_
  refine op (OpS.loadB h12 .z PA.z Get.id ty24 rfl rfl rfl (fun u4 h13 => ?_))
  obtain ⟨y5, e6, hF⟩ := bindP_use hF
  refine op (OpS.callP h13 Try.func16 rfl rfl rfl rfl (vs := [u4]) rfl (message_Request_ok e6) (.cons (f := true) (V.at .z) .nil) ?_)
  rintro _ w7 _ _ _ ⟨u5, rfl, rfl, rfl, rfl⟩ h14
  have h15 := h14 rfl rfl
  simp only [List.cons_append, List.nil_append] at h15
  refine op (OpS.mv rfl rfl rfl ?_)
  refine op (OpS.ext rfl rfl rfl rfl ?_)
  refine op (OpS.ext rfl rfl rfl rfl ?_)
  refine op (OpS.as rfl rfl rfl ?_)
  have h16 := (h15.pick .z).freeze
  refine op (OpS.as rfl rfl rfl ?_)
  refine RunL.nil ?_
  refine Run.slim [(11, .int .i64 y5.2), (10, u5), (9, u3), (1, .int .i64 a1), (2, .int .i64 a2), (3, .int .u8 a3)] ⟨rfl, rfl, rfl, rfl, rfl, rfl, trivial⟩ ?_
  refine Run.seq ?_
  refine Run.reg ?_
  refine op (OpS.mv rfl rfl rfl ?_)
  obtain ⟨y6, e7, hF⟩ := bindP_use hF
  refine op (OpS.callP h16 Try.func34 rfl rfl rfl rfl (vs := [.int .i64 a1, .int .i64 64]) rfl (made_Mod_ok e7) .nil ?_)
  rintro _ w8 _ _ _ ⟨rfl, rfl, rfl, rfl⟩ h17
  have h18 := h17 rfl rfl
  simp only [List.cons_append, List.nil_append] at h18
  refine op (OpS.bin rfl rfl rfl rfl rfl ?_)
  refine op (OpS.mv rfl rfl rfl ?_)
  obtain ⟨y7, e8, hF⟩ := bindP_use hF
  have h19 := h18.front .nil
  refine op (OpS.callO h19 Try.func35 rfl rfl rfl rfl (vs := [.int .u8 9, .int .u8 10, .bool true, .int .i64 2, .int .i64 (IntKind.i64.wrap (1 + y6)), u5]) rfl (fragment_Split_ok e8) rfl (.cons (f := true) (V.at .z) .nil) ?_)
  rintro _ w9 _ _ _ ⟨u6, rfl, rfl, rfl, rfl⟩ h20
  have h21 := h20
  simp only [List.cons_append, List.nil_append] at h21
  refine op (OpS.mv rfl rfl rfl ?_)
  refine op (OpS.ext rfl rfl rfl rfl ?_)
  refine op (OpS.ext rfl rfl rfl rfl ?_)
  refine op (OpS.as rfl rfl rfl ?_)
  have h22 := (h21.pick .z).freeze
  refine op (OpS.as rfl rfl rfl ?_)
  refine RunL.nil ?_
  refine Run.slim [(13, .int .i64 y7.2), (12, u6), (11, .int .i64 y5.2), (9, u3), (2, .int .i64 a2), (3, .int .u8 a3)] ⟨rfl, rfl, rfl, rfl, rfl, rfl, trivial⟩ ?_
  refine Run.seq ?_
  refine Run.reg ?_
  obtain ⟨y8, e9, hF⟩ := bindP_use hF
  refine op (OpS.callP h22 Try.func36 rfl rfl rfl rfl (vs := [.int .u8 9]) rfl (fragment_New_ok e9) .nil ?_)
  rintro _ w10 _ _ _ ⟨u7, rfl, rfl, rfl, rfl⟩ h23
  have h24 := h23 rfl rfl
  simp only [List.cons_append, List.nil_append] at h24
  refine op (OpS.mv rfl rfl rfl ?_)
  refine op (OpS.ext rfl rfl rfl rfl ?_)
  refine op (OpS.ext rfl rfl rfl rfl ?_)
  refine op (OpS.as rfl rfl rfl ?_)
  refine op (OpS.as rfl rfl rfl ?_)
  refine RunL.nil ?_
  refine Run.slim [(15, .int .i64 y8.2), (14, u7), (13, .int .i64 y7.2), (12, u6), (11, .int .i64 y5.2), (9, u3), (2, .int .i64 a2), (3, .int .u8 a3)] ⟨rfl, rfl, rfl, rfl, rfl, rfl, rfl, rfl, trivial⟩ ?_
  refine Run.seq ?_
  refine Run.seq ?_
  refine Run.reg ?_
  refine op (OpS.mv rfl rfl rfl ?_)
  refine op (OpS.bin rfl rfl rfl rfl rfl ?_)
  refine op (OpS.mv rfl rfl rfl ?_)
  refine RunL.join (σ := Bool) (fun s_ L_ w_ => L_ = [(2, .int .i64 a2), (3, .int .u8 a3), (9, u3), (12, u6), (14, u7), (75, .bool s_)] ∧ St e w_ [(false, .val (Rep.slice Packet_.rep) u6 y7.1)] [(true, .box 24 Message_.rep u3 y4.1), (true, .opt (fun x_ => .ex fun v_ => .sep (.box 88 (Rep.iso (fun s : fragment_Assembler => (s.own, s.open_, ())) (Rep.prod (Rep.int .u8) (Rep.prod (Rep.raw (α := List fragment_open) v_) Rep.unit))) u7 x_) (.oval (oslice 99 6 (fun _ => fragment_open.orep)) v_ x_.open_)) u7 y8.1)]) hF (fun s1 _ w11 hI hF => ?_) (fun j1 hj1 hF => ?_)
  ·
   obtain ⟨rfl, h25⟩ := hI
   refine Run.ite rfl hF (fun e10 hF => ?_) (fun e10 hF => ?_)
   ·
    refine Run.seq ?_
    refine Run.reg ?_
    refine op (OpS.as rfl rfl rfl ?_)
    refine RunL.nil ?_
    refine Run.slim [(8, .bool false)] ⟨rfl, trivial⟩ ?_
    refine Run.retP rfl (.tmp rfl .nil) ?_
    cases hF
    exact Post.mk' ⟨rfl, rfl, rfl, rfl⟩ (h25.picks .nil) .nil
   ·
    refine Run.skip ?_
    refine Run.seq ?_
    refine Run.reg ?_
    refine op (OpS.as rfl rfl rfl ?_)
    refine RunL.nil ?_
    refine Run.slim [(16, .slice none 0 0), (2, .int .i64 a2), (3, .int .u8 a3), (9, u3), (12, u6), (14, u7)] ⟨rfl, rfl, rfl, rfl, rfl, rfl, trivial⟩ ?_
    refine Run.seq ?_
    refine Run.seq ?_
    refine Run.reg ?_
    refine op (OpS.as rfl rfl rfl ?_)
    refine RunL.nil ?_
    refine Run.block ?_
    have h26 := (h25.pick (.s .z)).weak
    refine Run.slim [(2, .int .i64 a2), (3, .int .u8 a3), (9, u3), (12, u6), (14, u7), (16, .slice none 0 0), (17, .int .i64 0)] ⟨rfl, rfl, rfl, rfl, rfl, rfl, rfl, trivial⟩ ?_
    refine Run.loopP (σ := ((List Int) × Int × (Option fragment_Assembler))) (fun s_ L_ w_ => ∃ u0_ u1_ : Value, L_ = [(2, .int .i64 a2), (3, .int .u8 a3), (9, u3), (12, u6), (14, u1_), (16, u0_), (17, .int .i64 s_.2.1)] ∧ St e w_ [(false, .val (Rep.slice Packet_.rep) u6 y7.1), (false, .val (Rep.slice (Rep.int .u8)) u0_ s_.1)] [(true, .box 24 Message_.rep u3 y4.1), (false, .opt (fun x_ => .ex fun v_ => .sep (.box 88 (Rep.iso (fun s : fragment_Assembler => (s.own, s.open_, ())) (Rep.prod (Rep.int .u8) (Rep.prod (Rep.raw (α := List fragment_open) v_) Rep.unit))) u1_ x_) (.oval (oslice 99 6 (fun _ => fragment_open.orep)) v_ x_.open_)) u1_ s_.2.2)]) hF ⟨.slice none 0 0, u7, rfl, (h26.facts (.atm .z (.val V.nil .nil))).picks (.cons (.s .z) (.cons .z .nil))⟩ (fun k1 hk1 s2 _ w12 hI hF => ?_)
    obtain ⟨u8, u9, rfl, h27⟩ := hI
    refine Run.seq ?_
    refine Run.seq ?_
    refine Run.reg ?_
    refine op (OpS.mv rfl rfl rfl ?_)
    refine op (OpS.mv rfl rfl rfl ?_)
    refine op (OpS.len h27 Try.underlying55 rfl rfl rfl (V.at .z) ?_)
    refine op (OpS.bin rfl rfl rfl rfl rfl ?_)
    refine RunL.nil ?_
    refine Run.slim [(79, .bool (decide (s2.2.1 < (y7.1.length : Int)))), (2, .int .i64 a2), (3, .int .u8 a3), (9, u3), (12, u6), (14, u9), (16, u8), (17, .int .i64 s2.2.1)] ⟨rfl, rfl, rfl, rfl, rfl, rfl, rfl, rfl, trivial⟩ ?_
    refine Run.ite rfl hF (fun e11 hF => ?_) (fun e11 hF => ?_)
    ·
     refine Run.skip ?_
     refine Run.seq ?_
     refine Run.block ?_
     refine Run.seq ?_
     refine Run.reg ?_
     refine op (OpS.mv rfl rfl rfl ?_)
     refine op (OpS.mv rfl rfl rfl ?_)
     obtain ⟨x1, e12, hF⟩ := bindP_use hF
     refine op (OpS.iptr h27 Try.underlying55 ty63 rfl rfl rfl rfl (V.at .z) e12 (fun u10 h28 => ?_))
     refine op (OpS.load h28 ty63 rfl rfl rfl .z (fun u11 h29 => ?_))
     obtain ⟨y9, e13, hF⟩ := bindP_use hF
     refine op (OpS.callP h29 Try.func37 rfl rfl rfl rfl (vs := [u11]) rfl (fragment_Encode_ok e13) (.cons (f := false) (V.at .z) .nil) ?_)
     rintro _ w13 _ _ _ ⟨u12, rfl, rfl, rfl, rfl⟩ h30
     have h31 := h30 rfl rfl
     simp only [List.cons_append, List.nil_append] at h31
     refine op (OpS.mv rfl rfl rfl ?_)
     refine op (OpS.ext rfl rfl rfl rfl ?_)
     refine op (OpS.ext rfl rfl rfl rfl ?_)
     refine op (OpS.as rfl rfl rfl ?_)
     have h32 := (h31.pick .z).freeze
     refine op (OpS.as rfl rfl rfl ?_)
     refine RunL.nil ?_
     refine Run.slim [(19, .int .i64 y9.2), (18, u12), (2, .int .i64 a2), (3, .int .u8 a3), (9, u3), (12, u6), (14, u9), (16, u8), (17, .int .i64 s2.2.1)] ⟨rfl, rfl, rfl, rfl, rfl, rfl, rfl, rfl, rfl, trivial⟩ ?_
     refine Run.seq ?_
     refine Run.reg ?_
     refine op (OpS.mv rfl rfl rfl ?_)
     refine op (OpS.build (f := true) (x' := (⟨16, 64, y9.1⟩ : Frame_)) h32 pl66 ti66 Frame_.zr rfl rfl rfl (.cons rfl Frame_.f0 rfl V.int (.cons rfl Frame_.f1 rfl V.int (.cons rfl Frame_.f2 rfl (V.at .z) .nil))) (fun u13 h33 => ?_))
     obtain ⟨y10, e14, hF⟩ := bindP_use hF
     refine op (OpS.callP h33 Try.func38 rfl rfl rfl rfl (vs := [u13]) rfl (frame_Encode_ok e14) (.cons (f := true) (V.at .z) .nil) ?_)
     rintro _ w14 _ _ _ ⟨u14, rfl, rfl, rfl, rfl⟩ h34
     have h35 := h34 rfl rfl
     simp only [List.cons_append, List.nil_append] at h35
     refine op (OpS.mv rfl rfl rfl ?_)
     refine op (OpS.ext rfl rfl rfl rfl ?_)
     refine op (OpS.ext rfl rfl rfl rfl ?_)
     refine op (OpS.as rfl rfl rfl ?_)
     refine op (OpS.as rfl rfl rfl ?_)
     refine RunL.nil ?_
     refine Run.slim [(21, .int .i64 y10.2), (20, u14), (19, .int .i64 y9.2), (2, .int .i64 a2), (3, .int .u8 a3), (9, u3), (12, u6), (14, u9), (16, u8), (17, .int .i64 s2.2.1)] ⟨rfl, rfl, rfl, rfl, rfl, rfl, rfl, rfl, rfl, rfl, trivial⟩ ?_
     refine Run.seq ?_
     refine Run.reg ?_
     refine op (OpS.mv rfl rfl rfl ?_)
     obtain ⟨y11, e15, hF⟩ := bindP_use hF
     refine op (OpS.callP h35 Try.func39 rfl rfl rfl rfl (vs := [u14]) rfl (frame_Decode_ok e15) (.own .z .nil) ?_)
     rintro _ w15 _ _ _ ⟨u15, rfl, rfl, rfl, rfl⟩ h36
     have h37 := h36 rfl rfl
     simp only [List.cons_append, List.nil_append] at h37
     refine op (OpS.mv rfl rfl rfl ?_)
     refine op (OpS.ext rfl rfl rfl rfl ?_)
     refine op (OpS.ext rfl rfl rfl rfl ?_)
     refine op (OpS.alloc h37 ti66 Frame_.zr rfl rfl (fun u16 w16 h38 => ?_))
     refine op (OpS.storeB (f' := true) h38 .z PA.z Put.id ty66 rfl rfl rfl (V.at .z) (.inl rfl) (fun w17 h39 => ?_))
     refine op (OpS.as rfl rfl rfl ?_)
     refine RunL.nil ?_
     refine Run.slim [(23, .int .i64 y11.2), (22, u16), (21, .int .i64 y10.2), (20, u14), (19, .int .i64 y9.2), (2, .int .i64 a2), (3, .int .u8 a3), (9, u3), (12, u6), (14, u9), (16, u8), (17, .int .i64 s2.2.1)] ⟨rfl, rfl, rfl, rfl, rfl, rfl, rfl, rfl, rfl, rfl, rfl, rfl, trivial⟩ ?_
     refine Run.seq ?_
     refine Run.reg ?_
     refine op (OpS.fbox (o3 := 2) h39 .z PA.z fa66_2 rfl rfl rfl rfl ?_)
     refine op (OpS.loadB h39 .z PA.a (Get.fld Frame_.f2) ty22 rfl rfl rfl (fun u17 h40 => ?_))
     obtain ⟨y12, e16, hF⟩ := bindP_use hF
     refine op (OpS.callP h40 Try.func40 rfl rfl rfl rfl (vs := [u17]) rfl (fragment_Decode_ok e16) (.cons (f := true) (V.at .z) .nil) ?_)
     rintro _ w18 _ _ _ ⟨u18, rfl, rfl, rfl, rfl⟩ h41
     have h42 := h41 rfl rfl
     simp only [List.cons_append, List.nil_append] at h42
     refine op (OpS.mv rfl rfl rfl ?_)
     refine op (OpS.ext rfl rfl rfl rfl ?_)
     refine op (OpS.ext rfl rfl rfl rfl ?_)
     refine op (OpS.alloc h42 ti63 Packet_.zr rfl rfl (fun u19 w19 h43 => ?_))
     refine op (OpS.storeB (f' := true) h43 .z PA.z Put.id ty63 rfl rfl rfl (V.at .z) (.inl rfl) (fun w20 h44 => ?_))
     refine op (OpS.as rfl rfl rfl ?_)
     refine RunL.nil ?_
     refine Run.slim [(25, .int .i64 y12.2), (24, u19), (23, .int .i64 y11.2), (21, .int .i64 y10.2), (20, u14), (19, .int .i64 y9.2), (2, .int .i64 a2), (3, .int .u8 a3), (9, u3), (12, u6), (14, u9), (16, u8), (17, .int .i64 s2.2.1)] ⟨rfl, rfl, rfl, rfl, rfl, rfl, rfl, rfl, rfl, rfl, rfl, rfl, rfl, trivial⟩ ?_
     refine Run.seq ?_
     refine Run.reg ?_
     refine op (OpS.mv rfl rfl rfl ?_)
     refine op (OpS.loadB h44 .z PA.z Get.id ty63 rfl rfl rfl (fun u20 h45 => ?_))
     obtain ⟨x2, e17, hF⟩ := bindP_use hF
     have h46 := St.unopt (h45.pick (.s (.s (.s (.s .z))))) e17
     obtain ⟨u21, h47⟩ := h46.unex
     have h48 := h47.unsep
     obtain ⟨y13, e18, hF⟩ := bindP_use hF
     have h49 := h48.front (.cons .z (.cons .z .nil))
     refine op (OpS.callO h49 Try.func41 rfl rfl rfl rfl (vs := [u9, u20]) rfl (fragment_Assembler_Accept_ok e18) rfl (.cons (f := true) (V.at .z) .nil) ?_)
     rintro _ w21 _ _ _ ⟨u22, u23, rfl, rfl, rfl, rfl⟩ h50
     have h51 := h50
     simp only [List.cons_append, List.nil_append] at h51
     refine op (OpS.mv rfl rfl rfl ?_)
     refine op (OpS.ext rfl rfl rfl rfl ?_)
     refine op (OpS.ext rfl rfl rfl rfl ?_)
     refine op (OpS.ext rfl rfl rfl rfl ?_)
     refine op (OpS.alloc h51 ti72 Whole_.zr rfl rfl (fun u24 w22 h52 => ?_))
     have h53 := (h52.pick .z).weak
     refine op (OpS.storeB (f' := false) h53 .z PA.z Put.id ty72 rfl rfl rfl (V.at .z) (.inr rfl) (fun w23 h54 => ?_))
     refine op (OpS.as rfl rfl rfl ?_)
     refine op (OpS.as rfl rfl rfl ?_)
     refine RunL.nil ?_
     refine Run.slim [(28, .int .i64 y13.2.2.1), (27, .bool y13.2.1), (26, u24), (25, .int .i64 y12.2), (23, .int .i64 y11.2), (21, .int .i64 y10.2), (20, u14), (19, .int .i64 y9.2), (2, .int .i64 a2), (3, .int .u8 a3), (9, u3), (12, u6), (14, u9), (16, u8), (17, .int .i64 s2.2.1)] ⟨rfl, rfl, rfl, rfl, rfl, rfl, rfl, rfl, rfl, rfl, rfl, rfl, rfl, rfl, rfl, trivial⟩ ?_
     refine Run.seq ?_
     refine Run.seq ?_
     refine Run.reg ?_
     refine op (OpS.mv rfl rfl rfl ?_)
     refine op (OpS.bin rfl rfl rfl rfl rfl ?_)
     refine op (OpS.mv rfl rfl rfl ?_)
     refine RunL.join (σ := Bool) (fun s_ L_ w_ => L_ = [(2, .int .i64 a2), (3, .int .u8 a3), (9, u3), (12, u6), (14, u9), (16, u8), (17, .int .i64 s2.2.1), (20, u14), (26, u24), (27, .bool y13.2.1), (140, .bool s_)] ∧ St e w_ [(false, .val (Rep.slice Packet_.rep) u6 y7.1), (false, .val (Rep.slice (Rep.int .u8)) u8 s2.1)] [(true, .box 24 Message_.rep u3 y4.1), (false, .box 88 (Rep.iso (fun s : fragment_Assembler => (s.own, s.open_, ())) (Rep.prod (Rep.int .u8) (Rep.prod (Rep.raw (α := List fragment_open) u23) Rep.unit))) u9 y13.2.2.2), (false, .box 72 Whole_.rep u24 y13.1), (true, .slice 5 (Rep.int .u8) u14 y10.1), (false, .oval (oslice 99 6 (fun _ => fragment_open.orep)) u23 y13.2.2.2.open_)]) hF (fun s3 _ w24 hI hF => ?_) (fun j2 hj2 hF => ?_)
     ·
      obtain ⟨rfl, h55⟩ := hI
      refine Run.ite rfl hF (fun e19 hF => ?_) (fun e19 hF => ?_)
      ·
       refine Run.seq ?_
       refine Run.reg ?_
       refine op (OpS.as rfl rfl rfl ?_)
       refine RunL.nil ?_
       refine Run.slim [(8, .bool false)] ⟨rfl, trivial⟩ ?_
       refine Run.retP rfl (.tmp rfl .nil) ?_
       cases hF
       exact Post.mk' ⟨rfl, rfl, rfl, rfl⟩ (h55.picks .nil) .nil
      ·
       refine Run.skip ?_
       refine Run.seq ?_
       refine Run.seq ?_
       refine Run.reg ?_
       refine op (OpS.mv rfl rfl rfl ?_)
       refine RunL.nil ?_
       refine Run.slim [(141, .bool y13.2.1), (2, .int .i64 a2), (3, .int .u8 a3), (9, u3), (12, u6), (14, u9), (16, u8), (17, .int .i64 s2.2.1), (20, u14), (26, u24)] ⟨rfl, rfl, rfl, rfl, rfl, rfl, rfl, rfl, rfl, rfl, trivial⟩ ?_
       refine Run.join (σ := ((List Int))) (fun s_ L_ w_ => ∃ u0_ : Value, L_ = [(2, .int .i64 a2), (3, .int .u8 a3), (9, u3), (12, u6), (14, u9), (16, u0_), (17, .int .i64 s2.2.1), (20, u14)] ∧ St e w_ [(false, .val (Rep.slice Packet_.rep) u6 y7.1), (false, .val (Rep.slice (Rep.int .u8)) u0_ s_)] [(true, .box 24 Message_.rep u3 y4.1), (false, .box 88 (Rep.iso (fun s : fragment_Assembler => (s.own, s.open_, ())) (Rep.prod (Rep.int .u8) (Rep.prod (Rep.raw (α := List fragment_open) u23) Rep.unit))) u9 y13.2.2.2), (true, .slice 5 (Rep.int .u8) u14 y10.1), (false, .oval (oslice 99 6 (fun _ => fragment_open.orep)) u23 y13.2.2.2.open_)]) hF (fun s4 _ w25 hI hF => ?_) (fun j3 hj3 hF => ?_)
       ·
        obtain ⟨u25, rfl, h56⟩ := hI
        refine Run.seq ?_
        refine Run.reg ?_
        refine op (OpS.mv rfl rfl rfl ?_)
        refine op (OpS.bin rfl rfl rfl rfl rfl ?_)
        refine RunL.nil ?_
        refine Run.slim [(145, .bool (a3 != 0)), (2, .int .i64 a2), (3, .int .u8 a3), (9, u3), (12, u6), (14, u9), (16, u25), (17, .int .i64 s2.2.1), (20, u14)] ⟨rfl, rfl, rfl, rfl, rfl, rfl, rfl, rfl, rfl, trivial⟩ ?_
        refine Run.ite rfl hF (fun e20 hF => ?_) (fun e20 hF => ?_)
        ·
         refine Run.seq ?_
         refine Run.reg ?_
         refine op (OpS.mv rfl rfl rfl ?_)
         refine op (OpS.mv rfl rfl rfl ?_)
         refine op (OpS.mv rfl rfl rfl ?_)
         refine op (OpS.lenO h56 (.s (.s .z)) Try.underlying22 rfl rfl rfl ?_)
         obtain ⟨y14, e21, hF⟩ := bindP_use hF
         refine op (OpS.callP h56 Try.func34 rfl rfl rfl rfl (vs := [.int .i64 a2, .int .i64 (y10.1.length : Int)]) rfl (made_Mod_ok e21) .nil ?_)
         rintro _ w26 _ _ _ ⟨rfl, rfl, rfl, rfl⟩ h57
         have h58 := h57 rfl rfl
         simp only [List.cons_append, List.nil_append] at h58
         obtain ⟨x3, e22, hF⟩ := bindP_use hF
         refine op (OpS.iown h58 (.s (.s .z)) Try.underlying22 ty5 rfl rfl rfl rfl e22 ?_)
         refine op (OpS.loadOi h58 (.s (.s .z)) (idx_ne e22) PA.a (Get.arr e22) ty5 rfl rfl rfl ?_)
         refine op (OpS.mv rfl rfl rfl ?_)
         refine op (OpS.bin rfl rfl rfl rfl rfl ?_)
         obtain ⟨x4, e23, hF⟩ := bindP_use hF
         refine op (OpS.iown h58 (.s (.s .z)) Try.underlying22 ty5 rfl rfl rfl rfl e23 ?_)
         obtain ⟨d1, e24, hF⟩ := letP_use hF
         refine op (OpS.storeO (f' := true) h58 (.s (.s .z)) (idx_ne e23) PA.a (Put.of (Put.arr e23) e24) ty5 rfl rfl rfl V.int (.inl rfl) (fun w27 h59 => ?_))
         refine RunL.nil ?_
         refine Run.slim [(2, .int .i64 a2), (3, .int .u8 a3), (9, u3), (12, u6), (14, u9), (16, u25), (17, .int .i64 s2.2.1), (20, u14)] ⟨rfl, rfl, rfl, rfl, rfl, rfl, rfl, rfl, trivial⟩ ?_
         refine Run.seq ?_
         refine Run.reg ?_
         refine op (OpS.mv rfl rfl rfl ?_)
         obtain ⟨y15, e25, hF⟩ := bindP_use hF
         refine op (OpS.callP h59 Try.func39 rfl rfl rfl rfl (vs := [u14]) rfl (frame_Decode_ok e25) (.own .z .nil) ?_)
         rintro _ w28 _ _ _ ⟨u26, rfl, rfl, rfl, rfl⟩ h60
         have h61 := h60 rfl rfl
         simp only [List.cons_append, List.nil_append] at h61
         refine op (OpS.mv rfl rfl rfl ?_)
         refine op (OpS.ext rfl rfl rfl rfl ?_)
         refine op (OpS.ext rfl rfl rfl rfl ?_)
         refine op (OpS.alloc h61 ti66 Frame_.zr rfl rfl (fun u27 w29 h62 => ?_))
         refine op (OpS.storeB (f' := true) h62 .z PA.z Put.id ty66 rfl rfl rfl (V.at .z) (.inl rfl) (fun w30 h63 => ?_))
         refine op (OpS.as rfl rfl rfl ?_)
         refine RunL.nil ?_
         refine Run.slim [(30, .int .i64 y15.2), (2, .int .i64 a2), (3, .int .u8 a3), (9, u3), (12, u6), (14, u9), (16, u25), (17, .int .i64 s2.2.1)] ⟨rfl, rfl, rfl, rfl, rfl, rfl, rfl, rfl, trivial⟩ ?_
         refine Run.seq ?_
         refine Run.reg ?_
         refine op (OpS.mv rfl rfl rfl ?_)
         refine op (OpS.bin rfl rfl rfl rfl rfl ?_)
         refine RunL.nil ?_
         refine Run.slim [(162, .bool (y15.2 != 5)), (2, .int .i64 a2), (3, .int .u8 a3), (9, u3), (12, u6), (14, u9), (16, u25), (17, .int .i64 s2.2.1)] ⟨rfl, rfl, rfl, rfl, rfl, rfl, rfl, rfl, trivial⟩ ?_
         refine Run.ite rfl hF (fun e26 hF => ?_) (fun e26 hF => ?_)
         ·
          refine Run.seq ?_
          refine Run.reg ?_
          refine op (OpS.as rfl rfl rfl ?_)
          refine RunL.nil ?_
          refine Run.slim [(8, .bool false)] ⟨rfl, trivial⟩ ?_
          refine Run.retP rfl (.tmp rfl .nil) ?_
          cases hF
          exact Post.mk' ⟨rfl, rfl, rfl, rfl⟩ (h63.picks .nil) .nil
         ·
          refine Run.skip ?_
          refine Run.endBlock ?_
          refine Run.reg ?_
          refine op (OpS.mv rfl rfl rfl ?_)
          refine op (OpS.bin rfl rfl rfl rfl rfl ?_)
          refine op (OpS.as rfl rfl rfl ?_)
          obtain ⟨x5, e27, hF⟩ := letP_use hF
          refine RunL.name e27 ?_
          refine RunL.nil ?_
          refine Run.slim [(17, .int .i64 x5), (2, .int .i64 a2), (3, .int .u8 a3), (9, u3), (12, u6), (14, u9), (16, u25)] ⟨rfl, rfl, rfl, rfl, rfl, rfl, rfl, trivial⟩ ?_
          have h64 := h63.front (.cons (.s (.s (.s .z))) (.cons (.s (.s (.s .z))) .nil))
          have h65 := St.some (H := (fun x_ => .ex fun v_ => .sep (.box 88 (Rep.iso (fun s : fragment_Assembler => (s.own, s.open_, ())) (Rep.prod (Rep.int .u8) (Rep.prod (Rep.raw (α := List fragment_open) v_) Rep.unit))) u9 x_) (.oval (oslice 99 6 (fun _ => fragment_open.orep)) v_ x_.open_))) (q := u9) (x := y13.2.2.2) (St.ex (H := fun v_ => .sep (.box 88 (Rep.iso (fun s : fragment_Assembler => (s.own, s.open_, ())) (Rep.prod (Rep.int .u8) (Rep.prod (Rep.raw (α := List fragment_open) v_) Rep.unit))) u9 y13.2.2.2) (.oval (oslice 99 6 (fun _ => fragment_open.orep)) v_ y13.2.2.2.open_)) u23 (St.sep h64))
          refine Run.slim [(2, .int .i64 a2), (3, .int .u8 a3), (9, u3), (12, u6), (14, u9), (16, u25), (17, .int .i64 x5)] ⟨rfl, rfl, rfl, rfl, rfl, rfl, rfl, trivial⟩ ?_
          exact hk1 (s4, x5, (some y13.2.2.2)) _ _ ⟨u25, u9, rfl, (h65.facts (.atm (.s .z) (.val (V.at (.s (.s .z))) .nil))).picks (.cons (.s (.s (.s .z))) (.cons .z .nil))⟩ hF
        ·
         refine Run.skip ?_
         refine Run.endBlock ?_
         refine Run.reg ?_
         refine op (OpS.mv rfl rfl rfl ?_)
         refine op (OpS.bin rfl rfl rfl rfl rfl ?_)
         refine op (OpS.as rfl rfl rfl ?_)
         obtain ⟨x6, e28, hF⟩ := letP_use hF
         refine RunL.name e28 ?_
         refine RunL.nil ?_
         refine Run.slim [(17, .int .i64 x6), (2, .int .i64 a2), (3, .int .u8 a3), (9, u3), (12, u6), (14, u9), (16, u25)] ⟨rfl, rfl, rfl, rfl, rfl, rfl, rfl, trivial⟩ ?_
         have h66 := h56.front (.cons (.s .z) (.cons (.s (.s .z)) .nil))
         have h67 := St.some (H := (fun x_ => .ex fun v_ => .sep (.box 88 (Rep.iso (fun s : fragment_Assembler => (s.own, s.open_, ())) (Rep.prod (Rep.int .u8) (Rep.prod (Rep.raw (α := List fragment_open) v_) Rep.unit))) u9 x_) (.oval (oslice 99 6 (fun _ => fragment_open.orep)) v_ x_.open_))) (q := u9) (x := y13.2.2.2) (St.ex (H := fun v_ => .sep (.box 88 (Rep.iso (fun s : fragment_Assembler => (s.own, s.open_, ())) (Rep.prod (Rep.int .u8) (Rep.prod (Rep.raw (α := List fragment_open) v_) Rep.unit))) u9 y13.2.2.2) (.oval (oslice 99 6 (fun _ => fragment_open.orep)) v_ y13.2.2.2.open_)) u23 (St.sep h66))
         refine Run.slim [(2, .int .i64 a2), (3, .int .u8 a3), (9, u3), (12, u6), (14, u9), (16, u25), (17, .int .i64 x6)] ⟨rfl, rfl, rfl, rfl, rfl, rfl, rfl, trivial⟩ ?_
         exact hk1 (s4, x6, (some y13.2.2.2)) _ _ ⟨u25, u9, rfl, (h67.facts (.atm .z (.val (V.at (.s .z)) .nil))).picks (.cons (.s .z) (.cons .z .nil))⟩ hF
       ·
        refine Run.ite rfl hF (fun e29 hF => ?_) (fun e29 hF => ?_)
        ·
         refine Run.reg ?_
         refine op (OpS.fbox (o3 := 3) h55 (.s (.s .z)) PA.z fa72_3 rfl rfl rfl rfl ?_)
         refine op (OpS.loadB h55 (.s (.s .z)) PA.a (Get.fld Whole_.f3) ty22 rfl rfl rfl (fun u28 h68 => ?_))
         refine op (OpS.as rfl rfl rfl ?_)
         refine RunL.nil ?_
         refine Run.slim [(16, u28), (2, .int .i64 a2), (3, .int .u8 a3), (9, u3), (12, u6), (14, u9), (17, .int .i64 s2.2.1), (20, u14)] ⟨rfl, rfl, rfl, rfl, rfl, rfl, rfl, rfl, trivial⟩ ?_
         refine Run.slim [(2, .int .i64 a2), (3, .int .u8 a3), (9, u3), (12, u6), (14, u9), (16, u28), (17, .int .i64 s2.2.1), (20, u14)] ⟨rfl, rfl, rfl, rfl, rfl, rfl, rfl, rfl, trivial⟩ ?_
         exact hj3 (y13.1.Data) _ _ ⟨u28, rfl, (h68.facts (.atm (.s .z) (.val (V.at .z) .nil))).picks (.cons .z (.cons .z (.cons (.s .z) (.cons (.s .z) .nil))))⟩ hF
        ·
         refine Run.skip ?_
         refine Run.slim [(2, .int .i64 a2), (3, .int .u8 a3), (9, u3), (12, u6), (14, u9), (16, u8), (17, .int .i64 s2.2.1), (20, u14)] ⟨rfl, rfl, rfl, rfl, rfl, rfl, rfl, rfl, trivial⟩ ?_
         exact hj3 (s2.1) _ _ ⟨u8, rfl, (h55.facts (.atm .z (.val (V.at (.s .z)) .nil))).picks (.cons .z (.cons .z (.cons (.s .z) (.cons (.s .z) .nil))))⟩ hF
     ·
      refine RunL.caseb hF (fun e30 hF => ?_) (fun e30 hF => ?_)
      ·
       refine op (OpS.pass rfl rfl rfl ?_)
       refine op (OpS.pass rfl rfl rfl ?_)
       refine op (OpS.pick rfl rfl rfl rfl ?_)
       refine op (OpS.mv rfl rfl rfl ?_)
       refine op (OpS.pass rfl rfl rfl ?_)
       refine op (OpS.pass rfl rfl rfl ?_)
       refine op (OpS.pick rfl rfl rfl rfl ?_)
       refine op (OpS.mv rfl rfl rfl ?_)
       refine op (OpS.pass rfl rfl rfl ?_)
       refine op (OpS.pass rfl rfl rfl ?_)
       refine op (OpS.pick rfl rfl rfl rfl ?_)
       refine op (OpS.mv rfl rfl rfl ?_)
       refine op (OpS.pass rfl rfl rfl ?_)
       refine op (OpS.pass rfl rfl rfl ?_)
       refine op (OpS.pick rfl rfl rfl rfl ?_)
       refine op (OpS.mv rfl rfl rfl ?_)
       refine op (OpS.pass rfl rfl rfl ?_)
       refine op (OpS.pass rfl rfl rfl ?_)
       refine op (OpS.pass rfl rfl rfl ?_)
       refine op (OpS.pass rfl rfl rfl ?_)
       refine op (OpS.pass rfl rfl rfl ?_)
       refine op (OpS.pass rfl rfl rfl ?_)
       refine op (OpS.pass rfl rfl rfl ?_)
       refine op (OpS.pick rfl rfl rfl rfl ?_)
       refine RunL.nil ?_
       refine Run.slim [(140, .bool true), (27, .bool y13.2.1), (26, u24), (20, u14), (2, .int .i64 a2), (3, .int .u8 a3), (9, u3), (12, u6), (14, u9), (16, u8), (17, .int .i64 s2.2.1)] ⟨rfl, rfl, rfl, rfl, rfl, rfl, rfl, rfl, rfl, rfl, rfl, trivial⟩ ?_
       refine Run.slim [(2, .int .i64 a2), (3, .int .u8 a3), (9, u3), (12, u6), (14, u9), (16, u8), (17, .int .i64 s2.2.1), (20, u14), (26, u24), (27, .bool y13.2.1), (140, .bool true)] ⟨rfl, rfl, rfl, rfl, rfl, rfl, rfl, rfl, rfl, rfl, rfl, trivial⟩ ?_
       exact hj2 (true) _ _ ⟨rfl, (h54.facts (.atm (.s (.s (.s (.s (.s (.s (.s (.s (.s .z))))))))) (.atm (.s (.s (.s (.s (.s (.s (.s (.s (.s (.s .z)))))))))) .nil))).picks (.cons (.s (.s (.s (.s (.s (.s .z)))))) (.cons (.s .z) (.cons .z (.cons (.s (.s (.s .z))) (.cons .z .nil)))))⟩ hF
      ·
       refine op (OpS.mv rfl rfl rfl ?_)
       refine op (OpS.bin rfl rfl rfl rfl rfl ?_)
       refine op (OpS.pick rfl rfl rfl rfl ?_)
       refine op (OpS.mv rfl rfl rfl ?_)
       refine RunL.caseb hF (fun e31 hF => ?_) (fun e31 hF => ?_)
       ·
        refine op (OpS.pass rfl rfl rfl ?_)
        refine op (OpS.pass rfl rfl rfl ?_)
        refine op (OpS.pick rfl rfl rfl rfl ?_)
        refine op (OpS.mv rfl rfl rfl ?_)
        refine op (OpS.pass rfl rfl rfl ?_)
        refine op (OpS.pass rfl rfl rfl ?_)
        refine op (OpS.pick rfl rfl rfl rfl ?_)
        refine op (OpS.mv rfl rfl rfl ?_)
        refine op (OpS.pass rfl rfl rfl ?_)
        refine op (OpS.pass rfl rfl rfl ?_)
        refine op (OpS.pick rfl rfl rfl rfl ?_)
        refine op (OpS.mv rfl rfl rfl ?_)
        refine op (OpS.pass rfl rfl rfl ?_)
        refine op (OpS.pass rfl rfl rfl ?_)
        refine op (OpS.pass rfl rfl rfl ?_)
        refine op (OpS.pass rfl rfl rfl ?_)
        refine op (OpS.pass rfl rfl rfl ?_)
        refine op (OpS.pass rfl rfl rfl ?_)
        refine op (OpS.pass rfl rfl rfl ?_)
        refine op (OpS.pick rfl rfl rfl rfl ?_)
        refine RunL.nil ?_
        refine Run.slim [(140, .bool true), (27, .bool y13.2.1), (26, u24), (20, u14), (2, .int .i64 a2), (3, .int .u8 a3), (9, u3), (12, u6), (14, u9), (16, u8), (17, .int .i64 s2.2.1)] ⟨rfl, rfl, rfl, rfl, rfl, rfl, rfl, rfl, rfl, rfl, rfl, trivial⟩ ?_
        refine Run.slim [(2, .int .i64 a2), (3, .int .u8 a3), (9, u3), (12, u6), (14, u9), (16, u8), (17, .int .i64 s2.2.1), (20, u14), (26, u24), (27, .bool y13.2.1), (140, .bool true)] ⟨rfl, rfl, rfl, rfl, rfl, rfl, rfl, rfl, rfl, rfl, rfl, trivial⟩ ?_
        exact hj2 (true) _ _ ⟨rfl, (h54.facts (.atm (.s (.s (.s (.s (.s (.s (.s (.s (.s .z))))))))) (.atm (.s (.s (.s (.s (.s (.s (.s (.s (.s (.s .z)))))))))) .nil))).picks (.cons (.s (.s (.s (.s (.s (.s .z)))))) (.cons (.s .z) (.cons .z (.cons (.s (.s (.s .z))) (.cons .z .nil)))))⟩ hF
       ·
        refine op (OpS.mv rfl rfl rfl ?_)
        refine op (OpS.bin rfl rfl rfl rfl rfl ?_)
        refine op (OpS.pick rfl rfl rfl rfl ?_)
        refine op (OpS.mv rfl rfl rfl ?_)
        refine RunL.caseb hF (fun e32 hF => ?_) (fun e32 hF => ?_)
        ·
         refine op (OpS.pass rfl rfl rfl ?_)
         refine op (OpS.pass rfl rfl rfl ?_)
         refine op (OpS.pick rfl rfl rfl rfl ?_)
         refine op (OpS.mv rfl rfl rfl ?_)
         refine op (OpS.pass rfl rfl rfl ?_)
         refine op (OpS.pass rfl rfl rfl ?_)
         refine op (OpS.pick rfl rfl rfl rfl ?_)
         refine op (OpS.mv rfl rfl rfl ?_)
         refine op (OpS.pass rfl rfl rfl ?_)
         refine op (OpS.pass rfl rfl rfl ?_)
         refine op (OpS.pass rfl rfl rfl ?_)
         refine op (OpS.pass rfl rfl rfl ?_)
         refine op (OpS.pass rfl rfl rfl ?_)
         refine op (OpS.pass rfl rfl rfl ?_)
         refine op (OpS.pass rfl rfl rfl ?_)
         refine op (OpS.pick rfl rfl rfl rfl ?_)
         refine RunL.nil ?_
         refine Run.slim [(140, .bool true), (27, .bool y13.2.1), (26, u24), (20, u14), (2, .int .i64 a2), (3, .int .u8 a3), (9, u3), (12, u6), (14, u9), (16, u8), (17, .int .i64 s2.2.1)] ⟨rfl, rfl, rfl, rfl, rfl, rfl, rfl, rfl, rfl, rfl, rfl, trivial⟩ ?_
         refine Run.slim [(2, .int .i64 a2), (3, .int .u8 a3), (9, u3), (12, u6), (14, u9), (16, u8), (17, .int .i64 s2.2.1), (20, u14), (26, u24), (27, .bool y13.2.1), (140, .bool true)] ⟨rfl, rfl, rfl, rfl, rfl, rfl, rfl, rfl, rfl, rfl, rfl, trivial⟩ ?_
         exact hj2 (true) _ _ ⟨rfl, (h54.facts (.atm (.s (.s (.s (.s (.s (.s (.s (.s (.s .z))))))))) (.atm (.s (.s (.s (.s (.s (.s (.s (.s (.s (.s .z)))))))))) .nil))).picks (.cons (.s (.s (.s (.s (.s (.s .z)))))) (.cons (.s .z) (.cons .z (.cons (.s (.s (.s .z))) (.cons .z .nil)))))⟩ hF
        ·
         refine op (OpS.mv rfl rfl rfl ?_)
         refine op (OpS.bin rfl rfl rfl rfl rfl ?_)
         refine op (OpS.pick rfl rfl rfl rfl ?_)
         refine op (OpS.mv rfl rfl rfl ?_)
         refine RunL.caseb hF (fun e33 hF => ?_) (fun e33 hF => ?_)
         ·
          refine op (OpS.pass rfl rfl rfl ?_)
          refine op (OpS.pass rfl rfl rfl ?_)
          refine op (OpS.pick rfl rfl rfl rfl ?_)
          refine op (OpS.mv rfl rfl rfl ?_)
          refine op (OpS.pass rfl rfl rfl ?_)
          refine op (OpS.pass rfl rfl rfl ?_)
          refine op (OpS.pass rfl rfl rfl ?_)
          refine op (OpS.pass rfl rfl rfl ?_)
          refine op (OpS.pass rfl rfl rfl ?_)
          refine op (OpS.pass rfl rfl rfl ?_)
          refine op (OpS.pass rfl rfl rfl ?_)
          refine op (OpS.pick rfl rfl rfl rfl ?_)
          refine RunL.nil ?_
          refine Run.slim [(140, .bool true), (27, .bool y13.2.1), (26, u24), (20, u14), (2, .int .i64 a2), (3, .int .u8 a3), (9, u3), (12, u6), (14, u9), (16, u8), (17, .int .i64 s2.2.1)] ⟨rfl, rfl, rfl, rfl, rfl, rfl, rfl, rfl, rfl, rfl, rfl, trivial⟩ ?_
          refine Run.slim [(2, .int .i64 a2), (3, .int .u8 a3), (9, u3), (12, u6), (14, u9), (16, u8), (17, .int .i64 s2.2.1), (20, u14), (26, u24), (27, .bool y13.2.1), (140, .bool true)] ⟨rfl, rfl, rfl, rfl, rfl, rfl, rfl, rfl, rfl, rfl, rfl, trivial⟩ ?_
          exact hj2 (true) _ _ ⟨rfl, (h54.facts (.atm (.s (.s (.s (.s (.s (.s (.s (.s (.s .z))))))))) (.atm (.s (.s (.s (.s (.s (.s (.s (.s (.s (.s .z)))))))))) .nil))).picks (.cons (.s (.s (.s (.s (.s (.s .z)))))) (.cons (.s .z) (.cons .z (.cons (.s (.s (.s .z))) (.cons .z .nil)))))⟩ hF
         ·
          refine op (OpS.mv rfl rfl rfl ?_)
          refine op (OpS.bin rfl rfl rfl rfl rfl ?_)
          refine op (OpS.pick rfl rfl rfl rfl ?_)
          refine op (OpS.mv rfl rfl rfl ?_)
          refine RunL.caseb hF (fun e34 hF => ?_) (fun e34 hF => ?_)
          ·
           refine op (OpS.pass rfl rfl rfl ?_)
           refine op (OpS.pass rfl rfl rfl ?_)
           refine op (OpS.pass rfl rfl rfl ?_)
           refine op (OpS.pass rfl rfl rfl ?_)
           refine op (OpS.pass rfl rfl rfl ?_)
           refine op (OpS.pass rfl rfl rfl ?_)
           refine op (OpS.pass rfl rfl rfl ?_)
           refine op (OpS.pick rfl rfl rfl rfl ?_)
           refine RunL.nil ?_
           refine Run.slim [(140, .bool true), (27, .bool y13.2.1), (26, u24), (20, u14), (2, .int .i64 a2), (3, .int .u8 a3), (9, u3), (12, u6), (14, u9), (16, u8), (17, .int .i64 s2.2.1)] ⟨rfl, rfl, rfl, rfl, rfl, rfl, rfl, rfl, rfl, rfl, rfl, trivial⟩ ?_
           refine Run.slim [(2, .int .i64 a2), (3, .int .u8 a3), (9, u3), (12, u6), (14, u9), (16, u8), (17, .int .i64 s2.2.1), (20, u14), (26, u24), (27, .bool y13.2.1), (140, .bool true)] ⟨rfl, rfl, rfl, rfl, rfl, rfl, rfl, rfl, rfl, rfl, rfl, trivial⟩ ?_
           exact hj2 (true) _ _ ⟨rfl, (h54.facts (.atm (.s (.s (.s (.s (.s (.s (.s (.s (.s .z))))))))) (.atm (.s (.s (.s (.s (.s (.s (.s (.s (.s (.s .z)))))))))) .nil))).picks (.cons (.s (.s (.s (.s (.s (.s .z)))))) (.cons (.s .z) (.cons .z (.cons (.s (.s (.s .z))) (.cons .z .nil)))))⟩ hF
          ·
           refine op (OpS.mv rfl rfl rfl ?_)
           refine op (OpS.mv rfl rfl rfl ?_)
           refine op (OpS.mv rfl rfl rfl ?_)
           refine op (OpS.len h54 Try.underlying55 rfl rfl rfl (V.at (.s (.s (.s (.s (.s (.s (.s (.s (.s .z)))))))))) ?_)
           refine op (OpS.bin rfl rfl rfl rfl rfl ?_)
           refine op (OpS.bin rfl rfl rfl rfl rfl ?_)
           refine op (OpS.neb Try.underlying4 rfl rfl rfl rfl ?_)
           refine op (OpS.pick rfl rfl rfl rfl ?_)
           refine RunL.nil ?_
           refine Run.slim [(140, .bool (y13.2.1 != (s2.2.1 == (IntKind.i64.wrap ((y7.1.length : Int) - 1))))), (27, .bool y13.2.1), (26, u24), (20, u14), (2, .int .i64 a2), (3, .int .u8 a3), (9, u3), (12, u6), (14, u9), (16, u8), (17, .int .i64 s2.2.1)] ⟨rfl, rfl, rfl, rfl, rfl, rfl, rfl, rfl, rfl, rfl, rfl, trivial⟩ ?_
           refine Run.slim [(2, .int .i64 a2), (3, .int .u8 a3), (9, u3), (12, u6), (14, u9), (16, u8), (17, .int .i64 s2.2.1), (20, u14), (26, u24), (27, .bool y13.2.1), (140, .bool (y13.2.1 != (s2.2.1 == (IntKind.i64.wrap ((y7.1.length : Int) - 1)))))] ⟨rfl, rfl, rfl, rfl, rfl, rfl, rfl, rfl, rfl, rfl, rfl, trivial⟩ ?_
           exact hj2 (y13.2.1 != (s2.2.1 == (IntKind.i64.wrap ((y7.1.length : Int) - 1)))) _ _ ⟨rfl, (h54.facts (.atm (.s (.s (.s (.s (.s (.s (.s (.s (.s .z))))))))) (.atm (.s (.s (.s (.s (.s (.s (.s (.s (.s (.s .z)))))))))) .nil))).picks (.cons (.s (.s (.s (.s (.s (.s .z)))))) (.cons (.s .z) (.cons .z (.cons (.s (.s (.s .z))) (.cons .z .nil)))))⟩ hF
    ·
     refine Run.exit rfl ?_
     refine Run.seq ?_
     refine Run.reg ?_
     refine op (OpS.mv rfl rfl rfl ?_)
     obtain ⟨y16, e35, hF⟩ := bindP_use hF
     refine op (OpS.callP h27 Try.func30 rfl rfl rfl rfl (vs := [u8]) rfl (message_ParseRequest_ok e35) (.cons (f := false) (V.at (.s .z)) .nil) ?_)
     rintro _ w31 _ _ _ ⟨u29, rfl, rfl, rfl, rfl⟩ h69
     have h70 := h69 rfl rfl
     simp only [List.cons_append, List.nil_append] at h70
     refine op (OpS.mv rfl rfl rfl ?_)
     refine op (OpS.ext rfl rfl rfl rfl ?_)
     refine op (OpS.ext rfl rfl rfl rfl ?_)
     refine op (OpS.alloc h70 ti24 Message_.zr rfl rfl (fun u30 w32 h71 => ?_))
     refine op (OpS.storeB (f' := true) h71 .z PA.z Put.id ty24 rfl rfl rfl (V.at .z) (.inl rfl) (fun w33 h72 => ?_))
     refine op (OpS.as rfl rfl rfl ?_)
     refine RunL.nil ?_
     refine Run.slim [(32, .int .i64 y16.2), (31, u30), (9, u3)] ⟨rfl, rfl, rfl, trivial⟩ ?_
     refine Run.seq ?_
     refine Run.reg ?_
     refine op (OpS.mv rfl rfl rfl ?_)
     refine op (OpS.bin rfl rfl rfl rfl rfl ?_)
     refine op (OpS.mv rfl rfl rfl ?_)
     refine RunL.caseb hF (fun e36 hF => ?_) (fun e36 hF => ?_)
     ·
      refine op (OpS.loadB h72 .z PA.z Get.id ty24 rfl rfl rfl (fun u31 h73 => ?_))
      refine op (OpS.loadB h73 (.s .z) PA.z Get.id ty24 rfl rfl rfl (fun u32 h74 => ?_))
      obtain ⟨y17, e37, hF⟩ := bindP_use hF
      refine op (OpS.callP h74 Try.func26 rfl rfl rfl rfl (vs := [u31, u32]) rfl (ref23_Same_ok e37) (.cons (f := true) (V.at (.s .z)) (.cons (f := true) (V.at .z) .nil)) ?_)
      rintro _ w34 _ _ _ ⟨rfl, rfl, rfl, rfl⟩ h75
      have h76 := h75 rfl rfl
      simp only [List.cons_append, List.nil_append] at h76
      refine op (OpS.pick rfl rfl rfl rfl ?_)
      refine op (OpS.mv rfl rfl rfl ?_)
      refine RunL.caseb hF (fun e38 hF => ?_) (fun e38 hF => ?_)
      ·
       obtain ⟨y18, e39, hF⟩ := bindP_use hF
       refine op (OpS.callP h76 Try.func10 rfl rfl rfl rfl (vs := []) rfl (law23_awake_ok e39) .nil ?_)
       rintro _ w35 _ _ _ ⟨rfl, rfl, rfl, rfl⟩ h77
       have h78 := h77 rfl rfl
       simp only [List.cons_append, List.nil_append] at h78
       refine op (OpS.pick rfl rfl rfl rfl ?_)
       refine op (OpS.as rfl rfl rfl ?_)
       refine RunL.nil ?_
       refine Run.slim [(8, .bool y18)] ⟨rfl, trivial⟩ ?_
       refine Run.retP rfl (.tmp rfl .nil) ?_
       cases hF
       exact Post.mk' ⟨rfl, rfl, rfl, rfl⟩ (h78.picks .nil) .nil
      ·
       refine op (OpS.pass rfl rfl rfl ?_)
       refine op (OpS.pick rfl rfl rfl rfl ?_)
       refine op (OpS.as rfl rfl rfl ?_)
       refine RunL.nil ?_
       refine Run.slim [(8, .bool false)] ⟨rfl, trivial⟩ ?_
       refine Run.retP rfl (.tmp rfl .nil) ?_
       cases hF
       exact Post.mk' ⟨rfl, rfl, rfl, rfl⟩ (h76.picks .nil) .nil
     ·
      refine op (OpS.pass rfl rfl rfl ?_)
      refine op (OpS.pass rfl rfl rfl ?_)
      refine op (OpS.pass rfl rfl rfl ?_)
      refine op (OpS.pick rfl rfl rfl rfl ?_)
      refine op (OpS.mv rfl rfl rfl ?_)
      refine op (OpS.pass rfl rfl rfl ?_)
      refine op (OpS.pick rfl rfl rfl rfl ?_)
      refine op (OpS.as rfl rfl rfl ?_)
      refine RunL.nil ?_
      refine Run.slim [(8, .bool false)] ⟨rfl, trivial⟩ ?_
      refine Run.retP rfl (.tmp rfl .nil) ?_
      cases hF
      exact Post.mk' ⟨rfl, rfl, rfl, rfl⟩ (h72.picks .nil) .nil
  ·
   refine RunL.caseb hF (fun e40 hF => ?_) (fun e40 hF => ?_)
   ·
    refine op (OpS.pass rfl rfl rfl ?_)
    refine op (OpS.pass rfl rfl rfl ?_)
    refine op (OpS.pick rfl rfl rfl rfl ?_)
    refine op (OpS.mv rfl rfl rfl ?_)
    refine op (OpS.pass rfl rfl rfl ?_)
    refine op (OpS.pass rfl rfl rfl ?_)
    refine op (OpS.pick rfl rfl rfl rfl ?_)
    refine op (OpS.mv rfl rfl rfl ?_)
    refine op (OpS.pass rfl rfl rfl ?_)
    refine op (OpS.pass rfl rfl rfl ?_)
    refine op (OpS.pick rfl rfl rfl rfl ?_)
    refine op (OpS.mv rfl rfl rfl ?_)
    refine op (OpS.pass rfl rfl rfl ?_)
    refine op (OpS.pass rfl rfl rfl ?_)
    refine op (OpS.pass rfl rfl rfl ?_)
    refine op (OpS.pick rfl rfl rfl rfl ?_)
    refine RunL.nil ?_
    refine Run.slim [(75, .bool true), (14, u7), (12, u6), (9, u3), (2, .int .i64 a2), (3, .int .u8 a3)] ⟨rfl, rfl, rfl, rfl, rfl, rfl, trivial⟩ ?_
    refine Run.slim [(2, .int .i64 a2), (3, .int .u8 a3), (9, u3), (12, u6), (14, u7), (75, .bool true)] ⟨rfl, rfl, rfl, rfl, rfl, rfl, trivial⟩ ?_
    exact hj1 (true) _ _ ⟨rfl, (h24.facts (.atm .z .nil)).picks (.cons (.s .z) (.cons .z .nil))⟩ hF
   ·
    refine op (OpS.mv rfl rfl rfl ?_)
    refine op (OpS.bin rfl rfl rfl rfl rfl ?_)
    refine op (OpS.pick rfl rfl rfl rfl ?_)
    refine op (OpS.mv rfl rfl rfl ?_)
    refine RunL.caseb hF (fun e41 hF => ?_) (fun e41 hF => ?_)
    ·
     refine op (OpS.pass rfl rfl rfl ?_)
     refine op (OpS.pass rfl rfl rfl ?_)
     refine op (OpS.pick rfl rfl rfl rfl ?_)
     refine op (OpS.mv rfl rfl rfl ?_)
     refine op (OpS.pass rfl rfl rfl ?_)
     refine op (OpS.pass rfl rfl rfl ?_)
     refine op (OpS.pick rfl rfl rfl rfl ?_)
     refine op (OpS.mv rfl rfl rfl ?_)
     refine op (OpS.pass rfl rfl rfl ?_)
     refine op (OpS.pass rfl rfl rfl ?_)
     refine op (OpS.pass rfl rfl rfl ?_)
     refine op (OpS.pick rfl rfl rfl rfl ?_)
     refine RunL.nil ?_
     refine Run.slim [(75, .bool true), (14, u7), (12, u6), (9, u3), (2, .int .i64 a2), (3, .int .u8 a3)] ⟨rfl, rfl, rfl, rfl, rfl, rfl, trivial⟩ ?_
     refine Run.slim [(2, .int .i64 a2), (3, .int .u8 a3), (9, u3), (12, u6), (14, u7), (75, .bool true)] ⟨rfl, rfl, rfl, rfl, rfl, rfl, trivial⟩ ?_
     exact hj1 (true) _ _ ⟨rfl, (h24.facts (.atm .z .nil)).picks (.cons (.s .z) (.cons .z .nil))⟩ hF
    ·
     refine op (OpS.mv rfl rfl rfl ?_)
     refine op (OpS.bin rfl rfl rfl rfl rfl ?_)
     refine op (OpS.pick rfl rfl rfl rfl ?_)
     refine op (OpS.mv rfl rfl rfl ?_)
     refine RunL.caseb hF (fun e42 hF => ?_) (fun e42 hF => ?_)
     ·
      refine op (OpS.pass rfl rfl rfl ?_)
      refine op (OpS.pass rfl rfl rfl ?_)
      refine op (OpS.pick rfl rfl rfl rfl ?_)
      refine op (OpS.mv rfl rfl rfl ?_)
      refine op (OpS.pass rfl rfl rfl ?_)
      refine op (OpS.pass rfl rfl rfl ?_)
      refine op (OpS.pass rfl rfl rfl ?_)
      refine op (OpS.pick rfl rfl rfl rfl ?_)
      refine RunL.nil ?_
      refine Run.slim [(75, .bool true), (14, u7), (12, u6), (9, u3), (2, .int .i64 a2), (3, .int .u8 a3)] ⟨rfl, rfl, rfl, rfl, rfl, rfl, trivial⟩ ?_
      refine Run.slim [(2, .int .i64 a2), (3, .int .u8 a3), (9, u3), (12, u6), (14, u7), (75, .bool true)] ⟨rfl, rfl, rfl, rfl, rfl, rfl, trivial⟩ ?_
      exact hj1 (true) _ _ ⟨rfl, (h24.facts (.atm .z .nil)).picks (.cons (.s .z) (.cons .z .nil))⟩ hF
     ·
      refine op (OpS.mv rfl rfl rfl ?_)
      refine op (OpS.onilE h24 .z (fun _ G_ S_ w_ h_ => ptr_one1 G_ S_ w_ h_) Try.underlying58 rfl rfl rfl rfl ?_)
      refine op (OpS.pick rfl rfl rfl rfl ?_)
      refine op (OpS.mv rfl rfl rfl ?_)
      refine RunL.caseb hF (fun e43 hF => ?_) (fun e43 hF => ?_)
      ·
       refine op (OpS.pass rfl rfl rfl ?_)
       refine op (OpS.pass rfl rfl rfl ?_)
       refine op (OpS.pass rfl rfl rfl ?_)
       refine op (OpS.pick rfl rfl rfl rfl ?_)
       refine RunL.nil ?_
       refine Run.slim [(75, .bool true), (14, u7), (12, u6), (9, u3), (2, .int .i64 a2), (3, .int .u8 a3)] ⟨rfl, rfl, rfl, rfl, rfl, rfl, trivial⟩ ?_
       refine Run.slim [(2, .int .i64 a2), (3, .int .u8 a3), (9, u3), (12, u6), (14, u7), (75, .bool true)] ⟨rfl, rfl, rfl, rfl, rfl, rfl, trivial⟩ ?_
       exact hj1 (true) _ _ ⟨rfl, (h24.facts (.atm .z .nil)).picks (.cons (.s .z) (.cons .z .nil))⟩ hF
      ·
       refine op (OpS.mv rfl rfl rfl ?_)
       refine op (OpS.len h24 Try.underlying55 rfl rfl rfl (V.at .z) ?_)
       refine op (OpS.bin rfl rfl rfl rfl rfl ?_)
       refine op (OpS.pick rfl rfl rfl rfl ?_)
       refine RunL.nil ?_
       refine Run.slim [(75, .bool ((y7.1.length : Int) == 0)), (14, u7), (12, u6), (9, u3), (2, .int .i64 a2), (3, .int .u8 a3)] ⟨rfl, rfl, rfl, rfl, rfl, rfl, trivial⟩ ?_
       refine Run.slim [(2, .int .i64 a2), (3, .int .u8 a3), (9, u3), (12, u6), (14, u7), (75, .bool ((y7.1.length : Int) == 0))] ⟨rfl, rfl, rfl, rfl, rfl, rfl, trivial⟩ ?_
       exact hj1 ((y7.1.length : Int) == 0) _ _ ⟨rfl, (h24.facts (.atm .z .nil)).picks (.cons (.s .z) (.cons .z .nil))⟩ hF
end Lift
