/- Each Go function computes its plain function. Written by lift.py. -/
import Derived.Test.YtgfioeiebfponaaTransferAnswersWalksB
set_option linter.unusedVariables false
set_option linter.unusedSimpArgs false
namespace Lift
open Go Go.Proofs
open RunL (op)
set_option maxHeartbeats 8000000 in
theorem law30_TransferAnswers_ok {fuel : Nat} {a0 : List Int} {a1 : Download_} {a2 : List Int} {a3 : Int} {a4 : Int} {a5 : Int} {a6 : Int} {y : Bool} (hF : law30_TransferAnswers fuel a0 a1 a2 a3 a4 a5 a6 = some y) {w : World} {v0 v1 v2 : Value} :
  Spec Try.prog 6 [v0, v1, v2, .int .i64 a3, .int .i64 a4, .int .i64 a5, .int .i64 a6].toArray w [(false, .val (Rep.slice (Rep.int .u8)) v0 a0), (false, .val Download_.rep v1 a1), (false, .val (Rep.slice (Rep.int .u8)) v2 a2)] [] (fun v Γr Ωr Ωo => v = .bool y ∧ Γr = [] ∧ Ωr = [] ∧ Ωo = []) := by
 refine Spec.of (L := [(0, v0), (1, v1), (2, v2), (3, .int .i64 a3), (4, .int .i64 a4), (5, .int .i64 a5), (6, .int .i64 a6)]) Try.func6 rfl ⟨rfl, rfl, rfl, rfl, rfl, rfl, rfl, trivial⟩ rfl (fun e h => ?_)
 unfold law30_TransferAnswers at hF
 refine Run.seq ?_
 refine Run.reg ?_
 refine op (OpS.boxF h rfl rfl rfl (V.at (.s .z)) (fun u1 w1 h1 => ?_))
 refine op (OpS.as rfl rfl rfl ?_)
 refine RunL.nil ?_
 refine Run.slim [(8, u1), (0, v0), (2, v2), (3, .int .i64 a3), (4, .int .i64 a4), (5, .int .i64 a5), (6, .int .i64 a6)] ⟨rfl, rfl, rfl, rfl, rfl, rfl, rfl, trivial⟩ ?_
 refine Run.seq ?_
 refine Run.seq ?_
 refine Run.reg ?_
 obtain ⟨y1, e1, hF⟩ := bindP_use hF
 refine op (OpS.callP h1 Try.func8 rfl rfl rfl rfl (vs := []) rfl (law30_awake_ok e1) .nil ?_)
 rintro _ w2 _ _ _ ⟨rfl, rfl, rfl, rfl⟩ h2
 have h3 := h2 rfl rfl
 simp only [List.cons_append, List.nil_append] at h3
 refine op (OpS.not rfl rfl rfl ?_)
 refine RunL.nil ?_
 refine Run.slim [(36, .bool (!y1)), (8, u1), (0, v0), (2, v2), (3, .int .i64 a3), (4, .int .i64 a4), (5, .int .i64 a5), (6, .int .i64 a6)] ⟨rfl, rfl, rfl, rfl, rfl, rfl, rfl, rfl, trivial⟩ ?_
 refine Run.ite rfl hF (fun e2 hF => ?_) (fun e2 hF => ?_)
 ·
  refine Run.seq ?_
  refine Run.reg ?_
  refine op (OpS.as rfl rfl rfl ?_)
  refine RunL.nil ?_
  refine Run.slim [(14, .bool false)] ⟨rfl, trivial⟩ ?_
  refine Run.retP rfl (.tmp rfl .nil) ?_
  cases hF
  exact Post.mk' ⟨rfl, rfl, rfl, rfl⟩ (h3.picks .nil) .nil
 ·
  refine Run.skip ?_
  refine Run.seq ?_
  refine Run.seq ?_
  refine Run.reg ?_
  refine op (OpS.fbox (o3 := 2) h3 .z PA.z fa28_2 rfl rfl rfl rfl ?_)
  refine op (OpS.loadB h3 .z PA.a (Get.fld Download_.f2) ty26 rfl rfl rfl (fun u2 h4 => ?_))
  refine op (OpS.len h4 Try.underlying26 rfl rfl rfl (V.at .z) ?_)
  refine op (OpS.bin rfl rfl rfl rfl rfl ?_)
  refine op (OpS.mv rfl rfl rfl ?_)
  refine RunL.join (σ := Bool) (fun s_ L_ w_ => L_ = [(0, v0), (2, v2), (3, .int .i64 a3), (4, .int .i64 a4), (5, .int .i64 a5), (6, .int .i64 a6), (8, u1), (51, .bool s_)] ∧ St e w_ [(false, .val (Rep.slice (Rep.int .u8)) v0 a0), (false, .val (Rep.slice (Rep.int .u8)) v2 a2)] [(false, .box 28 Download_.rep u1 a1)]) hF (fun s1 _ w3 hI hF => ?_) (fun j1 hj1 hF => ?_)
  ·
   obtain ⟨rfl, h5⟩ := hI
   refine Run.ite rfl hF (fun e3 hF => ?_) (fun e3 hF => ?_)
   ·
    refine Run.seq ?_
    refine Run.reg ?_
    refine op (OpS.as rfl rfl rfl ?_)
    refine RunL.nil ?_
    refine Run.slim [(14, .bool true)] ⟨rfl, trivial⟩ ?_
    refine Run.retP rfl (.tmp rfl .nil) ?_
    cases hF
    exact Post.mk' ⟨rfl, rfl, rfl, rfl⟩ (h5.picks .nil) .nil
   ·
    refine Run.skip ?_
    refine Run.seq ?_
    refine Run.reg ?_
    refine op (OpS.mv rfl rfl rfl ?_)
    refine op (OpS.mv rfl rfl rfl ?_)
    obtain ⟨y2, e4, hF⟩ := bindP_use hF
    refine op (OpS.callP h5 Try.func13 rfl rfl rfl rfl (vs := [.int .i64 a3, .int .i64 a4]) rfl (transfer_New_ok e4) .nil ?_)
    rintro _ w4 _ _ _ ⟨u3, rfl, rfl, rfl, rfl⟩ h6
    have h7 := h6 rfl rfl
    simp only [List.cons_append, List.nil_append] at h7
    refine op (OpS.mv rfl rfl rfl ?_)
    refine op (OpS.ext rfl rfl rfl rfl ?_)
    refine op (OpS.ext rfl rfl rfl rfl ?_)
    refine op (OpS.alloc h7 ti28 Download_.zr rfl rfl (fun u4 w5 h8 => ?_))
    refine op (OpS.storeB (f' := true) h8 .z PA.z Put.id ty28 rfl rfl rfl (V.at .z) (.inl rfl) (fun w6 h9 => ?_))
    refine op (OpS.as rfl rfl rfl ?_)
    refine RunL.nil ?_
    refine Run.slim [(16, .int .i64 y2.2), (15, u4), (0, v0), (2, v2), (3, .int .i64 a3), (4, .int .i64 a4), (5, .int .i64 a5), (6, .int .i64 a6), (8, u1)] ⟨rfl, rfl, rfl, rfl, rfl, rfl, rfl, rfl, rfl, trivial⟩ ?_
    refine Run.seq ?_
    refine Run.reg ?_
    refine op (OpS.mv rfl rfl rfl ?_)
    refine op (OpS.mv rfl rfl rfl ?_)
    obtain ⟨y3, e5, hF⟩ := bindP_use hF
    refine op (OpS.callP h9 Try.func16 rfl rfl rfl rfl (vs := [.int .i64 a3, .int .i64 a4]) rfl (ref30_New_ok e5) .nil ?_)
    rintro _ w7 _ _ _ ⟨u5, rfl, rfl, rfl, rfl⟩ h10
    have h11 := h10 rfl rfl
    simp only [List.cons_append, List.nil_append] at h11
    refine op (OpS.mv rfl rfl rfl ?_)
    refine op (OpS.ext rfl rfl rfl rfl ?_)
    refine op (OpS.ext rfl rfl rfl rfl ?_)
    refine op (OpS.alloc h11 ti28 Download_.zr rfl rfl (fun u6 w8 h12 => ?_))
    refine op (OpS.storeB (f' := true) h12 .z PA.z Put.id ty28 rfl rfl rfl (V.at .z) (.inl rfl) (fun w9 h13 => ?_))
    refine op (OpS.as rfl rfl rfl ?_)
    refine RunL.nil ?_
    refine Run.slim [(18, .int .i64 y3.2), (17, u6), (16, .int .i64 y2.2), (15, u4), (0, v0), (2, v2), (5, .int .i64 a5), (6, .int .i64 a6), (8, u1)] ⟨rfl, rfl, rfl, rfl, rfl, rfl, rfl, rfl, rfl, trivial⟩ ?_
    refine Run.seq ?_
    refine Run.seq ?_
    refine Run.reg ?_
    refine op (OpS.mv rfl rfl rfl ?_)
    refine op (OpS.mv rfl rfl rfl ?_)
    refine op (OpS.bin rfl rfl rfl rfl rfl ?_)
    refine op (OpS.mv rfl rfl rfl ?_)
    refine RunL.join (σ := Bool) (fun s_ L_ w_ => L_ = [(0, v0), (2, v2), (5, .int .i64 a5), (6, .int .i64 a6), (8, u1), (72, .bool s_)] ∧ St e w_ [(false, .val (Rep.slice (Rep.int .u8)) v0 a0), (false, .val (Rep.slice (Rep.int .u8)) v2 a2)] [(false, .box 28 Download_.rep u1 a1)]) hF (fun s2 _ w10 hI hF => ?_) (fun j2 hj2 hF => ?_)
    ·
     obtain ⟨rfl, h14⟩ := hI
     refine Run.ite rfl hF (fun e6 hF => ?_) (fun e6 hF => ?_)
     ·
      refine Run.seq ?_
      refine Run.reg ?_
      refine op (OpS.as rfl rfl rfl ?_)
      refine RunL.nil ?_
      refine Run.slim [(14, .bool false)] ⟨rfl, trivial⟩ ?_
      refine Run.retP rfl (.tmp rfl .nil) ?_
      cases hF
      exact Post.mk' ⟨rfl, rfl, rfl, rfl⟩ (h14.picks .nil) .nil
     ·
      refine Run.skip ?_
      refine Run.seq ?_
      refine Run.reg ?_
      refine op (OpS.mv rfl rfl rfl ?_)
      obtain ⟨y4, e7, hF⟩ := bindP_use hF
      have h15 := h14.front .nil
      refine op (OpS.callO h15 Try.func9 rfl rfl rfl rfl (vs := [v0, .int .i64 200]) rfl (field_New_ok e7) rfl (.cons (f := false) (V.at .z) .nil) ?_)
      rintro u7 w11 _ _ _ ⟨_, rfl, rfl, rfl, rfl⟩ h16
      have h17 := h16
      simp only [List.cons_append, List.nil_append] at h17
      refine op (OpS.as rfl rfl rfl ?_)
      refine RunL.nil ?_
      refine Run.slim [(19, u7), (2, v2), (5, .int .i64 a5), (6, .int .i64 a6), (8, u1)] ⟨rfl, rfl, rfl, rfl, rfl, trivial⟩ ?_
      refine Run.seq ?_
      refine Run.reg ?_
      refine op (OpS.mv rfl rfl rfl ?_)
      obtain ⟨y5, e8, hF⟩ := bindP_use hF
      have h18 := h17.front (.cons .z .nil)
      refine op (OpS.callO h18 Try.func10 rfl rfl rfl rfl (vs := [u7]) rfl (law30_play_ok e8) rfl .nil ?_)
      rintro u8 w12 _ _ _ ⟨_, rfl, rfl, rfl, rfl⟩ h19
      have h20 := h19
      simp only [List.cons_append, List.nil_append] at h20
      refine op (OpS.alloc h20 ti28 Download_.zr rfl rfl (fun u9 w13 h21 => ?_))
      have h22 := (h21.pick .z).weak
      refine op (OpS.storeB (f' := false) h22 .z PA.z Put.id ty28 rfl rfl rfl (V.at .z) (.inr rfl) (fun w14 h23 => ?_))
      refine RunL.nil ?_
      refine Run.slim [(20, u9), (19, u7), (2, v2), (5, .int .i64 a5), (6, .int .i64 a6), (8, u1)] ⟨rfl, rfl, rfl, rfl, rfl, rfl, trivial⟩ ?_
      refine Run.seq ?_
      refine Run.reg ?_
      refine op (OpS.loadB h23 .z PA.z Get.id ty28 rfl rfl rfl (fun u10 h24 => ?_))
      obtain ⟨y6, e9, hF⟩ := bindP_use hF
      refine op (OpS.callP h24 Try.func17 rfl rfl rfl rfl (vs := [u10]) rfl (ref30_Copy_ok e9) (.cons (f := false) (V.at .z) .nil) ?_)
      rintro u11 w15 _ _ _ ⟨_, u12, u13, rfl, rfl, rfl, rfl⟩ h25
      have h26 := h25 rfl rfl
      simp only [List.cons_append, List.nil_append] at h26
      have h27 := St.nil 5 (Rep.int .u8) h26
      refine op (OpS.alloc (r := (Rep.iso (fun s : Download_ => (s.Size, s.Part, s.Have, s.Data, ())) (Rep.prod (Rep.int .i64) (Rep.prod (Rep.int .i64) (Rep.prod (Rep.slice Rep.bool) (Rep.prod (Rep.raw (.slice none 0 0)) Rep.unit)))))) h27 ti28 (Zr.iso (y := Download_.z) _ (Zr.of (Zr.prod (Zr.int .i64 0) (Zr.prod (Zr.int .i64 0) (Zr.prod (Zr.slice Rep.bool) (Zr.prod (Zr.raw rfl _) Zr.unit)))) (by rfl))) rfl rfl (fun u14 w16 h28 => ?_))
      refine op (OpS.storeC (f' := true) (fr := (Rep.iso (fun s : Download_ => (s.Size, s.Part, s.Have, s.Data, ())) (Rep.prod (Rep.int .i64) (Rep.prod (Rep.int .i64) (Rep.prod (Rep.raw u12) (Rep.prod (Rep.raw u13) Rep.unit)))))) (r' := (Rep.iso (fun s : Download_ => (s.Size, s.Part, s.Have, s.Data, ())) (Rep.prod (Rep.int .i64) (Rep.prod (Rep.int .i64) (Rep.prod (Rep.raw u12) (Rep.prod (Rep.raw u13) Rep.unit)))))) (x' := y6) h28 .z PA.z (Chg.id (by rfl)) (Ty.like ty28 (by rfl) (by rfl)) rfl rfl rfl (V.at .z) (.inl rfl) (fun w17 h29 => ?_))
      refine RunL.nil ?_
      refine Run.slim [(21, u14), (20, u9), (19, u7), (2, v2), (5, .int .i64 a5), (6, .int .i64 a6), (8, u1)] ⟨rfl, rfl, rfl, rfl, rfl, rfl, rfl, trivial⟩ ?_
      refine Run.seq ?_
      refine Run.seq ?_
      refine Run.reg ?_
      refine op (OpS.mv rfl rfl rfl ?_)
      obtain ⟨y7, e10, hF⟩ := bindP_use hF
      have h30 := h29.front (.cons (.s (.s (.s (.s (.s .z))))) .nil)
      refine op (OpS.callO h30 Try.func18 rfl rfl rfl rfl (vs := [u7, .int .i64 4]) rfl (field_Codes_Next_ok e10) rfl .nil ?_)
      rintro _ w18 _ _ _ ⟨rfl, rfl, rfl, rfl⟩ h31
      have h32 := h31
      simp only [List.cons_append, List.nil_append] at h32
      refine RunL.nil ?_
      refine Run.slim [(80, .int .i64 y7.1), (21, u14), (20, u9), (19, u7), (2, v2), (5, .int .i64 a5), (6, .int .i64 a6), (8, u1)] ⟨rfl, rfl, rfl, rfl, rfl, rfl, rfl, rfl, trivial⟩ ?_
      refine Run.block ?_
      refine Run.seq ?_
      refine Run.reg ?_
      refine op (OpS.bin rfl rfl rfl rfl rfl ?_)
      refine op (OpS.as rfl rfl rfl ?_)
      obtain ⟨x1, e11, hF⟩ := letP_use hF
      refine RunL.nameb e11 ?_
      refine RunL.nil ?_
      refine Run.slim [(81, .bool x1), (80, .int .i64 y7.1), (21, u14), (20, u9), (19, u7), (2, v2), (5, .int .i64 a5), (6, .int .i64 a6), (8, u1)] ⟨rfl, rfl, rfl, rfl, rfl, rfl, rfl, rfl, rfl, trivial⟩ ?_
      refine Run.join (σ := (field_Codes × Download_)) (fun s_ L_ w_ => L_ = [(2, v2), (5, .int .i64 a5), (6, .int .i64 a6), (8, u1), (19, u7), (20, u9), (21, u14)] ∧ St e w_ [(false, .val (Rep.slice (Rep.int .u8)) v2 a2)] [(false, .box 28 Download_.rep u1 a1), (false, .box 51 field_Codes.rep u7 s_.1), (false, .box 28 Download_.rep u9 y5.1), (true, .box 28 Download_.rep u14 s_.2)]) hF (fun s3 _ w19 hI hF => ?_) (fun j3 hj3 hF => ?_)
      ·
       obtain ⟨rfl, h33⟩ := hI
       refine Run.endBlock ?_
       refine Run.seq ?_
       refine Run.seq ?_
       refine Run.reg ?_
       refine op (OpS.loadB h33 (.s (.s .z)) PA.z Get.id ty28 rfl rfl rfl (fun u15 h34 => ?_))
       refine op (OpS.loadB h34 (.s (.s (.s .z))) PA.z Get.id ty28 rfl rfl rfl (fun u16 h35 => ?_))
       refine op (OpS.loadB h35 .z PA.z Get.id ty28 rfl rfl rfl (fun u17 h36 => ?_))
       refine op (OpS.lit (r := Download_.rep) (f := false) h36 Try.underlying44 ti28 rfl rfl rfl rfl rfl (.cons rfl (V.at (.s (.s .z))) (.cons rfl (V.weak (V.at (.s .z))) (.cons rfl (V.at .z) .nil))) rfl rfl (fun u18 w20 h37 => ?_))
       refine op (OpS.len h37 Try.underlying44 rfl rfl rfl (V.at .z) ?_)
       refine op (OpS.mv rfl rfl rfl ?_)
       refine RunL.nil ?_
       refine Run.slim [(121, .int .i64 0), (120, .int .i64 (([y5.1, s3.2, a1]).length : Int)), (119, u18), (2, v2), (5, .int .i64 a5), (6, .int .i64 a6), (19, u7), (20, u9)] ⟨rfl, rfl, rfl, rfl, rfl, rfl, rfl, rfl, trivial⟩ ?_
       refine Run.block ?_
       refine Run.slim [(2, v2), (5, .int .i64 a5), (6, .int .i64 a6), (19, u7), (20, u9), (119, u18), (120, .int .i64 (([y5.1, s3.2, a1]).length : Int)), (121, .int .i64 0)] ⟨rfl, rfl, rfl, rfl, rfl, rfl, rfl, rfl, trivial⟩ ?_
       refine Run.loopP (σ := (Int × field_Codes)) (fun s_ L_ w_ => L_ = [(2, v2), (5, .int .i64 a5), (6, .int .i64 a6), (19, u7), (20, u9), (119, u18), (120, .int .i64 (([y5.1, s3.2, a1]).length : Int)), (121, .int .i64 s_.1)] ∧ St e w_ [(false, .val (Rep.slice (Rep.int .u8)) v2 a2), (false, .val (Rep.slice Download_.rep) u18 ([y5.1, s3.2, a1]))] [(false, .box 51 field_Codes.rep u7 s_.2), (false, .box 28 Download_.rep u9 y5.1)]) hF ⟨rfl, (h37.facts (.atm (.s (.s (.s (.s .z)))) (.atm .z .nil))).picks (.cons (.s .z) (.cons (.s .z) .nil))⟩ (fun k1 hk1 s4 _ w21 hI hF => ?_)
       obtain ⟨rfl, h38⟩ := hI
       refine Run.seq ?_
       refine Run.reg ?_
       refine op (OpS.bin rfl rfl rfl rfl rfl ?_)
       refine RunL.nil ?_
       refine Run.seq ?_
       refine Run.ite rfl hF (fun e12 hF => ?_) (fun e12 hF => ?_)
       ·
        refine Run.skip ?_
        refine Run.seq ?_
        refine Run.block ?_
        refine Run.seq ?_
        refine Run.reg ?_
        obtain ⟨x2, e13, hF⟩ := bindP_use hF
        refine op (OpS.iptr h38 Try.underlying44 ty28 rfl rfl rfl rfl (V.at (.s .z)) e13 (fun u19 h39 => ?_))
        refine op (OpS.load h39 ty28 rfl rfl rfl .z (fun u20 h40 => ?_))
        refine op (OpS.alloc h40 ti28 Download_.zr rfl rfl (fun u21 w22 h41 => ?_))
        have h42 := (h41.pick .z).weak
        refine op (OpS.storeB (f' := false) h42 .z PA.z Put.id ty28 rfl rfl rfl (V.at .z) (.inr rfl) (fun w23 h43 => ?_))
        refine RunL.nil ?_
        refine Run.slim [(23, u21), (2, v2), (5, .int .i64 a5), (6, .int .i64 a6), (19, u7), (20, u9), (119, u18), (120, .int .i64 (([y5.1, s3.2, a1]).length : Int)), (121, .int .i64 s4.1)] ⟨rfl, rfl, rfl, rfl, rfl, rfl, rfl, rfl, rfl, trivial⟩ ?_
        refine Run.seq ?_
        refine Run.reg ?_
        refine op (OpS.mv rfl rfl rfl ?_)
        refine op (OpS.fbox (o3 := 2) h43 (.s (.s .z)) PA.z fa28_2 rfl rfl rfl rfl ?_)
        refine op (OpS.loadB h43 (.s (.s .z)) PA.a (Get.fld Download_.f2) ty26 rfl rfl rfl (fun u22 h44 => ?_))
        refine op (OpS.len h44 Try.underlying26 rfl rfl rfl (V.at .z) ?_)
        refine op (OpS.bin rfl rfl rfl rfl rfl ?_)
        obtain ⟨y8, e14, hF⟩ := bindP_use hF
        have h45 := h44.front (.cons (.s .z) .nil)
        refine op (OpS.callO h45 Try.func18 rfl rfl rfl rfl (vs := [u7, .int .i64 (IntKind.i64.wrap ((y5.1.Have.length : Int) + 1))]) rfl (field_Codes_Next_ok e14) rfl .nil ?_)
        rintro _ w24 _ _ _ ⟨rfl, rfl, rfl, rfl⟩ h46
        have h47 := h46
        simp only [List.cons_append, List.nil_append] at h47
        refine op (OpS.mv rfl rfl rfl ?_)
        refine op (OpS.as rfl rfl rfl ?_)
        refine op (OpS.as rfl rfl rfl ?_)
        refine RunL.nil ?_
        refine Run.slim [(25, v2), (24, .int .i64 y8.1), (23, u21), (2, v2), (5, .int .i64 a5), (6, .int .i64 a6), (19, u7), (20, u9), (119, u18), (120, .int .i64 (([y5.1, s3.2, a1]).length : Int)), (121, .int .i64 s4.1)] ⟨rfl, rfl, rfl, rfl, rfl, rfl, rfl, rfl, rfl, rfl, rfl, trivial⟩ ?_
        refine Run.seq ?_
        refine Run.seq ?_
        refine Run.reg ?_
        refine op (OpS.mv rfl rfl rfl ?_)
        obtain ⟨y9, e15, hF⟩ := bindP_use hF
        have h48 := h47.front (.cons .z .nil)
        refine op (OpS.callO h48 Try.func18 rfl rfl rfl rfl (vs := [u7, .int .i64 4]) rfl (field_Codes_Next_ok e15) rfl .nil ?_)
        rintro _ w25 _ _ _ ⟨rfl, rfl, rfl, rfl⟩ h49
        have h50 := h49
        simp only [List.cons_append, List.nil_append] at h50
        refine op (OpS.bin rfl rfl rfl rfl rfl ?_)
        refine RunL.nil ?_
        refine Run.slim [(134, .bool (decide (y9.1 > 0))), (25, v2), (24, .int .i64 y8.1), (23, u21), (2, v2), (5, .int .i64 a5), (6, .int .i64 a6), (19, u7), (20, u9), (119, u18), (120, .int .i64 (([y5.1, s3.2, a1]).length : Int)), (121, .int .i64 s4.1)] ⟨rfl, rfl, rfl, rfl, rfl, rfl, rfl, rfl, rfl, rfl, rfl, rfl, trivial⟩ ?_
        refine Run.join (σ := ((List Int) × field_Codes)) (fun s_ L_ w_ => ∃ u0_ : Value, L_ = [(2, v2), (5, .int .i64 a5), (6, .int .i64 a6), (19, u7), (20, u9), (23, u21), (24, .int .i64 y8.1), (25, u0_), (119, u18), (120, .int .i64 (([y5.1, s3.2, a1]).length : Int)), (121, .int .i64 s4.1)] ∧ St e w_ [(false, .val (Rep.slice (Rep.int .u8)) v2 a2), (false, .val (Rep.slice Download_.rep) u18 ([y5.1, s3.2, a1])), (false, .val (Rep.slice (Rep.int .u8)) u0_ s_.1)] [(false, .box 51 field_Codes.rep u7 s_.2), (false, .box 28 Download_.rep u9 y5.1), (false, .box 28 Download_.rep u21 x2)]) hF (fun s5 _ w26 hI hF => ?_) (fun j4 hj4 hF => ?_)
        ·
         obtain ⟨u23, rfl, h51⟩ := hI
         refine Run.seq ?_
         refine Run.seq ?_
         refine Run.reg ?_
         refine op (OpS.mv rfl rfl rfl ?_)
         obtain ⟨y10, e16, hF⟩ := bindP_use hF
         have h52 := h51.front (.cons .z .nil)
         refine op (OpS.callO h52 Try.func18 rfl rfl rfl rfl (vs := [u7, .int .i64 6]) rfl (field_Codes_Next_ok e16) rfl .nil ?_)
         rintro _ w27 _ _ _ ⟨rfl, rfl, rfl, rfl⟩ h53
         have h54 := h53
         simp only [List.cons_append, List.nil_append] at h54
         refine op (OpS.bin rfl rfl rfl rfl rfl ?_)
         refine RunL.nil ?_
         refine Run.slim [(161, .bool (y10.1 == 5)), (2, v2), (5, .int .i64 a5), (6, .int .i64 a6), (19, u7), (20, u9), (23, u21), (24, .int .i64 y8.1), (25, u23), (119, u18), (120, .int .i64 (([y5.1, s3.2, a1]).length : Int)), (121, .int .i64 s4.1)] ⟨rfl, rfl, rfl, rfl, rfl, rfl, rfl, rfl, rfl, rfl, rfl, rfl, trivial⟩ ?_
         refine Run.join (σ := Int) (fun s_ L_ w_ => L_ = [(2, v2), (5, .int .i64 a5), (6, .int .i64 a6), (19, u7), (20, u9), (23, u21), (24, .int .i64 s_), (25, u23), (119, u18), (120, .int .i64 (([y5.1, s3.2, a1]).length : Int)), (121, .int .i64 s4.1)] ∧ St e w_ [(false, .val (Rep.slice (Rep.int .u8)) v2 a2), (false, .val (Rep.slice (Rep.int .u8)) u23 s5.1), (false, .val (Rep.slice Download_.rep) u18 ([y5.1, s3.2, a1]))] [(false, .box 51 field_Codes.rep u7 y10.2), (false, .box 28 Download_.rep u9 y5.1), (false, .box 28 Download_.rep u21 x2)]) hF (fun s6 _ w28 hI hF => ?_) (fun j5 hj5 hF => ?_)
         ·
          obtain ⟨rfl, h55⟩ := hI
          refine Run.seq ?_
          refine Run.reg ?_
          refine op (OpS.loadB h55 (.s (.s .z)) PA.z Get.id ty28 rfl rfl rfl (fun u24 h56 => ?_))
          refine op (OpS.mv rfl rfl rfl ?_)
          refine op (OpS.mv rfl rfl rfl ?_)
          obtain ⟨y11, e17, hF⟩ := bindP_use hF
          refine op (OpS.callP h56 Try.func11 rfl rfl rfl rfl (vs := [u24, .int .i64 s6, u23]) rfl (transfer_Accept_ok e17) (.cons (f := false) (V.at .z) (.cons (f := false) (V.at (.s (.s .z))) .nil)) ?_)
          rintro _ w29 _ _ _ ⟨u25, rfl, rfl, rfl, rfl⟩ h57
          have h58 := h57 rfl rfl
          simp only [List.cons_append, List.nil_append] at h58
          refine op (OpS.mv rfl rfl rfl ?_)
          refine op (OpS.ext rfl rfl rfl rfl ?_)
          refine op (OpS.ext rfl rfl rfl rfl ?_)
          refine op (OpS.alloc h58 ti28 Download_.zr rfl rfl (fun u26 w30 h59 => ?_))
          refine op (OpS.storeB (f' := true) h59 .z PA.z Put.id ty28 rfl rfl rfl (V.at .z) (.inl rfl) (fun w31 h60 => ?_))
          refine op (OpS.as rfl rfl rfl ?_)
          refine RunL.nil ?_
          refine Run.slim [(28, .int .i64 y11.2), (27, u26), (2, v2), (5, .int .i64 a5), (6, .int .i64 a6), (19, u7), (20, u9), (23, u21), (24, .int .i64 s6), (25, u23), (119, u18), (120, .int .i64 (([y5.1, s3.2, a1]).length : Int)), (121, .int .i64 s4.1)] ⟨rfl, rfl, rfl, rfl, rfl, rfl, rfl, rfl, rfl, rfl, rfl, rfl, rfl, trivial⟩ ?_
          refine Run.seq ?_
          refine Run.reg ?_
          refine op (OpS.loadB h60 (.s (.s (.s .z))) PA.z Get.id ty28 rfl rfl rfl (fun u27 h61 => ?_))
          refine op (OpS.mv rfl rfl rfl ?_)
          refine op (OpS.mv rfl rfl rfl ?_)
          obtain ⟨y12, e18, hF⟩ := bindP_use hF
          have h62 := h61.front .nil
          refine op (OpS.callO h62 Try.func19 rfl rfl rfl rfl (vs := [u27, .int .i64 s6, u23]) rfl (ref30_Accept_ok e18) rfl (.cons (f := false) (V.at .z) (.cons (f := false) (V.at (.s (.s (.s (.s .z))))) .nil)) ?_)
          rintro _ w32 _ _ _ ⟨u28, rfl, rfl, rfl, rfl⟩ h63
          have h64 := h63
          simp only [List.cons_append, List.nil_append] at h64
          refine op (OpS.mv rfl rfl rfl ?_)
          refine op (OpS.ext rfl rfl rfl rfl ?_)
          refine op (OpS.ext rfl rfl rfl rfl ?_)
          refine op (OpS.alloc h64 ti28 Download_.zr rfl rfl (fun u29 w33 h65 => ?_))
          have h66 := (h65.pick .z).weak
          refine op (OpS.storeB (f' := false) h66 .z PA.z Put.id ty28 rfl rfl rfl (V.at .z) (.inr rfl) (fun w34 h67 => ?_))
          refine op (OpS.as rfl rfl rfl ?_)
          refine RunL.nil ?_
          refine Run.slim [(30, .int .i64 y12.2), (29, u29), (28, .int .i64 y11.2), (27, u26), (2, v2), (5, .int .i64 a5), (6, .int .i64 a6), (19, u7), (20, u9), (23, u21), (119, u18), (120, .int .i64 (([y5.1, s3.2, a1]).length : Int)), (121, .int .i64 s4.1)] ⟨rfl, rfl, rfl, rfl, rfl, rfl, rfl, rfl, rfl, rfl, rfl, rfl, rfl, trivial⟩ ?_
          refine Run.seq ?_
          refine Run.reg ?_
          refine op (OpS.loadB h67 (.s (.s (.s (.s .z)))) PA.z Get.id ty28 rfl rfl rfl (fun u30 h68 => ?_))
          obtain ⟨y13, e19, hF⟩ := bindP_use hF
          refine op (OpS.callP h68 Try.func20 rfl rfl rfl rfl (vs := [u30]) rfl (transfer_Bytes_ok e19) (.cons (f := false) (V.at .z) .nil) ?_)
          rintro _ w35 _ _ _ ⟨u31, rfl, rfl, rfl, rfl⟩ h69
          have h70 := h69 rfl rfl
          simp only [List.cons_append, List.nil_append] at h70
          refine op (OpS.mv rfl rfl rfl ?_)
          refine op (OpS.ext rfl rfl rfl rfl ?_)
          refine op (OpS.ext rfl rfl rfl rfl ?_)
          refine op (OpS.as rfl rfl rfl ?_)
          have h71 := (h70.pick .z).freeze
          refine op (OpS.as rfl rfl rfl ?_)
          refine RunL.nil ?_
          refine Run.slim [(32, .int .i64 y13.2), (31, u31), (30, .int .i64 y12.2), (29, u29), (28, .int .i64 y11.2), (27, u26), (2, v2), (5, .int .i64 a5), (6, .int .i64 a6), (19, u7), (20, u9), (23, u21), (119, u18), (120, .int .i64 (([y5.1, s3.2, a1]).length : Int)), (121, .int .i64 s4.1)] ⟨rfl, rfl, rfl, rfl, rfl, rfl, rfl, rfl, rfl, rfl, rfl, rfl, rfl, rfl, rfl, trivial⟩ ?_
          refine Run.seq ?_
          refine Run.reg ?_
          refine op (OpS.loadB h71 (.s (.s (.s (.s .z)))) PA.z Get.id ty28 rfl rfl rfl (fun u32 h72 => ?_))
          obtain ⟨y14, e20, hF⟩ := bindP_use hF
          refine op (OpS.callP h72 Try.func21 rfl rfl rfl rfl (vs := [u32]) rfl (ref30_Bytes_ok e20) (.cons (f := false) (V.at .z) .nil) ?_)
          rintro _ w36 _ _ _ ⟨u33, rfl, rfl, rfl, rfl⟩ h73
          have h74 := h73 rfl rfl
          simp only [List.cons_append, List.nil_append] at h74
          refine op (OpS.mv rfl rfl rfl ?_)
          refine op (OpS.ext rfl rfl rfl rfl ?_)
          refine op (OpS.ext rfl rfl rfl rfl ?_)
          refine op (OpS.as rfl rfl rfl ?_)
          have h75 := (h74.pick .z).freeze
          refine op (OpS.as rfl rfl rfl ?_)
          refine RunL.nil ?_
          refine Run.slim [(34, .int .i64 y14.2), (33, u33), (32, .int .i64 y13.2), (31, u31), (30, .int .i64 y12.2), (29, u29), (28, .int .i64 y11.2), (27, u26), (2, v2), (5, .int .i64 a5), (6, .int .i64 a6), (19, u7), (20, u9), (23, u21), (119, u18), (120, .int .i64 (([y5.1, s3.2, a1]).length : Int)), (121, .int .i64 s4.1)] ⟨rfl, rfl, rfl, rfl, rfl, rfl, rfl, rfl, rfl, rfl, rfl, rfl, rfl, rfl, rfl, rfl, rfl, trivial⟩ ?_
          refine Run.seq ?_
          refine Run.join (σ := Bool) (fun s_ L_ w_ => L_ = [(2, v2), (5, .int .i64 a5), (6, .int .i64 a6), (19, u7), (20, u9), (119, u18), (120, .int .i64 (([y5.1, s3.2, a1]).length : Int)), (121, .int .i64 s4.1), (231, .bool s_)] ∧ St e w_ [(false, .val (Rep.slice (Rep.int .u8)) v2 a2), (false, .val (Rep.slice Download_.rep) u18 ([y5.1, s3.2, a1]))] [(false, .box 51 field_Codes.rep u7 y10.2), (false, .box 28 Download_.rep u9 y5.1)]) hF (fun s7 _ w37 hI hF => ?_) (fun j6 hj6 hF => ?_)
          ·
           obtain ⟨rfl, h76⟩ := hI
           refine Run.ite rfl hF (fun e21 hF => ?_) (fun e21 hF => ?_)
           ·
            refine Run.seq ?_
            refine Run.reg ?_
            refine op (OpS.as rfl rfl rfl ?_)
            refine RunL.nil ?_
            refine Run.slim [(14, .bool false)] ⟨rfl, trivial⟩ ?_
            refine Run.retP rfl (.tmp rfl .nil) ?_
            cases hF
            exact Post.mk' ⟨rfl, rfl, rfl, rfl⟩ (h76.picks .nil) .nil
           ·
            refine Run.skip ?_
            refine Run.endBlock ?_
            refine Run.reg ?_
            refine op (OpS.bin rfl rfl rfl rfl rfl ?_)
            refine op (OpS.mv rfl rfl rfl ?_)
            refine RunL.nil ?_
            refine Run.slim [(121, .int .i64 (IntKind.i64.wrap (s4.1 + 1))), (2, v2), (5, .int .i64 a5), (6, .int .i64 a6), (19, u7), (20, u9), (119, u18), (120, .int .i64 (([y5.1, s3.2, a1]).length : Int))] ⟨rfl, rfl, rfl, rfl, rfl, rfl, rfl, rfl, trivial⟩ ?_
            refine Run.slim [(2, v2), (5, .int .i64 a5), (6, .int .i64 a6), (19, u7), (20, u9), (119, u18), (120, .int .i64 (([y5.1, s3.2, a1]).length : Int)), (121, .int .i64 (IntKind.i64.wrap (s4.1 + 1)))] ⟨rfl, rfl, rfl, rfl, rfl, rfl, rfl, rfl, trivial⟩ ?_
            exact hk1 ((IntKind.i64.wrap (s4.1 + 1)), y10.2) _ _ ⟨rfl, (h76.facts (.atm .z (.atm (.s .z) .nil))).picks (.cons .z (.cons .z .nil))⟩ hF
          ·
           have h77 := h75.picks (.cons .z (.cons .z (.cons (.s (.s .z)) (.cons .z (.cons .z .nil)))))
           obtain ⟨x3, e22, hF⟩ := letP_use hF
           refine iteP_use hF (fun e23 hF => ?_) (fun e23 hF => ?_)
           ·
            have hG := hF
            subst e23
            have hF := hG
            refine Run.drawV (Ωs := [(false, .box 51 field_Codes.rep u7 y10.2), (false, .box 28 Download_.rep u9 y5.1)]) [⟨some 187, some (.int .i64 y11.2), fun _ => [], fun ds_ u_ => [], [], [], none⟩, ⟨some 188, some (.int .i64 y12.2), fun _ => [], fun ds_ u_ => [], [], [], none⟩, ⟨some 189, some (.bool (y11.2 != y12.2)), fun _ => [], fun ds_ u_ => [], [], [], none⟩, ⟨some 190, some (.bool true), fun _ => [], fun ds_ u_ => [], [], [], none⟩, ⟨some 191, some undef, fun _ => [], fun _ _ => [], [], [], none⟩, ⟨some 192, some undef, fun _ => [], fun _ _ => [], [], [], none⟩, ⟨some 193, some undef, fun _ => [], fun _ _ => [], [], [], none⟩, ⟨some 194, some (.bool true), fun _ => [], fun ds_ u_ => [], [], [], none⟩, ⟨some 195, some (.bool true), fun _ => [], fun ds_ u_ => [], [], [], none⟩, ⟨some 196, some undef, fun _ => [], fun _ _ => [], [], [], none⟩, ⟨some 197, some undef, fun _ => [], fun _ _ => [], [], [], none⟩, ⟨some 198, some undef, fun _ => [], fun _ _ => [], [], [], none⟩, ⟨some 199, some undef, fun _ => [], fun _ _ => [], [], [], none⟩, ⟨some 200, some undef, fun _ => [], fun _ _ => [], [], [], none⟩, ⟨some 201, some (.bool true), fun _ => [], fun ds_ u_ => [], [], [], none⟩, ⟨some 202, some (.bool true), fun _ => [], fun ds_ u_ => [], [], [], none⟩, ⟨some 203, some undef, fun _ => [], fun _ _ => [], [], [], none⟩, ⟨some 204, some undef, fun _ => [], fun _ _ => [], [], [], none⟩, ⟨some 205, some undef, fun _ => [], fun _ _ => [], [], [], none⟩, ⟨some 206, some undef, fun _ => [], fun _ _ => [], [], [], none⟩, ⟨some 207, some (.bool true), fun _ => [], fun ds_ u_ => [], [], [], none⟩, ⟨some 208, some (.bool true), fun _ => [], fun ds_ u_ => [], [], [], none⟩, ⟨some 209, some undef, fun _ => [], fun _ _ => [], [], [], none⟩, ⟨some 210, some undef, fun _ => [], fun _ _ => [], [], [], none⟩, ⟨some 211, some undef, fun _ => [], fun _ _ => [], [], [], none⟩, ⟨some 212, some undef, fun _ => [], fun _ _ => [], [], [], none⟩, ⟨some 213, some undef, fun _ => [], fun _ _ => [], [], [], none⟩, ⟨some 214, some (.bool true), fun _ => [], fun ds_ u_ => [], [], [], none⟩, ⟨some 215, some (.bool true), fun _ => [], fun ds_ u_ => [], [], [], none⟩, ⟨some 216, some undef, fun _ => [], fun _ _ => [], [], [], none⟩, ⟨some 217, some undef, fun _ => [], fun _ _ => [], [], [], none⟩, ⟨some 218, some undef, fun _ => [], fun _ _ => [], [], [], none⟩, ⟨some 219, some undef, fun _ => [], fun _ _ => [], [], [], none⟩, ⟨some 220, some undef, fun _ => [], fun _ _ => [], [], [], none⟩, ⟨some 221, some (.bool true), fun _ => [], fun ds_ u_ => [], [], [], none⟩, ⟨some 222, some (.bool true), fun _ => [], fun ds_ u_ => [], [], [], none⟩, ⟨some 223, some undef, fun _ => [], fun _ _ => [], [], [], none⟩, ⟨some 224, some undef, fun _ => [], fun _ _ => [], [], [], none⟩, ⟨some 225, some undef, fun _ => [], fun _ _ => [], [], [], none⟩, ⟨some 226, some undef, fun _ => [], fun _ _ => [], [], [], none⟩, ⟨some 227, some undef, fun _ => [], fun _ _ => [], [], [], none⟩, ⟨some 228, some undef, fun _ => [], fun _ _ => [], [], [], none⟩, ⟨some 229, some undef, fun _ => [], fun _ _ => [], [], [], none⟩, ⟨some 230, some undef, fun _ => [], fun _ _ => [], [], [], none⟩, ⟨some 231, some (.bool true), fun _ => [], fun ds_ u_ => [], [], [], none⟩] [[], [], [0, 1], [2], [3], [3], [3], [3, 6], [7], [8], [8], [8], [8], [8], [8, 13], [14], [15], [15], [15], [15], [15, 19], [20], [21], [21], [21], [21], [21], [21, 26], [27], [28], [28], [28], [28], [28], [28, 33], [34], [35], [35], [35], [35], [35], [35], [35], [35], [35, 43]] [[(false, .box 28 Download_.rep u29 y12.1)], [(true, .box 28 Download_.rep u26 y11.1)], [(false, .box 28 Download_.rep u21 x2)]] [0, 1, 2, 3, 4, 5, 6, 7, 8, 9, 10, 11, 12, 13, 14, 15, 16, 17, 18, 19, 20, 21, 22, 23, 24, 25, 26, 27, 28, 29, 30, 31, 32, 33, 34, 35, 36, 37, 38, 39, 40, 41, 42, 43, 44, 45, 46, 47] Try_mixed rfl rfl rfl h77 (.cons ?_ (.cons ?_ (.cons ?_ (.cons ?_ (.cons ?_ (.cons ?_ (.cons ?_ (.cons ?_ (.cons ?_ (.cons ?_ (.cons ?_ (.cons ?_ (.cons ?_ (.cons ?_ (.cons ?_ (.cons ?_ (.cons ?_ (.cons ?_ (.cons ?_ (.cons ?_ (.cons ?_ (.cons ?_ (.cons ?_ (.cons ?_ (.cons ?_ (.cons ?_ (.cons ?_ (.cons ?_ (.cons ?_ (.cons ?_ (.cons ?_ (.cons ?_ (.cons ?_ (.cons ?_ (.cons ?_ (.cons ?_ (.cons ?_ (.cons ?_ (.cons ?_ (.cons ?_ (.cons ?_ (.cons ?_ (.cons ?_ (.cons ?_ (.cons ?_ .nil))))))))))))))))))))))))))))))))))))))))))))) (fun q1 w hq1 h => ?_)
            ·intro q1 w Γx Ωx h
             refine OpS.mv rfl rfl rfl ?_
             exact ⟨undef, rfl, trivial, h⟩
            ·intro q1 w Γx Ωx h
             refine OpS.mv rfl rfl rfl ?_
             exact ⟨undef, rfl, trivial, h⟩
            ·intro q1 w Γx Ωx h
             refine OpS.bin rfl rfl rfl rfl rfl ?_
             exact ⟨undef, rfl, trivial, h⟩
            ·intro q1 w Γx Ωx h
             refine OpS.mv rfl rfl rfl ?_
             exact ⟨undef, (congrArg (fun z_ => some (Value.bool z_)) e22), trivial, h⟩
            ·intro q1 w Γx Ωx h
             exact OpS.pass rfl rfl rfl ⟨undef, rfl, trivial, h⟩
            ·intro q1 w Γx Ωx h
             exact OpS.pass rfl rfl rfl ⟨undef, rfl, trivial, h⟩
            ·intro q1 w Γx Ωx h
             exact OpS.pass rfl rfl rfl ⟨undef, rfl, trivial, h⟩
            ·intro q1 w Γx Ωx h
             refine OpS.pick rfl rfl rfl rfl ?_
             exact ⟨undef, rfl, trivial, h⟩
            ·intro q1 w Γx Ωx h
             refine OpS.mv rfl rfl rfl ?_
             exact ⟨undef, rfl, trivial, h⟩
            ·intro q1 w Γx Ωx h
             exact OpS.pass rfl rfl rfl ⟨undef, rfl, trivial, h⟩
            ·intro q1 w Γx Ωx h
             exact OpS.pass rfl rfl rfl ⟨undef, rfl, trivial, h⟩
            ·intro q1 w Γx Ωx h
             exact OpS.pass rfl rfl rfl ⟨undef, rfl, trivial, h⟩
            ·intro q1 w Γx Ωx h
             exact OpS.pass rfl rfl rfl ⟨undef, rfl, trivial, h⟩
            ·intro q1 w Γx Ωx h
             exact OpS.pass rfl rfl rfl ⟨undef, rfl, trivial, h⟩
            ·intro q1 w Γx Ωx h
             refine OpS.pick rfl rfl rfl rfl ?_
             exact ⟨undef, rfl, trivial, h⟩
            ·intro q1 w Γx Ωx h
             refine OpS.mv rfl rfl rfl ?_
             exact ⟨undef, rfl, trivial, h⟩
            ·intro q1 w Γx Ωx h
             exact OpS.pass rfl rfl rfl ⟨undef, rfl, trivial, h⟩
            ·intro q1 w Γx Ωx h
             exact OpS.pass rfl rfl rfl ⟨undef, rfl, trivial, h⟩
            ·intro q1 w Γx Ωx h
             exact OpS.pass rfl rfl rfl ⟨undef, rfl, trivial, h⟩
            ·intro q1 w Γx Ωx h
             exact OpS.pass rfl rfl rfl ⟨undef, rfl, trivial, h⟩
            ·intro q1 w Γx Ωx h
             refine OpS.pick rfl rfl rfl rfl ?_
             exact ⟨undef, rfl, trivial, h⟩
            ·intro q1 w Γx Ωx h
             refine OpS.mv rfl rfl rfl ?_
             exact ⟨undef, rfl, trivial, h⟩
            ·intro q1 w Γx Ωx h
             exact OpS.pass rfl rfl rfl ⟨undef, rfl, trivial, h⟩
            ·intro q1 w Γx Ωx h
             exact OpS.pass rfl rfl rfl ⟨undef, rfl, trivial, h⟩
            ·intro q1 w Γx Ωx h
             exact OpS.pass rfl rfl rfl ⟨undef, rfl, trivial, h⟩
            ·intro q1 w Γx Ωx h
             exact OpS.pass rfl rfl rfl ⟨undef, rfl, trivial, h⟩
            ·intro q1 w Γx Ωx h
             exact OpS.pass rfl rfl rfl ⟨undef, rfl, trivial, h⟩
            ·intro q1 w Γx Ωx h
             refine OpS.pick rfl rfl rfl rfl ?_
             exact ⟨undef, rfl, trivial, h⟩
            ·intro q1 w Γx Ωx h
             refine OpS.mv rfl rfl rfl ?_
             exact ⟨undef, rfl, trivial, h⟩
            ·intro q1 w Γx Ωx h
             exact OpS.pass rfl rfl rfl ⟨undef, rfl, trivial, h⟩
            ·intro q1 w Γx Ωx h
             exact OpS.pass rfl rfl rfl ⟨undef, rfl, trivial, h⟩
            ·intro q1 w Γx Ωx h
             exact OpS.pass rfl rfl rfl ⟨undef, rfl, trivial, h⟩
            ·intro q1 w Γx Ωx h
             exact OpS.pass rfl rfl rfl ⟨undef, rfl, trivial, h⟩
            ·intro q1 w Γx Ωx h
             exact OpS.pass rfl rfl rfl ⟨undef, rfl, trivial, h⟩
            ·intro q1 w Γx Ωx h
             refine OpS.pick rfl rfl rfl rfl ?_
             exact ⟨undef, rfl, trivial, h⟩
            ·intro q1 w Γx Ωx h
             refine OpS.mv rfl rfl rfl ?_
             exact ⟨undef, rfl, trivial, h⟩
            ·intro q1 w Γx Ωx h
             exact OpS.pass rfl rfl rfl ⟨undef, rfl, trivial, h⟩
            ·intro q1 w Γx Ωx h
             exact OpS.pass rfl rfl rfl ⟨undef, rfl, trivial, h⟩
            ·intro q1 w Γx Ωx h
             exact OpS.pass rfl rfl rfl ⟨undef, rfl, trivial, h⟩
            ·intro q1 w Γx Ωx h
             exact OpS.pass rfl rfl rfl ⟨undef, rfl, trivial, h⟩
            ·intro q1 w Γx Ωx h
             exact OpS.pass rfl rfl rfl ⟨undef, rfl, trivial, h⟩
            ·intro q1 w Γx Ωx h
             exact OpS.pass rfl rfl rfl ⟨undef, rfl, trivial, h⟩
            ·intro q1 w Γx Ωx h
             exact OpS.pass rfl rfl rfl ⟨undef, rfl, trivial, h⟩
            ·intro q1 w Γx Ωx h
             exact OpS.pass rfl rfl rfl ⟨undef, rfl, trivial, h⟩
            ·intro q1 w Γx Ωx h
             refine OpS.pick rfl rfl rfl rfl ?_
             exact ⟨undef, rfl, trivial, h⟩
            have h78 : St e w [(true, .val (Rep.slice (Rep.int .u8)) u33 y14.1), (false, .val Download_.rep u32 x2), (true, .val (Rep.slice (Rep.int .u8)) u31 y13.1), (false, .val Download_.rep u30 x2), (false, .val Download_.rep u28 y12.1), (false, .val Download_.rep u27 x2), (true, .val Download_.rep u25 y11.1), (false, .val Download_.rep u24 x2), (false, .val (Rep.slice (Rep.int .u8)) v2 a2), (false, .val (Rep.slice (Rep.int .u8)) u23 s5.1), (false, .val (Rep.slice Download_.rep) u18 ([y5.1, s3.2, a1]))] [(false, .box 28 Download_.rep u29 y12.1), (true, .box 28 Download_.rep u26 y11.1), (false, .box 28 Download_.rep u21 x2), (false, .box 51 field_Codes.rep u7 y10.2), (false, .box 28 Download_.rep u9 y5.1)] := h
            refine RunL.nil ?_
            refine Run.slim [(231, .bool true), (2, v2), (5, .int .i64 a5), (6, .int .i64 a6), (19, u7), (20, u9), (119, u18), (120, .int .i64 (([y5.1, s3.2, a1]).length : Int)), (121, .int .i64 s4.1)] ⟨rfl, rfl, rfl, rfl, rfl, rfl, rfl, rfl, rfl, trivial⟩ ?_
            refine Run.slim [(2, v2), (5, .int .i64 a5), (6, .int .i64 a6), (19, u7), (20, u9), (119, u18), (120, .int .i64 (([y5.1, s3.2, a1]).length : Int)), (121, .int .i64 s4.1), (231, .bool true)] ⟨rfl, rfl, rfl, rfl, rfl, rfl, rfl, rfl, rfl, trivial⟩ ?_
            exact hj6 (true) _ _ ⟨rfl, (h78.facts (.atm (.s (.s (.s (.s (.s (.s (.s (.s .z)))))))) (.atm (.s (.s (.s (.s (.s (.s (.s (.s (.s (.s .z)))))))))) .nil))).picks (.cons (.s (.s (.s .z))) (.cons (.s (.s (.s .z))) .nil))⟩ hF
           ·
            have hG := hF
            subst e23
            have hF := hG
            obtain ⟨x4, e24, hF⟩ := letP_use hF
            refine iteP_use hF (fun e25 hF => ?_) (fun e25 hF => ?_)
            ·
             have hG := hF
             subst e25
             have hF := hG
             refine Run.drawV (Ωs := [(false, .box 51 field_Codes.rep u7 y10.2), (false, .box 28 Download_.rep u9 y5.1)]) [⟨some 187, some (.int .i64 y11.2), fun _ => [], fun ds_ u_ => [], [], [], none⟩, ⟨some 188, some (.int .i64 y12.2), fun _ => [], fun ds_ u_ => [], [], [], none⟩, ⟨some 189, some (.bool (y11.2 != y12.2)), fun _ => [], fun ds_ u_ => [], [], [], none⟩, ⟨some 190, some (.bool false), fun _ => [], fun ds_ u_ => [], [], [], none⟩, ⟨some 191, some (.int .i64 y13.2), fun _ => [], fun ds_ u_ => [], [], [], none⟩, ⟨some 192, some (.int .i64 y14.2), fun _ => [], fun ds_ u_ => [], [], [], none⟩, ⟨some 193, some (.bool (y13.2 != y14.2)), fun _ => [], fun ds_ u_ => [], [], [], none⟩, ⟨some 194, some (.bool (y13.2 != y14.2)), fun _ => [], fun ds_ u_ => [], [], [], none⟩, ⟨some 195, some (.bool true), fun _ => [], fun ds_ u_ => [], [], [], none⟩, ⟨some 196, some undef, fun _ => [], fun _ _ => [], [], [], none⟩, ⟨some 197, some undef, fun _ => [], fun _ _ => [], [], [], none⟩, ⟨some 198, some undef, fun _ => [], fun _ _ => [], [], [], none⟩, ⟨some 199, some undef, fun _ => [], fun _ _ => [], [], [], none⟩, ⟨some 200, some undef, fun _ => [], fun _ _ => [], [], [], none⟩, ⟨some 201, some (.bool true), fun _ => [], fun ds_ u_ => [], [], [], none⟩, ⟨some 202, some (.bool true), fun _ => [], fun ds_ u_ => [], [], [], none⟩, ⟨some 203, some undef, fun _ => [], fun _ _ => [], [], [], none⟩, ⟨some 204, some undef, fun _ => [], fun _ _ => [], [], [], none⟩, ⟨some 205, some undef, fun _ => [], fun _ _ => [], [], [], none⟩, ⟨some 206, some undef, fun _ => [], fun _ _ => [], [], [], none⟩, ⟨some 207, some (.bool true), fun _ => [], fun ds_ u_ => [], [], [], none⟩, ⟨some 208, some (.bool true), fun _ => [], fun ds_ u_ => [], [], [], none⟩, ⟨some 209, some undef, fun _ => [], fun _ _ => [], [], [], none⟩, ⟨some 210, some undef, fun _ => [], fun _ _ => [], [], [], none⟩, ⟨some 211, some undef, fun _ => [], fun _ _ => [], [], [], none⟩, ⟨some 212, some undef, fun _ => [], fun _ _ => [], [], [], none⟩, ⟨some 213, some undef, fun _ => [], fun _ _ => [], [], [], none⟩, ⟨some 214, some (.bool true), fun _ => [], fun ds_ u_ => [], [], [], none⟩, ⟨some 215, some (.bool true), fun _ => [], fun ds_ u_ => [], [], [], none⟩, ⟨some 216, some undef, fun _ => [], fun _ _ => [], [], [], none⟩, ⟨some 217, some undef, fun _ => [], fun _ _ => [], [], [], none⟩, ⟨some 218, some undef, fun _ => [], fun _ _ => [], [], [], none⟩, ⟨some 219, some undef, fun _ => [], fun _ _ => [], [], [], none⟩, ⟨some 220, some undef, fun _ => [], fun _ _ => [], [], [], none⟩, ⟨some 221, some (.bool true), fun _ => [], fun ds_ u_ => [], [], [], none⟩, ⟨some 222, some (.bool true), fun _ => [], fun ds_ u_ => [], [], [], none⟩, ⟨some 223, some undef, fun _ => [], fun _ _ => [], [], [], none⟩, ⟨some 224, some undef, fun _ => [], fun _ _ => [], [], [], none⟩, ⟨some 225, some undef, fun _ => [], fun _ _ => [], [], [], none⟩, ⟨some 226, some undef, fun _ => [], fun _ _ => [], [], [], none⟩, ⟨some 227, some undef, fun _ => [], fun _ _ => [], [], [], none⟩, ⟨some 228, some undef, fun _ => [], fun _ _ => [], [], [], none⟩, ⟨some 229, some undef, fun _ => [], fun _ _ => [], [], [], none⟩, ⟨some 230, some undef, fun _ => [], fun _ _ => [], [], [], none⟩, ⟨some 231, some (.bool true), fun _ => [], fun ds_ u_ => [], [], [], none⟩] [[], [], [0, 1], [2], [3], [3], [4, 5, 3], [3, 6], [7], [8], [8], [8], [8], [8], [8, 13], [14], [15], [15], [15], [15], [15, 19], [20], [21], [21], [21], [21], [21], [21, 26], [27], [28], [28], [28], [28], [28], [28, 33], [34], [35], [35], [35], [35], [35], [35], [35], [35], [35, 43]] [[(false, .box 28 Download_.rep u29 y12.1)], [(true, .box 28 Download_.rep u26 y11.1)], [(false, .box 28 Download_.rep u21 x2)]] [0, 1, 2, 3, 4, 5, 6, 7, 8, 9, 10, 11, 12, 13, 14, 15, 16, 17, 18, 19, 20, 21, 22, 23, 24, 25, 26, 27, 28, 29, 30, 31, 32, 33, 34, 35, 36, 37, 38, 39, 40, 41, 42, 43, 44, 45, 46, 47] Try_mixed rfl rfl rfl h77 (.cons ?_ (.cons ?_ (.cons ?_ (.cons ?_ (.cons ?_ (.cons ?_ (.cons ?_ (.cons ?_ (.cons ?_ (.cons ?_ (.cons ?_ (.cons ?_ (.cons ?_ (.cons ?_ (.cons ?_ (.cons ?_ (.cons ?_ (.cons ?_ (.cons ?_ (.cons ?_ (.cons ?_ (.cons ?_ (.cons ?_ (.cons ?_ (.cons ?_ (.cons ?_ (.cons ?_ (.cons ?_ (.cons ?_ (.cons ?_ (.cons ?_ (.cons ?_ (.cons ?_ (.cons ?_ (.cons ?_ (.cons ?_ (.cons ?_ (.cons ?_ (.cons ?_ (.cons ?_ (.cons ?_ (.cons ?_ (.cons ?_ (.cons ?_ (.cons ?_ .nil))))))))))))))))))))))))))))))))))))))))))))) (fun q1 w hq2 h => ?_)
             ·intro q1 w Γx Ωx h
              refine OpS.mv rfl rfl rfl ?_
              exact ⟨undef, rfl, trivial, h⟩
             ·intro q1 w Γx Ωx h
              refine OpS.mv rfl rfl rfl ?_
              exact ⟨undef, rfl, trivial, h⟩
             ·intro q1 w Γx Ωx h
              refine OpS.bin rfl rfl rfl rfl rfl ?_
              exact ⟨undef, rfl, trivial, h⟩
             ·intro q1 w Γx Ωx h
              refine OpS.mv rfl rfl rfl ?_
              exact ⟨undef, (congrArg (fun z_ => some (Value.bool z_)) e22), trivial, h⟩
             ·intro q1 w Γx Ωx h
              refine OpS.mv rfl rfl rfl ?_
              exact ⟨undef, rfl, trivial, h⟩
             ·intro q1 w Γx Ωx h
              refine OpS.mv rfl rfl rfl ?_
              exact ⟨undef, rfl, trivial, h⟩
             ·intro q1 w Γx Ωx h
              refine OpS.bin rfl rfl rfl rfl rfl ?_
              exact ⟨undef, rfl, trivial, h⟩
             ·intro q1 w Γx Ωx h
              refine OpS.pick rfl rfl rfl rfl ?_
              exact ⟨undef, rfl, trivial, h⟩
             ·intro q1 w Γx Ωx h
              refine OpS.mv rfl rfl rfl ?_
              exact ⟨undef, (congrArg (fun z_ => some (Value.bool z_)) e24), trivial, h⟩
             ·intro q1 w Γx Ωx h
              exact OpS.pass rfl rfl rfl ⟨undef, rfl, trivial, h⟩
             ·intro q1 w Γx Ωx h
              exact OpS.pass rfl rfl rfl ⟨undef, rfl, trivial, h⟩
             ·intro q1 w Γx Ωx h
              exact OpS.pass rfl rfl rfl ⟨undef, rfl, trivial, h⟩
             ·intro q1 w Γx Ωx h
              exact OpS.pass rfl rfl rfl ⟨undef, rfl, trivial, h⟩
             ·intro q1 w Γx Ωx h
              exact OpS.pass rfl rfl rfl ⟨undef, rfl, trivial, h⟩
             ·intro q1 w Γx Ωx h
              refine OpS.pick rfl rfl rfl rfl ?_
              exact ⟨undef, rfl, trivial, h⟩
             ·intro q1 w Γx Ωx h
              refine OpS.mv rfl rfl rfl ?_
              exact ⟨undef, rfl, trivial, h⟩
             ·intro q1 w Γx Ωx h
              exact OpS.pass rfl rfl rfl ⟨undef, rfl, trivial, h⟩
             ·intro q1 w Γx Ωx h
              exact OpS.pass rfl rfl rfl ⟨undef, rfl, trivial, h⟩
             ·intro q1 w Γx Ωx h
              exact OpS.pass rfl rfl rfl ⟨undef, rfl, trivial, h⟩
             ·intro q1 w Γx Ωx h
              exact OpS.pass rfl rfl rfl ⟨undef, rfl, trivial, h⟩
             ·intro q1 w Γx Ωx h
              refine OpS.pick rfl rfl rfl rfl ?_
              exact ⟨undef, rfl, trivial, h⟩
             ·intro q1 w Γx Ωx h
              refine OpS.mv rfl rfl rfl ?_
              exact ⟨undef, rfl, trivial, h⟩
             ·intro q1 w Γx Ωx h
              exact OpS.pass rfl rfl rfl ⟨undef, rfl, trivial, h⟩
             ·intro q1 w Γx Ωx h
              exact OpS.pass rfl rfl rfl ⟨undef, rfl, trivial, h⟩
             ·intro q1 w Γx Ωx h
              exact OpS.pass rfl rfl rfl ⟨undef, rfl, trivial, h⟩
             ·intro q1 w Γx Ωx h
              exact OpS.pass rfl rfl rfl ⟨undef, rfl, trivial, h⟩
             ·intro q1 w Γx Ωx h
              exact OpS.pass rfl rfl rfl ⟨undef, rfl, trivial, h⟩
             ·intro q1 w Γx Ωx h
              refine OpS.pick rfl rfl rfl rfl ?_
              exact ⟨undef, rfl, trivial, h⟩
             ·intro q1 w Γx Ωx h
              refine OpS.mv rfl rfl rfl ?_
              exact ⟨undef, rfl, trivial, h⟩
             ·intro q1 w Γx Ωx h
              exact OpS.pass rfl rfl rfl ⟨undef, rfl, trivial, h⟩
             ·intro q1 w Γx Ωx h
              exact OpS.pass rfl rfl rfl ⟨undef, rfl, trivial, h⟩
             ·intro q1 w Γx Ωx h
              exact OpS.pass rfl rfl rfl ⟨undef, rfl, trivial, h⟩
             ·intro q1 w Γx Ωx h
              exact OpS.pass rfl rfl rfl ⟨undef, rfl, trivial, h⟩
             ·intro q1 w Γx Ωx h
              exact OpS.pass rfl rfl rfl ⟨undef, rfl, trivial, h⟩
             ·intro q1 w Γx Ωx h
              refine OpS.pick rfl rfl rfl rfl ?_
              exact ⟨undef, rfl, trivial, h⟩
             ·intro q1 w Γx Ωx h
              refine OpS.mv rfl rfl rfl ?_
              exact ⟨undef, rfl, trivial, h⟩
             ·intro q1 w Γx Ωx h
              exact OpS.pass rfl rfl rfl ⟨undef, rfl, trivial, h⟩
             ·intro q1 w Γx Ωx h
              exact OpS.pass rfl rfl rfl ⟨undef, rfl, trivial, h⟩
             ·intro q1 w Γx Ωx h
              exact OpS.pass rfl rfl rfl ⟨undef, rfl, trivial, h⟩
             ·intro q1 w Γx Ωx h
              exact OpS.pass rfl rfl rfl ⟨undef, rfl, trivial, h⟩
             ·intro q1 w Γx Ωx h
              exact OpS.pass rfl rfl rfl ⟨undef, rfl, trivial, h⟩
             ·intro q1 w Γx Ωx h
              exact OpS.pass rfl rfl rfl ⟨undef, rfl, trivial, h⟩
             ·intro q1 w Γx Ωx h
              exact OpS.pass rfl rfl rfl ⟨undef, rfl, trivial, h⟩
             ·intro q1 w Γx Ωx h
              exact OpS.pass rfl rfl rfl ⟨undef, rfl, trivial, h⟩
             ·intro q1 w Γx Ωx h
              refine OpS.pick rfl rfl rfl rfl ?_
              exact ⟨undef, rfl, trivial, h⟩
             have h79 : St e w [(true, .val (Rep.slice (Rep.int .u8)) u33 y14.1), (false, .val Download_.rep u32 x2), (true, .val (Rep.slice (Rep.int .u8)) u31 y13.1), (false, .val Download_.rep u30 x2), (false, .val Download_.rep u28 y12.1), (false, .val Download_.rep u27 x2), (true, .val Download_.rep u25 y11.1), (false, .val Download_.rep u24 x2), (false, .val (Rep.slice (Rep.int .u8)) v2 a2), (false, .val (Rep.slice (Rep.int .u8)) u23 s5.1), (false, .val (Rep.slice Download_.rep) u18 ([y5.1, s3.2, a1]))] [(false, .box 28 Download_.rep u29 y12.1), (true, .box 28 Download_.rep u26 y11.1), (false, .box 28 Download_.rep u21 x2), (false, .box 51 field_Codes.rep u7 y10.2), (false, .box 28 Download_.rep u9 y5.1)] := h
             refine RunL.nil ?_
             refine Run.slim [(231, .bool true), (2, v2), (5, .int .i64 a5), (6, .int .i64 a6), (19, u7), (20, u9), (119, u18), (120, .int .i64 (([y5.1, s3.2, a1]).length : Int)), (121, .int .i64 s4.1)] ⟨rfl, rfl, rfl, rfl, rfl, rfl, rfl, rfl, rfl, trivial⟩ ?_
             refine Run.slim [(2, v2), (5, .int .i64 a5), (6, .int .i64 a6), (19, u7), (20, u9), (119, u18), (120, .int .i64 (([y5.1, s3.2, a1]).length : Int)), (121, .int .i64 s4.1), (231, .bool true)] ⟨rfl, rfl, rfl, rfl, rfl, rfl, rfl, rfl, rfl, trivial⟩ ?_
             exact hj6 (true) _ _ ⟨rfl, (h79.facts (.atm (.s (.s (.s (.s (.s (.s (.s (.s .z)))))))) (.atm (.s (.s (.s (.s (.s (.s (.s (.s (.s (.s .z)))))))))) .nil))).picks (.cons (.s (.s (.s .z))) (.cons (.s (.s (.s .z))) .nil))⟩ hF
            ·
             have hG := hF
             subst e25
             have hF := hG
             obtain ⟨x5, e26, hF⟩ := letP_use hF
             refine iteP_use hF (fun e27 hF => ?_) (fun e27 hF => ?_)
             ·
              have hG := hF
              subst e27
              have hF := hG
              refine Run.drawV (Ωs := [(false, .box 51 field_Codes.rep u7 y10.2), (false, .box 28 Download_.rep u9 y5.1)]) [⟨some 187, some (.int .i64 y11.2), fun _ => [], fun ds_ u_ => [], [], [], none⟩, ⟨some 188, some (.int .i64 y12.2), fun _ => [], fun ds_ u_ => [], [], [], none⟩, ⟨some 189, some (.bool (y11.2 != y12.2)), fun _ => [], fun ds_ u_ => [], [], [], none⟩, ⟨some 190, some (.bool false), fun _ => [], fun ds_ u_ => [], [], [], none⟩, ⟨some 191, some (.int .i64 y13.2), fun _ => [], fun ds_ u_ => [], [], [], none⟩, ⟨some 192, some (.int .i64 y14.2), fun _ => [], fun ds_ u_ => [], [], [], none⟩, ⟨some 193, some (.bool (y13.2 != y14.2)), fun _ => [], fun ds_ u_ => [], [], [], none⟩, ⟨some 194, some (.bool (y13.2 != y14.2)), fun _ => [], fun ds_ u_ => [], [], [], none⟩, ⟨some 195, some (.bool false), fun _ => [], fun ds_ u_ => [], [], [], none⟩, ⟨some 196, some (u31), fun _ => [], fun ds_ u_ => [], [], [], none⟩, ⟨some 197, none, fun u_ => [(true, .val Rep.str u_ (toStr y13.1))], fun ds_ u_ => [], [], [], none⟩, ⟨some 198, some (u33), fun _ => [], fun ds_ u_ => [], [], [], none⟩, ⟨some 199, none, fun u_ => [(true, .val Rep.str u_ (toStr y14.1))], fun ds_ u_ => [], [], [], none⟩, ⟨some 200, some (.bool ((toStr y13.1) != (toStr y14.1))), fun _ => [], fun ds_ u_ => [], [], [], none⟩, ⟨some 201, some (.bool ((toStr y13.1) != (toStr y14.1))), fun _ => [], fun ds_ u_ => [], [], [], none⟩, ⟨some 202, some (.bool true), fun _ => [], fun ds_ u_ => [], [], [], none⟩, ⟨some 203, some undef, fun _ => [], fun _ _ => [], [], [], none⟩, ⟨some 204, some undef, fun _ => [], fun _ _ => [], [], [], none⟩, ⟨some 205, some undef, fun _ => [], fun _ _ => [], [], [], none⟩, ⟨some 206, some undef, fun _ => [], fun _ _ => [], [], [], none⟩, ⟨some 207, some (.bool true), fun _ => [], fun ds_ u_ => [], [], [], none⟩, ⟨some 208, some (.bool true), fun _ => [], fun ds_ u_ => [], [], [], none⟩, ⟨some 209, some undef, fun _ => [], fun _ _ => [], [], [], none⟩, ⟨some 210, some undef, fun _ => [], fun _ _ => [], [], [], none⟩, ⟨some 211, some undef, fun _ => [], fun _ _ => [], [], [], none⟩, ⟨some 212, some undef, fun _ => [], fun _ _ => [], [], [], none⟩, ⟨some 213, some undef, fun _ => [], fun _ _ => [], [], [], none⟩, ⟨some 214, some (.bool true), fun _ => [], fun ds_ u_ => [], [], [], none⟩, ⟨some 215, some (.bool true), fun _ => [], fun ds_ u_ => [], [], [], none⟩, ⟨some 216, some undef, fun _ => [], fun _ _ => [], [], [], none⟩, ⟨some 217, some undef, fun _ => [], fun _ _ => [], [], [], none⟩, ⟨some 218, some undef, fun _ => [], fun _ _ => [], [], [], none⟩, ⟨some 219, some undef, fun _ => [], fun _ _ => [], [], [], none⟩, ⟨some 220, some undef, fun _ => [], fun _ _ => [], [], [], none⟩, ⟨some 221, some (.bool true), fun _ => [], fun ds_ u_ => [], [], [], none⟩, ⟨some 222, some (.bool true), fun _ => [], fun ds_ u_ => [], [], [], none⟩, ⟨some 223, some undef, fun _ => [], fun _ _ => [], [], [], none⟩, ⟨some 224, some undef, fun _ => [], fun _ _ => [], [], [], none⟩, ⟨some 225, some undef, fun _ => [], fun _ _ => [], [], [], none⟩, ⟨some 226, some undef, fun _ => [], fun _ _ => [], [], [], none⟩, ⟨some 227, some undef, fun _ => [], fun _ _ => [], [], [], none⟩, ⟨some 228, some undef, fun _ => [], fun _ _ => [], [], [], none⟩, ⟨some 229, some undef, fun _ => [], fun _ _ => [], [], [], none⟩, ⟨some 230, some undef, fun _ => [], fun _ _ => [], [], [], none⟩, ⟨some 231, some (.bool true), fun _ => [], fun ds_ u_ => [], [], [], none⟩] [[], [], [0, 1], [2], [3], [3], [4, 5, 3], [3, 6], [7], [8], [9, 8], [8], [11, 8], [10, 12, 8], [8, 13], [14], [15], [15], [15], [15], [15, 19], [20], [21], [21], [21], [21], [21], [21, 26], [27], [28], [28], [28], [28], [28], [28, 33], [34], [35], [35], [35], [35], [35], [35], [35], [35], [35, 43]] [[(false, .box 28 Download_.rep u29 y12.1)], [(true, .box 28 Download_.rep u26 y11.1)], [(false, .box 28 Download_.rep u21 x2)]] [0, 1, 2, 3, 4, 5, 6, 7, 8, 9, 10, 11, 12, 13, 14, 15, 16, 17, 18, 19, 20, 21, 22, 23, 24, 25, 26, 27, 28, 29, 30, 31, 32, 33, 34, 35, 36, 37, 38, 39, 40, 41, 42, 43, 44, 45, 46, 47] Try_mixed rfl rfl rfl h77 (.cons ?_ (.cons ?_ (.cons ?_ (.cons ?_ (.cons ?_ (.cons ?_ (.cons ?_ (.cons ?_ (.cons ?_ (.cons ?_ (.cons ?_ (.cons ?_ (.cons ?_ (.cons ?_ (.cons ?_ (.cons ?_ (.cons ?_ (.cons ?_ (.cons ?_ (.cons ?_ (.cons ?_ (.cons ?_ (.cons ?_ (.cons ?_ (.cons ?_ (.cons ?_ (.cons ?_ (.cons ?_ (.cons ?_ (.cons ?_ (.cons ?_ (.cons ?_ (.cons ?_ (.cons ?_ (.cons ?_ (.cons ?_ (.cons ?_ (.cons ?_ (.cons ?_ (.cons ?_ (.cons ?_ (.cons ?_ (.cons ?_ (.cons ?_ (.cons ?_ .nil))))))))))))))))))))))))))))))))))))))))))))) (fun q1 w hq3 h => ?_)
              ·intro q1 w Γx Ωx h
               refine OpS.mv rfl rfl rfl ?_
               exact ⟨undef, rfl, trivial, h⟩
              ·intro q1 w Γx Ωx h
               refine OpS.mv rfl rfl rfl ?_
               exact ⟨undef, rfl, trivial, h⟩
              ·intro q1 w Γx Ωx h
               refine OpS.bin rfl rfl rfl rfl rfl ?_
               exact ⟨undef, rfl, trivial, h⟩
              ·intro q1 w Γx Ωx h
               refine OpS.mv rfl rfl rfl ?_
               exact ⟨undef, (congrArg (fun z_ => some (Value.bool z_)) e22), trivial, h⟩
              ·intro q1 w Γx Ωx h
               refine OpS.mv rfl rfl rfl ?_
               exact ⟨undef, rfl, trivial, h⟩
              ·intro q1 w Γx Ωx h
               refine OpS.mv rfl rfl rfl ?_
               exact ⟨undef, rfl, trivial, h⟩
              ·intro q1 w Γx Ωx h
               refine OpS.bin rfl rfl rfl rfl rfl ?_
               exact ⟨undef, rfl, trivial, h⟩
              ·intro q1 w Γx Ωx h
               refine OpS.pick rfl rfl rfl rfl ?_
               exact ⟨undef, rfl, trivial, h⟩
              ·intro q1 w Γx Ωx h
               refine OpS.mv rfl rfl rfl ?_
               exact ⟨undef, (congrArg (fun z_ => some (Value.bool z_)) e24), trivial, h⟩
              ·intro q1 w Γx Ωx h
               refine OpS.mv rfl rfl rfl ?_
               exact ⟨undef, rfl, trivial, h⟩
              ·intro q1 w Γx Ωx h
               refine OpS.toStr h Try.underlying22 Try.underlying5 Try.underlying9 rfl rfl rfl (V.at (.s (.s .z))) (fun u h82 => ?_)
               exact ⟨u, rfl, trivial, h82⟩
              ·intro q1 w Γx Ωx h
               refine OpS.mv rfl rfl rfl ?_
               exact ⟨undef, rfl, trivial, h⟩
              ·intro q1 w Γx Ωx h
               refine OpS.toStr h Try.underlying22 Try.underlying5 Try.underlying9 rfl rfl rfl (V.at .z) (fun u h83 => ?_)
               exact ⟨u, rfl, trivial, h83⟩
              ·intro q1 w Γx Ωx h
               refine OpS.nes h rfl rfl rfl rfl (V.at .z) (V.at (.s .z)) Try.underlying9 ?_
               exact ⟨undef, rfl, trivial, h⟩
              ·intro q1 w Γx Ωx h
               refine OpS.pick rfl rfl rfl rfl ?_
               exact ⟨undef, rfl, trivial, h⟩
              ·intro q1 w Γx Ωx h
               refine OpS.mv rfl rfl rfl ?_
               exact ⟨undef, (congrArg (fun z_ => some (Value.bool z_)) e26), trivial, h⟩
              ·intro q1 w Γx Ωx h
               exact OpS.pass rfl rfl rfl ⟨undef, rfl, trivial, h⟩
              ·intro q1 w Γx Ωx h
               exact OpS.pass rfl rfl rfl ⟨undef, rfl, trivial, h⟩
              ·intro q1 w Γx Ωx h
               exact OpS.pass rfl rfl rfl ⟨undef, rfl, trivial, h⟩
              ·intro q1 w Γx Ωx h
               exact OpS.pass rfl rfl rfl ⟨undef, rfl, trivial, h⟩
              ·intro q1 w Γx Ωx h
               refine OpS.pick rfl rfl rfl rfl ?_
               exact ⟨undef, rfl, trivial, h⟩
              ·intro q1 w Γx Ωx h
               refine OpS.mv rfl rfl rfl ?_
               exact ⟨undef, rfl, trivial, h⟩
              ·intro q1 w Γx Ωx h
               exact OpS.pass rfl rfl rfl ⟨undef, rfl, trivial, h⟩
              ·intro q1 w Γx Ωx h
               exact OpS.pass rfl rfl rfl ⟨undef, rfl, trivial, h⟩
              ·intro q1 w Γx Ωx h
               exact OpS.pass rfl rfl rfl ⟨undef, rfl, trivial, h⟩
              ·intro q1 w Γx Ωx h
               exact OpS.pass rfl rfl rfl ⟨undef, rfl, trivial, h⟩
              ·intro q1 w Γx Ωx h
               exact OpS.pass rfl rfl rfl ⟨undef, rfl, trivial, h⟩
              ·intro q1 w Γx Ωx h
               refine OpS.pick rfl rfl rfl rfl ?_
               exact ⟨undef, rfl, trivial, h⟩
              ·intro q1 w Γx Ωx h
               refine OpS.mv rfl rfl rfl ?_
               exact ⟨undef, rfl, trivial, h⟩
              ·intro q1 w Γx Ωx h
               exact OpS.pass rfl rfl rfl ⟨undef, rfl, trivial, h⟩
              ·intro q1 w Γx Ωx h
               exact OpS.pass rfl rfl rfl ⟨undef, rfl, trivial, h⟩
              ·intro q1 w Γx Ωx h
               exact OpS.pass rfl rfl rfl ⟨undef, rfl, trivial, h⟩
              ·intro q1 w Γx Ωx h
               exact OpS.pass rfl rfl rfl ⟨undef, rfl, trivial, h⟩
              ·intro q1 w Γx Ωx h
               exact OpS.pass rfl rfl rfl ⟨undef, rfl, trivial, h⟩
              ·intro q1 w Γx Ωx h
               refine OpS.pick rfl rfl rfl rfl ?_
               exact ⟨undef, rfl, trivial, h⟩
              ·intro q1 w Γx Ωx h
               refine OpS.mv rfl rfl rfl ?_
               exact ⟨undef, rfl, trivial, h⟩
              ·intro q1 w Γx Ωx h
               exact OpS.pass rfl rfl rfl ⟨undef, rfl, trivial, h⟩
              ·intro q1 w Γx Ωx h
               exact OpS.pass rfl rfl rfl ⟨undef, rfl, trivial, h⟩
              ·intro q1 w Γx Ωx h
               exact OpS.pass rfl rfl rfl ⟨undef, rfl, trivial, h⟩
              ·intro q1 w Γx Ωx h
               exact OpS.pass rfl rfl rfl ⟨undef, rfl, trivial, h⟩
              ·intro q1 w Γx Ωx h
               exact OpS.pass rfl rfl rfl ⟨undef, rfl, trivial, h⟩
              ·intro q1 w Γx Ωx h
               exact OpS.pass rfl rfl rfl ⟨undef, rfl, trivial, h⟩
              ·intro q1 w Γx Ωx h
               exact OpS.pass rfl rfl rfl ⟨undef, rfl, trivial, h⟩
              ·intro q1 w Γx Ωx h
               exact OpS.pass rfl rfl rfl ⟨undef, rfl, trivial, h⟩
              ·intro q1 w Γx Ωx h
               refine OpS.pick rfl rfl rfl rfl ?_
               exact ⟨undef, rfl, trivial, h⟩
              have h84 : St e w [(true, .val Rep.str (q1 10) (toStr y13.1)), (true, .val Rep.str (q1 12) (toStr y14.1)), (true, .val (Rep.slice (Rep.int .u8)) u33 y14.1), (false, .val Download_.rep u32 x2), (true, .val (Rep.slice (Rep.int .u8)) u31 y13.1), (false, .val Download_.rep u30 x2), (false, .val Download_.rep u28 y12.1), (false, .val Download_.rep u27 x2), (true, .val Download_.rep u25 y11.1), (false, .val Download_.rep u24 x2), (false, .val (Rep.slice (Rep.int .u8)) v2 a2), (false, .val (Rep.slice (Rep.int .u8)) u23 s5.1), (false, .val (Rep.slice Download_.rep) u18 ([y5.1, s3.2, a1]))] [(false, .box 28 Download_.rep u29 y12.1), (true, .box 28 Download_.rep u26 y11.1), (false, .box 28 Download_.rep u21 x2), (false, .box 51 field_Codes.rep u7 y10.2), (false, .box 28 Download_.rep u9 y5.1)] := h
              refine RunL.nil ?_
              refine Run.slim [(231, .bool true), (2, v2), (5, .int .i64 a5), (6, .int .i64 a6), (19, u7), (20, u9), (119, u18), (120, .int .i64 (([y5.1, s3.2, a1]).length : Int)), (121, .int .i64 s4.1)] ⟨rfl, rfl, rfl, rfl, rfl, rfl, rfl, rfl, rfl, trivial⟩ ?_
              refine Run.slim [(2, v2), (5, .int .i64 a5), (6, .int .i64 a6), (19, u7), (20, u9), (119, u18), (120, .int .i64 (([y5.1, s3.2, a1]).length : Int)), (121, .int .i64 s4.1), (231, .bool true)] ⟨rfl, rfl, rfl, rfl, rfl, rfl, rfl, rfl, rfl, trivial⟩ ?_
              exact hj6 (true) _ _ ⟨rfl, (h84.facts (.atm (.s (.s (.s (.s (.s (.s (.s (.s (.s (.s .z)))))))))) (.atm (.s (.s (.s (.s (.s (.s (.s (.s (.s (.s (.s (.s .z)))))))))))) .nil))).picks (.cons (.s (.s (.s .z))) (.cons (.s (.s (.s .z))) .nil))⟩ hF
             ·
              have hG := hF
              subst e27
              have hF := hG
              obtain ⟨y15, e28, hF⟩ := bindP_use hF
              obtain ⟨x6, e29, hF⟩ := letP_use hF
              refine iteP_use hF (fun e30 hF => ?_) (fun e30 hF => ?_)
              ·
               have hG := hF
               subst e30
               have hF := hG
               refine Run.drawV (Ωs := [(false, .box 51 field_Codes.rep u7 y10.2), (false, .box 28 Download_.rep u9 y5.1)]) [⟨some 187, some (.int .i64 y11.2), fun _ => [], fun ds_ u_ => [], [], [], none⟩, ⟨some 188, some (.int .i64 y12.2), fun _ => [], fun ds_ u_ => [], [], [], none⟩, ⟨some 189, some (.bool (y11.2 != y12.2)), fun _ => [], fun ds_ u_ => [], [], [], none⟩, ⟨some 190, some (.bool false), fun _ => [], fun ds_ u_ => [], [], [], none⟩, ⟨some 191, some (.int .i64 y13.2), fun _ => [], fun ds_ u_ => [], [], [], none⟩, ⟨some 192, some (.int .i64 y14.2), fun _ => [], fun ds_ u_ => [], [], [], none⟩, ⟨some 193, some (.bool (y13.2 != y14.2)), fun _ => [], fun ds_ u_ => [], [], [], none⟩, ⟨some 194, some (.bool (y13.2 != y14.2)), fun _ => [], fun ds_ u_ => [], [], [], none⟩, ⟨some 195, some (.bool false), fun _ => [], fun ds_ u_ => [], [], [], none⟩, ⟨some 196, some (u31), fun _ => [], fun ds_ u_ => [], [], [], none⟩, ⟨some 197, none, fun u_ => [(true, .val Rep.str u_ (toStr y13.1))], fun ds_ u_ => [], [], [], none⟩, ⟨some 198, some (u33), fun _ => [], fun ds_ u_ => [], [], [], none⟩, ⟨some 199, none, fun u_ => [(true, .val Rep.str u_ (toStr y14.1))], fun ds_ u_ => [], [], [], none⟩, ⟨some 200, some (.bool ((toStr y13.1) != (toStr y14.1))), fun _ => [], fun ds_ u_ => [], [], [], none⟩, ⟨some 201, some (.bool ((toStr y13.1) != (toStr y14.1))), fun _ => [], fun ds_ u_ => [], [], [], none⟩, ⟨some 202, some (.bool false), fun _ => [], fun ds_ u_ => [], [], [], none⟩, ⟨some 203, none, fun u_ => [(true, .val Download_.rep u_ y11.1)], fun ds_ u_ => [], [], [(1, [])], none⟩, ⟨some 204, none, fun u_ => [(false, .val Download_.rep u_ y12.1)], fun ds_ u_ => [], [], [(0, [])], none⟩, ⟨some 205, some (.bool y15), fun _ => [], fun ds_ u_ => [], [], [], none⟩, ⟨some 206, some (.bool (!y15)), fun _ => [], fun ds_ u_ => [], [], [], none⟩, ⟨some 207, some (.bool (!y15)), fun _ => [], fun ds_ u_ => [], [], [], none⟩, ⟨some 208, some (.bool true), fun _ => [], fun ds_ u_ => [], [], [], none⟩, ⟨some 209, some undef, fun _ => [], fun _ _ => [], [], [], none⟩, ⟨some 210, some undef, fun _ => [], fun _ _ => [], [], [], none⟩, ⟨some 211, some undef, fun _ => [], fun _ _ => [], [], [], none⟩, ⟨some 212, some undef, fun _ => [], fun _ _ => [], [], [], none⟩, ⟨some 213, some undef, fun _ => [], fun _ _ => [], [], [], none⟩, ⟨some 214, some (.bool true), fun _ => [], fun ds_ u_ => [], [], [], none⟩, ⟨some 215, some (.bool true), fun _ => [], fun ds_ u_ => [], [], [], none⟩, ⟨some 216, some undef, fun _ => [], fun _ _ => [], [], [], none⟩, ⟨some 217, some undef, fun _ => [], fun _ _ => [], [], [], none⟩, ⟨some 218, some undef, fun _ => [], fun _ _ => [], [], [], none⟩, ⟨some 219, some undef, fun _ => [], fun _ _ => [], [], [], none⟩, ⟨some 220, some undef, fun _ => [], fun _ _ => [], [], [], none⟩, ⟨some 221, some (.bool true), fun _ => [], fun ds_ u_ => [], [], [], none⟩, ⟨some 222, some (.bool true), fun _ => [], fun ds_ u_ => [], [], [], none⟩, ⟨some 223, some undef, fun _ => [], fun _ _ => [], [], [], none⟩, ⟨some 224, some undef, fun _ => [], fun _ _ => [], [], [], none⟩, ⟨some 225, some undef, fun _ => [], fun _ _ => [], [], [], none⟩, ⟨some 226, some undef, fun _ => [], fun _ _ => [], [], [], none⟩, ⟨some 227, some undef, fun _ => [], fun _ _ => [], [], [], none⟩, ⟨some 228, some undef, fun _ => [], fun _ _ => [], [], [], none⟩, ⟨some 229, some undef, fun _ => [], fun _ _ => [], [], [], none⟩, ⟨some 230, some undef, fun _ => [], fun _ _ => [], [], [], none⟩, ⟨some 231, some (.bool true), fun _ => [], fun ds_ u_ => [], [], [], none⟩] [[], [], [0, 1], [2], [3], [3], [4, 5, 3], [3, 6], [7], [8], [9, 8], [8], [11, 8], [10, 12, 8], [8, 13], [14], [15], [15], [16, 17, 15], [18, 15], [15, 19], [20], [21], [21], [21], [21], [21], [21, 26], [27], [28], [28], [28], [28], [28], [28, 33], [34], [35], [35], [35], [35], [35], [35], [35], [35], [35, 43]] [[(false, .box 28 Download_.rep u29 y12.1)], [(true, .box 28 Download_.rep u26 y11.1)], [(false, .box 28 Download_.rep u21 x2)]] [0, 1, 2, 3, 4, 5, 6, 7, 8, 9, 10, 11, 12, 13, 14, 15, 16, 17, 18, 19, 20, 21, 22, 23, 24, 25, 26, 27, 28, 29, 30, 31, 32, 33, 34, 35, 36, 37, 38, 39, 40, 41, 42, 43, 44, 45, 46, 47] Try_mixed rfl rfl rfl h77 (.cons ?_ (.cons ?_ (.cons ?_ (.cons ?_ (.cons ?_ (.cons ?_ (.cons ?_ (.cons ?_ (.cons ?_ (.cons ?_ (.cons ?_ (.cons ?_ (.cons ?_ (.cons ?_ (.cons ?_ (.cons ?_ (.cons ?_ (.cons ?_ (.cons ?_ (.cons ?_ (.cons ?_ (.cons ?_ (.cons ?_ (.cons ?_ (.cons ?_ (.cons ?_ (.cons ?_ (.cons ?_ (.cons ?_ (.cons ?_ (.cons ?_ (.cons ?_ (.cons ?_ (.cons ?_ (.cons ?_ (.cons ?_ (.cons ?_ (.cons ?_ (.cons ?_ (.cons ?_ (.cons ?_ (.cons ?_ (.cons ?_ (.cons ?_ (.cons ?_ .nil))))))))))))))))))))))))))))))))))))))))))))) (fun q1 w hq4 h => ?_)
               ·intro q1 w Γx Ωx h
                refine OpS.mv rfl rfl rfl ?_
                exact ⟨undef, rfl, trivial, h⟩
               ·intro q1 w Γx Ωx h
                refine OpS.mv rfl rfl rfl ?_
                exact ⟨undef, rfl, trivial, h⟩
               ·intro q1 w Γx Ωx h
                refine OpS.bin rfl rfl rfl rfl rfl ?_
                exact ⟨undef, rfl, trivial, h⟩
               ·intro q1 w Γx Ωx h
                refine OpS.mv rfl rfl rfl ?_
                exact ⟨undef, (congrArg (fun z_ => some (Value.bool z_)) e22), trivial, h⟩
               ·intro q1 w Γx Ωx h
                refine OpS.mv rfl rfl rfl ?_
                exact ⟨undef, rfl, trivial, h⟩
               ·intro q1 w Γx Ωx h
                refine OpS.mv rfl rfl rfl ?_
                exact ⟨undef, rfl, trivial, h⟩
               ·intro q1 w Γx Ωx h
                refine OpS.bin rfl rfl rfl rfl rfl ?_
                exact ⟨undef, rfl, trivial, h⟩
               ·intro q1 w Γx Ωx h
                refine OpS.pick rfl rfl rfl rfl ?_
                exact ⟨undef, rfl, trivial, h⟩
               ·intro q1 w Γx Ωx h
                refine OpS.mv rfl rfl rfl ?_
                exact ⟨undef, (congrArg (fun z_ => some (Value.bool z_)) e24), trivial, h⟩
               ·intro q1 w Γx Ωx h
                refine OpS.mv rfl rfl rfl ?_
                exact ⟨undef, rfl, trivial, h⟩
               ·intro q1 w Γx Ωx h
                refine OpS.toStr h Try.underlying22 Try.underlying5 Try.underlying9 rfl rfl rfl (V.at (.s (.s .z))) (fun u h89 => ?_)
                exact ⟨u, rfl, trivial, h89⟩
               ·intro q1 w Γx Ωx h
                refine OpS.mv rfl rfl rfl ?_
                exact ⟨undef, rfl, trivial, h⟩
               ·intro q1 w Γx Ωx h
                refine OpS.toStr h Try.underlying22 Try.underlying5 Try.underlying9 rfl rfl rfl (V.at .z) (fun u h90 => ?_)
                exact ⟨u, rfl, trivial, h90⟩
               ·intro q1 w Γx Ωx h
                refine OpS.nes h rfl rfl rfl rfl (V.at .z) (V.at (.s .z)) Try.underlying9 ?_
                exact ⟨undef, rfl, trivial, h⟩
               ·intro q1 w Γx Ωx h
                refine OpS.pick rfl rfl rfl rfl ?_
                exact ⟨undef, rfl, trivial, h⟩
               ·intro q1 w Γx Ωx h
                refine OpS.mv rfl rfl rfl ?_
                exact ⟨undef, (congrArg (fun z_ => some (Value.bool z_)) e26), trivial, h⟩
               ·intro q1 w Γx Ωx h
                have h : St e w ([(true, .val (Rep.slice (Rep.int .u8)) u33 y14.1), (false, .val Download_.rep u32 x2), (true, .val (Rep.slice (Rep.int .u8)) u31 y13.1), (false, .val Download_.rep u30 x2), (false, .val Download_.rep u28 y12.1), (false, .val Download_.rep u27 x2), (true, .val Download_.rep u25 y11.1), (false, .val Download_.rep u24 x2), (false, .val (Rep.slice (Rep.int .u8)) v2 a2), (false, .val (Rep.slice (Rep.int .u8)) u23 s5.1), (false, .val (Rep.slice Download_.rep) u18 ([y5.1, s3.2, a1]))] ++ Γx) ([(true, .box 28 Download_.rep u26 y11.1), (false, .box 51 field_Codes.rep u7 y10.2), (false, .box 28 Download_.rep u9 y5.1)] ++ Ωx) := h
                refine OpS.loadB h .z PA.z Get.id ty28 rfl rfl rfl (fun u h91 => ?_)
                exact ⟨u, rfl, trivial, h91⟩
               ·intro q1 w Γx Ωx h
                have h : St e w ([(true, .val (Rep.slice (Rep.int .u8)) u33 y14.1), (false, .val Download_.rep u32 x2), (true, .val (Rep.slice (Rep.int .u8)) u31 y13.1), (false, .val Download_.rep u30 x2), (false, .val Download_.rep u28 y12.1), (false, .val Download_.rep u27 x2), (true, .val Download_.rep u25 y11.1), (false, .val Download_.rep u24 x2), (false, .val (Rep.slice (Rep.int .u8)) v2 a2), (false, .val (Rep.slice (Rep.int .u8)) u23 s5.1), (false, .val (Rep.slice Download_.rep) u18 ([y5.1, s3.2, a1]))] ++ Γx) ([(false, .box 28 Download_.rep u29 y12.1), (false, .box 51 field_Codes.rep u7 y10.2), (false, .box 28 Download_.rep u9 y5.1)] ++ Ωx) := h
                refine OpS.loadB h .z PA.z Get.id ty28 rfl rfl rfl (fun u h92 => ?_)
                exact ⟨u, rfl, trivial, h92⟩
               ·intro q1 w Γx Ωx h
                refine OpS.callP h Try.func12 rfl rfl rfl rfl (vs := [(q1 16), (q1 17)]) rfl (ref30_Same_ok e28) (.cons (f := true) (V.at .z) (.cons (f := false) (V.at (.s .z)) .nil)) ?_
                rintro _ w39 _ _ _ ⟨rfl, rfl, rfl, rfl⟩ h93
                have h94 := h93 rfl rfl
                simp only [List.cons_append, List.nil_append] at h94
                exact ⟨undef, rfl, trivial, h94⟩
               ·intro q1 w Γx Ωx h
                refine OpS.not rfl rfl rfl ?_
                exact ⟨undef, rfl, trivial, h⟩
               ·intro q1 w Γx Ωx h
                refine OpS.pick rfl rfl rfl rfl ?_
                exact ⟨undef, rfl, trivial, h⟩
               ·intro q1 w Γx Ωx h
                refine OpS.mv rfl rfl rfl ?_
                exact ⟨undef, (congrArg (fun z_ => some (Value.bool z_)) e29), trivial, h⟩
               ·intro q1 w Γx Ωx h
                exact OpS.pass rfl rfl rfl ⟨undef, rfl, trivial, h⟩
               ·intro q1 w Γx Ωx h
                exact OpS.pass rfl rfl rfl ⟨undef, rfl, trivial, h⟩
               ·intro q1 w Γx Ωx h
                exact OpS.pass rfl rfl rfl ⟨undef, rfl, trivial, h⟩
               ·intro q1 w Γx Ωx h
                exact OpS.pass rfl rfl rfl ⟨undef, rfl, trivial, h⟩
               ·intro q1 w Γx Ωx h
                exact OpS.pass rfl rfl rfl ⟨undef, rfl, trivial, h⟩
               ·intro q1 w Γx Ωx h
                refine OpS.pick rfl rfl rfl rfl ?_
                exact ⟨undef, rfl, trivial, h⟩
               ·intro q1 w Γx Ωx h
                refine OpS.mv rfl rfl rfl ?_
                exact ⟨undef, rfl, trivial, h⟩
               ·intro q1 w Γx Ωx h
                exact OpS.pass rfl rfl rfl ⟨undef, rfl, trivial, h⟩
               ·intro q1 w Γx Ωx h
                exact OpS.pass rfl rfl rfl ⟨undef, rfl, trivial, h⟩
               ·intro q1 w Γx Ωx h
                exact OpS.pass rfl rfl rfl ⟨undef, rfl, trivial, h⟩
               ·intro q1 w Γx Ωx h
                exact OpS.pass rfl rfl rfl ⟨undef, rfl, trivial, h⟩
               ·intro q1 w Γx Ωx h
                exact OpS.pass rfl rfl rfl ⟨undef, rfl, trivial, h⟩
               ·intro q1 w Γx Ωx h
                refine OpS.pick rfl rfl rfl rfl ?_
                exact ⟨undef, rfl, trivial, h⟩
               ·intro q1 w Γx Ωx h
                refine OpS.mv rfl rfl rfl ?_
                exact ⟨undef, rfl, trivial, h⟩
               ·intro q1 w Γx Ωx h
                exact OpS.pass rfl rfl rfl ⟨undef, rfl, trivial, h⟩
               ·intro q1 w Γx Ωx h
                exact OpS.pass rfl rfl rfl ⟨undef, rfl, trivial, h⟩
               ·intro q1 w Γx Ωx h
                exact OpS.pass rfl rfl rfl ⟨undef, rfl, trivial, h⟩
               ·intro q1 w Γx Ωx h
                exact OpS.pass rfl rfl rfl ⟨undef, rfl, trivial, h⟩
               ·intro q1 w Γx Ωx h
                exact OpS.pass rfl rfl rfl ⟨undef, rfl, trivial, h⟩
               ·intro q1 w Γx Ωx h
                exact OpS.pass rfl rfl rfl ⟨undef, rfl, trivial, h⟩
               ·intro q1 w Γx Ωx h
                exact OpS.pass rfl rfl rfl ⟨undef, rfl, trivial, h⟩
               ·intro q1 w Γx Ωx h
                exact OpS.pass rfl rfl rfl ⟨undef, rfl, trivial, h⟩
               ·intro q1 w Γx Ωx h
                refine OpS.pick rfl rfl rfl rfl ?_
                exact ⟨undef, rfl, trivial, h⟩
               have h95 : St e w [(true, .val Rep.str (q1 10) (toStr y13.1)), (true, .val Rep.str (q1 12) (toStr y14.1)), (true, .val Download_.rep (q1 16) y11.1), (false, .val Download_.rep (q1 17) y12.1), (true, .val (Rep.slice (Rep.int .u8)) u33 y14.1), (false, .val Download_.rep u32 x2), (true, .val (Rep.slice (Rep.int .u8)) u31 y13.1), (false, .val Download_.rep u30 x2), (false, .val Download_.rep u28 y12.1), (false, .val Download_.rep u27 x2), (true, .val Download_.rep u25 y11.1), (false, .val Download_.rep u24 x2), (false, .val (Rep.slice (Rep.int .u8)) v2 a2), (false, .val (Rep.slice (Rep.int .u8)) u23 s5.1), (false, .val (Rep.slice Download_.rep) u18 ([y5.1, s3.2, a1]))] [(false, .box 28 Download_.rep u29 y12.1), (true, .box 28 Download_.rep u26 y11.1), (false, .box 28 Download_.rep u21 x2), (false, .box 51 field_Codes.rep u7 y10.2), (false, .box 28 Download_.rep u9 y5.1)] := h
               refine RunL.nil ?_
               refine Run.slim [(231, .bool true), (2, v2), (5, .int .i64 a5), (6, .int .i64 a6), (19, u7), (20, u9), (119, u18), (120, .int .i64 (([y5.1, s3.2, a1]).length : Int)), (121, .int .i64 s4.1)] ⟨rfl, rfl, rfl, rfl, rfl, rfl, rfl, rfl, rfl, trivial⟩ ?_
               refine Run.slim [(2, v2), (5, .int .i64 a5), (6, .int .i64 a6), (19, u7), (20, u9), (119, u18), (120, .int .i64 (([y5.1, s3.2, a1]).length : Int)), (121, .int .i64 s4.1), (231, .bool true)] ⟨rfl, rfl, rfl, rfl, rfl, rfl, rfl, rfl, rfl, trivial⟩ ?_
               exact hj6 (true) _ _ ⟨rfl, (h95.facts (.atm (.s (.s (.s (.s (.s (.s (.s (.s (.s (.s (.s (.s .z)))))))))))) (.atm (.s (.s (.s (.s (.s (.s (.s (.s (.s (.s (.s (.s (.s (.s .z)))))))))))))) .nil))).picks (.cons (.s (.s (.s .z))) (.cons (.s (.s (.s .z))) .nil))⟩ hF
              ·
               have hG := hF
               subst e30
               have hF := hG
               obtain ⟨y16, e31, hF⟩ := bindP_use hF
               obtain ⟨y17, e32, hF⟩ := bindP_use hF
               obtain ⟨x7, e33, hF⟩ := letP_use hF
               refine iteP_use hF (fun e34 hF => ?_) (fun e34 hF => ?_)
               ·
                have hG := hF
                subst e34
                have hF := hG
                refine Run.drawV (Ωs := [(false, .box 51 field_Codes.rep u7 y10.2), (false, .box 28 Download_.rep u9 y5.1)]) [⟨some 187, some (.int .i64 y11.2), fun _ => [], fun ds_ u_ => [], [], [], none⟩, ⟨some 188, some (.int .i64 y12.2), fun _ => [], fun ds_ u_ => [], [], [], none⟩, ⟨some 189, some (.bool (y11.2 != y12.2)), fun _ => [], fun ds_ u_ => [], [], [], none⟩, ⟨some 190, some (.bool false), fun _ => [], fun ds_ u_ => [], [], [], none⟩, ⟨some 191, some (.int .i64 y13.2), fun _ => [], fun ds_ u_ => [], [], [], none⟩, ⟨some 192, some (.int .i64 y14.2), fun _ => [], fun ds_ u_ => [], [], [], none⟩, ⟨some 193, some (.bool (y13.2 != y14.2)), fun _ => [], fun ds_ u_ => [], [], [], none⟩, ⟨some 194, some (.bool (y13.2 != y14.2)), fun _ => [], fun ds_ u_ => [], [], [], none⟩, ⟨some 195, some (.bool false), fun _ => [], fun ds_ u_ => [], [], [], none⟩, ⟨some 196, some (u31), fun _ => [], fun ds_ u_ => [], [], [], none⟩, ⟨some 197, none, fun u_ => [(true, .val Rep.str u_ (toStr y13.1))], fun ds_ u_ => [], [], [], none⟩, ⟨some 198, some (u33), fun _ => [], fun ds_ u_ => [], [], [], none⟩, ⟨some 199, none, fun u_ => [(true, .val Rep.str u_ (toStr y14.1))], fun ds_ u_ => [], [], [], none⟩, ⟨some 200, some (.bool ((toStr y13.1) != (toStr y14.1))), fun _ => [], fun ds_ u_ => [], [], [], none⟩, ⟨some 201, some (.bool ((toStr y13.1) != (toStr y14.1))), fun _ => [], fun ds_ u_ => [], [], [], none⟩, ⟨some 202, some (.bool false), fun _ => [], fun ds_ u_ => [], [], [], none⟩, ⟨some 203, none, fun u_ => [(true, .val Download_.rep u_ y11.1)], fun ds_ u_ => [], [], [(1, [])], none⟩, ⟨some 204, none, fun u_ => [(false, .val Download_.rep u_ y12.1)], fun ds_ u_ => [], [], [(0, [])], none⟩, ⟨some 205, some (.bool y15), fun _ => [], fun ds_ u_ => [], [], [], none⟩, ⟨some 206, some (.bool (!y15)), fun _ => [], fun ds_ u_ => [], [], [], none⟩, ⟨some 207, some (.bool (!y15)), fun _ => [], fun ds_ u_ => [], [], [], none⟩, ⟨some 208, some (.bool false), fun _ => [], fun ds_ u_ => [], [], [], none⟩, ⟨some 209, none, fun u_ => [(false, .val Download_.rep u_ x2)], fun ds_ u_ => [], [], [(2, [])], none⟩, ⟨some 210, some (.bool y16), fun _ => [], fun ds_ u_ => [], [], [], none⟩, ⟨some 211, none, fun u_ => [(false, .val Download_.rep u_ x2)], fun ds_ u_ => [], [], [(2, [])], none⟩, ⟨some 212, some (.bool y17), fun _ => [], fun ds_ u_ => [], [], [], none⟩, ⟨some 213, some (.bool (y16 != y17)), fun _ => [], fun ds_ u_ => [], [], [], none⟩, ⟨some 214, some (.bool (y16 != y17)), fun _ => [], fun ds_ u_ => [], [], [], none⟩, ⟨some 215, some (.bool true), fun _ => [], fun ds_ u_ => [], [], [], none⟩, ⟨some 216, some undef, fun _ => [], fun _ _ => [], [], [], none⟩, ⟨some 217, some undef, fun _ => [], fun _ _ => [], [], [], none⟩, ⟨some 218, some undef, fun _ => [], fun _ _ => [], [], [], none⟩, ⟨some 219, some undef, fun _ => [], fun _ _ => [], [], [], none⟩, ⟨some 220, some undef, fun _ => [], fun _ _ => [], [], [], none⟩, ⟨some 221, some (.bool true), fun _ => [], fun ds_ u_ => [], [], [], none⟩, ⟨some 222, some (.bool true), fun _ => [], fun ds_ u_ => [], [], [], none⟩, ⟨some 223, some undef, fun _ => [], fun _ _ => [], [], [], none⟩, ⟨some 224, some undef, fun _ => [], fun _ _ => [], [], [], none⟩, ⟨some 225, some undef, fun _ => [], fun _ _ => [], [], [], none⟩, ⟨some 226, some undef, fun _ => [], fun _ _ => [], [], [], none⟩, ⟨some 227, some undef, fun _ => [], fun _ _ => [], [], [], none⟩, ⟨some 228, some undef, fun _ => [], fun _ _ => [], [], [], none⟩, ⟨some 229, some undef, fun _ => [], fun _ _ => [], [], [], none⟩, ⟨some 230, some undef, fun _ => [], fun _ _ => [], [], [], none⟩, ⟨some 231, some (.bool true), fun _ => [], fun ds_ u_ => [], [], [], none⟩] [[], [], [0, 1], [2], [3], [3], [4, 5, 3], [3, 6], [7], [8], [9, 8], [8], [11, 8], [10, 12, 8], [8, 13], [14], [15], [15], [16, 17, 15], [18, 15], [15, 19], [20], [21], [22, 21], [21], [24, 21], [23, 25, 21], [21, 26], [27], [28], [28], [28], [28], [28], [28, 33], [34], [35], [35], [35], [35], [35], [35], [35], [35], [35, 43]] [[(false, .box 28 Download_.rep u29 y12.1)], [(true, .box 28 Download_.rep u26 y11.1)], [(false, .box 28 Download_.rep u21 x2)]] [0, 1, 2, 3, 4, 5, 6, 7, 8, 9, 10, 11, 12, 13, 14, 15, 16, 17, 18, 19, 20, 21, 22, 23, 24, 25, 26, 27, 28, 29, 30, 31, 32, 33, 34, 35, 36, 37, 38, 39, 40, 41, 42, 43, 44, 45, 46, 47] Try_mixed rfl rfl rfl h77 (.cons ?_ (.cons ?_ (.cons ?_ (.cons ?_ (.cons ?_ (.cons ?_ (.cons ?_ (.cons ?_ (.cons ?_ (.cons ?_ (.cons ?_ (.cons ?_ (.cons ?_ (.cons ?_ (.cons ?_ (.cons ?_ (.cons ?_ (.cons ?_ (.cons ?_ (.cons ?_ (.cons ?_ (.cons ?_ (.cons ?_ (.cons ?_ (.cons ?_ (.cons ?_ (.cons ?_ (.cons ?_ (.cons ?_ (.cons ?_ (.cons ?_ (.cons ?_ (.cons ?_ (.cons ?_ (.cons ?_ (.cons ?_ (.cons ?_ (.cons ?_ (.cons ?_ (.cons ?_ (.cons ?_ (.cons ?_ (.cons ?_ (.cons ?_ (.cons ?_ .nil))))))))))))))))))))))))))))))))))))))))))))) (fun q1 w hq5 h => ?_)
                ·intro q1 w Γx Ωx h
                 refine OpS.mv rfl rfl rfl ?_
                 exact ⟨undef, rfl, trivial, h⟩
                ·intro q1 w Γx Ωx h
                 refine OpS.mv rfl rfl rfl ?_
                 exact ⟨undef, rfl, trivial, h⟩
                ·intro q1 w Γx Ωx h
                 refine OpS.bin rfl rfl rfl rfl rfl ?_
                 exact ⟨undef, rfl, trivial, h⟩
                ·intro q1 w Γx Ωx h
                 refine OpS.mv rfl rfl rfl ?_
                 exact ⟨undef, (congrArg (fun z_ => some (Value.bool z_)) e22), trivial, h⟩
                ·intro q1 w Γx Ωx h
                 refine OpS.mv rfl rfl rfl ?_
                 exact ⟨undef, rfl, trivial, h⟩
                ·intro q1 w Γx Ωx h
                 refine OpS.mv rfl rfl rfl ?_
                 exact ⟨undef, rfl, trivial, h⟩
                ·intro q1 w Γx Ωx h
                 refine OpS.bin rfl rfl rfl rfl rfl ?_
                 exact ⟨undef, rfl, trivial, h⟩
                ·intro q1 w Γx Ωx h
                 refine OpS.pick rfl rfl rfl rfl ?_
                 exact ⟨undef, rfl, trivial, h⟩
                ·intro q1 w Γx Ωx h
                 refine OpS.mv rfl rfl rfl ?_
                 exact ⟨undef, (congrArg (fun z_ => some (Value.bool z_)) e24), trivial, h⟩
                ·intro q1 w Γx Ωx h
                 refine OpS.mv rfl rfl rfl ?_
                 exact ⟨undef, rfl, trivial, h⟩
                ·intro q1 w Γx Ωx h
                 refine OpS.toStr h Try.underlying22 Try.underlying5 Try.underlying9 rfl rfl rfl (V.at (.s (.s .z))) (fun u h102 => ?_)
                 exact ⟨u, rfl, trivial, h102⟩
                ·intro q1 w Γx Ωx h
                 refine OpS.mv rfl rfl rfl ?_
                 exact ⟨undef, rfl, trivial, h⟩
                ·intro q1 w Γx Ωx h
                 refine OpS.toStr h Try.underlying22 Try.underlying5 Try.underlying9 rfl rfl rfl (V.at .z) (fun u h103 => ?_)
                 exact ⟨u, rfl, trivial, h103⟩
                ·intro q1 w Γx Ωx h
                 refine OpS.nes h rfl rfl rfl rfl (V.at .z) (V.at (.s .z)) Try.underlying9 ?_
                 exact ⟨undef, rfl, trivial, h⟩
                ·intro q1 w Γx Ωx h
                 refine OpS.pick rfl rfl rfl rfl ?_
                 exact ⟨undef, rfl, trivial, h⟩
                ·intro q1 w Γx Ωx h
                 refine OpS.mv rfl rfl rfl ?_
                 exact ⟨undef, (congrArg (fun z_ => some (Value.bool z_)) e26), trivial, h⟩
                ·intro q1 w Γx Ωx h
                 have h : St e w ([(true, .val (Rep.slice (Rep.int .u8)) u33 y14.1), (false, .val Download_.rep u32 x2), (true, .val (Rep.slice (Rep.int .u8)) u31 y13.1), (false, .val Download_.rep u30 x2), (false, .val Download_.rep u28 y12.1), (false, .val Download_.rep u27 x2), (true, .val Download_.rep u25 y11.1), (false, .val Download_.rep u24 x2), (false, .val (Rep.slice (Rep.int .u8)) v2 a2), (false, .val (Rep.slice (Rep.int .u8)) u23 s5.1), (false, .val (Rep.slice Download_.rep) u18 ([y5.1, s3.2, a1]))] ++ Γx) ([(true, .box 28 Download_.rep u26 y11.1), (false, .box 51 field_Codes.rep u7 y10.2), (false, .box 28 Download_.rep u9 y5.1)] ++ Ωx) := h
                 refine OpS.loadB h .z PA.z Get.id ty28 rfl rfl rfl (fun u h104 => ?_)
                 exact ⟨u, rfl, trivial, h104⟩
                ·intro q1 w Γx Ωx h
                 have h : St e w ([(true, .val (Rep.slice (Rep.int .u8)) u33 y14.1), (false, .val Download_.rep u32 x2), (true, .val (Rep.slice (Rep.int .u8)) u31 y13.1), (false, .val Download_.rep u30 x2), (false, .val Download_.rep u28 y12.1), (false, .val Download_.rep u27 x2), (true, .val Download_.rep u25 y11.1), (false, .val Download_.rep u24 x2), (false, .val (Rep.slice (Rep.int .u8)) v2 a2), (false, .val (Rep.slice (Rep.int .u8)) u23 s5.1), (false, .val (Rep.slice Download_.rep) u18 ([y5.1, s3.2, a1]))] ++ Γx) ([(false, .box 28 Download_.rep u29 y12.1), (false, .box 51 field_Codes.rep u7 y10.2), (false, .box 28 Download_.rep u9 y5.1)] ++ Ωx) := h
                 refine OpS.loadB h .z PA.z Get.id ty28 rfl rfl rfl (fun u h105 => ?_)
                 exact ⟨u, rfl, trivial, h105⟩
                ·intro q1 w Γx Ωx h
                 refine OpS.callP h Try.func12 rfl rfl rfl rfl (vs := [(q1 16), (q1 17)]) rfl (ref30_Same_ok e28) (.cons (f := true) (V.at .z) (.cons (f := false) (V.at (.s .z)) .nil)) ?_
                 rintro _ w42 _ _ _ ⟨rfl, rfl, rfl, rfl⟩ h106
                 have h107 := h106 rfl rfl
                 simp only [List.cons_append, List.nil_append] at h107
                 exact ⟨undef, rfl, trivial, h107⟩
                ·intro q1 w Γx Ωx h
                 refine OpS.not rfl rfl rfl ?_
                 exact ⟨undef, rfl, trivial, h⟩
                ·intro q1 w Γx Ωx h
                 refine OpS.pick rfl rfl rfl rfl ?_
                 exact ⟨undef, rfl, trivial, h⟩
                ·intro q1 w Γx Ωx h
                 refine OpS.mv rfl rfl rfl ?_
                 exact ⟨undef, (congrArg (fun z_ => some (Value.bool z_)) e29), trivial, h⟩
                ·intro q1 w Γx Ωx h
                 have h : St e w ([(true, .val (Rep.slice (Rep.int .u8)) u33 y14.1), (false, .val Download_.rep u32 x2), (true, .val (Rep.slice (Rep.int .u8)) u31 y13.1), (false, .val Download_.rep u30 x2), (false, .val Download_.rep u28 y12.1), (false, .val Download_.rep u27 x2), (true, .val Download_.rep u25 y11.1), (false, .val Download_.rep u24 x2), (false, .val (Rep.slice (Rep.int .u8)) v2 a2), (false, .val (Rep.slice (Rep.int .u8)) u23 s5.1), (false, .val (Rep.slice Download_.rep) u18 ([y5.1, s3.2, a1]))] ++ Γx) ([(false, .box 28 Download_.rep u21 x2), (false, .box 51 field_Codes.rep u7 y10.2), (false, .box 28 Download_.rep u9 y5.1)] ++ Ωx) := h
                 refine OpS.loadB h .z PA.z Get.id ty28 rfl rfl rfl (fun u h108 => ?_)
                 exact ⟨u, rfl, trivial, h108⟩
                ·intro q1 w Γx Ωx h
                 refine OpS.callP h Try.func22 rfl rfl rfl rfl (vs := [(q1 22)]) rfl (transfer_Valid_ok e31) (.cons (f := false) (V.at .z) .nil) ?_
                 rintro _ w43 _ _ _ ⟨rfl, rfl, rfl, rfl⟩ h109
                 have h110 := h109 rfl rfl
                 simp only [List.cons_append, List.nil_append] at h110
                 exact ⟨undef, rfl, trivial, h110⟩
                ·intro q1 w Γx Ωx h
                 have h : St e w ([(true, .val (Rep.slice (Rep.int .u8)) u33 y14.1), (false, .val Download_.rep u32 x2), (true, .val (Rep.slice (Rep.int .u8)) u31 y13.1), (false, .val Download_.rep u30 x2), (false, .val Download_.rep u28 y12.1), (false, .val Download_.rep u27 x2), (true, .val Download_.rep u25 y11.1), (false, .val Download_.rep u24 x2), (false, .val (Rep.slice (Rep.int .u8)) v2 a2), (false, .val (Rep.slice (Rep.int .u8)) u23 s5.1), (false, .val (Rep.slice Download_.rep) u18 ([y5.1, s3.2, a1]))] ++ Γx) ([(false, .box 28 Download_.rep u21 x2), (false, .box 51 field_Codes.rep u7 y10.2), (false, .box 28 Download_.rep u9 y5.1)] ++ Ωx) := h
                 refine OpS.loadB h .z PA.z Get.id ty28 rfl rfl rfl (fun u h111 => ?_)
                 exact ⟨u, rfl, trivial, h111⟩
                ·intro q1 w Γx Ωx h
                 refine OpS.callP h Try.func23 rfl rfl rfl rfl (vs := [(q1 24)]) rfl (ref30_Valid_ok e32) (.cons (f := false) (V.at .z) .nil) ?_
                 rintro _ w44 _ _ _ ⟨rfl, rfl, rfl, rfl⟩ h112
                 have h113 := h112 rfl rfl
                 simp only [List.cons_append, List.nil_append] at h113
                 exact ⟨undef, rfl, trivial, h113⟩
                ·intro q1 w Γx Ωx h
                 refine OpS.neb Try.underlying4 rfl rfl rfl rfl ?_
                 exact ⟨undef, rfl, trivial, h⟩
                ·intro q1 w Γx Ωx h
                 refine OpS.pick rfl rfl rfl rfl ?_
                 exact ⟨undef, rfl, trivial, h⟩
                ·intro q1 w Γx Ωx h
                 refine OpS.mv rfl rfl rfl ?_
                 exact ⟨undef, (congrArg (fun z_ => some (Value.bool z_)) e33), trivial, h⟩
                ·intro q1 w Γx Ωx h
                 exact OpS.pass rfl rfl rfl ⟨undef, rfl, trivial, h⟩
                ·intro q1 w Γx Ωx h
                 exact OpS.pass rfl rfl rfl ⟨undef, rfl, trivial, h⟩
                ·intro q1 w Γx Ωx h
                 exact OpS.pass rfl rfl rfl ⟨undef, rfl, trivial, h⟩
                ·intro q1 w Γx Ωx h
                 exact OpS.pass rfl rfl rfl ⟨undef, rfl, trivial, h⟩
                ·intro q1 w Γx Ωx h
                 exact OpS.pass rfl rfl rfl ⟨undef, rfl, trivial, h⟩
                ·intro q1 w Γx Ωx h
                 refine OpS.pick rfl rfl rfl rfl ?_
                 exact ⟨undef, rfl, trivial, h⟩
                ·intro q1 w Γx Ωx h
                 refine OpS.mv rfl rfl rfl ?_
                 exact ⟨undef, rfl, trivial, h⟩
                ·intro q1 w Γx Ωx h
                 exact OpS.pass rfl rfl rfl ⟨undef, rfl, trivial, h⟩
                ·intro q1 w Γx Ωx h
                 exact OpS.pass rfl rfl rfl ⟨undef, rfl, trivial, h⟩
                ·intro q1 w Γx Ωx h
                 exact OpS.pass rfl rfl rfl ⟨undef, rfl, trivial, h⟩
                ·intro q1 w Γx Ωx h
                 exact OpS.pass rfl rfl rfl ⟨undef, rfl, trivial, h⟩
                ·intro q1 w Γx Ωx h
                 exact OpS.pass rfl rfl rfl ⟨undef, rfl, trivial, h⟩
                ·intro q1 w Γx Ωx h
                 exact OpS.pass rfl rfl rfl ⟨undef, rfl, trivial, h⟩
                ·intro q1 w Γx Ωx h
                 exact OpS.pass rfl rfl rfl ⟨undef, rfl, trivial, h⟩
                ·intro q1 w Γx Ωx h
                 exact OpS.pass rfl rfl rfl ⟨undef, rfl, trivial, h⟩
                ·intro q1 w Γx Ωx h
                 refine OpS.pick rfl rfl rfl rfl ?_
                 exact ⟨undef, rfl, trivial, h⟩
                have h114 : St e w [(true, .val Rep.str (q1 10) (toStr y13.1)), (true, .val Rep.str (q1 12) (toStr y14.1)), (true, .val Download_.rep (q1 16) y11.1), (false, .val Download_.rep (q1 17) y12.1), (false, .val Download_.rep (q1 22) x2), (false, .val Download_.rep (q1 24) x2), (true, .val (Rep.slice (Rep.int .u8)) u33 y14.1), (false, .val Download_.rep u32 x2), (true, .val (Rep.slice (Rep.int .u8)) u31 y13.1), (false, .val Download_.rep u30 x2), (false, .val Download_.rep u28 y12.1), (false, .val Download_.rep u27 x2), (true, .val Download_.rep u25 y11.1), (false, .val Download_.rep u24 x2), (false, .val (Rep.slice (Rep.int .u8)) v2 a2), (false, .val (Rep.slice (Rep.int .u8)) u23 s5.1), (false, .val (Rep.slice Download_.rep) u18 ([y5.1, s3.2, a1]))] [(false, .box 28 Download_.rep u29 y12.1), (true, .box 28 Download_.rep u26 y11.1), (false, .box 28 Download_.rep u21 x2), (false, .box 51 field_Codes.rep u7 y10.2), (false, .box 28 Download_.rep u9 y5.1)] := h
                refine RunL.nil ?_
                refine Run.slim [(231, .bool true), (2, v2), (5, .int .i64 a5), (6, .int .i64 a6), (19, u7), (20, u9), (119, u18), (120, .int .i64 (([y5.1, s3.2, a1]).length : Int)), (121, .int .i64 s4.1)] ⟨rfl, rfl, rfl, rfl, rfl, rfl, rfl, rfl, rfl, trivial⟩ ?_
                refine Run.slim [(2, v2), (5, .int .i64 a5), (6, .int .i64 a6), (19, u7), (20, u9), (119, u18), (120, .int .i64 (([y5.1, s3.2, a1]).length : Int)), (121, .int .i64 s4.1), (231, .bool true)] ⟨rfl, rfl, rfl, rfl, rfl, rfl, rfl, rfl, rfl, trivial⟩ ?_
                exact hj6 (true) _ _ ⟨rfl, (h114.facts (.atm (.s (.s (.s (.s (.s (.s (.s (.s (.s (.s (.s (.s (.s (.s .z)))))))))))))) (.atm (.s (.s (.s (.s (.s (.s (.s (.s (.s (.s (.s (.s (.s (.s (.s (.s .z)))))))))))))))) .nil))).picks (.cons (.s (.s (.s .z))) (.cons (.s (.s (.s .z))) .nil))⟩ hF
               ·
                have hG := hF
                subst e34
                have hF := hG
                obtain ⟨y18, e35, hF⟩ := bindP_use hF
                obtain ⟨y19, e36, hF⟩ := bindP_use hF
                obtain ⟨x8, e37, hF⟩ := letP_use hF
                refine iteP_use hF (fun e38 hF => ?_) (fun e38 hF => ?_)
                ·
                 have hG := hF
                 subst e38
                 have hF := hG
                 refine Run.drawV (Ωs := [(false, .box 51 field_Codes.rep u7 y10.2), (false, .box 28 Download_.rep u9 y5.1)]) [⟨some 187, some (.int .i64 y11.2), fun _ => [], fun ds_ u_ => [], [], [], none⟩, ⟨some 188, some (.int .i64 y12.2), fun _ => [], fun ds_ u_ => [], [], [], none⟩, ⟨some 189, some (.bool (y11.2 != y12.2)), fun _ => [], fun ds_ u_ => [], [], [], none⟩, ⟨some 190, some (.bool false), fun _ => [], fun ds_ u_ => [], [], [], none⟩, ⟨some 191, some (.int .i64 y13.2), fun _ => [], fun ds_ u_ => [], [], [], none⟩, ⟨some 192, some (.int .i64 y14.2), fun _ => [], fun ds_ u_ => [], [], [], none⟩, ⟨some 193, some (.bool (y13.2 != y14.2)), fun _ => [], fun ds_ u_ => [], [], [], none⟩, ⟨some 194, some (.bool (y13.2 != y14.2)), fun _ => [], fun ds_ u_ => [], [], [], none⟩, ⟨some 195, some (.bool false), fun _ => [], fun ds_ u_ => [], [], [], none⟩, ⟨some 196, some (u31), fun _ => [], fun ds_ u_ => [], [], [], none⟩, ⟨some 197, none, fun u_ => [(true, .val Rep.str u_ (toStr y13.1))], fun ds_ u_ => [], [], [], none⟩, ⟨some 198, some (u33), fun _ => [], fun ds_ u_ => [], [], [], none⟩, ⟨some 199, none, fun u_ => [(true, .val Rep.str u_ (toStr y14.1))], fun ds_ u_ => [], [], [], none⟩, ⟨some 200, some (.bool ((toStr y13.1) != (toStr y14.1))), fun _ => [], fun ds_ u_ => [], [], [], none⟩, ⟨some 201, some (.bool ((toStr y13.1) != (toStr y14.1))), fun _ => [], fun ds_ u_ => [], [], [], none⟩, ⟨some 202, some (.bool false), fun _ => [], fun ds_ u_ => [], [], [], none⟩, ⟨some 203, none, fun u_ => [(true, .val Download_.rep u_ y11.1)], fun ds_ u_ => [], [], [(1, [])], none⟩, ⟨some 204, none, fun u_ => [(false, .val Download_.rep u_ y12.1)], fun ds_ u_ => [], [], [(0, [])], none⟩, ⟨some 205, some (.bool y15), fun _ => [], fun ds_ u_ => [], [], [], none⟩, ⟨some 206, some (.bool (!y15)), fun _ => [], fun ds_ u_ => [], [], [], none⟩, ⟨some 207, some (.bool (!y15)), fun _ => [], fun ds_ u_ => [], [], [], none⟩, ⟨some 208, some (.bool false), fun _ => [], fun ds_ u_ => [], [], [], none⟩, ⟨some 209, none, fun u_ => [(false, .val Download_.rep u_ x2)], fun ds_ u_ => [], [], [(2, [])], none⟩, ⟨some 210, some (.bool y16), fun _ => [], fun ds_ u_ => [], [], [], none⟩, ⟨some 211, none, fun u_ => [(false, .val Download_.rep u_ x2)], fun ds_ u_ => [], [], [(2, [])], none⟩, ⟨some 212, some (.bool y17), fun _ => [], fun ds_ u_ => [], [], [], none⟩, ⟨some 213, some (.bool (y16 != y17)), fun _ => [], fun ds_ u_ => [], [], [], none⟩, ⟨some 214, some (.bool (y16 != y17)), fun _ => [], fun ds_ u_ => [], [], [], none⟩, ⟨some 215, some (.bool false), fun _ => [], fun ds_ u_ => [], [], [], none⟩, ⟨some 216, none, fun u_ => [(false, .val Download_.rep u_ x2)], fun ds_ u_ => [], [], [(2, [])], none⟩, ⟨some 217, some (.bool y18), fun _ => [], fun ds_ u_ => [], [], [], none⟩, ⟨some 218, none, fun u_ => [(false, .val Download_.rep u_ x2)], fun ds_ u_ => [], [], [(2, [])], none⟩, ⟨some 219, some (.bool y19), fun _ => [], fun ds_ u_ => [], [], [], none⟩, ⟨some 220, some (.bool (y18 != y19)), fun _ => [], fun ds_ u_ => [], [], [], none⟩, ⟨some 221, some (.bool (y18 != y19)), fun _ => [], fun ds_ u_ => [], [], [], none⟩, ⟨some 222, some (.bool true), fun _ => [], fun ds_ u_ => [], [], [], none⟩, ⟨some 223, some undef, fun _ => [], fun _ _ => [], [], [], none⟩, ⟨some 224, some undef, fun _ => [], fun _ _ => [], [], [], none⟩, ⟨some 225, some undef, fun _ => [], fun _ _ => [], [], [], none⟩, ⟨some 226, some undef, fun _ => [], fun _ _ => [], [], [], none⟩, ⟨some 227, some undef, fun _ => [], fun _ _ => [], [], [], none⟩, ⟨some 228, some undef, fun _ => [], fun _ _ => [], [], [], none⟩, ⟨some 229, some undef, fun _ => [], fun _ _ => [], [], [], none⟩, ⟨some 230, some undef, fun _ => [], fun _ _ => [], [], [], none⟩, ⟨some 231, some (.bool true), fun _ => [], fun ds_ u_ => [], [], [], none⟩] [[], [], [0, 1], [2], [3], [3], [4, 5, 3], [3, 6], [7], [8], [9, 8], [8], [11, 8], [10, 12, 8], [8, 13], [14], [15], [15], [16, 17, 15], [18, 15], [15, 19], [20], [21], [22, 21], [21], [24, 21], [23, 25, 21], [21, 26], [27], [28], [29, 28], [28], [31, 28], [30, 32, 28], [28, 33], [34], [35], [35], [35], [35], [35], [35], [35], [35], [35, 43]] [[(false, .box 28 Download_.rep u29 y12.1)], [(true, .box 28 Download_.rep u26 y11.1)], [(false, .box 28 Download_.rep u21 x2)]] [0, 1, 2, 3, 4, 5, 6, 7, 8, 9, 10, 11, 12, 13, 14, 15, 16, 17, 18, 19, 20, 21, 22, 23, 24, 25, 26, 27, 28, 29, 30, 31, 32, 33, 34, 35, 36, 37, 38, 39, 40, 41, 42, 43, 44, 45, 46, 47] Try_mixed rfl rfl rfl h77 (.cons ?_ (.cons ?_ (.cons ?_ (.cons ?_ (.cons ?_ (.cons ?_ (.cons ?_ (.cons ?_ (.cons ?_ (.cons ?_ (.cons ?_ (.cons ?_ (.cons ?_ (.cons ?_ (.cons ?_ (.cons ?_ (.cons ?_ (.cons ?_ (.cons ?_ (.cons ?_ (.cons ?_ (.cons ?_ (.cons ?_ (.cons ?_ (.cons ?_ (.cons ?_ (.cons ?_ (.cons ?_ (.cons ?_ (.cons ?_ (.cons ?_ (.cons ?_ (.cons ?_ (.cons ?_ (.cons ?_ (.cons ?_ (.cons ?_ (.cons ?_ (.cons ?_ (.cons ?_ (.cons ?_ (.cons ?_ (.cons ?_ (.cons ?_ (.cons ?_ .nil))))))))))))))))))))))))))))))))))))))))))))) (fun q1 w hq6 h => ?_)
                 ·intro q1 w Γx Ωx h
                  refine OpS.mv rfl rfl rfl ?_
                  exact ⟨undef, rfl, trivial, h⟩
                 ·intro q1 w Γx Ωx h
                  refine OpS.mv rfl rfl rfl ?_
                  exact ⟨undef, rfl, trivial, h⟩
                 ·intro q1 w Γx Ωx h
                  refine OpS.bin rfl rfl rfl rfl rfl ?_
                  exact ⟨undef, rfl, trivial, h⟩
                 ·intro q1 w Γx Ωx h
                  refine OpS.mv rfl rfl rfl ?_
                  exact ⟨undef, (congrArg (fun z_ => some (Value.bool z_)) e22), trivial, h⟩
                 ·intro q1 w Γx Ωx h
                  refine OpS.mv rfl rfl rfl ?_
                  exact ⟨undef, rfl, trivial, h⟩
                 ·intro q1 w Γx Ωx h
                  refine OpS.mv rfl rfl rfl ?_
                  exact ⟨undef, rfl, trivial, h⟩
                 ·intro q1 w Γx Ωx h
                  refine OpS.bin rfl rfl rfl rfl rfl ?_
                  exact ⟨undef, rfl, trivial, h⟩
                 ·intro q1 w Γx Ωx h
                  refine OpS.pick rfl rfl rfl rfl ?_
                  exact ⟨undef, rfl, trivial, h⟩
                 ·intro q1 w Γx Ωx h
                  refine OpS.mv rfl rfl rfl ?_
                  exact ⟨undef, (congrArg (fun z_ => some (Value.bool z_)) e24), trivial, h⟩
                 ·intro q1 w Γx Ωx h
                  refine OpS.mv rfl rfl rfl ?_
                  exact ⟨undef, rfl, trivial, h⟩
                 ·intro q1 w Γx Ωx h
                  refine OpS.toStr h Try.underlying22 Try.underlying5 Try.underlying9 rfl rfl rfl (V.at (.s (.s .z))) (fun u h121 => ?_)
                  exact ⟨u, rfl, trivial, h121⟩
                 ·intro q1 w Γx Ωx h
                  refine OpS.mv rfl rfl rfl ?_
                  exact ⟨undef, rfl, trivial, h⟩
                 ·intro q1 w Γx Ωx h
                  refine OpS.toStr h Try.underlying22 Try.underlying5 Try.underlying9 rfl rfl rfl (V.at .z) (fun u h122 => ?_)
                  exact ⟨u, rfl, trivial, h122⟩
                 ·intro q1 w Γx Ωx h
                  refine OpS.nes h rfl rfl rfl rfl (V.at .z) (V.at (.s .z)) Try.underlying9 ?_
                  exact ⟨undef, rfl, trivial, h⟩
                 ·intro q1 w Γx Ωx h
                  refine OpS.pick rfl rfl rfl rfl ?_
                  exact ⟨undef, rfl, trivial, h⟩
                 ·intro q1 w Γx Ωx h
                  refine OpS.mv rfl rfl rfl ?_
                  exact ⟨undef, (congrArg (fun z_ => some (Value.bool z_)) e26), trivial, h⟩
                 ·intro q1 w Γx Ωx h
                  have h : St e w ([(true, .val (Rep.slice (Rep.int .u8)) u33 y14.1), (false, .val Download_.rep u32 x2), (true, .val (Rep.slice (Rep.int .u8)) u31 y13.1), (false, .val Download_.rep u30 x2), (false, .val Download_.rep u28 y12.1), (false, .val Download_.rep u27 x2), (true, .val Download_.rep u25 y11.1), (false, .val Download_.rep u24 x2), (false, .val (Rep.slice (Rep.int .u8)) v2 a2), (false, .val (Rep.slice (Rep.int .u8)) u23 s5.1), (false, .val (Rep.slice Download_.rep) u18 ([y5.1, s3.2, a1]))] ++ Γx) ([(true, .box 28 Download_.rep u26 y11.1), (false, .box 51 field_Codes.rep u7 y10.2), (false, .box 28 Download_.rep u9 y5.1)] ++ Ωx) := h
                  refine OpS.loadB h .z PA.z Get.id ty28 rfl rfl rfl (fun u h123 => ?_)
                  exact ⟨u, rfl, trivial, h123⟩
                 ·intro q1 w Γx Ωx h
                  have h : St e w ([(true, .val (Rep.slice (Rep.int .u8)) u33 y14.1), (false, .val Download_.rep u32 x2), (true, .val (Rep.slice (Rep.int .u8)) u31 y13.1), (false, .val Download_.rep u30 x2), (false, .val Download_.rep u28 y12.1), (false, .val Download_.rep u27 x2), (true, .val Download_.rep u25 y11.1), (false, .val Download_.rep u24 x2), (false, .val (Rep.slice (Rep.int .u8)) v2 a2), (false, .val (Rep.slice (Rep.int .u8)) u23 s5.1), (false, .val (Rep.slice Download_.rep) u18 ([y5.1, s3.2, a1]))] ++ Γx) ([(false, .box 28 Download_.rep u29 y12.1), (false, .box 51 field_Codes.rep u7 y10.2), (false, .box 28 Download_.rep u9 y5.1)] ++ Ωx) := h
                  refine OpS.loadB h .z PA.z Get.id ty28 rfl rfl rfl (fun u h124 => ?_)
                  exact ⟨u, rfl, trivial, h124⟩
                 ·intro q1 w Γx Ωx h
                  refine OpS.callP h Try.func12 rfl rfl rfl rfl (vs := [(q1 16), (q1 17)]) rfl (ref30_Same_ok e28) (.cons (f := true) (V.at .z) (.cons (f := false) (V.at (.s .z)) .nil)) ?_
                  rintro _ w47 _ _ _ ⟨rfl, rfl, rfl, rfl⟩ h125
                  have h126 := h125 rfl rfl
                  simp only [List.cons_append, List.nil_append] at h126
                  exact ⟨undef, rfl, trivial, h126⟩
                 ·intro q1 w Γx Ωx h
                  refine OpS.not rfl rfl rfl ?_
                  exact ⟨undef, rfl, trivial, h⟩
                 ·intro q1 w Γx Ωx h
                  refine OpS.pick rfl rfl rfl rfl ?_
                  exact ⟨undef, rfl, trivial, h⟩
                 ·intro q1 w Γx Ωx h
                  refine OpS.mv rfl rfl rfl ?_
                  exact ⟨undef, (congrArg (fun z_ => some (Value.bool z_)) e29), trivial, h⟩
                 ·intro q1 w Γx Ωx h
                  have h : St e w ([(true, .val (Rep.slice (Rep.int .u8)) u33 y14.1), (false, .val Download_.rep u32 x2), (true, .val (Rep.slice (Rep.int .u8)) u31 y13.1), (false, .val Download_.rep u30 x2), (false, .val Download_.rep u28 y12.1), (false, .val Download_.rep u27 x2), (true, .val Download_.rep u25 y11.1), (false, .val Download_.rep u24 x2), (false, .val (Rep.slice (Rep.int .u8)) v2 a2), (false, .val (Rep.slice (Rep.int .u8)) u23 s5.1), (false, .val (Rep.slice Download_.rep) u18 ([y5.1, s3.2, a1]))] ++ Γx) ([(false, .box 28 Download_.rep u21 x2), (false, .box 51 field_Codes.rep u7 y10.2), (false, .box 28 Download_.rep u9 y5.1)] ++ Ωx) := h
                  refine OpS.loadB h .z PA.z Get.id ty28 rfl rfl rfl (fun u h127 => ?_)
                  exact ⟨u, rfl, trivial, h127⟩
                 ·intro q1 w Γx Ωx h
                  refine OpS.callP h Try.func22 rfl rfl rfl rfl (vs := [(q1 22)]) rfl (transfer_Valid_ok e31) (.cons (f := false) (V.at .z) .nil) ?_
                  rintro _ w48 _ _ _ ⟨rfl, rfl, rfl, rfl⟩ h128
                  have h129 := h128 rfl rfl
                  simp only [List.cons_append, List.nil_append] at h129
                  exact ⟨undef, rfl, trivial, h129⟩
                 ·intro q1 w Γx Ωx h
                  have h : St e w ([(true, .val (Rep.slice (Rep.int .u8)) u33 y14.1), (false, .val Download_.rep u32 x2), (true, .val (Rep.slice (Rep.int .u8)) u31 y13.1), (false, .val Download_.rep u30 x2), (false, .val Download_.rep u28 y12.1), (false, .val Download_.rep u27 x2), (true, .val Download_.rep u25 y11.1), (false, .val Download_.rep u24 x2), (false, .val (Rep.slice (Rep.int .u8)) v2 a2), (false, .val (Rep.slice (Rep.int .u8)) u23 s5.1), (false, .val (Rep.slice Download_.rep) u18 ([y5.1, s3.2, a1]))] ++ Γx) ([(false, .box 28 Download_.rep u21 x2), (false, .box 51 field_Codes.rep u7 y10.2), (false, .box 28 Download_.rep u9 y5.1)] ++ Ωx) := h
                  refine OpS.loadB h .z PA.z Get.id ty28 rfl rfl rfl (fun u h130 => ?_)
                  exact ⟨u, rfl, trivial, h130⟩
                 ·intro q1 w Γx Ωx h
                  refine OpS.callP h Try.func23 rfl rfl rfl rfl (vs := [(q1 24)]) rfl (ref30_Valid_ok e32) (.cons (f := false) (V.at .z) .nil) ?_
                  rintro _ w49 _ _ _ ⟨rfl, rfl, rfl, rfl⟩ h131
                  have h132 := h131 rfl rfl
                  simp only [List.cons_append, List.nil_append] at h132
                  exact ⟨undef, rfl, trivial, h132⟩
                 ·intro q1 w Γx Ωx h
                  refine OpS.neb Try.underlying4 rfl rfl rfl rfl ?_
                  exact ⟨undef, rfl, trivial, h⟩
                 ·intro q1 w Γx Ωx h
                  refine OpS.pick rfl rfl rfl rfl ?_
                  exact ⟨undef, rfl, trivial, h⟩
                 ·intro q1 w Γx Ωx h
                  refine OpS.mv rfl rfl rfl ?_
                  exact ⟨undef, (congrArg (fun z_ => some (Value.bool z_)) e33), trivial, h⟩
                 ·intro q1 w Γx Ωx h
                  have h : St e w ([(true, .val (Rep.slice (Rep.int .u8)) u33 y14.1), (false, .val Download_.rep u32 x2), (true, .val (Rep.slice (Rep.int .u8)) u31 y13.1), (false, .val Download_.rep u30 x2), (false, .val Download_.rep u28 y12.1), (false, .val Download_.rep u27 x2), (true, .val Download_.rep u25 y11.1), (false, .val Download_.rep u24 x2), (false, .val (Rep.slice (Rep.int .u8)) v2 a2), (false, .val (Rep.slice (Rep.int .u8)) u23 s5.1), (false, .val (Rep.slice Download_.rep) u18 ([y5.1, s3.2, a1]))] ++ Γx) ([(false, .box 28 Download_.rep u21 x2), (false, .box 51 field_Codes.rep u7 y10.2), (false, .box 28 Download_.rep u9 y5.1)] ++ Ωx) := h
                  refine OpS.loadB h .z PA.z Get.id ty28 rfl rfl rfl (fun u h133 => ?_)
                  exact ⟨u, rfl, trivial, h133⟩
                 ·intro q1 w Γx Ωx h
                  refine OpS.callP h Try.func15 rfl rfl rfl rfl (vs := [(q1 29)]) rfl (transfer_Complete_ok e35) (.cons (f := false) (V.at .z) .nil) ?_
                  rintro _ w50 _ _ _ ⟨rfl, rfl, rfl, rfl⟩ h134
                  have h135 := h134 rfl rfl
                  simp only [List.cons_append, List.nil_append] at h135
                  exact ⟨undef, rfl, trivial, h135⟩
                 ·intro q1 w Γx Ωx h
                  have h : St e w ([(true, .val (Rep.slice (Rep.int .u8)) u33 y14.1), (false, .val Download_.rep u32 x2), (true, .val (Rep.slice (Rep.int .u8)) u31 y13.1), (false, .val Download_.rep u30 x2), (false, .val Download_.rep u28 y12.1), (false, .val Download_.rep u27 x2), (true, .val Download_.rep u25 y11.1), (false, .val Download_.rep u24 x2), (false, .val (Rep.slice (Rep.int .u8)) v2 a2), (false, .val (Rep.slice (Rep.int .u8)) u23 s5.1), (false, .val (Rep.slice Download_.rep) u18 ([y5.1, s3.2, a1]))] ++ Γx) ([(false, .box 28 Download_.rep u21 x2), (false, .box 51 field_Codes.rep u7 y10.2), (false, .box 28 Download_.rep u9 y5.1)] ++ Ωx) := h
                  refine OpS.loadB h .z PA.z Get.id ty28 rfl rfl rfl (fun u h136 => ?_)
                  exact ⟨u, rfl, trivial, h136⟩
                 ·intro q1 w Γx Ωx h
                  refine OpS.callP h Try.func24 rfl rfl rfl rfl (vs := [(q1 31)]) rfl (ref30_Complete_ok e36) (.cons (f := false) (V.at .z) .nil) ?_
                  rintro _ w51 _ _ _ ⟨rfl, rfl, rfl, rfl⟩ h137
                  have h138 := h137 rfl rfl
                  simp only [List.cons_append, List.nil_append] at h138
                  exact ⟨undef, rfl, trivial, h138⟩
                 ·intro q1 w Γx Ωx h
                  refine OpS.neb Try.underlying4 rfl rfl rfl rfl ?_
                  exact ⟨undef, rfl, trivial, h⟩
                 ·intro q1 w Γx Ωx h
                  refine OpS.pick rfl rfl rfl rfl ?_
                  exact ⟨undef, rfl, trivial, h⟩
                 ·intro q1 w Γx Ωx h
                  refine OpS.mv rfl rfl rfl ?_
                  exact ⟨undef, (congrArg (fun z_ => some (Value.bool z_)) e37), trivial, h⟩
                 ·intro q1 w Γx Ωx h
                  exact OpS.pass rfl rfl rfl ⟨undef, rfl, trivial, h⟩
                 ·intro q1 w Γx Ωx h
                  exact OpS.pass rfl rfl rfl ⟨undef, rfl, trivial, h⟩
                 ·intro q1 w Γx Ωx h
                  exact OpS.pass rfl rfl rfl ⟨undef, rfl, trivial, h⟩
                 ·intro q1 w Γx Ωx h
                  exact OpS.pass rfl rfl rfl ⟨undef, rfl, trivial, h⟩
                 ·intro q1 w Γx Ωx h
                  exact OpS.pass rfl rfl rfl ⟨undef, rfl, trivial, h⟩
                 ·intro q1 w Γx Ωx h
                  exact OpS.pass rfl rfl rfl ⟨undef, rfl, trivial, h⟩
                 ·intro q1 w Γx Ωx h
                  exact OpS.pass rfl rfl rfl ⟨undef, rfl, trivial, h⟩
                 ·intro q1 w Γx Ωx h
                  exact OpS.pass rfl rfl rfl ⟨undef, rfl, trivial, h⟩
                 ·intro q1 w Γx Ωx h
                  refine OpS.pick rfl rfl rfl rfl ?_
                  exact ⟨undef, rfl, trivial, h⟩
                 have h139 : St e w [(true, .val Rep.str (q1 10) (toStr y13.1)), (true, .val Rep.str (q1 12) (toStr y14.1)), (true, .val Download_.rep (q1 16) y11.1), (false, .val Download_.rep (q1 17) y12.1), (false, .val Download_.rep (q1 22) x2), (false, .val Download_.rep (q1 24) x2), (false, .val Download_.rep (q1 29) x2), (false, .val Download_.rep (q1 31) x2), (true, .val (Rep.slice (Rep.int .u8)) u33 y14.1), (false, .val Download_.rep u32 x2), (true, .val (Rep.slice (Rep.int .u8)) u31 y13.1), (false, .val Download_.rep u30 x2), (false, .val Download_.rep u28 y12.1), (false, .val Download_.rep u27 x2), (true, .val Download_.rep u25 y11.1), (false, .val Download_.rep u24 x2), (false, .val (Rep.slice (Rep.int .u8)) v2 a2), (false, .val (Rep.slice (Rep.int .u8)) u23 s5.1), (false, .val (Rep.slice Download_.rep) u18 ([y5.1, s3.2, a1]))] [(false, .box 28 Download_.rep u29 y12.1), (true, .box 28 Download_.rep u26 y11.1), (false, .box 28 Download_.rep u21 x2), (false, .box 51 field_Codes.rep u7 y10.2), (false, .box 28 Download_.rep u9 y5.1)] := h
                 refine RunL.nil ?_
                 refine Run.slim [(231, .bool true), (2, v2), (5, .int .i64 a5), (6, .int .i64 a6), (19, u7), (20, u9), (119, u18), (120, .int .i64 (([y5.1, s3.2, a1]).length : Int)), (121, .int .i64 s4.1)] ⟨rfl, rfl, rfl, rfl, rfl, rfl, rfl, rfl, rfl, trivial⟩ ?_
                 refine Run.slim [(2, v2), (5, .int .i64 a5), (6, .int .i64 a6), (19, u7), (20, u9), (119, u18), (120, .int .i64 (([y5.1, s3.2, a1]).length : Int)), (121, .int .i64 s4.1), (231, .bool true)] ⟨rfl, rfl, rfl, rfl, rfl, rfl, rfl, rfl, rfl, trivial⟩ ?_
                 exact hj6 (true) _ _ ⟨rfl, (h139.facts (.atm (.s (.s (.s (.s (.s (.s (.s (.s (.s (.s (.s (.s (.s (.s (.s (.s .z)))))))))))))))) (.atm (.s (.s (.s (.s (.s (.s (.s (.s (.s (.s (.s (.s (.s (.s (.s (.s (.s (.s .z)))))))))))))))))) .nil))).picks (.cons (.s (.s (.s .z))) (.cons (.s (.s (.s .z))) .nil))⟩ hF
                ·
                 have hG := hF
                 subst e38
                 have hF := hG
                 obtain ⟨y20, e39, hF⟩ := bindP_use hF
                 obtain ⟨y21, e40, hF⟩ := bindP_use hF
                 obtain ⟨y22, e41, hF⟩ := bindP_use hF
                 refine Run.drawV (Ωs := [(false, .box 51 field_Codes.rep u7 y10.2), (false, .box 28 Download_.rep u9 y5.1)]) [⟨some 187, some (.int .i64 y11.2), fun _ => [], fun ds_ u_ => [], [], [], none⟩, ⟨some 188, some (.int .i64 y12.2), fun _ => [], fun ds_ u_ => [], [], [], none⟩, ⟨some 189, some (.bool (y11.2 != y12.2)), fun _ => [], fun ds_ u_ => [], [], [], none⟩, ⟨some 190, some (.bool false), fun _ => [], fun ds_ u_ => [], [], [], none⟩, ⟨some 191, some (.int .i64 y13.2), fun _ => [], fun ds_ u_ => [], [], [], none⟩, ⟨some 192, some (.int .i64 y14.2), fun _ => [], fun ds_ u_ => [], [], [], none⟩, ⟨some 193, some (.bool (y13.2 != y14.2)), fun _ => [], fun ds_ u_ => [], [], [], none⟩, ⟨some 194, some (.bool (y13.2 != y14.2)), fun _ => [], fun ds_ u_ => [], [], [], none⟩, ⟨some 195, some (.bool false), fun _ => [], fun ds_ u_ => [], [], [], none⟩, ⟨some 196, some (u31), fun _ => [], fun ds_ u_ => [], [], [], none⟩, ⟨some 197, none, fun u_ => [(true, .val Rep.str u_ (toStr y13.1))], fun ds_ u_ => [], [], [], none⟩, ⟨some 198, some (u33), fun _ => [], fun ds_ u_ => [], [], [], none⟩, ⟨some 199, none, fun u_ => [(true, .val Rep.str u_ (toStr y14.1))], fun ds_ u_ => [], [], [], none⟩, ⟨some 200, some (.bool ((toStr y13.1) != (toStr y14.1))), fun _ => [], fun ds_ u_ => [], [], [], none⟩, ⟨some 201, some (.bool ((toStr y13.1) != (toStr y14.1))), fun _ => [], fun ds_ u_ => [], [], [], none⟩, ⟨some 202, some (.bool false), fun _ => [], fun ds_ u_ => [], [], [], none⟩, ⟨some 203, none, fun u_ => [(true, .val Download_.rep u_ y11.1)], fun ds_ u_ => [], [], [(1, [])], none⟩, ⟨some 204, none, fun u_ => [(false, .val Download_.rep u_ y12.1)], fun ds_ u_ => [], [], [(0, [])], none⟩, ⟨some 205, some (.bool y15), fun _ => [], fun ds_ u_ => [], [], [], none⟩, ⟨some 206, some (.bool (!y15)), fun _ => [], fun ds_ u_ => [], [], [], none⟩, ⟨some 207, some (.bool (!y15)), fun _ => [], fun ds_ u_ => [], [], [], none⟩, ⟨some 208, some (.bool false), fun _ => [], fun ds_ u_ => [], [], [], none⟩, ⟨some 209, none, fun u_ => [(false, .val Download_.rep u_ x2)], fun ds_ u_ => [], [], [(2, [])], none⟩, ⟨some 210, some (.bool y16), fun _ => [], fun ds_ u_ => [], [], [], none⟩, ⟨some 211, none, fun u_ => [(false, .val Download_.rep u_ x2)], fun ds_ u_ => [], [], [(2, [])], none⟩, ⟨some 212, some (.bool y17), fun _ => [], fun ds_ u_ => [], [], [], none⟩, ⟨some 213, some (.bool (y16 != y17)), fun _ => [], fun ds_ u_ => [], [], [], none⟩, ⟨some 214, some (.bool (y16 != y17)), fun _ => [], fun ds_ u_ => [], [], [], none⟩, ⟨some 215, some (.bool false), fun _ => [], fun ds_ u_ => [], [], [], none⟩, ⟨some 216, none, fun u_ => [(false, .val Download_.rep u_ x2)], fun ds_ u_ => [], [], [(2, [])], none⟩, ⟨some 217, some (.bool y18), fun _ => [], fun ds_ u_ => [], [], [], none⟩, ⟨some 218, none, fun u_ => [(false, .val Download_.rep u_ x2)], fun ds_ u_ => [], [], [(2, [])], none⟩, ⟨some 219, some (.bool y19), fun _ => [], fun ds_ u_ => [], [], [], none⟩, ⟨some 220, some (.bool (y18 != y19)), fun _ => [], fun ds_ u_ => [], [], [], none⟩, ⟨some 221, some (.bool (y18 != y19)), fun _ => [], fun ds_ u_ => [], [], [], none⟩, ⟨some 222, some (.bool false), fun _ => [], fun ds_ u_ => [], [], [], none⟩, ⟨some 223, none, fun u_ => [(false, .val Download_.rep u_ x2)], fun ds_ u_ => [], [], [(2, [])], none⟩, ⟨some 224, some (.int .i64 a6), fun _ => [], fun ds_ u_ => [], [], [], none⟩, ⟨some 225, none, fun u_ => [(true, .val (Rep.slice (Rep.int .i64)) u_ y20)], fun ds_ u_ => [], [], [], none⟩, ⟨some 226, none, fun u_ => [(false, .val Download_.rep u_ x2)], fun ds_ u_ => [], [], [(2, [])], none⟩, ⟨some 227, some (.int .i64 a6), fun _ => [], fun ds_ u_ => [], [], [], none⟩, ⟨some 228, none, fun u_ => [(true, .val (Rep.slice (Rep.int .i64)) u_ y21)], fun ds_ u_ => [], [], [], none⟩, ⟨some 229, some (.bool y22), fun _ => [], fun ds_ u_ => [], [], [], none⟩, ⟨some 230, some (.bool (!y22)), fun _ => [], fun ds_ u_ => [], [], [], none⟩, ⟨some 231, some (.bool (!y22)), fun _ => [], fun ds_ u_ => [], [], [], none⟩] [[], [], [0, 1], [2], [3], [3], [4, 5, 3], [3, 6], [7], [8], [9, 8], [8], [11, 8], [10, 12, 8], [8, 13], [14], [15], [15], [16, 17, 15], [18, 15], [15, 19], [20], [21], [22, 21], [21], [24, 21], [23, 25, 21], [21, 26], [27], [28], [29, 28], [28], [31, 28], [30, 32, 28], [28, 33], [34], [35], [35], [36, 37, 35], [35], [35], [39, 40, 35], [38, 41, 35], [42, 35], [35, 43]] [[(false, .box 28 Download_.rep u29 y12.1)], [(true, .box 28 Download_.rep u26 y11.1)], [(false, .box 28 Download_.rep u21 x2)]] [0, 1, 2, 3, 4, 5, 6, 7, 8, 9, 10, 11, 12, 13, 14, 15, 16, 17, 18, 19, 20, 21, 22, 23, 24, 25, 26, 27, 28, 29, 30, 31, 32, 33, 34, 35, 36, 37, 38, 39, 40, 41, 42, 43, 44, 45, 46, 47] Try_mixed rfl rfl rfl h77 (.cons ?_ (.cons ?_ (.cons ?_ (.cons ?_ (.cons ?_ (.cons ?_ (.cons ?_ (.cons ?_ (.cons ?_ (.cons ?_ (.cons ?_ (.cons ?_ (.cons ?_ (.cons ?_ (.cons ?_ (.cons ?_ (.cons ?_ (.cons ?_ (.cons ?_ (.cons ?_ (.cons ?_ (.cons ?_ (.cons ?_ (.cons ?_ (.cons ?_ (.cons ?_ (.cons ?_ (.cons ?_ (.cons ?_ (.cons ?_ (.cons ?_ (.cons ?_ (.cons ?_ (.cons ?_ (.cons ?_ (.cons ?_ (.cons ?_ (.cons ?_ (.cons ?_ (.cons ?_ (.cons ?_ (.cons ?_ (.cons ?_ (.cons ?_ (.cons ?_ .nil))))))))))))))))))))))))))))))))))))))))))))) (fun q1 w hq7 h => ?_)
                 ·intro q1 w Γx Ωx h
                  refine OpS.mv rfl rfl rfl ?_
                  exact ⟨undef, rfl, trivial, h⟩
                 ·intro q1 w Γx Ωx h
                  refine OpS.mv rfl rfl rfl ?_
                  exact ⟨undef, rfl, trivial, h⟩
                 ·intro q1 w Γx Ωx h
                  refine OpS.bin rfl rfl rfl rfl rfl ?_
                  exact ⟨undef, rfl, trivial, h⟩
                 ·intro q1 w Γx Ωx h
                  refine OpS.mv rfl rfl rfl ?_
                  exact ⟨undef, (congrArg (fun z_ => some (Value.bool z_)) e22), trivial, h⟩
                 ·intro q1 w Γx Ωx h
                  refine OpS.mv rfl rfl rfl ?_
                  exact ⟨undef, rfl, trivial, h⟩
                 ·intro q1 w Γx Ωx h
                  refine OpS.mv rfl rfl rfl ?_
                  exact ⟨undef, rfl, trivial, h⟩
                 ·intro q1 w Γx Ωx h
                  refine OpS.bin rfl rfl rfl rfl rfl ?_
                  exact ⟨undef, rfl, trivial, h⟩
                 ·intro q1 w Γx Ωx h
                  refine OpS.pick rfl rfl rfl rfl ?_
                  exact ⟨undef, rfl, trivial, h⟩
                 ·intro q1 w Γx Ωx h
                  refine OpS.mv rfl rfl rfl ?_
                  exact ⟨undef, (congrArg (fun z_ => some (Value.bool z_)) e24), trivial, h⟩
                 ·intro q1 w Γx Ωx h
                  refine OpS.mv rfl rfl rfl ?_
                  exact ⟨undef, rfl, trivial, h⟩
                 ·intro q1 w Γx Ωx h
                  refine OpS.toStr h Try.underlying22 Try.underlying5 Try.underlying9 rfl rfl rfl (V.at (.s (.s .z))) (fun u h150 => ?_)
                  exact ⟨u, rfl, trivial, h150⟩
                 ·intro q1 w Γx Ωx h
                  refine OpS.mv rfl rfl rfl ?_
                  exact ⟨undef, rfl, trivial, h⟩
                 ·intro q1 w Γx Ωx h
                  refine OpS.toStr h Try.underlying22 Try.underlying5 Try.underlying9 rfl rfl rfl (V.at .z) (fun u h151 => ?_)
                  exact ⟨u, rfl, trivial, h151⟩
                 ·intro q1 w Γx Ωx h
                  refine OpS.nes h rfl rfl rfl rfl (V.at .z) (V.at (.s .z)) Try.underlying9 ?_
                  exact ⟨undef, rfl, trivial, h⟩
                 ·intro q1 w Γx Ωx h
                  refine OpS.pick rfl rfl rfl rfl ?_
                  exact ⟨undef, rfl, trivial, h⟩
                 ·intro q1 w Γx Ωx h
                  refine OpS.mv rfl rfl rfl ?_
                  exact ⟨undef, (congrArg (fun z_ => some (Value.bool z_)) e26), trivial, h⟩
                 ·intro q1 w Γx Ωx h
                  have h : St e w ([(true, .val (Rep.slice (Rep.int .u8)) u33 y14.1), (false, .val Download_.rep u32 x2), (true, .val (Rep.slice (Rep.int .u8)) u31 y13.1), (false, .val Download_.rep u30 x2), (false, .val Download_.rep u28 y12.1), (false, .val Download_.rep u27 x2), (true, .val Download_.rep u25 y11.1), (false, .val Download_.rep u24 x2), (false, .val (Rep.slice (Rep.int .u8)) v2 a2), (false, .val (Rep.slice (Rep.int .u8)) u23 s5.1), (false, .val (Rep.slice Download_.rep) u18 ([y5.1, s3.2, a1]))] ++ Γx) ([(true, .box 28 Download_.rep u26 y11.1), (false, .box 51 field_Codes.rep u7 y10.2), (false, .box 28 Download_.rep u9 y5.1)] ++ Ωx) := h
                  refine OpS.loadB h .z PA.z Get.id ty28 rfl rfl rfl (fun u h152 => ?_)
                  exact ⟨u, rfl, trivial, h152⟩
                 ·intro q1 w Γx Ωx h
                  have h : St e w ([(true, .val (Rep.slice (Rep.int .u8)) u33 y14.1), (false, .val Download_.rep u32 x2), (true, .val (Rep.slice (Rep.int .u8)) u31 y13.1), (false, .val Download_.rep u30 x2), (false, .val Download_.rep u28 y12.1), (false, .val Download_.rep u27 x2), (true, .val Download_.rep u25 y11.1), (false, .val Download_.rep u24 x2), (false, .val (Rep.slice (Rep.int .u8)) v2 a2), (false, .val (Rep.slice (Rep.int .u8)) u23 s5.1), (false, .val (Rep.slice Download_.rep) u18 ([y5.1, s3.2, a1]))] ++ Γx) ([(false, .box 28 Download_.rep u29 y12.1), (false, .box 51 field_Codes.rep u7 y10.2), (false, .box 28 Download_.rep u9 y5.1)] ++ Ωx) := h
                  refine OpS.loadB h .z PA.z Get.id ty28 rfl rfl rfl (fun u h153 => ?_)
                  exact ⟨u, rfl, trivial, h153⟩
                 ·intro q1 w Γx Ωx h
                  refine OpS.callP h Try.func12 rfl rfl rfl rfl (vs := [(q1 16), (q1 17)]) rfl (ref30_Same_ok e28) (.cons (f := true) (V.at .z) (.cons (f := false) (V.at (.s .z)) .nil)) ?_
                  rintro _ w55 _ _ _ ⟨rfl, rfl, rfl, rfl⟩ h154
                  have h155 := h154 rfl rfl
                  simp only [List.cons_append, List.nil_append] at h155
                  exact ⟨undef, rfl, trivial, h155⟩
                 ·intro q1 w Γx Ωx h
                  refine OpS.not rfl rfl rfl ?_
                  exact ⟨undef, rfl, trivial, h⟩
                 ·intro q1 w Γx Ωx h
                  refine OpS.pick rfl rfl rfl rfl ?_
                  exact ⟨undef, rfl, trivial, h⟩
                 ·intro q1 w Γx Ωx h
                  refine OpS.mv rfl rfl rfl ?_
                  exact ⟨undef, (congrArg (fun z_ => some (Value.bool z_)) e29), trivial, h⟩
                 ·intro q1 w Γx Ωx h
                  have h : St e w ([(true, .val (Rep.slice (Rep.int .u8)) u33 y14.1), (false, .val Download_.rep u32 x2), (true, .val (Rep.slice (Rep.int .u8)) u31 y13.1), (false, .val Download_.rep u30 x2), (false, .val Download_.rep u28 y12.1), (false, .val Download_.rep u27 x2), (true, .val Download_.rep u25 y11.1), (false, .val Download_.rep u24 x2), (false, .val (Rep.slice (Rep.int .u8)) v2 a2), (false, .val (Rep.slice (Rep.int .u8)) u23 s5.1), (false, .val (Rep.slice Download_.rep) u18 ([y5.1, s3.2, a1]))] ++ Γx) ([(false, .box 28 Download_.rep u21 x2), (false, .box 51 field_Codes.rep u7 y10.2), (false, .box 28 Download_.rep u9 y5.1)] ++ Ωx) := h
                  refine OpS.loadB h .z PA.z Get.id ty28 rfl rfl rfl (fun u h156 => ?_)
                  exact ⟨u, rfl, trivial, h156⟩
                 ·intro q1 w Γx Ωx h
                  refine OpS.callP h Try.func22 rfl rfl rfl rfl (vs := [(q1 22)]) rfl (transfer_Valid_ok e31) (.cons (f := false) (V.at .z) .nil) ?_
                  rintro _ w56 _ _ _ ⟨rfl, rfl, rfl, rfl⟩ h157
                  have h158 := h157 rfl rfl
                  simp only [List.cons_append, List.nil_append] at h158
                  exact ⟨undef, rfl, trivial, h158⟩
                 ·intro q1 w Γx Ωx h
                  have h : St e w ([(true, .val (Rep.slice (Rep.int .u8)) u33 y14.1), (false, .val Download_.rep u32 x2), (true, .val (Rep.slice (Rep.int .u8)) u31 y13.1), (false, .val Download_.rep u30 x2), (false, .val Download_.rep u28 y12.1), (false, .val Download_.rep u27 x2), (true, .val Download_.rep u25 y11.1), (false, .val Download_.rep u24 x2), (false, .val (Rep.slice (Rep.int .u8)) v2 a2), (false, .val (Rep.slice (Rep.int .u8)) u23 s5.1), (false, .val (Rep.slice Download_.rep) u18 ([y5.1, s3.2, a1]))] ++ Γx) ([(false, .box 28 Download_.rep u21 x2), (false, .box 51 field_Codes.rep u7 y10.2), (false, .box 28 Download_.rep u9 y5.1)] ++ Ωx) := h
                  refine OpS.loadB h .z PA.z Get.id ty28 rfl rfl rfl (fun u h159 => ?_)
                  exact ⟨u, rfl, trivial, h159⟩
                 ·intro q1 w Γx Ωx h
                  refine OpS.callP h Try.func23 rfl rfl rfl rfl (vs := [(q1 24)]) rfl (ref30_Valid_ok e32) (.cons (f := false) (V.at .z) .nil) ?_
                  rintro _ w57 _ _ _ ⟨rfl, rfl, rfl, rfl⟩ h160
                  have h161 := h160 rfl rfl
                  simp only [List.cons_append, List.nil_append] at h161
                  exact ⟨undef, rfl, trivial, h161⟩
                 ·intro q1 w Γx Ωx h
                  refine OpS.neb Try.underlying4 rfl rfl rfl rfl ?_
                  exact ⟨undef, rfl, trivial, h⟩
                 ·intro q1 w Γx Ωx h
                  refine OpS.pick rfl rfl rfl rfl ?_
                  exact ⟨undef, rfl, trivial, h⟩
                 ·intro q1 w Γx Ωx h
                  refine OpS.mv rfl rfl rfl ?_
                  exact ⟨undef, (congrArg (fun z_ => some (Value.bool z_)) e33), trivial, h⟩
                 ·intro q1 w Γx Ωx h
                  have h : St e w ([(true, .val (Rep.slice (Rep.int .u8)) u33 y14.1), (false, .val Download_.rep u32 x2), (true, .val (Rep.slice (Rep.int .u8)) u31 y13.1), (false, .val Download_.rep u30 x2), (false, .val Download_.rep u28 y12.1), (false, .val Download_.rep u27 x2), (true, .val Download_.rep u25 y11.1), (false, .val Download_.rep u24 x2), (false, .val (Rep.slice (Rep.int .u8)) v2 a2), (false, .val (Rep.slice (Rep.int .u8)) u23 s5.1), (false, .val (Rep.slice Download_.rep) u18 ([y5.1, s3.2, a1]))] ++ Γx) ([(false, .box 28 Download_.rep u21 x2), (false, .box 51 field_Codes.rep u7 y10.2), (false, .box 28 Download_.rep u9 y5.1)] ++ Ωx) := h
                  refine OpS.loadB h .z PA.z Get.id ty28 rfl rfl rfl (fun u h162 => ?_)
                  exact ⟨u, rfl, trivial, h162⟩
                 ·intro q1 w Γx Ωx h
                  refine OpS.callP h Try.func15 rfl rfl rfl rfl (vs := [(q1 29)]) rfl (transfer_Complete_ok e35) (.cons (f := false) (V.at .z) .nil) ?_
                  rintro _ w58 _ _ _ ⟨rfl, rfl, rfl, rfl⟩ h163
                  have h164 := h163 rfl rfl
                  simp only [List.cons_append, List.nil_append] at h164
                  exact ⟨undef, rfl, trivial, h164⟩
                 ·intro q1 w Γx Ωx h
                  have h : St e w ([(true, .val (Rep.slice (Rep.int .u8)) u33 y14.1), (false, .val Download_.rep u32 x2), (true, .val (Rep.slice (Rep.int .u8)) u31 y13.1), (false, .val Download_.rep u30 x2), (false, .val Download_.rep u28 y12.1), (false, .val Download_.rep u27 x2), (true, .val Download_.rep u25 y11.1), (false, .val Download_.rep u24 x2), (false, .val (Rep.slice (Rep.int .u8)) v2 a2), (false, .val (Rep.slice (Rep.int .u8)) u23 s5.1), (false, .val (Rep.slice Download_.rep) u18 ([y5.1, s3.2, a1]))] ++ Γx) ([(false, .box 28 Download_.rep u21 x2), (false, .box 51 field_Codes.rep u7 y10.2), (false, .box 28 Download_.rep u9 y5.1)] ++ Ωx) := h
                  refine OpS.loadB h .z PA.z Get.id ty28 rfl rfl rfl (fun u h165 => ?_)
                  exact ⟨u, rfl, trivial, h165⟩
                 ·intro q1 w Γx Ωx h
                  refine OpS.callP h Try.func24 rfl rfl rfl rfl (vs := [(q1 31)]) rfl (ref30_Complete_ok e36) (.cons (f := false) (V.at .z) .nil) ?_
                  rintro _ w59 _ _ _ ⟨rfl, rfl, rfl, rfl⟩ h166
                  have h167 := h166 rfl rfl
                  simp only [List.cons_append, List.nil_append] at h167
                  exact ⟨undef, rfl, trivial, h167⟩
                 ·intro q1 w Γx Ωx h
                  refine OpS.neb Try.underlying4 rfl rfl rfl rfl ?_
                  exact ⟨undef, rfl, trivial, h⟩
                 ·intro q1 w Γx Ωx h
                  refine OpS.pick rfl rfl rfl rfl ?_
                  exact ⟨undef, rfl, trivial, h⟩
                 ·intro q1 w Γx Ωx h
                  refine OpS.mv rfl rfl rfl ?_
                  exact ⟨undef, (congrArg (fun z_ => some (Value.bool z_)) e37), trivial, h⟩
                 ·intro q1 w Γx Ωx h
                  have h : St e w ([(true, .val (Rep.slice (Rep.int .u8)) u33 y14.1), (false, .val Download_.rep u32 x2), (true, .val (Rep.slice (Rep.int .u8)) u31 y13.1), (false, .val Download_.rep u30 x2), (false, .val Download_.rep u28 y12.1), (false, .val Download_.rep u27 x2), (true, .val Download_.rep u25 y11.1), (false, .val Download_.rep u24 x2), (false, .val (Rep.slice (Rep.int .u8)) v2 a2), (false, .val (Rep.slice (Rep.int .u8)) u23 s5.1), (false, .val (Rep.slice Download_.rep) u18 ([y5.1, s3.2, a1]))] ++ Γx) ([(false, .box 28 Download_.rep u21 x2), (false, .box 51 field_Codes.rep u7 y10.2), (false, .box 28 Download_.rep u9 y5.1)] ++ Ωx) := h
                  refine OpS.loadB h .z PA.z Get.id ty28 rfl rfl rfl (fun u h168 => ?_)
                  exact ⟨u, rfl, trivial, h168⟩
                 ·intro q1 w Γx Ωx h
                  refine OpS.mv rfl rfl rfl ?_
                  exact ⟨undef, rfl, trivial, h⟩
                 ·intro q1 w Γx Ωx h
                  refine OpS.callP h Try.func14 rfl rfl rfl rfl (vs := [(q1 36), .int .i64 a6]) rfl (transfer_Wanted_ok e39) (.cons (f := false) (V.at .z) .nil) ?_
                  rintro u w60 _ _ _ ⟨_, rfl, rfl, rfl, rfl⟩ h169
                  have h170 := h169 rfl rfl
                  simp only [List.cons_append, List.nil_append] at h170
                  have h171 := h170.freeze
                  exact ⟨u, rfl, trivial, h171⟩
                 ·intro q1 w Γx Ωx h
                  have h : St e w ([(true, .val (Rep.slice (Rep.int .u8)) u33 y14.1), (false, .val Download_.rep u32 x2), (true, .val (Rep.slice (Rep.int .u8)) u31 y13.1), (false, .val Download_.rep u30 x2), (false, .val Download_.rep u28 y12.1), (false, .val Download_.rep u27 x2), (true, .val Download_.rep u25 y11.1), (false, .val Download_.rep u24 x2), (false, .val (Rep.slice (Rep.int .u8)) v2 a2), (false, .val (Rep.slice (Rep.int .u8)) u23 s5.1), (false, .val (Rep.slice Download_.rep) u18 ([y5.1, s3.2, a1]))] ++ Γx) ([(false, .box 28 Download_.rep u21 x2), (false, .box 51 field_Codes.rep u7 y10.2), (false, .box 28 Download_.rep u9 y5.1)] ++ Ωx) := h
                  refine OpS.loadB h .z PA.z Get.id ty28 rfl rfl rfl (fun u h172 => ?_)
                  exact ⟨u, rfl, trivial, h172⟩
                 ·intro q1 w Γx Ωx h
                  refine OpS.mv rfl rfl rfl ?_
                  exact ⟨undef, rfl, trivial, h⟩
                 ·intro q1 w Γx Ωx h
                  refine OpS.callP h Try.func26 rfl rfl rfl rfl (vs := [(q1 39), .int .i64 a6]) rfl (ref30_Wanted_ok e40) (.cons (f := false) (V.at .z) .nil) ?_
                  rintro u w61 _ _ _ ⟨_, rfl, rfl, rfl, rfl⟩ h173
                  have h174 := h173 rfl rfl
                  simp only [List.cons_append, List.nil_append] at h174
                  have h175 := h174.freeze
                  exact ⟨u, rfl, trivial, h175⟩
                 ·intro q1 w Γx Ωx h
                  refine OpS.callP h Try.func25 rfl rfl rfl rfl (vs := [(q1 38), (q1 41)]) rfl (law30_ints_ok e41) (.cons (f := true) (V.at .z) (.cons (f := true) (V.at (.s .z)) .nil)) ?_
                  rintro _ w62 _ _ _ ⟨rfl, rfl, rfl, rfl⟩ h176
                  have h177 := h176 rfl rfl
                  simp only [List.cons_append, List.nil_append] at h177
                  exact ⟨undef, rfl, trivial, h177⟩
                 ·intro q1 w Γx Ωx h
                  refine OpS.not rfl rfl rfl ?_
                  exact ⟨undef, rfl, trivial, h⟩
                 ·intro q1 w Γx Ωx h
                  refine OpS.pick rfl rfl rfl rfl ?_
                  exact ⟨undef, rfl, trivial, h⟩
                 have h178 : St e w [(true, .val Rep.str (q1 10) (toStr y13.1)), (true, .val Rep.str (q1 12) (toStr y14.1)), (true, .val Download_.rep (q1 16) y11.1), (false, .val Download_.rep (q1 17) y12.1), (false, .val Download_.rep (q1 22) x2), (false, .val Download_.rep (q1 24) x2), (false, .val Download_.rep (q1 29) x2), (false, .val Download_.rep (q1 31) x2), (false, .val Download_.rep (q1 36) x2), (true, .val (Rep.slice (Rep.int .i64)) (q1 38) y20), (false, .val Download_.rep (q1 39) x2), (true, .val (Rep.slice (Rep.int .i64)) (q1 41) y21), (true, .val (Rep.slice (Rep.int .u8)) u33 y14.1), (false, .val Download_.rep u32 x2), (true, .val (Rep.slice (Rep.int .u8)) u31 y13.1), (false, .val Download_.rep u30 x2), (false, .val Download_.rep u28 y12.1), (false, .val Download_.rep u27 x2), (true, .val Download_.rep u25 y11.1), (false, .val Download_.rep u24 x2), (false, .val (Rep.slice (Rep.int .u8)) v2 a2), (false, .val (Rep.slice (Rep.int .u8)) u23 s5.1), (false, .val (Rep.slice Download_.rep) u18 ([y5.1, s3.2, a1]))] [(false, .box 28 Download_.rep u29 y12.1), (true, .box 28 Download_.rep u26 y11.1), (false, .box 28 Download_.rep u21 x2), (false, .box 51 field_Codes.rep u7 y10.2), (false, .box 28 Download_.rep u9 y5.1)] := h
                 refine RunL.nil ?_
                 refine Run.slim [(231, .bool (!y22)), (2, v2), (5, .int .i64 a5), (6, .int .i64 a6), (19, u7), (20, u9), (119, u18), (120, .int .i64 (([y5.1, s3.2, a1]).length : Int)), (121, .int .i64 s4.1)] ⟨rfl, rfl, rfl, rfl, rfl, rfl, rfl, rfl, rfl, trivial⟩ ?_
                 refine Run.slim [(2, v2), (5, .int .i64 a5), (6, .int .i64 a6), (19, u7), (20, u9), (119, u18), (120, .int .i64 (([y5.1, s3.2, a1]).length : Int)), (121, .int .i64 s4.1), (231, .bool (!y22))] ⟨rfl, rfl, rfl, rfl, rfl, rfl, rfl, rfl, rfl, trivial⟩ ?_
                 exact hj6 (!y22) _ _ ⟨rfl, (h178.facts (.atm (.s (.s (.s (.s (.s (.s (.s (.s (.s (.s (.s (.s (.s (.s (.s (.s (.s (.s (.s (.s .z)))))))))))))))))))) (.atm (.s (.s (.s (.s (.s (.s (.s (.s (.s (.s (.s (.s (.s (.s (.s (.s (.s (.s (.s (.s (.s (.s .z)))))))))))))))))))))) .nil))).picks (.cons (.s (.s (.s .z))) (.cons (.s (.s (.s .z))) .nil))⟩ hF
         ·
          refine Run.ite rfl hF (fun e42 hF => ?_) (fun e42 hF => ?_)
          ·
           refine Run.reg ?_
           refine op (OpS.mv rfl rfl rfl ?_)
           refine op (OpS.as rfl rfl rfl ?_)
           refine RunL.nil ?_
           refine Run.slim [(24, .int .i64 a5), (2, v2), (5, .int .i64 a5), (6, .int .i64 a6), (19, u7), (20, u9), (23, u21), (25, u23), (119, u18), (120, .int .i64 (([y5.1, s3.2, a1]).length : Int)), (121, .int .i64 s4.1)] ⟨rfl, rfl, rfl, rfl, rfl, rfl, rfl, rfl, rfl, rfl, rfl, trivial⟩ ?_
           refine Run.slim [(2, v2), (5, .int .i64 a5), (6, .int .i64 a6), (19, u7), (20, u9), (23, u21), (24, .int .i64 a5), (25, u23), (119, u18), (120, .int .i64 (([y5.1, s3.2, a1]).length : Int)), (121, .int .i64 s4.1)] ⟨rfl, rfl, rfl, rfl, rfl, rfl, rfl, rfl, rfl, rfl, rfl, trivial⟩ ?_
           exact hj5 (a5) _ _ ⟨rfl, (h54.facts (.atm .z (.atm (.s (.s .z)) (.atm (.s .z) .nil)))).picks (.cons .z (.cons .z (.cons .z .nil)))⟩ hF
          ·
           refine Run.skip ?_
           refine Run.slim [(2, v2), (5, .int .i64 a5), (6, .int .i64 a6), (19, u7), (20, u9), (23, u21), (24, .int .i64 y8.1), (25, u23), (119, u18), (120, .int .i64 (([y5.1, s3.2, a1]).length : Int)), (121, .int .i64 s4.1)] ⟨rfl, rfl, rfl, rfl, rfl, rfl, rfl, rfl, rfl, rfl, rfl, trivial⟩ ?_
           exact hj5 (y8.1) _ _ ⟨rfl, (h54.facts (.atm .z (.atm (.s (.s .z)) (.atm (.s .z) .nil)))).picks (.cons .z (.cons .z (.cons .z .nil)))⟩ hF
        ·
         refine Run.ite rfl hF (fun e43 hF => ?_) (fun e43 hF => ?_)
         ·
          refine Run.seq ?_
          refine Run.reg ?_
          refine op (OpS.fbox (o3 := 1) h50 (.s (.s .z)) PA.z fa28_1 rfl rfl rfl rfl ?_)
          refine op (OpS.loadBi h50 (.s (.s .z)) PA.a (Get.fld Download_.f1) ty3 rfl rfl rfl ?_)
          refine op (OpS.fbox (o3 := 0) h50 (.s (.s .z)) PA.z fa28_0 rfl rfl rfl rfl ?_)
          refine op (OpS.loadBi h50 (.s (.s .z)) PA.a (Get.fld Download_.f0) ty3 rfl rfl rfl ?_)
          refine op (OpS.mv rfl rfl rfl ?_)
          refine op (OpS.fbox (o3 := 1) h50 (.s (.s .z)) PA.z fa28_1 rfl rfl rfl rfl ?_)
          refine op (OpS.loadBi h50 (.s (.s .z)) PA.a (Get.fld Download_.f1) ty3 rfl rfl rfl ?_)
          refine op (OpS.bin rfl rfl rfl rfl rfl ?_)
          refine op (OpS.bin rfl rfl rfl rfl rfl ?_)
          refine op (OpS.mini rfl rfl rfl rfl ?_)
          refine op (OpS.maxi rfl rfl rfl rfl ?_)
          obtain ⟨x9, e44, hF⟩ := bindP_use hF
          refine op (OpS.make h50 Try.underlying22 ti5 rfl rfl (Zr.int .u8 0) rfl rfl rfl rfl e44 (by simp) (mk_fits e44) rfl (fun u34 w63 h179 => ?_))
          refine op (OpS.as rfl rfl rfl ?_)
          refine RunL.nil ?_
          refine Run.slim [(25, u34), (24, .int .i64 y8.1), (23, u21), (2, v2), (5, .int .i64 a5), (6, .int .i64 a6), (19, u7), (20, u9), (119, u18), (120, .int .i64 (([y5.1, s3.2, a1]).length : Int)), (121, .int .i64 s4.1)] ⟨rfl, rfl, rfl, rfl, rfl, rfl, rfl, rfl, rfl, rfl, rfl, trivial⟩ ?_
          refine Run.seq ?_
          refine Run.reg ?_
          refine op (OpS.mv rfl rfl rfl ?_)
          refine op (OpS.lenO h179 .z Try.underlying22 rfl rfl rfl ?_)
          refine op (OpS.mv rfl rfl rfl ?_)
          refine RunL.nil ?_
          refine Run.slim [(149, .int .i64 0), (148, .int .i64 (x9.length : Int)), (25, u34), (24, .int .i64 y8.1), (23, u21), (2, v2), (5, .int .i64 a5), (6, .int .i64 a6), (19, u7), (20, u9), (119, u18), (120, .int .i64 (([y5.1, s3.2, a1]).length : Int)), (121, .int .i64 s4.1)] ⟨rfl, rfl, rfl, rfl, rfl, rfl, rfl, rfl, rfl, rfl, rfl, rfl, rfl, trivial⟩ ?_
          refine Run.block ?_
          refine Run.slim [(2, v2), (5, .int .i64 a5), (6, .int .i64 a6), (19, u7), (20, u9), (23, u21), (24, .int .i64 y8.1), (25, u34), (119, u18), (120, .int .i64 (([y5.1, s3.2, a1]).length : Int)), (121, .int .i64 s4.1), (148, .int .i64 (x9.length : Int)), (149, .int .i64 0)] ⟨rfl, rfl, rfl, rfl, rfl, rfl, rfl, rfl, rfl, rfl, rfl, rfl, rfl, trivial⟩ ?_
          refine Run.loopP (σ := (Int × field_Codes × (List Int))) (fun s_ L_ w_ => L_ = [(2, v2), (5, .int .i64 a5), (6, .int .i64 a6), (19, u7), (20, u9), (23, u21), (24, .int .i64 y8.1), (25, u34), (119, u18), (120, .int .i64 (([y5.1, s3.2, a1]).length : Int)), (121, .int .i64 s4.1), (148, .int .i64 (x9.length : Int)), (149, .int .i64 s_.1)] ∧ St e w_ [(false, .val (Rep.slice (Rep.int .u8)) v2 a2), (false, .val (Rep.slice Download_.rep) u18 ([y5.1, s3.2, a1]))] [(false, .box 51 field_Codes.rep u7 s_.2.1), (false, .box 28 Download_.rep u9 y5.1), (false, .box 28 Download_.rep u21 x2), (true, .slice 5 (Rep.int .u8) u34 s_.2.2)]) hF ⟨rfl, (h179.facts (.atm (.s (.s (.s .z))) (.atm (.s (.s (.s (.s .z)))) .nil))).picks (.cons (.s .z) (.cons (.s (.s .z)) (.cons (.s .z) (.cons .z .nil))))⟩ (fun k2 hk2 s8 _ w64 hI hF => ?_)
          obtain ⟨rfl, h180⟩ := hI
          refine Run.seq ?_
          refine Run.reg ?_
          refine op (OpS.bin rfl rfl rfl rfl rfl ?_)
          refine RunL.nil ?_
          refine Run.seq ?_
          refine Run.ite rfl hF (fun e45 hF => ?_) (fun e45 hF => ?_)
          ·
           refine Run.skip ?_
           refine Run.seq ?_
           refine Run.block ?_
           refine Run.seq ?_
           refine Run.reg ?_
           refine op (OpS.mv rfl rfl rfl ?_)
           refine op (OpS.as rfl rfl rfl ?_)
           refine RunL.nil ?_
           refine Run.slim [(26, .int .i64 s8.1), (2, v2), (5, .int .i64 a5), (6, .int .i64 a6), (19, u7), (20, u9), (23, u21), (24, .int .i64 y8.1), (25, u34), (119, u18), (120, .int .i64 (([y5.1, s3.2, a1]).length : Int)), (121, .int .i64 s4.1), (148, .int .i64 (x9.length : Int)), (149, .int .i64 s8.1)] ⟨rfl, rfl, rfl, rfl, rfl, rfl, rfl, rfl, rfl, rfl, rfl, rfl, rfl, rfl, trivial⟩ ?_
           refine Run.reg ?_
           refine op (OpS.mv rfl rfl rfl ?_)
           refine op (OpS.mv rfl rfl rfl ?_)
           refine op (OpS.mv rfl rfl rfl ?_)
           obtain ⟨y23, e46, hF⟩ := bindP_use hF
           have h181 := h180.front (.cons .z .nil)
           refine op (OpS.callO h181 Try.func18 rfl rfl rfl rfl (vs := [u7, .int .i64 3]) rfl (field_Codes_Next_ok e46) rfl .nil ?_)
           rintro _ w65 _ _ _ ⟨rfl, rfl, rfl, rfl⟩ h182
           have h183 := h182
           simp only [List.cons_append, List.nil_append] at h183
           refine op (OpS.conv Try.underlying3 Try.underlying5 rfl rfl rfl ?_)
           obtain ⟨x10, e47, hF⟩ := bindP_use hF
           refine op (OpS.iown h183 (.s (.s (.s .z))) Try.underlying22 ty5 rfl rfl rfl rfl e47 ?_)
           obtain ⟨d1, e48, hF⟩ := letP_use hF
           refine op (OpS.storeO (f' := true) h183 (.s (.s (.s .z))) (idx_ne e47) PA.a (Put.of (Put.arr e47) e48) ty5 rfl rfl rfl V.int (.inl rfl) (fun w66 h184 => ?_))
           refine RunL.nil ?_
           refine Run.slim [(2, v2), (5, .int .i64 a5), (6, .int .i64 a6), (19, u7), (20, u9), (23, u21), (24, .int .i64 y8.1), (25, u34), (119, u18), (120, .int .i64 (([y5.1, s3.2, a1]).length : Int)), (121, .int .i64 s4.1), (148, .int .i64 (x9.length : Int)), (149, .int .i64 s8.1)] ⟨rfl, rfl, rfl, rfl, rfl, rfl, rfl, rfl, rfl, rfl, rfl, rfl, rfl, trivial⟩ ?_
           refine Run.endBlock ?_
           refine Run.reg ?_
           refine op (OpS.bin rfl rfl rfl rfl rfl ?_)
           refine op (OpS.mv rfl rfl rfl ?_)
           refine RunL.nil ?_
           refine Run.slim [(149, .int .i64 (IntKind.i64.wrap (s8.1 + 1))), (2, v2), (5, .int .i64 a5), (6, .int .i64 a6), (19, u7), (20, u9), (23, u21), (24, .int .i64 y8.1), (25, u34), (119, u18), (120, .int .i64 (([y5.1, s3.2, a1]).length : Int)), (121, .int .i64 s4.1), (148, .int .i64 (x9.length : Int))] ⟨rfl, rfl, rfl, rfl, rfl, rfl, rfl, rfl, rfl, rfl, rfl, rfl, rfl, trivial⟩ ?_
           refine Run.slim [(2, v2), (5, .int .i64 a5), (6, .int .i64 a6), (19, u7), (20, u9), (23, u21), (24, .int .i64 y8.1), (25, u34), (119, u18), (120, .int .i64 (([y5.1, s3.2, a1]).length : Int)), (121, .int .i64 s4.1), (148, .int .i64 (x9.length : Int)), (149, .int .i64 (IntKind.i64.wrap (s8.1 + 1)))] ⟨rfl, rfl, rfl, rfl, rfl, rfl, rfl, rfl, rfl, rfl, rfl, rfl, rfl, trivial⟩ ?_
           exact hk2 ((IntKind.i64.wrap (s8.1 + 1)), y23.2, d1) _ _ ⟨rfl, (h184.facts (.atm .z (.atm (.s .z) .nil))).picks (.cons (.s .z) (.cons (.s .z) (.cons (.s .z) (.cons .z .nil))))⟩ hF
          ·
           refine Run.exit rfl ?_
           have h185 := (h180.pick (.s (.s (.s .z)))).freeze
           refine Run.slim [(2, v2), (5, .int .i64 a5), (6, .int .i64 a6), (19, u7), (20, u9), (23, u21), (24, .int .i64 y8.1), (25, u34), (119, u18), (120, .int .i64 (([y5.1, s3.2, a1]).length : Int)), (121, .int .i64 s4.1)] ⟨rfl, rfl, rfl, rfl, rfl, rfl, rfl, rfl, rfl, rfl, rfl, trivial⟩ ?_
           exact hj4 (s8.2.2, s8.2.1) _ _ ⟨u34, rfl, (h185.facts (.atm (.s .z) (.atm (.s (.s .z)) (.val (V.weak (V.at .z)) .nil)))).picks (.cons .z (.cons .z (.cons .z .nil)))⟩ hF
         ·
          refine Run.skip ?_
          refine Run.slim [(2, v2), (5, .int .i64 a5), (6, .int .i64 a6), (19, u7), (20, u9), (23, u21), (24, .int .i64 y8.1), (25, v2), (119, u18), (120, .int .i64 (([y5.1, s3.2, a1]).length : Int)), (121, .int .i64 s4.1)] ⟨rfl, rfl, rfl, rfl, rfl, rfl, rfl, rfl, rfl, rfl, rfl, trivial⟩ ?_
          exact hj4 (a2, y9.2) _ _ ⟨v2, rfl, (h50.facts (.atm (.s (.s (.s .z))) (.atm (.s (.s (.s (.s .z)))) (.val (V.at (.s (.s (.s .z)))) .nil)))).picks (.cons .z (.cons (.s .z) (.cons .z .nil)))⟩ hF
       ·
        refine Run.exit rfl ?_
        refine Run.seq ?_
        refine Run.reg ?_
        refine op (OpS.as rfl rfl rfl ?_)
        refine RunL.nil ?_
        refine Run.slim [(14, .bool true)] ⟨rfl, trivial⟩ ?_
        refine Run.retP rfl (.tmp rfl .nil) ?_
        cases hF
        exact Post.mk' ⟨rfl, rfl, rfl, rfl⟩ (h38.picks .nil) .nil
      ·
       refine Run.ite rfl hF (fun e49 hF => ?_) (fun e49 hF => ?_)
       ·
        refine Run.reg ?_
        refine op (OpS.fbox (o3 := 0) h32 (.s .z) PA.z fa28_0 rfl rfl rfl rfl ?_)
        refine op (OpS.loadBi h32 (.s .z) PA.a (GetS.ok (GetS.iso _ (GetS.here GetS.id))) ty3 rfl rfl rfl ?_)
        refine op (OpS.bin rfl rfl rfl rfl rfl ?_)
        refine op (OpS.fbox (o3 := 0) h32 (.s .z) PA.z fa28_0 rfl rfl rfl rfl ?_)
        obtain ⟨d2, e50, hF⟩ := letP_use hF
        refine op (OpS.storeC (f' := true) (fr := (Rep.int .i64)) (r' := (Rep.iso (fun s : Download_ => (s.Size, s.Part, s.Have, s.Data, ())) (Rep.prod (Rep.int .i64) (Rep.prod (Rep.int .i64) (Rep.prod (Rep.raw u12) (Rep.prod (Rep.raw u13) Rep.unit)))))) (x' := d2) h32 (.s .z) PA.a (Chg.of (x' := { y6 with Size := (IntKind.i64.wrap (y6.Size + 1)) }) (Chg.iso _ (Chg.here (Chg.id (by rfl)))) e50) ty3 rfl rfl rfl V.int (.inl rfl) (fun w67 h186 => ?_))
        refine RunL.nil ?_
        refine Run.slim [(21, u14), (20, u9), (19, u7), (2, v2), (5, .int .i64 a5), (6, .int .i64 a6), (8, u1)] ⟨rfl, rfl, rfl, rfl, rfl, rfl, rfl, trivial⟩ ?_
        have h187 := (h186.pick (.s (.s (.s .z)))).freeze
        have h188 := h187.pick .z
        have h189 := St.boxJ (r' := (Rep.iso (fun s : Download_ => (s.Size, s.Part, s.Have, s.Data, ())) (Rep.prod (Rep.int .i64) (Rep.prod (Rep.int .i64) (Rep.prod (Rep.slice Rep.bool) (Rep.prod (Rep.raw u13) Rep.unit)))))) (x' := { d2 with Have := y6.Have }) h188 (fun _ _ hs_ => (Jn.iso _ (Jn.prod Jn.refl (Jn.prod Jn.refl (Jn.prod (Jn.raw ((V.at .z) _ _ hs_) rfl) (Jn.prod Jn.same Jn.refl))))))
        have h190 := (h189.pick (.s (.s (.s .z)))).freeze
        have h191 := h190.pick .z
        have h192 := St.boxJ (r' := Download_.rep) (x' := { { d2 with Have := y6.Have } with Data := y6.Data }) h191 (fun _ _ hs_ => (Jn.iso _ (Jn.prod Jn.refl (Jn.prod Jn.refl (Jn.prod Jn.refl (Jn.prod (Jn.raw ((V.at .z) _ _ hs_) rfl) Jn.refl))))))
        refine Run.slim [(2, v2), (5, .int .i64 a5), (6, .int .i64 a6), (8, u1), (19, u7), (20, u9), (21, u14)] ⟨rfl, rfl, rfl, rfl, rfl, rfl, rfl, trivial⟩ ?_
        exact hj3 (y7.2, { { d2 with Have := y6.Have } with Data := y6.Data }) _ _ ⟨rfl, (h192.facts (.atm (.s (.s (.s (.s (.s (.s .z)))))) .nil)).picks (.cons (.s (.s (.s (.s .z)))) (.cons (.s .z) (.cons (.s (.s .z)) (.cons .z .nil))))⟩ hF
       ·
        refine Run.seq ?_
        refine Run.reg ?_
        refine op (OpS.bin rfl rfl rfl rfl rfl ?_)
        refine op (OpS.as rfl rfl rfl ?_)
        obtain ⟨x11, e51, hF⟩ := letP_use hF
        refine RunL.nameb e51 ?_
        refine RunL.nil ?_
        refine Run.slim [(87, .bool x11), (80, .int .i64 y7.1), (21, u14), (20, u9), (19, u7), (2, v2), (5, .int .i64 a5), (6, .int .i64 a6), (8, u1)] ⟨rfl, rfl, rfl, rfl, rfl, rfl, rfl, rfl, rfl, trivial⟩ ?_
        refine Run.ite rfl hF (fun e52 hF => ?_) (fun e52 hF => ?_)
        ·
         refine Run.reg ?_
         refine op (OpS.fbox (o3 := 2) h32 (.s .z) PA.z fa28_2 rfl rfl rfl rfl ?_)
         refine op (OpS.loadR h32 (.s .z) PA.a (GetS.ok (GetS.iso _ (GetS.there (GetS.there (GetS.here GetS.id))))) ty26 rfl rfl rfl rfl rfl ?_)
         have h193 := (h32.pick (.s (.s (.s .z)))).freeze
         have h194 := h193.pick (.s .z)
         have h195 := St.boxJ (r' := (Rep.iso (fun s : Download_ => (s.Size, s.Part, s.Have, s.Data, ())) (Rep.prod (Rep.int .i64) (Rep.prod (Rep.int .i64) (Rep.prod (Rep.slice Rep.bool) (Rep.prod (Rep.raw u13) Rep.unit)))))) (x' := { y6 with Have := y6.Have }) h194 (fun _ _ hs_ => (Jn.iso _ (Jn.prod Jn.refl (Jn.prod Jn.refl (Jn.prod (Jn.raw ((V.at .z) _ _ hs_) rfl) (Jn.prod Jn.same Jn.refl))))))
         obtain ⟨x12, e53, hF⟩ := bindP_use hF
         refine op (OpS.sub h195 Try.underlying26 ty4 rfl rfl rfl rfl rfl (V.at .z) e53 (fun u35 h196 => ?_))
         refine op (OpS.fbox (o3 := 2) h196 .z PA.z fa28_2 rfl rfl rfl rfl ?_)
         obtain ⟨d3, e54, hF⟩ := letP_use hF
         refine op (OpS.storeC (f' := true) (fr := (Rep.slice Rep.bool)) (r' := (Rep.iso (fun s : Download_ => (s.Size, s.Part, s.Have, s.Data, ())) (Rep.prod (Rep.int .i64) (Rep.prod (Rep.int .i64) (Rep.prod (Rep.slice Rep.bool) (Rep.prod (Rep.raw u13) Rep.unit)))))) (x' := d3) h196 .z PA.a (Chg.of (x' := { { y6 with Have := y6.Have } with Have := x12 }) (Chg.iso _ (Chg.there (Chg.there (Chg.here (Chg.id (by rfl)))))) e54) ty26 rfl rfl rfl (V.at .z) (.inl rfl) (fun w68 h197 => ?_))
         refine RunL.nil ?_
         refine Run.slim [(21, u14), (20, u9), (19, u7), (2, v2), (5, .int .i64 a5), (6, .int .i64 a6), (8, u1)] ⟨rfl, rfl, rfl, rfl, rfl, rfl, rfl, trivial⟩ ?_
         have h198 := (h197.pick (.s (.s (.s .z)))).freeze
         have h199 := h198.pick .z
         have h200 := St.boxJ (r' := Download_.rep) (x' := { d3 with Data := y6.Data }) h199 (fun _ _ hs_ => (Jn.iso _ (Jn.prod Jn.refl (Jn.prod Jn.refl (Jn.prod Jn.refl (Jn.prod (Jn.raw ((V.at .z) _ _ hs_) rfl) Jn.refl))))))
         refine Run.slim [(2, v2), (5, .int .i64 a5), (6, .int .i64 a6), (8, u1), (19, u7), (20, u9), (21, u14)] ⟨rfl, rfl, rfl, rfl, rfl, rfl, rfl, trivial⟩ ?_
         exact hj3 (y7.2, { d3 with Data := y6.Data }) _ _ ⟨rfl, (h200.facts (.atm (.s (.s (.s (.s (.s (.s (.s .z))))))) .nil)).picks (.cons (.s (.s (.s (.s .z)))) (.cons (.s .z) (.cons (.s (.s .z)) (.cons .z .nil))))⟩ hF
        ·
         refine Run.seq ?_
         refine Run.reg ?_
         refine op (OpS.bin rfl rfl rfl rfl rfl ?_)
         refine op (OpS.as rfl rfl rfl ?_)
         obtain ⟨x13, e55, hF⟩ := letP_use hF
         refine RunL.nameb e55 ?_
         refine RunL.nil ?_
         refine Run.slim [(93, .bool x13), (80, .int .i64 y7.1), (21, u14), (20, u9), (19, u7), (2, v2), (5, .int .i64 a5), (6, .int .i64 a6), (8, u1)] ⟨rfl, rfl, rfl, rfl, rfl, rfl, rfl, rfl, rfl, trivial⟩ ?_
         refine Run.ite rfl hF (fun e56 hF => ?_) (fun e56 hF => ?_)
         ·
          have h201 := (h32.pick (.s (.s (.s .z)))).freeze
          have h202 := h201.pick (.s .z)
          have h203 := St.boxJ (r' := (Rep.iso (fun s : Download_ => (s.Size, s.Part, s.Have, s.Data, ())) (Rep.prod (Rep.int .i64) (Rep.prod (Rep.int .i64) (Rep.prod (Rep.slice Rep.bool) (Rep.prod (Rep.raw u13) Rep.unit)))))) (x' := { y6 with Have := y6.Have }) h202 (fun _ _ hs_ => (Jn.iso _ (Jn.prod Jn.refl (Jn.prod Jn.refl (Jn.prod (Jn.raw ((V.at .z) _ _ hs_) rfl) (Jn.prod Jn.same Jn.refl))))))
          have h204 := h203.picks (.cons .z (.cons .z (.cons (.s .z) (.cons .z (.cons .z (.cons .z .nil))))))
          obtain ⟨y24, e57, hF⟩ := bindP_use hF
          obtain ⟨x14, e58, hF⟩ := bindP_use hF
          refine Run.drawV (Ωs := [(true, .slice 5 (Rep.int .u8) (.slice none 0 0) ([])), (false, .box 28 Download_.rep u9 y5.1), (false, .box 28 Download_.rep u1 a1)]) [⟨some 95, some ((padd u14 3)), fun _ => [], fun ds_ u_ => [], [], [(0, [])], none⟩, ⟨some 96, some (u13), fun _ => [], fun ds_ u_ => [], [], [(2, []), (0, [])], none⟩, ⟨some 97, some (u7), fun _ => [], fun ds_ u_ => [], [], [], none⟩, ⟨some 98, some ((padd u14 0)), fun _ => [], fun ds_ u_ => [], [], [(0, [])], none⟩, ⟨some 99, some (.int .i64 (({ y6 with Have := y6.Have }).Size)), fun _ => [], fun ds_ u_ => [], [], [(0, [])], none⟩, ⟨some 100, some (.int .i64 y24.1), fun _ => [], fun ds_ u_ => [(false, .box 51 field_Codes.rep u7 y24.2)], [1], [], none⟩, ⟨some 101, some ((padd (sp u13) ((y24.1 : Int).toNat * (Rep.int .u8).n))), fun _ => [], fun ds_ u_ => [], [], [(2, [])], none⟩, ⟨some 102, some (.int .u8 x14), fun _ => [], fun ds_ u_ => [], [], [(2, [])], none⟩, ⟨some 103, some (.int .u8 (IntKind.u8.wrap (x14 + 1))), fun _ => [], fun ds_ u_ => [], [], [], none⟩] [[], [0], [], [], [3], [2, 4], [1, 5], [6], [7]] [[(true, .box 28 (Rep.iso (fun s : Download_ => (s.Size, s.Part, s.Have, s.Data, ())) (Rep.prod (Rep.int .i64) (Rep.prod (Rep.int .i64) (Rep.prod (Rep.slice Rep.bool) (Rep.prod (Rep.raw u13) Rep.unit))))) u14 ({ y6 with Have := y6.Have }))], [(false, .box 51 field_Codes.rep u7 y7.2)], [(true, .slice 5 (Rep.int .u8) u13 y6.Data)]] [0, 2, 3, 4, 5, 6, 7, 8, 9, 10, 11] Try_mixed rfl rfl rfl h204 (.cons ?_ (.cons ?_ (.cons ?_ (.cons ?_ (.cons ?_ (.cons ?_ (.cons ?_ (.cons ?_ (.cons ?_ .nil))))))))) (fun q2 w hq8 h => ?_)
          ·intro q2 w Γx Ωx h
           have h : St e w ([(true, .val (Rep.slice Rep.bool) u12 y6.Have), (true, .val (Rep.iso (fun s : Download_ => (s.Size, s.Part, s.Have, s.Data, ())) (Rep.prod (Rep.int .i64) (Rep.prod (Rep.int .i64) (Rep.prod (Rep.raw u12) (Rep.prod (Rep.raw u13) Rep.unit))))) u11 y6), (false, .val Download_.rep u10 y5.1), (false, .val Download_.rep u8 y5.1), (false, .val (Rep.slice (Rep.int .u8)) v0 a0), (false, .val (Rep.slice (Rep.int .u8)) v2 a2)] ++ Γx) ([(true, .box 28 (Rep.iso (fun s : Download_ => (s.Size, s.Part, s.Have, s.Data, ())) (Rep.prod (Rep.int .i64) (Rep.prod (Rep.int .i64) (Rep.prod (Rep.slice Rep.bool) (Rep.prod (Rep.raw u13) Rep.unit))))) u14 ({ y6 with Have := y6.Have })), (true, .slice 5 (Rep.int .u8) (.slice none 0 0) ([])), (false, .box 28 Download_.rep u9 y5.1), (false, .box 28 Download_.rep u1 a1)] ++ Ωx) := h
           refine OpS.fbox (o3 := 3) h .z PA.z fa28_3 rfl rfl rfl rfl ?_
           exact ⟨undef, rfl, trivial, h⟩
          ·intro q2 w Γx Ωx h
           have h : St e w ([(true, .val (Rep.slice Rep.bool) u12 y6.Have), (true, .val (Rep.iso (fun s : Download_ => (s.Size, s.Part, s.Have, s.Data, ())) (Rep.prod (Rep.int .i64) (Rep.prod (Rep.int .i64) (Rep.prod (Rep.raw u12) (Rep.prod (Rep.raw u13) Rep.unit))))) u11 y6), (false, .val Download_.rep u10 y5.1), (false, .val Download_.rep u8 y5.1), (false, .val (Rep.slice (Rep.int .u8)) v0 a0), (false, .val (Rep.slice (Rep.int .u8)) v2 a2)] ++ Γx) ([(true, .slice 5 (Rep.int .u8) u13 y6.Data), (true, .box 28 (Rep.iso (fun s : Download_ => (s.Size, s.Part, s.Have, s.Data, ())) (Rep.prod (Rep.int .i64) (Rep.prod (Rep.int .i64) (Rep.prod (Rep.slice Rep.bool) (Rep.prod (Rep.raw u13) Rep.unit))))) u14 ({ y6 with Have := y6.Have })), (true, .slice 5 (Rep.int .u8) (.slice none 0 0) ([])), (false, .box 28 Download_.rep u9 y5.1), (false, .box 28 Download_.rep u1 a1)] ++ Ωx) := h
           refine OpS.loadR h (.s .z) PA.a (GetS.ok (GetS.iso _ (GetS.there (GetS.there (GetS.there (GetS.here GetS.id)))))) ty22 rfl rfl rfl rfl rfl ?_
           exact ⟨undef, rfl, trivial, h⟩
          ·intro q2 w Γx Ωx h
           refine OpS.mv rfl rfl rfl ?_
           exact ⟨undef, rfl, trivial, h⟩
          ·intro q2 w Γx Ωx h
           have h : St e w ([(true, .val (Rep.slice Rep.bool) u12 y6.Have), (true, .val (Rep.iso (fun s : Download_ => (s.Size, s.Part, s.Have, s.Data, ())) (Rep.prod (Rep.int .i64) (Rep.prod (Rep.int .i64) (Rep.prod (Rep.raw u12) (Rep.prod (Rep.raw u13) Rep.unit))))) u11 y6), (false, .val Download_.rep u10 y5.1), (false, .val Download_.rep u8 y5.1), (false, .val (Rep.slice (Rep.int .u8)) v0 a0), (false, .val (Rep.slice (Rep.int .u8)) v2 a2)] ++ Γx) ([(true, .box 28 (Rep.iso (fun s : Download_ => (s.Size, s.Part, s.Have, s.Data, ())) (Rep.prod (Rep.int .i64) (Rep.prod (Rep.int .i64) (Rep.prod (Rep.slice Rep.bool) (Rep.prod (Rep.raw u13) Rep.unit))))) u14 ({ y6 with Have := y6.Have })), (true, .slice 5 (Rep.int .u8) (.slice none 0 0) ([])), (false, .box 28 Download_.rep u9 y5.1), (false, .box 28 Download_.rep u1 a1)] ++ Ωx) := h
           refine OpS.fbox (o3 := 0) h .z PA.z fa28_0 rfl rfl rfl rfl ?_
           exact ⟨undef, rfl, trivial, h⟩
          ·intro q2 w Γx Ωx h
           have h : St e w ([(true, .val (Rep.slice Rep.bool) u12 y6.Have), (true, .val (Rep.iso (fun s : Download_ => (s.Size, s.Part, s.Have, s.Data, ())) (Rep.prod (Rep.int .i64) (Rep.prod (Rep.int .i64) (Rep.prod (Rep.raw u12) (Rep.prod (Rep.raw u13) Rep.unit))))) u11 y6), (false, .val Download_.rep u10 y5.1), (false, .val Download_.rep u8 y5.1), (false, .val (Rep.slice (Rep.int .u8)) v0 a0), (false, .val (Rep.slice (Rep.int .u8)) v2 a2)] ++ Γx) ([(true, .box 28 (Rep.iso (fun s : Download_ => (s.Size, s.Part, s.Have, s.Data, ())) (Rep.prod (Rep.int .i64) (Rep.prod (Rep.int .i64) (Rep.prod (Rep.slice Rep.bool) (Rep.prod (Rep.raw u13) Rep.unit))))) u14 ({ y6 with Have := y6.Have })), (true, .slice 5 (Rep.int .u8) (.slice none 0 0) ([])), (false, .box 28 Download_.rep u9 y5.1), (false, .box 28 Download_.rep u1 a1)] ++ Ωx) := h
           refine OpS.loadBi h .z PA.a (GetS.ok (GetS.iso _ (GetS.here GetS.id))) ty3 rfl rfl rfl ?_
           exact ⟨undef, rfl, trivial, h⟩
          ·intro q2 w Γx Ωx h
           have h : St e w ([(true, .val (Rep.slice Rep.bool) u12 y6.Have), (true, .val (Rep.iso (fun s : Download_ => (s.Size, s.Part, s.Have, s.Data, ())) (Rep.prod (Rep.int .i64) (Rep.prod (Rep.int .i64) (Rep.prod (Rep.raw u12) (Rep.prod (Rep.raw u13) Rep.unit))))) u11 y6), (false, .val Download_.rep u10 y5.1), (false, .val Download_.rep u8 y5.1), (false, .val (Rep.slice (Rep.int .u8)) v0 a0), (false, .val (Rep.slice (Rep.int .u8)) v2 a2)] ++ Γx) ([(false, .box 51 field_Codes.rep u7 y7.2), (true, .slice 5 (Rep.int .u8) (.slice none 0 0) ([])), (false, .box 28 Download_.rep u9 y5.1), (false, .box 28 Download_.rep u1 a1)] ++ Ωx) := h
           have h208 := h.front (.cons .z .nil)
           refine OpS.callO h208 Try.func18 rfl rfl rfl rfl (vs := [u7, .int .i64 (y6.Size)]) rfl (field_Codes_Next_ok e57) rfl .nil ?_
           rintro _ w70 _ _ _ ⟨rfl, rfl, rfl, rfl⟩ h209
           have h210 := h209
           simp only [List.cons_append, List.nil_append] at h210
           exact ⟨undef, rfl, trivial, h210⟩
          ·intro q2 w Γx Ωx h
           have h : St e w ([(true, .val (Rep.slice Rep.bool) u12 y6.Have), (true, .val (Rep.iso (fun s : Download_ => (s.Size, s.Part, s.Have, s.Data, ())) (Rep.prod (Rep.int .i64) (Rep.prod (Rep.int .i64) (Rep.prod (Rep.raw u12) (Rep.prod (Rep.raw u13) Rep.unit))))) u11 y6), (false, .val Download_.rep u10 y5.1), (false, .val Download_.rep u8 y5.1), (false, .val (Rep.slice (Rep.int .u8)) v0 a0), (false, .val (Rep.slice (Rep.int .u8)) v2 a2)] ++ Γx) ([(true, .slice 5 (Rep.int .u8) u13 y6.Data), (true, .slice 5 (Rep.int .u8) (.slice none 0 0) ([])), (false, .box 28 Download_.rep u9 y5.1), (false, .box 28 Download_.rep u1 a1)] ++ Ωx) := h
           refine OpS.iown h .z Try.underlying22 ty5 rfl rfl rfl rfl e58 ?_
           exact ⟨undef, rfl, trivial, h⟩
          ·intro q2 w Γx Ωx h
           have h : St e w ([(true, .val (Rep.slice Rep.bool) u12 y6.Have), (true, .val (Rep.iso (fun s : Download_ => (s.Size, s.Part, s.Have, s.Data, ())) (Rep.prod (Rep.int .i64) (Rep.prod (Rep.int .i64) (Rep.prod (Rep.raw u12) (Rep.prod (Rep.raw u13) Rep.unit))))) u11 y6), (false, .val Download_.rep u10 y5.1), (false, .val Download_.rep u8 y5.1), (false, .val (Rep.slice (Rep.int .u8)) v0 a0), (false, .val (Rep.slice (Rep.int .u8)) v2 a2)] ++ Γx) ([(true, .slice 5 (Rep.int .u8) u13 y6.Data), (true, .slice 5 (Rep.int .u8) (.slice none 0 0) ([])), (false, .box 28 Download_.rep u9 y5.1), (false, .box 28 Download_.rep u1 a1)] ++ Ωx) := h
           refine OpS.loadOi h .z (idx_ne e58) PA.a (Get.arr e58) ty5 rfl rfl rfl ?_
           exact ⟨undef, rfl, trivial, h⟩
          ·intro q2 w Γx Ωx h
           refine OpS.bin rfl rfl rfl rfl rfl ?_
           exact ⟨undef, rfl, trivial, h⟩
          have h211 : St e w [(true, .val (Rep.slice Rep.bool) u12 y6.Have), (true, .val (Rep.iso (fun s : Download_ => (s.Size, s.Part, s.Have, s.Data, ())) (Rep.prod (Rep.int .i64) (Rep.prod (Rep.int .i64) (Rep.prod (Rep.raw u12) (Rep.prod (Rep.raw u13) Rep.unit))))) u11 y6), (false, .val Download_.rep u10 y5.1), (false, .val Download_.rep u8 y5.1), (false, .val (Rep.slice (Rep.int .u8)) v0 a0), (false, .val (Rep.slice (Rep.int .u8)) v2 a2)] [(true, .box 28 (Rep.iso (fun s : Download_ => (s.Size, s.Part, s.Have, s.Data, ())) (Rep.prod (Rep.int .i64) (Rep.prod (Rep.int .i64) (Rep.prod (Rep.slice Rep.bool) (Rep.prod (Rep.raw u13) Rep.unit))))) u14 ({ y6 with Have := y6.Have })), (true, .slice 5 (Rep.int .u8) u13 y6.Data), (false, .box 51 field_Codes.rep u7 y24.2), (true, .slice 5 (Rep.int .u8) (.slice none 0 0) ([])), (false, .box 28 Download_.rep u9 y5.1), (false, .box 28 Download_.rep u1 a1)] := h
          obtain ⟨x15, e59, hF⟩ := bindP_use hF
          refine op (OpS.iown h211 (.s .z) Try.underlying22 ty5 rfl rfl rfl rfl e59 ?_)
          obtain ⟨d4, e60, hF⟩ := letP_use hF
          refine op (OpS.storeO (f' := true) h211 (.s .z) (idx_ne e59) PA.a (Put.of (Put.arr e59) e60) ty5 rfl rfl rfl V.int (.inl rfl) (fun w71 h212 => ?_))
          refine RunL.nil ?_
          refine Run.slim [(21, u14), (20, u9), (19, u7), (2, v2), (5, .int .i64 a5), (6, .int .i64 a6), (8, u1)] ⟨rfl, rfl, rfl, rfl, rfl, rfl, rfl, trivial⟩ ?_
          have h213 := (h212.pick .z).freeze
          have h214 := h213.pick .z
          have h215 := St.boxJ (r' := Download_.rep) (x' := { { y6 with Have := y6.Have } with Data := d4 }) h214 (fun _ _ hs_ => (Jn.iso _ (Jn.prod Jn.refl (Jn.prod Jn.refl (Jn.prod Jn.refl (Jn.prod (Jn.raw ((V.at .z) _ _ hs_) rfl) Jn.refl))))))
          refine Run.slim [(2, v2), (5, .int .i64 a5), (6, .int .i64 a6), (8, u1), (19, u7), (20, u9), (21, u14)] ⟨rfl, rfl, rfl, rfl, rfl, rfl, rfl, trivial⟩ ?_
          exact hj3 (y24.2, { { y6 with Have := y6.Have } with Data := d4 }) _ _ ⟨rfl, (h215.facts (.atm (.s (.s (.s (.s (.s (.s .z)))))) .nil)).picks (.cons (.s (.s (.s (.s .z)))) (.cons (.s .z) (.cons (.s (.s .z)) (.cons .z .nil))))⟩ hF
         ·
          refine Run.seq ?_
          refine Run.reg ?_
          refine op (OpS.bin rfl rfl rfl rfl rfl ?_)
          refine op (OpS.as rfl rfl rfl ?_)
          obtain ⟨x16, e61, hF⟩ := letP_use hF
          refine RunL.nameb e61 ?_
          refine RunL.nil ?_
          refine Run.slim [(105, .bool x16), (21, u14), (20, u9), (19, u7), (2, v2), (5, .int .i64 a5), (6, .int .i64 a6), (8, u1)] ⟨rfl, rfl, rfl, rfl, rfl, rfl, rfl, rfl, trivial⟩ ?_
          refine Run.ite rfl hF (fun e62 hF => ?_) (fun e62 hF => ?_)
          ·
           have h216 := (h32.pick (.s (.s (.s .z)))).freeze
           have h217 := h216.pick (.s .z)
           have h218 := St.boxJ (r' := (Rep.iso (fun s : Download_ => (s.Size, s.Part, s.Have, s.Data, ())) (Rep.prod (Rep.int .i64) (Rep.prod (Rep.int .i64) (Rep.prod (Rep.slice Rep.bool) (Rep.prod (Rep.raw u13) Rep.unit)))))) (x' := { y6 with Have := y6.Have }) h217 (fun _ _ hs_ => (Jn.iso _ (Jn.prod Jn.refl (Jn.prod Jn.refl (Jn.prod (Jn.raw ((V.at .z) _ _ hs_) rfl) (Jn.prod Jn.same Jn.refl))))))
           have h219 := (h218.pick (.s (.s (.s .z)))).freeze
           have h220 := h219.pick .z
           have h221 := St.boxJ (r' := Download_.rep) (x' := { { y6 with Have := y6.Have } with Data := y6.Data }) h220 (fun _ _ hs_ => (Jn.iso _ (Jn.prod Jn.refl (Jn.prod Jn.refl (Jn.prod Jn.refl (Jn.prod (Jn.raw ((V.at .z) _ _ hs_) rfl) Jn.refl))))))
           obtain ⟨y25, e63, hF⟩ := bindP_use hF
           obtain ⟨x17, e64, hF⟩ := bindP_use hF
           refine Run.drawV (Ωs := [(true, .slice 5 (Rep.int .u8) (.slice none 0 0) ([])), (false, .box 28 Download_.rep u9 y5.1), (false, .box 28 Download_.rep u1 a1)]) [⟨some 107, some ((padd u14 1)), fun _ => [], fun ds_ u_ => [], [], [(0, [])], none⟩, ⟨some 108, some (.int .i64 (({ { y6 with Have := y6.Have } with Data := y6.Data }).Part)), fun _ => [], fun ds_ u_ => [], [], [(0, [])], none⟩, ⟨some 109, some (.int .i64 (IntKind.i64.wrap (({ { y6 with Have := y6.Have } with Data := y6.Data }).Part + 1))), fun _ => [], fun ds_ u_ => [], [], [], none⟩, ⟨some 110, none, fun u_ => [(true, .val (Rep.slice (Rep.int .i64)) u_ ([0, (-1), 65, (IntKind.i64.wrap (({ { y6 with Have := y6.Have } with Data := y6.Data }).Part + 1))]))], fun ds_ u_ => [], [], [], none⟩, ⟨some 111, some (u7), fun _ => [], fun ds_ u_ => [], [], [], none⟩, ⟨some 112, some (.int .i64 y25.1), fun _ => [], fun ds_ u_ => [(false, .box 51 field_Codes.rep u7 y25.2)], [1], [], none⟩, ⟨some 113, none, fun u_ => [(true, .ptr (Rep.int .i64) u_ x17)], fun ds_ u_ => [], [], [], none⟩, ⟨some 114, some (.int .i64 x17), fun _ => [], fun ds_ u_ => [], [], [], none⟩] [[], [0], [1], [2], [], [4], [3, 5], [6]] [[(true, .box 28 Download_.rep u14 ({ { y6 with Have := y6.Have } with Data := y6.Data }))], [(false, .box 51 field_Codes.rep u7 y7.2)]] [0, 2, 3, 4, 5, 6, 7, 8, 9] Try_mixed rfl rfl rfl h221 (.cons ?_ (.cons ?_ (.cons ?_ (.cons ?_ (.cons ?_ (.cons ?_ (.cons ?_ (.cons ?_ .nil)))))))) (fun q3 w hq9 h => ?_)
           ·intro q3 w Γx Ωx h
            have h : St e w ([(true, .val (Rep.slice (Rep.int .u8)) u13 y6.Data), (true, .val (Rep.slice Rep.bool) u12 y6.Have), (true, .val (Rep.iso (fun s : Download_ => (s.Size, s.Part, s.Have, s.Data, ())) (Rep.prod (Rep.int .i64) (Rep.prod (Rep.int .i64) (Rep.prod (Rep.raw u12) (Rep.prod (Rep.raw u13) Rep.unit))))) u11 y6), (false, .val Download_.rep u10 y5.1), (false, .val Download_.rep u8 y5.1), (false, .val (Rep.slice (Rep.int .u8)) v0 a0), (false, .val (Rep.slice (Rep.int .u8)) v2 a2)] ++ Γx) ([(true, .box 28 Download_.rep u14 ({ { y6 with Have := y6.Have } with Data := y6.Data })), (true, .slice 5 (Rep.int .u8) (.slice none 0 0) ([])), (false, .box 28 Download_.rep u9 y5.1), (false, .box 28 Download_.rep u1 a1)] ++ Ωx) := h
            refine OpS.fbox (o3 := 1) h .z PA.z fa28_1 rfl rfl rfl rfl ?_
            exact ⟨undef, rfl, trivial, h⟩
           ·intro q3 w Γx Ωx h
            have h : St e w ([(true, .val (Rep.slice (Rep.int .u8)) u13 y6.Data), (true, .val (Rep.slice Rep.bool) u12 y6.Have), (true, .val (Rep.iso (fun s : Download_ => (s.Size, s.Part, s.Have, s.Data, ())) (Rep.prod (Rep.int .i64) (Rep.prod (Rep.int .i64) (Rep.prod (Rep.raw u12) (Rep.prod (Rep.raw u13) Rep.unit))))) u11 y6), (false, .val Download_.rep u10 y5.1), (false, .val Download_.rep u8 y5.1), (false, .val (Rep.slice (Rep.int .u8)) v0 a0), (false, .val (Rep.slice (Rep.int .u8)) v2 a2)] ++ Γx) ([(true, .box 28 Download_.rep u14 ({ { y6 with Have := y6.Have } with Data := y6.Data })), (true, .slice 5 (Rep.int .u8) (.slice none 0 0) ([])), (false, .box 28 Download_.rep u9 y5.1), (false, .box 28 Download_.rep u1 a1)] ++ Ωx) := h
            refine OpS.loadBi h .z PA.a (Get.fld Download_.f1) ty3 rfl rfl rfl ?_
            exact ⟨undef, rfl, trivial, h⟩
           ·intro q3 w Γx Ωx h
            refine OpS.bin rfl rfl rfl rfl rfl ?_
            exact ⟨undef, rfl, trivial, h⟩
           ·intro q3 w Γx Ωx h
            refine OpS.lit (r := (Rep.int .i64)) (f := true) h Try.underlying37 ti3 rfl rfl rfl rfl rfl (.cons rfl V.int (.cons rfl V.int (.cons rfl V.int (.cons rfl V.int .nil)))) rfl rfl (fun u w74 h227 => ?_)
            exact ⟨u, rfl, trivial, h227⟩
           ·intro q3 w Γx Ωx h
            refine OpS.mv rfl rfl rfl ?_
            exact ⟨undef, rfl, trivial, h⟩
           ·intro q3 w Γx Ωx h
            have h : St e w ([(true, .val (Rep.slice (Rep.int .u8)) u13 y6.Data), (true, .val (Rep.slice Rep.bool) u12 y6.Have), (true, .val (Rep.iso (fun s : Download_ => (s.Size, s.Part, s.Have, s.Data, ())) (Rep.prod (Rep.int .i64) (Rep.prod (Rep.int .i64) (Rep.prod (Rep.raw u12) (Rep.prod (Rep.raw u13) Rep.unit))))) u11 y6), (false, .val Download_.rep u10 y5.1), (false, .val Download_.rep u8 y5.1), (false, .val (Rep.slice (Rep.int .u8)) v0 a0), (false, .val (Rep.slice (Rep.int .u8)) v2 a2)] ++ Γx) ([(false, .box 51 field_Codes.rep u7 y7.2), (true, .slice 5 (Rep.int .u8) (.slice none 0 0) ([])), (false, .box 28 Download_.rep u9 y5.1), (false, .box 28 Download_.rep u1 a1)] ++ Ωx) := h
            have h228 := h.front (.cons .z .nil)
            refine OpS.callO h228 Try.func18 rfl rfl rfl rfl (vs := [u7, .int .i64 4]) rfl (field_Codes_Next_ok e63) rfl .nil ?_
            rintro _ w75 _ _ _ ⟨rfl, rfl, rfl, rfl⟩ h229
            have h230 := h229
            simp only [List.cons_append, List.nil_append] at h230
            exact ⟨undef, rfl, trivial, h230⟩
           ·intro q3 w Γx Ωx h
            refine OpS.iptr h Try.underlying37 ty3 rfl rfl rfl rfl (V.at .z) e64 (fun u h231 => ?_)
            exact ⟨u, rfl, trivial, h231⟩
           ·intro q3 w Γx Ωx h
            refine OpS.loadi h ty3 rfl rfl rfl .z ?_
            exact ⟨undef, rfl, trivial, h⟩
           have h232 : St e w [(true, .val (Rep.slice (Rep.int .i64)) (q3 3) ([0, (-1), 65, (IntKind.i64.wrap (({ { y6 with Have := y6.Have } with Data := y6.Data }).Part + 1))])), (true, .ptr (Rep.int .i64) (q3 6) x17), (true, .val (Rep.slice (Rep.int .u8)) u13 y6.Data), (true, .val (Rep.slice Rep.bool) u12 y6.Have), (true, .val (Rep.iso (fun s : Download_ => (s.Size, s.Part, s.Have, s.Data, ())) (Rep.prod (Rep.int .i64) (Rep.prod (Rep.int .i64) (Rep.prod (Rep.raw u12) (Rep.prod (Rep.raw u13) Rep.unit))))) u11 y6), (false, .val Download_.rep u10 y5.1), (false, .val Download_.rep u8 y5.1), (false, .val (Rep.slice (Rep.int .u8)) v0 a0), (false, .val (Rep.slice (Rep.int .u8)) v2 a2)] [(true, .box 28 Download_.rep u14 ({ { y6 with Have := y6.Have } with Data := y6.Data })), (false, .box 51 field_Codes.rep u7 y25.2), (true, .slice 5 (Rep.int .u8) (.slice none 0 0) ([])), (false, .box 28 Download_.rep u9 y5.1), (false, .box 28 Download_.rep u1 a1)] := h
           refine op (OpS.fbox (o3 := 1) h232 .z PA.z fa28_1 rfl rfl rfl rfl ?_)
           obtain ⟨d5, e65, hF⟩ := letP_use hF
           refine op (OpS.storeB (f' := true) h232 .z PA.a (Put.of (Put.fld Download_.f1) e65) ty3 rfl rfl rfl V.int (.inl rfl) (fun w76 h233 => ?_))
           refine RunL.nil ?_
           refine Run.slim [(21, u14), (20, u9), (19, u7), (2, v2), (5, .int .i64 a5), (6, .int .i64 a6), (8, u1)] ⟨rfl, rfl, rfl, rfl, rfl, rfl, rfl, trivial⟩ ?_
           refine Run.slim [(2, v2), (5, .int .i64 a5), (6, .int .i64 a6), (8, u1), (19, u7), (20, u9), (21, u14)] ⟨rfl, rfl, rfl, rfl, rfl, rfl, rfl, trivial⟩ ?_
           exact hj3 (y25.2, d5) _ _ ⟨rfl, (h233.facts (.atm (.s (.s (.s (.s (.s (.s (.s (.s .z)))))))) .nil)).picks (.cons (.s (.s (.s (.s .z)))) (.cons (.s .z) (.cons (.s (.s .z)) (.cons .z .nil))))⟩ hF
          ·
           refine Run.skip ?_
           have h234 := (h32.pick (.s (.s (.s .z)))).freeze
           have h235 := h234.pick (.s .z)
           have h236 := St.boxJ (r' := (Rep.iso (fun s : Download_ => (s.Size, s.Part, s.Have, s.Data, ())) (Rep.prod (Rep.int .i64) (Rep.prod (Rep.int .i64) (Rep.prod (Rep.slice Rep.bool) (Rep.prod (Rep.raw u13) Rep.unit)))))) (x' := { y6 with Have := y6.Have }) h235 (fun _ _ hs_ => (Jn.iso _ (Jn.prod Jn.refl (Jn.prod Jn.refl (Jn.prod (Jn.raw ((V.at .z) _ _ hs_) rfl) (Jn.prod Jn.same Jn.refl))))))
           have h237 := (h236.pick (.s (.s (.s .z)))).freeze
           have h238 := h237.pick .z
           have h239 := St.boxJ (r' := Download_.rep) (x' := { { y6 with Have := y6.Have } with Data := y6.Data }) h238 (fun _ _ hs_ => (Jn.iso _ (Jn.prod Jn.refl (Jn.prod Jn.refl (Jn.prod Jn.refl (Jn.prod (Jn.raw ((V.at .z) _ _ hs_) rfl) Jn.refl))))))
           refine Run.slim [(2, v2), (5, .int .i64 a5), (6, .int .i64 a6), (8, u1), (19, u7), (20, u9), (21, u14)] ⟨rfl, rfl, rfl, rfl, rfl, rfl, rfl, trivial⟩ ?_
           exact hj3 (y7.2, { { y6 with Have := y6.Have } with Data := y6.Data }) _ _ ⟨rfl, (h239.facts (.atm (.s (.s (.s (.s (.s (.s .z)))))) .nil)).picks (.cons (.s (.s (.s (.s .z)))) (.cons (.s .z) (.cons (.s (.s .z)) (.cons .z .nil))))⟩ hF
    ·
     refine RunL.caseb hF (fun e66 hF => ?_) (fun e66 hF => ?_)
     ·
      refine op (OpS.pass rfl rfl rfl ?_)
      refine op (OpS.pass rfl rfl rfl ?_)
      refine op (OpS.pass rfl rfl rfl ?_)
      refine op (OpS.pass rfl rfl rfl ?_)
      refine op (OpS.pick rfl rfl rfl rfl ?_)
      refine RunL.nil ?_
      refine Run.slim [(72, .bool true), (0, v0), (2, v2), (5, .int .i64 a5), (6, .int .i64 a6), (8, u1)] ⟨rfl, rfl, rfl, rfl, rfl, rfl, trivial⟩ ?_
      refine Run.slim [(0, v0), (2, v2), (5, .int .i64 a5), (6, .int .i64 a6), (8, u1), (72, .bool true)] ⟨rfl, rfl, rfl, rfl, rfl, rfl, trivial⟩ ?_
      exact hj2 (true) _ _ ⟨rfl, (h13.facts (.atm (.s (.s .z)) (.atm (.s (.s (.s .z))) .nil))).picks (.cons (.s (.s .z)) .nil)⟩ hF
     ·
      refine op (OpS.loadB h13 (.s .z) PA.z Get.id ty28 rfl rfl rfl (fun u36 h240 => ?_))
      refine op (OpS.loadB h240 .z PA.z Get.id ty28 rfl rfl rfl (fun u37 h241 => ?_))
      obtain ⟨y26, e67, hF⟩ := bindP_use hF
      refine op (OpS.callP h241 Try.func12 rfl rfl rfl rfl (vs := [u36, u37]) rfl (ref30_Same_ok e67) (.cons (f := true) (V.at (.s .z)) (.cons (f := true) (V.at .z) .nil)) ?_)
      rintro _ w77 _ _ _ ⟨rfl, rfl, rfl, rfl⟩ h242
      have h243 := h242 rfl rfl
      simp only [List.cons_append, List.nil_append] at h243
      refine op (OpS.not rfl rfl rfl ?_)
      refine op (OpS.pick rfl rfl rfl rfl ?_)
      refine RunL.nil ?_
      refine Run.slim [(72, .bool (!y26)), (0, v0), (2, v2), (5, .int .i64 a5), (6, .int .i64 a6), (8, u1)] ⟨rfl, rfl, rfl, rfl, rfl, rfl, trivial⟩ ?_
      refine Run.slim [(0, v0), (2, v2), (5, .int .i64 a5), (6, .int .i64 a6), (8, u1), (72, .bool (!y26))] ⟨rfl, rfl, rfl, rfl, rfl, rfl, trivial⟩ ?_
      exact hj2 (!y26) _ _ ⟨rfl, (h243.facts (.atm (.s (.s (.s (.s .z)))) (.atm (.s (.s (.s (.s (.s .z))))) .nil))).picks (.cons (.s (.s .z)) .nil)⟩ hF
  ·
   refine RunL.caseb hF (fun e68 hF => ?_) (fun e68 hF => ?_)
   ·
    refine op (OpS.pass rfl rfl rfl ?_)
    refine op (OpS.pass rfl rfl rfl ?_)
    refine op (OpS.pass rfl rfl rfl ?_)
    refine op (OpS.pass rfl rfl rfl ?_)
    refine op (OpS.pick rfl rfl rfl rfl ?_)
    refine op (OpS.mv rfl rfl rfl ?_)
    refine op (OpS.pass rfl rfl rfl ?_)
    refine op (OpS.pass rfl rfl rfl ?_)
    refine op (OpS.pass rfl rfl rfl ?_)
    refine op (OpS.pick rfl rfl rfl rfl ?_)
    refine RunL.nil ?_
    refine Run.slim [(51, .bool true), (8, u1), (0, v0), (2, v2), (3, .int .i64 a3), (4, .int .i64 a4), (5, .int .i64 a5), (6, .int .i64 a6)] ⟨rfl, rfl, rfl, rfl, rfl, rfl, rfl, rfl, trivial⟩ ?_
    refine Run.slim [(0, v0), (2, v2), (3, .int .i64 a3), (4, .int .i64 a4), (5, .int .i64 a5), (6, .int .i64 a6), (8, u1), (51, .bool true)] ⟨rfl, rfl, rfl, rfl, rfl, rfl, rfl, rfl, trivial⟩ ?_
    exact hj1 (true) _ _ ⟨rfl, (h4.facts (.atm (.s .z) (.atm (.s (.s (.s .z))) .nil))).picks (.cons .z .nil)⟩ hF
   ·
    refine op (OpS.fbox (o3 := 3) h4 .z PA.z fa28_3 rfl rfl rfl rfl ?_)
    refine op (OpS.loadB h4 .z PA.a (Get.fld Download_.f3) ty22 rfl rfl rfl (fun u38 h244 => ?_))
    refine op (OpS.len h244 Try.underlying22 rfl rfl rfl (V.at .z) ?_)
    refine op (OpS.bin rfl rfl rfl rfl rfl ?_)
    refine op (OpS.pick rfl rfl rfl rfl ?_)
    refine op (OpS.mv rfl rfl rfl ?_)
    refine RunL.caseb hF (fun e69 hF => ?_) (fun e69 hF => ?_)
    ·
     refine op (OpS.pass rfl rfl rfl ?_)
     refine op (OpS.pass rfl rfl rfl ?_)
     refine op (OpS.pass rfl rfl rfl ?_)
     refine op (OpS.pick rfl rfl rfl rfl ?_)
     refine RunL.nil ?_
     refine Run.slim [(51, .bool true), (8, u1), (0, v0), (2, v2), (3, .int .i64 a3), (4, .int .i64 a4), (5, .int .i64 a5), (6, .int .i64 a6)] ⟨rfl, rfl, rfl, rfl, rfl, rfl, rfl, rfl, trivial⟩ ?_
     refine Run.slim [(0, v0), (2, v2), (3, .int .i64 a3), (4, .int .i64 a4), (5, .int .i64 a5), (6, .int .i64 a6), (8, u1), (51, .bool true)] ⟨rfl, rfl, rfl, rfl, rfl, rfl, rfl, rfl, trivial⟩ ?_
     exact hj1 (true) _ _ ⟨rfl, (h244.facts (.atm (.s (.s .z)) (.atm (.s (.s (.s (.s .z)))) .nil))).picks (.cons .z .nil)⟩ hF
    ·
     refine op (OpS.mv rfl rfl rfl ?_)
     refine op (OpS.len h244 Try.underlying22 rfl rfl rfl (V.at (.s (.s (.s (.s .z))))) ?_)
     refine op (OpS.bin rfl rfl rfl rfl rfl ?_)
     refine op (OpS.pick rfl rfl rfl rfl ?_)
     refine RunL.nil ?_
     refine Run.slim [(51, .bool (decide ((a2.length : Int) > 300))), (8, u1), (0, v0), (2, v2), (3, .int .i64 a3), (4, .int .i64 a4), (5, .int .i64 a5), (6, .int .i64 a6)] ⟨rfl, rfl, rfl, rfl, rfl, rfl, rfl, rfl, trivial⟩ ?_
     refine Run.slim [(0, v0), (2, v2), (3, .int .i64 a3), (4, .int .i64 a4), (5, .int .i64 a5), (6, .int .i64 a6), (8, u1), (51, .bool (decide ((a2.length : Int) > 300)))] ⟨rfl, rfl, rfl, rfl, rfl, rfl, rfl, rfl, trivial⟩ ?_
     exact hj1 (decide ((a2.length : Int) > 300)) _ _ ⟨rfl, (h244.facts (.atm (.s (.s .z)) (.atm (.s (.s (.s (.s .z)))) .nil))).picks (.cons .z .nil)⟩ hF
end Lift
