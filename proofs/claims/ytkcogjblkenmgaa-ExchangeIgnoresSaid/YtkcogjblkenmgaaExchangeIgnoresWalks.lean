/- Each Go function computes its plain function. Written by lift.py. -/
import Derived.Test.YtkcogjblkenmgaaExchangeIgnoresWalksC
set_option linter.unusedVariables false
set_option linter.unusedSimpArgs false
namespace Lift
open Go Go.Proofs
theorem message_Response_ok {fuel : Nat} {a0 : Message_} {y : (List Int) × Int} (hF : message_Response fuel a0 = some y) {w : World} {v0 : Value} :
    Spec Try.prog 32 [v0].toArray w [(false, .val Message_.rep v0 a0)] [] (fun v Γr Ωr Ωo => ∃ u0 : Value, v = .tuple #[u0, .int .i64 y.2] ∧ Γr = [] ∧ Ωr = [(true, .slice 5 (Rep.int .u8) u0 y.1)] ∧ Ωo = []) := by
  refine Spec.of (L := [(0, v0)]) Try.func32 rfl ⟨rfl, trivial⟩ rfl (fun e h => ?_)
  unfold message_Response at hF
  refine Run.seq ?_
  refine Run.reg ?_
  refine RunL.op (OpS.boxF h rfl rfl rfl (V.at .z) (fun u1 w1 h1 => ?_))
  refine RunL.op (OpS.as rfl rfl rfl ?_)
  refine RunL.op (OpS.as rfl rfl rfl ?_)
  refine RunL.nil ?_
  refine Run.slim [(1, u1)] ⟨rfl, trivial⟩ ?_
  refine Run.seq ?_
  refine Run.seq ?_
  refine Run.reg ?_
  refine RunL.op (OpS.loadB h1 .z PA.z Get.id ty51 rfl rfl rfl (fun u2 h2 => ?_))
  obtain ⟨y1, e1, hF⟩ := bindP_use hF
  refine RunL.op (OpS.callP h2 Try.func49 rfl rfl rfl rfl (vs := [u2]) rfl (message_Valid_ok e1) (.cons (f := false) (V.at .z) .nil) ?_)
  rintro _ w2 _ _ _ ⟨rfl, rfl, rfl, rfl⟩ h3
  have h4 := h3 rfl rfl
  simp only [List.cons_append, List.nil_append] at h4
  refine RunL.op (OpS.not rfl rfl rfl ?_)
  refine RunL.op (OpS.mv rfl rfl rfl ?_)
  refine RunL.join (σ := Bool) (fun s_ L_ w_ => L_ = [(1, u1), (10, .bool s_)] ∧ St e w_ [] [(false, .box 51 Message_.rep u1 a0)]) hF (fun s1 _ w3 hI hF => ?_) (fun j1 hj1 hF => ?_)
  ·
    obtain ⟨rfl, h5⟩ := hI
    refine Run.ite rfl hF (fun e2 hF => ?_) (fun e2 hF => ?_)
    ·
      refine Run.seq ?_
      refine Run.reg ?_
      refine RunL.op (OpS.as rfl rfl rfl ?_)
      refine RunL.op (OpS.as rfl rfl rfl ?_)
      refine RunL.nil ?_
      refine Run.slim [(3, .int .i64 1), (2, .slice none 0 0)] ⟨rfl, rfl, trivial⟩ ?_
      have h6 := St.nil 5 (Rep.int .u8) h5
      refine Run.retP rfl (.tmp rfl (.tmp rfl .nil)) ?_
      cases hF
      exact Post.mk' ⟨(.slice none 0 0), rfl, rfl, rfl, rfl⟩ (h6.picks (.cons .z .nil)) .nil
    ·
      refine Run.skip ?_
      refine Run.seq ?_
      refine Run.reg ?_
      refine RunL.op (OpS.loadB h5 .z PA.z Get.id ty51 rfl rfl rfl (fun u3 h7 => ?_))
      obtain ⟨y2, e3, hF⟩ := bindP_use hF
      refine RunL.op (OpS.callP h7 Try.func52 rfl rfl rfl rfl (vs := [u3]) rfl (message_encode_ok e3) (.cons (f := false) (V.at .z) .nil) ?_)
      rintro u4 w4 _ _ _ ⟨_, rfl, rfl, rfl, rfl⟩ h8
      have h9 := h8 rfl rfl
      simp only [List.cons_append, List.nil_append] at h9
      refine RunL.op (OpS.as rfl rfl rfl ?_)
      refine RunL.op (OpS.as rfl rfl rfl ?_)
      refine RunL.nil ?_
      refine Run.slim [(3, .int .i64 0), (2, u4)] ⟨rfl, rfl, trivial⟩ ?_
      refine Run.retP rfl (.tmp rfl (.tmp rfl .nil)) ?_
      cases hF
      exact Post.mk' ⟨u4, rfl, rfl, rfl, rfl⟩ (h9.picks (.cons .z .nil)) .nil
  ·
    refine RunL.caseb hF (fun e4 hF => ?_) (fun e4 hF => ?_)
    ·
      refine RunL.op (OpS.pass rfl rfl rfl ?_)
      refine RunL.op (OpS.pass rfl rfl rfl ?_)
      refine RunL.op (OpS.pick rfl rfl rfl rfl ?_)
      refine RunL.nil ?_
      refine Run.slim [(10, .bool true), (1, u1)] ⟨rfl, rfl, trivial⟩ ?_
      refine Run.slim [(1, u1), (10, .bool true)] ⟨rfl, rfl, trivial⟩ ?_
      exact hj1 (true) _ _ ⟨rfl, (h4.facts .nil).picks (.cons .z .nil)⟩ hF
    ·
      refine RunL.op (OpS.loadB h4 .z PA.z Get.id ty51 rfl rfl rfl (fun u5 h10 => ?_))
      obtain ⟨y3, e5, hF⟩ := bindP_use hF
      refine RunL.op (OpS.callP h10 Try.func50 rfl rfl rfl rfl (vs := [u5]) rfl (message_request_ok e5) (.cons (f := false) (V.at .z) .nil) ?_)
      rintro _ w5 _ _ _ ⟨rfl, rfl, rfl, rfl⟩ h11
      have h12 := h11 rfl rfl
      simp only [List.cons_append, List.nil_append] at h12
      refine RunL.op (OpS.pick rfl rfl rfl rfl ?_)
      refine RunL.nil ?_
      refine Run.slim [(10, .bool y3), (1, u1)] ⟨rfl, rfl, trivial⟩ ?_
      refine Run.slim [(1, u1), (10, .bool y3)] ⟨rfl, rfl, trivial⟩ ?_
      exact hj1 (y3) _ _ ⟨rfl, (h12.facts .nil).picks (.cons .z .nil)⟩ hF
set_option maxHeartbeats 8000000 in
theorem law24_ExchangeIgnores_ok {fuel : Nat} {a0 : List Int} {a1 : Message_} {a2 : List Int} {y : Bool} (hF : law24_ExchangeIgnores fuel a0 a1 a2 = some y) {w : World} {v0 v1 v2 : Value} :
    Spec Try.prog 6 [v0, v1, v2].toArray w [(false, .val (Rep.slice (Rep.int .u8)) v0 a0), (false, .val Message_.rep v1 a1), (false, .val (Rep.slice (Rep.int .u8)) v2 a2)] [] (fun v Γr Ωr Ωo => v = .bool y ∧ Γr = [] ∧ Ωr = [] ∧ Ωo = []) := by
  refine Spec.of (L := [(0, v0), (1, v1), (2, v2)]) Try.func6 rfl ⟨rfl, rfl, rfl, trivial⟩ rfl (fun e h => ?_)
  unfold law24_ExchangeIgnores at hF
  refine Run.seq ?_
  refine Run.reg ?_
  refine RunL.op (OpS.boxF h rfl rfl rfl (V.at (.s .z)) (fun u1 w1 h1 => ?_))
  refine RunL.op (OpS.as rfl rfl rfl ?_)
  refine RunL.nil ?_
  refine Run.slim [(4, u1), (0, v0), (2, v2)] ⟨rfl, rfl, rfl, trivial⟩ ?_
  refine Run.seq ?_
  refine Run.seq ?_
  refine Run.reg ?_
  obtain ⟨y1, e1, hF⟩ := bindP_use hF
  refine RunL.op (OpS.callP h1 Try.func8 rfl rfl rfl rfl (vs := []) rfl (law24_awake_ok e1) .nil ?_)
  rintro _ w2 _ _ _ ⟨rfl, rfl, rfl, rfl⟩ h2
  have h3 := h2 rfl rfl
  simp only [List.cons_append, List.nil_append] at h3
  refine RunL.op (OpS.not rfl rfl rfl ?_)
  refine RunL.nil ?_
  refine Run.slim [(21, .bool (!y1)), (4, u1), (0, v0), (2, v2)] ⟨rfl, rfl, rfl, rfl, trivial⟩ ?_
  refine Run.ite rfl hF (fun e2 hF => ?_) (fun e2 hF => ?_)
  ·
    refine Run.seq ?_
    refine Run.reg ?_
    refine RunL.op (OpS.as rfl rfl rfl ?_)
    refine RunL.nil ?_
    refine Run.slim [(6, .bool false)] ⟨rfl, trivial⟩ ?_
    refine Run.retP rfl (.tmp rfl .nil) ?_
    cases hF
    exact Post.mk' ⟨rfl, rfl, rfl, rfl⟩ (h3.picks .nil) .nil
  ·
    refine Run.skip ?_
    refine Run.seq ?_
    refine Run.seq ?_
    refine Run.reg ?_
    refine RunL.op (OpS.mv rfl rfl rfl ?_)
    refine RunL.op (OpS.len h3 Try.underlying22 rfl rfl rfl (V.at (.s (.s .z))) ?_)
    refine RunL.op (OpS.bin rfl rfl rfl rfl rfl ?_)
    refine RunL.op (OpS.mv rfl rfl rfl ?_)
    refine RunL.join (σ := Bool) (fun s_ L_ w_ => L_ = [(0, v0), (2, v2), (4, u1), (30, .bool s_)] ∧ St e w_ [(false, .val (Rep.slice (Rep.int .u8)) v0 a0), (false, .val (Rep.slice (Rep.int .u8)) v2 a2)] [(false, .box 51 Message_.rep u1 a1)]) hF (fun s1 _ w3 hI hF => ?_) (fun j1 hj1 hF => ?_)
    ·
      obtain ⟨rfl, h4⟩ := hI
      refine Run.ite rfl hF (fun e3 hF => ?_) (fun e3 hF => ?_)
      ·
        refine Run.seq ?_
        refine Run.reg ?_
        refine RunL.op (OpS.as rfl rfl rfl ?_)
        refine RunL.nil ?_
        refine Run.slim [(6, .bool true)] ⟨rfl, trivial⟩ ?_
        refine Run.retP rfl (.tmp rfl .nil) ?_
        cases hF
        exact Post.mk' ⟨rfl, rfl, rfl, rfl⟩ (h4.picks .nil) .nil
      ·
        refine Run.skip ?_
        refine Run.seq ?_
        refine Run.reg ?_
        refine RunL.op (OpS.mv rfl rfl rfl ?_)
        obtain ⟨y2, e4, hF⟩ := bindP_use hF
        have h5 := h4.front .nil
        refine RunL.op (OpS.callO h5 Try.func12 rfl rfl rfl rfl (vs := [v0, .int .i64 100]) rfl (field_New_ok e4) rfl (.cons (f := false) (V.at .z) .nil) ?_)
        rintro u2 w4 _ _ _ ⟨_, rfl, rfl, rfl, rfl⟩ h6
        have h7 := h6
        simp only [List.cons_append, List.nil_append] at h7
        obtain ⟨y3, e5, hF⟩ := bindP_use hF
        have h8 := h7.front (.cons .z .nil)
        refine RunL.op (OpS.callO h8 Try.func13 rfl rfl rfl rfl (vs := [u2, .int .i64 10]) rfl (law24_play_ok e5) rfl .nil ?_)
        rintro _ w5 _ _ _ ⟨u3, rfl, rfl, rfl, rfl⟩ h9
        have h10 := h9
        simp only [List.cons_append, List.nil_append] at h10
        refine RunL.op (OpS.mv rfl rfl rfl ?_)
        refine RunL.op (OpS.ext rfl rfl rfl rfl ?_)
        refine RunL.op (OpS.ext rfl rfl rfl rfl ?_)
        refine RunL.op (OpS.alloc h10 ti26 Requester_.zr rfl rfl (fun u4 w6 h11 => ?_))
        refine RunL.op (OpS.storeB (f' := true) h11 .z PA.z Put.id ty26 rfl rfl rfl (V.at .z) (.inl rfl) (fun w7 h12 => ?_))
        refine RunL.op (OpS.as rfl rfl rfl ?_)
        refine RunL.nil ?_
        refine Run.slim [(7, u4), (2, v2), (4, u1)] ⟨rfl, rfl, rfl, trivial⟩ ?_
        refine Run.seq ?_
        refine Run.reg ?_
        refine RunL.op (OpS.loadB h12 (.s (.s .z)) PA.z Get.id ty51 rfl rfl rfl (fun u5 h13 => ?_))
        obtain ⟨y4, e6, hF⟩ := bindP_use hF
        refine RunL.op (OpS.callP h13 Try.func32 rfl rfl rfl rfl (vs := [u5]) rfl (message_Response_ok e6) (.cons (f := false) (V.at .z) .nil) ?_)
        rintro _ w8 _ _ _ ⟨u6, rfl, rfl, rfl, rfl⟩ h14
        have h15 := h14 rfl rfl
        simp only [List.cons_append, List.nil_append] at h15
        refine RunL.op (OpS.mv rfl rfl rfl ?_)
        refine RunL.op (OpS.ext rfl rfl rfl rfl ?_)
        refine RunL.op (OpS.ext rfl rfl rfl rfl ?_)
        refine RunL.op (OpS.as rfl rfl rfl ?_)
        have h16 := (h15.pick .z).freeze
        refine RunL.op (OpS.as rfl rfl rfl ?_)
        refine RunL.nil ?_
        refine Run.slim [(10, .int .i64 y4.2), (9, u6), (7, u4), (2, v2)] ⟨rfl, rfl, rfl, rfl, trivial⟩ ?_
        refine Run.seq ?_
        refine Run.seq ?_
        refine Run.reg ?_
        refine RunL.op (OpS.mv rfl rfl rfl ?_)
        refine RunL.op (OpS.bin rfl rfl rfl rfl rfl ?_)
        refine RunL.nil ?_
        refine Run.slim [(43, .bool (y4.2 != 0)), (9, u6), (7, u4), (2, v2)] ⟨rfl, rfl, rfl, rfl, trivial⟩ ?_
        refine Run.join (σ := ((List Int))) (fun s_ L_ w_ => ∃ u0_ : Value, L_ = [(7, u4), (9, u0_)] ∧ St e w_ [(false, .val (Rep.slice (Rep.int .u8)) u0_ s_)] [(true, .box 26 Requester_.rep u4 y3.1)]) hF (fun s2 _ w9 hI hF => ?_) (fun j2 hj2 hF => ?_)
        ·
          obtain ⟨u7, rfl, h17⟩ := hI
          refine Run.seq ?_
          refine Run.reg ?_
          refine RunL.op (OpS.mv rfl rfl rfl ?_)
          obtain ⟨y5, e7, hF⟩ := bindP_use hF
          refine RunL.op (OpS.callP h17 Try.func33 rfl rfl rfl rfl (vs := [u7]) rfl (message_ParseResponse_ok e7) (.cons (f := false) (V.at .z) .nil) ?_)
          rintro _ w10 _ _ _ ⟨u8, rfl, rfl, rfl, rfl⟩ h18
          have h19 := h18 rfl rfl
          simp only [List.cons_append, List.nil_append] at h19
          refine RunL.op (OpS.mv rfl rfl rfl ?_)
          refine RunL.op (OpS.ext rfl rfl rfl rfl ?_)
          refine RunL.op (OpS.ext rfl rfl rfl rfl ?_)
          refine RunL.op (OpS.alloc h19 ti51 Message_.zr rfl rfl (fun u9 w11 h20 => ?_))
          refine RunL.op (OpS.storeB (f' := true) h20 .z PA.z Put.id ty51 rfl rfl rfl (V.at .z) (.inl rfl) (fun w12 h21 => ?_))
          refine RunL.op (OpS.as rfl rfl rfl ?_)
          refine RunL.nil ?_
          refine Run.slim [(12, .int .i64 y5.2), (11, u9), (7, u4), (9, u7)] ⟨rfl, rfl, rfl, rfl, trivial⟩ ?_
          refine Run.seq ?_
          refine Run.reg ?_
          refine RunL.op (OpS.as rfl rfl rfl ?_)
          refine RunL.nil ?_
          refine Run.seq ?_
          refine Run.seq ?_
          refine Run.reg ?_
          refine RunL.op (OpS.fbox (o3 := 2) h21 (.s .z) PA.z fa26_2 rfl rfl rfl rfl ?_)
          refine RunL.op (OpS.loadB h21 (.s .z) PA.a (Get.fld Requester_.f2) ty24 rfl rfl rfl (fun u10 h22 => ?_))
          refine RunL.op (OpS.len h22 Try.underlying24 rfl rfl rfl (V.at .z) ?_)
          refine RunL.op (OpS.mv rfl rfl rfl ?_)
          refine RunL.nil ?_
          refine Run.slim [(53, .int .i64 0), (52, .int .i64 (y3.1.Pending.length : Int)), (51, u10), (13, .int .i64 0), (12, .int .i64 y5.2), (11, u9), (7, u4), (9, u7)] ⟨rfl, rfl, rfl, rfl, rfl, rfl, rfl, rfl, trivial⟩ ?_
          refine Run.block ?_
          refine Run.slim [(7, u4), (9, u7), (11, u9), (12, .int .i64 y5.2), (13, .int .i64 0), (51, u10), (52, .int .i64 (y3.1.Pending.length : Int)), (53, .int .i64 0)] ⟨rfl, rfl, rfl, rfl, rfl, rfl, rfl, rfl, trivial⟩ ?_
          refine Run.loopP (σ := (Int × Int)) (fun s_ L_ w_ => L_ = [(7, u4), (9, u7), (11, u9), (12, .int .i64 y5.2), (13, .int .i64 s_.1), (51, u10), (52, .int .i64 (y3.1.Pending.length : Int)), (53, .int .i64 s_.2)] ∧ St e w_ [(false, .val (Rep.slice (Rep.int .u8)) u7 s2), (true, .val (Rep.slice Pending_.rep) u10 y3.1.Pending)] [(true, .box 26 Requester_.rep u4 y3.1), (true, .box 51 Message_.rep u9 y5.1)]) hF ⟨rfl, (h22.facts (.atm (.s (.s .z)) (.atm .z .nil))).picks (.cons (.s .z) (.cons .z .nil))⟩ (fun k1 hk1 s3 _ w13 hI hF => ?_)
          obtain ⟨rfl, h23⟩ := hI
          refine Run.seq ?_
          refine Run.reg ?_
          refine RunL.op (OpS.bin rfl rfl rfl rfl rfl ?_)
          refine RunL.nil ?_
          refine Run.seq ?_
          refine Run.ite rfl hF (fun e8 hF => ?_) (fun e8 hF => ?_)
          ·
            refine Run.skip ?_
            refine Run.seq ?_
            refine Run.block ?_
            refine Run.seq ?_
            refine Run.reg ?_
            obtain ⟨x1, e9, hF⟩ := bindP_use hF
            refine RunL.op (OpS.iptr h23 Try.underlying24 ty55 rfl rfl rfl rfl (V.at (.s .z)) e9 (fun u11 h24 => ?_))
            refine RunL.op (OpS.load h24 ty55 rfl rfl rfl .z (fun u12 h25 => ?_))
            refine RunL.op (OpS.alloc h25 ti55 Pending_.zr rfl rfl (fun u13 w14 h26 => ?_))
            refine RunL.op (OpS.storeB (f' := true) h26 .z PA.z Put.id ty55 rfl rfl rfl (V.at .z) (.inl rfl) (fun w15 h27 => ?_))
            refine RunL.nil ?_
            refine Run.slim [(15, u13), (7, u4), (9, u7), (11, u9), (12, .int .i64 y5.2), (13, .int .i64 s3.1), (51, u10), (52, .int .i64 (y3.1.Pending.length : Int)), (53, .int .i64 s3.2)] ⟨rfl, rfl, rfl, rfl, rfl, rfl, rfl, rfl, rfl, trivial⟩ ?_
            refine Run.seq ?_
            refine Run.reg ?_
            refine RunL.op (OpS.mv rfl rfl rfl ?_)
            refine RunL.op (OpS.bin rfl rfl rfl rfl rfl ?_)
            refine RunL.op (OpS.mv rfl rfl rfl ?_)
            refine RunL.join (σ := Bool) (fun s_ L_ w_ => L_ = [(7, u4), (9, u7), (11, u9), (12, .int .i64 y5.2), (13, .int .i64 s3.1), (51, u10), (52, .int .i64 (y3.1.Pending.length : Int)), (53, .int .i64 s3.2), (64, .bool s_)] ∧ St e w_ [(false, .val (Rep.slice (Rep.int .u8)) u7 s2), (true, .val (Rep.slice Pending_.rep) u10 y3.1.Pending)] [(true, .box 26 Requester_.rep u4 y3.1), (true, .box 51 Message_.rep u9 y5.1)]) hF (fun s4 _ w16 hI hF => ?_) (fun j3 hj3 hF => ?_)
            ·
              obtain ⟨rfl, h28⟩ := hI
              refine Run.ite rfl hF (fun e10 hF => ?_) (fun e10 hF => ?_)
              ·
                refine Run.reg ?_
                refine RunL.op (OpS.mv rfl rfl rfl ?_)
                refine RunL.op (OpS.bin rfl rfl rfl rfl rfl ?_)
                refine RunL.op (OpS.as rfl rfl rfl ?_)
                obtain ⟨x2, e11, hF⟩ := letP_use hF
                refine RunL.name e11 ?_
                refine RunL.nil ?_
                refine Run.slim [(13, .int .i64 x2), (7, u4), (9, u7), (11, u9), (12, .int .i64 y5.2), (51, u10), (52, .int .i64 (y3.1.Pending.length : Int)), (53, .int .i64 s3.2)] ⟨rfl, rfl, rfl, rfl, rfl, rfl, rfl, rfl, trivial⟩ ?_
                refine Run.endBlock ?_
                refine Run.reg ?_
                refine RunL.op (OpS.bin rfl rfl rfl rfl rfl ?_)
                refine RunL.op (OpS.mv rfl rfl rfl ?_)
                refine RunL.nil ?_
                refine Run.slim [(53, .int .i64 (IntKind.i64.wrap (s3.2 + 1))), (13, .int .i64 x2), (7, u4), (9, u7), (11, u9), (12, .int .i64 y5.2), (51, u10), (52, .int .i64 (y3.1.Pending.length : Int))] ⟨rfl, rfl, rfl, rfl, rfl, rfl, rfl, rfl, trivial⟩ ?_
                refine Run.slim [(7, u4), (9, u7), (11, u9), (12, .int .i64 y5.2), (13, .int .i64 x2), (51, u10), (52, .int .i64 (y3.1.Pending.length : Int)), (53, .int .i64 (IntKind.i64.wrap (s3.2 + 1)))] ⟨rfl, rfl, rfl, rfl, rfl, rfl, rfl, rfl, trivial⟩ ?_
                exact hk1 (x2, (IntKind.i64.wrap (s3.2 + 1))) _ _ ⟨rfl, (h28.facts (.atm .z (.atm (.s .z) .nil))).picks (.cons .z (.cons .z .nil))⟩ hF
              ·
                refine Run.skip ?_
                refine Run.endBlock ?_
                refine Run.reg ?_
                refine RunL.op (OpS.bin rfl rfl rfl rfl rfl ?_)
                refine RunL.op (OpS.mv rfl rfl rfl ?_)
                refine RunL.nil ?_
                refine Run.slim [(53, .int .i64 (IntKind.i64.wrap (s3.2 + 1))), (7, u4), (9, u7), (11, u9), (12, .int .i64 y5.2), (13, .int .i64 s3.1), (51, u10), (52, .int .i64 (y3.1.Pending.length : Int))] ⟨rfl, rfl, rfl, rfl, rfl, rfl, rfl, rfl, trivial⟩ ?_
                refine Run.slim [(7, u4), (9, u7), (11, u9), (12, .int .i64 y5.2), (13, .int .i64 s3.1), (51, u10), (52, .int .i64 (y3.1.Pending.length : Int)), (53, .int .i64 (IntKind.i64.wrap (s3.2 + 1)))] ⟨rfl, rfl, rfl, rfl, rfl, rfl, rfl, rfl, trivial⟩ ?_
                exact hk1 (s3.1, (IntKind.i64.wrap (s3.2 + 1))) _ _ ⟨rfl, (h28.facts (.atm .z (.atm (.s .z) .nil))).picks (.cons .z (.cons .z .nil))⟩ hF
            ·
              refine RunL.caseb hF (fun e12 hF => ?_) (fun e12 hF => ?_)
              ·
                refine RunL.op (OpS.fbox (o3 := 0) h27 .z PA.z fa55_0 rfl rfl rfl rfl ?_)
                refine RunL.op (OpS.loadB h27 .z PA.a (Get.fld Pending_.f0) ty51 rfl rfl rfl (fun u14 h29 => ?_))
                refine RunL.op (OpS.loadB h29 (.s (.s .z)) PA.z Get.id ty51 rfl rfl rfl (fun u15 h30 => ?_))
                obtain ⟨y6, e13, hF⟩ := bindP_use hF
                refine RunL.op (OpS.callP h30 Try.func34 rfl rfl rfl rfl (vs := [u14, u15]) rfl (message_Matches_ok e13) (.cons (f := true) (V.at (.s .z)) (.cons (f := true) (V.at .z) .nil)) ?_)
                rintro _ w17 _ _ _ ⟨rfl, rfl, rfl, rfl⟩ h31
                have h32 := h31 rfl rfl
                simp only [List.cons_append, List.nil_append] at h32
                refine RunL.op (OpS.pick rfl rfl rfl rfl ?_)
                refine RunL.nil ?_
                refine Run.slim [(64, .bool y6), (7, u4), (9, u7), (11, u9), (12, .int .i64 y5.2), (13, .int .i64 s3.1), (51, u10), (52, .int .i64 (y3.1.Pending.length : Int)), (53, .int .i64 s3.2)] ⟨rfl, rfl, rfl, rfl, rfl, rfl, rfl, rfl, rfl, trivial⟩ ?_
                refine Run.slim [(7, u4), (9, u7), (11, u9), (12, .int .i64 y5.2), (13, .int .i64 s3.1), (51, u10), (52, .int .i64 (y3.1.Pending.length : Int)), (53, .int .i64 s3.2), (64, .bool y6)] ⟨rfl, rfl, rfl, rfl, rfl, rfl, rfl, rfl, rfl, trivial⟩ ?_
                exact hj3 (y6) _ _ ⟨rfl, (h32.facts (.atm (.s (.s (.s (.s .z)))) (.atm (.s (.s (.s (.s (.s .z))))) .nil))).picks (.cons (.s .z) (.cons (.s .z) .nil))⟩ hF
              ·
                refine RunL.op (OpS.pass rfl rfl rfl ?_)
                refine RunL.op (OpS.pass rfl rfl rfl ?_)
                refine RunL.op (OpS.pass rfl rfl rfl ?_)
                refine RunL.op (OpS.pass rfl rfl rfl ?_)
                refine RunL.op (OpS.pick rfl rfl rfl rfl ?_)
                refine RunL.nil ?_
                refine Run.slim [(64, .bool false), (7, u4), (9, u7), (11, u9), (12, .int .i64 y5.2), (13, .int .i64 s3.1), (51, u10), (52, .int .i64 (y3.1.Pending.length : Int)), (53, .int .i64 s3.2)] ⟨rfl, rfl, rfl, rfl, rfl, rfl, rfl, rfl, rfl, trivial⟩ ?_
                refine Run.slim [(7, u4), (9, u7), (11, u9), (12, .int .i64 y5.2), (13, .int .i64 s3.1), (51, u10), (52, .int .i64 (y3.1.Pending.length : Int)), (53, .int .i64 s3.2), (64, .bool false)] ⟨rfl, rfl, rfl, rfl, rfl, rfl, rfl, rfl, rfl, trivial⟩ ?_
                exact hj3 (false) _ _ ⟨rfl, (h27.facts (.atm (.s (.s .z)) (.atm (.s (.s (.s .z))) .nil))).picks (.cons (.s .z) (.cons (.s .z) .nil))⟩ hF
          ·
            refine Run.exit rfl ?_
            refine Run.seq ?_
            refine Run.reg ?_
            refine RunL.op (OpS.loadB h23 .z PA.z Get.id ty26 rfl rfl rfl (fun u16 h33 => ?_))
            refine RunL.op (OpS.mv rfl rfl rfl ?_)
            obtain ⟨y7, e14, hF⟩ := bindP_use hF
            have h34 := h33.front .nil
            refine RunL.op (OpS.callO h34 Try.func28 rfl rfl rfl rfl (vs := [u16, u7]) rfl (exchange_Receive_ok e14) rfl (.cons (f := true) (V.at .z) (.cons (f := false) (V.at (.s .z)) .nil)) ?_)
            rintro _ w18 _ _ _ ⟨u17, u18, u19, rfl, rfl, rfl, rfl⟩ h35
            have h36 := h35
            simp only [List.cons_append, List.nil_append] at h36
            refine RunL.op (OpS.mv rfl rfl rfl ?_)
            refine RunL.op (OpS.ext rfl rfl rfl rfl ?_)
            refine RunL.op (OpS.ext rfl rfl rfl rfl ?_)
            refine RunL.op (OpS.ext rfl rfl rfl rfl ?_)
            refine RunL.op (OpS.ext rfl rfl rfl rfl ?_)
            refine RunL.op (OpS.alloc h36 ti26 Requester_.zr rfl rfl (fun u20 w19 h37 => ?_))
            refine RunL.op (OpS.alloc h37 ti51 Message_.zr rfl rfl (fun u21 w20 h38 => ?_))
            refine RunL.op (OpS.alloc h38 ti51 Message_.zr rfl rfl (fun u22 w21 h39 => ?_))
            have h40 := (h39.pick (.s (.s .z))).weak
            refine RunL.op (OpS.storeB (f' := false) h40 .z PA.z Put.id ty26 rfl rfl rfl (V.at .z) (.inr rfl) (fun w22 h41 => ?_))
            have h42 := (h41.pick (.s (.s .z))).weak
            refine RunL.op (OpS.storeB (f' := false) h42 .z PA.z Put.id ty51 rfl rfl rfl (V.at (.s .z)) (.inr rfl) (fun w23 h43 => ?_))
            refine RunL.op (OpS.storeB (f' := true) h43 (.s (.s .z)) PA.z Put.id ty51 rfl rfl rfl (V.at (.s (.s .z))) (.inl rfl) (fun w24 h44 => ?_))
            refine RunL.op (OpS.as rfl rfl rfl ?_)
            refine RunL.nil ?_
            refine Run.slim [(19, .bool y7.2.2.2), (16, u20), (7, u4), (13, .int .i64 s3.1)] ⟨rfl, rfl, rfl, rfl, trivial⟩ ?_
            refine Run.seq ?_
            refine Run.seq ?_
            refine Run.reg ?_
            refine RunL.op (OpS.mv rfl rfl rfl ?_)
            refine RunL.op (OpS.mv rfl rfl rfl ?_)
            refine RunL.op (OpS.bin rfl rfl rfl rfl rfl ?_)
            refine RunL.op (OpS.neb Try.underlying4 rfl rfl rfl rfl ?_)
            refine RunL.nil ?_
            refine Run.slim [(79, .bool (y7.2.2.2 != (decide (s3.1 > 0)))), (19, .bool y7.2.2.2), (16, u20), (7, u4)] ⟨rfl, rfl, rfl, rfl, trivial⟩ ?_
            refine Run.ite rfl hF (fun e15 hF => ?_) (fun e15 hF => ?_)
            ·
              refine Run.seq ?_
              refine Run.reg ?_
              refine RunL.op (OpS.as rfl rfl rfl ?_)
              refine RunL.nil ?_
              refine Run.slim [(6, .bool false)] ⟨rfl, trivial⟩ ?_
              refine Run.retP rfl (.tmp rfl .nil) ?_
              cases hF
              exact Post.mk' ⟨rfl, rfl, rfl, rfl⟩ (h44.picks .nil) .nil
            ·
              refine Run.skip ?_
              refine Run.seq ?_
              refine Run.reg ?_
              refine RunL.op (OpS.mv rfl rfl rfl ?_)
              refine RunL.op (OpS.mv rfl rfl rfl ?_)
              refine RunL.caseb hF (fun e16 hF => ?_) (fun e16 hF => ?_)
              ·
                refine RunL.op (OpS.fbox (o3 := 2) h44 (.s (.s .z)) PA.z fa26_2 rfl rfl rfl rfl ?_)
                refine RunL.op (OpS.loadB h44 (.s (.s .z)) PA.a (Get.fld Requester_.f2) ty24 rfl rfl rfl (fun u23 h45 => ?_))
                refine RunL.op (OpS.len h45 Try.underlying24 rfl rfl rfl (V.at .z) ?_)
                refine RunL.op (OpS.fbox (o3 := 2) h45 (.s (.s (.s .z))) PA.z fa26_2 rfl rfl rfl rfl ?_)
                refine RunL.op (OpS.loadB h45 (.s (.s (.s .z))) PA.a (Get.fld Requester_.f2) ty24 rfl rfl rfl (fun u24 h46 => ?_))
                refine RunL.op (OpS.len h46 Try.underlying24 rfl rfl rfl (V.at .z) ?_)
                refine RunL.op (OpS.bin rfl rfl rfl rfl rfl ?_)
                refine RunL.op (OpS.bin rfl rfl rfl rfl rfl ?_)
                refine RunL.op (OpS.pick rfl rfl rfl rfl ?_)
                refine RunL.op (OpS.mv rfl rfl rfl ?_)
                refine RunL.caseb hF (fun e17 hF => ?_) (fun e17 hF => ?_)
                ·
                  refine RunL.op (OpS.pass rfl rfl rfl ?_)
                  refine RunL.op (OpS.pass rfl rfl rfl ?_)
                  refine RunL.op (OpS.pass rfl rfl rfl ?_)
                  refine RunL.op (OpS.pass rfl rfl rfl ?_)
                  refine RunL.op (OpS.pass rfl rfl rfl ?_)
                  refine RunL.op (OpS.pass rfl rfl rfl ?_)
                  refine RunL.op (OpS.pass rfl rfl rfl ?_)
                  refine RunL.op (OpS.pick rfl rfl rfl rfl ?_)
                  refine RunL.op (OpS.as rfl rfl rfl ?_)
                  refine RunL.nil ?_
                  refine Run.slim [(6, .bool true)] ⟨rfl, trivial⟩ ?_
                  refine Run.retP rfl (.tmp rfl .nil) ?_
                  cases hF
                  exact Post.mk' ⟨rfl, rfl, rfl, rfl⟩ (h46.picks .nil) .nil
                ·
                  refine RunL.op (OpS.mv rfl rfl rfl ?_)
                  refine RunL.op (OpS.not rfl rfl rfl ?_)
                  refine RunL.op (OpS.mv rfl rfl rfl ?_)
                  refine RunL.caseb hF (fun e18 hF => ?_) (fun e18 hF => ?_)
                  ·
                    refine RunL.op (OpS.loadB h46 (.s (.s .z)) PA.z Get.id ty26 rfl rfl rfl (fun u25 h47 => ?_))
                    refine RunL.op (OpS.loadB h47 (.s (.s (.s .z))) PA.z Get.id ty26 rfl rfl rfl (fun u26 h48 => ?_))
                    obtain ⟨y8, e19, hF⟩ := bindP_use hF
                    refine RunL.op (OpS.callP h48 Try.func16 rfl rfl rfl rfl (vs := [u25, u26]) rfl (ref24_Same_ok e19) (.cons (f := false) (V.at (.s .z)) (.cons (f := true) (V.at .z) .nil)) ?_)
                    rintro _ w25 _ _ _ ⟨rfl, rfl, rfl, rfl⟩ h49
                    have h50 := h49 rfl rfl
                    simp only [List.cons_append, List.nil_append] at h50
                    refine RunL.op (OpS.pick rfl rfl rfl rfl ?_)
                    refine RunL.op (OpS.pick rfl rfl rfl rfl ?_)
                    refine RunL.op (OpS.as rfl rfl rfl ?_)
                    refine RunL.nil ?_
                    refine Run.slim [(6, .bool y8)] ⟨rfl, trivial⟩ ?_
                    refine Run.retP rfl (.tmp rfl .nil) ?_
                    cases hF
                    exact Post.mk' ⟨rfl, rfl, rfl, rfl⟩ (h50.picks .nil) .nil
                  ·
                    refine RunL.op (OpS.pass rfl rfl rfl ?_)
                    refine RunL.op (OpS.pass rfl rfl rfl ?_)
                    refine RunL.op (OpS.pass rfl rfl rfl ?_)
                    refine RunL.op (OpS.pick rfl rfl rfl rfl ?_)
                    refine RunL.op (OpS.pick rfl rfl rfl rfl ?_)
                    refine RunL.op (OpS.as rfl rfl rfl ?_)
                    refine RunL.nil ?_
                    refine Run.slim [(6, .bool false)] ⟨rfl, trivial⟩ ?_
                    refine Run.retP rfl (.tmp rfl .nil) ?_
                    cases hF
                    exact Post.mk' ⟨rfl, rfl, rfl, rfl⟩ (h46.picks .nil) .nil
              ·
                refine RunL.op (OpS.pass rfl rfl rfl ?_)
                refine RunL.op (OpS.pass rfl rfl rfl ?_)
                refine RunL.op (OpS.pass rfl rfl rfl ?_)
                refine RunL.op (OpS.pass rfl rfl rfl ?_)
                refine RunL.op (OpS.pass rfl rfl rfl ?_)
                refine RunL.op (OpS.pass rfl rfl rfl ?_)
                refine RunL.op (OpS.pass rfl rfl rfl ?_)
                refine RunL.op (OpS.pass rfl rfl rfl ?_)
                refine RunL.op (OpS.pick rfl rfl rfl rfl ?_)
                refine RunL.op (OpS.mv rfl rfl rfl ?_)
                refine RunL.op (OpS.mv rfl rfl rfl ?_)
                refine RunL.op (OpS.not rfl rfl rfl ?_)
                refine RunL.op (OpS.mv rfl rfl rfl ?_)
                refine RunL.caseb hF (fun e20 hF => ?_) (fun e20 hF => ?_)
                ·
                  refine RunL.op (OpS.loadB h44 (.s (.s .z)) PA.z Get.id ty26 rfl rfl rfl (fun u27 h51 => ?_))
                  refine RunL.op (OpS.loadB h51 (.s (.s (.s .z))) PA.z Get.id ty26 rfl rfl rfl (fun u28 h52 => ?_))
                  obtain ⟨y9, e21, hF⟩ := bindP_use hF
                  refine RunL.op (OpS.callP h52 Try.func16 rfl rfl rfl rfl (vs := [u27, u28]) rfl (ref24_Same_ok e21) (.cons (f := false) (V.at (.s .z)) (.cons (f := true) (V.at .z) .nil)) ?_)
                  rintro _ w26 _ _ _ ⟨rfl, rfl, rfl, rfl⟩ h53
                  have h54 := h53 rfl rfl
                  simp only [List.cons_append, List.nil_append] at h54
                  refine RunL.op (OpS.pick rfl rfl rfl rfl ?_)
                  refine RunL.op (OpS.pick rfl rfl rfl rfl ?_)
                  refine RunL.op (OpS.as rfl rfl rfl ?_)
                  refine RunL.nil ?_
                  refine Run.slim [(6, .bool y9)] ⟨rfl, trivial⟩ ?_
                  refine Run.retP rfl (.tmp rfl .nil) ?_
                  cases hF
                  exact Post.mk' ⟨rfl, rfl, rfl, rfl⟩ (h54.picks .nil) .nil
                ·
                  refine RunL.op (OpS.pass rfl rfl rfl ?_)
                  refine RunL.op (OpS.pass rfl rfl rfl ?_)
                  refine RunL.op (OpS.pass rfl rfl rfl ?_)
                  refine RunL.op (OpS.pick rfl rfl rfl rfl ?_)
                  refine RunL.op (OpS.pick rfl rfl rfl rfl ?_)
                  refine RunL.op (OpS.as rfl rfl rfl ?_)
                  refine RunL.nil ?_
                  refine Run.slim [(6, .bool false)] ⟨rfl, trivial⟩ ?_
                  refine Run.retP rfl (.tmp rfl .nil) ?_
                  cases hF
                  exact Post.mk' ⟨rfl, rfl, rfl, rfl⟩ (h44.picks .nil) .nil
        ·
          refine Run.ite rfl hF (fun e22 hF => ?_) (fun e22 hF => ?_)
          ·
            refine Run.reg ?_
            refine RunL.op (OpS.mv rfl rfl rfl ?_)
            refine RunL.op (OpS.as rfl rfl rfl ?_)
            refine RunL.nil ?_
            refine Run.slim [(9, v2), (7, u4)] ⟨rfl, rfl, trivial⟩ ?_
            refine Run.slim [(7, u4), (9, v2)] ⟨rfl, rfl, trivial⟩ ?_
            exact hj2 (a2) _ _ ⟨v2, rfl, (h16.facts (.val (V.at (.s (.s (.s (.s .z))))) .nil)).picks (.cons .z .nil)⟩ hF
          ·
            refine Run.skip ?_
            refine Run.slim [(7, u4), (9, u6)] ⟨rfl, rfl, trivial⟩ ?_
            exact hj2 (y4.1) _ _ ⟨u6, rfl, (h16.facts (.val (V.weak (V.at .z)) .nil)).picks (.cons .z .nil)⟩ hF
    ·
      refine RunL.caseb hF (fun e23 hF => ?_) (fun e23 hF => ?_)
      ·
        refine RunL.op (OpS.pass rfl rfl rfl ?_)
        refine RunL.op (OpS.pass rfl rfl rfl ?_)
        refine RunL.op (OpS.pass rfl rfl rfl ?_)
        refine RunL.op (OpS.pass rfl rfl rfl ?_)
        refine RunL.op (OpS.pick rfl rfl rfl rfl ?_)
        refine RunL.nil ?_
        refine Run.slim [(30, .bool true), (4, u1), (0, v0), (2, v2)] ⟨rfl, rfl, rfl, rfl, trivial⟩ ?_
        refine Run.slim [(0, v0), (2, v2), (4, u1), (30, .bool true)] ⟨rfl, rfl, rfl, rfl, trivial⟩ ?_
        exact hj1 (true) _ _ ⟨rfl, (h3.facts (.atm .z (.atm (.s (.s .z)) .nil))).picks (.cons .z .nil)⟩ hF
      ·
        refine RunL.op (OpS.fbox (o3 := 8) h3 .z PA.z fa51_8 rfl rfl rfl rfl ?_)
        refine RunL.op (OpS.loadB h3 .z PA.a (Get.fld Message_.f8) ty22 rfl rfl rfl (fun u29 h55 => ?_))
        refine RunL.op (OpS.len h55 Try.underlying22 rfl rfl rfl (V.at .z) ?_)
        refine RunL.op (OpS.bin rfl rfl rfl rfl rfl ?_)
        refine RunL.op (OpS.pick rfl rfl rfl rfl ?_)
        refine RunL.nil ?_
        refine Run.slim [(30, .bool (decide ((a1.Data.length : Int) > 300))), (4, u1), (0, v0), (2, v2)] ⟨rfl, rfl, rfl, rfl, trivial⟩ ?_
        refine Run.slim [(0, v0), (2, v2), (4, u1), (30, .bool (decide ((a1.Data.length : Int) > 300)))] ⟨rfl, rfl, rfl, rfl, trivial⟩ ?_
        exact hj1 (decide ((a1.Data.length : Int) > 300)) _ _ ⟨rfl, (h55.facts (.atm (.s .z) (.atm (.s (.s (.s .z))) .nil))).picks (.cons .z .nil)⟩ hF
end Lift
