import Derived.Test.YtahlmfpllhmjoaaGreatDoorTopBeyondWalksD
set_option linter.unusedVariables false
set_option linter.unusedSimpArgs false
namespace Lift
open Go Go.Proofs
open RunL (op mv asg bin pass pick sr nil)
set_option maxHeartbeats 8000000 in set_option maxRecDepth 20000 in
theorem top_TopBeyond_ok {fuel : Nat} {a0 : List Int} {a1 : List Int} {y : Bool} (hF : top_TopBeyond fuel a0 a1 = some y) {w : World} {v0 v1 : Value} :
  Spec Tryz.prog 5 [v0, v1].toArray w [(false, .val (Rep.slice (Rep.int .i64)) v0 a0), (false, .val (Rep.slice (Rep.int .u8)) v1 a1), (false, .ptr (Rep.arr 6 (Rep.int .u8)) (.pointer (some ⟨0, 0, none⟩)) ([0, 2, 4, 7, 9, 11]))] [] (fun v Γr Ωr Ωo => v = .bool y ∧ Γr = [] ∧ Ωr = [] ∧ Ωo = []) := by
 refine Spec.of (L := [(0, v0), (1, v1)]) Tryz.func5 rfl ⟨rfl, rfl, trivial⟩ rfl (fun e h => ?_)
 unfold top_TopBeyond at hF
 refine sr ?_
 refine asg rfl rfl rfl ?_
 refine nil ?_
 refine Run.seq ?_
 refine sr ?_
 obtain ⟨y1, e1, hF⟩ := bindP_use hF
 refine op (OpS.callP h Tryz.func9 rfl rfl rfl rfl (vs := []) rfl (top_first_ok e1) (.ptr (.s (.s .z)) .nil) ?_)
 rintro _ w1 _ _ _ ⟨rfl, rfl, rfl, rfl⟩ h1
 have h2 := h1 rfl rfl
 simp only [ca, na] at h2
 refine op (OpS.not rfl rfl rfl ?_)
 refine nil ?_
 refine Run.ite rfl hF (fun e2 hF => ?_) (fun e2 hF => ?_)
 ·
  refine sr ?_
  refine asg rfl rfl rfl ?_
  refine nil ?_
  refine Run.retP rfl (.tmp rfl .nil) ?_
  cases hF
  exact Post.mk' ⟨rfl, rfl, rfl, rfl⟩ (h2.picks .nil) .nil
 ·
  refine Run.skip ?_
  refine Run.seq ?_
  refine sr ?_
  refine mv rfl rfl rfl ?_
  obtain ⟨y2, e3, hF⟩ := bindP_use hF
  refine op (OpS.callP h2 Tryz.func10 rfl rfl rfl rfl (vs := [v0]) rfl (made_Light_ok e3) (.cons (f := false) (V.at .z) .nil) ?_)
  rintro _ w2 _ _ _ ⟨rfl, rfl, rfl, rfl⟩ h3
  have h4 := h3 rfl rfl
  simp only [ca, na] at h4
  refine op (OpS.not rfl rfl rfl ?_)
  refine mv rfl rfl rfl ?_
  refine RunL.join (σ := Bool) (fun s_ L_ w_ => L_ = [(0, v0), (1, v1), (32, .bool s_)] ∧ St e w_ [(false, .val (Rep.slice (Rep.int .i64)) v0 a0), (false, .val (Rep.slice (Rep.int .u8)) v1 a1), (false, .ptr (Rep.arr 6 (Rep.int .u8)) (.pointer (some ⟨0, 0, none⟩)) ([0, 2, 4, 7, 9, 11]))] []) hF (fun s1 _ w3 hI hF => ?_) (fun j1 hj1 hF => ?_)
  ·
   obtain ⟨rfl, h5⟩ := hI
   refine Run.ite rfl hF (fun e4 hF => ?_) (fun e4 hF => ?_)
   ·
    refine sr ?_
    refine asg rfl rfl rfl ?_
    refine nil ?_
    refine Run.retP rfl (.tmp rfl .nil) ?_
    cases hF
    exact Post.mk' ⟨rfl, rfl, rfl, rfl⟩ (h5.picks .nil) .nil
   ·
    refine Run.skip ?_
    refine sr ?_
    refine mv rfl rfl rfl ?_
    obtain ⟨y3, e5, hF⟩ := bindP_use hF
    have h6 := h5.front .nil
    refine op (OpS.callO h6 Tryz.func12 rfl rfl rfl rfl (vs := [v0]) rfl (made_Roll_ok e5) rfl (.cons (f := false) (V.at .z) .nil) ?_)
    rintro u1 w4 _ _ _ ⟨_, rfl, rfl, rfl, rfl⟩ h7
    have h8 := h7
    simp only [ca, na] at h8
    obtain ⟨y4, e6, hF⟩ := bindP_use hF
    have h9 := h8.front (.cons .z .nil)
    refine op (OpS.callO h9 Tryz.func36 rfl rfl rfl rfl (vs := [u1, .int .u8 7]) rfl (made_Dice_Analog_ok e6) rfl .nil ?_)
    rintro u2 w5 _ _ _ ⟨_, rfl, rfl, rfl, rfl⟩ h10
    have h11 := h10
    simp only [ca, na] at h11
    refine op (OpS.alloc h11 ti74 Sensor_.zr rfl rfl (fun u3 w6 h12 => ?_))
    refine op (OpS.storeB (f' := true) h12 .z PA.z Put.id ty74 rfl rfl rfl (V.at .z) (.inl rfl) (fun w7 h13 => ?_))
    refine nil ?_
    refine sr ?_
    refine op (OpS.fbox (o3 := 7) h13 .z PA.z fa74_6 rfl rfl rfl rfl ?_)
    refine op (OpS.loadB h13 .z PA.a (Get.fld Sensor_.f6) ty69 rfl rfl rfl (fun u4 h14 => ?_))
    obtain ⟨y5, e7, hF⟩ := bindP_use hF
    refine op (OpS.callP h14 Tryz.func37 rfl rfl rfl rfl (vs := [u4]) rfl (convert_Direction_ok e7) (.cons (f := true) (V.at .z) .nil) ?_)
    rintro _ w8 _ _ _ ⟨rfl, rfl, rfl, rfl⟩ h15
    have h16 := h15 rfl rfl
    simp only [ca, na] at h16
    refine mv rfl rfl rfl ?_
    refine op (OpS.ext rfl rfl rfl rfl ?_)
    refine op (OpS.ext rfl rfl rfl rfl ?_)
    refine asg rfl rfl rfl ?_
    refine asg rfl rfl rfl ?_
    refine nil ?_
    refine Run.seq ?_
    refine sr ?_
    refine mv rfl rfl rfl ?_
    refine bin rfl rfl rfl rfl rfl ?_
    refine nil ?_
    refine Run.ite rfl hF (fun e8 hF => ?_) (fun e8 hF => ?_)
    ·
     refine sr ?_
     refine asg rfl rfl rfl ?_
     refine nil ?_
     refine Run.retP rfl (.tmp rfl .nil) ?_
     cases hF
     exact Post.mk' ⟨rfl, rfl, rfl, rfl⟩ (h16.picks .nil) .nil
    ·
     refine Run.skip ?_
     refine sr ?_
     refine op (OpS.fbox (o3 := 14) h16 .z PA.z fa74_7 rfl rfl rfl rfl ?_)
     refine op (OpS.fbox (o3 := 14) h16 .z PA.a fa72_0 rfl rfl rfl rfl ?_)
     refine op (OpS.loadBi h16 .z PA.a (Get.comp (Get.fld Sensor_.f7) (Get.fld Thresholds_.f0)) ty5 rfl rfl rfl ?_)
     refine op (OpS.conv Tryz.underlying5 Tryz.underlying49 rfl rfl rfl ?_)
     refine asg rfl rfl rfl ?_
     obtain ⟨x1, e9, hF⟩ := letP_use hF
     refine RunL.name e9 ?_
     refine nil ?_
     refine sr ?_
     refine mv rfl rfl rfl ?_
     refine mv rfl rfl rfl ?_
     refine op (OpS.fbox (o3 := 27) h16 .z PA.z fa74_14 rfl rfl rfl rfl ?_)
     obtain ⟨d1, e10, hF⟩ := letP_use hF
     refine op (OpS.storeB (f' := true) h16 .z PA.a (Put.of (Put.fld Sensor_.f14) e10) ty3 rfl rfl rfl V.int (.inl rfl) (fun w9 h17 => ?_))
     refine op (OpS.fbox (o3 := 26) h17 .z PA.z fa74_13 rfl rfl rfl rfl ?_)
     obtain ⟨d2, e11, hF⟩ := letP_use hF
     refine op (OpS.storeB (f' := true) h17 .z PA.a (Put.of (Put.fld Sensor_.f13) e11) ty4 rfl rfl rfl V.bool (.inl rfl) (fun w10 h18 => ?_))
     refine op (OpS.fbox (o3 := 24) h18 .z PA.z fa74_11 rfl rfl rfl rfl ?_)
     obtain ⟨d3, e12, hF⟩ := letP_use hF
     refine op (OpS.storeB (f' := true) h18 .z PA.a (Put.of (Put.fld Sensor_.f11) e12) ty49 rfl rfl rfl V.int (.inl rfl) (fun w11 h19 => ?_))
     refine op (OpS.fbox (o3 := 25) h19 .z PA.z fa74_12 rfl rfl rfl rfl ?_)
     obtain ⟨d4, e13, hF⟩ := letP_use hF
     refine op (OpS.storeB (f' := true) h19 .z PA.a (Put.of (Put.fld Sensor_.f12) e13) ty49 rfl rfl rfl V.int (.inl rfl) (fun w12 h20 => ?_))
     refine nil ?_
     refine sr ?_
     refine op (OpS.loadB h20 .z PA.z Get.id ty74 rfl rfl rfl (fun u5 h21 => ?_))
     refine op (OpS.lit (r := Sensor_.rep) (f := true) h21 Tryz.underlying27 ti74 rfl rfl rfl rfl rfl (.cons rfl (V.at .z) .nil) rfl rfl (fun u6 w13 h22 => ?_))
     obtain ⟨y6, e14, hF⟩ := bindP_use hF
     have h23 := h22.front .nil
     refine op (OpS.callO h23 Tryz.func30 rfl rfl rfl rfl (vs := [u6, .slice none 0 0]) rfl (monitor_New_ok e14) rfl (.cons (f := true) (V.at .z) (.cons (f := true) V.nil .nil)) ?_)
     rintro _ w14 _ _ _ ⟨u7, rfl, rfl, rfl, rfl⟩ h24
     have h25 := h24
     simp only [ca, na] at h25
     refine mv rfl rfl rfl ?_
     refine op (OpS.ext rfl rfl rfl rfl ?_)
     refine op (OpS.ext rfl rfl rfl rfl ?_)
     refine asg rfl rfl rfl ?_
     refine asg rfl rfl rfl ?_
     refine nil ?_
     refine Run.slim [(10, .int .i64 y6.2), (9, u7), (6, .int .i64 y5.1), (5, u3), (1, v1)] ⟨rfl, rfl, rfl, rfl, rfl, trivial⟩ ?_
     refine Run.seq ?_
     refine sr ?_
     refine mv rfl rfl rfl ?_
     refine op (OpS.onilE2 h25 .z (fun _ => PtrOf.ex fun _ => PtrOf.ex fun _ => PtrOf.sep PtrOf.box) Tryz.underlying38 rfl rfl rfl rfl ?_)
     refine mv rfl rfl rfl ?_
     refine RunL.join (σ := Bool) (fun s_ L_ w_ => L_ = [(1, v1), (5, u3), (6, .int .i64 y5.1), (9, u7), (65, .bool s_)] ∧ St e w_ [(false, .val (Rep.slice (Rep.int .u8)) v1 a1), (false, .ptr (Rep.arr 6 (Rep.int .u8)) (.pointer (some ⟨0, 0, none⟩)) ([0, 2, 4, 7, 9, 11]))] [(true, .box 74 Sensor_.rep u3 d4), (false, .opt (monitor_Monitor.mem u7) u7 y6.1)]) hF (fun s2 _ w15 hI hF => ?_) (fun j2 hj2 hF => ?_)
     ·
      obtain ⟨rfl, h26⟩ := hI
      refine Run.ite rfl hF (fun e15 hF => ?_) (fun e15 hF => ?_)
      ·
       refine sr ?_
       refine asg rfl rfl rfl ?_
       refine nil ?_
       refine Run.retP rfl (.tmp rfl .nil) ?_
       cases hF
       exact Post.mk' ⟨rfl, rfl, rfl, rfl⟩ (h26.picks .nil) .nil
      ·
       refine Run.skip ?_
       refine Run.seq ?_
       refine sr ?_
       refine asg rfl rfl rfl ?_
       refine nil ?_
       refine Run.block ?_
       refine Run.slim [(1, v1), (5, u3), (6, .int .i64 y5.1), (9, u7), (11, .int .i64 0)] ⟨rfl, rfl, rfl, rfl, rfl, trivial⟩ ?_
       refine Run.loopP (σ := (Int × (Option monitor_Monitor))) (fun s_ L_ w_ => ∃ u0_ : Value, L_ = [(1, v1), (5, u3), (6, .int .i64 y5.1), (9, u0_), (11, .int .i64 s_.1)] ∧ St e w_ [(false, .val (Rep.slice (Rep.int .u8)) v1 a1), (false, .ptr (Rep.arr 6 (Rep.int .u8)) (.pointer (some ⟨0, 0, none⟩)) ([0, 2, 4, 7, 9, 11]))] [(true, .box 74 Sensor_.rep u3 d4), (false, .opt (monitor_Monitor.mem u0_) u0_ s_.2)]) hF ⟨u7, rfl, (h26.facts (.atm .z (.atm (.s .z) .nil))).picks (.cons .z (.cons .z .nil))⟩ (fun k1 hk1 s3 _ w16 hI hF => ?_)
       obtain ⟨u8, rfl, h27⟩ := hI
       refine Run.seq ?_
       refine sr ?_
       refine mv rfl rfl rfl ?_
       refine mv rfl rfl rfl ?_
       refine op (OpS.len h27 Tryz.underlying24 rfl rfl rfl (V.at .z) ?_)
       refine bin rfl rfl rfl rfl rfl ?_
       refine nil ?_
       refine Run.ite rfl hF (fun e16 hF => ?_) (fun e16 hF => ?_)
       ·
        refine Run.skip ?_
        refine Run.seq ?_
        refine Run.block ?_
        refine sr ?_
        refine mv rfl rfl rfl ?_
        refine mv rfl rfl rfl ?_
        refine mv rfl rfl rfl ?_
        obtain ⟨x2, e17, hF⟩ := bindP_use hF
        refine op (OpS.iptr h27 Tryz.underlying24 ty5 rfl rfl rfl rfl (V.at .z) e17 (fun u9 h28 => ?_))
        refine op (OpS.loadi h28 ty5 rfl rfl rfl .z ?_)
        refine op (OpS.build (f := true) (x' := (⟨7, true, x2, 0⟩ : Sample_)) h28 pl93 ti93 Sample_.zr rfl rfl rfl (.cons rfl Sample_.f0 rfl V.int (.cons rfl Sample_.f1 rfl V.bool (.cons rfl Sample_.f2 rfl V.int .nil))) (fun u10 h29 => ?_))
        refine op (OpS.lit (r := Sample_.rep) (f := true) h29 Tryz.underlying41 ti93 rfl rfl rfl rfl rfl (.cons rfl (V.at .z) .nil) rfl rfl (fun u11 w17 h30 => ?_))
        obtain ⟨x3, e18, hF⟩ := bindP_use hF
        have h31 := St.unopt (h30.pick (.s .z)) e18
        obtain ⟨u12, h32⟩ := h31.unex
        obtain ⟨u13, h33⟩ := h32.unex
        have h34 := h33.unsep
        have h35 := (h34.pick (.s .z)).unsep
        obtain ⟨y7, e19, hF⟩ := bindP_use hF
        have h36 := h35.front (.cons (.s (.s .z)) (.cons .z (.cons .z .nil)))
        refine op (OpS.callO h36 Tryz.func20 rfl rfl rfl rfl (vs := [u8, u11, .slice none 0 0, .bool false]) rfl (monitor_Monitor_Scan_ok e19) rfl (.cons (f := true) (V.at .z) (.cons (f := true) V.nil (.ptr (.s (.s (.s (.s .z)))) .nil))) ?_)
        rintro _ w18 _ _ _ ⟨u14, u15, u16, rfl, rfl, rfl, rfl⟩ h37
        have h38 := h37
        simp only [ca, na] at h38
        refine mv rfl rfl rfl ?_
        refine op (OpS.ext rfl rfl rfl rfl ?_)
        refine op (OpS.ext rfl rfl rfl rfl ?_)
        refine asg rfl rfl rfl ?_
        have h39 := (h38.pick .z).freeze
        refine asg rfl rfl rfl ?_
        refine nil ?_
        refine Run.seq ?_
        refine sr ?_
        refine mv rfl rfl rfl ?_
        refine bin rfl rfl rfl rfl rfl ?_
        refine nil ?_
        refine Run.ite rfl hF (fun e20 hF => ?_) (fun e20 hF => ?_)
        ·
         refine sr ?_
         refine asg rfl rfl rfl ?_
         refine nil ?_
         refine Run.retP rfl (.tmp rfl .nil) ?_
         cases hF
         exact Post.mk' ⟨rfl, rfl, rfl, rfl⟩ (h39.picks .nil) .nil
        ·
         refine Run.skip ?_
         refine sr ?_
         refine asg rfl rfl rfl ?_
         refine nil ?_
         refine Run.block ?_
         refine Run.slim [(1, v1), (5, u3), (6, .int .i64 y5.1), (9, u8), (11, .int .i64 s3.1), (12, u14), (14, .int .i64 0)] ⟨rfl, rfl, rfl, rfl, rfl, rfl, rfl, trivial⟩ ?_
         refine Run.loopP (σ := Int) (fun s_ L_ w_ => L_ = [(1, v1), (5, u3), (6, .int .i64 y5.1), (9, u8), (11, .int .i64 s3.1), (12, u14), (14, .int .i64 s_)] ∧ St e w_ [(false, .val (Rep.slice (Rep.int .u8)) v1 a1), (true, .val (Rep.slice Event_.rep) u14 y7.1), (false, .ptr (Rep.arr 6 (Rep.int .u8)) (.pointer (some ⟨0, 0, none⟩)) ([0, 2, 4, 7, 9, 11]))] [(true, .box 74 Sensor_.rep u3 d4), (false, .box 184 (monitor_Monitor.repW u15 u16) u8 y7.2.2), (false, .slice 188 Filter_.rep u15 y7.2.2.filters), (false, .slice 49 (Rep.int .u16) u16 y7.2.2.states)]) hF ⟨rfl, (h39.facts (.atm (.s (.s (.s (.s .z)))) (.atm .z (.atm (.s (.s (.s (.s (.s .z))))) .nil)))).picks (.cons (.s (.s (.s .z))) (.cons .z (.cons .z (.cons .z .nil))))⟩ (fun k2 hk2 s4 _ w19 hI hF => ?_)
         obtain ⟨rfl, h40⟩ := hI
         refine Run.seq ?_
         refine sr ?_
         refine mv rfl rfl rfl ?_
         refine mv rfl rfl rfl ?_
         refine op (OpS.len h40 Tryz.underlying40 rfl rfl rfl (V.at (.s .z)) ?_)
         refine bin rfl rfl rfl rfl rfl ?_
         refine nil ?_
         refine Run.ite rfl hF (fun e21 hF => ?_) (fun e21 hF => ?_)
         ·
          refine Run.skip ?_
          refine Run.seq ?_
          refine Run.block ?_
          refine sr ?_
          refine mv rfl rfl rfl ?_
          refine mv rfl rfl rfl ?_
          obtain ⟨x4, e22, hF⟩ := bindP_use hF
          refine op (OpS.iptr h40 Tryz.underlying40 ty55 rfl rfl rfl rfl (V.at (.s .z)) e22 (fun u17 h41 => ?_))
          refine op (OpS.load h41 ty55 rfl rfl rfl .z (fun u18 h42 => ?_))
          obtain ⟨y8, e23, hF⟩ := bindP_use hF
          refine op (OpS.callP h42 Tryz.func38 rfl rfl rfl rfl (vs := [u18]) rfl (event_Index_ok e23) (.cons (f := true) (V.at .z) (.ptr (.s (.s (.s (.s .z)))) .nil)) ?_)
          rintro _ w20 _ _ _ ⟨rfl, rfl, rfl, rfl⟩ h43
          have h44 := h43 rfl rfl
          simp only [ca, na] at h44
          refine mv rfl rfl rfl ?_
          refine op (OpS.ext rfl rfl rfl rfl ?_)
          refine op (OpS.ext rfl rfl rfl rfl ?_)
          refine op (OpS.ext rfl rfl rfl rfl ?_)
          refine asg rfl rfl rfl ?_
          refine asg rfl rfl rfl ?_
          refine asg rfl rfl rfl ?_
          refine nil ?_
          refine Run.seq ?_
          refine Run.seq ?_
          refine Run.join (σ := Bool) (fun s_ L_ w_ => L_ = [(1, v1), (5, u3), (6, .int .i64 y5.1), (9, u8), (11, .int .i64 s3.1), (12, u14), (14, .int .i64 s4), (15, .int .i64 y8.1), (132, .bool s_)] ∧ St e w_ [(false, .val (Rep.slice (Rep.int .u8)) v1 a1), (true, .val (Rep.slice Event_.rep) u14 y7.1), (false, .ptr (Rep.arr 6 (Rep.int .u8)) (.pointer (some ⟨0, 0, none⟩)) ([0, 2, 4, 7, 9, 11]))] [(true, .box 74 Sensor_.rep u3 d4), (false, .box 184 (monitor_Monitor.repW u15 u16) u8 y7.2.2), (false, .slice 188 Filter_.rep u15 y7.2.2.filters), (false, .slice 49 (Rep.int .u16) u16 y7.2.2.states)]) hF (fun s5 _ w21 hI hF => ?_) (fun j3 hj3 hF => ?_)
          ·
           obtain ⟨rfl, h45⟩ := hI
           refine Run.ite rfl hF (fun e24 hF => ?_) (fun e24 hF => ?_)
           ·
            refine sr ?_
            refine asg rfl rfl rfl ?_
            refine nil ?_
            refine Run.retP rfl (.tmp rfl .nil) ?_
            cases hF
            exact Post.mk' ⟨rfl, rfl, rfl, rfl⟩ (h45.picks .nil) .nil
           ·
            refine Run.skip ?_
            refine Run.seq ?_
            obtain ⟨x5, e25, hF⟩ := bindP_use hF
            obtain ⟨x6, e26, hF⟩ := bindP_use hF
            obtain ⟨y9, e27, hF⟩ := bindP_use hF
            refine Run.drawV (Ωs := [(false, .box 184 (monitor_Monitor.repW u15 u16) u8 y7.2.2), (false, .slice 188 Filter_.rep u15 y7.2.2.filters), (false, .slice 49 (Rep.int .u16) u16 y7.2.2.states)]) [.kr 134 (padd u3 7) [0], .fr 135 (fun u_ => [(true, .val Conversion_.rep u_ d4.Conversion)]) [0], .k 136 u14, .k 137 (.int .i64 s4), .f 138 (fun u_ => [(true, .ptr Event_.rep u_ x5)]), .f 139 (fun u_ => [(true, .ptr (Rep.arr 3 (Rep.int .u8)) u_ x5.Data)]), .f 140 (fun u_ => [(true, .ptr (Rep.int .u8) u_ x6)]), .k 141 (.int .u8 x6), .k 142 (.tuple #[.int .i64 y9.1, .int .i64 y9.2]), .k 133 (.tuple #[.int .i64 y9.1, .int .i64 y9.2]), .k 143 (.int .i64 y9.1), .k 144 (.int .i64 y9.2), .k 18 (.int .i64 y9.1)] [[], [0], [], [], [2, 3], [4], [5], [6], [1, 7], [8], [9], [9], [10]] [[(true, .box 74 Sensor_.rep u3 d4)]] [0, 1, 2, 3, 4, 5, 6, 7, 8, 9, 10, 11, 12, 13] Try_mixed rfl rfl rfl h45 (.cons ?_ (.cons ?_ (.cons ?_ (.cons ?_ (.cons ?_ (.cons ?_ (.cons ?_ (.cons ?_ (.cons ?_ (.cons ?_ (.cons ?_ (.cons ?_ (.cons ?_ .nil))))))))))))) (fun q1 w hq1 h => ?_)
            ·intro q1 w Γx Ωx h
             refine OpS.fbox (o3 := 7) h .z PA.z fa74_6 rfl rfl rfl rfl ?_
             exact ⟨undef, rfl, trivial, h⟩
            ·intro q1 w Γx Ωx h
             refine OpS.loadB h .z PA.a (Get.fld Sensor_.f6) ty69 rfl rfl rfl (fun u h52 => ?_)
             exact ⟨u, rfl, trivial, h52⟩
            ·intro q1 w Γx Ωx h
             refine OpS.mv rfl rfl rfl ?_
             exact ⟨undef, rfl, trivial, h⟩
            ·intro q1 w Γx Ωx h
             refine OpS.mv rfl rfl rfl ?_
             exact ⟨undef, rfl, trivial, h⟩
            ·intro q1 w Γx Ωx h
             refine OpS.iptr h Tryz.underlying40 ty55 rfl rfl rfl rfl (V.at (.s .z)) e25 (fun u h53 => ?_)
             exact ⟨u, rfl, trivial, h53⟩
            ·intro q1 w Γx Ωx h
             refine OpS.fptr h fa55_7 Event_.f7 rfl rfl rfl .z (fun u h54 => ?_)
             exact ⟨u, rfl, trivial, h54⟩
            ·intro q1 w Γx Ωx h
             refine OpS.iarr h Tryz.underlying53 ty5 rfl rfl rfl rfl .z e26 (fun u h55 => ?_)
             exact ⟨u, rfl, trivial, h55⟩
            ·intro q1 w Γx Ωx h
             refine OpS.loadi h ty5 rfl rfl rfl .z ?_
             exact ⟨undef, rfl, trivial, h⟩
            ·intro q1 w Γx Ωx h
             refine OpS.callP h Tryz.func39 rfl rfl rfl rfl (vs := [(q1 1), .int .u8 x6]) rfl (convert_Value_ok e27) (.cons (f := true) (V.at .z) .nil) ?_
             rintro _ w23 _ _ _ ⟨rfl, rfl, rfl, rfl⟩ h56
             have h57 := h56 rfl rfl
             simp only [ca, na] at h57
             exact ⟨undef, rfl, trivial, h57⟩
            ·intro q1 w Γx Ωx h
             refine OpS.mv rfl rfl rfl ?_
             exact ⟨undef, rfl, trivial, h⟩
            ·intro q1 w Γx Ωx h
             refine OpS.ext rfl rfl rfl rfl ?_
             exact ⟨undef, rfl, trivial, h⟩
            ·intro q1 w Γx Ωx h
             refine OpS.ext rfl rfl rfl rfl ?_
             exact ⟨undef, rfl, trivial, h⟩
            ·intro q1 w Γx Ωx h
             refine OpS.as rfl rfl rfl ?_
             exact ⟨undef, rfl, trivial, h⟩
            have h58 := h
            refine asg rfl rfl rfl ?_
            refine nil ?_
            refine Run.seq ?_
            obtain ⟨x7, e28, hF⟩ := bindP_use hF
            obtain ⟨x8, e29, hF⟩ := bindP_use hF
            obtain ⟨y10, e30, hF⟩ := bindP_use hF
            refine Run.drawV (Ωs := [(false, .box 184 (monitor_Monitor.repW u15 u16) u8 y7.2.2), (false, .slice 188 Filter_.rep u15 y7.2.2.filters), (false, .slice 49 (Rep.int .u16) u16 y7.2.2.states)]) [.kr 146 (padd u3 7) [0], .fr 147 (fun u_ => [(true, .val Conversion_.rep u_ d4.Conversion)]) [0], .k 148 u14, .k 149 (.int .i64 s4), .f 150 (fun u_ => [(true, .ptr Event_.rep u_ x7)]), .f 151 (fun u_ => [(true, .ptr (Rep.arr 3 (Rep.int .u8)) u_ x7.Data)]), .f 152 (fun u_ => [(true, .ptr (Rep.int .u8) u_ x8)]), .k 153 (.int .u8 x8), .k 154 (.tuple #[.int .i64 y10.1, .int .i64 y10.2]), .k 145 (.tuple #[.int .i64 y10.1, .int .i64 y10.2]), .k 155 (.int .i64 y10.1), .k 156 (.int .i64 y10.2), .k 20 (.int .i64 y10.1)] [[], [0], [], [], [2, 3], [4], [5], [6], [1, 7], [8], [9], [9], [10]] [[(true, .box 74 Sensor_.rep u3 d4)]] [0, 1, 2, 3, 4, 5, 6, 7, 8, 9, 10, 11, 12, 13] Try_mixed rfl rfl rfl h58 (.cons ?_ (.cons ?_ (.cons ?_ (.cons ?_ (.cons ?_ (.cons ?_ (.cons ?_ (.cons ?_ (.cons ?_ (.cons ?_ (.cons ?_ (.cons ?_ (.cons ?_ .nil))))))))))))) (fun q2 w hq2 h => ?_)
            ·intro q2 w Γx Ωx h
             refine OpS.fbox (o3 := 7) h .z PA.z fa74_6 rfl rfl rfl rfl ?_
             exact ⟨undef, rfl, trivial, h⟩
            ·intro q2 w Γx Ωx h
             refine OpS.loadB h .z PA.a (Get.fld Sensor_.f6) ty69 rfl rfl rfl (fun u h65 => ?_)
             exact ⟨u, rfl, trivial, h65⟩
            ·intro q2 w Γx Ωx h
             refine OpS.mv rfl rfl rfl ?_
             exact ⟨undef, rfl, trivial, h⟩
            ·intro q2 w Γx Ωx h
             refine OpS.mv rfl rfl rfl ?_
             exact ⟨undef, rfl, trivial, h⟩
            ·intro q2 w Γx Ωx h
             refine OpS.iptr h Tryz.underlying40 ty55 rfl rfl rfl rfl (V.at (.s (.s (.s (.s (.s .z)))))) e28 (fun u h66 => ?_)
             exact ⟨u, rfl, trivial, h66⟩
            ·intro q2 w Γx Ωx h
             refine OpS.fptr h fa55_7 Event_.f7 rfl rfl rfl .z (fun u h67 => ?_)
             exact ⟨u, rfl, trivial, h67⟩
            ·intro q2 w Γx Ωx h
             refine OpS.iarr h Tryz.underlying53 ty5 rfl rfl rfl rfl .z e29 (fun u h68 => ?_)
             exact ⟨u, rfl, trivial, h68⟩
            ·intro q2 w Γx Ωx h
             refine OpS.loadi h ty5 rfl rfl rfl .z ?_
             exact ⟨undef, rfl, trivial, h⟩
            ·intro q2 w Γx Ωx h
             refine OpS.callP h Tryz.func39 rfl rfl rfl rfl (vs := [(q2 1), .int .u8 x8]) rfl (convert_Value_ok e30) (.cons (f := true) (V.at .z) .nil) ?_
             rintro _ w25 _ _ _ ⟨rfl, rfl, rfl, rfl⟩ h69
             have h70 := h69 rfl rfl
             simp only [ca, na] at h70
             exact ⟨undef, rfl, trivial, h70⟩
            ·intro q2 w Γx Ωx h
             refine OpS.mv rfl rfl rfl ?_
             exact ⟨undef, rfl, trivial, h⟩
            ·intro q2 w Γx Ωx h
             refine OpS.ext rfl rfl rfl rfl ?_
             exact ⟨undef, rfl, trivial, h⟩
            ·intro q2 w Γx Ωx h
             refine OpS.ext rfl rfl rfl rfl ?_
             exact ⟨undef, rfl, trivial, h⟩
            ·intro q2 w Γx Ωx h
             refine OpS.as rfl rfl rfl ?_
             exact ⟨undef, rfl, trivial, h⟩
            have h71 := h
            refine asg rfl rfl rfl ?_
            refine nil ?_
            refine Run.seq ?_
            refine sr ?_
            refine mv rfl rfl rfl ?_
            refine bin rfl rfl rfl rfl rfl ?_
            refine mv rfl rfl rfl ?_
            refine RunL.join (σ := Bool) (fun s_ L_ w_ => L_ = [(1, v1), (5, u3), (6, .int .i64 y5.1), (9, u8), (11, .int .i64 s3.1), (12, u14), (14, .int .i64 s4), (15, .int .i64 y8.1), (18, .int .i64 y9.1), (20, .int .i64 y10.1), (166, .bool s_)] ∧ St e w_ [(false, .val (Rep.slice (Rep.int .u8)) v1 a1), (true, .val (Rep.slice Event_.rep) u14 y7.1), (false, .ptr (Rep.arr 6 (Rep.int .u8)) (.pointer (some ⟨0, 0, none⟩)) ([0, 2, 4, 7, 9, 11]))] [(true, .box 74 Sensor_.rep u3 d4), (false, .box 184 (monitor_Monitor.repW u15 u16) u8 y7.2.2), (false, .slice 188 Filter_.rep u15 y7.2.2.filters), (false, .slice 49 (Rep.int .u16) u16 y7.2.2.states)]) hF (fun s6 _ w26 hI hF => ?_) (fun j4 hj4 hF => ?_)
            ·
             obtain ⟨rfl, h72⟩ := hI
             refine Run.ite rfl hF (fun e31 hF => ?_) (fun e31 hF => ?_)
             ·
              refine Run.exit rfl ?_
              refine Run.reg ?_
              refine mv rfl rfl rfl ?_
              refine bin rfl rfl rfl rfl rfl ?_
              refine asg rfl rfl rfl ?_
              obtain ⟨x9, e32, hF⟩ := letP_use hF
              refine RunL.name e32 ?_
              refine nil ?_
              refine Run.slim [(1, v1), (5, u3), (6, .int .i64 y5.1), (9, u8), (11, .int .i64 s3.1), (12, u14), (14, .int .i64 x9)] ⟨rfl, rfl, rfl, rfl, rfl, rfl, rfl, trivial⟩ ?_
              exact hk2 (x9) _ _ ⟨rfl, (h72.facts (.atm .z (.atm (.s .z) (.atm (.s (.s .z)) .nil)))).picks (.cons .z (.cons .z (.cons .z (.cons .z .nil))))⟩ hF
             ·
              refine Run.skip ?_
              refine sr ?_
              refine mv rfl rfl rfl ?_
              refine bin rfl rfl rfl rfl rfl ?_
              refine asg rfl rfl rfl ?_
              obtain ⟨x10, e33, hF⟩ := letP_use hF
              refine RunL.nameb e33 ?_
              refine nil ?_
              refine sr ?_
              refine mv rfl rfl rfl ?_
              refine mv rfl rfl rfl ?_
              obtain ⟨x11, e34, hF⟩ := bindP_use hF
              refine op (OpS.iptr h72 Tryz.underlying40 ty55 rfl rfl rfl rfl (V.at (.s .z)) e34 (fun u19 h73 => ?_))
              refine op (OpS.fptr h73 fa55_6 Event_.f6 rfl rfl rfl .z (fun u20 h74 => ?_))
              refine op (OpS.loadb h74 ty4 rfl rfl rfl .z ?_)
              refine mv rfl rfl rfl ?_
              refine op (OpS.eqb Tryz.underlying4 rfl rfl rfl rfl ?_)
              refine mv rfl rfl rfl ?_
              refine RunL.join (σ := Bool) (fun s_ L_ w_ => L_ = [(1, v1), (5, u3), (6, .int .i64 y5.1), (9, u8), (11, .int .i64 s3.1), (12, u14), (14, .int .i64 s4), (194, .bool s_)] ∧ St e w_ [(false, .val (Rep.slice (Rep.int .u8)) v1 a1), (true, .val (Rep.slice Event_.rep) u14 y7.1), (false, .ptr (Rep.arr 6 (Rep.int .u8)) (.pointer (some ⟨0, 0, none⟩)) ([0, 2, 4, 7, 9, 11]))] [(true, .box 74 Sensor_.rep u3 d4), (false, .box 184 (monitor_Monitor.repW u15 u16) u8 y7.2.2), (false, .slice 188 Filter_.rep u15 y7.2.2.filters), (false, .slice 49 (Rep.int .u16) u16 y7.2.2.states)]) hF (fun s7 _ w27 hI hF => ?_) (fun j5 hj5 hF => ?_)
              ·
               obtain ⟨rfl, h75⟩ := hI
               refine Run.ite rfl hF (fun e35 hF => ?_) (fun e35 hF => ?_)
               ·
                refine sr ?_
                refine asg rfl rfl rfl ?_
                refine nil ?_
                refine Run.retP rfl (.tmp rfl .nil) ?_
                cases hF
                exact Post.mk' ⟨rfl, rfl, rfl, rfl⟩ (h75.picks .nil) .nil
               ·
                refine Run.skip ?_
                refine Run.endBlock ?_
                refine Run.reg ?_
                refine mv rfl rfl rfl ?_
                refine bin rfl rfl rfl rfl rfl ?_
                refine asg rfl rfl rfl ?_
                obtain ⟨x12, e36, hF⟩ := letP_use hF
                refine RunL.name e36 ?_
                refine nil ?_
                refine Run.slim [(1, v1), (5, u3), (6, .int .i64 y5.1), (9, u8), (11, .int .i64 s3.1), (12, u14), (14, .int .i64 x12)] ⟨rfl, rfl, rfl, rfl, rfl, rfl, rfl, trivial⟩ ?_
                exact hk2 (x12) _ _ ⟨rfl, (h75.facts (.atm .z (.atm (.s .z) (.atm (.s (.s .z)) .nil)))).picks (.cons .z (.cons .z (.cons .z (.cons .z .nil))))⟩ hF
              ·
               refine RunL.caseb hF (fun e37 hF => ?_) (fun e37 hF => ?_)
               ·
                refine mv rfl rfl rfl ?_
                refine mv rfl rfl rfl ?_
                refine bin rfl rfl rfl rfl rfl ?_
                refine pick rfl rfl rfl rfl ?_
                refine mv rfl rfl rfl ?_
                refine RunL.caseb hF (fun e38 hF => ?_) (fun e38 hF => ?_)
                ·
                 refine pass rfl rfl rfl ?_
                 refine pass rfl rfl rfl ?_
                 refine pass rfl rfl rfl ?_
                 refine pass rfl rfl rfl ?_
                 refine pass rfl rfl rfl ?_
                 refine pass rfl rfl rfl ?_
                 refine pass rfl rfl rfl ?_
                 refine pass rfl rfl rfl ?_
                 refine pass rfl rfl rfl ?_
                 refine pass rfl rfl rfl ?_
                 refine pass rfl rfl rfl ?_
                 refine pass rfl rfl rfl ?_
                 refine pick rfl rfl rfl rfl ?_
                 refine nil ?_
                 refine Run.slim [(194, .bool true), (1, v1), (5, u3), (6, .int .i64 y5.1), (9, u8), (11, .int .i64 s3.1), (12, u14), (14, .int .i64 s4)] ⟨rfl, rfl, rfl, rfl, rfl, rfl, rfl, rfl, trivial⟩ ?_
                 refine Run.slim [(1, v1), (5, u3), (6, .int .i64 y5.1), (9, u8), (11, .int .i64 s3.1), (12, u14), (14, .int .i64 s4), (194, .bool true)] ⟨rfl, rfl, rfl, rfl, rfl, rfl, rfl, rfl, trivial⟩ ?_
                 exact hj5 (true) _ _ ⟨rfl, (h74.facts (.atm (.s (.s .z)) (.atm (.s (.s (.s .z))) (.atm (.s (.s (.s (.s .z)))) .nil)))).picks (.cons .z (.cons .z (.cons .z (.cons .z .nil))))⟩ hF
                ·
                 refine mv rfl rfl rfl ?_
                 refine mv rfl rfl rfl ?_
                 refine op (OpS.iptr h74 Tryz.underlying40 ty55 rfl rfl rfl rfl (V.at (.s (.s (.s .z)))) e34 (fun u21 h76 => ?_))
                 refine op (OpS.fptr h76 fa55_6 Event_.f6 rfl rfl rfl .z (fun u22 h77 => ?_))
                 refine op (OpS.loadb h77 ty4 rfl rfl rfl .z ?_)
                 refine mv rfl rfl rfl ?_
                 refine op (OpS.neb Tryz.underlying4 rfl rfl rfl rfl ?_)
                 refine mv rfl rfl rfl ?_
                 refine RunL.caseb hF (fun e39 hF => ?_) (fun e39 hF => ?_)
                 ·
                  refine mv rfl rfl rfl ?_
                  refine mv rfl rfl rfl ?_
                  refine bin rfl rfl rfl rfl rfl ?_
                  refine pick rfl rfl rfl rfl ?_
                  refine pick rfl rfl rfl rfl ?_
                  refine nil ?_
                  refine Run.slim [(194, .bool (decide (y9.1 > y10.1))), (1, v1), (5, u3), (6, .int .i64 y5.1), (9, u8), (11, .int .i64 s3.1), (12, u14), (14, .int .i64 s4)] ⟨rfl, rfl, rfl, rfl, rfl, rfl, rfl, rfl, trivial⟩ ?_
                  refine Run.slim [(1, v1), (5, u3), (6, .int .i64 y5.1), (9, u8), (11, .int .i64 s3.1), (12, u14), (14, .int .i64 s4), (194, .bool (decide (y9.1 > y10.1)))] ⟨rfl, rfl, rfl, rfl, rfl, rfl, rfl, rfl, trivial⟩ ?_
                  exact hj5 (decide (y9.1 > y10.1)) _ _ ⟨rfl, (h77.facts (.atm (.s (.s (.s (.s .z)))) (.atm (.s (.s (.s (.s (.s .z))))) (.atm (.s (.s (.s (.s (.s (.s .z)))))) .nil)))).picks (.cons .z (.cons .z (.cons .z (.cons .z .nil))))⟩ hF
                 ·
                  refine pass rfl rfl rfl ?_
                  refine pass rfl rfl rfl ?_
                  refine pass rfl rfl rfl ?_
                  refine pick rfl rfl rfl rfl ?_
                  refine pick rfl rfl rfl rfl ?_
                  refine nil ?_
                  refine Run.slim [(194, .bool false), (1, v1), (5, u3), (6, .int .i64 y5.1), (9, u8), (11, .int .i64 s3.1), (12, u14), (14, .int .i64 s4)] ⟨rfl, rfl, rfl, rfl, rfl, rfl, rfl, rfl, trivial⟩ ?_
                  refine Run.slim [(1, v1), (5, u3), (6, .int .i64 y5.1), (9, u8), (11, .int .i64 s3.1), (12, u14), (14, .int .i64 s4), (194, .bool false)] ⟨rfl, rfl, rfl, rfl, rfl, rfl, rfl, rfl, trivial⟩ ?_
                  exact hj5 (false) _ _ ⟨rfl, (h77.facts (.atm (.s (.s (.s (.s .z)))) (.atm (.s (.s (.s (.s (.s .z))))) (.atm (.s (.s (.s (.s (.s (.s .z)))))) .nil)))).picks (.cons .z (.cons .z (.cons .z (.cons .z .nil))))⟩ hF
               ·
                refine pass rfl rfl rfl ?_
                refine pass rfl rfl rfl ?_
                refine pass rfl rfl rfl ?_
                refine pick rfl rfl rfl rfl ?_
                refine mv rfl rfl rfl ?_
                refine mv rfl rfl rfl ?_
                refine mv rfl rfl rfl ?_
                refine op (OpS.iptr h74 Tryz.underlying40 ty55 rfl rfl rfl rfl (V.at (.s (.s (.s .z)))) e34 (fun u23 h78 => ?_))
                refine op (OpS.fptr h78 fa55_6 Event_.f6 rfl rfl rfl .z (fun u24 h79 => ?_))
                refine op (OpS.loadb h79 ty4 rfl rfl rfl .z ?_)
                refine mv rfl rfl rfl ?_
                refine op (OpS.neb Tryz.underlying4 rfl rfl rfl rfl ?_)
                refine mv rfl rfl rfl ?_
                refine RunL.caseb hF (fun e40 hF => ?_) (fun e40 hF => ?_)
                ·
                 refine mv rfl rfl rfl ?_
                 refine mv rfl rfl rfl ?_
                 refine bin rfl rfl rfl rfl rfl ?_
                 refine pick rfl rfl rfl rfl ?_
                 refine pick rfl rfl rfl rfl ?_
                 refine nil ?_
                 refine Run.slim [(194, .bool (decide (y9.1 > y10.1))), (1, v1), (5, u3), (6, .int .i64 y5.1), (9, u8), (11, .int .i64 s3.1), (12, u14), (14, .int .i64 s4)] ⟨rfl, rfl, rfl, rfl, rfl, rfl, rfl, rfl, trivial⟩ ?_
                 refine Run.slim [(1, v1), (5, u3), (6, .int .i64 y5.1), (9, u8), (11, .int .i64 s3.1), (12, u14), (14, .int .i64 s4), (194, .bool (decide (y9.1 > y10.1)))] ⟨rfl, rfl, rfl, rfl, rfl, rfl, rfl, rfl, trivial⟩ ?_
                 exact hj5 (decide (y9.1 > y10.1)) _ _ ⟨rfl, (h79.facts (.atm (.s (.s (.s (.s .z)))) (.atm (.s (.s (.s (.s (.s .z))))) (.atm (.s (.s (.s (.s (.s (.s .z)))))) .nil)))).picks (.cons .z (.cons .z (.cons .z (.cons .z .nil))))⟩ hF
                ·
                 refine pass rfl rfl rfl ?_
                 refine pass rfl rfl rfl ?_
                 refine pass rfl rfl rfl ?_
                 refine pick rfl rfl rfl rfl ?_
                 refine pick rfl rfl rfl rfl ?_
                 refine nil ?_
                 refine Run.slim [(194, .bool false), (1, v1), (5, u3), (6, .int .i64 y5.1), (9, u8), (11, .int .i64 s3.1), (12, u14), (14, .int .i64 s4)] ⟨rfl, rfl, rfl, rfl, rfl, rfl, rfl, rfl, trivial⟩ ?_
                 refine Run.slim [(1, v1), (5, u3), (6, .int .i64 y5.1), (9, u8), (11, .int .i64 s3.1), (12, u14), (14, .int .i64 s4), (194, .bool false)] ⟨rfl, rfl, rfl, rfl, rfl, rfl, rfl, rfl, trivial⟩ ?_
                 exact hj5 (false) _ _ ⟨rfl, (h79.facts (.atm (.s (.s (.s (.s .z)))) (.atm (.s (.s (.s (.s (.s .z))))) (.atm (.s (.s (.s (.s (.s (.s .z)))))) .nil)))).picks (.cons .z (.cons .z (.cons .z (.cons .z .nil))))⟩ hF
            ·
             refine RunL.caseb hF (fun e41 hF => ?_) (fun e41 hF => ?_)
             ·
              refine pass rfl rfl rfl ?_
              refine pass rfl rfl rfl ?_
              refine pick rfl rfl rfl rfl ?_
              refine mv rfl rfl rfl ?_
              refine pass rfl rfl rfl ?_
              refine pass rfl rfl rfl ?_
              refine pick rfl rfl rfl rfl ?_
              refine nil ?_
              refine Run.slim [(166, .bool true), (20, .int .i64 y10.1), (18, .int .i64 y9.1), (1, v1), (5, u3), (6, .int .i64 y5.1), (9, u8), (11, .int .i64 s3.1), (12, u14), (14, .int .i64 s4), (15, .int .i64 y8.1)] ⟨rfl, rfl, rfl, rfl, rfl, rfl, rfl, rfl, rfl, rfl, rfl, trivial⟩ ?_
              refine Run.slim [(1, v1), (5, u3), (6, .int .i64 y5.1), (9, u8), (11, .int .i64 s3.1), (12, u14), (14, .int .i64 s4), (15, .int .i64 y8.1), (18, .int .i64 y9.1), (20, .int .i64 y10.1), (166, .bool true)] ⟨rfl, rfl, rfl, rfl, rfl, rfl, rfl, rfl, rfl, rfl, rfl, trivial⟩ ?_
              exact hj4 (true) _ _ ⟨rfl, (h71.facts (.atm (.s (.s (.s (.s (.s (.s (.s (.s .z)))))))) (.atm (.s (.s (.s (.s (.s (.s (.s (.s (.s .z))))))))) (.atm (.s (.s (.s (.s (.s (.s (.s (.s (.s (.s .z)))))))))) .nil)))).picks (.cons .z (.cons .z (.cons .z (.cons .z .nil))))⟩ hF
             ·
              refine mv rfl rfl rfl ?_
              refine bin rfl rfl rfl rfl rfl ?_
              refine pick rfl rfl rfl rfl ?_
              refine mv rfl rfl rfl ?_
              refine RunL.caseb hF (fun e42 hF => ?_) (fun e42 hF => ?_)
              ·
               refine pass rfl rfl rfl ?_
               refine pass rfl rfl rfl ?_
               refine pick rfl rfl rfl rfl ?_
               refine nil ?_
               refine Run.slim [(166, .bool true), (20, .int .i64 y10.1), (18, .int .i64 y9.1), (1, v1), (5, u3), (6, .int .i64 y5.1), (9, u8), (11, .int .i64 s3.1), (12, u14), (14, .int .i64 s4), (15, .int .i64 y8.1)] ⟨rfl, rfl, rfl, rfl, rfl, rfl, rfl, rfl, rfl, rfl, rfl, trivial⟩ ?_
               refine Run.slim [(1, v1), (5, u3), (6, .int .i64 y5.1), (9, u8), (11, .int .i64 s3.1), (12, u14), (14, .int .i64 s4), (15, .int .i64 y8.1), (18, .int .i64 y9.1), (20, .int .i64 y10.1), (166, .bool true)] ⟨rfl, rfl, rfl, rfl, rfl, rfl, rfl, rfl, rfl, rfl, rfl, trivial⟩ ?_
               exact hj4 (true) _ _ ⟨rfl, (h71.facts (.atm (.s (.s (.s (.s (.s (.s (.s (.s .z)))))))) (.atm (.s (.s (.s (.s (.s (.s (.s (.s (.s .z))))))))) (.atm (.s (.s (.s (.s (.s (.s (.s (.s (.s (.s .z)))))))))) .nil)))).picks (.cons .z (.cons .z (.cons .z (.cons .z .nil))))⟩ hF
              ·
               refine mv rfl rfl rfl ?_
               refine bin rfl rfl rfl rfl rfl ?_
               refine pick rfl rfl rfl rfl ?_
               refine nil ?_
               refine Run.slim [(166, .bool (y10.2 != 0)), (20, .int .i64 y10.1), (18, .int .i64 y9.1), (1, v1), (5, u3), (6, .int .i64 y5.1), (9, u8), (11, .int .i64 s3.1), (12, u14), (14, .int .i64 s4), (15, .int .i64 y8.1)] ⟨rfl, rfl, rfl, rfl, rfl, rfl, rfl, rfl, rfl, rfl, rfl, trivial⟩ ?_
               refine Run.slim [(1, v1), (5, u3), (6, .int .i64 y5.1), (9, u8), (11, .int .i64 s3.1), (12, u14), (14, .int .i64 s4), (15, .int .i64 y8.1), (18, .int .i64 y9.1), (20, .int .i64 y10.1), (166, .bool (y10.2 != 0))] ⟨rfl, rfl, rfl, rfl, rfl, rfl, rfl, rfl, rfl, rfl, rfl, trivial⟩ ?_
               exact hj4 (y10.2 != 0) _ _ ⟨rfl, (h71.facts (.atm (.s (.s (.s (.s (.s (.s (.s (.s .z)))))))) (.atm (.s (.s (.s (.s (.s (.s (.s (.s (.s .z))))))))) (.atm (.s (.s (.s (.s (.s (.s (.s (.s (.s (.s .z)))))))))) .nil)))).picks (.cons .z (.cons .z (.cons .z (.cons .z .nil))))⟩ hF
          ·
           obtain ⟨x13, e43, hF⟩ := letP_use hF
           refine iteP_use hF (fun e44 hF => ?_) (fun e44 hF => ?_)
           ·
            have hG := hF
            subst e44
            have hF := hG
            refine Run.drawV (Ωs := [(false, .box 184 (monitor_Monitor.repW u15 u16) u8 y7.2.2), (false, .slice 188 Filter_.rep u15 y7.2.2.filters), (false, .slice 49 (Rep.int .u16) u16 y7.2.2.states)]) [.k 100 (.bool y8.2.2), .k 101 (.bool (!y8.2.2)), .k 102 (.bool true), .k 103 undef, .k 104 undef, .k 105 (.bool true), .k 106 (.bool true), .k 107 undef, .k 108 undef, .k 109 undef, .k 110 undef, .k 111 undef, .k 112 undef, .k 113 undef, .k 114 undef, .k 115 undef, .k 116 undef, .k 117 undef, .k 118 (.bool true), .k 119 (.bool true), .k 120 undef, .k 121 undef, .k 122 undef, .k 123 undef, .k 124 undef, .k 125 undef, .k 126 undef, .k 127 undef, .k 128 undef, .k 129 undef, .k 130 undef] [[], [0], [1], [2], [2], [2, 4], [5], [6], [6], [6], [6], [6], [6], [6], [6], [6], [6], [6], [6, 17], [18], [19], [19], [19], [19], [19], [19], [19], [19], [19], [19], [19]] [[(true, .box 74 Sensor_.rep u3 d4)]] [0, 1, 2, 3, 4, 5, 6, 7, 8, 9, 10, 11, 12, 13, 14, 15, 16, 17, 18, 19, 20, 21, 22, 23, 24, 25, 26, 27, 28, 29, 30, 31] Try_mixed rfl rfl rfl h44 (.cons ?_ (.cons ?_ (.cons ?_ (.cons ?_ (.cons ?_ (.cons ?_ (.cons ?_ (.cons ?_ (.cons ?_ (.cons ?_ (.cons ?_ (.cons ?_ (.cons ?_ (.cons ?_ (.cons ?_ (.cons ?_ (.cons ?_ (.cons ?_ (.cons ?_ (.cons ?_ (.cons ?_ (.cons ?_ (.cons ?_ (.cons ?_ (.cons ?_ (.cons ?_ (.cons ?_ (.cons ?_ (.cons ?_ (.cons ?_ (.cons ?_ .nil))))))))))))))))))))))))))))))) (fun q3 w hq3 h => ?_)
            ·intro q3 w Γx Ωx h
             refine OpS.mv rfl rfl rfl ?_
             exact ⟨undef, rfl, trivial, h⟩
            ·intro q3 w Γx Ωx h
             refine OpS.not rfl rfl rfl ?_
             exact ⟨undef, rfl, trivial, h⟩
            ·intro q3 w Γx Ωx h
             refine OpS.mv rfl rfl rfl ?_
             exact ⟨undef, (congrArg (fun z_ => some (Value.bool z_)) e43), trivial, h⟩
            ·intro q3 w Γx Ωx h
             exact OpS.pass rfl rfl rfl ⟨undef, rfl, trivial, h⟩
            ·intro q3 w Γx Ωx h
             exact OpS.pass rfl rfl rfl ⟨undef, rfl, trivial, h⟩
            ·intro q3 w Γx Ωx h
             refine OpS.pick rfl rfl rfl rfl ?_
             exact ⟨undef, rfl, trivial, h⟩
            ·intro q3 w Γx Ωx h
             refine OpS.mv rfl rfl rfl ?_
             exact ⟨undef, rfl, trivial, h⟩
            ·intro q3 w Γx Ωx h
             exact OpS.pass rfl rfl rfl ⟨undef, rfl, trivial, h⟩
            ·intro q3 w Γx Ωx h
             exact OpS.pass rfl rfl rfl ⟨undef, rfl, trivial, h⟩
            ·intro q3 w Γx Ωx h
             exact OpS.pass rfl rfl rfl ⟨undef, rfl, trivial, h⟩
            ·intro q3 w Γx Ωx h
             exact OpS.pass rfl rfl rfl ⟨undef, rfl, trivial, h⟩
            ·intro q3 w Γx Ωx h
             exact OpS.pass rfl rfl rfl ⟨undef, rfl, trivial, h⟩
            ·intro q3 w Γx Ωx h
             exact OpS.pass rfl rfl rfl ⟨undef, rfl, trivial, h⟩
            ·intro q3 w Γx Ωx h
             exact OpS.pass rfl rfl rfl ⟨undef, rfl, trivial, h⟩
            ·intro q3 w Γx Ωx h
             exact OpS.pass rfl rfl rfl ⟨undef, rfl, trivial, h⟩
            ·intro q3 w Γx Ωx h
             exact OpS.pass rfl rfl rfl ⟨undef, rfl, trivial, h⟩
            ·intro q3 w Γx Ωx h
             exact OpS.pass rfl rfl rfl ⟨undef, rfl, trivial, h⟩
            ·intro q3 w Γx Ωx h
             exact OpS.pass rfl rfl rfl ⟨undef, rfl, trivial, h⟩
            ·intro q3 w Γx Ωx h
             refine OpS.pick rfl rfl rfl rfl ?_
             exact ⟨undef, rfl, trivial, h⟩
            ·intro q3 w Γx Ωx h
             refine OpS.mv rfl rfl rfl ?_
             exact ⟨undef, rfl, trivial, h⟩
            ·intro q3 w Γx Ωx h
             exact OpS.pass rfl rfl rfl ⟨undef, rfl, trivial, h⟩
            ·intro q3 w Γx Ωx h
             exact OpS.pass rfl rfl rfl ⟨undef, rfl, trivial, h⟩
            ·intro q3 w Γx Ωx h
             exact OpS.pass rfl rfl rfl ⟨undef, rfl, trivial, h⟩
            ·intro q3 w Γx Ωx h
             exact OpS.pass rfl rfl rfl ⟨undef, rfl, trivial, h⟩
            ·intro q3 w Γx Ωx h
             exact OpS.pass rfl rfl rfl ⟨undef, rfl, trivial, h⟩
            ·intro q3 w Γx Ωx h
             exact OpS.pass rfl rfl rfl ⟨undef, rfl, trivial, h⟩
            ·intro q3 w Γx Ωx h
             exact OpS.pass rfl rfl rfl ⟨undef, rfl, trivial, h⟩
            ·intro q3 w Γx Ωx h
             exact OpS.pass rfl rfl rfl ⟨undef, rfl, trivial, h⟩
            ·intro q3 w Γx Ωx h
             exact OpS.pass rfl rfl rfl ⟨undef, rfl, trivial, h⟩
            ·intro q3 w Γx Ωx h
             exact OpS.pass rfl rfl rfl ⟨undef, rfl, trivial, h⟩
            ·intro q3 w Γx Ωx h
             exact OpS.pass rfl rfl rfl ⟨undef, rfl, trivial, h⟩
            have h80 := h
            refine pass rfl rfl rfl ?_
            refine pick rfl rfl rfl rfl ?_
            refine nil ?_
            refine Run.slim [(132, .bool true), (15, .int .i64 y8.1), (1, v1), (5, u3), (6, .int .i64 y5.1), (9, u8), (11, .int .i64 s3.1), (12, u14), (14, .int .i64 s4)] ⟨rfl, rfl, rfl, rfl, rfl, rfl, rfl, rfl, rfl, trivial⟩ ?_
            refine Run.slim [(1, v1), (5, u3), (6, .int .i64 y5.1), (9, u8), (11, .int .i64 s3.1), (12, u14), (14, .int .i64 s4), (15, .int .i64 y8.1), (132, .bool true)] ⟨rfl, rfl, rfl, rfl, rfl, rfl, rfl, rfl, rfl, trivial⟩ ?_
            exact hj3 (true) _ _ ⟨rfl, (h80.facts (.atm (.s (.s .z)) (.atm (.s (.s (.s .z))) (.atm (.s (.s (.s (.s .z)))) .nil)))).picks (.cons .z (.cons .z (.cons .z (.cons .z .nil))))⟩ hF
           ·
            have hG := hF
            subst e44
            have hF := hG
            obtain ⟨x14, e45, hF⟩ := letP_use hF
            refine iteP_use hF (fun e46 hF => ?_) (fun e46 hF => ?_)
            ·
             have hG := hF
             subst e46
             have hF := hG
             refine Run.drawV (Ωs := [(false, .box 184 (monitor_Monitor.repW u15 u16) u8 y7.2.2), (false, .slice 188 Filter_.rep u15 y7.2.2.filters), (false, .slice 49 (Rep.int .u16) u16 y7.2.2.states)]) [.k 100 (.bool y8.2.2), .k 101 (.bool (!y8.2.2)), .k 102 (.bool false), .k 103 (.bool y8.2.1), .k 104 (.bool (!y8.2.1)), .k 105 (.bool (!y8.2.1)), .k 106 (.bool true), .k 107 undef, .k 108 undef, .k 109 undef, .k 110 undef, .k 111 undef, .k 112 undef, .k 113 undef, .k 114 undef, .k 115 undef, .k 116 undef, .k 117 undef, .k 118 (.bool true), .k 119 (.bool true), .k 120 undef, .k 121 undef, .k 122 undef, .k 123 undef, .k 124 undef, .k 125 undef, .k 126 undef, .k 127 undef, .k 128 undef, .k 129 undef, .k 130 undef] [[], [0], [1], [2], [3, 2], [2, 4], [5], [6], [6], [6], [6], [6], [6], [6], [6], [6], [6], [6], [6, 17], [18], [19], [19], [19], [19], [19], [19], [19], [19], [19], [19], [19]] [[(true, .box 74 Sensor_.rep u3 d4)]] [0, 1, 2, 3, 4, 5, 6, 7, 8, 9, 10, 11, 12, 13, 14, 15, 16, 17, 18, 19, 20, 21, 22, 23, 24, 25, 26, 27, 28, 29, 30, 31] Try_mixed rfl rfl rfl h44 (.cons ?_ (.cons ?_ (.cons ?_ (.cons ?_ (.cons ?_ (.cons ?_ (.cons ?_ (.cons ?_ (.cons ?_ (.cons ?_ (.cons ?_ (.cons ?_ (.cons ?_ (.cons ?_ (.cons ?_ (.cons ?_ (.cons ?_ (.cons ?_ (.cons ?_ (.cons ?_ (.cons ?_ (.cons ?_ (.cons ?_ (.cons ?_ (.cons ?_ (.cons ?_ (.cons ?_ (.cons ?_ (.cons ?_ (.cons ?_ (.cons ?_ .nil))))))))))))))))))))))))))))))) (fun q3 w hq4 h => ?_)
             ·intro q3 w Γx Ωx h
              refine OpS.mv rfl rfl rfl ?_
              exact ⟨undef, rfl, trivial, h⟩
             ·intro q3 w Γx Ωx h
              refine OpS.not rfl rfl rfl ?_
              exact ⟨undef, rfl, trivial, h⟩
             ·intro q3 w Γx Ωx h
              refine OpS.mv rfl rfl rfl ?_
              exact ⟨undef, (congrArg (fun z_ => some (Value.bool z_)) e43), trivial, h⟩
             ·intro q3 w Γx Ωx h
              refine OpS.mv rfl rfl rfl ?_
              exact ⟨undef, rfl, trivial, h⟩
             ·intro q3 w Γx Ωx h
              refine OpS.not rfl rfl rfl ?_
              exact ⟨undef, rfl, trivial, h⟩
             ·intro q3 w Γx Ωx h
              refine OpS.pick rfl rfl rfl rfl ?_
              exact ⟨undef, rfl, trivial, h⟩
             ·intro q3 w Γx Ωx h
              refine OpS.mv rfl rfl rfl ?_
              exact ⟨undef, (congrArg (fun z_ => some (Value.bool z_)) e45), trivial, h⟩
             ·intro q3 w Γx Ωx h
              exact OpS.pass rfl rfl rfl ⟨undef, rfl, trivial, h⟩
             ·intro q3 w Γx Ωx h
              exact OpS.pass rfl rfl rfl ⟨undef, rfl, trivial, h⟩
             ·intro q3 w Γx Ωx h
              exact OpS.pass rfl rfl rfl ⟨undef, rfl, trivial, h⟩
             ·intro q3 w Γx Ωx h
              exact OpS.pass rfl rfl rfl ⟨undef, rfl, trivial, h⟩
             ·intro q3 w Γx Ωx h
              exact OpS.pass rfl rfl rfl ⟨undef, rfl, trivial, h⟩
             ·intro q3 w Γx Ωx h
              exact OpS.pass rfl rfl rfl ⟨undef, rfl, trivial, h⟩
             ·intro q3 w Γx Ωx h
              exact OpS.pass rfl rfl rfl ⟨undef, rfl, trivial, h⟩
             ·intro q3 w Γx Ωx h
              exact OpS.pass rfl rfl rfl ⟨undef, rfl, trivial, h⟩
             ·intro q3 w Γx Ωx h
              exact OpS.pass rfl rfl rfl ⟨undef, rfl, trivial, h⟩
             ·intro q3 w Γx Ωx h
              exact OpS.pass rfl rfl rfl ⟨undef, rfl, trivial, h⟩
             ·intro q3 w Γx Ωx h
              exact OpS.pass rfl rfl rfl ⟨undef, rfl, trivial, h⟩
             ·intro q3 w Γx Ωx h
              refine OpS.pick rfl rfl rfl rfl ?_
              exact ⟨undef, rfl, trivial, h⟩
             ·intro q3 w Γx Ωx h
              refine OpS.mv rfl rfl rfl ?_
              exact ⟨undef, rfl, trivial, h⟩
             ·intro q3 w Γx Ωx h
              exact OpS.pass rfl rfl rfl ⟨undef, rfl, trivial, h⟩
             ·intro q3 w Γx Ωx h
              exact OpS.pass rfl rfl rfl ⟨undef, rfl, trivial, h⟩
             ·intro q3 w Γx Ωx h
              exact OpS.pass rfl rfl rfl ⟨undef, rfl, trivial, h⟩
             ·intro q3 w Γx Ωx h
              exact OpS.pass rfl rfl rfl ⟨undef, rfl, trivial, h⟩
             ·intro q3 w Γx Ωx h
              exact OpS.pass rfl rfl rfl ⟨undef, rfl, trivial, h⟩
             ·intro q3 w Γx Ωx h
              exact OpS.pass rfl rfl rfl ⟨undef, rfl, trivial, h⟩
             ·intro q3 w Γx Ωx h
              exact OpS.pass rfl rfl rfl ⟨undef, rfl, trivial, h⟩
             ·intro q3 w Γx Ωx h
              exact OpS.pass rfl rfl rfl ⟨undef, rfl, trivial, h⟩
             ·intro q3 w Γx Ωx h
              exact OpS.pass rfl rfl rfl ⟨undef, rfl, trivial, h⟩
             ·intro q3 w Γx Ωx h
              exact OpS.pass rfl rfl rfl ⟨undef, rfl, trivial, h⟩
             ·intro q3 w Γx Ωx h
              exact OpS.pass rfl rfl rfl ⟨undef, rfl, trivial, h⟩
             have h81 := h
             refine pass rfl rfl rfl ?_
             refine pick rfl rfl rfl rfl ?_
             refine nil ?_
             refine Run.slim [(132, .bool true), (15, .int .i64 y8.1), (1, v1), (5, u3), (6, .int .i64 y5.1), (9, u8), (11, .int .i64 s3.1), (12, u14), (14, .int .i64 s4)] ⟨rfl, rfl, rfl, rfl, rfl, rfl, rfl, rfl, rfl, trivial⟩ ?_
             refine Run.slim [(1, v1), (5, u3), (6, .int .i64 y5.1), (9, u8), (11, .int .i64 s3.1), (12, u14), (14, .int .i64 s4), (15, .int .i64 y8.1), (132, .bool true)] ⟨rfl, rfl, rfl, rfl, rfl, rfl, rfl, rfl, rfl, trivial⟩ ?_
             exact hj3 (true) _ _ ⟨rfl, (h81.facts (.atm (.s (.s .z)) (.atm (.s (.s (.s .z))) (.atm (.s (.s (.s (.s .z)))) .nil)))).picks (.cons .z (.cons .z (.cons .z (.cons .z .nil))))⟩ hF
            ·
             have hG := hF
             subst e46
             have hF := hG
             obtain ⟨x15, e47, hF⟩ := bindP_use hF
             obtain ⟨x16, e48, hF⟩ := bindP_use hF
             obtain ⟨x17, e49, hF⟩ := bindP_use hF
             obtain ⟨x18, e50, hF⟩ := letP_use hF
             refine iteP_use hF (fun e51 hF => ?_) (fun e51 hF => ?_)
             ·
              have hG := hF
              subst e51
              have hF := hG
              refine Run.drawV (Ωs := [(false, .box 184 (monitor_Monitor.repW u15 u16) u8 y7.2.2), (false, .slice 188 Filter_.rep u15 y7.2.2.filters), (false, .slice 49 (Rep.int .u16) u16 y7.2.2.states)]) [.k 100 (.bool y8.2.2), .k 101 (.bool (!y8.2.2)), .k 102 (.bool false), .k 103 (.bool y8.2.1), .k 104 (.bool (!y8.2.1)), .k 105 (.bool (!y8.2.1)), .k 106 (.bool false), .k 107 u14, .k 108 (.int .i64 s4), .f 109 (fun u_ => [(true, .ptr Event_.rep u_ x15)]), .f 110 (fun u_ => [(true, .ptr (Rep.arr 3 (Rep.int .u8)) u_ x15.Data)]), .f 111 (fun u_ => [(true, .ptr (Rep.int .u8) u_ x16)]), .k 112 (.int .u8 x16), .k 113 v1, .k 114 (.int .i64 s3.1), .f 115 (fun u_ => [(false, .ptr (Rep.int .u8) u_ x17)]), .k 116 (.int .u8 x17), .k 117 (.bool (x16 != x17)), .k 118 (.bool (x16 != x17)), .k 119 (.bool true), .k 120 undef, .k 121 undef, .k 122 undef, .k 123 undef, .k 124 undef, .k 125 undef, .k 126 undef, .k 127 undef, .k 128 undef, .k 129 undef, .k 130 undef] [[], [0], [1], [2], [3, 2], [2, 4], [5], [6], [6], [7, 8, 6], [9, 6], [10, 6], [11, 6], [6], [6], [13, 14, 6], [15, 6], [12, 16, 6], [6, 17], [18], [19], [19], [19], [19], [19], [19], [19], [19], [19], [19], [19]] [[(true, .box 74 Sensor_.rep u3 d4)]] [0, 1, 2, 3, 4, 5, 6, 7, 8, 9, 10, 11, 12, 13, 14, 15, 16, 17, 18, 19, 20, 21, 22, 23, 24, 25, 26, 27, 28, 29, 30, 31] Try_mixed rfl rfl rfl h44 (.cons ?_ (.cons ?_ (.cons ?_ (.cons ?_ (.cons ?_ (.cons ?_ (.cons ?_ (.cons ?_ (.cons ?_ (.cons ?_ (.cons ?_ (.cons ?_ (.cons ?_ (.cons ?_ (.cons ?_ (.cons ?_ (.cons ?_ (.cons ?_ (.cons ?_ (.cons ?_ (.cons ?_ (.cons ?_ (.cons ?_ (.cons ?_ (.cons ?_ (.cons ?_ (.cons ?_ (.cons ?_ (.cons ?_ (.cons ?_ (.cons ?_ .nil))))))))))))))))))))))))))))))) (fun q3 w hq5 h => ?_)
              ·intro q3 w Γx Ωx h
               refine OpS.mv rfl rfl rfl ?_
               exact ⟨undef, rfl, trivial, h⟩
              ·intro q3 w Γx Ωx h
               refine OpS.not rfl rfl rfl ?_
               exact ⟨undef, rfl, trivial, h⟩
              ·intro q3 w Γx Ωx h
               refine OpS.mv rfl rfl rfl ?_
               exact ⟨undef, (congrArg (fun z_ => some (Value.bool z_)) e43), trivial, h⟩
              ·intro q3 w Γx Ωx h
               refine OpS.mv rfl rfl rfl ?_
               exact ⟨undef, rfl, trivial, h⟩
              ·intro q3 w Γx Ωx h
               refine OpS.not rfl rfl rfl ?_
               exact ⟨undef, rfl, trivial, h⟩
              ·intro q3 w Γx Ωx h
               refine OpS.pick rfl rfl rfl rfl ?_
               exact ⟨undef, rfl, trivial, h⟩
              ·intro q3 w Γx Ωx h
               refine OpS.mv rfl rfl rfl ?_
               exact ⟨undef, (congrArg (fun z_ => some (Value.bool z_)) e45), trivial, h⟩
              ·intro q3 w Γx Ωx h
               refine OpS.mv rfl rfl rfl ?_
               exact ⟨undef, rfl, trivial, h⟩
              ·intro q3 w Γx Ωx h
               refine OpS.mv rfl rfl rfl ?_
               exact ⟨undef, rfl, trivial, h⟩
              ·intro q3 w Γx Ωx h
               refine OpS.iptr h Tryz.underlying40 ty55 rfl rfl rfl rfl (V.at (.s (.s (.s .z)))) e47 (fun u h86 => ?_)
               exact ⟨u, rfl, trivial, h86⟩
              ·intro q3 w Γx Ωx h
               refine OpS.fptr h fa55_7 Event_.f7 rfl rfl rfl .z (fun u h87 => ?_)
               exact ⟨u, rfl, trivial, h87⟩
              ·intro q3 w Γx Ωx h
               refine OpS.iarr h Tryz.underlying53 ty5 rfl rfl rfl rfl .z e48 (fun u h88 => ?_)
               exact ⟨u, rfl, trivial, h88⟩
              ·intro q3 w Γx Ωx h
               refine OpS.loadi h ty5 rfl rfl rfl .z ?_
               exact ⟨undef, rfl, trivial, h⟩
              ·intro q3 w Γx Ωx h
               refine OpS.mv rfl rfl rfl ?_
               exact ⟨undef, rfl, trivial, h⟩
              ·intro q3 w Γx Ωx h
               refine OpS.mv rfl rfl rfl ?_
               exact ⟨undef, rfl, trivial, h⟩
              ·intro q3 w Γx Ωx h
               refine OpS.iptr h Tryz.underlying24 ty5 rfl rfl rfl rfl (V.at (.s (.s .z))) e49 (fun u h89 => ?_)
               exact ⟨u, rfl, trivial, h89⟩
              ·intro q3 w Γx Ωx h
               refine OpS.loadi h ty5 rfl rfl rfl .z ?_
               exact ⟨undef, rfl, trivial, h⟩
              ·intro q3 w Γx Ωx h
               refine OpS.bin rfl rfl rfl rfl rfl ?_
               exact ⟨undef, rfl, trivial, h⟩
              ·intro q3 w Γx Ωx h
               refine OpS.pick rfl rfl rfl rfl ?_
               exact ⟨undef, rfl, trivial, h⟩
              ·intro q3 w Γx Ωx h
               refine OpS.mv rfl rfl rfl ?_
               exact ⟨undef, (congrArg (fun z_ => some (Value.bool z_)) e50), trivial, h⟩
              ·intro q3 w Γx Ωx h
               exact OpS.pass rfl rfl rfl ⟨undef, rfl, trivial, h⟩
              ·intro q3 w Γx Ωx h
               exact OpS.pass rfl rfl rfl ⟨undef, rfl, trivial, h⟩
              ·intro q3 w Γx Ωx h
               exact OpS.pass rfl rfl rfl ⟨undef, rfl, trivial, h⟩
              ·intro q3 w Γx Ωx h
               exact OpS.pass rfl rfl rfl ⟨undef, rfl, trivial, h⟩
              ·intro q3 w Γx Ωx h
               exact OpS.pass rfl rfl rfl ⟨undef, rfl, trivial, h⟩
              ·intro q3 w Γx Ωx h
               exact OpS.pass rfl rfl rfl ⟨undef, rfl, trivial, h⟩
              ·intro q3 w Γx Ωx h
               exact OpS.pass rfl rfl rfl ⟨undef, rfl, trivial, h⟩
              ·intro q3 w Γx Ωx h
               exact OpS.pass rfl rfl rfl ⟨undef, rfl, trivial, h⟩
              ·intro q3 w Γx Ωx h
               exact OpS.pass rfl rfl rfl ⟨undef, rfl, trivial, h⟩
              ·intro q3 w Γx Ωx h
               exact OpS.pass rfl rfl rfl ⟨undef, rfl, trivial, h⟩
              ·intro q3 w Γx Ωx h
               exact OpS.pass rfl rfl rfl ⟨undef, rfl, trivial, h⟩
              have h90 := h
              refine pass rfl rfl rfl ?_
              refine pick rfl rfl rfl rfl ?_
              refine nil ?_
              refine Run.slim [(132, .bool true), (15, .int .i64 y8.1), (1, v1), (5, u3), (6, .int .i64 y5.1), (9, u8), (11, .int .i64 s3.1), (12, u14), (14, .int .i64 s4)] ⟨rfl, rfl, rfl, rfl, rfl, rfl, rfl, rfl, rfl, trivial⟩ ?_
              refine Run.slim [(1, v1), (5, u3), (6, .int .i64 y5.1), (9, u8), (11, .int .i64 s3.1), (12, u14), (14, .int .i64 s4), (15, .int .i64 y8.1), (132, .bool true)] ⟨rfl, rfl, rfl, rfl, rfl, rfl, rfl, rfl, rfl, trivial⟩ ?_
              exact hj3 (true) _ _ ⟨rfl, (h90.facts (.atm (.s (.s (.s (.s (.s (.s .z)))))) (.atm (.s (.s (.s (.s (.s (.s (.s .z))))))) (.atm (.s (.s (.s (.s (.s (.s (.s (.s .z)))))))) .nil)))).picks (.cons .z (.cons .z (.cons .z (.cons .z .nil))))⟩ hF
             ·
              have hG := hF
              subst e51
              have hF := hG
              obtain ⟨x19, e52, hF⟩ := bindP_use hF
              obtain ⟨x20, e53, hF⟩ := bindP_use hF
              obtain ⟨e54, hF⟩ := chk_use hF
              refine Run.drawV (Ωs := [(false, .box 184 (monitor_Monitor.repW u15 u16) u8 y7.2.2), (false, .slice 188 Filter_.rep u15 y7.2.2.filters), (false, .slice 49 (Rep.int .u16) u16 y7.2.2.states)]) [.k 100 (.bool y8.2.2), .k 101 (.bool (!y8.2.2)), .k 102 (.bool false), .k 103 (.bool y8.2.1), .k 104 (.bool (!y8.2.1)), .k 105 (.bool (!y8.2.1)), .k 106 (.bool false), .k 107 u14, .k 108 (.int .i64 s4), .f 109 (fun u_ => [(true, .ptr Event_.rep u_ x15)]), .f 110 (fun u_ => [(true, .ptr (Rep.arr 3 (Rep.int .u8)) u_ x15.Data)]), .f 111 (fun u_ => [(true, .ptr (Rep.int .u8) u_ x16)]), .k 112 (.int .u8 x16), .k 113 v1, .k 114 (.int .i64 s3.1), .f 115 (fun u_ => [(false, .ptr (Rep.int .u8) u_ x17)]), .k 116 (.int .u8 x17), .k 117 (.bool (x16 != x17)), .k 118 (.bool (x16 != x17)), .k 119 (.bool false), .k 120 u14, .k 121 (.int .i64 s4), .f 122 (fun u_ => [(true, .ptr Event_.rep u_ x15)]), .f 123 (fun u_ => [(true, .ptr (Rep.arr 3 (Rep.int .u8)) u_ x15.Data)]), .f 124 (fun u_ => [(true, .ptr (Rep.int .u8) u_ x19)]), .k 125 (.int .u8 x19), .k 126 (.int .i64 y8.1), .kr 127 (padd u3 14) [0], .kr 128 (padd u3 15) [0], .kr 129 (padd u3 (15 + (y8.1 : Int).toNat * (Rep.int .u8).n)) [0], .kr 130 (.int .u8 x20) [0]] [[], [0], [1], [2], [3, 2], [2, 4], [5], [6], [6], [7, 8, 6], [9, 6], [10, 6], [11, 6], [6], [6], [13, 14, 6], [15, 6], [12, 16, 6], [6, 17], [18], [19], [19], [20, 21, 19], [22, 19], [23, 19], [24, 19], [19], [19], [27, 19], [28, 26, 19], [29, 19]] [[(true, .box 74 Sensor_.rep u3 d4)]] [0, 1, 2, 3, 4, 5, 6, 7, 8, 9, 10, 11, 12, 13, 14, 15, 16, 17, 18, 19, 20, 21, 22, 23, 24, 25, 26, 27, 28, 29, 30, 31] Try_mixed rfl rfl rfl h44 (.cons ?_ (.cons ?_ (.cons ?_ (.cons ?_ (.cons ?_ (.cons ?_ (.cons ?_ (.cons ?_ (.cons ?_ (.cons ?_ (.cons ?_ (.cons ?_ (.cons ?_ (.cons ?_ (.cons ?_ (.cons ?_ (.cons ?_ (.cons ?_ (.cons ?_ (.cons ?_ (.cons ?_ (.cons ?_ (.cons ?_ (.cons ?_ (.cons ?_ (.cons ?_ (.cons ?_ (.cons ?_ (.cons ?_ (.cons ?_ (.cons ?_ .nil))))))))))))))))))))))))))))))) (fun q3 w hq6 h => ?_)
              ·intro q3 w Γx Ωx h
               refine OpS.mv rfl rfl rfl ?_
               exact ⟨undef, rfl, trivial, h⟩
              ·intro q3 w Γx Ωx h
               refine OpS.not rfl rfl rfl ?_
               exact ⟨undef, rfl, trivial, h⟩
              ·intro q3 w Γx Ωx h
               refine OpS.mv rfl rfl rfl ?_
               exact ⟨undef, (congrArg (fun z_ => some (Value.bool z_)) e43), trivial, h⟩
              ·intro q3 w Γx Ωx h
               refine OpS.mv rfl rfl rfl ?_
               exact ⟨undef, rfl, trivial, h⟩
              ·intro q3 w Γx Ωx h
               refine OpS.not rfl rfl rfl ?_
               exact ⟨undef, rfl, trivial, h⟩
              ·intro q3 w Γx Ωx h
               refine OpS.pick rfl rfl rfl rfl ?_
               exact ⟨undef, rfl, trivial, h⟩
              ·intro q3 w Γx Ωx h
               refine OpS.mv rfl rfl rfl ?_
               exact ⟨undef, (congrArg (fun z_ => some (Value.bool z_)) e45), trivial, h⟩
              ·intro q3 w Γx Ωx h
               refine OpS.mv rfl rfl rfl ?_
               exact ⟨undef, rfl, trivial, h⟩
              ·intro q3 w Γx Ωx h
               refine OpS.mv rfl rfl rfl ?_
               exact ⟨undef, rfl, trivial, h⟩
              ·intro q3 w Γx Ωx h
               refine OpS.iptr h Tryz.underlying40 ty55 rfl rfl rfl rfl (V.at (.s (.s (.s .z)))) e47 (fun u h94 => ?_)
               exact ⟨u, rfl, trivial, h94⟩
              ·intro q3 w Γx Ωx h
               refine OpS.fptr h fa55_7 Event_.f7 rfl rfl rfl .z (fun u h95 => ?_)
               exact ⟨u, rfl, trivial, h95⟩
              ·intro q3 w Γx Ωx h
               refine OpS.iarr h Tryz.underlying53 ty5 rfl rfl rfl rfl .z e48 (fun u h96 => ?_)
               exact ⟨u, rfl, trivial, h96⟩
              ·intro q3 w Γx Ωx h
               refine OpS.loadi h ty5 rfl rfl rfl .z ?_
               exact ⟨undef, rfl, trivial, h⟩
              ·intro q3 w Γx Ωx h
               refine OpS.mv rfl rfl rfl ?_
               exact ⟨undef, rfl, trivial, h⟩
              ·intro q3 w Γx Ωx h
               refine OpS.mv rfl rfl rfl ?_
               exact ⟨undef, rfl, trivial, h⟩
              ·intro q3 w Γx Ωx h
               refine OpS.iptr h Tryz.underlying24 ty5 rfl rfl rfl rfl (V.at (.s (.s .z))) e49 (fun u h97 => ?_)
               exact ⟨u, rfl, trivial, h97⟩
              ·intro q3 w Γx Ωx h
               refine OpS.loadi h ty5 rfl rfl rfl .z ?_
               exact ⟨undef, rfl, trivial, h⟩
              ·intro q3 w Γx Ωx h
               refine OpS.bin rfl rfl rfl rfl rfl ?_
               exact ⟨undef, rfl, trivial, h⟩
              ·intro q3 w Γx Ωx h
               refine OpS.pick rfl rfl rfl rfl ?_
               exact ⟨undef, rfl, trivial, h⟩
              ·intro q3 w Γx Ωx h
               refine OpS.mv rfl rfl rfl ?_
               exact ⟨undef, (congrArg (fun z_ => some (Value.bool z_)) e50), trivial, h⟩
              ·intro q3 w Γx Ωx h
               refine OpS.mv rfl rfl rfl ?_
               exact ⟨undef, rfl, trivial, h⟩
              ·intro q3 w Γx Ωx h
               refine OpS.mv rfl rfl rfl ?_
               exact ⟨undef, rfl, trivial, h⟩
              ·intro q3 w Γx Ωx h
               refine OpS.iptr h Tryz.underlying40 ty55 rfl rfl rfl rfl (V.at (.s (.s (.s .z)))) e47 (fun u h98 => ?_)
               exact ⟨u, rfl, trivial, h98⟩
              ·intro q3 w Γx Ωx h
               refine OpS.fptr h fa55_7 Event_.f7 rfl rfl rfl .z (fun u h99 => ?_)
               exact ⟨u, rfl, trivial, h99⟩
              ·intro q3 w Γx Ωx h
               refine OpS.iarr h Tryz.underlying53 ty5 rfl rfl rfl rfl .z e52 (fun u h100 => ?_)
               exact ⟨u, rfl, trivial, h100⟩
              ·intro q3 w Γx Ωx h
               refine OpS.loadi h ty5 rfl rfl rfl .z ?_
               exact ⟨undef, rfl, trivial, h⟩
              ·intro q3 w Γx Ωx h
               refine OpS.mv rfl rfl rfl ?_
               exact ⟨undef, rfl, trivial, h⟩
              ·intro q3 w Γx Ωx h
               refine OpS.fbox (o3 := 14) h .z PA.z fa74_7 rfl rfl rfl rfl ?_
               exact ⟨undef, rfl, trivial, h⟩
              ·intro q3 w Γx Ωx h
               refine OpS.fbox (o3 := 15) h .z PA.a fa72_1 rfl rfl rfl rfl ?_
               exact ⟨undef, rfl, trivial, h⟩
              ·intro q3 w Γx Ωx h
               refine OpS.ibox h .z PA.a Tryz.underlying70 ty5 (Nat.eq_of_beq_eq_true e54) rfl rfl rfl rfl e53 ?_
               exact ⟨undef, rfl, trivial, h⟩
              ·intro q3 w Γx Ωx h
               refine OpS.loadBi h .z PA.a (Get.comp (Get.comp (Get.fld Sensor_.f7) (Get.fld Thresholds_.f1)) (Get.arr e53)) ty5 rfl rfl rfl ?_
               exact ⟨undef, rfl, trivial, h⟩
              have h101 := h
              refine bin rfl rfl rfl rfl rfl ?_
              refine pick rfl rfl rfl rfl ?_
              refine nil ?_
              refine Run.slim [(132, .bool (x19 != x20)), (15, .int .i64 y8.1), (1, v1), (5, u3), (6, .int .i64 y5.1), (9, u8), (11, .int .i64 s3.1), (12, u14), (14, .int .i64 s4)] ⟨rfl, rfl, rfl, rfl, rfl, rfl, rfl, rfl, rfl, trivial⟩ ?_
              refine Run.slim [(1, v1), (5, u3), (6, .int .i64 y5.1), (9, u8), (11, .int .i64 s3.1), (12, u14), (14, .int .i64 s4), (15, .int .i64 y8.1), (132, .bool (x19 != x20))] ⟨rfl, rfl, rfl, rfl, rfl, rfl, rfl, rfl, rfl, trivial⟩ ?_
              exact hj3 (x19 != x20) _ _ ⟨rfl, (h101.facts (.atm (.s (.s (.s (.s (.s (.s (.s (.s (.s .z))))))))) (.atm (.s (.s (.s (.s (.s (.s (.s (.s (.s (.s .z)))))))))) (.atm (.s (.s (.s (.s (.s (.s (.s (.s (.s (.s (.s .z))))))))))) .nil)))).picks (.cons .z (.cons .z (.cons .z (.cons .z .nil))))⟩ hF
         ·
          refine Run.exit rfl ?_
          refine Run.endBlock ?_
          refine Run.reg ?_
          refine mv rfl rfl rfl ?_
          refine bin rfl rfl rfl rfl rfl ?_
          refine asg rfl rfl rfl ?_
          obtain ⟨x21, e55, hF⟩ := letP_use hF
          refine RunL.name e55 ?_
          refine nil ?_
          have h102 := h40.front (.cons (.s (.s .z)) (.cons (.s (.s .z)) (.cons (.s .z) .nil)))
          have h103 := St.sep h102
          have h104 := St.sep (h103.pick (.s .z))
          have h105 := St.ex (H := fun w1_ => .sep (.box 184 (monitor_Monitor.repW u15 w1_) u8 y7.2.2) (.sep (.slice 188 Filter_.rep u15 y7.2.2.filters) (.slice 49 (Rep.int .u16) w1_ y7.2.2.states))) u16 h104
          have h106 := St.ex (H := fun w0_ => .ex fun w1_ => .sep (.box 184 (monitor_Monitor.repW w0_ w1_) u8 y7.2.2) (.sep (.slice 188 Filter_.rep w0_ y7.2.2.filters) (.slice 49 (Rep.int .u16) w1_ y7.2.2.states))) u15 h105
          have h107 := St.some (H := (monitor_Monitor.mem u8)) (q := u8) (x := y7.2.2) h106
          refine Run.slim [(1, v1), (5, u3), (6, .int .i64 y5.1), (9, u8), (11, .int .i64 x21)] ⟨rfl, rfl, rfl, rfl, rfl, trivial⟩ ?_
          exact hk1 (x21, (some y7.2.2)) _ _ ⟨u8, rfl, (h107.facts (.atm .z (.atm (.s (.s .z)) .nil))).picks (.cons (.s .z) (.cons .z .nil))⟩ hF
       ·
        refine Run.exit rfl ?_
        refine sr ?_
        refine asg rfl rfl rfl ?_
        refine nil ?_
        refine Run.retP rfl (.tmp rfl .nil) ?_
        cases hF
        exact Post.mk' ⟨rfl, rfl, rfl, rfl⟩ (h27.picks .nil) .nil
     ·
      refine RunL.caseb hF (fun e56 hF => ?_) (fun e56 hF => ?_)
      ·
       refine pass rfl rfl rfl ?_
       refine pass rfl rfl rfl ?_
       refine pick rfl rfl rfl rfl ?_
       refine nil ?_
       refine Run.slim [(1, v1), (5, u3), (6, .int .i64 y5.1), (9, u7), (65, .bool true)] ⟨rfl, rfl, rfl, rfl, rfl, trivial⟩ ?_
       exact hj2 (true) _ _ ⟨rfl, (h25.facts (.atm (.s (.s (.s (.s (.s .z))))) (.atm (.s (.s (.s (.s (.s (.s .z)))))) .nil))).picks (.cons (.s .z) (.cons .z .nil))⟩ hF
      ·
       refine mv rfl rfl rfl ?_
       refine bin rfl rfl rfl rfl rfl ?_
       refine pick rfl rfl rfl rfl ?_
       refine nil ?_
       refine Run.slim [(1, v1), (5, u3), (6, .int .i64 y5.1), (9, u7), (65, .bool (y6.2 != 0))] ⟨rfl, rfl, rfl, rfl, rfl, trivial⟩ ?_
       exact hj2 (y6.2 != 0) _ _ ⟨rfl, (h25.facts (.atm (.s (.s (.s (.s (.s .z))))) (.atm (.s (.s (.s (.s (.s (.s .z)))))) .nil))).picks (.cons (.s .z) (.cons .z .nil))⟩ hF
  ·
   refine RunL.caseb hF (fun e57 hF => ?_) (fun e57 hF => ?_)
   ·
    refine pass rfl rfl rfl ?_
    refine pass rfl rfl rfl ?_
    refine pass rfl rfl rfl ?_
    refine pick rfl rfl rfl rfl ?_
    refine nil ?_
    refine Run.slim [(0, v0), (1, v1), (32, .bool true)] ⟨rfl, rfl, rfl, trivial⟩ ?_
    exact hj1 (true) _ _ ⟨rfl, (h4.facts (.atm .z (.atm (.s .z) (.atm (.s (.s .z)) .nil)))).picks .nil⟩ hF
   ·
    refine mv rfl rfl rfl ?_
    refine op (OpS.len h4 Tryz.underlying24 rfl rfl rfl (V.at (.s .z)) ?_)
    refine bin rfl rfl rfl rfl rfl ?_
    refine pick rfl rfl rfl rfl ?_
    refine nil ?_
    refine Run.slim [(0, v0), (1, v1), (32, .bool (decide ((a1.length : Int) > 60)))] ⟨rfl, rfl, rfl, trivial⟩ ?_
    exact hj1 (decide ((a1.length : Int) > 60)) _ _ ⟨rfl, (h4.facts (.atm .z (.atm (.s .z) (.atm (.s (.s .z)) .nil)))).picks .nil⟩ hF
end Lift
