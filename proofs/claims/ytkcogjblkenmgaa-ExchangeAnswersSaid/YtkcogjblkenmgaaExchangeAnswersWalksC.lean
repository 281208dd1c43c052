/- Each Go function computes its plain function. Written by lift.py. -/
import Derived.Test.YtkcogjblkenmgaaExchangeAnswersWalksB
set_option linter.unusedVariables false
set_option linter.unusedSimpArgs false
namespace Lift
open Go Go.Proofs
set_option maxHeartbeats 8000000 in
theorem ref24_Receive_ok {fuel : Nat} {a0 : Requester_} {a1 : List Int} {y : Requester_ × Message_ × Message_ × Bool} (hF : ref24_Receive fuel a0 a1 = some y) {w : World} {v0 v1 : Value} :
    Spec Try.prog 29 [v0, v1].toArray w [(false, .val Requester_.rep v0 a0), (false, .val (Rep.slice (Rep.int .u8)) v1 a1)] [] (fun v Γr Ωr Ωo => ∃ u0 u1 u2 : Value, v = .tuple #[u0, u1, u2, .bool y.2.2.2] ∧ Γr = [(true, .val Requester_.rep u0 y.1), (true, .val Message_.rep u1 y.2.1), (true, .val Message_.rep u2 y.2.2.1)] ∧ Ωr = [] ∧ Ωo = []) := by
  refine Spec.of (L := [(0, v0), (1, v1)]) Try.func29 rfl ⟨rfl, rfl, trivial⟩ rfl (fun e h => ?_)
  unfold ref24_Receive at hF
  refine Run.seq ?_
  refine Run.reg ?_
  refine RunL.op (OpS.boxF h rfl rfl rfl (V.at .z) (fun u1 w1 h1 => ?_))
  refine RunL.op (OpS.alloc h1 ti26 Requester_.zr rfl rfl (fun u2 w2 h2 => ?_))
  refine RunL.op (OpS.alloc h2 ti51 Message_.zr rfl rfl (fun u3 w3 h3 => ?_))
  refine RunL.op (OpS.alloc h3 ti51 Message_.zr rfl rfl (fun u4 w4 h4 => ?_))
  refine RunL.op (OpS.as rfl rfl rfl ?_)
  refine RunL.nil ?_
  refine Run.slim [(6, u4), (5, u3), (4, u2), (2, u1), (1, v1)] ⟨rfl, rfl, rfl, rfl, rfl, trivial⟩ ?_
  refine Run.seq ?_
  refine Run.reg ?_
  refine RunL.op (OpS.mv rfl rfl rfl ?_)
  obtain ⟨y1, e1, hF⟩ := bindP_use hF
  refine RunL.op (OpS.callP h4 Try.func47 rfl rfl rfl rfl (vs := [v1]) rfl (ref23_ParseResponse_ok e1) (.cons (f := false) (V.at (.s .z)) .nil) ?_)
  rintro _ w5 _ _ _ ⟨u5, rfl, rfl, rfl, rfl⟩ h5
  have h6 := h5 rfl rfl
  simp only [List.cons_append, List.nil_append] at h6
  refine RunL.op (OpS.mv rfl rfl rfl ?_)
  refine RunL.op (OpS.ext rfl rfl rfl rfl ?_)
  refine RunL.op (OpS.ext rfl rfl rfl rfl ?_)
  refine RunL.op (OpS.alloc h6 ti51 Message_.zr rfl rfl (fun u6 w6 h7 => ?_))
  refine RunL.op (OpS.storeB (f' := true) h7 .z PA.z Put.id ty51 rfl rfl rfl (V.at .z) (.inl rfl) (fun w7 h8 => ?_))
  refine RunL.op (OpS.as rfl rfl rfl ?_)
  refine RunL.nil ?_
  refine Run.slim [(9, .int .i64 y1.2), (8, u6), (6, u4), (5, u3), (4, u2), (2, u1)] ⟨rfl, rfl, rfl, rfl, rfl, rfl, trivial⟩ ?_
  refine Run.seq ?_
  refine Run.seq ?_
  refine Run.reg ?_
  refine RunL.op (OpS.mv rfl rfl rfl ?_)
  refine RunL.op (OpS.bin rfl rfl rfl rfl rfl ?_)
  refine RunL.op (OpS.mv rfl rfl rfl ?_)
  refine RunL.join (σ := Bool) (fun s_ L_ w_ => L_ = [(2, u1), (4, u2), (5, u3), (6, u4), (8, u6), (24, .bool s_)] ∧ St e w_ [] [(false, .box 26 Requester_.rep u1 a0), (true, .box 26 Requester_.rep u2 Requester_.z), (true, .box 51 Message_.rep u3 Message_.z), (true, .box 51 Message_.rep u4 Message_.z), (true, .box 51 Message_.rep u6 y1.1)]) hF (fun s1 _ w8 hI hF => ?_) (fun j1 hj1 hF => ?_)
  ·
    obtain ⟨rfl, h9⟩ := hI
    refine Run.ite rfl hF (fun e2 hF => ?_) (fun e2 hF => ?_)
    ·
      refine Run.seq ?_
      refine Run.reg ?_
      refine RunL.op (OpS.loadB h9 .z PA.z Get.id ty26 rfl rfl rfl (fun u7 h10 => ?_))
      obtain ⟨y2, e3, hF⟩ := bindP_use hF
      refine RunL.op (OpS.callP h10 Try.func40 rfl rfl rfl rfl (vs := [u7]) rfl (ref24_Copy_ok e3) (.cons (f := false) (V.at .z) .nil) ?_)
      rintro u8 w9 _ _ _ ⟨_, u9, rfl, rfl, rfl, rfl⟩ h11
      have h12 := h11 rfl rfl
      simp only [List.cons_append, List.nil_append] at h12
      refine RunL.op (OpS.build (f := true) (x' := Message_.z) h12 pl51 ti51 Message_.zr rfl rfl rfl .nil (fun u10 h13 => ?_))
      refine RunL.op (OpS.build (f := true) (x' := Message_.z) h13 pl51 ti51 Message_.zr rfl rfl rfl .nil (fun u11 h14 => ?_))
      refine RunL.op (OpS.storeC (f' := true) (fr := (Rep.iso (fun s : Requester_ => (s.Own, s.Next, s.Pending, ())) (Rep.prod (Rep.int .u8) (Rep.prod (Rep.int .i64) (Rep.prod (Rep.raw u9) Rep.unit))))) (r' := (Rep.iso (fun s : Requester_ => (s.Own, s.Next, s.Pending, ())) (Rep.prod (Rep.int .u8) (Rep.prod (Rep.int .i64) (Rep.prod (Rep.raw u9) Rep.unit))))) (x' := y2) h14 (.s (.s .z)) PA.z (Chg.id (by rfl)) (Ty.like ty26 (by rfl) (by rfl)) rfl rfl rfl (V.at (.s (.s .z))) (.inl rfl) (fun w10 h15 => ?_))
      refine RunL.op (OpS.storeB (f' := true) h15 (.s (.s (.s .z))) PA.z Put.id ty51 rfl rfl rfl (V.at (.s .z)) (.inl rfl) (fun w11 h16 => ?_))
      refine RunL.op (OpS.storeB (f' := true) h16 (.s (.s (.s (.s .z)))) PA.z Put.id ty51 rfl rfl rfl (V.at .z) (.inl rfl) (fun w12 h17 => ?_))
      refine RunL.op (OpS.as rfl rfl rfl ?_)
      refine RunL.nil ?_
      refine Run.slim [(7, .bool false), (4, u2), (5, u3), (6, u4)] ⟨rfl, rfl, rfl, rfl, trivial⟩ ?_
      obtain ⟨u12, hu1, h18⟩ := res_box h17 (.s (.s .z)) (Ty.like ty26 (by rfl) (by rfl))
      have h19 := (h18.pick (.s (.s (.s .z)))).freeze
      have h20 := h19.pick (.s (.s .z))
      have h21 := St.boxJ (r' := Requester_.rep) (x' := { y2 with Pending := y2.Pending }) h20 (fun _ _ hs_ => (Jn.iso _ (Jn.prod Jn.refl (Jn.prod Jn.refl (Jn.prod (Jn.raw ((V.at .z) _ _ hs_) rfl) Jn.refl)))))
      have h22 := St.addV (f := true) (r := Requester_.rep) (x := { y2 with Pending := y2.Pending }) h21 (V.jn (r := (Rep.iso (fun s : Requester_ => (s.Own, s.Next, s.Pending, ())) (Rep.prod (Rep.int .u8) (Rep.prod (Rep.int .i64) (Rep.prod (Rep.raw u9) Rep.unit))))) (x := y2) (V.at (.s .z)) rfl (fun _ _ hs_ => (Jn.iso _ (Jn.prod Jn.refl (Jn.prod Jn.refl (Jn.prod (Jn.raw ((V.at .z) _ _ hs_) rfl) Jn.refl))))))
      obtain ⟨u13, hu2, h23⟩ := res_box h22 (.s (.s .z)) ty51
      obtain ⟨u14, hu3, h24⟩ := res_box h23 (.s .z) ty51
      refine Run.retP rfl (.cell rfl hu1 (.cell rfl hu2 (.cell rfl hu3 (.tmp rfl .nil)))) ?_
      cases hF
      exact Post.mk' ⟨u12, u13, u14, rfl, rfl, rfl, rfl⟩ (h24.picks .nil) (.val (V.at (.s (.s .z))) (.val (V.at (.s .z)) (.val (V.at .z) .nil)))
    ·
      refine Run.skip ?_
      refine Run.seq ?_
      refine Run.reg ?_
      refine RunL.op (OpS.loadB h9 .z PA.z Get.id ty26 rfl rfl rfl (fun u15 h25 => ?_))
      obtain ⟨y3, e4, hF⟩ := bindP_use hF
      refine RunL.op (OpS.callP h25 Try.func40 rfl rfl rfl rfl (vs := [u15]) rfl (ref24_Copy_ok e4) (.cons (f := false) (V.at .z) .nil) ?_)
      rintro u16 w13 _ _ _ ⟨_, u17, rfl, rfl, rfl, rfl⟩ h26
      have h27 := h26 rfl rfl
      simp only [List.cons_append, List.nil_append] at h27
      refine RunL.op (OpS.alloc h27 ti26 Requester_.zr rfl rfl (fun u18 w14 h28 => ?_))
      refine RunL.op (OpS.storeC (f' := true) (fr := (Rep.iso (fun s : Requester_ => (s.Own, s.Next, s.Pending, ())) (Rep.prod (Rep.int .u8) (Rep.prod (Rep.int .i64) (Rep.prod (Rep.raw u17) Rep.unit))))) (r' := (Rep.iso (fun s : Requester_ => (s.Own, s.Next, s.Pending, ())) (Rep.prod (Rep.int .u8) (Rep.prod (Rep.int .i64) (Rep.prod (Rep.raw u17) Rep.unit))))) (x' := y3) h28 .z PA.z (Chg.id (by rfl)) (Ty.like ty26 (by rfl) (by rfl)) rfl rfl rfl (V.at .z) (.inl rfl) (fun w15 h29 => ?_))
      refine RunL.nil ?_
      refine Run.slim [(10, u18), (4, u2), (5, u3), (6, u4), (8, u6)] ⟨rfl, rfl, rfl, rfl, rfl, trivial⟩ ?_
      refine Run.seq ?_
      refine Run.seq ?_
      refine Run.reg ?_
      refine RunL.op (OpS.as rfl rfl rfl ?_)
      refine RunL.nil ?_
      refine Run.block ?_
      refine Run.slim [(4, u2), (5, u3), (6, u4), (8, u6), (10, u18), (11, .int .i64 0)] ⟨rfl, rfl, rfl, rfl, rfl, rfl, trivial⟩ ?_
      refine Run.loopP (σ := Int) (fun s_ L_ w_ => L_ = [(4, u2), (5, u3), (6, u4), (8, u6), (10, u18), (11, .int .i64 s_)] ∧ St e w_ [] [(true, .box 26 Requester_.rep u2 Requester_.z), (true, .box 51 Message_.rep u3 Message_.z), (true, .box 51 Message_.rep u4 Message_.z), (true, .box 51 Message_.rep u6 y1.1), (true, .box 26 (Rep.iso (fun s : Requester_ => (s.Own, s.Next, s.Pending, ())) (Rep.prod (Rep.int .u8) (Rep.prod (Rep.int .i64) (Rep.prod (Rep.raw u17) Rep.unit)))) u18 y3), (true, .slice 55 Pending_.rep u17 y3.Pending)]) hF ⟨rfl, (h29.facts .nil).picks (.cons (.s (.s (.s .z))) (.cons (.s (.s (.s .z))) (.cons (.s (.s (.s .z))) (.cons (.s (.s (.s .z))) (.cons .z (.cons .z .nil))))))⟩ (fun k1 hk1 s2 _ w16 hI hF => ?_)
      obtain ⟨rfl, h30⟩ := hI
      refine Run.seq ?_
      refine Run.seq ?_
      refine Run.reg ?_
      refine RunL.op (OpS.mv rfl rfl rfl ?_)
      refine RunL.op (OpS.fbox (o3 := 2) h30 (.s (.s (.s (.s .z)))) PA.z fa26_2 rfl rfl rfl rfl ?_)
      refine RunL.op (OpS.loadR h30 (.s (.s (.s (.s .z)))) PA.a (GetS.ok (GetS.iso _ (GetS.there (GetS.there (GetS.here GetS.id))))) ty24 rfl rfl rfl rfl rfl ?_)
      refine RunL.op (OpS.lenO h30 (.s (.s (.s (.s (.s .z))))) Try.underlying24 rfl rfl rfl ?_)
      refine RunL.op (OpS.bin rfl rfl rfl rfl rfl ?_)
      refine RunL.nil ?_
      refine Run.slim [(35, .bool (decide (s2 < (y3.Pending.length : Int)))), (4, u2), (5, u3), (6, u4), (8, u6), (10, u18), (11, .int .i64 s2)] ⟨rfl, rfl, rfl, rfl, rfl, rfl, rfl, trivial⟩ ?_
      refine Run.ite rfl hF (fun e5 hF => ?_) (fun e5 hF => ?_)
      ·
        refine Run.skip ?_
        refine Run.seq ?_
        refine Run.block ?_
        refine Run.seq ?_
        refine Run.reg ?_
        refine RunL.op (OpS.fbox (o3 := 2) h30 (.s (.s (.s (.s .z)))) PA.z fa26_2 rfl rfl rfl rfl ?_)
        refine RunL.op (OpS.loadR h30 (.s (.s (.s (.s .z)))) PA.a (GetS.ok (GetS.iso _ (GetS.there (GetS.there (GetS.here GetS.id))))) ty24 rfl rfl rfl rfl rfl ?_)
        refine RunL.op (OpS.mv rfl rfl rfl ?_)
        obtain ⟨x1, e6, hF⟩ := bindP_use hF
        refine RunL.op (OpS.iown h30 (.s (.s (.s (.s (.s .z))))) Try.underlying24 ty55 rfl rfl rfl rfl e6 ?_)
        refine RunL.op (OpS.loadO h30 (.s (.s (.s (.s (.s .z))))) (idx_ne e6) PA.a (Get.arr e6) ty55 rfl rfl rfl (fun u19 h31 => ?_))
        refine RunL.op (OpS.alloc h31 ti55 Pending_.zr rfl rfl (fun u20 w17 h32 => ?_))
        refine RunL.op (OpS.storeB (f' := true) h32 .z PA.z Put.id ty55 rfl rfl rfl (V.at .z) (.inl rfl) (fun w18 h33 => ?_))
        refine RunL.nil ?_
        refine Run.slim [(12, u20), (4, u2), (5, u3), (6, u4), (8, u6), (10, u18), (11, .int .i64 s2)] ⟨rfl, rfl, rfl, rfl, rfl, rfl, rfl, trivial⟩ ?_
        refine Run.seq ?_
        refine Run.reg ?_
        refine RunL.op (OpS.fbox (o3 := 0) h33 .z PA.z fa55_0 rfl rfl rfl rfl ?_)
        refine RunL.op (OpS.loadB h33 .z PA.a (Get.fld Pending_.f0) ty51 rfl rfl rfl (fun u21 h34 => ?_))
        refine RunL.op (OpS.loadB h34 (.s (.s (.s (.s .z)))) PA.z Get.id ty51 rfl rfl rfl (fun u22 h35 => ?_))
        obtain ⟨y4, e7, hF⟩ := bindP_use hF
        refine RunL.op (OpS.callP h35 Try.func48 rfl rfl rfl rfl (vs := [u21, u22]) rfl (ref23_Matches_ok e7) (.cons (f := true) (V.at (.s .z)) (.cons (f := true) (V.at .z) .nil)) ?_)
        rintro _ w19 _ _ _ ⟨rfl, rfl, rfl, rfl⟩ h36
        have h37 := h36 rfl rfl
        simp only [List.cons_append, List.nil_append] at h37
        refine RunL.nil ?_
        refine Run.slim [(46, .bool y4), (12, u20), (4, u2), (5, u3), (6, u4), (8, u6), (10, u18), (11, .int .i64 s2)] ⟨rfl, rfl, rfl, rfl, rfl, rfl, rfl, rfl, trivial⟩ ?_
        refine Run.ite rfl hF (fun e8 hF => ?_) (fun e8 hF => ?_)
        ·
          refine Run.seq ?_
          have h38 := (h37.pick (.s (.s (.s (.s (.s (.s .z))))))).freeze
          have h39 := h38.pick (.s (.s (.s (.s (.s .z)))))
          have h40 := St.boxJ (r' := Requester_.rep) (x' := { y3 with Pending := y3.Pending }) h39 (fun _ _ hs_ => (Jn.iso _ (Jn.prod Jn.refl (Jn.prod Jn.refl (Jn.prod (Jn.raw ((V.at .z) _ _ hs_) rfl) Jn.refl)))))
          obtain ⟨x2, e9, hF⟩ := bindP_use hF
          obtain ⟨x3, e10, hF⟩ := bindP_use hF
          obtain ⟨x4, e11, hF⟩ := bindP_use hF
          refine Run.drawV (Ωs := [(true, .box 55 Pending_.rep u20 x1), (true, .box 26 Requester_.rep u2 Requester_.z), (true, .box 51 Message_.rep u3 Message_.z), (true, .box 51 Message_.rep u4 Message_.z), (true, .box 51 Message_.rep u6 y1.1)]) [⟨some 47, some ((padd u18 2)), fun _ => [], fun ds_ u_ => [], [], [(0, [])], none⟩, ⟨some 48, none, fun u_ => [(true, .val (Rep.slice Pending_.rep) u_ (({ y3 with Pending := y3.Pending }).Pending))], fun ds_ u_ => [], [], [(0, [])], none⟩, ⟨some 49, some (.int .i64 s2), fun _ => [], fun ds_ u_ => [], [], [], none⟩, ⟨some 50, some (.int .i64 s2), fun _ => [], fun ds_ u_ => [], [], [], none⟩, ⟨some 51, none, fun u_ => [(true, .val (Rep.slice Pending_.rep) u_ x2), (true, .full u_)], fun ds_ u_ => [], [], [], none⟩, ⟨some 52, some ((padd u18 2)), fun _ => [], fun ds_ u_ => [], [], [(0, [])], none⟩, ⟨some 53, none, fun u_ => [(true, .val (Rep.slice Pending_.rep) u_ (({ y3 with Pending := y3.Pending }).Pending))], fun ds_ u_ => [], [], [(0, [])], none⟩, ⟨some 54, some (.int .i64 s2), fun _ => [], fun ds_ u_ => [], [], [], none⟩, ⟨some 55, some (.int .i64 (IntKind.i64.wrap (s2 + 1))), fun _ => [], fun ds_ u_ => [], [], [], none⟩, ⟨some 56, none, fun u_ => [(true, .val (Rep.slice Pending_.rep) u_ x3)], fun ds_ u_ => [], [], [], none⟩, ⟨some 57, none, fun u_ => [(true, .val (Rep.slice Pending_.rep) u_ x4)], fun ds_ u_ => [], [], [], none⟩] [[], [0], [], [], [1, 2, 3], [], [5], [], [7], [6, 8], [4, 9]] [[(true, .box 26 Requester_.rep u18 ({ y3 with Pending := y3.Pending }))]] [0, 1, 2, 3, 4, 5, 6, 7, 8, 9, 10, 11] Try_mixed rfl rfl rfl h40 (.cons ?_ (.cons ?_ (.cons ?_ (.cons ?_ (.cons ?_ (.cons ?_ (.cons ?_ (.cons ?_ (.cons ?_ (.cons ?_ (.cons ?_ .nil))))))))))) (fun q1 w hq1 h => ?_)
          · intro q1 w Γx Ωx h
            have h : St e w ([(true, .val (Rep.slice Pending_.rep) u17 y3.Pending), (true, .val Message_.rep u22 y1.1), (true, .val Message_.rep u21 x1.Request), (true, .val Pending_.rep u19 x1)] ++ Γx) ([(true, .box 26 Requester_.rep u18 ({ y3 with Pending := y3.Pending })), (true, .box 55 Pending_.rep u20 x1), (true, .box 26 Requester_.rep u2 Requester_.z), (true, .box 51 Message_.rep u3 Message_.z), (true, .box 51 Message_.rep u4 Message_.z), (true, .box 51 Message_.rep u6 y1.1)] ++ Ωx) := h
            refine OpS.fbox (o3 := 2) h .z PA.z fa26_2 rfl rfl rfl rfl ?_
            exact ⟨undef, rfl, trivial, h⟩
          · intro q1 w Γx Ωx h
            have h : St e w ([(true, .val (Rep.slice Pending_.rep) u17 y3.Pending), (true, .val Message_.rep u22 y1.1), (true, .val Message_.rep u21 x1.Request), (true, .val Pending_.rep u19 x1)] ++ Γx) ([(true, .box 26 Requester_.rep u18 ({ y3 with Pending := y3.Pending })), (true, .box 55 Pending_.rep u20 x1), (true, .box 26 Requester_.rep u2 Requester_.z), (true, .box 51 Message_.rep u3 Message_.z), (true, .box 51 Message_.rep u4 Message_.z), (true, .box 51 Message_.rep u6 y1.1)] ++ Ωx) := h
            refine OpS.loadB h .z PA.a (Get.fld Requester_.f2) ty24 rfl rfl rfl (fun u h46 => ?_)
            exact ⟨u, rfl, trivial, h46⟩
          · intro q1 w Γx Ωx h
            refine OpS.mv rfl rfl rfl ?_
            exact ⟨undef, rfl, trivial, h⟩
          · intro q1 w Γx Ωx h
            refine OpS.mv rfl rfl rfl ?_
            exact ⟨undef, rfl, trivial, h⟩
          · intro q1 w Γx Ωx h
            refine OpS.sub3F h Try.underlying24 ty55 rfl rfl rfl rfl rfl rfl (V.at .z) e9 (fun u h47 => ?_)
            exact ⟨u, rfl, trivial, h47⟩
          · intro q1 w Γx Ωx h
            have h : St e w ([(true, .val (Rep.slice Pending_.rep) u17 y3.Pending), (true, .val Message_.rep u22 y1.1), (true, .val Message_.rep u21 x1.Request), (true, .val Pending_.rep u19 x1)] ++ Γx) ([(true, .box 26 Requester_.rep u18 ({ y3 with Pending := y3.Pending })), (true, .box 55 Pending_.rep u20 x1), (true, .box 26 Requester_.rep u2 Requester_.z), (true, .box 51 Message_.rep u3 Message_.z), (true, .box 51 Message_.rep u4 Message_.z), (true, .box 51 Message_.rep u6 y1.1)] ++ Ωx) := h
            refine OpS.fbox (o3 := 2) h .z PA.z fa26_2 rfl rfl rfl rfl ?_
            exact ⟨undef, rfl, trivial, h⟩
          · intro q1 w Γx Ωx h
            have h : St e w ([(true, .val (Rep.slice Pending_.rep) u17 y3.Pending), (true, .val Message_.rep u22 y1.1), (true, .val Message_.rep u21 x1.Request), (true, .val Pending_.rep u19 x1)] ++ Γx) ([(true, .box 26 Requester_.rep u18 ({ y3 with Pending := y3.Pending })), (true, .box 55 Pending_.rep u20 x1), (true, .box 26 Requester_.rep u2 Requester_.z), (true, .box 51 Message_.rep u3 Message_.z), (true, .box 51 Message_.rep u4 Message_.z), (true, .box 51 Message_.rep u6 y1.1)] ++ Ωx) := h
            refine OpS.loadB h .z PA.a (Get.fld Requester_.f2) ty24 rfl rfl rfl (fun u h48 => ?_)
            exact ⟨u, rfl, trivial, h48⟩
          · intro q1 w Γx Ωx h
            refine OpS.mv rfl rfl rfl ?_
            exact ⟨undef, rfl, trivial, h⟩
          · intro q1 w Γx Ωx h
            refine OpS.bin rfl rfl rfl rfl rfl ?_
            exact ⟨undef, rfl, trivial, h⟩
          · intro q1 w Γx Ωx h
            refine OpS.sub h Try.underlying24 ty55 rfl rfl rfl rfl rfl (V.at .z) e10 (fun u h49 => ?_)
            exact ⟨u, rfl, trivial, h49⟩
          · intro q1 w Γx Ωx h
            refine OpS.appF (f := true) (f' := true) (f3 := true) h (V.at .z) (.s .z) rfl Try.underlying24 ti55 rfl rfl rfl rfl rfl rfl rfl (V.at (.s (.s .z))) e11 (fun u w21 h50 => ?_)
            exact ⟨u, rfl, trivial, h50⟩
          have h51 : St e w [(true, .val (Rep.slice Pending_.rep) (q1 1) (({ y3 with Pending := y3.Pending }).Pending)), (true, .val (Rep.slice Pending_.rep) (q1 4) x2), (true, .full (q1 4)), (true, .val (Rep.slice Pending_.rep) (q1 6) (({ y3 with Pending := y3.Pending }).Pending)), (true, .val (Rep.slice Pending_.rep) (q1 9) x3), (true, .val (Rep.slice Pending_.rep) (q1 10) x4), (true, .val (Rep.slice Pending_.rep) u17 y3.Pending), (true, .val Message_.rep u22 y1.1), (true, .val Message_.rep u21 x1.Request), (true, .val Pending_.rep u19 x1)] [(true, .box 26 Requester_.rep u18 ({ y3 with Pending := y3.Pending })), (true, .box 55 Pending_.rep u20 x1), (true, .box 26 Requester_.rep u2 Requester_.z), (true, .box 51 Message_.rep u3 Message_.z), (true, .box 51 Message_.rep u4 Message_.z), (true, .box 51 Message_.rep u6 y1.1)] := h
          refine RunL.op (OpS.fbox (o3 := 2) h51 .z PA.z fa26_2 rfl rfl rfl rfl ?_)
          obtain ⟨d1, e12, hF⟩ := letP_use hF
          refine RunL.op (OpS.storeB (f' := true) h51 .z PA.a (Put.of (Put.fld Requester_.f2) e12) ty24 rfl rfl rfl (V.at (.s (.s (.s (.s (.s .z)))))) (.inl rfl) (fun w22 h52 => ?_))
          refine RunL.nil ?_
          refine Run.slim [(12, u20), (4, u2), (5, u3), (6, u4), (8, u6), (10, u18)] ⟨rfl, rfl, rfl, rfl, rfl, rfl, trivial⟩ ?_
          refine Run.seq ?_
          have h53 := h52.picks (.cons .z (.cons .z (.cons .z (.cons .z (.cons (.s .z) (.cons .z .nil))))))
          refine Run.drawV (Ωs := [(true, .box 51 Message_.rep u4 Message_.z)]) [⟨some 59, none, fun u_ => [(true, .val Requester_.rep u_ d1)], fun ds_ u_ => [], [], [(0, [])], none⟩, ⟨some 60, some ((padd u20 0)), fun _ => [], fun ds_ u_ => [], [], [(1, [])], none⟩, ⟨some 61, none, fun u_ => [(true, .val Message_.rep u_ x1.Request)], fun ds_ u_ => [], [], [(1, [])], none⟩, ⟨some 62, none, fun u_ => [(true, .val Message_.rep u_ y1.1)], fun ds_ u_ => [], [], [(4, [])], none⟩, ⟨none, some undef, fun _ => [], fun ds_ u_ => [(true, .box 26 Requester_.rep u2 d1)], [2], [], none⟩, ⟨none, some undef, fun _ => [], fun ds_ u_ => [(true, .box 51 Message_.rep u3 x1.Request)], [3], [], none⟩] [[], [], [1], [], [0], [2]] [[(true, .box 26 Requester_.rep u18 d1)], [(true, .box 55 Pending_.rep u20 x1)], [(true, .box 26 Requester_.rep u2 Requester_.z)], [(true, .box 51 Message_.rep u3 Message_.z)], [(true, .box 51 Message_.rep u6 y1.1)]] [0, 1, 4, 5, 6, 7, 8, 9, 10] Try_mixed rfl rfl rfl h53 (.cons ?_ (.cons ?_ (.cons ?_ (.cons ?_ (.cons ?_ (.cons ?_ .nil)))))) (fun q2 w hq2 h => ?_)
          · intro q2 w Γx Ωx h
            have h : St e w ([(true, .val (Rep.slice Pending_.rep) (q1 1) (({ y3 with Pending := y3.Pending }).Pending)), (true, .val (Rep.slice Pending_.rep) (q1 4) x2), (true, .full (q1 4)), (true, .val (Rep.slice Pending_.rep) (q1 6) (({ y3 with Pending := y3.Pending }).Pending)), (true, .val (Rep.slice Pending_.rep) (q1 9) x3), (true, .val (Rep.slice Pending_.rep) (q1 10) x4), (true, .val (Rep.slice Pending_.rep) u17 y3.Pending), (true, .val Message_.rep u22 y1.1), (true, .val Message_.rep u21 x1.Request), (true, .val Pending_.rep u19 x1)] ++ Γx) ([(true, .box 26 Requester_.rep u18 d1), (true, .box 51 Message_.rep u4 Message_.z)] ++ Ωx) := h
            refine OpS.loadB h .z PA.z Get.id ty26 rfl rfl rfl (fun u h59 => ?_)
            exact ⟨u, rfl, trivial, h59⟩
          · intro q2 w Γx Ωx h
            have h : St e w ([(true, .val (Rep.slice Pending_.rep) (q1 1) (({ y3 with Pending := y3.Pending }).Pending)), (true, .val (Rep.slice Pending_.rep) (q1 4) x2), (true, .full (q1 4)), (true, .val (Rep.slice Pending_.rep) (q1 6) (({ y3 with Pending := y3.Pending }).Pending)), (true, .val (Rep.slice Pending_.rep) (q1 9) x3), (true, .val (Rep.slice Pending_.rep) (q1 10) x4), (true, .val (Rep.slice Pending_.rep) u17 y3.Pending), (true, .val Message_.rep u22 y1.1), (true, .val Message_.rep u21 x1.Request), (true, .val Pending_.rep u19 x1)] ++ Γx) ([(true, .box 55 Pending_.rep u20 x1), (true, .box 51 Message_.rep u4 Message_.z)] ++ Ωx) := h
            refine OpS.fbox (o3 := 0) h .z PA.z fa55_0 rfl rfl rfl rfl ?_
            exact ⟨undef, rfl, trivial, h⟩
          · intro q2 w Γx Ωx h
            have h : St e w ([(true, .val (Rep.slice Pending_.rep) (q1 1) (({ y3 with Pending := y3.Pending }).Pending)), (true, .val (Rep.slice Pending_.rep) (q1 4) x2), (true, .full (q1 4)), (true, .val (Rep.slice Pending_.rep) (q1 6) (({ y3 with Pending := y3.Pending }).Pending)), (true, .val (Rep.slice Pending_.rep) (q1 9) x3), (true, .val (Rep.slice Pending_.rep) (q1 10) x4), (true, .val (Rep.slice Pending_.rep) u17 y3.Pending), (true, .val Message_.rep u22 y1.1), (true, .val Message_.rep u21 x1.Request), (true, .val Pending_.rep u19 x1)] ++ Γx) ([(true, .box 55 Pending_.rep u20 x1), (true, .box 51 Message_.rep u4 Message_.z)] ++ Ωx) := h
            refine OpS.loadB h .z PA.a (Get.fld Pending_.f0) ty51 rfl rfl rfl (fun u h60 => ?_)
            exact ⟨u, rfl, trivial, h60⟩
          · intro q2 w Γx Ωx h
            have h : St e w ([(true, .val (Rep.slice Pending_.rep) (q1 1) (({ y3 with Pending := y3.Pending }).Pending)), (true, .val (Rep.slice Pending_.rep) (q1 4) x2), (true, .full (q1 4)), (true, .val (Rep.slice Pending_.rep) (q1 6) (({ y3 with Pending := y3.Pending }).Pending)), (true, .val (Rep.slice Pending_.rep) (q1 9) x3), (true, .val (Rep.slice Pending_.rep) (q1 10) x4), (true, .val (Rep.slice Pending_.rep) u17 y3.Pending), (true, .val Message_.rep u22 y1.1), (true, .val Message_.rep u21 x1.Request), (true, .val Pending_.rep u19 x1)] ++ Γx) ([(true, .box 51 Message_.rep u6 y1.1), (true, .box 51 Message_.rep u4 Message_.z)] ++ Ωx) := h
            refine OpS.loadB h .z PA.z Get.id ty51 rfl rfl rfl (fun u h61 => ?_)
            exact ⟨u, rfl, trivial, h61⟩
          · intro q2 w Γx Ωx h
            have h : St e w ([(true, .val Requester_.rep (q2 0) d1), (true, .val (Rep.slice Pending_.rep) (q1 1) (({ y3 with Pending := y3.Pending }).Pending)), (true, .val (Rep.slice Pending_.rep) (q1 4) x2), (true, .full (q1 4)), (true, .val (Rep.slice Pending_.rep) (q1 6) (({ y3 with Pending := y3.Pending }).Pending)), (true, .val (Rep.slice Pending_.rep) (q1 9) x3), (true, .val (Rep.slice Pending_.rep) (q1 10) x4), (true, .val (Rep.slice Pending_.rep) u17 y3.Pending), (true, .val Message_.rep u22 y1.1), (true, .val Message_.rep u21 x1.Request), (true, .val Pending_.rep u19 x1)] ++ Γx) ([(true, .box 26 Requester_.rep u2 Requester_.z), (true, .box 51 Message_.rep u4 Message_.z)] ++ Ωx) := h
            refine OpS.storeB (f' := true) h .z PA.z Put.id ty26 rfl rfl rfl (V.at .z) (.inl rfl) (fun w25 h62 => ?_)
            exact ⟨undef, trivial, trivial, h62⟩
          · intro q2 w Γx Ωx h
            have h : St e w ([(true, .val Message_.rep (q2 2) x1.Request), (true, .val (Rep.slice Pending_.rep) (q1 1) (({ y3 with Pending := y3.Pending }).Pending)), (true, .val (Rep.slice Pending_.rep) (q1 4) x2), (true, .full (q1 4)), (true, .val (Rep.slice Pending_.rep) (q1 6) (({ y3 with Pending := y3.Pending }).Pending)), (true, .val (Rep.slice Pending_.rep) (q1 9) x3), (true, .val (Rep.slice Pending_.rep) (q1 10) x4), (true, .val (Rep.slice Pending_.rep) u17 y3.Pending), (true, .val Message_.rep u22 y1.1), (true, .val Message_.rep u21 x1.Request), (true, .val Pending_.rep u19 x1)] ++ Γx) ([(true, .box 51 Message_.rep u3 Message_.z), (true, .box 51 Message_.rep u4 Message_.z)] ++ Ωx) := h
            refine OpS.storeB (f' := true) h .z PA.z Put.id ty51 rfl rfl rfl (V.at .z) (.inl rfl) (fun w26 h63 => ?_)
            exact ⟨undef, trivial, trivial, h63⟩
          have h64 : St e w [(true, .val Requester_.rep (q2 0) d1), (true, .val Message_.rep (q2 2) x1.Request), (true, .val Message_.rep (q2 3) y1.1), (true, .val (Rep.slice Pending_.rep) (q1 1) (({ y3 with Pending := y3.Pending }).Pending)), (true, .val (Rep.slice Pending_.rep) (q1 4) x2), (true, .full (q1 4)), (true, .val (Rep.slice Pending_.rep) (q1 6) (({ y3 with Pending := y3.Pending }).Pending)), (true, .val (Rep.slice Pending_.rep) (q1 9) x3), (true, .val (Rep.slice Pending_.rep) (q1 10) x4), (true, .val (Rep.slice Pending_.rep) u17 y3.Pending), (true, .val Message_.rep u22 y1.1), (true, .val Message_.rep u21 x1.Request), (true, .val Pending_.rep u19 x1)] [(true, .box 26 Requester_.rep u18 d1), (true, .box 55 Pending_.rep u20 x1), (true, .box 51 Message_.rep u6 y1.1), (true, .box 26 Requester_.rep u2 d1), (true, .box 51 Message_.rep u3 x1.Request), (true, .box 51 Message_.rep u4 Message_.z)] := h
          refine RunL.op (OpS.storeB (f' := true) h64 (.s (.s (.s (.s (.s .z))))) PA.z Put.id ty51 rfl rfl rfl (V.at (.s (.s .z))) (.inl rfl) (fun w27 h65 => ?_))
          refine RunL.op (OpS.as rfl rfl rfl ?_)
          refine RunL.nil ?_
          refine Run.slim [(7, .bool true), (4, u2), (5, u3), (6, u4)] ⟨rfl, rfl, rfl, rfl, trivial⟩ ?_
          obtain ⟨u23, hu4, h66⟩ := res_box h65 (.s (.s (.s (.s .z)))) ty26
          obtain ⟨u24, hu5, h67⟩ := res_box h66 (.s (.s (.s (.s (.s .z))))) ty51
          obtain ⟨u25, hu6, h68⟩ := res_box h67 .z ty51
          refine Run.retP rfl (.cell rfl hu4 (.cell rfl hu5 (.cell rfl hu6 (.tmp rfl .nil)))) ?_
          cases hF
          exact Post.mk' ⟨u23, u24, u25, rfl, rfl, rfl, rfl⟩ (h68.picks .nil) (.val (V.at (.s (.s .z))) (.val (V.at (.s .z)) (.val (V.at .z) .nil)))
        ·
          refine Run.skip ?_
          refine Run.endBlock ?_
          refine Run.reg ?_
          refine RunL.op (OpS.mv rfl rfl rfl ?_)
          refine RunL.op (OpS.bin rfl rfl rfl rfl rfl ?_)
          refine RunL.op (OpS.as rfl rfl rfl ?_)
          obtain ⟨x5, e13, hF⟩ := letP_use hF
          refine RunL.name e13 ?_
          refine RunL.nil ?_
          refine Run.slim [(11, .int .i64 x5), (4, u2), (5, u3), (6, u4), (8, u6), (10, u18)] ⟨rfl, rfl, rfl, rfl, rfl, rfl, trivial⟩ ?_
          refine Run.slim [(4, u2), (5, u3), (6, u4), (8, u6), (10, u18), (11, .int .i64 x5)] ⟨rfl, rfl, rfl, rfl, rfl, rfl, trivial⟩ ?_
          exact hk1 (x5) _ _ ⟨rfl, (h37.facts .nil).picks (.cons (.s .z) (.cons (.s .z) (.cons (.s .z) (.cons (.s .z) (.cons (.s .z) (.cons (.s .z) .nil))))))⟩ hF
      ·
        refine Run.exit rfl ?_
        refine Run.seq ?_
        refine Run.reg ?_
        refine RunL.op (OpS.loadB (fr := (Rep.iso (fun s : Requester_ => (s.Own, s.Next, s.Pending, ())) (Rep.prod (Rep.int .u8) (Rep.prod (Rep.int .i64) (Rep.prod (Rep.raw u17) Rep.unit))))) h30 (.s (.s (.s (.s .z)))) PA.z (GetS.ok GetS.id) (Ty.like ty26 (by rfl) (by rfl)) rfl rfl rfl (fun u26 h69 => ?_))
        refine RunL.op (OpS.build (f := true) (x' := Message_.z) h69 pl51 ti51 Message_.zr rfl rfl rfl .nil (fun u27 h70 => ?_))
        refine RunL.op (OpS.build (f := true) (x' := Message_.z) h70 pl51 ti51 Message_.zr rfl rfl rfl .nil (fun u28 h71 => ?_))
        refine RunL.op (OpS.storeC (f' := true) (fr := (Rep.iso (fun s : Requester_ => (s.Own, s.Next, s.Pending, ())) (Rep.prod (Rep.int .u8) (Rep.prod (Rep.int .i64) (Rep.prod (Rep.raw u17) Rep.unit))))) (r' := (Rep.iso (fun s : Requester_ => (s.Own, s.Next, s.Pending, ())) (Rep.prod (Rep.int .u8) (Rep.prod (Rep.int .i64) (Rep.prod (Rep.raw u17) Rep.unit))))) (x' := y3) h71 .z PA.z (Chg.id (by rfl)) (Ty.like ty26 (by rfl) (by rfl)) rfl rfl rfl (V.at (.s (.s .z))) (.inl rfl) (fun w28 h72 => ?_))
        refine RunL.op (OpS.storeB (f' := true) h72 (.s .z) PA.z Put.id ty51 rfl rfl rfl (V.at (.s .z)) (.inl rfl) (fun w29 h73 => ?_))
        refine RunL.op (OpS.storeB (f' := true) h73 (.s (.s .z)) PA.z Put.id ty51 rfl rfl rfl (V.at .z) (.inl rfl) (fun w30 h74 => ?_))
        refine RunL.op (OpS.as rfl rfl rfl ?_)
        refine RunL.nil ?_
        refine Run.slim [(7, .bool false), (4, u2), (5, u3), (6, u4)] ⟨rfl, rfl, rfl, rfl, trivial⟩ ?_
        obtain ⟨u29, hu7, h75⟩ := res_box h74 (.s (.s .z)) (Ty.like ty26 (by rfl) (by rfl))
        have h76 := (h75.pick (.s (.s (.s (.s (.s .z)))))).freeze
        have h77 := h76.pick (.s (.s .z))
        have h78 := St.boxJ (r' := Requester_.rep) (x' := { y3 with Pending := y3.Pending }) h77 (fun _ _ hs_ => (Jn.iso _ (Jn.prod Jn.refl (Jn.prod Jn.refl (Jn.prod (Jn.raw ((V.at .z) _ _ hs_) rfl) Jn.refl)))))
        have h79 := h78.pick (.s (.s (.s (.s .z))))
        have h80 := St.boxJ (r' := Requester_.rep) (x' := { y3 with Pending := y3.Pending }) h79 (fun _ _ hs_ => (Jn.iso _ (Jn.prod Jn.refl (Jn.prod Jn.refl (Jn.prod (Jn.raw ((V.at .z) _ _ hs_) rfl) Jn.refl)))))
        have h81 := St.addV (f := true) (r := Requester_.rep) (x := { y3 with Pending := y3.Pending }) h80 (V.jn (r := (Rep.iso (fun s : Requester_ => (s.Own, s.Next, s.Pending, ())) (Rep.prod (Rep.int .u8) (Rep.prod (Rep.int .i64) (Rep.prod (Rep.raw u17) Rep.unit))))) (x := y3) (V.at (.s .z)) rfl (fun _ _ hs_ => (Jn.iso _ (Jn.prod Jn.refl (Jn.prod Jn.refl (Jn.prod (Jn.raw ((V.at .z) _ _ hs_) rfl) Jn.refl))))))
        obtain ⟨u30, hu8, h82⟩ := res_box h81 (.s (.s (.s .z))) ty51
        obtain ⟨u31, hu9, h83⟩ := res_box h82 (.s (.s .z)) ty51
        refine Run.retP rfl (.cell rfl hu7 (.cell rfl hu8 (.cell rfl hu9 (.tmp rfl .nil)))) ?_
        cases hF
        exact Post.mk' ⟨u29, u30, u31, rfl, rfl, rfl, rfl⟩ (h83.picks .nil) (.val (V.at (.s (.s .z))) (.val (V.at (.s .z)) (.val (V.at .z) .nil)))
  ·
    refine RunL.caseb hF (fun e14 hF => ?_) (fun e14 hF => ?_)
    ·
      refine RunL.op (OpS.pass rfl rfl rfl ?_)
      refine RunL.op (OpS.pass rfl rfl rfl ?_)
      refine RunL.op (OpS.pass rfl rfl rfl ?_)
      refine RunL.op (OpS.pick rfl rfl rfl rfl ?_)
      refine RunL.nil ?_
      refine Run.slim [(24, .bool true), (8, u6), (6, u4), (5, u3), (4, u2), (2, u1)] ⟨rfl, rfl, rfl, rfl, rfl, rfl, trivial⟩ ?_
      refine Run.slim [(2, u1), (4, u2), (5, u3), (6, u4), (8, u6), (24, .bool true)] ⟨rfl, rfl, rfl, rfl, rfl, rfl, trivial⟩ ?_
      exact hj1 (true) _ _ ⟨rfl, (h8.facts .nil).picks (.cons (.s (.s (.s (.s .z)))) (.cons (.s (.s (.s .z))) (.cons (.s (.s .z)) (.cons (.s .z) (.cons .z .nil)))))⟩ hF
    ·
      refine RunL.op (OpS.loadB h8 (.s (.s (.s (.s .z)))) PA.z Get.id ty26 rfl rfl rfl (fun u32 h84 => ?_))
      obtain ⟨y5, e15, hF⟩ := bindP_use hF
      refine RunL.op (OpS.callP h84 Try.func20 rfl rfl rfl rfl (vs := [u32]) rfl (ref24_Valid_ok e15) (.cons (f := false) (V.at .z) .nil) ?_)
      rintro _ w31 _ _ _ ⟨rfl, rfl, rfl, rfl⟩ h85
      have h86 := h85 rfl rfl
      simp only [List.cons_append, List.nil_append] at h86
      refine RunL.op (OpS.not rfl rfl rfl ?_)
      refine RunL.op (OpS.pick rfl rfl rfl rfl ?_)
      refine RunL.nil ?_
      refine Run.slim [(24, .bool (!y5)), (8, u6), (6, u4), (5, u3), (4, u2), (2, u1)] ⟨rfl, rfl, rfl, rfl, rfl, rfl, trivial⟩ ?_
      refine Run.slim [(2, u1), (4, u2), (5, u3), (6, u4), (8, u6), (24, .bool (!y5))] ⟨rfl, rfl, rfl, rfl, rfl, rfl, trivial⟩ ?_
      exact hj1 (!y5) _ _ ⟨rfl, (h86.facts .nil).picks (.cons (.s (.s (.s (.s .z)))) (.cons (.s (.s (.s .z))) (.cons (.s (.s .z)) (.cons (.s .z) (.cons .z .nil)))))⟩ hF
set_option maxHeartbeats 8000000 in
theorem law24_play_ok {fuel : Nat} {a0 : field_Codes} {a1 : Int} {y : Requester_ × Int × field_Codes} (hF : law24_play fuel a0 a1 = some y) {w : World} {v0 : Value} :
    Spec Try.prog 13 [v0, .int .i64 a1].toArray w [] [(false, .box 72 field_Codes.rep v0 a0)] (fun v Γr Ωr Ωo => ∃ u0 : Value, v = .tuple #[u0, .int .i64 y.2.1] ∧ Γr = [(true, .val Requester_.rep u0 y.1)] ∧ Ωr = [] ∧ Ωo = [(false, .box 72 field_Codes.rep v0 y.2.2)]) := by
  refine Spec.of (L := [(0, v0), (1, .int .i64 a1)]) Try.func13 rfl ⟨rfl, rfl, trivial⟩ rfl (fun e h => ?_)
  unfold law24_play at hF
  refine Run.seq ?_
  refine Run.reg ?_
  refine RunL.op (OpS.alloc h ti26 Requester_.zr rfl rfl (fun u1 w1 h1 => ?_))
  refine RunL.op (OpS.as rfl rfl rfl ?_)
  refine RunL.nil ?_
  refine Run.slim [(4, u1), (0, v0), (1, .int .i64 a1)] ⟨rfl, rfl, rfl, trivial⟩ ?_
  refine Run.seq ?_
  refine Run.reg ?_
  obtain ⟨y1, e1, hF⟩ := bindP_use hF
  refine RunL.op (OpS.callP h1 Try.func15 rfl rfl rfl rfl (vs := [.int .u8 32]) rfl (ref24_New_ok e1) .nil ?_)
  rintro _ w2 _ _ _ ⟨u2, rfl, rfl, rfl, rfl⟩ h2
  have h3 := h2 rfl rfl
  simp only [List.cons_append, List.nil_append] at h3
  refine RunL.op (OpS.mv rfl rfl rfl ?_)
  refine RunL.op (OpS.ext rfl rfl rfl rfl ?_)
  refine RunL.op (OpS.ext rfl rfl rfl rfl ?_)
  refine RunL.op (OpS.alloc h3 ti26 Requester_.zr rfl rfl (fun u3 w3 h4 => ?_))
  refine RunL.op (OpS.storeB (f' := true) h4 .z PA.z Put.id ty26 rfl rfl rfl (V.at .z) (.inl rfl) (fun w4 h5 => ?_))
  refine RunL.op (OpS.as rfl rfl rfl ?_)
  refine RunL.nil ?_
  refine Run.slim [(6, u3), (4, u1), (0, v0), (1, .int .i64 a1)] ⟨rfl, rfl, rfl, rfl, trivial⟩ ?_
  refine Run.seq ?_
  refine Run.reg ?_
  refine RunL.op (OpS.as rfl rfl rfl ?_)
  refine RunL.nil ?_
  refine Run.seq ?_
  refine Run.seq ?_
  refine Run.reg ?_
  refine RunL.op (OpS.mv rfl rfl rfl ?_)
  refine RunL.op (OpS.mv rfl rfl rfl ?_)
  refine RunL.op (OpS.bin rfl rfl rfl rfl rfl ?_)
  obtain ⟨y2, e2, hF⟩ := bindP_use hF
  have h6 := h5.front (.cons (.s (.s .z)) .nil)
  refine RunL.op (OpS.callO h6 Try.func14 rfl rfl rfl rfl (vs := [v0, .int .i64 (IntKind.i64.wrap (a1 + 1))]) rfl (field_Codes_Next_ok e2) rfl .nil ?_)
  rintro _ w5 _ _ _ ⟨rfl, rfl, rfl, rfl⟩ h7
  have h8 := h7
  simp only [List.cons_append, List.nil_append] at h8
  refine RunL.op (OpS.as rfl rfl rfl ?_)
  refine RunL.nil ?_
  refine Run.slim [(9, .int .i64 y2.1), (8, .int .i64 0), (6, u3), (4, u1), (0, v0)] ⟨rfl, rfl, rfl, rfl, rfl, trivial⟩ ?_
  refine Run.block ?_
  refine Run.slim [(0, v0), (4, u1), (6, u3), (8, .int .i64 0), (9, .int .i64 y2.1)] ⟨rfl, rfl, rfl, rfl, rfl, trivial⟩ ?_
  refine Run.loopP (σ := (Int × Int × field_Codes × Requester_)) (fun s_ L_ w_ => L_ = [(0, v0), (4, u1), (6, u3), (8, .int .i64 s_.1), (9, .int .i64 s_.2.1)] ∧ St e w_ [] [(false, .box 72 field_Codes.rep v0 s_.2.2.1), (true, .box 26 Requester_.rep u1 Requester_.z), (true, .box 26 Requester_.rep u3 s_.2.2.2)]) hF ⟨rfl, (h8.facts .nil).picks (.cons .z (.cons (.s .z) (.cons .z .nil)))⟩ (fun k1 hk1 s1 _ w6 hI hF => ?_)
  obtain ⟨rfl, h9⟩ := hI
  refine Run.seq ?_
  refine Run.seq ?_
  refine Run.reg ?_
  refine RunL.op (OpS.mv rfl rfl rfl ?_)
  refine RunL.op (OpS.bin rfl rfl rfl rfl rfl ?_)
  refine RunL.nil ?_
  refine Run.slim [(26, .bool (decide (s1.2.1 > 0))), (0, v0), (4, u1), (6, u3), (8, .int .i64 s1.1), (9, .int .i64 s1.2.1)] ⟨rfl, rfl, rfl, rfl, rfl, rfl, trivial⟩ ?_
  refine Run.ite rfl hF (fun e3 hF => ?_) (fun e3 hF => ?_)
  ·
    refine Run.skip ?_
    refine Run.seq ?_
    refine Run.block ?_
    refine Run.seq ?_
    refine Run.reg ?_
    refine RunL.op (OpS.mv rfl rfl rfl ?_)
    obtain ⟨y3, e4, hF⟩ := bindP_use hF
    have h10 := h9.front (.cons .z .nil)
    refine RunL.op (OpS.callO h10 Try.func14 rfl rfl rfl rfl (vs := [v0, .int .i64 4]) rfl (field_Codes_Next_ok e4) rfl .nil ?_)
    rintro _ w7 _ _ _ ⟨rfl, rfl, rfl, rfl⟩ h11
    have h12 := h11
    simp only [List.cons_append, List.nil_append] at h12
    refine RunL.nil ?_
    refine Run.slim [(30, .int .i64 y3.1), (0, v0), (4, u1), (6, u3), (8, .int .i64 s1.1), (9, .int .i64 s1.2.1)] ⟨rfl, rfl, rfl, rfl, rfl, rfl, trivial⟩ ?_
    refine Run.block ?_
    refine Run.seq ?_
    refine Run.seq ?_
    refine Run.reg ?_
    refine RunL.op (OpS.bin rfl rfl rfl rfl rfl ?_)
    refine RunL.op (OpS.as rfl rfl rfl ?_)
    obtain ⟨x1, e5, hF⟩ := letP_use hF
    refine RunL.nameb e5 ?_
    refine RunL.nil ?_
    refine Run.slim [(31, .bool x1), (30, .int .i64 y3.1), (0, v0), (4, u1), (6, u3), (8, .int .i64 s1.1), (9, .int .i64 s1.2.1)] ⟨rfl, rfl, rfl, rfl, rfl, rfl, rfl, trivial⟩ ?_
    refine Run.join (σ := Bool) (fun s_ L_ w_ => L_ = [(0, v0), (4, u1), (6, u3), (8, .int .i64 s1.1), (9, .int .i64 s1.2.1), (30, .int .i64 y3.1), (31, .bool s_)] ∧ St e w_ [] [(false, .box 72 field_Codes.rep v0 y3.2), (true, .box 26 Requester_.rep u1 Requester_.z), (true, .box 26 Requester_.rep u3 s1.2.2.2)]) hF (fun s2 _ w8 hI hF => ?_) (fun j1 hj1 hF => ?_)
    ·
      obtain ⟨rfl, h13⟩ := hI
      refine Run.ite rfl hF (fun e6 hF => ?_) (fun e6 hF => ?_)
      ·
        refine Run.seq ?_
        have h14 := h13.picks (.cons .z (.cons (.s .z) (.cons .z .nil)))
        obtain ⟨y4, e7, hF⟩ := bindP_use hF
        obtain ⟨x2, e8, hF⟩ := bindP_use hF
        obtain ⟨y5, e9, hF⟩ := bindP_use hF
        obtain ⟨y6, e10, hF⟩ := bindP_use hF
        obtain ⟨y7, e11, hF⟩ := bindP_use hF
        refine Run.drawV (Ωs := [(true, .box 26 Requester_.rep u1 Requester_.z)]) [⟨some 35, none, fun u_ => [(true, .val Requester_.rep u_ s1.2.2.2)], fun ds_ u_ => [], [], [(1, [])], none⟩, ⟨some 36, none, fun u_ => [(true, .val (Rep.slice (Rep.int .u8)) u_ ([64, 65]))], fun ds_ u_ => [], [], [], none⟩, ⟨some 37, some (v0), fun _ => [], fun ds_ u_ => [], [], [], none⟩, ⟨some 38, some (.int .i64 y4.1), fun _ => [], fun ds_ u_ => [(false, .box 72 field_Codes.rep v0 y4.2)], [0], [], none⟩, ⟨some 39, none, fun u_ => [(true, .ptr (Rep.int .u8) u_ x2)], fun ds_ u_ => [], [], [], none⟩, ⟨some 40, some (.int .u8 x2), fun _ => [], fun ds_ u_ => [], [], [], none⟩, ⟨some 41, some (v0), fun _ => [], fun ds_ u_ => [], [], [], none⟩, ⟨some 42, some (.int .i64 y5.1), fun _ => [], fun ds_ u_ => [(false, .box 72 field_Codes.rep v0 y5.2)], [5], [], none⟩, ⟨some 43, some (.int .u8 (IntKind.u8.wrap y5.1)), fun _ => [], fun ds_ u_ => [], [], [], none⟩, ⟨some 44, some (v0), fun _ => [], fun ds_ u_ => [], [], [], none⟩, ⟨some 45, none, fun u_ => [(true, .val (Rep.slice (Rep.int .u8)) u_ y6.1)], fun ds_ u_ => [(false, .box 72 field_Codes.rep v0 y6.2)], [9], [], none⟩, ⟨some 46, some (.int .i64 s1.1), fun _ => [], fun ds_ u_ => [], [], [], none⟩, ⟨some 47, none, fun u_ => [(true, .eqv u_ (.tuple #[(tcomp u_ 0), (tcomp u_ 1), .int .i64 y7.2.2])), (true, .val Requester_.rep (tcomp u_ 0) y7.1), (true, .val (Rep.slice (Rep.int .u8)) (tcomp u_ 1) y7.2.1)], fun ds_ u_ => [], [], [], none⟩, ⟨some 34, none, fun u_ => [(true, .eqv u_ (.tuple #[(tcomp u_ 0), (tcomp u_ 1), .int .i64 y7.2.2])), (true, .val Requester_.rep (tcomp u_ 0) y7.1), (true, .val (Rep.slice (Rep.int .u8)) (tcomp u_ 1) y7.2.1)], fun ds_ u_ => [], [], [], none⟩, ⟨some 48, none, fun u_ => [(true, .val Requester_.rep u_ y7.1)], fun ds_ u_ => [], [], [], none⟩, ⟨some 49, none, fun u_ => [(true, .val (Rep.slice (Rep.int .u8)) u_ y7.2.1)], fun ds_ u_ => [], [], [], none⟩, ⟨some 50, some (.int .i64 y7.2.2), fun _ => [], fun ds_ u_ => [], [], [], none⟩, ⟨some 10, none, fun u_ => [], fun ds_ u_ => [(true, .box 26 Requester_.rep u_ Requester_.z)], [], [], none⟩, ⟨none, some undef, fun _ => [], fun ds_ u_ => [(true, .box 26 Requester_.rep (nth ds_ 0) y7.1)], [19], [], none⟩, ⟨some 11, none, fun u_ => [(true, .val (Rep.slice (Rep.int .u8)) u_ y7.2.1)], fun ds_ u_ => [], [], [], none⟩] [[], [], [], [2], [1, 3], [4], [], [6], [7], [], [9], [], [0, 5, 8, 10, 11], [12], [13], [13], [13], [], [17, 14], [15]] [[(false, .box 72 field_Codes.rep v0 y3.2)], [(true, .box 26 Requester_.rep u3 s1.2.2.2)]] [1, 2, 3, 4, 6, 7, 8, 10, 11, 12, 13, 14, 15, 16, 17, 18, 20, 21] Try_mixed rfl rfl rfl h14 (.cons ?_ (.cons ?_ (.cons ?_ (.cons ?_ (.cons ?_ (.cons ?_ (.cons ?_ (.cons ?_ (.cons ?_ (.cons ?_ (.cons ?_ (.cons ?_ (.cons ?_ (.cons ?_ (.cons ?_ (.cons ?_ (.cons ?_ (.cons ?_ (.cons ?_ (.cons ?_ .nil)))))))))))))))))))) (fun q1 w hq1 h => ?_)
        · intro q1 w Γx Ωx h
          have h : St e w ([] ++ Γx) ([(true, .box 26 Requester_.rep u3 s1.2.2.2), (true, .box 26 Requester_.rep u1 Requester_.z)] ++ Ωx) := h
          refine OpS.loadB h .z PA.z Get.id ty26 rfl rfl rfl (fun u h32 => ?_)
          exact ⟨u, rfl, trivial, h32⟩
        · intro q1 w Γx Ωx h
          refine OpS.lit (r := (Rep.int .u8)) (f := true) h Try.underlying22 ti5 rfl rfl rfl rfl rfl (.cons rfl V.int (.cons rfl V.int .nil)) rfl rfl (fun u w16 h33 => ?_)
          exact ⟨u, rfl, trivial, h33⟩
        · intro q1 w Γx Ωx h
          refine OpS.mv rfl rfl rfl ?_
          exact ⟨undef, rfl, trivial, h⟩
        · intro q1 w Γx Ωx h
          have h : St e w ([] ++ Γx) ([(false, .box 72 field_Codes.rep v0 y3.2), (true, .box 26 Requester_.rep u1 Requester_.z)] ++ Ωx) := h
          have h34 := h.front (.cons .z .nil)
          refine OpS.callO h34 Try.func14 rfl rfl rfl rfl (vs := [v0, .int .i64 2]) rfl (field_Codes_Next_ok e7) rfl .nil ?_
          rintro _ w17 _ _ _ ⟨rfl, rfl, rfl, rfl⟩ h35
          have h36 := h35
          simp only [List.cons_append, List.nil_append] at h36
          exact ⟨undef, rfl, trivial, h36⟩
        · intro q1 w Γx Ωx h
          refine OpS.iptr h Try.underlying22 ty5 rfl rfl rfl rfl (V.at .z) e8 (fun u h37 => ?_)
          exact ⟨u, rfl, trivial, h37⟩
        · intro q1 w Γx Ωx h
          refine OpS.loadi h ty5 rfl rfl rfl .z ?_
          exact ⟨undef, rfl, trivial, h⟩
        · intro q1 w Γx Ωx h
          refine OpS.mv rfl rfl rfl ?_
          exact ⟨undef, rfl, trivial, h⟩
        · intro q1 w Γx Ωx h
          have h : St e w ([] ++ Γx) ([(false, .box 72 field_Codes.rep v0 y4.2), (true, .box 26 Requester_.rep u1 Requester_.z)] ++ Ωx) := h
          have h38 := h.front (.cons .z .nil)
          refine OpS.callO h38 Try.func14 rfl rfl rfl rfl (vs := [v0, .int .i64 3]) rfl (field_Codes_Next_ok e9) rfl .nil ?_
          rintro _ w18 _ _ _ ⟨rfl, rfl, rfl, rfl⟩ h39
          have h40 := h39
          simp only [List.cons_append, List.nil_append] at h40
          exact ⟨undef, rfl, trivial, h40⟩
        · intro q1 w Γx Ωx h
          refine OpS.conv Try.underlying3 Try.underlying5 rfl rfl rfl ?_
          exact ⟨undef, rfl, trivial, h⟩
        · intro q1 w Γx Ωx h
          refine OpS.mv rfl rfl rfl ?_
          exact ⟨undef, rfl, trivial, h⟩
        · intro q1 w Γx Ωx h
          have h : St e w ([] ++ Γx) ([(false, .box 72 field_Codes.rep v0 y5.2), (true, .box 26 Requester_.rep u1 Requester_.z)] ++ Ωx) := h
          have h41 := h.front (.cons .z .nil)
          refine OpS.callO h41 Try.func26 rfl rfl rfl rfl (vs := [v0, .int .i64 2]) rfl (field_Codes_Bytes_ok e10) rfl .nil ?_
          rintro u w19 _ _ _ ⟨_, rfl, rfl, rfl, rfl⟩ h42
          have h43 := h42
          simp only [List.cons_append, List.nil_append] at h43
          have h44 := h43.freeze
          exact ⟨u, rfl, trivial, h44⟩
        · intro q1 w Γx Ωx h
          refine OpS.mv rfl rfl rfl ?_
          exact ⟨undef, rfl, trivial, h⟩
        · intro q1 w Γx Ωx h
          refine OpS.callP h Try.func21 rfl rfl rfl rfl (vs := [(q1 0), .int .u8 x2, .int .u8 6, .int .u8 (IntKind.u8.wrap y5.1), (q1 10), .int .i64 s1.1]) rfl (ref24_Send_ok e11) (.cons (f := true) (V.at .z) (.cons (f := true) (V.at (.s .z)) .nil)) ?_
          rintro _ w20 _ _ _ ⟨u6, u7, rfl, rfl, rfl, rfl⟩ h45
          have h46 := h45 rfl rfl
          simp only [List.cons_append, List.nil_append] at h46
          exact ⟨_, rfl, trivial, St.eqv rfl h46⟩
        · intro q1 w Γx Ωx h
          refine OpS.mv rfl rfl rfl ?_
          exact ⟨_, rfl, trivial, (((h.dup (.s (.s .z))).dup (.s (.s .z))).dup (.s (.s .z)))⟩
        · intro q1 w Γx Ωx h
          refine OpS.extT h .z rfl rfl rfl rfl ?_
          exact ⟨_, rfl, trivial, (h.dup (.s .z))⟩
        · intro q1 w Γx Ωx h
          refine OpS.extT h .z rfl rfl rfl rfl ?_
          exact ⟨_, rfl, trivial, (h.dup (.s (.s .z)))⟩
        · intro q1 w Γx Ωx h
          refine OpS.extT h .z rfl rfl rfl rfl ?_
          exact ⟨undef, rfl, trivial, h⟩
        · intro q1 w Γx Ωx h
          refine OpS.alloc h ti26 Requester_.zr rfl rfl (fun u w21 h47 => ?_)
          exact ⟨u, rfl, trivial, h47⟩
        · intro q1 w Γx Ωx h
          have h : St e w ([(true, .val Requester_.rep (q1 14) y7.1)] ++ Γx) ([(true, .box 26 Requester_.rep (q1 17) Requester_.z), (true, .box 26 Requester_.rep u1 Requester_.z)] ++ Ωx) := h
          refine OpS.storeB (f' := true) h .z PA.z Put.id ty26 rfl rfl rfl (V.at .z) (.inl rfl) (fun w22 h48 => ?_)
          exact ⟨undef, trivial, trivial, h48⟩
        · intro q1 w Γx Ωx h
          refine OpS.as rfl rfl rfl ?_
          exact ⟨_, rfl, trivial, (h.dup .z)⟩
        have h49 : St e w [(true, .val Requester_.rep (q1 0) s1.2.2.2), (true, .val (Rep.slice (Rep.int .u8)) (q1 1) ([64, 65])), (true, .ptr (Rep.int .u8) (q1 4) x2), (true, .val (Rep.slice (Rep.int .u8)) (q1 10) y6.1), (true, .eqv (q1 12) (.tuple #[(tcomp (q1 12) 0), (tcomp (q1 12) 1), .int .i64 y7.2.2])), (true, .val Requester_.rep (tcomp (q1 12) 0) y7.1), (true, .val (Rep.slice (Rep.int .u8)) (tcomp (q1 12) 1) y7.2.1), (true, .eqv (q1 13) (.tuple #[(tcomp (q1 13) 0), (tcomp (q1 13) 1), .int .i64 y7.2.2])), (true, .val Requester_.rep (tcomp (q1 13) 0) y7.1), (true, .val (Rep.slice (Rep.int .u8)) (tcomp (q1 13) 1) y7.2.1), (true, .val Requester_.rep (q1 14) y7.1), (true, .val (Rep.slice (Rep.int .u8)) (q1 15) y7.2.1), (true, .val (Rep.slice (Rep.int .u8)) (q1 19) y7.2.1)] [(true, .box 26 Requester_.rep u3 s1.2.2.2), (false, .box 72 field_Codes.rep v0 y6.2), (true, .box 26 Requester_.rep (q1 17) y7.1), (true, .box 26 Requester_.rep u1 Requester_.z)] := h
        refine RunL.op (OpS.as rfl rfl rfl ?_)
        refine RunL.nil ?_
        refine Run.slim [(12, .int .i64 y7.2.2), (10, (q1 17)), (0, v0), (4, u1), (6, u3), (8, .int .i64 s1.1), (9, .int .i64 s1.2.1)] ⟨rfl, rfl, rfl, rfl, rfl, rfl, rfl, trivial⟩ ?_
        refine Run.seq ?_
        refine Run.reg ?_
        refine RunL.op (OpS.mv rfl rfl rfl ?_)
        refine RunL.op (OpS.bin rfl rfl rfl rfl rfl ?_)
        refine RunL.nil ?_
        refine Run.slim [(52, .bool (y7.2.2 == 0)), (10, (q1 17)), (0, v0), (4, u1), (6, u3), (8, .int .i64 s1.1), (9, .int .i64 s1.2.1)] ⟨rfl, rfl, rfl, rfl, rfl, rfl, rfl, trivial⟩ ?_
        refine Run.ite rfl hF (fun e12 hF => ?_) (fun e12 hF => ?_)
        ·
          refine Run.reg ?_
          refine RunL.op (OpS.loadB h49 (.s (.s .z)) PA.z Get.id ty26 rfl rfl rfl (fun u8 h50 => ?_))
          refine RunL.op (OpS.storeB (f' := true) h50 .z PA.z Put.id ty26 rfl rfl rfl (V.at .z) (.inl rfl) (fun w23 h51 => ?_))
          refine RunL.nil ?_
          refine Run.slim [(0, v0), (4, u1), (6, u3), (8, .int .i64 s1.1), (9, .int .i64 s1.2.1)] ⟨rfl, rfl, rfl, rfl, rfl, trivial⟩ ?_
          refine Run.endBlock ?_
          refine Run.endBlock ?_
          refine Run.reg ?_
          refine RunL.op (OpS.mv rfl rfl rfl ?_)
          refine RunL.op (OpS.bin rfl rfl rfl rfl rfl ?_)
          refine RunL.op (OpS.as rfl rfl rfl ?_)
          obtain ⟨x3, e13, hF⟩ := letP_use hF
          refine RunL.name e13 ?_
          refine RunL.nil ?_
          refine Run.slim [(9, .int .i64 x3), (0, v0), (4, u1), (6, u3), (8, .int .i64 s1.1)] ⟨rfl, rfl, rfl, rfl, rfl, trivial⟩ ?_
          refine Run.slim [(0, v0), (4, u1), (6, u3), (8, .int .i64 s1.1), (9, .int .i64 x3)] ⟨rfl, rfl, rfl, rfl, rfl, trivial⟩ ?_
          exact hk1 (s1.1, x3, y6.2, y7.1) _ _ ⟨rfl, (h51.facts .nil).picks (.cons (.s .z) (.cons (.s (.s .z)) (.cons .z .nil)))⟩ hF
        ·
          refine Run.skip ?_
          refine Run.endBlock ?_
          refine Run.endBlock ?_
          refine Run.reg ?_
          refine RunL.op (OpS.mv rfl rfl rfl ?_)
          refine RunL.op (OpS.bin rfl rfl rfl rfl rfl ?_)
          refine RunL.op (OpS.as rfl rfl rfl ?_)
          obtain ⟨x4, e14, hF⟩ := letP_use hF
          refine RunL.name e14 ?_
          refine RunL.nil ?_
          refine Run.slim [(9, .int .i64 x4), (0, v0), (4, u1), (6, u3), (8, .int .i64 s1.1)] ⟨rfl, rfl, rfl, rfl, rfl, trivial⟩ ?_
          refine Run.slim [(0, v0), (4, u1), (6, u3), (8, .int .i64 s1.1), (9, .int .i64 x4)] ⟨rfl, rfl, rfl, rfl, rfl, trivial⟩ ?_
          exact hk1 (s1.1, x4, y6.2, s1.2.2.2) _ _ ⟨rfl, (h49.facts .nil).picks (.cons (.s .z) (.cons (.s (.s .z)) (.cons .z .nil)))⟩ hF
      ·
        refine Run.seq ?_
        refine Run.reg ?_
        refine RunL.op (OpS.bin rfl rfl rfl rfl rfl ?_)
        refine RunL.op (OpS.as rfl rfl rfl ?_)
        obtain ⟨x5, e15, hF⟩ := letP_use hF
        refine RunL.nameb e15 ?_
        refine RunL.nil ?_
        refine Run.slim [(54, .bool x5), (0, v0), (4, u1), (6, u3), (8, .int .i64 s1.1), (9, .int .i64 s1.2.1), (30, .int .i64 y3.1)] ⟨rfl, rfl, rfl, rfl, rfl, rfl, rfl, trivial⟩ ?_
        refine Run.ite rfl hF (fun e16 hF => ?_) (fun e16 hF => ?_)
        ·
          refine Run.seq ?_
          refine Run.reg ?_
          refine RunL.op (OpS.mv rfl rfl rfl ?_)
          refine RunL.op (OpS.mv rfl rfl rfl ?_)
          obtain ⟨y8, e17, hF⟩ := bindP_use hF
          have h52 := h13.front (.cons .z .nil)
          refine RunL.op (OpS.callO h52 Try.func14 rfl rfl rfl rfl (vs := [v0, .int .i64 30]) rfl (field_Codes_Next_ok e17) rfl .nil ?_)
          rintro _ w24 _ _ _ ⟨rfl, rfl, rfl, rfl⟩ h53
          have h54 := h53
          simp only [List.cons_append, List.nil_append] at h54
          refine RunL.op (OpS.bin rfl rfl rfl rfl rfl ?_)
          refine RunL.op (OpS.as rfl rfl rfl ?_)
          obtain ⟨x6, e18, hF⟩ := letP_use hF
          refine RunL.name e18 ?_
          refine RunL.nil ?_
          refine Run.slim [(8, .int .i64 x6), (0, v0), (4, u1), (6, u3), (9, .int .i64 s1.2.1)] ⟨rfl, rfl, rfl, rfl, rfl, trivial⟩ ?_
          refine Run.reg ?_
          refine RunL.op (OpS.loadB h54 (.s (.s .z)) PA.z Get.id ty26 rfl rfl rfl (fun u9 h55 => ?_))
          refine RunL.op (OpS.mv rfl rfl rfl ?_)
          obtain ⟨y9, e19, hF⟩ := bindP_use hF
          refine RunL.op (OpS.callP h55 Try.func22 rfl rfl rfl rfl (vs := [u9, .int .i64 x6]) rfl (ref24_Tick_ok e19) (.cons (f := true) (V.at .z) .nil) ?_)
          rintro _ w25 _ _ _ ⟨u10, u11, u12, rfl, rfl, rfl, rfl⟩ h56
          have h57 := h56 rfl rfl
          simp only [List.cons_append, List.nil_append] at h57
          refine RunL.op (OpS.mv rfl rfl rfl ?_)
          refine RunL.op (OpS.ext rfl rfl rfl rfl ?_)
          refine RunL.op (OpS.ext rfl rfl rfl rfl ?_)
          refine RunL.op (OpS.ext rfl rfl rfl rfl ?_)
          refine RunL.op (OpS.storeB (f' := true) h57 (.s (.s (.s (.s .z)))) PA.z Put.id ty26 rfl rfl rfl (V.at .z) (.inl rfl) (fun w26 h58 => ?_))
          refine RunL.nil ?_
          refine Run.slim [(8, .int .i64 x6), (0, v0), (4, u1), (6, u3), (9, .int .i64 s1.2.1)] ⟨rfl, rfl, rfl, rfl, rfl, trivial⟩ ?_
          refine Run.endBlock ?_
          refine Run.endBlock ?_
          refine Run.reg ?_
          refine RunL.op (OpS.mv rfl rfl rfl ?_)
          refine RunL.op (OpS.bin rfl rfl rfl rfl rfl ?_)
          refine RunL.op (OpS.as rfl rfl rfl ?_)
          obtain ⟨x7, e20, hF⟩ := letP_use hF
          refine RunL.name e20 ?_
          refine RunL.nil ?_
          refine Run.slim [(9, .int .i64 x7), (8, .int .i64 x6), (0, v0), (4, u1), (6, u3)] ⟨rfl, rfl, rfl, rfl, rfl, trivial⟩ ?_
          refine Run.slim [(0, v0), (4, u1), (6, u3), (8, .int .i64 x6), (9, .int .i64 x7)] ⟨rfl, rfl, rfl, rfl, rfl, trivial⟩ ?_
          exact hk1 (x6, x7, y8.2, y9.1) _ _ ⟨rfl, (h58.facts .nil).picks (.cons (.s (.s (.s .z))) (.cons (.s (.s (.s .z))) (.cons .z .nil)))⟩ hF
        ·
          refine Run.seq ?_
          refine Run.reg ?_
          refine RunL.op (OpS.bin rfl rfl rfl rfl rfl ?_)
          refine RunL.op (OpS.as rfl rfl rfl ?_)
          obtain ⟨x8, e21, hF⟩ := letP_use hF
          refine RunL.nameb e21 ?_
          refine RunL.nil ?_
          refine Run.slim [(67, .bool x8), (0, v0), (4, u1), (6, u3), (8, .int .i64 s1.1), (9, .int .i64 s1.2.1)] ⟨rfl, rfl, rfl, rfl, rfl, rfl, trivial⟩ ?_
          refine Run.ite rfl hF (fun e22 hF => ?_) (fun e22 hF => ?_)
          ·
            refine Run.seq ?_
            refine Run.reg ?_
            refine RunL.op (OpS.fbox (o3 := 2) h13 (.s (.s .z)) PA.z fa26_2 rfl rfl rfl rfl ?_)
            refine RunL.op (OpS.loadB h13 (.s (.s .z)) PA.a (Get.fld Requester_.f2) ty24 rfl rfl rfl (fun u13 h59 => ?_))
            refine RunL.op (OpS.len h59 Try.underlying24 rfl rfl rfl (V.at .z) ?_)
            refine RunL.op (OpS.bin rfl rfl rfl rfl rfl ?_)
            refine RunL.nil ?_
            refine Run.slim [(72, .bool (decide ((s1.2.2.2.Pending.length : Int) > 0))), (0, v0), (4, u1), (6, u3), (8, .int .i64 s1.1), (9, .int .i64 s1.2.1)] ⟨rfl, rfl, rfl, rfl, rfl, rfl, trivial⟩ ?_
            refine Run.ite rfl hF (fun e23 hF => ?_) (fun e23 hF => ?_)
            ·
              refine Run.seq ?_
              have h60 := h59.picks (.cons .z (.cons (.s .z) (.cons .z .nil)))
              obtain ⟨y10, e24, hF⟩ := bindP_use hF
              obtain ⟨x9, e25, hF⟩ := bindP_use hF
              obtain ⟨y11, e26, hF⟩ := bindP_use hF
              refine Run.drawV (Ωs := [(true, .box 26 Requester_.rep u1 Requester_.z)]) [⟨some 74, some ((padd u3 2)), fun _ => [], fun ds_ u_ => [], [], [(1, [])], none⟩, ⟨some 75, none, fun u_ => [(true, .val (Rep.slice Pending_.rep) u_ s1.2.2.2.Pending)], fun ds_ u_ => [], [], [(1, [])], none⟩, ⟨some 76, some (v0), fun _ => [], fun ds_ u_ => [], [], [], none⟩, ⟨some 77, some ((padd u3 2)), fun _ => [], fun ds_ u_ => [], [], [(1, [])], none⟩, ⟨some 78, none, fun u_ => [(true, .val (Rep.slice Pending_.rep) u_ s1.2.2.2.Pending)], fun ds_ u_ => [], [], [(1, [])], none⟩, ⟨some 79, some (.int .i64 (s1.2.2.2.Pending.length : Int)), fun _ => [], fun ds_ u_ => [], [], [], none⟩, ⟨some 80, some (.int .i64 y10.1), fun _ => [], fun ds_ u_ => [(false, .box 72 field_Codes.rep v0 y10.2)], [0], [], none⟩, ⟨some 81, none, fun u_ => [(true, .ptr Pending_.rep u_ x9)], fun ds_ u_ => [], [], [], none⟩, ⟨some 82, none, fun u_ => [(true, .ptr Message_.rep u_ x9.Request)], fun ds_ u_ => [], [], [], none⟩, ⟨some 83, none, fun u_ => [(true, .val Message_.rep u_ x9.Request)], fun ds_ u_ => [], [], [], none⟩, ⟨some 84, none, fun u_ => [(true, .eqv u_ (.tuple #[(tcomp u_ 0), .int .i64 y11.2])), (true, .val Message_.rep (tcomp u_ 0) y11.1)], fun ds_ u_ => [], [], [], none⟩, ⟨some 73, none, fun u_ => [(true, .eqv u_ (.tuple #[(tcomp u_ 0), .int .i64 y11.2])), (true, .val Message_.rep (tcomp u_ 0) y11.1)], fun ds_ u_ => [], [], [], none⟩, ⟨some 85, none, fun u_ => [(true, .val Message_.rep u_ y11.1)], fun ds_ u_ => [], [], [], none⟩, ⟨some 86, some (.int .i64 y11.2), fun _ => [], fun ds_ u_ => [], [], [], none⟩, ⟨some 13, none, fun u_ => [], fun ds_ u_ => [(true, .box 51 Message_.rep u_ Message_.z)], [], [], none⟩, ⟨none, some undef, fun _ => [], fun ds_ u_ => [(true, .box 51 Message_.rep (nth ds_ 0) y11.1)], [16], [], none⟩] [[], [0], [], [], [3], [4], [2, 5], [1, 6], [7], [8], [9], [10], [11], [11], [], [14, 12]] [[(false, .box 72 field_Codes.rep v0 y3.2)], [(true, .box 26 Requester_.rep u3 s1.2.2.2)]] [1, 2, 3, 4, 5, 6, 7, 8, 9, 10, 11, 12, 13, 14, 15, 17] Try_mixed rfl rfl rfl h60 (.cons ?_ (.cons ?_ (.cons ?_ (.cons ?_ (.cons ?_ (.cons ?_ (.cons ?_ (.cons ?_ (.cons ?_ (.cons ?_ (.cons ?_ (.cons ?_ (.cons ?_ (.cons ?_ (.cons ?_ (.cons ?_ .nil)))))))))))))))) (fun q2 w hq2 h => ?_)
              · intro q2 w Γx Ωx h
                have h : St e w ([(true, .val (Rep.slice Pending_.rep) u13 s1.2.2.2.Pending)] ++ Γx) ([(true, .box 26 Requester_.rep u3 s1.2.2.2), (true, .box 26 Requester_.rep u1 Requester_.z)] ++ Ωx) := h
                refine OpS.fbox (o3 := 2) h .z PA.z fa26_2 rfl rfl rfl rfl ?_
                exact ⟨undef, rfl, trivial, h⟩
              · intro q2 w Γx Ωx h
                have h : St e w ([(true, .val (Rep.slice Pending_.rep) u13 s1.2.2.2.Pending)] ++ Γx) ([(true, .box 26 Requester_.rep u3 s1.2.2.2), (true, .box 26 Requester_.rep u1 Requester_.z)] ++ Ωx) := h
                refine OpS.loadB h .z PA.a (Get.fld Requester_.f2) ty24 rfl rfl rfl (fun u h73 => ?_)
                exact ⟨u, rfl, trivial, h73⟩
              · intro q2 w Γx Ωx h
                refine OpS.mv rfl rfl rfl ?_
                exact ⟨undef, rfl, trivial, h⟩
              · intro q2 w Γx Ωx h
                have h : St e w ([(true, .val (Rep.slice Pending_.rep) u13 s1.2.2.2.Pending)] ++ Γx) ([(true, .box 26 Requester_.rep u3 s1.2.2.2), (true, .box 26 Requester_.rep u1 Requester_.z)] ++ Ωx) := h
                refine OpS.fbox (o3 := 2) h .z PA.z fa26_2 rfl rfl rfl rfl ?_
                exact ⟨undef, rfl, trivial, h⟩
              · intro q2 w Γx Ωx h
                have h : St e w ([(true, .val (Rep.slice Pending_.rep) u13 s1.2.2.2.Pending)] ++ Γx) ([(true, .box 26 Requester_.rep u3 s1.2.2.2), (true, .box 26 Requester_.rep u1 Requester_.z)] ++ Ωx) := h
                refine OpS.loadB h .z PA.a (Get.fld Requester_.f2) ty24 rfl rfl rfl (fun u h74 => ?_)
                exact ⟨u, rfl, trivial, h74⟩
              · intro q2 w Γx Ωx h
                refine OpS.len h Try.underlying24 rfl rfl rfl (V.at .z) ?_
                exact ⟨undef, rfl, trivial, h⟩
              · intro q2 w Γx Ωx h
                have h : St e w ([(true, .val (Rep.slice Pending_.rep) u13 s1.2.2.2.Pending)] ++ Γx) ([(false, .box 72 field_Codes.rep v0 y3.2), (true, .box 26 Requester_.rep u1 Requester_.z)] ++ Ωx) := h
                have h75 := h.front (.cons .z .nil)
                refine OpS.callO h75 Try.func14 rfl rfl rfl rfl (vs := [v0, .int .i64 (s1.2.2.2.Pending.length : Int)]) rfl (field_Codes_Next_ok e24) rfl .nil ?_
                rintro _ w31 _ _ _ ⟨rfl, rfl, rfl, rfl⟩ h76
                have h77 := h76
                simp only [List.cons_append, List.nil_append] at h77
                exact ⟨undef, rfl, trivial, h77⟩
              · intro q2 w Γx Ωx h
                refine OpS.iptr h Try.underlying24 ty55 rfl rfl rfl rfl (V.at .z) e25 (fun u h78 => ?_)
                exact ⟨u, rfl, trivial, h78⟩
              · intro q2 w Γx Ωx h
                refine OpS.fptr h fa55_0 Pending_.f0 rfl rfl rfl .z (fun u h79 => ?_)
                exact ⟨u, rfl, trivial, h79⟩
              · intro q2 w Γx Ωx h
                refine OpS.load h ty51 rfl rfl rfl .z (fun u h80 => ?_)
                exact ⟨u, rfl, trivial, h80⟩
              · intro q2 w Γx Ωx h
                refine OpS.callP h Try.func25 rfl rfl rfl rfl (vs := [(q2 9), .int .u8 0, .slice none 0 0]) rfl (ref23_Reply_ok e26) (.cons (f := true) (V.at .z) (.cons (f := true) V.nil .nil)) ?_
                rintro _ w32 _ _ _ ⟨u15, rfl, rfl, rfl, rfl⟩ h81
                have h82 := h81 rfl rfl
                simp only [List.cons_append, List.nil_append] at h82
                exact ⟨_, rfl, trivial, St.eqv rfl h82⟩
              · intro q2 w Γx Ωx h
                refine OpS.mv rfl rfl rfl ?_
                exact ⟨_, rfl, trivial, ((h.dup (.s .z)).dup (.s .z))⟩
              · intro q2 w Γx Ωx h
                refine OpS.extT h .z rfl rfl rfl rfl ?_
                exact ⟨_, rfl, trivial, (h.dup (.s .z))⟩
              · intro q2 w Γx Ωx h
                refine OpS.extT h .z rfl rfl rfl rfl ?_
                exact ⟨undef, rfl, trivial, h⟩
              · intro q2 w Γx Ωx h
                refine OpS.alloc h ti51 Message_.zr rfl rfl (fun u w33 h83 => ?_)
                exact ⟨u, rfl, trivial, h83⟩
              · intro q2 w Γx Ωx h
                have h : St e w ([(true, .val Message_.rep (q2 12) y11.1), (true, .val (Rep.slice Pending_.rep) u13 s1.2.2.2.Pending)] ++ Γx) ([(true, .box 51 Message_.rep (q2 14) Message_.z), (true, .box 26 Requester_.rep u1 Requester_.z)] ++ Ωx) := h
                refine OpS.storeB (f' := true) h .z PA.z Put.id ty51 rfl rfl rfl (V.at .z) (.inl rfl) (fun w34 h84 => ?_)
                exact ⟨undef, trivial, trivial, h84⟩
              have h85 : St e w [(true, .val (Rep.slice Pending_.rep) (q2 1) s1.2.2.2.Pending), (true, .val (Rep.slice Pending_.rep) (q2 4) s1.2.2.2.Pending), (true, .ptr Pending_.rep (q2 7) x9), (true, .ptr Message_.rep (q2 8) x9.Request), (true, .val Message_.rep (q2 9) x9.Request), (true, .eqv (q2 10) (.tuple #[(tcomp (q2 10) 0), .int .i64 y11.2])), (true, .val Message_.rep (tcomp (q2 10) 0) y11.1), (true, .eqv (q2 11) (.tuple #[(tcomp (q2 11) 0), .int .i64 y11.2])), (true, .val Message_.rep (tcomp (q2 11) 0) y11.1), (true, .val Message_.rep (q2 12) y11.1), (true, .val (Rep.slice Pending_.rep) u13 s1.2.2.2.Pending)] [(true, .box 26 Requester_.rep u3 s1.2.2.2), (false, .box 72 field_Codes.rep v0 y10.2), (true, .box 51 Message_.rep (q2 14) y11.1), (true, .box 26 Requester_.rep u1 Requester_.z)] := h
              refine RunL.op (OpS.as rfl rfl rfl ?_)
              refine RunL.nil ?_
              refine Run.slim [(13, (q2 14)), (0, v0), (4, u1), (6, u3), (8, .int .i64 s1.1), (9, .int .i64 s1.2.1)] ⟨rfl, rfl, rfl, rfl, rfl, rfl, trivial⟩ ?_
              refine Run.seq ?_
              refine Run.reg ?_
              refine RunL.op (OpS.loadB h85 (.s (.s .z)) PA.z Get.id ty51 rfl rfl rfl (fun u16 h86 => ?_))
              obtain ⟨y12, e27, hF⟩ := bindP_use hF
              refine RunL.op (OpS.callP h86 Try.func27 rfl rfl rfl rfl (vs := [u16]) rfl (ref23_Response_ok e27) (.cons (f := true) (V.at .z) .nil) ?_)
              rintro _ w35 _ _ _ ⟨u17, rfl, rfl, rfl, rfl⟩ h87
              have h88 := h87 rfl rfl
              simp only [List.cons_append, List.nil_append] at h88
              refine RunL.op (OpS.mv rfl rfl rfl ?_)
              refine RunL.op (OpS.ext rfl rfl rfl rfl ?_)
              refine RunL.op (OpS.ext rfl rfl rfl rfl ?_)
              refine RunL.op (OpS.as rfl rfl rfl ?_)
              have h89 := (h88.pick .z).freeze
              refine RunL.op (OpS.as rfl rfl rfl ?_)
              refine RunL.nil ?_
              refine Run.slim [(15, u17), (0, v0), (4, u1), (6, u3), (8, .int .i64 s1.1), (9, .int .i64 s1.2.1)] ⟨rfl, rfl, rfl, rfl, rfl, rfl, trivial⟩ ?_
              refine Run.reg ?_
              refine RunL.op (OpS.loadB h89 .z PA.z Get.id ty26 rfl rfl rfl (fun u18 h90 => ?_))
              refine RunL.op (OpS.mv rfl rfl rfl ?_)
              obtain ⟨y13, e28, hF⟩ := bindP_use hF
              refine RunL.op (OpS.callP h90 Try.func29 rfl rfl rfl rfl (vs := [u18, u17]) rfl (ref24_Receive_ok e28) (.cons (f := true) (V.at .z) (.cons (f := true) (V.at (.s .z)) .nil)) ?_)
              rintro _ w36 _ _ _ ⟨u19, u20, u21, rfl, rfl, rfl, rfl⟩ h91
              have h92 := h91 rfl rfl
              simp only [List.cons_append, List.nil_append] at h92
              refine RunL.op (OpS.mv rfl rfl rfl ?_)
              refine RunL.op (OpS.ext rfl rfl rfl rfl ?_)
              refine RunL.op (OpS.ext rfl rfl rfl rfl ?_)
              refine RunL.op (OpS.ext rfl rfl rfl rfl ?_)
              refine RunL.op (OpS.ext rfl rfl rfl rfl ?_)
              refine RunL.op (OpS.storeB (f' := true) h92 .z PA.z Put.id ty26 rfl rfl rfl (V.at .z) (.inl rfl) (fun w37 h93 => ?_))
              refine RunL.nil ?_
              refine Run.slim [(0, v0), (4, u1), (6, u3), (8, .int .i64 s1.1), (9, .int .i64 s1.2.1)] ⟨rfl, rfl, rfl, rfl, rfl, trivial⟩ ?_
              refine Run.endBlock ?_
              refine Run.endBlock ?_
              refine Run.reg ?_
              refine RunL.op (OpS.mv rfl rfl rfl ?_)
              refine RunL.op (OpS.bin rfl rfl rfl rfl rfl ?_)
              refine RunL.op (OpS.as rfl rfl rfl ?_)
              obtain ⟨x10, e29, hF⟩ := letP_use hF
              refine RunL.name e29 ?_
              refine RunL.nil ?_
              refine Run.slim [(9, .int .i64 x10), (0, v0), (4, u1), (6, u3), (8, .int .i64 s1.1)] ⟨rfl, rfl, rfl, rfl, rfl, trivial⟩ ?_
              refine Run.slim [(0, v0), (4, u1), (6, u3), (8, .int .i64 s1.1), (9, .int .i64 x10)] ⟨rfl, rfl, rfl, rfl, rfl, trivial⟩ ?_
              exact hk1 (s1.1, x10, y10.2, y13.1) _ _ ⟨rfl, (h93.facts .nil).picks (.cons (.s .z) (.cons (.s (.s .z)) (.cons .z .nil)))⟩ hF
            ·
              refine Run.skip ?_
              refine Run.endBlock ?_
              refine Run.endBlock ?_
              refine Run.reg ?_
              refine RunL.op (OpS.mv rfl rfl rfl ?_)
              refine RunL.op (OpS.bin rfl rfl rfl rfl rfl ?_)
              refine RunL.op (OpS.as rfl rfl rfl ?_)
              obtain ⟨x11, e30, hF⟩ := letP_use hF
              refine RunL.name e30 ?_
              refine RunL.nil ?_
              refine Run.slim [(9, .int .i64 x11), (0, v0), (4, u1), (6, u3), (8, .int .i64 s1.1)] ⟨rfl, rfl, rfl, rfl, rfl, trivial⟩ ?_
              refine Run.slim [(0, v0), (4, u1), (6, u3), (8, .int .i64 s1.1), (9, .int .i64 x11)] ⟨rfl, rfl, rfl, rfl, rfl, trivial⟩ ?_
              exact hk1 (s1.1, x11, y3.2, s1.2.2.2) _ _ ⟨rfl, (h59.facts .nil).picks (.cons .z (.cons .z (.cons .z .nil)))⟩ hF
          ·
            refine Run.skip ?_
            refine Run.endBlock ?_
            refine Run.endBlock ?_
            refine Run.reg ?_
            refine RunL.op (OpS.mv rfl rfl rfl ?_)
            refine RunL.op (OpS.bin rfl rfl rfl rfl rfl ?_)
            refine RunL.op (OpS.as rfl rfl rfl ?_)
            obtain ⟨x12, e31, hF⟩ := letP_use hF
            refine RunL.name e31 ?_
            refine RunL.nil ?_
            refine Run.slim [(9, .int .i64 x12), (0, v0), (4, u1), (6, u3), (8, .int .i64 s1.1)] ⟨rfl, rfl, rfl, rfl, rfl, trivial⟩ ?_
            refine Run.slim [(0, v0), (4, u1), (6, u3), (8, .int .i64 s1.1), (9, .int .i64 x12)] ⟨rfl, rfl, rfl, rfl, rfl, trivial⟩ ?_
            exact hk1 (s1.1, x12, y3.2, s1.2.2.2) _ _ ⟨rfl, (h13.facts .nil).picks (.cons .z (.cons .z (.cons .z .nil)))⟩ hF
    ·
      refine Run.ite rfl hF (fun e32 hF => ?_) (fun e32 hF => ?_)
      ·
        refine Run.skip ?_
        refine Run.slim [(0, v0), (4, u1), (6, u3), (8, .int .i64 s1.1), (9, .int .i64 s1.2.1), (30, .int .i64 y3.1), (31, .bool x1)] ⟨rfl, rfl, rfl, rfl, rfl, rfl, rfl, trivial⟩ ?_
        exact hj1 (x1) _ _ ⟨rfl, (h12.facts .nil).picks (.cons .z (.cons .z (.cons .z .nil)))⟩ hF
      ·
        refine Run.reg ?_
        refine RunL.op (OpS.bin rfl rfl rfl rfl rfl ?_)
        refine RunL.op (OpS.as rfl rfl rfl ?_)
        obtain ⟨x13, e33, hF⟩ := letP_use hF
        refine RunL.nameb e33 ?_
        refine RunL.nil ?_
        refine Run.slim [(31, .bool x13), (30, .int .i64 y3.1), (0, v0), (4, u1), (6, u3), (8, .int .i64 s1.1), (9, .int .i64 s1.2.1)] ⟨rfl, rfl, rfl, rfl, rfl, rfl, rfl, trivial⟩ ?_
        refine Run.slim [(0, v0), (4, u1), (6, u3), (8, .int .i64 s1.1), (9, .int .i64 s1.2.1), (30, .int .i64 y3.1), (31, .bool x13)] ⟨rfl, rfl, rfl, rfl, rfl, rfl, rfl, trivial⟩ ?_
        exact hj1 (x13) _ _ ⟨rfl, (h12.facts .nil).picks (.cons .z (.cons .z (.cons .z .nil)))⟩ hF
  ·
    refine Run.exit rfl ?_
    refine Run.seq ?_
    refine Run.reg ?_
    refine RunL.op (OpS.loadB h9 (.s (.s .z)) PA.z Get.id ty26 rfl rfl rfl (fun u22 h94 => ?_))
    refine RunL.op (OpS.mv rfl rfl rfl ?_)
    refine RunL.op (OpS.storeB (f' := true) h94 (.s .z) PA.z Put.id ty26 rfl rfl rfl (V.at .z) (.inl rfl) (fun w38 h95 => ?_))
    refine RunL.op (OpS.as rfl rfl rfl ?_)
    refine RunL.nil ?_
    refine Run.slim [(5, .int .i64 s1.1), (4, u1)] ⟨rfl, rfl, trivial⟩ ?_
    obtain ⟨u23, hu1, h96⟩ := res_box h95 .z ty26
    refine Run.retP rfl (.cell rfl hu1 (.tmp rfl .nil)) ?_
    cases hF
    exact Post.mk' ⟨u23, rfl, rfl, rfl, rfl⟩ (h96.picks (.cons (.s .z) .nil)) (.val (V.at .z) .nil)
set_option maxHeartbeats 8000000 in
theorem ref24_SameMessage_ok {fuel : Nat} {a0 : Message_} {a1 : Message_} {y : Bool} (hF : ref24_SameMessage fuel a0 a1 = some y) {w : World} {v0 v1 : Value} :
    Spec Try.prog 30 [v0, v1].toArray w [(false, .val Message_.rep v0 a0), (false, .val Message_.rep v1 a1)] [] (fun v Γr Ωr Ωo => v = .bool y ∧ Γr = [] ∧ Ωr = [] ∧ Ωo = []) := by
  refine Spec.of (L := [(0, v0), (1, v1)]) Try.func30 rfl ⟨rfl, rfl, trivial⟩ rfl (fun e h => ?_)
  unfold ref24_SameMessage at hF
  refine Run.seq ?_
  refine Run.reg ?_
  refine RunL.op (OpS.boxF h rfl rfl rfl (V.at .z) (fun u1 w1 h1 => ?_))
  refine RunL.op (OpS.boxF h1 rfl rfl rfl (V.at (.s .z)) (fun u2 w2 h2 => ?_))
  refine RunL.op (OpS.as rfl rfl rfl ?_)
  refine RunL.nil ?_
  refine Run.slim [(3, u2), (2, u1)] ⟨rfl, rfl, trivial⟩ ?_
  refine Run.seq ?_
  refine Run.reg ?_
  refine RunL.op (OpS.fbox (o3 := 0) h2 (.s .z) PA.z fa51_0 rfl rfl rfl rfl ?_)
  refine RunL.op (OpS.loadBi h2 (.s .z) PA.a (Get.fld Message_.f0) ty5 rfl rfl rfl ?_)
  refine RunL.op (OpS.fbox (o3 := 0) h2 .z PA.z fa51_0 rfl rfl rfl rfl ?_)
  refine RunL.op (OpS.loadBi h2 .z PA.a (Get.fld Message_.f0) ty5 rfl rfl rfl ?_)
  refine RunL.op (OpS.bin rfl rfl rfl rfl rfl ?_)
  refine RunL.op (OpS.mv rfl rfl rfl ?_)
  refine RunL.caseb hF (fun e1 hF => ?_) (fun e1 hF => ?_)
  ·
    refine RunL.op (OpS.fbox (o3 := 1) h2 (.s .z) PA.z fa51_1 rfl rfl rfl rfl ?_)
    refine RunL.op (OpS.loadBi h2 (.s .z) PA.a (Get.fld Message_.f1) ty5 rfl rfl rfl ?_)
    refine RunL.op (OpS.fbox (o3 := 1) h2 .z PA.z fa51_1 rfl rfl rfl rfl ?_)
    refine RunL.op (OpS.loadBi h2 .z PA.a (Get.fld Message_.f1) ty5 rfl rfl rfl ?_)
    refine RunL.op (OpS.bin rfl rfl rfl rfl rfl ?_)
    refine RunL.op (OpS.pick rfl rfl rfl rfl ?_)
    refine RunL.op (OpS.mv rfl rfl rfl ?_)
    refine RunL.caseb hF (fun e2 hF => ?_) (fun e2 hF => ?_)
    ·
      refine RunL.op (OpS.fbox (o3 := 2) h2 (.s .z) PA.z fa51_2 rfl rfl rfl rfl ?_)
      refine RunL.op (OpS.loadBi h2 (.s .z) PA.a (Get.fld Message_.f2) ty5 rfl rfl rfl ?_)
      refine RunL.op (OpS.fbox (o3 := 2) h2 .z PA.z fa51_2 rfl rfl rfl rfl ?_)
      refine RunL.op (OpS.loadBi h2 .z PA.a (Get.fld Message_.f2) ty5 rfl rfl rfl ?_)
      refine RunL.op (OpS.bin rfl rfl rfl rfl rfl ?_)
      refine RunL.op (OpS.pick rfl rfl rfl rfl ?_)
      refine RunL.op (OpS.mv rfl rfl rfl ?_)
      refine RunL.caseb hF (fun e3 hF => ?_) (fun e3 hF => ?_)
      ·
        refine RunL.op (OpS.fbox (o3 := 3) h2 (.s .z) PA.z fa51_3 rfl rfl rfl rfl ?_)
        refine RunL.op (OpS.loadBi h2 (.s .z) PA.a (Get.fld Message_.f3) ty5 rfl rfl rfl ?_)
        refine RunL.op (OpS.fbox (o3 := 3) h2 .z PA.z fa51_3 rfl rfl rfl rfl ?_)
        refine RunL.op (OpS.loadBi h2 .z PA.a (Get.fld Message_.f3) ty5 rfl rfl rfl ?_)
        refine RunL.op (OpS.bin rfl rfl rfl rfl rfl ?_)
        refine RunL.op (OpS.pick rfl rfl rfl rfl ?_)
        refine RunL.op (OpS.mv rfl rfl rfl ?_)
        refine RunL.caseb hF (fun e4 hF => ?_) (fun e4 hF => ?_)
        ·
          refine RunL.op (OpS.fbox (o3 := 4) h2 (.s .z) PA.z fa51_4 rfl rfl rfl rfl ?_)
          refine RunL.op (OpS.loadBi h2 (.s .z) PA.a (Get.fld Message_.f4) ty3 rfl rfl rfl ?_)
          refine RunL.op (OpS.fbox (o3 := 4) h2 .z PA.z fa51_4 rfl rfl rfl rfl ?_)
          refine RunL.op (OpS.loadBi h2 .z PA.a (Get.fld Message_.f4) ty3 rfl rfl rfl ?_)
          refine RunL.op (OpS.bin rfl rfl rfl rfl rfl ?_)
          refine RunL.op (OpS.pick rfl rfl rfl rfl ?_)
          refine RunL.op (OpS.mv rfl rfl rfl ?_)
          refine RunL.caseb hF (fun e5 hF => ?_) (fun e5 hF => ?_)
          ·
            refine RunL.op (OpS.fbox (o3 := 5) h2 (.s .z) PA.z fa51_5 rfl rfl rfl rfl ?_)
            refine RunL.op (OpS.loadBi h2 (.s .z) PA.a (Get.fld Message_.f5) ty3 rfl rfl rfl ?_)
            refine RunL.op (OpS.fbox (o3 := 5) h2 .z PA.z fa51_5 rfl rfl rfl rfl ?_)
            refine RunL.op (OpS.loadBi h2 .z PA.a (Get.fld Message_.f5) ty3 rfl rfl rfl ?_)
            refine RunL.op (OpS.bin rfl rfl rfl rfl rfl ?_)
            refine RunL.op (OpS.pick rfl rfl rfl rfl ?_)
            refine RunL.op (OpS.mv rfl rfl rfl ?_)
            refine RunL.caseb hF (fun e6 hF => ?_) (fun e6 hF => ?_)
            ·
              refine RunL.op (OpS.fbox (o3 := 6) h2 (.s .z) PA.z fa51_6 rfl rfl rfl rfl ?_)
              refine RunL.op (OpS.loadBi h2 (.s .z) PA.a (Get.fld Message_.f6) ty3 rfl rfl rfl ?_)
              refine RunL.op (OpS.fbox (o3 := 6) h2 .z PA.z fa51_6 rfl rfl rfl rfl ?_)
              refine RunL.op (OpS.loadBi h2 .z PA.a (Get.fld Message_.f6) ty3 rfl rfl rfl ?_)
              refine RunL.op (OpS.bin rfl rfl rfl rfl rfl ?_)
              refine RunL.op (OpS.pick rfl rfl rfl rfl ?_)
              refine RunL.op (OpS.mv rfl rfl rfl ?_)
              refine RunL.caseb hF (fun e7 hF => ?_) (fun e7 hF => ?_)
              ·
                refine RunL.op (OpS.fbox (o3 := 7) h2 (.s .z) PA.z fa51_7 rfl rfl rfl rfl ?_)
                refine RunL.op (OpS.loadBi h2 (.s .z) PA.a (Get.fld Message_.f7) ty5 rfl rfl rfl ?_)
                refine RunL.op (OpS.fbox (o3 := 7) h2 .z PA.z fa51_7 rfl rfl rfl rfl ?_)
                refine RunL.op (OpS.loadBi h2 .z PA.a (Get.fld Message_.f7) ty5 rfl rfl rfl ?_)
                refine RunL.op (OpS.bin rfl rfl rfl rfl rfl ?_)
                refine RunL.op (OpS.pick rfl rfl rfl rfl ?_)
                refine RunL.op (OpS.mv rfl rfl rfl ?_)
                refine RunL.caseb hF (fun e8 hF => ?_) (fun e8 hF => ?_)
                ·
                  refine RunL.op (OpS.fbox (o3 := 8) h2 (.s .z) PA.z fa51_8 rfl rfl rfl rfl ?_)
                  refine RunL.op (OpS.loadB h2 (.s .z) PA.a (Get.fld Message_.f8) ty22 rfl rfl rfl (fun u3 h3 => ?_))
                  refine RunL.op (OpS.toStr h3 Try.underlying22 Try.underlying5 Try.underlying9 rfl rfl rfl (V.at .z) (fun u4 h4 => ?_))
                  refine RunL.op (OpS.fbox (o3 := 8) h4 .z PA.z fa51_8 rfl rfl rfl rfl ?_)
                  refine RunL.op (OpS.loadB h4 .z PA.a (Get.fld Message_.f8) ty22 rfl rfl rfl (fun u5 h5 => ?_))
                  refine RunL.op (OpS.toStr h5 Try.underlying22 Try.underlying5 Try.underlying9 rfl rfl rfl (V.at .z) (fun u6 h6 => ?_))
                  refine RunL.op (OpS.eqs h6 rfl rfl rfl rfl (V.at (.s (.s .z))) (V.at .z) Try.underlying9 ?_)
                  refine RunL.op (OpS.pick rfl rfl rfl rfl ?_)
                  refine RunL.op (OpS.as rfl rfl rfl ?_)
                  obtain ⟨x1, e9, hF⟩ := letP_use hF
                  refine RunL.nameb e9 ?_
                  refine RunL.nil ?_
                  refine Run.slim [(4, .bool x1)] ⟨rfl, trivial⟩ ?_
                  refine Run.retP rfl (.tmp rfl .nil) ?_
                  cases hF
                  exact Post.mk' ⟨rfl, rfl, rfl, rfl⟩ (h6.picks .nil) .nil
                ·
                  refine RunL.op (OpS.pass rfl rfl rfl ?_)
                  refine RunL.op (OpS.pass rfl rfl rfl ?_)
                  refine RunL.op (OpS.pass rfl rfl rfl ?_)
                  refine RunL.op (OpS.pass rfl rfl rfl ?_)
                  refine RunL.op (OpS.pass rfl rfl rfl ?_)
                  refine RunL.op (OpS.pass rfl rfl rfl ?_)
                  refine RunL.op (OpS.pass rfl rfl rfl ?_)
                  refine RunL.op (OpS.pick rfl rfl rfl rfl ?_)
                  refine RunL.op (OpS.as rfl rfl rfl ?_)
                  refine RunL.nil ?_
                  refine Run.slim [(4, .bool false)] ⟨rfl, trivial⟩ ?_
                  refine Run.retP rfl (.tmp rfl .nil) ?_
                  cases hF
                  exact Post.mk' ⟨rfl, rfl, rfl, rfl⟩ (h2.picks .nil) .nil
              ·
                refine RunL.op (OpS.pass rfl rfl rfl ?_)
                refine RunL.op (OpS.pass rfl rfl rfl ?_)
                refine RunL.op (OpS.pass rfl rfl rfl ?_)
                refine RunL.op (OpS.pass rfl rfl rfl ?_)
                refine RunL.op (OpS.pass rfl rfl rfl ?_)
                refine RunL.op (OpS.pick rfl rfl rfl rfl ?_)
                refine RunL.op (OpS.mv rfl rfl rfl ?_)
                refine RunL.op (OpS.pass rfl rfl rfl ?_)
                refine RunL.op (OpS.pass rfl rfl rfl ?_)
                refine RunL.op (OpS.pass rfl rfl rfl ?_)
                refine RunL.op (OpS.pass rfl rfl rfl ?_)
                refine RunL.op (OpS.pass rfl rfl rfl ?_)
                refine RunL.op (OpS.pass rfl rfl rfl ?_)
                refine RunL.op (OpS.pass rfl rfl rfl ?_)
                refine RunL.op (OpS.pick rfl rfl rfl rfl ?_)
                refine RunL.op (OpS.as rfl rfl rfl ?_)
                refine RunL.nil ?_
                refine Run.slim [(4, .bool false)] ⟨rfl, trivial⟩ ?_
                refine Run.retP rfl (.tmp rfl .nil) ?_
                cases hF
                exact Post.mk' ⟨rfl, rfl, rfl, rfl⟩ (h2.picks .nil) .nil
            ·
              refine RunL.op (OpS.pass rfl rfl rfl ?_)
              refine RunL.op (OpS.pass rfl rfl rfl ?_)
              refine RunL.op (OpS.pass rfl rfl rfl ?_)
              refine RunL.op (OpS.pass rfl rfl rfl ?_)
              refine RunL.op (OpS.pass rfl rfl rfl ?_)
              refine RunL.op (OpS.pick rfl rfl rfl rfl ?_)
              refine RunL.op (OpS.mv rfl rfl rfl ?_)
              refine RunL.op (OpS.pass rfl rfl rfl ?_)
              refine RunL.op (OpS.pass rfl rfl rfl ?_)
              refine RunL.op (OpS.pass rfl rfl rfl ?_)
              refine RunL.op (OpS.pass rfl rfl rfl ?_)
              refine RunL.op (OpS.pass rfl rfl rfl ?_)
              refine RunL.op (OpS.pick rfl rfl rfl rfl ?_)
              refine RunL.op (OpS.mv rfl rfl rfl ?_)
              refine RunL.op (OpS.pass rfl rfl rfl ?_)
              refine RunL.op (OpS.pass rfl rfl rfl ?_)
              refine RunL.op (OpS.pass rfl rfl rfl ?_)
              refine RunL.op (OpS.pass rfl rfl rfl ?_)
              refine RunL.op (OpS.pass rfl rfl rfl ?_)
              refine RunL.op (OpS.pass rfl rfl rfl ?_)
              refine RunL.op (OpS.pass rfl rfl rfl ?_)
              refine RunL.op (OpS.pick rfl rfl rfl rfl ?_)
              refine RunL.op (OpS.as rfl rfl rfl ?_)
              refine RunL.nil ?_
              refine Run.slim [(4, .bool false)] ⟨rfl, trivial⟩ ?_
              refine Run.retP rfl (.tmp rfl .nil) ?_
              cases hF
              exact Post.mk' ⟨rfl, rfl, rfl, rfl⟩ (h2.picks .nil) .nil
          ·
            refine RunL.op (OpS.pass rfl rfl rfl ?_)
            refine RunL.op (OpS.pass rfl rfl rfl ?_)
            refine RunL.op (OpS.pass rfl rfl rfl ?_)
            refine RunL.op (OpS.pass rfl rfl rfl ?_)
            refine RunL.op (OpS.pass rfl rfl rfl ?_)
            refine RunL.op (OpS.pick rfl rfl rfl rfl ?_)
            refine RunL.op (OpS.mv rfl rfl rfl ?_)
            refine RunL.op (OpS.pass rfl rfl rfl ?_)
            refine RunL.op (OpS.pass rfl rfl rfl ?_)
            refine RunL.op (OpS.pass rfl rfl rfl ?_)
            refine RunL.op (OpS.pass rfl rfl rfl ?_)
            refine RunL.op (OpS.pass rfl rfl rfl ?_)
            refine RunL.op (OpS.pick rfl rfl rfl rfl ?_)
            refine RunL.op (OpS.mv rfl rfl rfl ?_)
            refine RunL.op (OpS.pass rfl rfl rfl ?_)
            refine RunL.op (OpS.pass rfl rfl rfl ?_)
            refine RunL.op (OpS.pass rfl rfl rfl ?_)
            refine RunL.op (OpS.pass rfl rfl rfl ?_)
            refine RunL.op (OpS.pass rfl rfl rfl ?_)
            refine RunL.op (OpS.pick rfl rfl rfl rfl ?_)
            refine RunL.op (OpS.mv rfl rfl rfl ?_)
            refine RunL.op (OpS.pass rfl rfl rfl ?_)
            refine RunL.op (OpS.pass rfl rfl rfl ?_)
            refine RunL.op (OpS.pass rfl rfl rfl ?_)
            refine RunL.op (OpS.pass rfl rfl rfl ?_)
            refine RunL.op (OpS.pass rfl rfl rfl ?_)
            refine RunL.op (OpS.pass rfl rfl rfl ?_)
            refine RunL.op (OpS.pass rfl rfl rfl ?_)
            refine RunL.op (OpS.pick rfl rfl rfl rfl ?_)
            refine RunL.op (OpS.as rfl rfl rfl ?_)
            refine RunL.nil ?_
            refine Run.slim [(4, .bool false)] ⟨rfl, trivial⟩ ?_
            refine Run.retP rfl (.tmp rfl .nil) ?_
            cases hF
            exact Post.mk' ⟨rfl, rfl, rfl, rfl⟩ (h2.picks .nil) .nil
        ·
          refine RunL.op (OpS.pass rfl rfl rfl ?_)
          refine RunL.op (OpS.pass rfl rfl rfl ?_)
          refine RunL.op (OpS.pass rfl rfl rfl ?_)
          refine RunL.op (OpS.pass rfl rfl rfl ?_)
          refine RunL.op (OpS.pass rfl rfl rfl ?_)
          refine RunL.op (OpS.pick rfl rfl rfl rfl ?_)
          refine RunL.op (OpS.mv rfl rfl rfl ?_)
          refine RunL.op (OpS.pass rfl rfl rfl ?_)
          refine RunL.op (OpS.pass rfl rfl rfl ?_)
          refine RunL.op (OpS.pass rfl rfl rfl ?_)
          refine RunL.op (OpS.pass rfl rfl rfl ?_)
          refine RunL.op (OpS.pass rfl rfl rfl ?_)
          refine RunL.op (OpS.pick rfl rfl rfl rfl ?_)
          refine RunL.op (OpS.mv rfl rfl rfl ?_)
          refine RunL.op (OpS.pass rfl rfl rfl ?_)
          refine RunL.op (OpS.pass rfl rfl rfl ?_)
          refine RunL.op (OpS.pass rfl rfl rfl ?_)
          refine RunL.op (OpS.pass rfl rfl rfl ?_)
          refine RunL.op (OpS.pass rfl rfl rfl ?_)
          refine RunL.op (OpS.pick rfl rfl rfl rfl ?_)
          refine RunL.op (OpS.mv rfl rfl rfl ?_)
          refine RunL.op (OpS.pass rfl rfl rfl ?_)
          refine RunL.op (OpS.pass rfl rfl rfl ?_)
          refine RunL.op (OpS.pass rfl rfl rfl ?_)
          refine RunL.op (OpS.pass rfl rfl rfl ?_)
          refine RunL.op (OpS.pass rfl rfl rfl ?_)
          refine RunL.op (OpS.pick rfl rfl rfl rfl ?_)
          refine RunL.op (OpS.mv rfl rfl rfl ?_)
          refine RunL.op (OpS.pass rfl rfl rfl ?_)
          refine RunL.op (OpS.pass rfl rfl rfl ?_)
          refine RunL.op (OpS.pass rfl rfl rfl ?_)
          refine RunL.op (OpS.pass rfl rfl rfl ?_)
          refine RunL.op (OpS.pass rfl rfl rfl ?_)
          refine RunL.op (OpS.pass rfl rfl rfl ?_)
          refine RunL.op (OpS.pass rfl rfl rfl ?_)
          refine RunL.op (OpS.pick rfl rfl rfl rfl ?_)
          refine RunL.op (OpS.as rfl rfl rfl ?_)
          refine RunL.nil ?_
          refine Run.slim [(4, .bool false)] ⟨rfl, trivial⟩ ?_
          refine Run.retP rfl (.tmp rfl .nil) ?_
          cases hF
          exact Post.mk' ⟨rfl, rfl, rfl, rfl⟩ (h2.picks .nil) .nil
      ·
        refine RunL.op (OpS.pass rfl rfl rfl ?_)
        refine RunL.op (OpS.pass rfl rfl rfl ?_)
        refine RunL.op (OpS.pass rfl rfl rfl ?_)
        refine RunL.op (OpS.pass rfl rfl rfl ?_)
        refine RunL.op (OpS.pass rfl rfl rfl ?_)
        refine RunL.op (OpS.pick rfl rfl rfl rfl ?_)
        refine RunL.op (OpS.mv rfl rfl rfl ?_)
        refine RunL.op (OpS.pass rfl rfl rfl ?_)
        refine RunL.op (OpS.pass rfl rfl rfl ?_)
        refine RunL.op (OpS.pass rfl rfl rfl ?_)
        refine RunL.op (OpS.pass rfl rfl rfl ?_)
        refine RunL.op (OpS.pass rfl rfl rfl ?_)
        refine RunL.op (OpS.pick rfl rfl rfl rfl ?_)
        refine RunL.op (OpS.mv rfl rfl rfl ?_)
        refine RunL.op (OpS.pass rfl rfl rfl ?_)
        refine RunL.op (OpS.pass rfl rfl rfl ?_)
        refine RunL.op (OpS.pass rfl rfl rfl ?_)
        refine RunL.op (OpS.pass rfl rfl rfl ?_)
        refine RunL.op (OpS.pass rfl rfl rfl ?_)
        refine RunL.op (OpS.pick rfl rfl rfl rfl ?_)
        refine RunL.op (OpS.mv rfl rfl rfl ?_)
        refine RunL.op (OpS.pass rfl rfl rfl ?_)
        refine RunL.op (OpS.pass rfl rfl rfl ?_)
        refine RunL.op (OpS.pass rfl rfl rfl ?_)
        refine RunL.op (OpS.pass rfl rfl rfl ?_)
        refine RunL.op (OpS.pass rfl rfl rfl ?_)
        refine RunL.op (OpS.pick rfl rfl rfl rfl ?_)
        refine RunL.op (OpS.mv rfl rfl rfl ?_)
        refine RunL.op (OpS.pass rfl rfl rfl ?_)
        refine RunL.op (OpS.pass rfl rfl rfl ?_)
        refine RunL.op (OpS.pass rfl rfl rfl ?_)
        refine RunL.op (OpS.pass rfl rfl rfl ?_)
        refine RunL.op (OpS.pass rfl rfl rfl ?_)
        refine RunL.op (OpS.pick rfl rfl rfl rfl ?_)
        refine RunL.op (OpS.mv rfl rfl rfl ?_)
        refine RunL.op (OpS.pass rfl rfl rfl ?_)
        refine RunL.op (OpS.pass rfl rfl rfl ?_)
        refine RunL.op (OpS.pass rfl rfl rfl ?_)
        refine RunL.op (OpS.pass rfl rfl rfl ?_)
        refine RunL.op (OpS.pass rfl rfl rfl ?_)
        refine RunL.op (OpS.pass rfl rfl rfl ?_)
        refine RunL.op (OpS.pass rfl rfl rfl ?_)
        refine RunL.op (OpS.pick rfl rfl rfl rfl ?_)
        refine RunL.op (OpS.as rfl rfl rfl ?_)
        refine RunL.nil ?_
        refine Run.slim [(4, .bool false)] ⟨rfl, trivial⟩ ?_
        refine Run.retP rfl (.tmp rfl .nil) ?_
        cases hF
        exact Post.mk' ⟨rfl, rfl, rfl, rfl⟩ (h2.picks .nil) .nil
    ·
      refine RunL.op (OpS.pass rfl rfl rfl ?_)
      refine RunL.op (OpS.pass rfl rfl rfl ?_)
      refine RunL.op (OpS.pass rfl rfl rfl ?_)
      refine RunL.op (OpS.pass rfl rfl rfl ?_)
      refine RunL.op (OpS.pass rfl rfl rfl ?_)
      refine RunL.op (OpS.pick rfl rfl rfl rfl ?_)
      refine RunL.op (OpS.mv rfl rfl rfl ?_)
      refine RunL.op (OpS.pass rfl rfl rfl ?_)
      refine RunL.op (OpS.pass rfl rfl rfl ?_)
      refine RunL.op (OpS.pass rfl rfl rfl ?_)
      refine RunL.op (OpS.pass rfl rfl rfl ?_)
      refine RunL.op (OpS.pass rfl rfl rfl ?_)
      refine RunL.op (OpS.pick rfl rfl rfl rfl ?_)
      refine RunL.op (OpS.mv rfl rfl rfl ?_)
      refine RunL.op (OpS.pass rfl rfl rfl ?_)
      refine RunL.op (OpS.pass rfl rfl rfl ?_)
      refine RunL.op (OpS.pass rfl rfl rfl ?_)
      refine RunL.op (OpS.pass rfl rfl rfl ?_)
      refine RunL.op (OpS.pass rfl rfl rfl ?_)
      refine RunL.op (OpS.pick rfl rfl rfl rfl ?_)
      refine RunL.op (OpS.mv rfl rfl rfl ?_)
      refine RunL.op (OpS.pass rfl rfl rfl ?_)
      refine RunL.op (OpS.pass rfl rfl rfl ?_)
      refine RunL.op (OpS.pass rfl rfl rfl ?_)
      refine RunL.op (OpS.pass rfl rfl rfl ?_)
      refine RunL.op (OpS.pass rfl rfl rfl ?_)
      refine RunL.op (OpS.pick rfl rfl rfl rfl ?_)
      refine RunL.op (OpS.mv rfl rfl rfl ?_)
      refine RunL.op (OpS.pass rfl rfl rfl ?_)
      refine RunL.op (OpS.pass rfl rfl rfl ?_)
      refine RunL.op (OpS.pass rfl rfl rfl ?_)
      refine RunL.op (OpS.pass rfl rfl rfl ?_)
      refine RunL.op (OpS.pass rfl rfl rfl ?_)
      refine RunL.op (OpS.pick rfl rfl rfl rfl ?_)
      refine RunL.op (OpS.mv rfl rfl rfl ?_)
      refine RunL.op (OpS.pass rfl rfl rfl ?_)
      refine RunL.op (OpS.pass rfl rfl rfl ?_)
      refine RunL.op (OpS.pass rfl rfl rfl ?_)
      refine RunL.op (OpS.pass rfl rfl rfl ?_)
      refine RunL.op (OpS.pass rfl rfl rfl ?_)
      refine RunL.op (OpS.pick rfl rfl rfl rfl ?_)
      refine RunL.op (OpS.mv rfl rfl rfl ?_)
      refine RunL.op (OpS.pass rfl rfl rfl ?_)
      refine RunL.op (OpS.pass rfl rfl rfl ?_)
      refine RunL.op (OpS.pass rfl rfl rfl ?_)
      refine RunL.op (OpS.pass rfl rfl rfl ?_)
      refine RunL.op (OpS.pass rfl rfl rfl ?_)
      refine RunL.op (OpS.pass rfl rfl rfl ?_)
      refine RunL.op (OpS.pass rfl rfl rfl ?_)
      refine RunL.op (OpS.pick rfl rfl rfl rfl ?_)
      refine RunL.op (OpS.as rfl rfl rfl ?_)
      refine RunL.nil ?_
      refine Run.slim [(4, .bool false)] ⟨rfl, trivial⟩ ?_
      refine Run.retP rfl (.tmp rfl .nil) ?_
      cases hF
      exact Post.mk' ⟨rfl, rfl, rfl, rfl⟩ (h2.picks .nil) .nil
  ·
    refine RunL.op (OpS.pass rfl rfl rfl ?_)
    refine RunL.op (OpS.pass rfl rfl rfl ?_)
    refine RunL.op (OpS.pass rfl rfl rfl ?_)
    refine RunL.op (OpS.pass rfl rfl rfl ?_)
    refine RunL.op (OpS.pass rfl rfl rfl ?_)
    refine RunL.op (OpS.pick rfl rfl rfl rfl ?_)
    refine RunL.op (OpS.mv rfl rfl rfl ?_)
    refine RunL.op (OpS.pass rfl rfl rfl ?_)
    refine RunL.op (OpS.pass rfl rfl rfl ?_)
    refine RunL.op (OpS.pass rfl rfl rfl ?_)
    refine RunL.op (OpS.pass rfl rfl rfl ?_)
    refine RunL.op (OpS.pass rfl rfl rfl ?_)
    refine RunL.op (OpS.pick rfl rfl rfl rfl ?_)
    refine RunL.op (OpS.mv rfl rfl rfl ?_)
    refine RunL.op (OpS.pass rfl rfl rfl ?_)
    refine RunL.op (OpS.pass rfl rfl rfl ?_)
    refine RunL.op (OpS.pass rfl rfl rfl ?_)
    refine RunL.op (OpS.pass rfl rfl rfl ?_)
    refine RunL.op (OpS.pass rfl rfl rfl ?_)
    refine RunL.op (OpS.pick rfl rfl rfl rfl ?_)
    refine RunL.op (OpS.mv rfl rfl rfl ?_)
    refine RunL.op (OpS.pass rfl rfl rfl ?_)
    refine RunL.op (OpS.pass rfl rfl rfl ?_)
    refine RunL.op (OpS.pass rfl rfl rfl ?_)
    refine RunL.op (OpS.pass rfl rfl rfl ?_)
    refine RunL.op (OpS.pass rfl rfl rfl ?_)
    refine RunL.op (OpS.pick rfl rfl rfl rfl ?_)
    refine RunL.op (OpS.mv rfl rfl rfl ?_)
    refine RunL.op (OpS.pass rfl rfl rfl ?_)
    refine RunL.op (OpS.pass rfl rfl rfl ?_)
    refine RunL.op (OpS.pass rfl rfl rfl ?_)
    refine RunL.op (OpS.pass rfl rfl rfl ?_)
    refine RunL.op (OpS.pass rfl rfl rfl ?_)
    refine RunL.op (OpS.pick rfl rfl rfl rfl ?_)
    refine RunL.op (OpS.mv rfl rfl rfl ?_)
    refine RunL.op (OpS.pass rfl rfl rfl ?_)
    refine RunL.op (OpS.pass rfl rfl rfl ?_)
    refine RunL.op (OpS.pass rfl rfl rfl ?_)
    refine RunL.op (OpS.pass rfl rfl rfl ?_)
    refine RunL.op (OpS.pass rfl rfl rfl ?_)
    refine RunL.op (OpS.pick rfl rfl rfl rfl ?_)
    refine RunL.op (OpS.mv rfl rfl rfl ?_)
    refine RunL.op (OpS.pass rfl rfl rfl ?_)
    refine RunL.op (OpS.pass rfl rfl rfl ?_)
    refine RunL.op (OpS.pass rfl rfl rfl ?_)
    refine RunL.op (OpS.pass rfl rfl rfl ?_)
    refine RunL.op (OpS.pass rfl rfl rfl ?_)
    refine RunL.op (OpS.pick rfl rfl rfl rfl ?_)
    refine RunL.op (OpS.mv rfl rfl rfl ?_)
    refine RunL.op (OpS.pass rfl rfl rfl ?_)
    refine RunL.op (OpS.pass rfl rfl rfl ?_)
    refine RunL.op (OpS.pass rfl rfl rfl ?_)
    refine RunL.op (OpS.pass rfl rfl rfl ?_)
    refine RunL.op (OpS.pass rfl rfl rfl ?_)
    refine RunL.op (OpS.pass rfl rfl rfl ?_)
    refine RunL.op (OpS.pass rfl rfl rfl ?_)
    refine RunL.op (OpS.pick rfl rfl rfl rfl ?_)
    refine RunL.op (OpS.as rfl rfl rfl ?_)
    refine RunL.nil ?_
    refine Run.slim [(4, .bool false)] ⟨rfl, trivial⟩ ?_
    refine Run.retP rfl (.tmp rfl .nil) ?_
    cases hF
    exact Post.mk' ⟨rfl, rfl, rfl, rfl⟩ (h2.picks .nil) .nil
set_option maxHeartbeats 8000000 in
theorem ref24_Same_ok {fuel : Nat} {a0 : Requester_} {a1 : Requester_} {y : Bool} (hF : ref24_Same fuel a0 a1 = some y) {w : World} {v0 v1 : Value} :
    Spec Try.prog 16 [v0, v1].toArray w [(false, .val Requester_.rep v0 a0), (false, .val Requester_.rep v1 a1)] [] (fun v Γr Ωr Ωo => v = .bool y ∧ Γr = [] ∧ Ωr = [] ∧ Ωo = []) := by
  refine Spec.of (L := [(0, v0), (1, v1)]) Try.func16 rfl ⟨rfl, rfl, trivial⟩ rfl (fun e h => ?_)
  unfold ref24_Same at hF
  refine Run.seq ?_
  refine Run.reg ?_
  refine RunL.op (OpS.boxF h rfl rfl rfl (V.at .z) (fun u1 w1 h1 => ?_))
  refine RunL.op (OpS.boxF h1 rfl rfl rfl (V.at (.s .z)) (fun u2 w2 h2 => ?_))
  refine RunL.op (OpS.as rfl rfl rfl ?_)
  refine RunL.nil ?_
  refine Run.slim [(3, u2), (2, u1)] ⟨rfl, rfl, trivial⟩ ?_
  refine Run.seq ?_
  refine Run.seq ?_
  refine Run.reg ?_
  refine RunL.op (OpS.fbox (o3 := 0) h2 (.s .z) PA.z fa26_0 rfl rfl rfl rfl ?_)
  refine RunL.op (OpS.loadBi h2 (.s .z) PA.a (Get.fld Requester_.f0) ty5 rfl rfl rfl ?_)
  refine RunL.op (OpS.fbox (o3 := 0) h2 .z PA.z fa26_0 rfl rfl rfl rfl ?_)
  refine RunL.op (OpS.loadBi h2 .z PA.a (Get.fld Requester_.f0) ty5 rfl rfl rfl ?_)
  refine RunL.op (OpS.bin rfl rfl rfl rfl rfl ?_)
  refine RunL.op (OpS.mv rfl rfl rfl ?_)
  refine RunL.join (σ := Bool) (fun s_ L_ w_ => L_ = [(2, u1), (3, u2), (26, .bool s_)] ∧ St e w_ [] [(false, .box 26 Requester_.rep u1 a0), (false, .box 26 Requester_.rep u2 a1)]) hF (fun s1 _ w3 hI hF => ?_) (fun j1 hj1 hF => ?_)
  ·
    obtain ⟨rfl, h3⟩ := hI
    refine Run.ite rfl hF (fun e1 hF => ?_) (fun e1 hF => ?_)
    ·
      refine Run.seq ?_
      refine Run.reg ?_
      refine RunL.op (OpS.as rfl rfl rfl ?_)
      refine RunL.nil ?_
      refine Run.slim [(4, .bool false)] ⟨rfl, trivial⟩ ?_
      refine Run.retP rfl (.tmp rfl .nil) ?_
      cases hF
      exact Post.mk' ⟨rfl, rfl, rfl, rfl⟩ (h3.picks .nil) .nil
    ·
      refine Run.skip ?_
      refine Run.seq ?_
      refine Run.seq ?_
      refine Run.reg ?_
      refine RunL.op (OpS.as rfl rfl rfl ?_)
      refine RunL.nil ?_
      refine Run.slim [(5, .int .i64 0), (2, u1), (3, u2)] ⟨rfl, rfl, rfl, trivial⟩ ?_
      refine Run.block ?_
      refine Run.slim [(2, u1), (3, u2), (5, .int .i64 0)] ⟨rfl, rfl, rfl, trivial⟩ ?_
      refine Run.loopP (σ := Int) (fun s_ L_ w_ => L_ = [(2, u1), (3, u2), (5, .int .i64 s_)] ∧ St e w_ [] [(false, .box 26 Requester_.rep u1 a0), (false, .box 26 Requester_.rep u2 a1)]) hF ⟨rfl, (h3.facts .nil).picks (.cons .z (.cons .z .nil))⟩ (fun k1 hk1 s2 _ w4 hI hF => ?_)
      obtain ⟨rfl, h4⟩ := hI
      refine Run.seq ?_
      refine Run.seq ?_
      refine Run.reg ?_
      refine RunL.op (OpS.mv rfl rfl rfl ?_)
      refine RunL.op (OpS.fbox (o3 := 2) h4 .z PA.z fa26_2 rfl rfl rfl rfl ?_)
      refine RunL.op (OpS.loadB h4 .z PA.a (Get.fld Requester_.f2) ty24 rfl rfl rfl (fun u3 h5 => ?_))
      refine RunL.op (OpS.len h5 Try.underlying24 rfl rfl rfl (V.at .z) ?_)
      refine RunL.op (OpS.bin rfl rfl rfl rfl rfl ?_)
      refine RunL.nil ?_
      refine Run.slim [(31, .bool (decide (s2 < (a0.Pending.length : Int)))), (2, u1), (3, u2), (5, .int .i64 s2)] ⟨rfl, rfl, rfl, rfl, trivial⟩ ?_
      refine Run.ite rfl hF (fun e2 hF => ?_) (fun e2 hF => ?_)
      ·
        refine Run.skip ?_
        refine Run.seq ?_
        refine Run.block ?_
        refine Run.seq ?_
        refine Run.join (σ := Bool) (fun s_ L_ w_ => L_ = [(2, u1), (3, u2), (5, .int .i64 s2), (77, .bool s_)] ∧ St e w_ [] [(false, .box 26 Requester_.rep u1 a0), (false, .box 26 Requester_.rep u2 a1)]) hF (fun s3 _ w5 hI hF => ?_) (fun j2 hj2 hF => ?_)
        ·
          obtain ⟨rfl, h6⟩ := hI
          refine Run.ite rfl hF (fun e3 hF => ?_) (fun e3 hF => ?_)
          ·
            refine Run.seq ?_
            refine Run.reg ?_
            refine RunL.op (OpS.as rfl rfl rfl ?_)
            refine RunL.nil ?_
            refine Run.slim [(4, .bool false)] ⟨rfl, trivial⟩ ?_
            refine Run.retP rfl (.tmp rfl .nil) ?_
            cases hF
            exact Post.mk' ⟨rfl, rfl, rfl, rfl⟩ (h6.picks .nil) .nil
          ·
            refine Run.skip ?_
            refine Run.endBlock ?_
            refine Run.reg ?_
            refine RunL.op (OpS.mv rfl rfl rfl ?_)
            refine RunL.op (OpS.bin rfl rfl rfl rfl rfl ?_)
            refine RunL.op (OpS.as rfl rfl rfl ?_)
            obtain ⟨x1, e4, hF⟩ := letP_use hF
            refine RunL.name e4 ?_
            refine RunL.nil ?_
            refine Run.slim [(5, .int .i64 x1), (2, u1), (3, u2)] ⟨rfl, rfl, rfl, trivial⟩ ?_
            refine Run.slim [(2, u1), (3, u2), (5, .int .i64 x1)] ⟨rfl, rfl, rfl, trivial⟩ ?_
            exact hk1 (x1) _ _ ⟨rfl, (h6.facts .nil).picks (.cons .z (.cons .z .nil))⟩ hF
        ·
          obtain ⟨x2, e5, hF⟩ := bindP_use hF
          obtain ⟨x3, e6, hF⟩ := bindP_use hF
          obtain ⟨x4, e7, hF⟩ := letP_use hF
          refine iteP_use hF (fun e8 hF => ?_) (fun e8 hF => ?_)
          ·
            have hG := hF
            subst e8
            have hF := hG
            refine Run.drawV (Ωs := []) [⟨some 34, some ((padd u1 2)), fun _ => [], fun ds_ u_ => [], [], [(0, [])], none⟩, ⟨some 35, none, fun u_ => [(false, .val (Rep.slice Pending_.rep) u_ a0.Pending)], fun ds_ u_ => [], [], [(0, [])], none⟩, ⟨some 36, some (.int .i64 s2), fun _ => [], fun ds_ u_ => [], [], [], none⟩, ⟨some 37, none, fun u_ => [(false, .ptr Pending_.rep u_ x2)], fun ds_ u_ => [], [], [], none⟩, ⟨some 38, none, fun u_ => [(false, .ptr (Rep.int .i64) u_ x2.Deadline)], fun ds_ u_ => [], [], [], none⟩, ⟨some 39, some (.int .i64 x2.Deadline), fun _ => [], fun ds_ u_ => [], [], [], none⟩, ⟨some 40, some ((padd u2 2)), fun _ => [], fun ds_ u_ => [], [], [(1, [])], none⟩, ⟨some 41, none, fun u_ => [(false, .val (Rep.slice Pending_.rep) u_ a1.Pending)], fun ds_ u_ => [], [], [(1, [])], none⟩, ⟨some 42, some (.int .i64 s2), fun _ => [], fun ds_ u_ => [], [], [], none⟩, ⟨some 43, none, fun u_ => [(false, .ptr Pending_.rep u_ x3)], fun ds_ u_ => [], [], [], none⟩, ⟨some 44, none, fun u_ => [(false, .ptr (Rep.int .i64) u_ x3.Deadline)], fun ds_ u_ => [], [], [], none⟩, ⟨some 45, some (.int .i64 x3.Deadline), fun _ => [], fun ds_ u_ => [], [], [], none⟩, ⟨some 46, some (.bool (x2.Deadline != x3.Deadline)), fun _ => [], fun ds_ u_ => [], [], [], none⟩, ⟨some 47, some (.bool true), fun _ => [], fun ds_ u_ => [], [], [], none⟩, ⟨some 48, some undef, fun _ => [], fun _ _ => [], [], [], none⟩, ⟨some 49, some undef, fun _ => [], fun _ _ => [], [], [], none⟩, ⟨some 50, some undef, fun _ => [], fun _ _ => [], [], [], none⟩, ⟨some 51, some undef, fun _ => [], fun _ _ => [], [], [], none⟩, ⟨some 52, some undef, fun _ => [], fun _ _ => [], [], [], none⟩, ⟨some 53, some undef, fun _ => [], fun _ _ => [], [], [], none⟩, ⟨some 54, some undef, fun _ => [], fun _ _ => [], [], [], none⟩, ⟨some 55, some undef, fun _ => [], fun _ _ => [], [], [], none⟩, ⟨some 56, some undef, fun _ => [], fun _ _ => [], [], [], none⟩, ⟨some 57, some undef, fun _ => [], fun _ _ => [], [], [], none⟩, ⟨some 58, some undef, fun _ => [], fun _ _ => [], [], [], none⟩, ⟨some 59, some undef, fun _ => [], fun _ _ => [], [], [], none⟩, ⟨some 60, some undef, fun _ => [], fun _ _ => [], [], [], none⟩, ⟨some 61, some (.bool true), fun _ => [], fun ds_ u_ => [], [], [], none⟩, ⟨some 62, some (.bool true), fun _ => [], fun ds_ u_ => [], [], [], none⟩, ⟨some 63, some undef, fun _ => [], fun _ _ => [], [], [], none⟩, ⟨some 64, some undef, fun _ => [], fun _ _ => [], [], [], none⟩, ⟨some 65, some undef, fun _ => [], fun _ _ => [], [], [], none⟩, ⟨some 66, some undef, fun _ => [], fun _ _ => [], [], [], none⟩, ⟨some 67, some undef, fun _ => [], fun _ _ => [], [], [], none⟩, ⟨some 68, some undef, fun _ => [], fun _ _ => [], [], [], none⟩, ⟨some 69, some undef, fun _ => [], fun _ _ => [], [], [], none⟩, ⟨some 70, some undef, fun _ => [], fun _ _ => [], [], [], none⟩, ⟨some 71, some undef, fun _ => [], fun _ _ => [], [], [], none⟩, ⟨some 72, some undef, fun _ => [], fun _ _ => [], [], [], none⟩, ⟨some 73, some undef, fun _ => [], fun _ _ => [], [], [], none⟩, ⟨some 74, some undef, fun _ => [], fun _ _ => [], [], [], none⟩, ⟨some 75, some undef, fun _ => [], fun _ _ => [], [], [], none⟩, ⟨some 76, some undef, fun _ => [], fun _ _ => [], [], [], none⟩, ⟨some 77, some (.bool true), fun _ => [], fun ds_ u_ => [], [], [], none⟩] [[], [0], [], [1, 2], [3], [4], [], [6], [], [7, 8], [9], [10], [5, 11], [12], [13], [13], [13], [13], [13], [13], [13], [13], [13], [13], [13], [13], [13], [13, 26], [27], [28], [28], [28], [28], [28], [28], [28], [28], [28], [28], [28], [28], [28], [28], [28, 42]] [[(false, .box 26 Requester_.rep u1 a0)], [(false, .box 26 Requester_.rep u2 a1)]] [0, 1, 2, 3, 4, 5, 6, 7, 8, 9, 10, 11, 12, 13, 14, 15, 16, 17, 18, 19, 20, 21, 22, 23, 24, 25, 26, 27, 28, 29, 30, 31, 32, 33, 34, 35, 36, 37, 38, 39, 40, 41, 42, 43, 44, 45] Try_mixed rfl rfl rfl h5 (.cons ?_ (.cons ?_ (.cons ?_ (.cons ?_ (.cons ?_ (.cons ?_ (.cons ?_ (.cons ?_ (.cons ?_ (.cons ?_ (.cons ?_ (.cons ?_ (.cons ?_ (.cons ?_ (.cons ?_ (.cons ?_ (.cons ?_ (.cons ?_ (.cons ?_ (.cons ?_ (.cons ?_ (.cons ?_ (.cons ?_ (.cons ?_ (.cons ?_ (.cons ?_ (.cons ?_ (.cons ?_ (.cons ?_ (.cons ?_ (.cons ?_ (.cons ?_ (.cons ?_ (.cons ?_ (.cons ?_ (.cons ?_ (.cons ?_ (.cons ?_ (.cons ?_ (.cons ?_ (.cons ?_ (.cons ?_ (.cons ?_ (.cons ?_ .nil)))))))))))))))))))))))))))))))))))))))))))) (fun q1 w hq1 h => ?_)
            · intro q1 w Γx Ωx h
              have h : St e w ([(false, .val (Rep.slice Pending_.rep) u3 a0.Pending)] ++ Γx) ([(false, .box 26 Requester_.rep u1 a0)] ++ Ωx) := h
              refine OpS.fbox (o3 := 2) h .z PA.z fa26_2 rfl rfl rfl rfl ?_
              exact ⟨undef, rfl, trivial, h⟩
            · intro q1 w Γx Ωx h
              have h : St e w ([(false, .val (Rep.slice Pending_.rep) u3 a0.Pending)] ++ Γx) ([(false, .box 26 Requester_.rep u1 a0)] ++ Ωx) := h
              refine OpS.loadB h .z PA.a (Get.fld Requester_.f2) ty24 rfl rfl rfl (fun u h13 => ?_)
              exact ⟨u, rfl, trivial, h13⟩
            · intro q1 w Γx Ωx h
              refine OpS.mv rfl rfl rfl ?_
              exact ⟨undef, rfl, trivial, h⟩
            · intro q1 w Γx Ωx h
              refine OpS.iptr h Try.underlying24 ty55 rfl rfl rfl rfl (V.at .z) e5 (fun u h14 => ?_)
              exact ⟨u, rfl, trivial, h14⟩
            · intro q1 w Γx Ωx h
              refine OpS.fptr h fa55_1 Pending_.f1 rfl rfl rfl .z (fun u h15 => ?_)
              exact ⟨u, rfl, trivial, h15⟩
            · intro q1 w Γx Ωx h
              refine OpS.loadi h ty2 rfl rfl rfl .z ?_
              exact ⟨undef, rfl, trivial, h⟩
            · intro q1 w Γx Ωx h
              have h : St e w ([(false, .val (Rep.slice Pending_.rep) u3 a0.Pending)] ++ Γx) ([(false, .box 26 Requester_.rep u2 a1)] ++ Ωx) := h
              refine OpS.fbox (o3 := 2) h .z PA.z fa26_2 rfl rfl rfl rfl ?_
              exact ⟨undef, rfl, trivial, h⟩
            · intro q1 w Γx Ωx h
              have h : St e w ([(false, .val (Rep.slice Pending_.rep) u3 a0.Pending)] ++ Γx) ([(false, .box 26 Requester_.rep u2 a1)] ++ Ωx) := h
              refine OpS.loadB h .z PA.a (Get.fld Requester_.f2) ty24 rfl rfl rfl (fun u h16 => ?_)
              exact ⟨u, rfl, trivial, h16⟩
            · intro q1 w Γx Ωx h
              refine OpS.mv rfl rfl rfl ?_
              exact ⟨undef, rfl, trivial, h⟩
            · intro q1 w Γx Ωx h
              refine OpS.iptr h Try.underlying24 ty55 rfl rfl rfl rfl (V.at .z) e6 (fun u h17 => ?_)
              exact ⟨u, rfl, trivial, h17⟩
            · intro q1 w Γx Ωx h
              refine OpS.fptr h fa55_1 Pending_.f1 rfl rfl rfl .z (fun u h18 => ?_)
              exact ⟨u, rfl, trivial, h18⟩
            · intro q1 w Γx Ωx h
              refine OpS.loadi h ty2 rfl rfl rfl .z ?_
              exact ⟨undef, rfl, trivial, h⟩
            · intro q1 w Γx Ωx h
              refine OpS.bin rfl rfl rfl rfl rfl ?_
              exact ⟨undef, rfl, trivial, h⟩
            · intro q1 w Γx Ωx h
              refine OpS.mv rfl rfl rfl ?_
              exact ⟨undef, (congrArg (fun z_ => some (Value.bool z_)) e7), trivial, h⟩
            · intro q1 w Γx Ωx h
              exact OpS.pass rfl rfl rfl ⟨undef, rfl, trivial, h⟩
            · intro q1 w Γx Ωx h
              exact OpS.pass rfl rfl rfl ⟨undef, rfl, trivial, h⟩
            · intro q1 w Γx Ωx h
              exact OpS.pass rfl rfl rfl ⟨undef, rfl, trivial, h⟩
            · intro q1 w Γx Ωx h
              exact OpS.pass rfl rfl rfl ⟨undef, rfl, trivial, h⟩
            · intro q1 w Γx Ωx h
              exact OpS.pass rfl rfl rfl ⟨undef, rfl, trivial, h⟩
            · intro q1 w Γx Ωx h
              exact OpS.pass rfl rfl rfl ⟨undef, rfl, trivial, h⟩
            · intro q1 w Γx Ωx h
              exact OpS.pass rfl rfl rfl ⟨undef, rfl, trivial, h⟩
            · intro q1 w Γx Ωx h
              exact OpS.pass rfl rfl rfl ⟨undef, rfl, trivial, h⟩
            · intro q1 w Γx Ωx h
              exact OpS.pass rfl rfl rfl ⟨undef, rfl, trivial, h⟩
            · intro q1 w Γx Ωx h
              exact OpS.pass rfl rfl rfl ⟨undef, rfl, trivial, h⟩
            · intro q1 w Γx Ωx h
              exact OpS.pass rfl rfl rfl ⟨undef, rfl, trivial, h⟩
            · intro q1 w Γx Ωx h
              exact OpS.pass rfl rfl rfl ⟨undef, rfl, trivial, h⟩
            · intro q1 w Γx Ωx h
              exact OpS.pass rfl rfl rfl ⟨undef, rfl, trivial, h⟩
            · intro q1 w Γx Ωx h
              refine OpS.pick rfl rfl rfl rfl ?_
              exact ⟨undef, rfl, trivial, h⟩
            · intro q1 w Γx Ωx h
              refine OpS.mv rfl rfl rfl ?_
              exact ⟨undef, rfl, trivial, h⟩
            · intro q1 w Γx Ωx h
              exact OpS.pass rfl rfl rfl ⟨undef, rfl, trivial, h⟩
            · intro q1 w Γx Ωx h
              exact OpS.pass rfl rfl rfl ⟨undef, rfl, trivial, h⟩
            · intro q1 w Γx Ωx h
              exact OpS.pass rfl rfl rfl ⟨undef, rfl, trivial, h⟩
            · intro q1 w Γx Ωx h
              exact OpS.pass rfl rfl rfl ⟨undef, rfl, trivial, h⟩
            · intro q1 w Γx Ωx h
              exact OpS.pass rfl rfl rfl ⟨undef, rfl, trivial, h⟩
            · intro q1 w Γx Ωx h
              exact OpS.pass rfl rfl rfl ⟨undef, rfl, trivial, h⟩
            · intro q1 w Γx Ωx h
              exact OpS.pass rfl rfl rfl ⟨undef, rfl, trivial, h⟩
            · intro q1 w Γx Ωx h
              exact OpS.pass rfl rfl rfl ⟨undef, rfl, trivial, h⟩
            · intro q1 w Γx Ωx h
              exact OpS.pass rfl rfl rfl ⟨undef, rfl, trivial, h⟩
            · intro q1 w Γx Ωx h
              exact OpS.pass rfl rfl rfl ⟨undef, rfl, trivial, h⟩
            · intro q1 w Γx Ωx h
              exact OpS.pass rfl rfl rfl ⟨undef, rfl, trivial, h⟩
            · intro q1 w Γx Ωx h
              exact OpS.pass rfl rfl rfl ⟨undef, rfl, trivial, h⟩
            · intro q1 w Γx Ωx h
              exact OpS.pass rfl rfl rfl ⟨undef, rfl, trivial, h⟩
            · intro q1 w Γx Ωx h
              exact OpS.pass rfl rfl rfl ⟨undef, rfl, trivial, h⟩
            · intro q1 w Γx Ωx h
              refine OpS.pick rfl rfl rfl rfl ?_
              exact ⟨undef, rfl, trivial, h⟩
            have h19 : St e w [(false, .val (Rep.slice Pending_.rep) (q1 1) a0.Pending), (false, .ptr Pending_.rep (q1 3) x2), (false, .ptr (Rep.int .i64) (q1 4) x2.Deadline), (false, .val (Rep.slice Pending_.rep) (q1 7) a1.Pending), (false, .ptr Pending_.rep (q1 9) x3), (false, .ptr (Rep.int .i64) (q1 10) x3.Deadline), (false, .val (Rep.slice Pending_.rep) u3 a0.Pending)] [(false, .box 26 Requester_.rep u1 a0), (false, .box 26 Requester_.rep u2 a1)] := h
            refine RunL.nil ?_
            refine Run.slim [(77, .bool true), (2, u1), (3, u2), (5, .int .i64 s2)] ⟨rfl, rfl, rfl, rfl, trivial⟩ ?_
            refine Run.slim [(2, u1), (3, u2), (5, .int .i64 s2), (77, .bool true)] ⟨rfl, rfl, rfl, rfl, trivial⟩ ?_
            exact hj2 (true) _ _ ⟨rfl, (h19.facts .nil).picks (.cons .z (.cons .z .nil))⟩ hF
          ·
            have hG := hF
            subst e8
            have hF := hG
            obtain ⟨x5, e9, hF⟩ := bindP_use hF
            obtain ⟨x6, e10, hF⟩ := bindP_use hF
            obtain ⟨x7, e11, hF⟩ := letP_use hF
            refine iteP_use hF (fun e12 hF => ?_) (fun e12 hF => ?_)
            ·
              have hG := hF
              subst e12
              have hF := hG
              refine Run.drawV (Ωs := []) [⟨some 34, some ((padd u1 2)), fun _ => [], fun ds_ u_ => [], [], [(0, [])], none⟩, ⟨some 35, none, fun u_ => [(false, .val (Rep.slice Pending_.rep) u_ a0.Pending)], fun ds_ u_ => [], [], [(0, [])], none⟩, ⟨some 36, some (.int .i64 s2), fun _ => [], fun ds_ u_ => [], [], [], none⟩, ⟨some 37, none, fun u_ => [(false, .ptr Pending_.rep u_ x2)], fun ds_ u_ => [], [], [], none⟩, ⟨some 38, none, fun u_ => [(false, .ptr (Rep.int .i64) u_ x2.Deadline)], fun ds_ u_ => [], [], [], none⟩, ⟨some 39, some (.int .i64 x2.Deadline), fun _ => [], fun ds_ u_ => [], [], [], none⟩, ⟨some 40, some ((padd u2 2)), fun _ => [], fun ds_ u_ => [], [], [(1, [])], none⟩, ⟨some 41, none, fun u_ => [(false, .val (Rep.slice Pending_.rep) u_ a1.Pending)], fun ds_ u_ => [], [], [(1, [])], none⟩, ⟨some 42, some (.int .i64 s2), fun _ => [], fun ds_ u_ => [], [], [], none⟩, ⟨some 43, none, fun u_ => [(false, .ptr Pending_.rep u_ x3)], fun ds_ u_ => [], [], [], none⟩, ⟨some 44, none, fun u_ => [(false, .ptr (Rep.int .i64) u_ x3.Deadline)], fun ds_ u_ => [], [], [], none⟩, ⟨some 45, some (.int .i64 x3.Deadline), fun _ => [], fun ds_ u_ => [], [], [], none⟩, ⟨some 46, some (.bool (x2.Deadline != x3.Deadline)), fun _ => [], fun ds_ u_ => [], [], [], none⟩, ⟨some 47, some (.bool false), fun _ => [], fun ds_ u_ => [], [], [], none⟩, ⟨some 48, some ((padd u1 2)), fun _ => [], fun ds_ u_ => [], [], [(0, [])], none⟩, ⟨some 49, none, fun u_ => [(false, .val (Rep.slice Pending_.rep) u_ a0.Pending)], fun ds_ u_ => [], [], [(0, [])], none⟩, ⟨some 50, some (.int .i64 s2), fun _ => [], fun ds_ u_ => [], [], [], none⟩, ⟨some 51, none, fun u_ => [(false, .ptr Pending_.rep u_ x5)], fun ds_ u_ => [], [], [], none⟩, ⟨some 52, none, fun u_ => [(false, .ptr (Rep.int .i64) u_ x5.Tries)], fun ds_ u_ => [], [], [], none⟩, ⟨some 53, some (.int .i64 x5.Tries), fun _ => [], fun ds_ u_ => [], [], [], none⟩, ⟨some 54, some ((padd u2 2)), fun _ => [], fun ds_ u_ => [], [], [(1, [])], none⟩, ⟨some 55, none, fun u_ => [(false, .val (Rep.slice Pending_.rep) u_ a1.Pending)], fun ds_ u_ => [], [], [(1, [])], none⟩, ⟨some 56, some (.int .i64 s2), fun _ => [], fun ds_ u_ => [], [], [], none⟩, ⟨some 57, none, fun u_ => [(false, .ptr Pending_.rep u_ x6)], fun ds_ u_ => [], [], [], none⟩, ⟨some 58, none, fun u_ => [(false, .ptr (Rep.int .i64) u_ x6.Tries)], fun ds_ u_ => [], [], [], none⟩, ⟨some 59, some (.int .i64 x6.Tries), fun _ => [], fun ds_ u_ => [], [], [], none⟩, ⟨some 60, some (.bool (x5.Tries != x6.Tries)), fun _ => [], fun ds_ u_ => [], [], [], none⟩, ⟨some 61, some (.bool (x5.Tries != x6.Tries)), fun _ => [], fun ds_ u_ => [], [], [], none⟩, ⟨some 62, some (.bool true), fun _ => [], fun ds_ u_ => [], [], [], none⟩, ⟨some 63, some undef, fun _ => [], fun _ _ => [], [], [], none⟩, ⟨some 64, some undef, fun _ => [], fun _ _ => [], [], [], none⟩, ⟨some 65, some undef, fun _ => [], fun _ _ => [], [], [], none⟩, ⟨some 66, some undef, fun _ => [], fun _ _ => [], [], [], none⟩, ⟨some 67, some undef, fun _ => [], fun _ _ => [], [], [], none⟩, ⟨some 68, some undef, fun _ => [], fun _ _ => [], [], [], none⟩, ⟨some 69, some undef, fun _ => [], fun _ _ => [], [], [], none⟩, ⟨some 70, some undef, fun _ => [], fun _ _ => [], [], [], none⟩, ⟨some 71, some undef, fun _ => [], fun _ _ => [], [], [], none⟩, ⟨some 72, some undef, fun _ => [], fun _ _ => [], [], [], none⟩, ⟨some 73, some undef, fun _ => [], fun _ _ => [], [], [], none⟩, ⟨some 74, some undef, fun _ => [], fun _ _ => [], [], [], none⟩, ⟨some 75, some undef, fun _ => [], fun _ _ => [], [], [], none⟩, ⟨some 76, some undef, fun _ => [], fun _ _ => [], [], [], none⟩, ⟨some 77, some (.bool true), fun _ => [], fun ds_ u_ => [], [], [], none⟩] [[], [0], [], [1, 2], [3], [4], [], [6], [], [7, 8], [9], [10], [5, 11], [12], [13], [14, 13], [13], [15, 16, 13], [17, 13], [18, 13], [13], [20, 13], [13], [21, 22, 13], [23, 13], [24, 13], [19, 25, 13], [13, 26], [27], [28], [28], [28], [28], [28], [28], [28], [28], [28], [28], [28], [28], [28], [28], [28, 42]] [[(false, .box 26 Requester_.rep u1 a0)], [(false, .box 26 Requester_.rep u2 a1)]] [0, 1, 2, 3, 4, 5, 6, 7, 8, 9, 10, 11, 12, 13, 14, 15, 16, 17, 18, 19, 20, 21, 22, 23, 24, 25, 26, 27, 28, 29, 30, 31, 32, 33, 34, 35, 36, 37, 38, 39, 40, 41, 42, 43, 44, 45] Try_mixed rfl rfl rfl h5 (.cons ?_ (.cons ?_ (.cons ?_ (.cons ?_ (.cons ?_ (.cons ?_ (.cons ?_ (.cons ?_ (.cons ?_ (.cons ?_ (.cons ?_ (.cons ?_ (.cons ?_ (.cons ?_ (.cons ?_ (.cons ?_ (.cons ?_ (.cons ?_ (.cons ?_ (.cons ?_ (.cons ?_ (.cons ?_ (.cons ?_ (.cons ?_ (.cons ?_ (.cons ?_ (.cons ?_ (.cons ?_ (.cons ?_ (.cons ?_ (.cons ?_ (.cons ?_ (.cons ?_ (.cons ?_ (.cons ?_ (.cons ?_ (.cons ?_ (.cons ?_ (.cons ?_ (.cons ?_ (.cons ?_ (.cons ?_ (.cons ?_ (.cons ?_ .nil)))))))))))))))))))))))))))))))))))))))))))) (fun q1 w hq2 h => ?_)
              · intro q1 w Γx Ωx h
                have h : St e w ([(false, .val (Rep.slice Pending_.rep) u3 a0.Pending)] ++ Γx) ([(false, .box 26 Requester_.rep u1 a0)] ++ Ωx) := h
                refine OpS.fbox (o3 := 2) h .z PA.z fa26_2 rfl rfl rfl rfl ?_
                exact ⟨undef, rfl, trivial, h⟩
              · intro q1 w Γx Ωx h
                have h : St e w ([(false, .val (Rep.slice Pending_.rep) u3 a0.Pending)] ++ Γx) ([(false, .box 26 Requester_.rep u1 a0)] ++ Ωx) := h
                refine OpS.loadB h .z PA.a (Get.fld Requester_.f2) ty24 rfl rfl rfl (fun u h26 => ?_)
                exact ⟨u, rfl, trivial, h26⟩
              · intro q1 w Γx Ωx h
                refine OpS.mv rfl rfl rfl ?_
                exact ⟨undef, rfl, trivial, h⟩
              · intro q1 w Γx Ωx h
                refine OpS.iptr h Try.underlying24 ty55 rfl rfl rfl rfl (V.at .z) e5 (fun u h27 => ?_)
                exact ⟨u, rfl, trivial, h27⟩
              · intro q1 w Γx Ωx h
                refine OpS.fptr h fa55_1 Pending_.f1 rfl rfl rfl .z (fun u h28 => ?_)
                exact ⟨u, rfl, trivial, h28⟩
              · intro q1 w Γx Ωx h
                refine OpS.loadi h ty2 rfl rfl rfl .z ?_
                exact ⟨undef, rfl, trivial, h⟩
              · intro q1 w Γx Ωx h
                have h : St e w ([(false, .val (Rep.slice Pending_.rep) u3 a0.Pending)] ++ Γx) ([(false, .box 26 Requester_.rep u2 a1)] ++ Ωx) := h
                refine OpS.fbox (o3 := 2) h .z PA.z fa26_2 rfl rfl rfl rfl ?_
                exact ⟨undef, rfl, trivial, h⟩
              · intro q1 w Γx Ωx h
                have h : St e w ([(false, .val (Rep.slice Pending_.rep) u3 a0.Pending)] ++ Γx) ([(false, .box 26 Requester_.rep u2 a1)] ++ Ωx) := h
                refine OpS.loadB h .z PA.a (Get.fld Requester_.f2) ty24 rfl rfl rfl (fun u h29 => ?_)
                exact ⟨u, rfl, trivial, h29⟩
              · intro q1 w Γx Ωx h
                refine OpS.mv rfl rfl rfl ?_
                exact ⟨undef, rfl, trivial, h⟩
              · intro q1 w Γx Ωx h
                refine OpS.iptr h Try.underlying24 ty55 rfl rfl rfl rfl (V.at .z) e6 (fun u h30 => ?_)
                exact ⟨u, rfl, trivial, h30⟩
              · intro q1 w Γx Ωx h
                refine OpS.fptr h fa55_1 Pending_.f1 rfl rfl rfl .z (fun u h31 => ?_)
                exact ⟨u, rfl, trivial, h31⟩
              · intro q1 w Γx Ωx h
                refine OpS.loadi h ty2 rfl rfl rfl .z ?_
                exact ⟨undef, rfl, trivial, h⟩
              · intro q1 w Γx Ωx h
                refine OpS.bin rfl rfl rfl rfl rfl ?_
                exact ⟨undef, rfl, trivial, h⟩
              · intro q1 w Γx Ωx h
                refine OpS.mv rfl rfl rfl ?_
                exact ⟨undef, (congrArg (fun z_ => some (Value.bool z_)) e7), trivial, h⟩
              · intro q1 w Γx Ωx h
                have h : St e w ([(false, .val (Rep.slice Pending_.rep) u3 a0.Pending)] ++ Γx) ([(false, .box 26 Requester_.rep u1 a0)] ++ Ωx) := h
                refine OpS.fbox (o3 := 2) h .z PA.z fa26_2 rfl rfl rfl rfl ?_
                exact ⟨undef, rfl, trivial, h⟩
              · intro q1 w Γx Ωx h
                have h : St e w ([(false, .val (Rep.slice Pending_.rep) u3 a0.Pending)] ++ Γx) ([(false, .box 26 Requester_.rep u1 a0)] ++ Ωx) := h
                refine OpS.loadB h .z PA.a (Get.fld Requester_.f2) ty24 rfl rfl rfl (fun u h32 => ?_)
                exact ⟨u, rfl, trivial, h32⟩
              · intro q1 w Γx Ωx h
                refine OpS.mv rfl rfl rfl ?_
                exact ⟨undef, rfl, trivial, h⟩
              · intro q1 w Γx Ωx h
                refine OpS.iptr h Try.underlying24 ty55 rfl rfl rfl rfl (V.at .z) e9 (fun u h33 => ?_)
                exact ⟨u, rfl, trivial, h33⟩
              · intro q1 w Γx Ωx h
                refine OpS.fptr h fa55_2 Pending_.f2 rfl rfl rfl .z (fun u h34 => ?_)
                exact ⟨u, rfl, trivial, h34⟩
              · intro q1 w Γx Ωx h
                refine OpS.loadi h ty3 rfl rfl rfl .z ?_
                exact ⟨undef, rfl, trivial, h⟩
              · intro q1 w Γx Ωx h
                have h : St e w ([(false, .val (Rep.slice Pending_.rep) u3 a0.Pending)] ++ Γx) ([(false, .box 26 Requester_.rep u2 a1)] ++ Ωx) := h
                refine OpS.fbox (o3 := 2) h .z PA.z fa26_2 rfl rfl rfl rfl ?_
                exact ⟨undef, rfl, trivial, h⟩
              · intro q1 w Γx Ωx h
                have h : St e w ([(false, .val (Rep.slice Pending_.rep) u3 a0.Pending)] ++ Γx) ([(false, .box 26 Requester_.rep u2 a1)] ++ Ωx) := h
                refine OpS.loadB h .z PA.a (Get.fld Requester_.f2) ty24 rfl rfl rfl (fun u h35 => ?_)
                exact ⟨u, rfl, trivial, h35⟩
              · intro q1 w Γx Ωx h
                refine OpS.mv rfl rfl rfl ?_
                exact ⟨undef, rfl, trivial, h⟩
              · intro q1 w Γx Ωx h
                refine OpS.iptr h Try.underlying24 ty55 rfl rfl rfl rfl (V.at .z) e10 (fun u h36 => ?_)
                exact ⟨u, rfl, trivial, h36⟩
              · intro q1 w Γx Ωx h
                refine OpS.fptr h fa55_2 Pending_.f2 rfl rfl rfl .z (fun u h37 => ?_)
                exact ⟨u, rfl, trivial, h37⟩
              · intro q1 w Γx Ωx h
                refine OpS.loadi h ty3 rfl rfl rfl .z ?_
                exact ⟨undef, rfl, trivial, h⟩
              · intro q1 w Γx Ωx h
                refine OpS.bin rfl rfl rfl rfl rfl ?_
                exact ⟨undef, rfl, trivial, h⟩
              · intro q1 w Γx Ωx h
                refine OpS.pick rfl rfl rfl rfl ?_
                exact ⟨undef, rfl, trivial, h⟩
              · intro q1 w Γx Ωx h
                refine OpS.mv rfl rfl rfl ?_
                exact ⟨undef, (congrArg (fun z_ => some (Value.bool z_)) e11), trivial, h⟩
              · intro q1 w Γx Ωx h
                exact OpS.pass rfl rfl rfl ⟨undef, rfl, trivial, h⟩
              · intro q1 w Γx Ωx h
                exact OpS.pass rfl rfl rfl ⟨undef, rfl, trivial, h⟩
              · intro q1 w Γx Ωx h
                exact OpS.pass rfl rfl rfl ⟨undef, rfl, trivial, h⟩
              · intro q1 w Γx Ωx h
                exact OpS.pass rfl rfl rfl ⟨undef, rfl, trivial, h⟩
              · intro q1 w Γx Ωx h
                exact OpS.pass rfl rfl rfl ⟨undef, rfl, trivial, h⟩
              · intro q1 w Γx Ωx h
                exact OpS.pass rfl rfl rfl ⟨undef, rfl, trivial, h⟩
              · intro q1 w Γx Ωx h
                exact OpS.pass rfl rfl rfl ⟨undef, rfl, trivial, h⟩
              · intro q1 w Γx Ωx h
                exact OpS.pass rfl rfl rfl ⟨undef, rfl, trivial, h⟩
              · intro q1 w Γx Ωx h
                exact OpS.pass rfl rfl rfl ⟨undef, rfl, trivial, h⟩
              · intro q1 w Γx Ωx h
                exact OpS.pass rfl rfl rfl ⟨undef, rfl, trivial, h⟩
              · intro q1 w Γx Ωx h
                exact OpS.pass rfl rfl rfl ⟨undef, rfl, trivial, h⟩
              · intro q1 w Γx Ωx h
                exact OpS.pass rfl rfl rfl ⟨undef, rfl, trivial, h⟩
              · intro q1 w Γx Ωx h
                exact OpS.pass rfl rfl rfl ⟨undef, rfl, trivial, h⟩
              · intro q1 w Γx Ωx h
                exact OpS.pass rfl rfl rfl ⟨undef, rfl, trivial, h⟩
              · intro q1 w Γx Ωx h
                refine OpS.pick rfl rfl rfl rfl ?_
                exact ⟨undef, rfl, trivial, h⟩
              have h38 : St e w [(false, .val (Rep.slice Pending_.rep) (q1 1) a0.Pending), (false, .ptr Pending_.rep (q1 3) x2), (false, .ptr (Rep.int .i64) (q1 4) x2.Deadline), (false, .val (Rep.slice Pending_.rep) (q1 7) a1.Pending), (false, .ptr Pending_.rep (q1 9) x3), (false, .ptr (Rep.int .i64) (q1 10) x3.Deadline), (false, .val (Rep.slice Pending_.rep) (q1 15) a0.Pending), (false, .ptr Pending_.rep (q1 17) x5), (false, .ptr (Rep.int .i64) (q1 18) x5.Tries), (false, .val (Rep.slice Pending_.rep) (q1 21) a1.Pending), (false, .ptr Pending_.rep (q1 23) x6), (false, .ptr (Rep.int .i64) (q1 24) x6.Tries), (false, .val (Rep.slice Pending_.rep) u3 a0.Pending)] [(false, .box 26 Requester_.rep u1 a0), (false, .box 26 Requester_.rep u2 a1)] := h
              refine RunL.nil ?_
              refine Run.slim [(77, .bool true), (2, u1), (3, u2), (5, .int .i64 s2)] ⟨rfl, rfl, rfl, rfl, trivial⟩ ?_
              refine Run.slim [(2, u1), (3, u2), (5, .int .i64 s2), (77, .bool true)] ⟨rfl, rfl, rfl, rfl, trivial⟩ ?_
              exact hj2 (true) _ _ ⟨rfl, (h38.facts .nil).picks (.cons .z (.cons .z .nil))⟩ hF
            ·
              have hG := hF
              subst e12
              have hF := hG
              obtain ⟨x8, e13, hF⟩ := bindP_use hF
              obtain ⟨x9, e14, hF⟩ := bindP_use hF
              obtain ⟨y1, e15, hF⟩ := bindP_use hF
              refine Run.drawV (Ωs := []) [⟨some 34, some ((padd u1 2)), fun _ => [], fun ds_ u_ => [], [], [(0, [])], none⟩, ⟨some 35, none, fun u_ => [(false, .val (Rep.slice Pending_.rep) u_ a0.Pending)], fun ds_ u_ => [], [], [(0, [])], none⟩, ⟨some 36, some (.int .i64 s2), fun _ => [], fun ds_ u_ => [], [], [], none⟩, ⟨some 37, none, fun u_ => [(false, .ptr Pending_.rep u_ x2)], fun ds_ u_ => [], [], [], none⟩, ⟨some 38, none, fun u_ => [(false, .ptr (Rep.int .i64) u_ x2.Deadline)], fun ds_ u_ => [], [], [], none⟩, ⟨some 39, some (.int .i64 x2.Deadline), fun _ => [], fun ds_ u_ => [], [], [], none⟩, ⟨some 40, some ((padd u2 2)), fun _ => [], fun ds_ u_ => [], [], [(1, [])], none⟩, ⟨some 41, none, fun u_ => [(false, .val (Rep.slice Pending_.rep) u_ a1.Pending)], fun ds_ u_ => [], [], [(1, [])], none⟩, ⟨some 42, some (.int .i64 s2), fun _ => [], fun ds_ u_ => [], [], [], none⟩, ⟨some 43, none, fun u_ => [(false, .ptr Pending_.rep u_ x3)], fun ds_ u_ => [], [], [], none⟩, ⟨some 44, none, fun u_ => [(false, .ptr (Rep.int .i64) u_ x3.Deadline)], fun ds_ u_ => [], [], [], none⟩, ⟨some 45, some (.int .i64 x3.Deadline), fun _ => [], fun ds_ u_ => [], [], [], none⟩, ⟨some 46, some (.bool (x2.Deadline != x3.Deadline)), fun _ => [], fun ds_ u_ => [], [], [], none⟩, ⟨some 47, some (.bool false), fun _ => [], fun ds_ u_ => [], [], [], none⟩, ⟨some 48, some ((padd u1 2)), fun _ => [], fun ds_ u_ => [], [], [(0, [])], none⟩, ⟨some 49, none, fun u_ => [(false, .val (Rep.slice Pending_.rep) u_ a0.Pending)], fun ds_ u_ => [], [], [(0, [])], none⟩, ⟨some 50, some (.int .i64 s2), fun _ => [], fun ds_ u_ => [], [], [], none⟩, ⟨some 51, none, fun u_ => [(false, .ptr Pending_.rep u_ x5)], fun ds_ u_ => [], [], [], none⟩, ⟨some 52, none, fun u_ => [(false, .ptr (Rep.int .i64) u_ x5.Tries)], fun ds_ u_ => [], [], [], none⟩, ⟨some 53, some (.int .i64 x5.Tries), fun _ => [], fun ds_ u_ => [], [], [], none⟩, ⟨some 54, some ((padd u2 2)), fun _ => [], fun ds_ u_ => [], [], [(1, [])], none⟩, ⟨some 55, none, fun u_ => [(false, .val (Rep.slice Pending_.rep) u_ a1.Pending)], fun ds_ u_ => [], [], [(1, [])], none⟩, ⟨some 56, some (.int .i64 s2), fun _ => [], fun ds_ u_ => [], [], [], none⟩, ⟨some 57, none, fun u_ => [(false, .ptr Pending_.rep u_ x6)], fun ds_ u_ => [], [], [], none⟩, ⟨some 58, none, fun u_ => [(false, .ptr (Rep.int .i64) u_ x6.Tries)], fun ds_ u_ => [], [], [], none⟩, ⟨some 59, some (.int .i64 x6.Tries), fun _ => [], fun ds_ u_ => [], [], [], none⟩, ⟨some 60, some (.bool (x5.Tries != x6.Tries)), fun _ => [], fun ds_ u_ => [], [], [], none⟩, ⟨some 61, some (.bool (x5.Tries != x6.Tries)), fun _ => [], fun ds_ u_ => [], [], [], none⟩, ⟨some 62, some (.bool false), fun _ => [], fun ds_ u_ => [], [], [], none⟩, ⟨some 63, some ((padd u1 2)), fun _ => [], fun ds_ u_ => [], [], [(0, [])], none⟩, ⟨some 64, none, fun u_ => [(false, .val (Rep.slice Pending_.rep) u_ a0.Pending)], fun ds_ u_ => [], [], [(0, [])], none⟩, ⟨some 65, some (.int .i64 s2), fun _ => [], fun ds_ u_ => [], [], [], none⟩, ⟨some 66, none, fun u_ => [(false, .ptr Pending_.rep u_ x8)], fun ds_ u_ => [], [], [], none⟩, ⟨some 67, none, fun u_ => [(false, .ptr Message_.rep u_ x8.Request)], fun ds_ u_ => [], [], [], none⟩, ⟨some 68, none, fun u_ => [(false, .val Message_.rep u_ x8.Request)], fun ds_ u_ => [], [], [], none⟩, ⟨some 69, some ((padd u2 2)), fun _ => [], fun ds_ u_ => [], [], [(1, [])], none⟩, ⟨some 70, none, fun u_ => [(false, .val (Rep.slice Pending_.rep) u_ a1.Pending)], fun ds_ u_ => [], [], [(1, [])], none⟩, ⟨some 71, some (.int .i64 s2), fun _ => [], fun ds_ u_ => [], [], [], none⟩, ⟨some 72, none, fun u_ => [(false, .ptr Pending_.rep u_ x9)], fun ds_ u_ => [], [], [], none⟩, ⟨some 73, none, fun u_ => [(false, .ptr Message_.rep u_ x9.Request)], fun ds_ u_ => [], [], [], none⟩, ⟨some 74, none, fun u_ => [(false, .val Message_.rep u_ x9.Request)], fun ds_ u_ => [], [], [], none⟩, ⟨some 75, some (.bool y1), fun _ => [], fun ds_ u_ => [], [], [], none⟩, ⟨some 76, some (.bool (!y1)), fun _ => [], fun ds_ u_ => [], [], [], none⟩, ⟨some 77, some (.bool (!y1)), fun _ => [], fun ds_ u_ => [], [], [], none⟩] [[], [0], [], [1, 2], [3], [4], [], [6], [], [7, 8], [9], [10], [5, 11], [12], [13], [14, 13], [13], [15, 16, 13], [17, 13], [18, 13], [13], [20, 13], [13], [21, 22, 13], [23, 13], [24, 13], [19, 25, 13], [13, 26], [27], [28], [29, 28], [28], [30, 31, 28], [32, 28], [33, 28], [28], [35, 28], [28], [36, 37, 28], [38, 28], [39, 28], [34, 40, 28], [41, 28], [28, 42]] [[(false, .box 26 Requester_.rep u1 a0)], [(false, .box 26 Requester_.rep u2 a1)]] [0, 1, 2, 3, 4, 5, 6, 7, 8, 9, 10, 11, 12, 13, 14, 15, 16, 17, 18, 19, 20, 21, 22, 23, 24, 25, 26, 27, 28, 29, 30, 31, 32, 33, 34, 35, 36, 37, 38, 39, 40, 41, 42, 43, 44, 45] Try_mixed rfl rfl rfl h5 (.cons ?_ (.cons ?_ (.cons ?_ (.cons ?_ (.cons ?_ (.cons ?_ (.cons ?_ (.cons ?_ (.cons ?_ (.cons ?_ (.cons ?_ (.cons ?_ (.cons ?_ (.cons ?_ (.cons ?_ (.cons ?_ (.cons ?_ (.cons ?_ (.cons ?_ (.cons ?_ (.cons ?_ (.cons ?_ (.cons ?_ (.cons ?_ (.cons ?_ (.cons ?_ (.cons ?_ (.cons ?_ (.cons ?_ (.cons ?_ (.cons ?_ (.cons ?_ (.cons ?_ (.cons ?_ (.cons ?_ (.cons ?_ (.cons ?_ (.cons ?_ (.cons ?_ (.cons ?_ (.cons ?_ (.cons ?_ (.cons ?_ (.cons ?_ .nil)))))))))))))))))))))))))))))))))))))))))))) (fun q1 w hq3 h => ?_)
              · intro q1 w Γx Ωx h
                have h : St e w ([(false, .val (Rep.slice Pending_.rep) u3 a0.Pending)] ++ Γx) ([(false, .box 26 Requester_.rep u1 a0)] ++ Ωx) := h
                refine OpS.fbox (o3 := 2) h .z PA.z fa26_2 rfl rfl rfl rfl ?_
                exact ⟨undef, rfl, trivial, h⟩
              · intro q1 w Γx Ωx h
                have h : St e w ([(false, .val (Rep.slice Pending_.rep) u3 a0.Pending)] ++ Γx) ([(false, .box 26 Requester_.rep u1 a0)] ++ Ωx) := h
                refine OpS.loadB h .z PA.a (Get.fld Requester_.f2) ty24 rfl rfl rfl (fun u h49 => ?_)
                exact ⟨u, rfl, trivial, h49⟩
              · intro q1 w Γx Ωx h
                refine OpS.mv rfl rfl rfl ?_
                exact ⟨undef, rfl, trivial, h⟩
              · intro q1 w Γx Ωx h
                refine OpS.iptr h Try.underlying24 ty55 rfl rfl rfl rfl (V.at .z) e5 (fun u h50 => ?_)
                exact ⟨u, rfl, trivial, h50⟩
              · intro q1 w Γx Ωx h
                refine OpS.fptr h fa55_1 Pending_.f1 rfl rfl rfl .z (fun u h51 => ?_)
                exact ⟨u, rfl, trivial, h51⟩
              · intro q1 w Γx Ωx h
                refine OpS.loadi h ty2 rfl rfl rfl .z ?_
                exact ⟨undef, rfl, trivial, h⟩
              · intro q1 w Γx Ωx h
                have h : St e w ([(false, .val (Rep.slice Pending_.rep) u3 a0.Pending)] ++ Γx) ([(false, .box 26 Requester_.rep u2 a1)] ++ Ωx) := h
                refine OpS.fbox (o3 := 2) h .z PA.z fa26_2 rfl rfl rfl rfl ?_
                exact ⟨undef, rfl, trivial, h⟩
              · intro q1 w Γx Ωx h
                have h : St e w ([(false, .val (Rep.slice Pending_.rep) u3 a0.Pending)] ++ Γx) ([(false, .box 26 Requester_.rep u2 a1)] ++ Ωx) := h
                refine OpS.loadB h .z PA.a (Get.fld Requester_.f2) ty24 rfl rfl rfl (fun u h52 => ?_)
                exact ⟨u, rfl, trivial, h52⟩
              · intro q1 w Γx Ωx h
                refine OpS.mv rfl rfl rfl ?_
                exact ⟨undef, rfl, trivial, h⟩
              · intro q1 w Γx Ωx h
                refine OpS.iptr h Try.underlying24 ty55 rfl rfl rfl rfl (V.at .z) e6 (fun u h53 => ?_)
                exact ⟨u, rfl, trivial, h53⟩
              · intro q1 w Γx Ωx h
                refine OpS.fptr h fa55_1 Pending_.f1 rfl rfl rfl .z (fun u h54 => ?_)
                exact ⟨u, rfl, trivial, h54⟩
              · intro q1 w Γx Ωx h
                refine OpS.loadi h ty2 rfl rfl rfl .z ?_
                exact ⟨undef, rfl, trivial, h⟩
              · intro q1 w Γx Ωx h
                refine OpS.bin rfl rfl rfl rfl rfl ?_
                exact ⟨undef, rfl, trivial, h⟩
              · intro q1 w Γx Ωx h
                refine OpS.mv rfl rfl rfl ?_
                exact ⟨undef, (congrArg (fun z_ => some (Value.bool z_)) e7), trivial, h⟩
              · intro q1 w Γx Ωx h
                have h : St e w ([(false, .val (Rep.slice Pending_.rep) u3 a0.Pending)] ++ Γx) ([(false, .box 26 Requester_.rep u1 a0)] ++ Ωx) := h
                refine OpS.fbox (o3 := 2) h .z PA.z fa26_2 rfl rfl rfl rfl ?_
                exact ⟨undef, rfl, trivial, h⟩
              · intro q1 w Γx Ωx h
                have h : St e w ([(false, .val (Rep.slice Pending_.rep) u3 a0.Pending)] ++ Γx) ([(false, .box 26 Requester_.rep u1 a0)] ++ Ωx) := h
                refine OpS.loadB h .z PA.a (Get.fld Requester_.f2) ty24 rfl rfl rfl (fun u h55 => ?_)
                exact ⟨u, rfl, trivial, h55⟩
              · intro q1 w Γx Ωx h
                refine OpS.mv rfl rfl rfl ?_
                exact ⟨undef, rfl, trivial, h⟩
              · intro q1 w Γx Ωx h
                refine OpS.iptr h Try.underlying24 ty55 rfl rfl rfl rfl (V.at .z) e9 (fun u h56 => ?_)
                exact ⟨u, rfl, trivial, h56⟩
              · intro q1 w Γx Ωx h
                refine OpS.fptr h fa55_2 Pending_.f2 rfl rfl rfl .z (fun u h57 => ?_)
                exact ⟨u, rfl, trivial, h57⟩
              · intro q1 w Γx Ωx h
                refine OpS.loadi h ty3 rfl rfl rfl .z ?_
                exact ⟨undef, rfl, trivial, h⟩
              · intro q1 w Γx Ωx h
                have h : St e w ([(false, .val (Rep.slice Pending_.rep) u3 a0.Pending)] ++ Γx) ([(false, .box 26 Requester_.rep u2 a1)] ++ Ωx) := h
                refine OpS.fbox (o3 := 2) h .z PA.z fa26_2 rfl rfl rfl rfl ?_
                exact ⟨undef, rfl, trivial, h⟩
              · intro q1 w Γx Ωx h
                have h : St e w ([(false, .val (Rep.slice Pending_.rep) u3 a0.Pending)] ++ Γx) ([(false, .box 26 Requester_.rep u2 a1)] ++ Ωx) := h
                refine OpS.loadB h .z PA.a (Get.fld Requester_.f2) ty24 rfl rfl rfl (fun u h58 => ?_)
                exact ⟨u, rfl, trivial, h58⟩
              · intro q1 w Γx Ωx h
                refine OpS.mv rfl rfl rfl ?_
                exact ⟨undef, rfl, trivial, h⟩
              · intro q1 w Γx Ωx h
                refine OpS.iptr h Try.underlying24 ty55 rfl rfl rfl rfl (V.at .z) e10 (fun u h59 => ?_)
                exact ⟨u, rfl, trivial, h59⟩
              · intro q1 w Γx Ωx h
                refine OpS.fptr h fa55_2 Pending_.f2 rfl rfl rfl .z (fun u h60 => ?_)
                exact ⟨u, rfl, trivial, h60⟩
              · intro q1 w Γx Ωx h
                refine OpS.loadi h ty3 rfl rfl rfl .z ?_
                exact ⟨undef, rfl, trivial, h⟩
              · intro q1 w Γx Ωx h
                refine OpS.bin rfl rfl rfl rfl rfl ?_
                exact ⟨undef, rfl, trivial, h⟩
              · intro q1 w Γx Ωx h
                refine OpS.pick rfl rfl rfl rfl ?_
                exact ⟨undef, rfl, trivial, h⟩
              · intro q1 w Γx Ωx h
                refine OpS.mv rfl rfl rfl ?_
                exact ⟨undef, (congrArg (fun z_ => some (Value.bool z_)) e11), trivial, h⟩
              · intro q1 w Γx Ωx h
                have h : St e w ([(false, .val (Rep.slice Pending_.rep) u3 a0.Pending)] ++ Γx) ([(false, .box 26 Requester_.rep u1 a0)] ++ Ωx) := h
                refine OpS.fbox (o3 := 2) h .z PA.z fa26_2 rfl rfl rfl rfl ?_
                exact ⟨undef, rfl, trivial, h⟩
              · intro q1 w Γx Ωx h
                have h : St e w ([(false, .val (Rep.slice Pending_.rep) u3 a0.Pending)] ++ Γx) ([(false, .box 26 Requester_.rep u1 a0)] ++ Ωx) := h
                refine OpS.loadB h .z PA.a (Get.fld Requester_.f2) ty24 rfl rfl rfl (fun u h61 => ?_)
                exact ⟨u, rfl, trivial, h61⟩
              · intro q1 w Γx Ωx h
                refine OpS.mv rfl rfl rfl ?_
                exact ⟨undef, rfl, trivial, h⟩
              · intro q1 w Γx Ωx h
                refine OpS.iptr h Try.underlying24 ty55 rfl rfl rfl rfl (V.at .z) e13 (fun u h62 => ?_)
                exact ⟨u, rfl, trivial, h62⟩
              · intro q1 w Γx Ωx h
                refine OpS.fptr h fa55_0 Pending_.f0 rfl rfl rfl .z (fun u h63 => ?_)
                exact ⟨u, rfl, trivial, h63⟩
              · intro q1 w Γx Ωx h
                refine OpS.load h ty51 rfl rfl rfl .z (fun u h64 => ?_)
                exact ⟨u, rfl, trivial, h64⟩
              · intro q1 w Γx Ωx h
                have h : St e w ([(false, .val (Rep.slice Pending_.rep) u3 a0.Pending)] ++ Γx) ([(false, .box 26 Requester_.rep u2 a1)] ++ Ωx) := h
                refine OpS.fbox (o3 := 2) h .z PA.z fa26_2 rfl rfl rfl rfl ?_
                exact ⟨undef, rfl, trivial, h⟩
              · intro q1 w Γx Ωx h
                have h : St e w ([(false, .val (Rep.slice Pending_.rep) u3 a0.Pending)] ++ Γx) ([(false, .box 26 Requester_.rep u2 a1)] ++ Ωx) := h
                refine OpS.loadB h .z PA.a (Get.fld Requester_.f2) ty24 rfl rfl rfl (fun u h65 => ?_)
                exact ⟨u, rfl, trivial, h65⟩
              · intro q1 w Γx Ωx h
                refine OpS.mv rfl rfl rfl ?_
                exact ⟨undef, rfl, trivial, h⟩
              · intro q1 w Γx Ωx h
                refine OpS.iptr h Try.underlying24 ty55 rfl rfl rfl rfl (V.at .z) e14 (fun u h66 => ?_)
                exact ⟨u, rfl, trivial, h66⟩
              · intro q1 w Γx Ωx h
                refine OpS.fptr h fa55_0 Pending_.f0 rfl rfl rfl .z (fun u h67 => ?_)
                exact ⟨u, rfl, trivial, h67⟩
              · intro q1 w Γx Ωx h
                refine OpS.load h ty51 rfl rfl rfl .z (fun u h68 => ?_)
                exact ⟨u, rfl, trivial, h68⟩
              · intro q1 w Γx Ωx h
                refine OpS.callP h Try.func30 rfl rfl rfl rfl (vs := [(q1 34), (q1 40)]) rfl (ref24_SameMessage_ok e15) (.cons (f := false) (V.at .z) (.cons (f := false) (V.at (.s .z)) .nil)) ?_
                rintro _ w7 _ _ _ ⟨rfl, rfl, rfl, rfl⟩ h69
                have h70 := h69 rfl rfl
                simp only [List.cons_append, List.nil_append] at h70
                exact ⟨undef, rfl, trivial, h70⟩
              · intro q1 w Γx Ωx h
                refine OpS.not rfl rfl rfl ?_
                exact ⟨undef, rfl, trivial, h⟩
              · intro q1 w Γx Ωx h
                refine OpS.pick rfl rfl rfl rfl ?_
                exact ⟨undef, rfl, trivial, h⟩
              have h71 : St e w [(false, .val (Rep.slice Pending_.rep) (q1 1) a0.Pending), (false, .ptr Pending_.rep (q1 3) x2), (false, .ptr (Rep.int .i64) (q1 4) x2.Deadline), (false, .val (Rep.slice Pending_.rep) (q1 7) a1.Pending), (false, .ptr Pending_.rep (q1 9) x3), (false, .ptr (Rep.int .i64) (q1 10) x3.Deadline), (false, .val (Rep.slice Pending_.rep) (q1 15) a0.Pending), (false, .ptr Pending_.rep (q1 17) x5), (false, .ptr (Rep.int .i64) (q1 18) x5.Tries), (false, .val (Rep.slice Pending_.rep) (q1 21) a1.Pending), (false, .ptr Pending_.rep (q1 23) x6), (false, .ptr (Rep.int .i64) (q1 24) x6.Tries), (false, .val (Rep.slice Pending_.rep) (q1 30) a0.Pending), (false, .ptr Pending_.rep (q1 32) x8), (false, .ptr Message_.rep (q1 33) x8.Request), (false, .val Message_.rep (q1 34) x8.Request), (false, .val (Rep.slice Pending_.rep) (q1 36) a1.Pending), (false, .ptr Pending_.rep (q1 38) x9), (false, .ptr Message_.rep (q1 39) x9.Request), (false, .val Message_.rep (q1 40) x9.Request), (false, .val (Rep.slice Pending_.rep) u3 a0.Pending)] [(false, .box 26 Requester_.rep u1 a0), (false, .box 26 Requester_.rep u2 a1)] := h
              refine RunL.nil ?_
              refine Run.slim [(77, .bool (!y1)), (2, u1), (3, u2), (5, .int .i64 s2)] ⟨rfl, rfl, rfl, rfl, trivial⟩ ?_
              refine Run.slim [(2, u1), (3, u2), (5, .int .i64 s2), (77, .bool (!y1))] ⟨rfl, rfl, rfl, rfl, trivial⟩ ?_
              exact hj2 (!y1) _ _ ⟨rfl, (h71.facts .nil).picks (.cons .z (.cons .z .nil))⟩ hF
      ·
        refine Run.exit rfl ?_
        refine Run.seq ?_
        refine Run.reg ?_
        refine RunL.op (OpS.as rfl rfl rfl ?_)
        refine RunL.nil ?_
        refine Run.slim [(4, .bool true)] ⟨rfl, trivial⟩ ?_
        refine Run.retP rfl (.tmp rfl .nil) ?_
        cases hF
        exact Post.mk' ⟨rfl, rfl, rfl, rfl⟩ (h5.picks .nil) .nil
  ·
    refine RunL.caseb hF (fun e16 hF => ?_) (fun e16 hF => ?_)
    ·
      refine RunL.op (OpS.pass rfl rfl rfl ?_)
      refine RunL.op (OpS.pass rfl rfl rfl ?_)
      refine RunL.op (OpS.pass rfl rfl rfl ?_)
      refine RunL.op (OpS.pass rfl rfl rfl ?_)
      refine RunL.op (OpS.pass rfl rfl rfl ?_)
      refine RunL.op (OpS.pick rfl rfl rfl rfl ?_)
      refine RunL.op (OpS.mv rfl rfl rfl ?_)
      refine RunL.op (OpS.pass rfl rfl rfl ?_)
      refine RunL.op (OpS.pass rfl rfl rfl ?_)
      refine RunL.op (OpS.pass rfl rfl rfl ?_)
      refine RunL.op (OpS.pass rfl rfl rfl ?_)
      refine RunL.op (OpS.pass rfl rfl rfl ?_)
      refine RunL.op (OpS.pass rfl rfl rfl ?_)
      refine RunL.op (OpS.pass rfl rfl rfl ?_)
      refine RunL.op (OpS.pick rfl rfl rfl rfl ?_)
      refine RunL.nil ?_
      refine Run.slim [(26, .bool true), (3, u2), (2, u1)] ⟨rfl, rfl, rfl, trivial⟩ ?_
      refine Run.slim [(2, u1), (3, u2), (26, .bool true)] ⟨rfl, rfl, rfl, trivial⟩ ?_
      exact hj1 (true) _ _ ⟨rfl, (h2.facts .nil).picks (.cons (.s .z) (.cons .z .nil))⟩ hF
    ·
      refine RunL.op (OpS.fbox (o3 := 1) h2 (.s .z) PA.z fa26_1 rfl rfl rfl rfl ?_)
      refine RunL.op (OpS.loadBi h2 (.s .z) PA.a (Get.fld Requester_.f1) ty3 rfl rfl rfl ?_)
      refine RunL.op (OpS.fbox (o3 := 1) h2 .z PA.z fa26_1 rfl rfl rfl rfl ?_)
      refine RunL.op (OpS.loadBi h2 .z PA.a (Get.fld Requester_.f1) ty3 rfl rfl rfl ?_)
      refine RunL.op (OpS.bin rfl rfl rfl rfl rfl ?_)
      refine RunL.op (OpS.pick rfl rfl rfl rfl ?_)
      refine RunL.op (OpS.mv rfl rfl rfl ?_)
      refine RunL.caseb hF (fun e17 hF => ?_) (fun e17 hF => ?_)
      ·
        refine RunL.op (OpS.pass rfl rfl rfl ?_)
        refine RunL.op (OpS.pass rfl rfl rfl ?_)
        refine RunL.op (OpS.pass rfl rfl rfl ?_)
        refine RunL.op (OpS.pass rfl rfl rfl ?_)
        refine RunL.op (OpS.pass rfl rfl rfl ?_)
        refine RunL.op (OpS.pass rfl rfl rfl ?_)
        refine RunL.op (OpS.pass rfl rfl rfl ?_)
        refine RunL.op (OpS.pick rfl rfl rfl rfl ?_)
        refine RunL.nil ?_
        refine Run.slim [(26, .bool true), (3, u2), (2, u1)] ⟨rfl, rfl, rfl, trivial⟩ ?_
        refine Run.slim [(2, u1), (3, u2), (26, .bool true)] ⟨rfl, rfl, rfl, trivial⟩ ?_
        exact hj1 (true) _ _ ⟨rfl, (h2.facts .nil).picks (.cons (.s .z) (.cons .z .nil))⟩ hF
      ·
        refine RunL.op (OpS.fbox (o3 := 2) h2 (.s .z) PA.z fa26_2 rfl rfl rfl rfl ?_)
        refine RunL.op (OpS.loadB h2 (.s .z) PA.a (Get.fld Requester_.f2) ty24 rfl rfl rfl (fun u4 h72 => ?_))
        refine RunL.op (OpS.len h72 Try.underlying24 rfl rfl rfl (V.at .z) ?_)
        refine RunL.op (OpS.fbox (o3 := 2) h72 .z PA.z fa26_2 rfl rfl rfl rfl ?_)
        refine RunL.op (OpS.loadB h72 .z PA.a (Get.fld Requester_.f2) ty24 rfl rfl rfl (fun u5 h73 => ?_))
        refine RunL.op (OpS.len h73 Try.underlying24 rfl rfl rfl (V.at .z) ?_)
        refine RunL.op (OpS.bin rfl rfl rfl rfl rfl ?_)
        refine RunL.op (OpS.pick rfl rfl rfl rfl ?_)
        refine RunL.nil ?_
        refine Run.slim [(26, .bool ((a0.Pending.length : Int) != (a1.Pending.length : Int))), (3, u2), (2, u1)] ⟨rfl, rfl, rfl, trivial⟩ ?_
        refine Run.slim [(2, u1), (3, u2), (26, .bool ((a0.Pending.length : Int) != (a1.Pending.length : Int)))] ⟨rfl, rfl, rfl, trivial⟩ ?_
        exact hj1 ((a0.Pending.length : Int) != (a1.Pending.length : Int)) _ _ ⟨rfl, (h73.facts .nil).picks (.cons (.s .z) (.cons .z .nil))⟩ hF
set_option maxHeartbeats 8000000 in
theorem law24_odd_ok {fuel : Nat} {a0 : field_Codes} {a1 : Requester_} {y : Requester_ × field_Codes} (hF : law24_odd fuel a0 a1 = some y) {w : World} {v0 v1 : Value} :
    Spec Try.prog 17 [v0, v1].toArray w [(false, .val Requester_.rep v1 a1)] [(false, .box 72 field_Codes.rep v0 a0)] (fun v Γr Ωr Ωo => ∃ u0 : Value, v = u0 ∧ Γr = [(true, .val Requester_.rep u0 y.1)] ∧ Ωr = [] ∧ Ωo = [(false, .box 72 field_Codes.rep v0 y.2)]) := by
  refine Spec.of (L := [(0, v0), (1, v1)]) Try.func17 rfl ⟨rfl, rfl, trivial⟩ rfl (fun e h => ?_)
  unfold law24_odd at hF
  refine Run.seq ?_
  refine Run.reg ?_
  refine RunL.op (OpS.boxF h rfl rfl rfl (V.at .z) (fun u1 w1 h1 => ?_))
  refine RunL.op (OpS.alloc h1 ti26 Requester_.zr rfl rfl (fun u2 w2 h2 => ?_))
  refine RunL.nil ?_
  refine Run.slim [(4, u2), (3, u1), (0, v0)] ⟨rfl, rfl, rfl, trivial⟩ ?_
  refine Run.seq ?_
  refine Run.reg ?_
  refine RunL.op (OpS.loadB h2 (.s .z) PA.z Get.id ty26 rfl rfl rfl (fun u3 h3 => ?_))
  obtain ⟨y1, e1, hF⟩ := bindP_use hF
  refine RunL.op (OpS.callP h3 Try.func40 rfl rfl rfl rfl (vs := [u3]) rfl (ref24_Copy_ok e1) (.cons (f := false) (V.at .z) .nil) ?_)
  rintro u4 w3 _ _ _ ⟨_, u5, rfl, rfl, rfl, rfl⟩ h4
  have h5 := h4 rfl rfl
  simp only [List.cons_append, List.nil_append] at h5
  refine RunL.op (OpS.storeC (f' := false) (fr := (Rep.iso (fun s : Requester_ => (s.Own, s.Next, s.Pending, ())) (Rep.prod (Rep.int .u8) (Rep.prod (Rep.int .i64) (Rep.prod (Rep.raw u5) Rep.unit))))) (r' := (Rep.iso (fun s : Requester_ => (s.Own, s.Next, s.Pending, ())) (Rep.prod (Rep.int .u8) (Rep.prod (Rep.int .i64) (Rep.prod (Rep.raw u5) Rep.unit))))) (x' := y1) h5 (.s (.s .z)) PA.z (Chg.id (by rfl)) (Ty.like ty26 (by rfl) (by rfl)) rfl rfl rfl (V.weak (V.at .z)) (.inr rfl) (fun w4 h6 => ?_))
  refine RunL.nil ?_
  refine Run.slim [(4, u2), (3, u1), (0, v0)] ⟨rfl, rfl, rfl, trivial⟩ ?_
  refine Run.seq ?_
  refine Run.reg ?_
  refine RunL.op (OpS.mv rfl rfl rfl ?_)
  obtain ⟨y2, e2, hF⟩ := bindP_use hF
  have h7 := h6.front (.cons (.s (.s (.s .z))) .nil)
  refine RunL.op (OpS.callO h7 Try.func14 rfl rfl rfl rfl (vs := [v0, .int .i64 6]) rfl (field_Codes_Next_ok e2) rfl .nil ?_)
  rintro _ w5 _ _ _ ⟨rfl, rfl, rfl, rfl⟩ h8
  have h9 := h8
  simp only [List.cons_append, List.nil_append] at h9
  refine RunL.op (OpS.as rfl rfl rfl ?_)
  refine RunL.nil ?_
  refine Run.slim [(5, .int .i64 y2.1), (4, u2), (3, u1), (0, v0)] ⟨rfl, rfl, rfl, rfl, trivial⟩ ?_
  refine Run.seq ?_
  refine Run.seq ?_
  refine Run.reg ?_
  refine RunL.op (OpS.mv rfl rfl rfl ?_)
  refine RunL.op (OpS.bin rfl rfl rfl rfl rfl ?_)
  refine RunL.op (OpS.mv rfl rfl rfl ?_)
  refine RunL.join (σ := Bool) (fun s_ L_ w_ => L_ = [(0, v0), (3, u1), (4, u2), (5, .int .i64 y2.1), (17, .bool s_)] ∧ St e w_ [] [(false, .box 72 field_Codes.rep v0 y2.2), (false, .box 26 (Rep.iso (fun s : Requester_ => (s.Own, s.Next, s.Pending, ())) (Rep.prod (Rep.int .u8) (Rep.prod (Rep.int .i64) (Rep.prod (Rep.raw u5) Rep.unit)))) u1 y1), (true, .box 26 Requester_.rep u2 Requester_.z), (true, .slice 55 Pending_.rep u5 y1.Pending)]) hF (fun s1 _ w6 hI hF => ?_) (fun j1 hj1 hF => ?_)
  ·
    obtain ⟨rfl, h10⟩ := hI
    refine Run.join (σ := Int) (fun s_ L_ w_ => L_ = [(0, v0), (3, u1), (4, u2), (5, .int .i64 s_)] ∧ St e w_ [] [(false, .box 72 field_Codes.rep v0 y2.2), (false, .box 26 (Rep.iso (fun s : Requester_ => (s.Own, s.Next, s.Pending, ())) (Rep.prod (Rep.int .u8) (Rep.prod (Rep.int .i64) (Rep.prod (Rep.raw u5) Rep.unit)))) u1 y1), (true, .box 26 Requester_.rep u2 Requester_.z), (true, .slice 55 Pending_.rep u5 y1.Pending)]) hF (fun s2 _ w7 hI hF => ?_) (fun j2 hj2 hF => ?_)
    ·
      obtain ⟨rfl, h11⟩ := hI
      refine Run.seq ?_
      refine Run.seq ?_
      refine Run.reg ?_
      refine RunL.op (OpS.mv rfl rfl rfl ?_)
      refine RunL.nil ?_
      refine Run.slim [(18, .int .i64 s2), (0, v0), (3, u1), (4, u2)] ⟨rfl, rfl, rfl, rfl, trivial⟩ ?_
      refine Run.block ?_
      refine Run.seq ?_
      refine Run.reg ?_
      refine RunL.op (OpS.bin rfl rfl rfl rfl rfl ?_)
      refine RunL.op (OpS.as rfl rfl rfl ?_)
      obtain ⟨x1, e3, hF⟩ := letP_use hF
      refine RunL.nameb e3 ?_
      refine RunL.nil ?_
      refine Run.slim [(19, .bool x1), (18, .int .i64 s2), (0, v0), (3, u1), (4, u2)] ⟨rfl, rfl, rfl, rfl, rfl, trivial⟩ ?_
      refine Run.ite rfl hF (fun e4 hF => ?_) (fun e4 hF => ?_)
      ·
        have h12 := h11.picks (.cons .z (.cons .z (.cons (.s .z) (.cons .z .nil))))
        obtain ⟨y3, e5, hF⟩ := bindP_use hF
        obtain ⟨x2, e6, hF⟩ := bindP_use hF
        obtain ⟨x3, e7, hF⟩ := bindP_use hF
        obtain ⟨d1, e8, hF⟩ := letP_use hF
        refine Run.drawV (Ωs := [(true, .box 26 Requester_.rep u2 Requester_.z)]) [⟨some 21, some ((padd u1 2)), fun _ => [], fun ds_ u_ => [], [], [(1, [])], none⟩, ⟨some 22, some (u5), fun _ => [], fun ds_ u_ => [], [], [(1, []), (2, [9, 1])], none⟩, ⟨some 23, none, fun u_ => [(true, .val (Rep.slice (Rep.int .i64)) u_ ([0, 3, 4]))], fun ds_ u_ => [], [], [], none⟩, ⟨some 24, some (v0), fun _ => [], fun ds_ u_ => [], [], [], none⟩, ⟨some 25, some (.int .i64 y3.1), fun _ => [], fun ds_ u_ => [(false, .box 72 field_Codes.rep v0 y3.2)], [0], [], none⟩, ⟨some 26, none, fun u_ => [(true, .ptr (Rep.int .i64) u_ x2)], fun ds_ u_ => [], [], [], none⟩, ⟨some 27, some (.int .i64 x2), fun _ => [], fun ds_ u_ => [], [], [], none⟩, ⟨some 28, some ((padd (sp u5) ((0 : Int).toNat * Pending_.rep.n))), fun _ => [], fun ds_ u_ => [], [], [(2, [9, 8, 7])], none⟩, ⟨some 29, some ((padd (sp u5) ((0 : Int).toNat * Pending_.rep.n + 10))), fun _ => [], fun ds_ u_ => [], [], [(2, [9, 8])], none⟩, ⟨none, some undef, fun _ => [], fun ds_ u_ => [(true, .slice 55 Pending_.rep u5 d1)], [2], [], none⟩] [[], [0], [], [], [3], [2, 4], [5], [1], [7], [8, 6]] [[(false, .box 72 field_Codes.rep v0 y2.2)], [(false, .box 26 (Rep.iso (fun s : Requester_ => (s.Own, s.Next, s.Pending, ())) (Rep.prod (Rep.int .u8) (Rep.prod (Rep.int .i64) (Rep.prod (Rep.raw u5) Rep.unit)))) u1 y1)], [(true, .slice 55 Pending_.rep u5 y1.Pending)]] [1, 3, 4, 5, 6, 7, 8, 9, 10, 11, 12] Try_mixed rfl rfl rfl h12 (.cons ?_ (.cons ?_ (.cons ?_ (.cons ?_ (.cons ?_ (.cons ?_ (.cons ?_ (.cons ?_ (.cons ?_ (.cons ?_ .nil)))))))))) (fun q1 w hq1 h => ?_)
        · intro q1 w Γx Ωx h
          have h : St e w ([] ++ Γx) ([(false, .box 26 (Rep.iso (fun s : Requester_ => (s.Own, s.Next, s.Pending, ())) (Rep.prod (Rep.int .u8) (Rep.prod (Rep.int .i64) (Rep.prod (Rep.raw u5) Rep.unit)))) u1 y1), (true, .box 26 Requester_.rep u2 Requester_.z)] ++ Ωx) := h
          refine OpS.fbox (o3 := 2) h .z PA.z fa26_2 rfl rfl rfl rfl ?_
          exact ⟨undef, rfl, trivial, h⟩
        · intro q1 w Γx Ωx h
          have h : St e w ([] ++ Γx) ([(false, .box 26 (Rep.iso (fun s : Requester_ => (s.Own, s.Next, s.Pending, ())) (Rep.prod (Rep.int .u8) (Rep.prod (Rep.int .i64) (Rep.prod (Rep.raw u5) Rep.unit)))) u1 y1), (true, .slice 55 Pending_.rep u5 y1.Pending), (true, .box 26 Requester_.rep u2 Requester_.z)] ++ Ωx) := h
          refine OpS.loadR h .z PA.a (GetS.ok (GetS.iso _ (GetS.there (GetS.there (GetS.here GetS.id))))) ty24 rfl rfl rfl rfl rfl ?_
          exact ⟨undef, rfl, trivial, h⟩
        · intro q1 w Γx Ωx h
          refine OpS.lit (r := (Rep.int .i64)) (f := true) h Try.underlying74 ti3 rfl rfl rfl rfl rfl (.cons rfl V.int (.cons rfl V.int (.cons rfl V.int .nil))) rfl rfl (fun u w11 h19 => ?_)
          exact ⟨u, rfl, trivial, h19⟩
        · intro q1 w Γx Ωx h
          refine OpS.mv rfl rfl rfl ?_
          exact ⟨undef, rfl, trivial, h⟩
        · intro q1 w Γx Ωx h
          have h : St e w ([] ++ Γx) ([(false, .box 72 field_Codes.rep v0 y2.2), (true, .box 26 Requester_.rep u2 Requester_.z)] ++ Ωx) := h
          have h20 := h.front (.cons .z .nil)
          refine OpS.callO h20 Try.func14 rfl rfl rfl rfl (vs := [v0, .int .i64 3]) rfl (field_Codes_Next_ok e5) rfl .nil ?_
          rintro _ w12 _ _ _ ⟨rfl, rfl, rfl, rfl⟩ h21
          have h22 := h21
          simp only [List.cons_append, List.nil_append] at h22
          exact ⟨undef, rfl, trivial, h22⟩
        · intro q1 w Γx Ωx h
          refine OpS.iptr h Try.underlying74 ty3 rfl rfl rfl rfl (V.at .z) e6 (fun u h23 => ?_)
          exact ⟨u, rfl, trivial, h23⟩
        · intro q1 w Γx Ωx h
          refine OpS.loadi h ty3 rfl rfl rfl .z ?_
          exact ⟨undef, rfl, trivial, h⟩
        · intro q1 w Γx Ωx h
          have h : St e w ([] ++ Γx) ([(true, .slice 55 Pending_.rep u5 y1.Pending), (true, .box 26 Requester_.rep u2 Requester_.z)] ++ Ωx) := h
          refine OpS.iown h .z Try.underlying24 ty55 rfl rfl rfl rfl e7 ?_
          exact ⟨undef, rfl, trivial, h⟩
        · intro q1 w Γx Ωx h
          have h : St e w ([] ++ Γx) ([(true, .slice 55 Pending_.rep u5 y1.Pending), (true, .box 26 Requester_.rep u2 Requester_.z)] ++ Ωx) := h
          refine OpS.fown h .z (idx_ne e7) PA.a fa55_2 rfl rfl rfl ?_
          exact ⟨undef, rfl, trivial, h⟩
        · intro q1 w Γx Ωx h
          have h : St e w ([] ++ Γx) ([(true, .slice 55 Pending_.rep u5 y1.Pending), (true, .box 26 Requester_.rep u2 Requester_.z)] ++ Ωx) := h
          refine OpS.storeO (f' := true) h .z (idx_ne e7) PA.a (Put.of (Put.comp (Get.arr e7) (Put.fld Pending_.f2) (Put.arr e7)) e8) ty3 rfl rfl rfl V.int (.inl rfl) (fun w13 h24 => ?_)
          exact ⟨undef, trivial, trivial, h24⟩
        have h25 : St e w [(true, .val (Rep.slice (Rep.int .i64)) (q1 2) ([0, 3, 4])), (true, .ptr (Rep.int .i64) (q1 5) x2)] [(false, .box 26 (Rep.iso (fun s : Requester_ => (s.Own, s.Next, s.Pending, ())) (Rep.prod (Rep.int .u8) (Rep.prod (Rep.int .i64) (Rep.prod (Rep.raw u5) Rep.unit)))) u1 y1), (false, .box 72 field_Codes.rep v0 y3.2), (true, .slice 55 Pending_.rep u5 d1), (true, .box 26 Requester_.rep u2 Requester_.z)] := h
        refine RunL.nil ?_
        refine Run.slim [(3, u1), (4, u2)] ⟨rfl, rfl, trivial⟩ ?_
        refine Run.endBlock ?_
        refine Run.seq ?_
        refine Run.reg ?_
        refine RunL.op (OpS.loadB (fr := (Rep.iso (fun s : Requester_ => (s.Own, s.Next, s.Pending, ())) (Rep.prod (Rep.int .u8) (Rep.prod (Rep.int .i64) (Rep.prod (Rep.raw u5) Rep.unit))))) h25 .z PA.z (GetS.ok GetS.id) (Ty.like ty26 (by rfl) (by rfl)) rfl rfl rfl (fun u6 h26 => ?_))
        refine RunL.op (OpS.storeC (f' := true) (fr := (Rep.iso (fun s : Requester_ => (s.Own, s.Next, s.Pending, ())) (Rep.prod (Rep.int .u8) (Rep.prod (Rep.int .i64) (Rep.prod (Rep.raw u5) Rep.unit))))) (r' := (Rep.iso (fun s : Requester_ => (s.Own, s.Next, s.Pending, ())) (Rep.prod (Rep.int .u8) (Rep.prod (Rep.int .i64) (Rep.prod (Rep.raw u5) Rep.unit))))) (x' := y1) h26 (.s (.s (.s .z))) PA.z (Chg.id (by rfl)) (Ty.like ty26 (by rfl) (by rfl)) rfl rfl rfl (V.pure (V.at .z) (Pure.iso (Pure.prod Pure.int (Pure.prod Pure.int (Pure.prod Pure.raw Pure.unit))))) (.inl rfl) (fun w14 h27 => ?_))
        refine RunL.nil ?_
        refine Run.slim [(4, u2)] ⟨rfl, trivial⟩ ?_
        obtain ⟨u7, hu1, h28⟩ := res_box h27 .z (Ty.like ty26 (by rfl) (by rfl))
        have h29 := (h28.pick (.s (.s (.s .z)))).freeze
        have h30 := h29.pick .z
        have h31 := St.boxJ (r' := Requester_.rep) (x' := { y1 with Pending := d1 }) h30 (fun _ _ hs_ => (Jn.iso _ (Jn.prod Jn.refl (Jn.prod Jn.refl (Jn.prod (Jn.raw ((V.at .z) _ _ hs_) rfl) Jn.refl)))))
        have h32 := h31.pick (.s .z)
        have h33 := St.boxJ (r' := Requester_.rep) (x' := { y1 with Pending := d1 }) h32 (fun _ _ hs_ => (Jn.iso _ (Jn.prod Jn.refl (Jn.prod Jn.refl (Jn.prod (Jn.raw ((V.weak (V.at .z)) _ _ hs_) rfl) Jn.refl)))))
        have h34 := St.addV (f := true) (r := Requester_.rep) (x := { y1 with Pending := d1 }) h33 (V.jn (r := (Rep.iso (fun s : Requester_ => (s.Own, s.Next, s.Pending, ())) (Rep.prod (Rep.int .u8) (Rep.prod (Rep.int .i64) (Rep.prod (Rep.raw u5) Rep.unit))))) (x := y1) (V.at (.s .z)) rfl (fun _ _ hs_ => (Jn.iso _ (Jn.prod Jn.refl (Jn.prod Jn.refl (Jn.prod (Jn.raw ((V.at .z) _ _ hs_) rfl) Jn.refl))))))
        refine Run.retP rfl (.cell rfl hu1 .nil) ?_
        cases hF
        exact Post.mk' ⟨u7, rfl, rfl, rfl, rfl⟩ (h34.picks (.cons (.s (.s .z)) .nil)) (.val (V.at .z) .nil)
      ·
        refine Run.seq ?_
        refine Run.reg ?_
        refine RunL.op (OpS.bin rfl rfl rfl rfl rfl ?_)
        refine RunL.op (OpS.as rfl rfl rfl ?_)
        obtain ⟨x4, e9, hF⟩ := letP_use hF
        refine RunL.nameb e9 ?_
        refine RunL.nil ?_
        refine Run.slim [(30, .bool x4), (18, .int .i64 s2), (0, v0), (3, u1), (4, u2)] ⟨rfl, rfl, rfl, rfl, rfl, trivial⟩ ?_
        refine Run.ite rfl hF (fun e10 hF => ?_) (fun e10 hF => ?_)
        ·
          have h35 := h11.picks (.cons .z (.cons .z (.cons (.s .z) (.cons .z .nil))))
          obtain ⟨y4, e11, hF⟩ := bindP_use hF
          obtain ⟨x5, e12, hF⟩ := bindP_use hF
          obtain ⟨x6, e13, hF⟩ := bindP_use hF
          obtain ⟨d2, e14, hF⟩ := letP_use hF
          refine Run.drawV (Ωs := [(true, .box 26 Requester_.rep u2 Requester_.z)]) [⟨some 32, some ((padd u1 2)), fun _ => [], fun ds_ u_ => [], [], [(1, [])], none⟩, ⟨some 33, some (u5), fun _ => [], fun ds_ u_ => [], [], [(1, []), (2, [9, 1])], none⟩, ⟨some 34, none, fun u_ => [(true, .val (Rep.slice (Rep.int .i64)) u_ ([(-1), 0, 9223372036854775807]))], fun ds_ u_ => [], [], [], none⟩, ⟨some 35, some (v0), fun _ => [], fun ds_ u_ => [], [], [], none⟩, ⟨some 36, some (.int .i64 y4.1), fun _ => [], fun ds_ u_ => [(false, .box 72 field_Codes.rep v0 y4.2)], [0], [], none⟩, ⟨some 37, none, fun u_ => [(true, .ptr (Rep.int .i64) u_ x5)], fun ds_ u_ => [], [], [], none⟩, ⟨some 38, some (.int .i64 x5), fun _ => [], fun ds_ u_ => [], [], [], none⟩, ⟨some 39, some ((padd (sp u5) ((0 : Int).toNat * Pending_.rep.n))), fun _ => [], fun ds_ u_ => [], [], [(2, [9, 8, 7])], none⟩, ⟨some 40, some ((padd (sp u5) ((0 : Int).toNat * Pending_.rep.n + 9))), fun _ => [], fun ds_ u_ => [], [], [(2, [9, 8])], none⟩, ⟨none, some undef, fun _ => [], fun ds_ u_ => [(true, .slice 55 Pending_.rep u5 d2)], [2], [], none⟩] [[], [0], [], [], [3], [2, 4], [5], [1], [7], [8, 6]] [[(false, .box 72 field_Codes.rep v0 y2.2)], [(false, .box 26 (Rep.iso (fun s : Requester_ => (s.Own, s.Next, s.Pending, ())) (Rep.prod (Rep.int .u8) (Rep.prod (Rep.int .i64) (Rep.prod (Rep.raw u5) Rep.unit)))) u1 y1)], [(true, .slice 55 Pending_.rep u5 y1.Pending)]] [1, 3, 4, 5, 6, 7, 8, 9, 10, 11, 12] Try_mixed rfl rfl rfl h35 (.cons ?_ (.cons ?_ (.cons ?_ (.cons ?_ (.cons ?_ (.cons ?_ (.cons ?_ (.cons ?_ (.cons ?_ (.cons ?_ .nil)))))))))) (fun q2 w hq2 h => ?_)
          · intro q2 w Γx Ωx h
            have h : St e w ([] ++ Γx) ([(false, .box 26 (Rep.iso (fun s : Requester_ => (s.Own, s.Next, s.Pending, ())) (Rep.prod (Rep.int .u8) (Rep.prod (Rep.int .i64) (Rep.prod (Rep.raw u5) Rep.unit)))) u1 y1), (true, .box 26 Requester_.rep u2 Requester_.z)] ++ Ωx) := h
            refine OpS.fbox (o3 := 2) h .z PA.z fa26_2 rfl rfl rfl rfl ?_
            exact ⟨undef, rfl, trivial, h⟩
          · intro q2 w Γx Ωx h
            have h : St e w ([] ++ Γx) ([(false, .box 26 (Rep.iso (fun s : Requester_ => (s.Own, s.Next, s.Pending, ())) (Rep.prod (Rep.int .u8) (Rep.prod (Rep.int .i64) (Rep.prod (Rep.raw u5) Rep.unit)))) u1 y1), (true, .slice 55 Pending_.rep u5 y1.Pending), (true, .box 26 Requester_.rep u2 Requester_.z)] ++ Ωx) := h
            refine OpS.loadR h .z PA.a (GetS.ok (GetS.iso _ (GetS.there (GetS.there (GetS.here GetS.id))))) ty24 rfl rfl rfl rfl rfl ?_
            exact ⟨undef, rfl, trivial, h⟩
          · intro q2 w Γx Ωx h
            refine OpS.lit (r := (Rep.int .i64)) (f := true) h Try.underlying32 ti2 rfl rfl rfl rfl rfl (.cons rfl V.int (.cons rfl V.int (.cons rfl V.int .nil))) rfl rfl (fun u w18 h42 => ?_)
            exact ⟨u, rfl, trivial, h42⟩
          · intro q2 w Γx Ωx h
            refine OpS.mv rfl rfl rfl ?_
            exact ⟨undef, rfl, trivial, h⟩
          · intro q2 w Γx Ωx h
            have h : St e w ([] ++ Γx) ([(false, .box 72 field_Codes.rep v0 y2.2), (true, .box 26 Requester_.rep u2 Requester_.z)] ++ Ωx) := h
            have h43 := h.front (.cons .z .nil)
            refine OpS.callO h43 Try.func14 rfl rfl rfl rfl (vs := [v0, .int .i64 3]) rfl (field_Codes_Next_ok e11) rfl .nil ?_
            rintro _ w19 _ _ _ ⟨rfl, rfl, rfl, rfl⟩ h44
            have h45 := h44
            simp only [List.cons_append, List.nil_append] at h45
            exact ⟨undef, rfl, trivial, h45⟩
          · intro q2 w Γx Ωx h
            refine OpS.iptr h Try.underlying32 ty2 rfl rfl rfl rfl (V.at .z) e12 (fun u h46 => ?_)
            exact ⟨u, rfl, trivial, h46⟩
          · intro q2 w Γx Ωx h
            refine OpS.loadi h ty2 rfl rfl rfl .z ?_
            exact ⟨undef, rfl, trivial, h⟩
          · intro q2 w Γx Ωx h
            have h : St e w ([] ++ Γx) ([(true, .slice 55 Pending_.rep u5 y1.Pending), (true, .box 26 Requester_.rep u2 Requester_.z)] ++ Ωx) := h
            refine OpS.iown h .z Try.underlying24 ty55 rfl rfl rfl rfl e13 ?_
            exact ⟨undef, rfl, trivial, h⟩
          · intro q2 w Γx Ωx h
            have h : St e w ([] ++ Γx) ([(true, .slice 55 Pending_.rep u5 y1.Pending), (true, .box 26 Requester_.rep u2 Requester_.z)] ++ Ωx) := h
            refine OpS.fown h .z (idx_ne e13) PA.a fa55_1 rfl rfl rfl ?_
            exact ⟨undef, rfl, trivial, h⟩
          · intro q2 w Γx Ωx h
            have h : St e w ([] ++ Γx) ([(true, .slice 55 Pending_.rep u5 y1.Pending), (true, .box 26 Requester_.rep u2 Requester_.z)] ++ Ωx) := h
            refine OpS.storeO (f' := true) h .z (idx_ne e13) PA.a (Put.of (Put.comp (Get.arr e13) (Put.fld Pending_.f1) (Put.arr e13)) e14) ty2 rfl rfl rfl V.int (.inl rfl) (fun w20 h47 => ?_)
            exact ⟨undef, trivial, trivial, h47⟩
          have h48 : St e w [(true, .val (Rep.slice (Rep.int .i64)) (q2 2) ([(-1), 0, 9223372036854775807])), (true, .ptr (Rep.int .i64) (q2 5) x5)] [(false, .box 26 (Rep.iso (fun s : Requester_ => (s.Own, s.Next, s.Pending, ())) (Rep.prod (Rep.int .u8) (Rep.prod (Rep.int .i64) (Rep.prod (Rep.raw u5) Rep.unit)))) u1 y1), (false, .box 72 field_Codes.rep v0 y4.2), (true, .slice 55 Pending_.rep u5 d2), (true, .box 26 Requester_.rep u2 Requester_.z)] := h
          refine RunL.nil ?_
          refine Run.slim [(3, u1), (4, u2)] ⟨rfl, rfl, trivial⟩ ?_
          refine Run.endBlock ?_
          refine Run.seq ?_
          refine Run.reg ?_
          refine RunL.op (OpS.loadB (fr := (Rep.iso (fun s : Requester_ => (s.Own, s.Next, s.Pending, ())) (Rep.prod (Rep.int .u8) (Rep.prod (Rep.int .i64) (Rep.prod (Rep.raw u5) Rep.unit))))) h48 .z PA.z (GetS.ok GetS.id) (Ty.like ty26 (by rfl) (by rfl)) rfl rfl rfl (fun u8 h49 => ?_))
          refine RunL.op (OpS.storeC (f' := true) (fr := (Rep.iso (fun s : Requester_ => (s.Own, s.Next, s.Pending, ())) (Rep.prod (Rep.int .u8) (Rep.prod (Rep.int .i64) (Rep.prod (Rep.raw u5) Rep.unit))))) (r' := (Rep.iso (fun s : Requester_ => (s.Own, s.Next, s.Pending, ())) (Rep.prod (Rep.int .u8) (Rep.prod (Rep.int .i64) (Rep.prod (Rep.raw u5) Rep.unit))))) (x' := y1) h49 (.s (.s (.s .z))) PA.z (Chg.id (by rfl)) (Ty.like ty26 (by rfl) (by rfl)) rfl rfl rfl (V.pure (V.at .z) (Pure.iso (Pure.prod Pure.int (Pure.prod Pure.int (Pure.prod Pure.raw Pure.unit))))) (.inl rfl) (fun w21 h50 => ?_))
          refine RunL.nil ?_
          refine Run.slim [(4, u2)] ⟨rfl, trivial⟩ ?_
          obtain ⟨u9, hu2, h51⟩ := res_box h50 .z (Ty.like ty26 (by rfl) (by rfl))
          have h52 := (h51.pick (.s (.s (.s .z)))).freeze
          have h53 := h52.pick .z
          have h54 := St.boxJ (r' := Requester_.rep) (x' := { y1 with Pending := d2 }) h53 (fun _ _ hs_ => (Jn.iso _ (Jn.prod Jn.refl (Jn.prod Jn.refl (Jn.prod (Jn.raw ((V.at .z) _ _ hs_) rfl) Jn.refl)))))
          have h55 := h54.pick (.s .z)
          have h56 := St.boxJ (r' := Requester_.rep) (x' := { y1 with Pending := d2 }) h55 (fun _ _ hs_ => (Jn.iso _ (Jn.prod Jn.refl (Jn.prod Jn.refl (Jn.prod (Jn.raw ((V.weak (V.at .z)) _ _ hs_) rfl) Jn.refl)))))
          have h57 := St.addV (f := true) (r := Requester_.rep) (x := { y1 with Pending := d2 }) h56 (V.jn (r := (Rep.iso (fun s : Requester_ => (s.Own, s.Next, s.Pending, ())) (Rep.prod (Rep.int .u8) (Rep.prod (Rep.int .i64) (Rep.prod (Rep.raw u5) Rep.unit))))) (x := y1) (V.at (.s .z)) rfl (fun _ _ hs_ => (Jn.iso _ (Jn.prod Jn.refl (Jn.prod Jn.refl (Jn.prod (Jn.raw ((V.at .z) _ _ hs_) rfl) Jn.refl))))))
          refine Run.retP rfl (.cell rfl hu2 .nil) ?_
          cases hF
          exact Post.mk' ⟨u9, rfl, rfl, rfl, rfl⟩ (h57.picks (.cons (.s (.s .z)) .nil)) (.val (V.at .z) .nil)
        ·
          refine Run.seq ?_
          refine Run.reg ?_
          refine RunL.op (OpS.bin rfl rfl rfl rfl rfl ?_)
          refine RunL.op (OpS.as rfl rfl rfl ?_)
          obtain ⟨x7, e15, hF⟩ := letP_use hF
          refine RunL.nameb e15 ?_
          refine RunL.nil ?_
          refine Run.slim [(41, .bool x7), (18, .int .i64 s2), (0, v0), (3, u1), (4, u2)] ⟨rfl, rfl, rfl, rfl, rfl, trivial⟩ ?_
          refine Run.ite rfl hF (fun e16 hF => ?_) (fun e16 hF => ?_)
          ·
            refine Run.reg ?_
            refine RunL.op (OpS.fbox (o3 := 2) h11 (.s .z) PA.z fa26_2 rfl rfl rfl rfl ?_)
            refine RunL.op (OpS.loadR h11 (.s .z) PA.a (GetS.ok (GetS.iso _ (GetS.there (GetS.there (GetS.here GetS.id))))) ty24 rfl rfl rfl rfl rfl ?_)
            obtain ⟨x8, e17, hF⟩ := bindP_use hF
            refine RunL.op (OpS.iown h11 (.s (.s (.s .z))) Try.underlying24 ty55 rfl rfl rfl rfl e17 ?_)
            refine RunL.op (OpS.fown h11 (.s (.s (.s .z))) (idx_ne e17) PA.a fa55_0 rfl rfl rfl ?_)
            refine RunL.op (OpS.fown h11 (.s (.s (.s .z))) (idx_ne e17) PA.a fa51_1 rfl rfl rfl ?_)
            refine RunL.op (OpS.loadOi h11 (.s (.s (.s .z))) (idx_ne e17) PA.a (Get.comp (Get.comp (Get.arr e17) (Get.fld Pending_.f0)) (Get.fld Message_.f1)) ty5 rfl rfl rfl ?_)
            refine RunL.op (OpS.bin rfl rfl rfl rfl rfl ?_)
            obtain ⟨x9, e18, hF⟩ := bindP_use hF
            refine RunL.op (OpS.iown h11 (.s (.s (.s .z))) Try.underlying24 ty55 rfl rfl rfl rfl e18 ?_)
            refine RunL.op (OpS.fown h11 (.s (.s (.s .z))) (idx_ne e18) PA.a fa55_0 rfl rfl rfl ?_)
            refine RunL.op (OpS.fown h11 (.s (.s (.s .z))) (idx_ne e18) PA.a fa51_1 rfl rfl rfl ?_)
            obtain ⟨d3, e19, hF⟩ := letP_use hF
            refine RunL.op (OpS.storeO (f' := true) h11 (.s (.s (.s .z))) (idx_ne e18) PA.a (Put.of (Put.comp (Get.comp (Get.arr e18) (Get.fld Pending_.f0)) (Put.fld Message_.f1) (Put.comp (Get.arr e18) (Put.fld Pending_.f0) (Put.arr e18))) e19) ty5 rfl rfl rfl V.int (.inl rfl) (fun w22 h58 => ?_))
            refine RunL.nil ?_
            refine Run.slim [(3, u1), (4, u2)] ⟨rfl, rfl, trivial⟩ ?_
            refine Run.endBlock ?_
            refine Run.seq ?_
            refine Run.reg ?_
            refine RunL.op (OpS.loadB (fr := (Rep.iso (fun s : Requester_ => (s.Own, s.Next, s.Pending, ())) (Rep.prod (Rep.int .u8) (Rep.prod (Rep.int .i64) (Rep.prod (Rep.raw u5) Rep.unit))))) h58 (.s (.s .z)) PA.z (GetS.ok GetS.id) (Ty.like ty26 (by rfl) (by rfl)) rfl rfl rfl (fun u10 h59 => ?_))
            refine RunL.op (OpS.storeC (f' := true) (fr := (Rep.iso (fun s : Requester_ => (s.Own, s.Next, s.Pending, ())) (Rep.prod (Rep.int .u8) (Rep.prod (Rep.int .i64) (Rep.prod (Rep.raw u5) Rep.unit))))) (r' := (Rep.iso (fun s : Requester_ => (s.Own, s.Next, s.Pending, ())) (Rep.prod (Rep.int .u8) (Rep.prod (Rep.int .i64) (Rep.prod (Rep.raw u5) Rep.unit))))) (x' := y1) h59 (.s (.s (.s .z))) PA.z (Chg.id (by rfl)) (Ty.like ty26 (by rfl) (by rfl)) rfl rfl rfl (V.pure (V.at .z) (Pure.iso (Pure.prod Pure.int (Pure.prod Pure.int (Pure.prod Pure.raw Pure.unit))))) (.inl rfl) (fun w23 h60 => ?_))
            refine RunL.nil ?_
            refine Run.slim [(4, u2)] ⟨rfl, trivial⟩ ?_
            obtain ⟨u11, hu3, h61⟩ := res_box h60 .z (Ty.like ty26 (by rfl) (by rfl))
            have h62 := (h61.pick (.s .z)).freeze
            have h63 := h62.pick .z
            have h64 := St.boxJ (r' := Requester_.rep) (x' := { y1 with Pending := d3 }) h63 (fun _ _ hs_ => (Jn.iso _ (Jn.prod Jn.refl (Jn.prod Jn.refl (Jn.prod (Jn.raw ((V.at .z) _ _ hs_) rfl) Jn.refl)))))
            have h65 := h64.pick (.s (.s .z))
            have h66 := St.boxJ (r' := Requester_.rep) (x' := { y1 with Pending := d3 }) h65 (fun _ _ hs_ => (Jn.iso _ (Jn.prod Jn.refl (Jn.prod Jn.refl (Jn.prod (Jn.raw ((V.weak (V.at .z)) _ _ hs_) rfl) Jn.refl)))))
            have h67 := St.addV (f := true) (r := Requester_.rep) (x := { y1 with Pending := d3 }) h66 (V.jn (r := (Rep.iso (fun s : Requester_ => (s.Own, s.Next, s.Pending, ())) (Rep.prod (Rep.int .u8) (Rep.prod (Rep.int .i64) (Rep.prod (Rep.raw u5) Rep.unit))))) (x := y1) (V.at (.s .z)) rfl (fun _ _ hs_ => (Jn.iso _ (Jn.prod Jn.refl (Jn.prod Jn.refl (Jn.prod (Jn.raw ((V.at .z) _ _ hs_) rfl) Jn.refl))))))
            refine Run.retP rfl (.cell rfl hu3 .nil) ?_
            cases hF
            exact Post.mk' ⟨u11, rfl, rfl, rfl, rfl⟩ (h67.picks (.cons (.s (.s .z)) .nil)) (.val (V.at .z) .nil)
          ·
            refine Run.seq ?_
            refine Run.reg ?_
            refine RunL.op (OpS.bin rfl rfl rfl rfl rfl ?_)
            refine RunL.op (OpS.as rfl rfl rfl ?_)
            obtain ⟨x10, e20, hF⟩ := letP_use hF
            refine RunL.nameb e20 ?_
            refine RunL.nil ?_
            refine Run.slim [(53, .bool x10), (18, .int .i64 s2), (0, v0), (3, u1), (4, u2)] ⟨rfl, rfl, rfl, rfl, rfl, trivial⟩ ?_
            refine Run.ite rfl hF (fun e21 hF => ?_) (fun e21 hF => ?_)
            ·
              have h68 := h11.picks (.cons (.s .z) (.cons (.s (.s .z)) (.cons .z (.cons .z .nil))))
              obtain ⟨x11, e22, hF⟩ := bindP_use hF
              obtain ⟨x12, e23, hF⟩ := bindP_use hF
              refine Run.drawV (Ωs := [(false, .box 72 field_Codes.rep v0 y2.2), (true, .box 26 Requester_.rep u2 Requester_.z)]) [⟨some 55, some ((padd u1 2)), fun _ => [], fun ds_ u_ => [], [], [(0, [])], none⟩, ⟨some 56, some (u5), fun _ => [], fun ds_ u_ => [], [], [(0, []), (1, [7, 1])], none⟩, ⟨some 57, some ((padd u1 2)), fun _ => [], fun ds_ u_ => [], [], [(0, [])], none⟩, ⟨some 58, some (u5), fun _ => [], fun ds_ u_ => [], [], [(0, []), (1, [7, 6, 5, 4, 3])], none⟩, ⟨some 59, some ((padd (sp u5) ((0 : Int).toNat * Pending_.rep.n))), fun _ => [], fun ds_ u_ => [], [], [(1, [7, 6, 5, 4])], none⟩, ⟨some 60, none, fun u_ => [(true, .val Pending_.rep u_ x11)], fun ds_ u_ => [], [], [(1, [7, 6, 5])], none⟩, ⟨some 61, none, fun u_ => [(true, .val (Rep.slice Pending_.rep) u_ ([x11]))], fun ds_ u_ => [], [], [], none⟩, ⟨some 62, none, fun u_ => [], fun ds_ u_ => [(true, .slice 55 Pending_.rep u_ x12)], [1], [], none⟩] [[], [0], [], [2], [3], [4], [5], [1, 6]] [[(false, .box 26 (Rep.iso (fun s : Requester_ => (s.Own, s.Next, s.Pending, ())) (Rep.prod (Rep.int .u8) (Rep.prod (Rep.int .i64) (Rep.prod (Rep.raw u5) Rep.unit)))) u1 y1)], [(true, .slice 55 Pending_.rep u5 y1.Pending)]] [0, 2, 3, 4, 5, 6, 7, 8, 9] Try_mixed rfl rfl rfl h68 (.cons ?_ (.cons ?_ (.cons ?_ (.cons ?_ (.cons ?_ (.cons ?_ (.cons ?_ (.cons ?_ .nil)))))))) (fun q3 w hq3 h => ?_)
              · intro q3 w Γx Ωx h
                have h : St e w ([] ++ Γx) ([(false, .box 26 (Rep.iso (fun s : Requester_ => (s.Own, s.Next, s.Pending, ())) (Rep.prod (Rep.int .u8) (Rep.prod (Rep.int .i64) (Rep.prod (Rep.raw u5) Rep.unit)))) u1 y1), (false, .box 72 field_Codes.rep v0 y2.2), (true, .box 26 Requester_.rep u2 Requester_.z)] ++ Ωx) := h
                refine OpS.fbox (o3 := 2) h .z PA.z fa26_2 rfl rfl rfl rfl ?_
                exact ⟨undef, rfl, trivial, h⟩
              · intro q3 w Γx Ωx h
                have h : St e w ([] ++ Γx) ([(false, .box 26 (Rep.iso (fun s : Requester_ => (s.Own, s.Next, s.Pending, ())) (Rep.prod (Rep.int .u8) (Rep.prod (Rep.int .i64) (Rep.prod (Rep.raw u5) Rep.unit)))) u1 y1), (true, .slice 55 Pending_.rep u5 y1.Pending), (false, .box 72 field_Codes.rep v0 y2.2), (true, .box 26 Requester_.rep u2 Requester_.z)] ++ Ωx) := h
                refine OpS.loadR h .z PA.a (GetS.ok (GetS.iso _ (GetS.there (GetS.there (GetS.here GetS.id))))) ty24 rfl rfl rfl rfl rfl ?_
                exact ⟨undef, rfl, trivial, h⟩
              · intro q3 w Γx Ωx h
                have h : St e w ([] ++ Γx) ([(false, .box 26 (Rep.iso (fun s : Requester_ => (s.Own, s.Next, s.Pending, ())) (Rep.prod (Rep.int .u8) (Rep.prod (Rep.int .i64) (Rep.prod (Rep.raw u5) Rep.unit)))) u1 y1), (false, .box 72 field_Codes.rep v0 y2.2), (true, .box 26 Requester_.rep u2 Requester_.z)] ++ Ωx) := h
                refine OpS.fbox (o3 := 2) h .z PA.z fa26_2 rfl rfl rfl rfl ?_
                exact ⟨undef, rfl, trivial, h⟩
              · intro q3 w Γx Ωx h
                have h : St e w ([] ++ Γx) ([(false, .box 26 (Rep.iso (fun s : Requester_ => (s.Own, s.Next, s.Pending, ())) (Rep.prod (Rep.int .u8) (Rep.prod (Rep.int .i64) (Rep.prod (Rep.raw u5) Rep.unit)))) u1 y1), (true, .slice 55 Pending_.rep u5 y1.Pending), (false, .box 72 field_Codes.rep v0 y2.2), (true, .box 26 Requester_.rep u2 Requester_.z)] ++ Ωx) := h
                refine OpS.loadR h .z PA.a (GetS.ok (GetS.iso _ (GetS.there (GetS.there (GetS.here GetS.id))))) ty24 rfl rfl rfl rfl rfl ?_
                exact ⟨undef, rfl, trivial, h⟩
              · intro q3 w Γx Ωx h
                have h : St e w ([] ++ Γx) ([(true, .slice 55 Pending_.rep u5 y1.Pending), (false, .box 72 field_Codes.rep v0 y2.2), (true, .box 26 Requester_.rep u2 Requester_.z)] ++ Ωx) := h
                refine OpS.iown h .z Try.underlying24 ty55 rfl rfl rfl rfl e22 ?_
                exact ⟨undef, rfl, trivial, h⟩
              · intro q3 w Γx Ωx h
                have h : St e w ([] ++ Γx) ([(true, .slice 55 Pending_.rep u5 y1.Pending), (false, .box 72 field_Codes.rep v0 y2.2), (true, .box 26 Requester_.rep u2 Requester_.z)] ++ Ωx) := h
                refine OpS.loadO h .z (idx_ne e22) PA.a (Get.arr e22) ty55 rfl rfl rfl (fun u h72 => ?_)
                exact ⟨u, rfl, trivial, h72⟩
              · intro q3 w Γx Ωx h
                refine OpS.lit (r := Pending_.rep) (f := true) h Try.underlying24 ti55 rfl rfl rfl rfl rfl (.cons rfl (V.at .z) .nil) rfl rfl (fun u w26 h73 => ?_)
                exact ⟨u, rfl, trivial, h73⟩
              · intro q3 w Γx Ωx h
                have h : St e w ([(true, .val (Rep.slice Pending_.rep) (q3 6) ([x11]))] ++ Γx) ([(true, .slice 55 Pending_.rep u5 y1.Pending), (false, .box 72 field_Codes.rep v0 y2.2), (true, .box 26 Requester_.rep u2 Requester_.z)] ++ Ωx) := h
                refine OpS.app (f' := true) h .z Try.underlying24 ti55 rfl rfl rfl rfl rfl rfl rfl (V.at .z) (.inl (.inl rfl)) e23 (fun u w27 h74 => ?_)
                exact ⟨u, rfl, trivial, h74⟩
              have h75 : St e w [(true, .val Pending_.rep (q3 5) x11), (true, .val (Rep.slice Pending_.rep) (q3 6) ([x11]))] [(false, .box 26 (Rep.iso (fun s : Requester_ => (s.Own, s.Next, s.Pending, ())) (Rep.prod (Rep.int .u8) (Rep.prod (Rep.int .i64) (Rep.prod (Rep.raw u5) Rep.unit)))) u1 y1), (true, .slice 55 Pending_.rep (q3 7) x12), (false, .box 72 field_Codes.rep v0 y2.2), (true, .box 26 Requester_.rep u2 Requester_.z)] := h
              refine RunL.op (OpS.fbox (o3 := 2) h75 .z PA.z fa26_2 rfl rfl rfl rfl ?_)
              refine RunL.op (OpS.storeC (f' := false) (fr := (Rep.raw (q3 7))) (r' := (Rep.iso (fun s : Requester_ => (s.Own, s.Next, s.Pending, ())) (Rep.prod (Rep.int .u8) (Rep.prod (Rep.int .i64) (Rep.prod (Rep.raw (q3 7)) Rep.unit))))) (x' := y1) h75 .z PA.a (Chg.iso _ (Chg.there (Chg.there (Chg.here (Chg.id (by rfl)))))) (Ty.like ty24 (by rfl) (by rfl)) rfl rfl rfl (V.raw (f := false) (St.own1 h75 (.s .z)) y1.Pending) (.inr rfl) (fun w28 h76 => ?_))
              refine RunL.nil ?_
              refine Run.slim [(3, u1), (4, u2)] ⟨rfl, rfl, trivial⟩ ?_
              refine Run.endBlock ?_
              refine Run.seq ?_
              refine Run.reg ?_
              refine RunL.op (OpS.loadB (fr := (Rep.iso (fun s : Requester_ => (s.Own, s.Next, s.Pending, ())) (Rep.prod (Rep.int .u8) (Rep.prod (Rep.int .i64) (Rep.prod (Rep.raw (q3 7)) Rep.unit))))) h76 .z PA.z (GetS.ok GetS.id) (Ty.like ty26 (by rfl) (by rfl)) rfl rfl rfl (fun u12 h77 => ?_))
              refine RunL.op (OpS.storeC (f' := true) (fr := (Rep.iso (fun s : Requester_ => (s.Own, s.Next, s.Pending, ())) (Rep.prod (Rep.int .u8) (Rep.prod (Rep.int .i64) (Rep.prod (Rep.raw (q3 7)) Rep.unit))))) (r' := (Rep.iso (fun s : Requester_ => (s.Own, s.Next, s.Pending, ())) (Rep.prod (Rep.int .u8) (Rep.prod (Rep.int .i64) (Rep.prod (Rep.raw (q3 7)) Rep.unit))))) (x' := y1) h77 (.s (.s (.s .z))) PA.z (Chg.id (by rfl)) (Ty.like ty26 (by rfl) (by rfl)) rfl rfl rfl (V.pure (V.at .z) (Pure.iso (Pure.prod Pure.int (Pure.prod Pure.int (Pure.prod Pure.raw Pure.unit))))) (.inl rfl) (fun w29 h78 => ?_))
              refine RunL.nil ?_
              refine Run.slim [(4, u2)] ⟨rfl, trivial⟩ ?_
              obtain ⟨u13, hu4, h79⟩ := res_box h78 .z (Ty.like ty26 (by rfl) (by rfl))
              have h80 := (h79.pick (.s (.s .z))).freeze
              have h81 := h80.pick .z
              have h82 := St.boxJ (r' := Requester_.rep) (x' := { y1 with Pending := x12 }) h81 (fun _ _ hs_ => (Jn.iso _ (Jn.prod Jn.refl (Jn.prod Jn.refl (Jn.prod (Jn.raw ((V.at .z) _ _ hs_) rfl) Jn.refl)))))
              have h83 := h82.pick (.s .z)
              have h84 := St.boxJ (r' := Requester_.rep) (x' := { y1 with Pending := x12 }) h83 (fun _ _ hs_ => (Jn.iso _ (Jn.prod Jn.refl (Jn.prod Jn.refl (Jn.prod (Jn.raw ((V.weak (V.at .z)) _ _ hs_) rfl) Jn.refl)))))
              have h85 := St.addV (f := true) (r := Requester_.rep) (x := { y1 with Pending := x12 }) h84 (V.jn (r := (Rep.iso (fun s : Requester_ => (s.Own, s.Next, s.Pending, ())) (Rep.prod (Rep.int .u8) (Rep.prod (Rep.int .i64) (Rep.prod (Rep.raw (q3 7)) Rep.unit))))) (x := y1) (V.at (.s .z)) rfl (fun _ _ hs_ => (Jn.iso _ (Jn.prod Jn.refl (Jn.prod Jn.refl (Jn.prod (Jn.raw ((V.at .z) _ _ hs_) rfl) Jn.refl))))))
              refine Run.retP rfl (.cell rfl hu4 .nil) ?_
              cases hF
              exact Post.mk' ⟨u13, rfl, rfl, rfl, rfl⟩ (h85.picks (.cons (.s (.s .z)) .nil)) (.val (V.at .z) .nil)
            ·
              refine Run.seq ?_
              refine Run.reg ?_
              refine RunL.op (OpS.bin rfl rfl rfl rfl rfl ?_)
              refine RunL.op (OpS.as rfl rfl rfl ?_)
              obtain ⟨x13, e24, hF⟩ := letP_use hF
              refine RunL.nameb e24 ?_
              refine RunL.nil ?_
              refine Run.slim [(64, .bool x13), (18, .int .i64 s2), (0, v0), (3, u1), (4, u2)] ⟨rfl, rfl, rfl, rfl, rfl, trivial⟩ ?_
              refine Run.ite rfl hF (fun e25 hF => ?_) (fun e25 hF => ?_)
              ·
                refine Run.reg ?_
                refine RunL.op (OpS.lit (r := (Rep.int .i64)) (f := true) h11 Try.underlying74 ti3 rfl rfl rfl rfl rfl (.cons rfl V.int (.cons rfl V.int (.cons rfl V.int .nil))) rfl rfl (fun u14 w30 h86 => ?_))
                refine RunL.op (OpS.mv rfl rfl rfl ?_)
                obtain ⟨y5, e26, hF⟩ := bindP_use hF
                have h87 := h86.front (.cons .z .nil)
                refine RunL.op (OpS.callO h87 Try.func14 rfl rfl rfl rfl (vs := [v0, .int .i64 3]) rfl (field_Codes_Next_ok e26) rfl .nil ?_)
                rintro _ w31 _ _ _ ⟨rfl, rfl, rfl, rfl⟩ h88
                have h89 := h88
                simp only [List.cons_append, List.nil_append] at h89
                obtain ⟨x14, e27, hF⟩ := bindP_use hF
                refine RunL.op (OpS.iptr h89 Try.underlying74 ty3 rfl rfl rfl rfl (V.at .z) e27 (fun u15 h90 => ?_))
                refine RunL.op (OpS.loadi h90 ty3 rfl rfl rfl .z ?_)
                refine RunL.op (OpS.fbox (o3 := 1) h90 (.s .z) PA.z fa26_1 rfl rfl rfl rfl ?_)
                obtain ⟨d4, e28, hF⟩ := letP_use hF
                refine RunL.op (OpS.storeC (f' := true) (fr := (Rep.int .i64)) (r' := (Rep.iso (fun s : Requester_ => (s.Own, s.Next, s.Pending, ())) (Rep.prod (Rep.int .u8) (Rep.prod (Rep.int .i64) (Rep.prod (Rep.raw u5) Rep.unit))))) (x' := d4) h90 (.s .z) PA.a (Chg.of (x' := { y1 with Next := x14 }) (Chg.iso _ (Chg.there (Chg.here (Chg.id (by rfl))))) e28) ty3 rfl rfl rfl V.int (.inr rfl) (fun w32 h91 => ?_))
                refine RunL.nil ?_
                refine Run.slim [(3, u1), (4, u2)] ⟨rfl, rfl, trivial⟩ ?_
                refine Run.endBlock ?_
                refine Run.seq ?_
                refine Run.reg ?_
                refine RunL.op (OpS.loadB (fr := (Rep.iso (fun s : Requester_ => (s.Own, s.Next, s.Pending, ())) (Rep.prod (Rep.int .u8) (Rep.prod (Rep.int .i64) (Rep.prod (Rep.raw u5) Rep.unit))))) h91 .z PA.z (GetS.ok GetS.id) (Ty.like ty26 (by rfl) (by rfl)) rfl rfl rfl (fun u16 h92 => ?_))
                refine RunL.op (OpS.storeC (f' := true) (fr := (Rep.iso (fun s : Requester_ => (s.Own, s.Next, s.Pending, ())) (Rep.prod (Rep.int .u8) (Rep.prod (Rep.int .i64) (Rep.prod (Rep.raw u5) Rep.unit))))) (r' := (Rep.iso (fun s : Requester_ => (s.Own, s.Next, s.Pending, ())) (Rep.prod (Rep.int .u8) (Rep.prod (Rep.int .i64) (Rep.prod (Rep.raw u5) Rep.unit))))) (x' := d4) h92 (.s (.s .z)) PA.z (Chg.id (by rfl)) (Ty.like ty26 (by rfl) (by rfl)) rfl rfl rfl (V.pure (V.at .z) (Pure.iso (Pure.prod Pure.int (Pure.prod Pure.int (Pure.prod Pure.raw Pure.unit))))) (.inl rfl) (fun w33 h93 => ?_))
                refine RunL.nil ?_
                refine Run.slim [(4, u2)] ⟨rfl, trivial⟩ ?_
                obtain ⟨u17, hu5, h94⟩ := res_box h93 .z (Ty.like ty26 (by rfl) (by rfl))
                have h95 := (h94.pick (.s (.s (.s .z)))).freeze
                have h96 := h95.pick .z
                have h97 := St.boxJ (r' := Requester_.rep) (x' := { d4 with Pending := y1.Pending }) h96 (fun _ _ hs_ => (Jn.iso _ (Jn.prod Jn.refl (Jn.prod Jn.refl (Jn.prod (Jn.raw ((V.at .z) _ _ hs_) rfl) Jn.refl)))))
                have h98 := h97.pick (.s .z)
                have h99 := St.boxJ (r' := Requester_.rep) (x' := { d4 with Pending := y1.Pending }) h98 (fun _ _ hs_ => (Jn.iso _ (Jn.prod Jn.refl (Jn.prod Jn.refl (Jn.prod (Jn.raw ((V.weak (V.at .z)) _ _ hs_) rfl) Jn.refl)))))
                have h100 := St.addV (f := true) (r := Requester_.rep) (x := { d4 with Pending := y1.Pending }) h99 (V.jn (r := (Rep.iso (fun s : Requester_ => (s.Own, s.Next, s.Pending, ())) (Rep.prod (Rep.int .u8) (Rep.prod (Rep.int .i64) (Rep.prod (Rep.raw u5) Rep.unit))))) (x := d4) (V.at (.s .z)) rfl (fun _ _ hs_ => (Jn.iso _ (Jn.prod Jn.refl (Jn.prod Jn.refl (Jn.prod (Jn.raw ((V.at .z) _ _ hs_) rfl) Jn.refl))))))
                refine Run.retP rfl (.cell rfl hu5 .nil) ?_
                cases hF
                exact Post.mk' ⟨u17, rfl, rfl, rfl, rfl⟩ (h100.picks (.cons (.s (.s .z)) .nil)) (.val (V.at .z) .nil)
              ·
                refine Run.seq ?_
                refine Run.reg ?_
                refine RunL.op (OpS.bin rfl rfl rfl rfl rfl ?_)
                refine RunL.op (OpS.as rfl rfl rfl ?_)
                obtain ⟨x15, e29, hF⟩ := letP_use hF
                refine RunL.nameb e29 ?_
                refine RunL.nil ?_
                refine Run.slim [(72, .bool x15), (0, v0), (3, u1), (4, u2)] ⟨rfl, rfl, rfl, rfl, trivial⟩ ?_
                refine Run.ite rfl hF (fun e30 hF => ?_) (fun e30 hF => ?_)
                ·
                  refine Run.reg ?_
                  refine RunL.op (OpS.mv rfl rfl rfl ?_)
                  obtain ⟨y6, e31, hF⟩ := bindP_use hF
                  have h101 := h11.front (.cons .z .nil)
                  refine RunL.op (OpS.callO h101 Try.func14 rfl rfl rfl rfl (vs := [v0, .int .i64 256]) rfl (field_Codes_Next_ok e31) rfl .nil ?_)
                  rintro _ w34 _ _ _ ⟨rfl, rfl, rfl, rfl⟩ h102
                  have h103 := h102
                  simp only [List.cons_append, List.nil_append] at h103
                  refine RunL.op (OpS.conv Try.underlying3 Try.underlying5 rfl rfl rfl ?_)
                  refine RunL.op (OpS.fbox (o3 := 0) h103 (.s .z) PA.z fa26_0 rfl rfl rfl rfl ?_)
                  obtain ⟨d5, e32, hF⟩ := letP_use hF
                  refine RunL.op (OpS.storeC (f' := true) (fr := (Rep.int .u8)) (r' := (Rep.iso (fun s : Requester_ => (s.Own, s.Next, s.Pending, ())) (Rep.prod (Rep.int .u8) (Rep.prod (Rep.int .i64) (Rep.prod (Rep.raw u5) Rep.unit))))) (x' := d5) h103 (.s .z) PA.a (Chg.of (x' := { y1 with Own := (IntKind.u8.wrap y6.1) }) (Chg.iso _ (Chg.here (Chg.id (by rfl)))) e32) ty5 rfl rfl rfl V.int (.inr rfl) (fun w35 h104 => ?_))
                  refine RunL.nil ?_
                  refine Run.slim [(3, u1), (4, u2)] ⟨rfl, rfl, trivial⟩ ?_
                  refine Run.endBlock ?_
                  refine Run.seq ?_
                  refine Run.reg ?_
                  refine RunL.op (OpS.loadB (fr := (Rep.iso (fun s : Requester_ => (s.Own, s.Next, s.Pending, ())) (Rep.prod (Rep.int .u8) (Rep.prod (Rep.int .i64) (Rep.prod (Rep.raw u5) Rep.unit))))) h104 .z PA.z (GetS.ok GetS.id) (Ty.like ty26 (by rfl) (by rfl)) rfl rfl rfl (fun u18 h105 => ?_))
                  refine RunL.op (OpS.storeC (f' := true) (fr := (Rep.iso (fun s : Requester_ => (s.Own, s.Next, s.Pending, ())) (Rep.prod (Rep.int .u8) (Rep.prod (Rep.int .i64) (Rep.prod (Rep.raw u5) Rep.unit))))) (r' := (Rep.iso (fun s : Requester_ => (s.Own, s.Next, s.Pending, ())) (Rep.prod (Rep.int .u8) (Rep.prod (Rep.int .i64) (Rep.prod (Rep.raw u5) Rep.unit))))) (x' := d5) h105 (.s (.s .z)) PA.z (Chg.id (by rfl)) (Ty.like ty26 (by rfl) (by rfl)) rfl rfl rfl (V.pure (V.at .z) (Pure.iso (Pure.prod Pure.int (Pure.prod Pure.int (Pure.prod Pure.raw Pure.unit))))) (.inl rfl) (fun w36 h106 => ?_))
                  refine RunL.nil ?_
                  refine Run.slim [(4, u2)] ⟨rfl, trivial⟩ ?_
                  obtain ⟨u19, hu6, h107⟩ := res_box h106 .z (Ty.like ty26 (by rfl) (by rfl))
                  have h108 := (h107.pick (.s (.s (.s .z)))).freeze
                  have h109 := h108.pick .z
                  have h110 := St.boxJ (r' := Requester_.rep) (x' := { d5 with Pending := y1.Pending }) h109 (fun _ _ hs_ => (Jn.iso _ (Jn.prod Jn.refl (Jn.prod Jn.refl (Jn.prod (Jn.raw ((V.at .z) _ _ hs_) rfl) Jn.refl)))))
                  have h111 := h110.pick (.s .z)
                  have h112 := St.boxJ (r' := Requester_.rep) (x' := { d5 with Pending := y1.Pending }) h111 (fun _ _ hs_ => (Jn.iso _ (Jn.prod Jn.refl (Jn.prod Jn.refl (Jn.prod (Jn.raw ((V.weak (V.at .z)) _ _ hs_) rfl) Jn.refl)))))
                  have h113 := St.addV (f := true) (r := Requester_.rep) (x := { d5 with Pending := y1.Pending }) h112 (V.jn (r := (Rep.iso (fun s : Requester_ => (s.Own, s.Next, s.Pending, ())) (Rep.prod (Rep.int .u8) (Rep.prod (Rep.int .i64) (Rep.prod (Rep.raw u5) Rep.unit))))) (x := d5) (V.at (.s .z)) rfl (fun _ _ hs_ => (Jn.iso _ (Jn.prod Jn.refl (Jn.prod Jn.refl (Jn.prod (Jn.raw ((V.at .z) _ _ hs_) rfl) Jn.refl))))))
                  refine Run.retP rfl (.cell rfl hu6 .nil) ?_
                  cases hF
                  exact Post.mk' ⟨u19, rfl, rfl, rfl, rfl⟩ (h113.picks (.cons (.s (.s .z)) .nil)) (.val (V.at .z) .nil)
                ·
                  refine Run.skip ?_
                  refine Run.endBlock ?_
                  refine Run.seq ?_
                  refine Run.reg ?_
                  refine RunL.op (OpS.loadB (fr := (Rep.iso (fun s : Requester_ => (s.Own, s.Next, s.Pending, ())) (Rep.prod (Rep.int .u8) (Rep.prod (Rep.int .i64) (Rep.prod (Rep.raw u5) Rep.unit))))) h11 (.s .z) PA.z (GetS.ok GetS.id) (Ty.like ty26 (by rfl) (by rfl)) rfl rfl rfl (fun u20 h114 => ?_))
                  refine RunL.op (OpS.storeC (f' := true) (fr := (Rep.iso (fun s : Requester_ => (s.Own, s.Next, s.Pending, ())) (Rep.prod (Rep.int .u8) (Rep.prod (Rep.int .i64) (Rep.prod (Rep.raw u5) Rep.unit))))) (r' := (Rep.iso (fun s : Requester_ => (s.Own, s.Next, s.Pending, ())) (Rep.prod (Rep.int .u8) (Rep.prod (Rep.int .i64) (Rep.prod (Rep.raw u5) Rep.unit))))) (x' := y1) h114 (.s (.s .z)) PA.z (Chg.id (by rfl)) (Ty.like ty26 (by rfl) (by rfl)) rfl rfl rfl (V.pure (V.at .z) (Pure.iso (Pure.prod Pure.int (Pure.prod Pure.int (Pure.prod Pure.raw Pure.unit))))) (.inl rfl) (fun w37 h115 => ?_))
                  refine RunL.nil ?_
                  refine Run.slim [(4, u2)] ⟨rfl, trivial⟩ ?_
                  obtain ⟨u21, hu7, h116⟩ := res_box h115 .z (Ty.like ty26 (by rfl) (by rfl))
                  have h117 := (h116.pick (.s (.s (.s .z)))).freeze
                  have h118 := h117.pick .z
                  have h119 := St.boxJ (r' := Requester_.rep) (x' := { y1 with Pending := y1.Pending }) h118 (fun _ _ hs_ => (Jn.iso _ (Jn.prod Jn.refl (Jn.prod Jn.refl (Jn.prod (Jn.raw ((V.at .z) _ _ hs_) rfl) Jn.refl)))))
                  have h120 := h119.pick (.s (.s .z))
                  have h121 := St.boxJ (r' := Requester_.rep) (x' := { y1 with Pending := y1.Pending }) h120 (fun _ _ hs_ => (Jn.iso _ (Jn.prod Jn.refl (Jn.prod Jn.refl (Jn.prod (Jn.raw ((V.weak (V.at .z)) _ _ hs_) rfl) Jn.refl)))))
                  have h122 := St.addV (f := true) (r := Requester_.rep) (x := { y1 with Pending := y1.Pending }) h121 (V.jn (r := (Rep.iso (fun s : Requester_ => (s.Own, s.Next, s.Pending, ())) (Rep.prod (Rep.int .u8) (Rep.prod (Rep.int .i64) (Rep.prod (Rep.raw u5) Rep.unit))))) (x := y1) (V.at (.s .z)) rfl (fun _ _ hs_ => (Jn.iso _ (Jn.prod Jn.refl (Jn.prod Jn.refl (Jn.prod (Jn.raw ((V.at .z) _ _ hs_) rfl) Jn.refl))))))
                  refine Run.retP rfl (.cell rfl hu7 .nil) ?_
                  cases hF
                  exact Post.mk' ⟨u21, rfl, rfl, rfl, rfl⟩ (h122.picks (.cons (.s (.s .z)) .nil)) (.val (V.at .z) .nil)
    ·
      refine Run.ite rfl hF (fun e33 hF => ?_) (fun e33 hF => ?_)
      ·
        refine Run.reg ?_
        refine RunL.op (OpS.as rfl rfl rfl ?_)
        refine RunL.nil ?_
        refine Run.slim [(5, .int .i64 4), (0, v0), (3, u1), (4, u2)] ⟨rfl, rfl, rfl, rfl, trivial⟩ ?_
        refine Run.slim [(0, v0), (3, u1), (4, u2), (5, .int .i64 4)] ⟨rfl, rfl, rfl, rfl, trivial⟩ ?_
        exact hj2 (4) _ _ ⟨rfl, (h10.facts .nil).picks (.cons .z (.cons .z (.cons .z (.cons .z .nil))))⟩ hF
      ·
        refine Run.skip ?_
        refine Run.slim [(0, v0), (3, u1), (4, u2), (5, .int .i64 y2.1)] ⟨rfl, rfl, rfl, rfl, trivial⟩ ?_
        exact hj2 (y2.1) _ _ ⟨rfl, (h10.facts .nil).picks (.cons .z (.cons .z (.cons .z (.cons .z .nil))))⟩ hF
  ·
    refine RunL.caseb hF (fun e34 hF => ?_) (fun e34 hF => ?_)
    ·
      refine RunL.op (OpS.fbox (o3 := 2) h9 (.s .z) PA.z fa26_2 rfl rfl rfl rfl ?_)
      refine RunL.op (OpS.loadR h9 (.s .z) PA.a (GetS.ok (GetS.iso _ (GetS.there (GetS.there (GetS.here GetS.id))))) ty24 rfl rfl rfl rfl rfl ?_)
      refine RunL.op (OpS.lenO h9 (.s (.s .z)) Try.underlying24 rfl rfl rfl ?_)
      refine RunL.op (OpS.bin rfl rfl rfl rfl rfl ?_)
      refine RunL.op (OpS.pick rfl rfl rfl rfl ?_)
      refine RunL.nil ?_
      refine Run.slim [(17, .bool ((y1.Pending.length : Int) == 0)), (5, .int .i64 y2.1), (4, u2), (3, u1), (0, v0)] ⟨rfl, rfl, rfl, rfl, rfl, trivial⟩ ?_
      refine Run.slim [(0, v0), (3, u1), (4, u2), (5, .int .i64 y2.1), (17, .bool ((y1.Pending.length : Int) == 0))] ⟨rfl, rfl, rfl, rfl, rfl, trivial⟩ ?_
      exact hj1 ((y1.Pending.length : Int) == 0) _ _ ⟨rfl, (h9.facts .nil).picks (.cons .z (.cons .z (.cons (.s .z) (.cons .z .nil))))⟩ hF
    ·
      refine RunL.op (OpS.pass rfl rfl rfl ?_)
      refine RunL.op (OpS.pass rfl rfl rfl ?_)
      refine RunL.op (OpS.pass rfl rfl rfl ?_)
      refine RunL.op (OpS.pass rfl rfl rfl ?_)
      refine RunL.op (OpS.pick rfl rfl rfl rfl ?_)
      refine RunL.nil ?_
      refine Run.slim [(17, .bool false), (5, .int .i64 y2.1), (4, u2), (3, u1), (0, v0)] ⟨rfl, rfl, rfl, rfl, rfl, trivial⟩ ?_
      refine Run.slim [(0, v0), (3, u1), (4, u2), (5, .int .i64 y2.1), (17, .bool false)] ⟨rfl, rfl, rfl, rfl, rfl, trivial⟩ ?_
      exact hj1 (false) _ _ ⟨rfl, (h9.facts .nil).picks (.cons .z (.cons .z (.cons (.s .z) (.cons .z .nil))))⟩ hF
theorem field_Codes_Now_ok {fuel : Nat} {a0 : field_Codes} {y : Int × field_Codes} (hF : field_Codes_Now fuel a0 = some y) {w : World} {v0 : Value} :
    Spec Try.prog 18 [v0].toArray w [] [(false, .box 72 field_Codes.rep v0 a0)] (fun v Γr Ωr Ωo => v = .int .i64 y.1 ∧ Γr = [] ∧ Ωr = [] ∧ Ωo = [(false, .box 72 field_Codes.rep v0 y.2)]) := by
  refine Spec.of (L := [(0, v0)]) Try.func18 rfl ⟨rfl, trivial⟩ rfl (fun e h => ?_)
  unfold field_Codes_Now at hF
  refine Run.seq ?_
  refine Run.reg ?_
  refine RunL.op (OpS.as rfl rfl rfl ?_)
  refine RunL.nil ?_
  refine Run.slim [(0, v0)] ⟨rfl, trivial⟩ ?_
  refine Run.seq ?_
  refine Run.seq ?_
  refine Run.reg ?_
  refine RunL.op (OpS.mv rfl rfl rfl ?_)
  obtain ⟨y1, e1, hF⟩ := bindP_use hF
  have h1 := h.front (.cons .z .nil)
  refine RunL.op (OpS.callO h1 Try.func14 rfl rfl rfl rfl (vs := [v0, .int .i64 12]) rfl (field_Codes_Next_ok e1) rfl .nil ?_)
  rintro _ w1 _ _ _ ⟨rfl, rfl, rfl, rfl⟩ h2
  have h3 := h2
  simp only [List.cons_append, List.nil_append] at h3
  refine RunL.op (OpS.bin rfl rfl rfl rfl rfl ?_)
  refine RunL.nil ?_
  refine Run.slim [(5, .bool (y1.1 == 11)), (0, v0)] ⟨rfl, rfl, trivial⟩ ?_
  refine Run.ite rfl hF (fun e2 hF => ?_) (fun e2 hF => ?_)
  ·
    refine Run.seq ?_
    refine Run.reg ?_
    refine RunL.op (OpS.lit (r := (Rep.int .i64)) (f := true) h3 Try.underlying32 ti2 rfl rfl rfl rfl rfl (.cons rfl V.int (.cons rfl V.int (.cons rfl V.int (.cons rfl V.int (.cons rfl V.int .nil))))) rfl rfl (fun u1 w2 h4 => ?_))
    refine RunL.op (OpS.mv rfl rfl rfl ?_)
    obtain ⟨y2, e3, hF⟩ := bindP_use hF
    have h5 := h4.front (.cons .z .nil)
    refine RunL.op (OpS.callO h5 Try.func14 rfl rfl rfl rfl (vs := [v0, .int .i64 5]) rfl (field_Codes_Next_ok e3) rfl .nil ?_)
    rintro _ w3 _ _ _ ⟨rfl, rfl, rfl, rfl⟩ h6
    have h7 := h6
    simp only [List.cons_append, List.nil_append] at h7
    obtain ⟨x1, e4, hF⟩ := bindP_use hF
    refine RunL.op (OpS.iptr h7 Try.underlying32 ty2 rfl rfl rfl rfl (V.at .z) e4 (fun u2 h8 => ?_))
    refine RunL.op (OpS.loadi h8 ty2 rfl rfl rfl .z ?_)
    refine RunL.op (OpS.as rfl rfl rfl ?_)
    refine RunL.nil ?_
    refine Run.slim [(2, .int .i64 x1)] ⟨rfl, trivial⟩ ?_
    refine Run.retP rfl (.tmp rfl .nil) ?_
    cases hF
    exact Post.mk' ⟨rfl, rfl, rfl, rfl⟩ (h8.picks (.cons .z .nil)) .nil
  ·
    refine Run.skip ?_
    refine Run.seq ?_
    refine Run.reg ?_
    refine RunL.op (OpS.mv rfl rfl rfl ?_)
    obtain ⟨y3, e5, hF⟩ := bindP_use hF
    have h9 := h3.front (.cons .z .nil)
    refine RunL.op (OpS.callO h9 Try.func14 rfl rfl rfl rfl (vs := [v0, .int .i64 200]) rfl (field_Codes_Next_ok e5) rfl .nil ?_)
    rintro _ w4 _ _ _ ⟨rfl, rfl, rfl, rfl⟩ h10
    have h11 := h10
    simp only [List.cons_append, List.nil_append] at h11
    refine RunL.op (OpS.as rfl rfl rfl ?_)
    refine RunL.nil ?_
    refine Run.slim [(2, .int .i64 y3.1)] ⟨rfl, trivial⟩ ?_
    refine Run.retP rfl (.tmp rfl .nil) ?_
    cases hF
    exact Post.mk' ⟨rfl, rfl, rfl, rfl⟩ (h11.picks (.cons .z .nil)) .nil
theorem ref24_Bytes_ok {fuel : Nat} {a0 : List (List Int)} {a1 : List (List Int)} {y : Bool} (hF : ref24_Bytes fuel a0 a1 = some y) {w : World} {v0 v1 : Value} :
    Spec Try.prog 23 [v0, v1].toArray w [(false, .val (Rep.slice (Rep.slice (Rep.int .u8))) v0 a0), (false, .val (Rep.slice (Rep.slice (Rep.int .u8))) v1 a1)] [] (fun v Γr Ωr Ωo => v = .bool y ∧ Γr = [] ∧ Ωr = [] ∧ Ωo = []) := by
  refine Spec.of (L := [(0, v0), (1, v1)]) Try.func23 rfl ⟨rfl, rfl, trivial⟩ rfl (fun e h => ?_)
  unfold ref24_Bytes at hF
  refine Run.seq ?_
  refine Run.reg ?_
  refine RunL.op (OpS.as rfl rfl rfl ?_)
  refine RunL.nil ?_
  refine Run.slim [(0, v0), (1, v1)] ⟨rfl, rfl, trivial⟩ ?_
  refine Run.seq ?_
  refine Run.seq ?_
  refine Run.reg ?_
  refine RunL.op (OpS.mv rfl rfl rfl ?_)
  refine RunL.op (OpS.len h Try.underlying33 rfl rfl rfl (V.at .z) ?_)
  refine RunL.op (OpS.mv rfl rfl rfl ?_)
  refine RunL.op (OpS.len h Try.underlying33 rfl rfl rfl (V.at (.s .z)) ?_)
  refine RunL.op (OpS.bin rfl rfl rfl rfl rfl ?_)
  refine RunL.nil ?_
  refine Run.slim [(10, .bool ((a0.length : Int) != (a1.length : Int))), (0, v0), (1, v1)] ⟨rfl, rfl, rfl, trivial⟩ ?_
  refine Run.ite rfl hF (fun e1 hF => ?_) (fun e1 hF => ?_)
  ·
    refine Run.seq ?_
    refine Run.reg ?_
    refine RunL.op (OpS.as rfl rfl rfl ?_)
    refine RunL.nil ?_
    refine Run.slim [(4, .bool false)] ⟨rfl, trivial⟩ ?_
    refine Run.retP rfl (.tmp rfl .nil) ?_
    cases hF
    exact Post.mk' ⟨rfl, rfl, rfl, rfl⟩ (h.picks .nil) .nil
  ·
    refine Run.skip ?_
    refine Run.seq ?_
    refine Run.seq ?_
    refine Run.reg ?_
    refine RunL.op (OpS.as rfl rfl rfl ?_)
    refine RunL.nil ?_
    refine Run.slim [(5, .int .i64 0), (0, v0), (1, v1)] ⟨rfl, rfl, rfl, trivial⟩ ?_
    refine Run.block ?_
    refine Run.slim [(0, v0), (1, v1), (5, .int .i64 0)] ⟨rfl, rfl, rfl, trivial⟩ ?_
    refine Run.loopP (σ := Int) (fun s_ L_ w_ => L_ = [(0, v0), (1, v1), (5, .int .i64 s_)] ∧ St e w_ [(false, .val (Rep.slice (Rep.slice (Rep.int .u8))) v0 a0), (false, .val (Rep.slice (Rep.slice (Rep.int .u8))) v1 a1)] []) hF ⟨rfl, (h.facts (.atm .z (.atm (.s .z) .nil))).picks .nil⟩ (fun k1 hk1 s1 _ w1 hI hF => ?_)
    obtain ⟨rfl, h1⟩ := hI
    refine Run.seq ?_
    refine Run.seq ?_
    refine Run.reg ?_
    refine RunL.op (OpS.mv rfl rfl rfl ?_)
    refine RunL.op (OpS.mv rfl rfl rfl ?_)
    refine RunL.op (OpS.len h1 Try.underlying33 rfl rfl rfl (V.at .z) ?_)
    refine RunL.op (OpS.bin rfl rfl rfl rfl rfl ?_)
    refine RunL.nil ?_
    refine Run.slim [(14, .bool (decide (s1 < (a0.length : Int)))), (0, v0), (1, v1), (5, .int .i64 s1)] ⟨rfl, rfl, rfl, rfl, trivial⟩ ?_
    refine Run.ite rfl hF (fun e2 hF => ?_) (fun e2 hF => ?_)
    ·
      refine Run.skip ?_
      refine Run.seq ?_
      refine Run.block ?_
      refine Run.seq ?_
      obtain ⟨x1, e3, hF⟩ := bindP_use hF
      obtain ⟨x2, e4, hF⟩ := bindP_use hF
      refine Run.drawV (Ωs := []) [⟨some 17, some (v0), fun _ => [], fun ds_ u_ => [], [], [], none⟩, ⟨some 18, some (.int .i64 s1), fun _ => [], fun ds_ u_ => [], [], [], none⟩, ⟨some 19, none, fun u_ => [(false, .ptr (Rep.slice (Rep.int .u8)) u_ x1)], fun ds_ u_ => [], [], [], none⟩, ⟨some 20, none, fun u_ => [(false, .val (Rep.slice (Rep.int .u8)) u_ x1)], fun ds_ u_ => [], [], [], none⟩, ⟨some 21, none, fun u_ => [(true, .val Rep.str u_ (toStr x1))], fun ds_ u_ => [], [], [], none⟩, ⟨some 22, some (v1), fun _ => [], fun ds_ u_ => [], [], [], none⟩, ⟨some 23, some (.int .i64 s1), fun _ => [], fun ds_ u_ => [], [], [], none⟩, ⟨some 24, none, fun u_ => [(false, .ptr (Rep.slice (Rep.int .u8)) u_ x2)], fun ds_ u_ => [], [], [], none⟩, ⟨some 25, none, fun u_ => [(false, .val (Rep.slice (Rep.int .u8)) u_ x2)], fun ds_ u_ => [], [], [], none⟩, ⟨some 26, none, fun u_ => [(true, .val Rep.str u_ (toStr x2))], fun ds_ u_ => [], [], [], none⟩, ⟨some 27, some (.bool ((toStr x1) != (toStr x2))), fun _ => [], fun ds_ u_ => [], [], [], none⟩] [[], [], [0, 1], [2], [3], [], [], [5, 6], [7], [8], [4, 9]] [] [0, 1, 2, 3, 4, 5, 6, 7, 8, 9, 10] Try_mixed rfl rfl rfl h1 (.cons ?_ (.cons ?_ (.cons ?_ (.cons ?_ (.cons ?_ (.cons ?_ (.cons ?_ (.cons ?_ (.cons ?_ (.cons ?_ (.cons ?_ .nil))))))))))) (fun q1 w hq1 h => ?_)
      · intro q1 w Γx Ωx h
        refine OpS.mv rfl rfl rfl ?_
        exact ⟨undef, rfl, trivial, h⟩
      · intro q1 w Γx Ωx h
        refine OpS.mv rfl rfl rfl ?_
        exact ⟨undef, rfl, trivial, h⟩
      · intro q1 w Γx Ωx h
        refine OpS.iptr h Try.underlying33 ty22 rfl rfl rfl rfl (V.at .z) e3 (fun u h8 => ?_)
        exact ⟨u, rfl, trivial, h8⟩
      · intro q1 w Γx Ωx h
        refine OpS.load h ty22 rfl rfl rfl .z (fun u h9 => ?_)
        exact ⟨u, rfl, trivial, h9⟩
      · intro q1 w Γx Ωx h
        refine OpS.toStr h Try.underlying22 Try.underlying5 Try.underlying9 rfl rfl rfl (V.at .z) (fun u h10 => ?_)
        exact ⟨u, rfl, trivial, h10⟩
      · intro q1 w Γx Ωx h
        refine OpS.mv rfl rfl rfl ?_
        exact ⟨undef, rfl, trivial, h⟩
      · intro q1 w Γx Ωx h
        refine OpS.mv rfl rfl rfl ?_
        exact ⟨undef, rfl, trivial, h⟩
      · intro q1 w Γx Ωx h
        refine OpS.iptr h Try.underlying33 ty22 rfl rfl rfl rfl (V.at (.s .z)) e4 (fun u h11 => ?_)
        exact ⟨u, rfl, trivial, h11⟩
      · intro q1 w Γx Ωx h
        refine OpS.load h ty22 rfl rfl rfl .z (fun u h12 => ?_)
        exact ⟨u, rfl, trivial, h12⟩
      · intro q1 w Γx Ωx h
        refine OpS.toStr h Try.underlying22 Try.underlying5 Try.underlying9 rfl rfl rfl (V.at .z) (fun u h13 => ?_)
        exact ⟨u, rfl, trivial, h13⟩
      · intro q1 w Γx Ωx h
        refine OpS.nes h rfl rfl rfl rfl (V.at .z) (V.at (.s .z)) Try.underlying9 ?_
        exact ⟨undef, rfl, trivial, h⟩
      have h14 : St e w [(false, .ptr (Rep.slice (Rep.int .u8)) (q1 2) x1), (false, .val (Rep.slice (Rep.int .u8)) (q1 3) x1), (true, .val Rep.str (q1 4) (toStr x1)), (false, .ptr (Rep.slice (Rep.int .u8)) (q1 7) x2), (false, .val (Rep.slice (Rep.int .u8)) (q1 8) x2), (true, .val Rep.str (q1 9) (toStr x2)), (false, .val (Rep.slice (Rep.slice (Rep.int .u8))) v0 a0), (false, .val (Rep.slice (Rep.slice (Rep.int .u8))) v1 a1)] [] := h
      refine RunL.nil ?_
      refine Run.slim [(27, .bool ((toStr x1) != (toStr x2))), (0, v0), (1, v1), (5, .int .i64 s1)] ⟨rfl, rfl, rfl, rfl, trivial⟩ ?_
      refine Run.ite rfl hF (fun e5 hF => ?_) (fun e5 hF => ?_)
      ·
        refine Run.seq ?_
        refine Run.reg ?_
        refine RunL.op (OpS.as rfl rfl rfl ?_)
        refine RunL.nil ?_
        refine Run.slim [(4, .bool false)] ⟨rfl, trivial⟩ ?_
        refine Run.retP rfl (.tmp rfl .nil) ?_
        cases hF
        exact Post.mk' ⟨rfl, rfl, rfl, rfl⟩ (h14.picks .nil) .nil
      ·
        refine Run.skip ?_
        refine Run.endBlock ?_
        refine Run.reg ?_
        refine RunL.op (OpS.mv rfl rfl rfl ?_)
        refine RunL.op (OpS.bin rfl rfl rfl rfl rfl ?_)
        refine RunL.op (OpS.as rfl rfl rfl ?_)
        obtain ⟨x3, e6, hF⟩ := letP_use hF
        refine RunL.name e6 ?_
        refine RunL.nil ?_
        refine Run.slim [(5, .int .i64 x3), (0, v0), (1, v1)] ⟨rfl, rfl, rfl, trivial⟩ ?_
        refine Run.slim [(0, v0), (1, v1), (5, .int .i64 x3)] ⟨rfl, rfl, rfl, trivial⟩ ?_
        exact hk1 (x3) _ _ ⟨rfl, (h14.facts (.atm (.s (.s (.s (.s (.s (.s .z)))))) (.atm (.s (.s (.s (.s (.s (.s (.s .z))))))) .nil))).picks .nil⟩ hF
    ·
      refine Run.exit rfl ?_
      refine Run.seq ?_
      refine Run.reg ?_
      refine RunL.op (OpS.as rfl rfl rfl ?_)
      refine RunL.nil ?_
      refine Run.slim [(4, .bool true)] ⟨rfl, trivial⟩ ?_
      refine Run.retP rfl (.tmp rfl .nil) ?_
      cases hF
      exact Post.mk' ⟨rfl, rfl, rfl, rfl⟩ (h1.picks .nil) .nil
theorem ref24_SameMessages_ok {fuel : Nat} {a0 : List Message_} {a1 : List Message_} {y : Bool} (hF : ref24_SameMessages fuel a0 a1 = some y) {w : World} {v0 v1 : Value} :
    Spec Try.prog 24 [v0, v1].toArray w [(false, .val (Rep.slice Message_.rep) v0 a0), (false, .val (Rep.slice Message_.rep) v1 a1)] [] (fun v Γr Ωr Ωo => v = .bool y ∧ Γr = [] ∧ Ωr = [] ∧ Ωo = []) := by
  refine Spec.of (L := [(0, v0), (1, v1)]) Try.func24 rfl ⟨rfl, rfl, trivial⟩ rfl (fun e h => ?_)
  unfold ref24_SameMessages at hF
  refine Run.seq ?_
  refine Run.reg ?_
  refine RunL.op (OpS.as rfl rfl rfl ?_)
  refine RunL.nil ?_
  refine Run.slim [(0, v0), (1, v1)] ⟨rfl, rfl, trivial⟩ ?_
  refine Run.seq ?_
  refine Run.seq ?_
  refine Run.reg ?_
  refine RunL.op (OpS.mv rfl rfl rfl ?_)
  refine RunL.op (OpS.len h Try.underlying34 rfl rfl rfl (V.at .z) ?_)
  refine RunL.op (OpS.mv rfl rfl rfl ?_)
  refine RunL.op (OpS.len h Try.underlying34 rfl rfl rfl (V.at (.s .z)) ?_)
  refine RunL.op (OpS.bin rfl rfl rfl rfl rfl ?_)
  refine RunL.nil ?_
  refine Run.slim [(10, .bool ((a0.length : Int) != (a1.length : Int))), (0, v0), (1, v1)] ⟨rfl, rfl, rfl, trivial⟩ ?_
  refine Run.ite rfl hF (fun e1 hF => ?_) (fun e1 hF => ?_)
  ·
    refine Run.seq ?_
    refine Run.reg ?_
    refine RunL.op (OpS.as rfl rfl rfl ?_)
    refine RunL.nil ?_
    refine Run.slim [(4, .bool false)] ⟨rfl, trivial⟩ ?_
    refine Run.retP rfl (.tmp rfl .nil) ?_
    cases hF
    exact Post.mk' ⟨rfl, rfl, rfl, rfl⟩ (h.picks .nil) .nil
  ·
    refine Run.skip ?_
    refine Run.seq ?_
    refine Run.seq ?_
    refine Run.reg ?_
    refine RunL.op (OpS.as rfl rfl rfl ?_)
    refine RunL.nil ?_
    refine Run.slim [(5, .int .i64 0), (0, v0), (1, v1)] ⟨rfl, rfl, rfl, trivial⟩ ?_
    refine Run.block ?_
    refine Run.slim [(0, v0), (1, v1), (5, .int .i64 0)] ⟨rfl, rfl, rfl, trivial⟩ ?_
    refine Run.loopP (σ := Int) (fun s_ L_ w_ => L_ = [(0, v0), (1, v1), (5, .int .i64 s_)] ∧ St e w_ [(false, .val (Rep.slice Message_.rep) v0 a0), (false, .val (Rep.slice Message_.rep) v1 a1)] []) hF ⟨rfl, (h.facts (.atm .z (.atm (.s .z) .nil))).picks .nil⟩ (fun k1 hk1 s1 _ w1 hI hF => ?_)
    obtain ⟨rfl, h1⟩ := hI
    refine Run.seq ?_
    refine Run.seq ?_
    refine Run.reg ?_
    refine RunL.op (OpS.mv rfl rfl rfl ?_)
    refine RunL.op (OpS.mv rfl rfl rfl ?_)
    refine RunL.op (OpS.len h1 Try.underlying34 rfl rfl rfl (V.at .z) ?_)
    refine RunL.op (OpS.bin rfl rfl rfl rfl rfl ?_)
    refine RunL.nil ?_
    refine Run.slim [(14, .bool (decide (s1 < (a0.length : Int)))), (0, v0), (1, v1), (5, .int .i64 s1)] ⟨rfl, rfl, rfl, rfl, trivial⟩ ?_
    refine Run.ite rfl hF (fun e2 hF => ?_) (fun e2 hF => ?_)
    ·
      refine Run.skip ?_
      refine Run.seq ?_
      refine Run.block ?_
      refine Run.seq ?_
      obtain ⟨x1, e3, hF⟩ := bindP_use hF
      obtain ⟨x2, e4, hF⟩ := bindP_use hF
      obtain ⟨y1, e5, hF⟩ := bindP_use hF
      refine Run.drawV (Ωs := []) [⟨some 17, some (v0), fun _ => [], fun ds_ u_ => [], [], [], none⟩, ⟨some 18, some (.int .i64 s1), fun _ => [], fun ds_ u_ => [], [], [], none⟩, ⟨some 19, none, fun u_ => [(false, .ptr Message_.rep u_ x1)], fun ds_ u_ => [], [], [], none⟩, ⟨some 20, none, fun u_ => [(false, .val Message_.rep u_ x1)], fun ds_ u_ => [], [], [], none⟩, ⟨some 21, some (v1), fun _ => [], fun ds_ u_ => [], [], [], none⟩, ⟨some 22, some (.int .i64 s1), fun _ => [], fun ds_ u_ => [], [], [], none⟩, ⟨some 23, none, fun u_ => [(false, .ptr Message_.rep u_ x2)], fun ds_ u_ => [], [], [], none⟩, ⟨some 24, none, fun u_ => [(false, .val Message_.rep u_ x2)], fun ds_ u_ => [], [], [], none⟩, ⟨some 25, some (.bool y1), fun _ => [], fun ds_ u_ => [], [], [], none⟩, ⟨some 26, some (.bool (!y1)), fun _ => [], fun ds_ u_ => [], [], [], none⟩] [[], [], [0, 1], [2], [], [], [4, 5], [6], [3, 7], [8]] [] [0, 1, 2, 3, 4, 5, 6, 7, 8, 9] Try_mixed rfl rfl rfl h1 (.cons ?_ (.cons ?_ (.cons ?_ (.cons ?_ (.cons ?_ (.cons ?_ (.cons ?_ (.cons ?_ (.cons ?_ (.cons ?_ .nil)))))))))) (fun q1 w hq1 h => ?_)
      · intro q1 w Γx Ωx h
        refine OpS.mv rfl rfl rfl ?_
        exact ⟨undef, rfl, trivial, h⟩
      · intro q1 w Γx Ωx h
        refine OpS.mv rfl rfl rfl ?_
        exact ⟨undef, rfl, trivial, h⟩
      · intro q1 w Γx Ωx h
        refine OpS.iptr h Try.underlying34 ty51 rfl rfl rfl rfl (V.at .z) e3 (fun u h8 => ?_)
        exact ⟨u, rfl, trivial, h8⟩
      · intro q1 w Γx Ωx h
        refine OpS.load h ty51 rfl rfl rfl .z (fun u h9 => ?_)
        exact ⟨u, rfl, trivial, h9⟩
      · intro q1 w Γx Ωx h
        refine OpS.mv rfl rfl rfl ?_
        exact ⟨undef, rfl, trivial, h⟩
      · intro q1 w Γx Ωx h
        refine OpS.mv rfl rfl rfl ?_
        exact ⟨undef, rfl, trivial, h⟩
      · intro q1 w Γx Ωx h
        refine OpS.iptr h Try.underlying34 ty51 rfl rfl rfl rfl (V.at (.s .z)) e4 (fun u h10 => ?_)
        exact ⟨u, rfl, trivial, h10⟩
      · intro q1 w Γx Ωx h
        refine OpS.load h ty51 rfl rfl rfl .z (fun u h11 => ?_)
        exact ⟨u, rfl, trivial, h11⟩
      · intro q1 w Γx Ωx h
        refine OpS.callP h Try.func30 rfl rfl rfl rfl (vs := [(q1 3), (q1 7)]) rfl (ref24_SameMessage_ok e5) (.cons (f := false) (V.at .z) (.cons (f := false) (V.at (.s .z)) .nil)) ?_
        rintro _ w3 _ _ _ ⟨rfl, rfl, rfl, rfl⟩ h12
        have h13 := h12 rfl rfl
        simp only [List.cons_append, List.nil_append] at h13
        exact ⟨undef, rfl, trivial, h13⟩
      · intro q1 w Γx Ωx h
        refine OpS.not rfl rfl rfl ?_
        exact ⟨undef, rfl, trivial, h⟩
      have h14 : St e w [(false, .ptr Message_.rep (q1 2) x1), (false, .val Message_.rep (q1 3) x1), (false, .ptr Message_.rep (q1 6) x2), (false, .val Message_.rep (q1 7) x2), (false, .val (Rep.slice Message_.rep) v0 a0), (false, .val (Rep.slice Message_.rep) v1 a1)] [] := h
      refine RunL.nil ?_
      refine Run.slim [(26, .bool (!y1)), (0, v0), (1, v1), (5, .int .i64 s1)] ⟨rfl, rfl, rfl, rfl, trivial⟩ ?_
      refine Run.ite rfl hF (fun e6 hF => ?_) (fun e6 hF => ?_)
      ·
        refine Run.seq ?_
        refine Run.reg ?_
        refine RunL.op (OpS.as rfl rfl rfl ?_)
        refine RunL.nil ?_
        refine Run.slim [(4, .bool false)] ⟨rfl, trivial⟩ ?_
        refine Run.retP rfl (.tmp rfl .nil) ?_
        cases hF
        exact Post.mk' ⟨rfl, rfl, rfl, rfl⟩ (h14.picks .nil) .nil
      ·
        refine Run.skip ?_
        refine Run.endBlock ?_
        refine Run.reg ?_
        refine RunL.op (OpS.mv rfl rfl rfl ?_)
        refine RunL.op (OpS.bin rfl rfl rfl rfl rfl ?_)
        refine RunL.op (OpS.as rfl rfl rfl ?_)
        obtain ⟨x3, e7, hF⟩ := letP_use hF
        refine RunL.name e7 ?_
        refine RunL.nil ?_
        refine Run.slim [(5, .int .i64 x3), (0, v0), (1, v1)] ⟨rfl, rfl, rfl, trivial⟩ ?_
        refine Run.slim [(0, v0), (1, v1), (5, .int .i64 x3)] ⟨rfl, rfl, rfl, trivial⟩ ?_
        exact hk1 (x3) _ _ ⟨rfl, (h14.facts (.atm (.s (.s (.s (.s .z)))) (.atm (.s (.s (.s (.s (.s .z))))) .nil))).picks .nil⟩ hF
    ·
      refine Run.exit rfl ?_
      refine Run.seq ?_
      refine Run.reg ?_
      refine RunL.op (OpS.as rfl rfl rfl ?_)
      refine RunL.nil ?_
      refine Run.slim [(4, .bool true)] ⟨rfl, trivial⟩ ?_
      refine Run.retP rfl (.tmp rfl .nil) ?_
      cases hF
      exact Post.mk' ⟨rfl, rfl, rfl, rfl⟩ (h1.picks .nil) .nil
end Lift
