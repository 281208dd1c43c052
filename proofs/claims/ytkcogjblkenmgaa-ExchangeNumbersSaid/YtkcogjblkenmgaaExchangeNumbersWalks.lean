/- Each Go function computes its plain function. Written by lift.py. -/
import Derived.Test.YtkcogjblkenmgaaExchangeNumbersWalksA
set_option linter.unusedVariables false
set_option linter.unusedSimpArgs false
namespace Lift
open Go Go.Proofs
set_option maxHeartbeats 8000000 in
theorem exchange_Receive_ok {fuel : Nat} {a0 : Requester_} {a1 : List Int} {y : Requester_ × Message_ × Message_ × Bool} (hF : exchange_Receive fuel a0 a1 = some y) {w : World} {v0 v1 : Value} :
    Spec Try.prog 28 [v0, v1].toArray w [(false, .val Requester_.rep v0 a0), (false, .val (Rep.slice (Rep.int .u8)) v1 a1)] [] (fun v Γr Ωr Ωo => ∃ u0 u1 u2 : Value, v = .tuple #[u0, u1, u2, .bool y.2.2.2] ∧ Γr = [(false, .val Requester_.rep u0 y.1), (false, .val Message_.rep u1 y.2.1), (true, .val Message_.rep u2 y.2.2.1)] ∧ Ωr = [] ∧ Ωo = []) := by
  refine Spec.of (L := [(0, v0), (1, v1)]) Try.func28 rfl ⟨rfl, rfl, trivial⟩ rfl (fun e h => ?_)
  unfold exchange_Receive at hF
  refine Run.seq ?_
  refine Run.reg ?_
  refine RunL.op (OpS.boxF h rfl rfl rfl (V.at .z) (fun u1 w1 h1 => ?_))
  refine RunL.op (OpS.alloc h1 ti26 Requester_.zr rfl rfl (fun u2 w2 h2 => ?_))
  refine RunL.op (OpS.alloc h2 ti51 Message_.zr rfl rfl (fun u3 w3 h3 => ?_))
  refine RunL.op (OpS.alloc h3 ti51 Message_.zr rfl rfl (fun u4 w4 h4 => ?_))
  refine RunL.op (OpS.as rfl rfl rfl ?_)
  refine RunL.nil ?_
  refine Run.slim [(6, u4), (5, u3), (4, u2), (2, u1), (1, v1)] ⟨rfl, rfl, rfl, rfl, rfl, trivial⟩ ?_
  refine Run.seq ?_
  refine Run.reg ?_
  refine RunL.op (OpS.loadB h4 (.s (.s (.s .z))) PA.z Get.id ty26 rfl rfl rfl (fun u5 h5 => ?_))
  obtain ⟨y1, e1, hF⟩ := bindP_use hF
  have h6 := h5.front .nil
  refine RunL.op (OpS.callO h6 Try.func38 rfl rfl rfl rfl (vs := [u5]) rfl (exchange_clone_ok e1) rfl (.cons (f := false) (V.at .z) .nil) ?_)
  rintro u6 w5 _ _ _ ⟨_, u7, rfl, rfl, rfl, rfl⟩ h7
  have h8 := h7
  simp only [List.cons_append, List.nil_append] at h8
  refine RunL.op (OpS.storeC (f' := true) (fr := (Rep.iso (fun s : Requester_ => (s.Own, s.Next, s.Pending, ())) (Rep.prod (Rep.int .u8) (Rep.prod (Rep.int .i64) (Rep.prod (Rep.raw u7) Rep.unit))))) (r' := (Rep.iso (fun s : Requester_ => (s.Own, s.Next, s.Pending, ())) (Rep.prod (Rep.int .u8) (Rep.prod (Rep.int .i64) (Rep.prod (Rep.raw u7) Rep.unit))))) (x' := y1) h8 (.s (.s (.s .z))) PA.z (Chg.id (by rfl)) (Ty.like ty26 (by rfl) (by rfl)) rfl rfl rfl (V.pure (V.at .z) (Pure.iso (Pure.prod Pure.int (Pure.prod Pure.int (Pure.prod Pure.raw Pure.unit))))) (.inl rfl) (fun w6 h9 => ?_))
  refine RunL.nil ?_
  refine Run.slim [(6, u4), (5, u3), (4, u2), (2, u1), (1, v1)] ⟨rfl, rfl, rfl, rfl, rfl, trivial⟩ ?_
  refine Run.seq ?_
  refine Run.seq ?_
  refine Run.reg ?_
  refine RunL.op (OpS.loadB h9 (.s (.s (.s (.s .z)))) PA.z Get.id ty26 rfl rfl rfl (fun u8 h10 => ?_))
  obtain ⟨y2, e2, hF⟩ := bindP_use hF
  refine RunL.op (OpS.callP h10 Try.func19 rfl rfl rfl rfl (vs := [u8]) rfl (exchange_Valid_ok e2) (.cons (f := false) (V.at .z) .nil) ?_)
  rintro _ w7 _ _ _ ⟨rfl, rfl, rfl, rfl⟩ h11
  have h12 := h11 rfl rfl
  simp only [List.cons_append, List.nil_append] at h12
  refine RunL.op (OpS.not rfl rfl rfl ?_)
  refine RunL.nil ?_
  refine Run.slim [(16, .bool (!y2)), (6, u4), (5, u3), (4, u2), (1, v1)] ⟨rfl, rfl, rfl, rfl, rfl, trivial⟩ ?_
  refine Run.ite rfl hF (fun e3 hF => ?_) (fun e3 hF => ?_)
  ·
    refine Run.seq ?_
    refine Run.reg ?_
    refine RunL.op (OpS.loadB (fr := (Rep.iso (fun s : Requester_ => (s.Own, s.Next, s.Pending, ())) (Rep.prod (Rep.int .u8) (Rep.prod (Rep.int .i64) (Rep.prod (Rep.raw u7) Rep.unit))))) h12 .z PA.z (GetS.ok GetS.id) (Ty.like ty26 (by rfl) (by rfl)) rfl rfl rfl (fun u9 h13 => ?_))
    refine RunL.op (OpS.build (f := true) (x' := Message_.z) h13 pl51 ti51 Message_.zr rfl rfl rfl .nil (fun u10 h14 => ?_))
    refine RunL.op (OpS.build (f := true) (x' := Message_.z) h14 pl51 ti51 Message_.zr rfl rfl rfl .nil (fun u11 h15 => ?_))
    refine RunL.op (OpS.storeC (f' := true) (fr := (Rep.iso (fun s : Requester_ => (s.Own, s.Next, s.Pending, ())) (Rep.prod (Rep.int .u8) (Rep.prod (Rep.int .i64) (Rep.prod (Rep.raw u7) Rep.unit))))) (r' := (Rep.iso (fun s : Requester_ => (s.Own, s.Next, s.Pending, ())) (Rep.prod (Rep.int .u8) (Rep.prod (Rep.int .i64) (Rep.prod (Rep.raw u7) Rep.unit))))) (x' := y1) h15 .z PA.z (Chg.id (by rfl)) (Ty.like ty26 (by rfl) (by rfl)) rfl rfl rfl (V.at (.s (.s .z))) (.inl rfl) (fun w8 h16 => ?_))
    refine RunL.op (OpS.storeB (f' := true) h16 (.s (.s (.s .z))) PA.z Put.id ty51 rfl rfl rfl (V.at (.s .z)) (.inl rfl) (fun w9 h17 => ?_))
    refine RunL.op (OpS.storeB (f' := true) h17 (.s (.s (.s .z))) PA.z Put.id ty51 rfl rfl rfl (V.at .z) (.inl rfl) (fun w10 h18 => ?_))
    refine RunL.op (OpS.as rfl rfl rfl ?_)
    refine RunL.nil ?_
    refine Run.slim [(7, .bool false), (6, u4), (5, u3), (4, u2)] ⟨rfl, rfl, rfl, rfl, trivial⟩ ?_
    obtain ⟨u12, hu1, h19⟩ := res_box h18 (.s (.s .z)) (Ty.like ty26 (by rfl) (by rfl))
    have h20 := (h19.pick (.s (.s (.s .z)))).freeze
    have h21 := h20.pick (.s (.s .z))
    have h22 := h21.weak
    have h23 := St.boxJ (r' := Requester_.rep) (x' := { y1 with Pending := y1.Pending }) h22 (fun _ _ hs_ => (Jn.iso _ (Jn.prod Jn.refl (Jn.prod Jn.refl (Jn.prod (Jn.raw ((V.at .z) _ _ hs_) rfl) Jn.refl)))))
    have h24 := St.addV (f := false) (r := Requester_.rep) (x := { y1 with Pending := y1.Pending }) h23 (V.jn (r := (Rep.iso (fun s : Requester_ => (s.Own, s.Next, s.Pending, ())) (Rep.prod (Rep.int .u8) (Rep.prod (Rep.int .i64) (Rep.prod (Rep.raw u7) Rep.unit))))) (x := y1) (V.weak (V.at (.s .z))) rfl (fun _ _ hs_ => (Jn.iso _ (Jn.prod Jn.refl (Jn.prod Jn.refl (Jn.prod (Jn.raw ((V.at .z) _ _ hs_) rfl) Jn.refl))))))
    obtain ⟨u13, hu2, h25⟩ := res_box h24 (.s (.s .z)) ty51
    obtain ⟨u14, hu3, h26⟩ := res_box h25 (.s .z) ty51
    refine Run.retP rfl (.cell rfl hu1 (.cell rfl hu2 (.cell rfl hu3 (.tmp rfl .nil)))) ?_
    cases hF
    exact Post.mk' ⟨u12, u13, u14, rfl, rfl, rfl, rfl⟩ (h26.picks .nil) (.val (V.at (.s (.s .z))) (.val (V.weak (V.at (.s .z))) (.val (V.at .z) .nil)))
  ·
    refine Run.skip ?_
    refine Run.seq ?_
    refine Run.reg ?_
    refine RunL.op (OpS.mv rfl rfl rfl ?_)
    obtain ⟨y3, e4, hF⟩ := bindP_use hF
    refine RunL.op (OpS.callP h12 Try.func33 rfl rfl rfl rfl (vs := [v1]) rfl (message_ParseResponse_ok e4) (.cons (f := false) (V.at (.s (.s (.s (.s .z))))) .nil) ?_)
    rintro _ w11 _ _ _ ⟨u15, rfl, rfl, rfl, rfl⟩ h27
    have h28 := h27 rfl rfl
    simp only [List.cons_append, List.nil_append] at h28
    refine RunL.op (OpS.mv rfl rfl rfl ?_)
    refine RunL.op (OpS.ext rfl rfl rfl rfl ?_)
    refine RunL.op (OpS.ext rfl rfl rfl rfl ?_)
    refine RunL.op (OpS.alloc h28 ti51 Message_.zr rfl rfl (fun u16 w12 h29 => ?_))
    refine RunL.op (OpS.storeB (f' := true) h29 .z PA.z Put.id ty51 rfl rfl rfl (V.at .z) (.inl rfl) (fun w13 h30 => ?_))
    refine RunL.op (OpS.as rfl rfl rfl ?_)
    refine RunL.nil ?_
    refine Run.slim [(9, .int .i64 y3.2), (8, u16), (6, u4), (5, u3), (4, u2)] ⟨rfl, rfl, rfl, rfl, rfl, trivial⟩ ?_
    refine Run.seq ?_
    refine Run.seq ?_
    refine Run.reg ?_
    refine RunL.op (OpS.mv rfl rfl rfl ?_)
    refine RunL.op (OpS.bin rfl rfl rfl rfl rfl ?_)
    refine RunL.nil ?_
    refine Run.slim [(26, .bool (y3.2 != 0)), (8, u16), (6, u4), (5, u3), (4, u2)] ⟨rfl, rfl, rfl, rfl, rfl, trivial⟩ ?_
    refine Run.ite rfl hF (fun e5 hF => ?_) (fun e5 hF => ?_)
    ·
      refine Run.seq ?_
      refine Run.reg ?_
      refine RunL.op (OpS.loadB (fr := (Rep.iso (fun s : Requester_ => (s.Own, s.Next, s.Pending, ())) (Rep.prod (Rep.int .u8) (Rep.prod (Rep.int .i64) (Rep.prod (Rep.raw u7) Rep.unit))))) h30 (.s .z) PA.z (GetS.ok GetS.id) (Ty.like ty26 (by rfl) (by rfl)) rfl rfl rfl (fun u17 h31 => ?_))
      refine RunL.op (OpS.build (f := true) (x' := Message_.z) h31 pl51 ti51 Message_.zr rfl rfl rfl .nil (fun u18 h32 => ?_))
      refine RunL.op (OpS.build (f := true) (x' := Message_.z) h32 pl51 ti51 Message_.zr rfl rfl rfl .nil (fun u19 h33 => ?_))
      refine RunL.op (OpS.storeC (f' := true) (fr := (Rep.iso (fun s : Requester_ => (s.Own, s.Next, s.Pending, ())) (Rep.prod (Rep.int .u8) (Rep.prod (Rep.int .i64) (Rep.prod (Rep.raw u7) Rep.unit))))) (r' := (Rep.iso (fun s : Requester_ => (s.Own, s.Next, s.Pending, ())) (Rep.prod (Rep.int .u8) (Rep.prod (Rep.int .i64) (Rep.prod (Rep.raw u7) Rep.unit))))) (x' := y1) h33 (.s .z) PA.z (Chg.id (by rfl)) (Ty.like ty26 (by rfl) (by rfl)) rfl rfl rfl (V.at (.s (.s .z))) (.inl rfl) (fun w14 h34 => ?_))
      refine RunL.op (OpS.storeB (f' := true) h34 (.s (.s (.s (.s .z)))) PA.z Put.id ty51 rfl rfl rfl (V.at (.s .z)) (.inl rfl) (fun w15 h35 => ?_))
      refine RunL.op (OpS.storeB (f' := true) h35 (.s (.s (.s (.s .z)))) PA.z Put.id ty51 rfl rfl rfl (V.at .z) (.inl rfl) (fun w16 h36 => ?_))
      refine RunL.op (OpS.as rfl rfl rfl ?_)
      refine RunL.nil ?_
      refine Run.slim [(7, .bool false), (6, u4), (5, u3), (4, u2)] ⟨rfl, rfl, rfl, rfl, trivial⟩ ?_
      obtain ⟨u20, hu4, h37⟩ := res_box h36 (.s (.s .z)) (Ty.like ty26 (by rfl) (by rfl))
      have h38 := (h37.pick (.s (.s (.s (.s .z))))).freeze
      have h39 := h38.pick (.s (.s .z))
      have h40 := h39.weak
      have h41 := St.boxJ (r' := Requester_.rep) (x' := { y1 with Pending := y1.Pending }) h40 (fun _ _ hs_ => (Jn.iso _ (Jn.prod Jn.refl (Jn.prod Jn.refl (Jn.prod (Jn.raw ((V.at .z) _ _ hs_) rfl) Jn.refl)))))
      have h42 := St.addV (f := false) (r := Requester_.rep) (x := { y1 with Pending := y1.Pending }) h41 (V.jn (r := (Rep.iso (fun s : Requester_ => (s.Own, s.Next, s.Pending, ())) (Rep.prod (Rep.int .u8) (Rep.prod (Rep.int .i64) (Rep.prod (Rep.raw u7) Rep.unit))))) (x := y1) (V.weak (V.at (.s .z))) rfl (fun _ _ hs_ => (Jn.iso _ (Jn.prod Jn.refl (Jn.prod Jn.refl (Jn.prod (Jn.raw ((V.at .z) _ _ hs_) rfl) Jn.refl))))))
      obtain ⟨u21, hu5, h43⟩ := res_box h42 (.s (.s .z)) ty51
      obtain ⟨u22, hu6, h44⟩ := res_box h43 (.s .z) ty51
      refine Run.retP rfl (.cell rfl hu4 (.cell rfl hu5 (.cell rfl hu6 (.tmp rfl .nil)))) ?_
      cases hF
      exact Post.mk' ⟨u20, u21, u22, rfl, rfl, rfl, rfl⟩ (h44.picks .nil) (.val (V.at (.s (.s .z))) (.val (V.weak (V.at (.s .z))) (.val (V.at .z) .nil)))
    ·
      refine Run.skip ?_
      refine Run.seq ?_
      refine Run.seq ?_
      refine Run.reg ?_
      refine RunL.op (OpS.fbox (o3 := 2) h30 (.s .z) PA.z fa26_2 rfl rfl rfl rfl ?_)
      refine RunL.op (OpS.loadR h30 (.s .z) PA.a (GetS.ok (GetS.iso _ (GetS.there (GetS.there (GetS.here GetS.id))))) ty24 rfl rfl rfl rfl rfl ?_)
      refine RunL.op (OpS.lenO h30 (.s (.s .z)) Try.underlying24 rfl rfl rfl ?_)
      refine RunL.op (OpS.mv rfl rfl rfl ?_)
      refine RunL.nil ?_
      refine Run.slim [(33, .int .i64 0), (32, .int .i64 (y1.Pending.length : Int)), (31, u7), (8, u16), (6, u4), (5, u3), (4, u2)] ⟨rfl, rfl, rfl, rfl, rfl, rfl, rfl, trivial⟩ ?_
      refine Run.block ?_
      refine Run.slim [(4, u2), (5, u3), (6, u4), (8, u16), (31, u7), (32, .int .i64 (y1.Pending.length : Int)), (33, .int .i64 0)] ⟨rfl, rfl, rfl, rfl, rfl, rfl, rfl, trivial⟩ ?_
      refine Run.loopP (σ := Int) (fun s_ L_ w_ => L_ = [(4, u2), (5, u3), (6, u4), (8, u16), (31, u7), (32, .int .i64 (y1.Pending.length : Int)), (33, .int .i64 s_)] ∧ St e w_ [] [(true, .box 26 (Rep.iso (fun s : Requester_ => (s.Own, s.Next, s.Pending, ())) (Rep.prod (Rep.int .u8) (Rep.prod (Rep.int .i64) (Rep.prod (Rep.raw u7) Rep.unit)))) u2 y1), (true, .box 51 Message_.rep u3 Message_.z), (true, .box 51 Message_.rep u4 Message_.z), (true, .box 51 Message_.rep u16 y3.1), (false, .slice 55 Pending_.rep u7 y1.Pending)]) hF ⟨rfl, (h30.facts .nil).picks (.cons (.s .z) (.cons (.s (.s (.s .z))) (.cons (.s (.s .z)) (.cons .z (.cons .z .nil)))))⟩ (fun k1 hk1 s1 _ w17 hI hF => ?_)
      obtain ⟨rfl, h45⟩ := hI
      refine Run.seq ?_
      refine Run.reg ?_
      refine RunL.op (OpS.bin rfl rfl rfl rfl rfl ?_)
      refine RunL.nil ?_
      refine Run.seq ?_
      refine Run.ite rfl hF (fun e6 hF => ?_) (fun e6 hF => ?_)
      ·
        refine Run.skip ?_
        refine Run.seq ?_
        refine Run.block ?_
        refine Run.seq ?_
        refine Run.reg ?_
        refine RunL.op (OpS.mv rfl rfl rfl ?_)
        obtain ⟨x1, e7, hF⟩ := bindP_use hF
        refine RunL.op (OpS.iown h45 (.s (.s (.s (.s .z)))) Try.underlying24 ty55 rfl rfl rfl rfl e7 ?_)
        refine RunL.op (OpS.loadO h45 (.s (.s (.s (.s .z)))) (idx_ne e7) PA.a (Get.arr e7) ty55 rfl rfl rfl (fun u23 h46 => ?_))
        refine RunL.op (OpS.alloc h46 ti55 Pending_.zr rfl rfl (fun u24 w18 h47 => ?_))
        refine RunL.op (OpS.as rfl rfl rfl ?_)
        have h48 := (h47.pick .z).weak
        refine RunL.op (OpS.storeB (f' := false) h48 .z PA.z Put.id ty55 rfl rfl rfl (V.at .z) (.inr rfl) (fun w19 h49 => ?_))
        refine RunL.nil ?_
        refine Run.slim [(10, .int .i64 s1), (11, u24), (4, u2), (5, u3), (6, u4), (8, u16), (31, u7), (32, .int .i64 (y1.Pending.length : Int)), (33, .int .i64 s1)] ⟨rfl, rfl, rfl, rfl, rfl, rfl, rfl, rfl, rfl, trivial⟩ ?_
        refine Run.seq ?_
        refine Run.reg ?_
        refine RunL.op (OpS.fbox (o3 := 0) h49 .z PA.z fa55_0 rfl rfl rfl rfl ?_)
        refine RunL.op (OpS.loadB h49 .z PA.a (Get.fld Pending_.f0) ty51 rfl rfl rfl (fun u25 h50 => ?_))
        refine RunL.op (OpS.loadB h50 (.s (.s (.s (.s .z)))) PA.z Get.id ty51 rfl rfl rfl (fun u26 h51 => ?_))
        obtain ⟨y4, e8, hF⟩ := bindP_use hF
        refine RunL.op (OpS.callP h51 Try.func34 rfl rfl rfl rfl (vs := [u25, u26]) rfl (message_Matches_ok e8) (.cons (f := false) (V.at (.s .z)) (.cons (f := true) (V.at .z) .nil)) ?_)
        rintro _ w20 _ _ _ ⟨rfl, rfl, rfl, rfl⟩ h52
        have h53 := h52 rfl rfl
        simp only [List.cons_append, List.nil_append] at h53
        refine RunL.nil ?_
        refine Run.slim [(41, .bool y4), (10, .int .i64 s1), (11, u24), (4, u2), (5, u3), (6, u4), (8, u16), (31, u7), (32, .int .i64 (y1.Pending.length : Int)), (33, .int .i64 s1)] ⟨rfl, rfl, rfl, rfl, rfl, rfl, rfl, rfl, rfl, rfl, trivial⟩ ?_
        refine Run.ite rfl hF (fun e9 hF => ?_) (fun e9 hF => ?_)
        ·
          refine Run.seq ?_
          have h54 := (h53.pick (.s (.s (.s (.s (.s .z)))))).freeze
          have h55 := h54.pick (.s .z)
          have h56 := h55.weak
          have h57 := St.boxJ (r' := Requester_.rep) (x' := { y1 with Pending := y1.Pending }) h56 (fun _ _ hs_ => (Jn.iso _ (Jn.prod Jn.refl (Jn.prod Jn.refl (Jn.prod (Jn.raw ((V.at .z) _ _ hs_) rfl) Jn.refl)))))
          obtain ⟨x2, e10, hF⟩ := bindP_use hF
          obtain ⟨x3, e11, hF⟩ := bindP_use hF
          obtain ⟨x4, e12, hF⟩ := bindP_use hF
          refine Run.drawV (Ωs := [(false, .box 55 Pending_.rep u24 x1), (true, .box 51 Message_.rep u3 Message_.z), (true, .box 51 Message_.rep u4 Message_.z), (true, .box 51 Message_.rep u16 y3.1)]) [⟨some 42, some ((padd u2 2)), fun _ => [], fun ds_ u_ => [], [], [(0, [])], none⟩, ⟨some 43, none, fun u_ => [(false, .val (Rep.slice Pending_.rep) u_ (({ y1 with Pending := y1.Pending }).Pending))], fun ds_ u_ => [], [], [(0, [])], none⟩, ⟨some 44, some (.int .i64 s1), fun _ => [], fun ds_ u_ => [], [], [], none⟩, ⟨some 45, some (.int .i64 s1), fun _ => [], fun ds_ u_ => [], [], [], none⟩, ⟨some 46, none, fun u_ => [(false, .val (Rep.slice Pending_.rep) u_ x2), (true, .full u_)], fun ds_ u_ => [], [], [], none⟩, ⟨some 47, some ((padd u2 2)), fun _ => [], fun ds_ u_ => [], [], [(0, [])], none⟩, ⟨some 48, none, fun u_ => [(false, .val (Rep.slice Pending_.rep) u_ (({ y1 with Pending := y1.Pending }).Pending))], fun ds_ u_ => [], [], [(0, [])], none⟩, ⟨some 49, some (.int .i64 s1), fun _ => [], fun ds_ u_ => [], [], [], none⟩, ⟨some 50, some (.int .i64 (IntKind.i64.wrap (s1 + 1))), fun _ => [], fun ds_ u_ => [], [], [], none⟩, ⟨some 51, none, fun u_ => [(false, .val (Rep.slice Pending_.rep) u_ x3)], fun ds_ u_ => [], [], [], none⟩, ⟨some 52, none, fun u_ => [(false, .val (Rep.slice Pending_.rep) u_ x4)], fun ds_ u_ => [], [], [], none⟩] [[], [0], [], [], [1, 2, 3], [], [5], [], [7], [6, 8], [4, 9]] [[(false, .box 26 Requester_.rep u2 ({ y1 with Pending := y1.Pending }))]] [0, 1, 2, 3, 4, 5, 6, 7, 8, 9, 10, 11] Try_mixed rfl rfl rfl h57 (.cons ?_ (.cons ?_ (.cons ?_ (.cons ?_ (.cons ?_ (.cons ?_ (.cons ?_ (.cons ?_ (.cons ?_ (.cons ?_ (.cons ?_ .nil))))))))))) (fun q1 w hq1 h => ?_)
          · intro q1 w Γx Ωx h
            have h : St e w ([(false, .val (Rep.slice Pending_.rep) u7 y1.Pending), (true, .val Message_.rep u26 y3.1), (false, .val Message_.rep u25 x1.Request), (false, .val Pending_.rep u23 x1)] ++ Γx) ([(false, .box 26 Requester_.rep u2 ({ y1 with Pending := y1.Pending })), (false, .box 55 Pending_.rep u24 x1), (true, .box 51 Message_.rep u3 Message_.z), (true, .box 51 Message_.rep u4 Message_.z), (true, .box 51 Message_.rep u16 y3.1)] ++ Ωx) := h
            refine OpS.fbox (o3 := 2) h .z PA.z fa26_2 rfl rfl rfl rfl ?_
            exact ⟨undef, rfl, trivial, h⟩
          · intro q1 w Γx Ωx h
            have h : St e w ([(false, .val (Rep.slice Pending_.rep) u7 y1.Pending), (true, .val Message_.rep u26 y3.1), (false, .val Message_.rep u25 x1.Request), (false, .val Pending_.rep u23 x1)] ++ Γx) ([(false, .box 26 Requester_.rep u2 ({ y1 with Pending := y1.Pending })), (false, .box 55 Pending_.rep u24 x1), (true, .box 51 Message_.rep u3 Message_.z), (true, .box 51 Message_.rep u4 Message_.z), (true, .box 51 Message_.rep u16 y3.1)] ++ Ωx) := h
            refine OpS.loadB h .z PA.a (Get.fld Requester_.f2) ty24 rfl rfl rfl (fun u h63 => ?_)
            exact ⟨u, rfl, trivial, h63⟩
          · intro q1 w Γx Ωx h
            refine OpS.mv rfl rfl rfl ?_
            exact ⟨undef, rfl, trivial, h⟩
          · intro q1 w Γx Ωx h
            refine OpS.mv rfl rfl rfl ?_
            exact ⟨undef, rfl, trivial, h⟩
          · intro q1 w Γx Ωx h
            refine OpS.sub3F h Try.underlying24 ty55 rfl rfl rfl rfl rfl rfl (V.at .z) e10 (fun u h64 => ?_)
            exact ⟨u, rfl, trivial, h64⟩
          · intro q1 w Γx Ωx h
            have h : St e w ([(false, .val (Rep.slice Pending_.rep) u7 y1.Pending), (true, .val Message_.rep u26 y3.1), (false, .val Message_.rep u25 x1.Request), (false, .val Pending_.rep u23 x1)] ++ Γx) ([(false, .box 26 Requester_.rep u2 ({ y1 with Pending := y1.Pending })), (false, .box 55 Pending_.rep u24 x1), (true, .box 51 Message_.rep u3 Message_.z), (true, .box 51 Message_.rep u4 Message_.z), (true, .box 51 Message_.rep u16 y3.1)] ++ Ωx) := h
            refine OpS.fbox (o3 := 2) h .z PA.z fa26_2 rfl rfl rfl rfl ?_
            exact ⟨undef, rfl, trivial, h⟩
          · intro q1 w Γx Ωx h
            have h : St e w ([(false, .val (Rep.slice Pending_.rep) u7 y1.Pending), (true, .val Message_.rep u26 y3.1), (false, .val Message_.rep u25 x1.Request), (false, .val Pending_.rep u23 x1)] ++ Γx) ([(false, .box 26 Requester_.rep u2 ({ y1 with Pending := y1.Pending })), (false, .box 55 Pending_.rep u24 x1), (true, .box 51 Message_.rep u3 Message_.z), (true, .box 51 Message_.rep u4 Message_.z), (true, .box 51 Message_.rep u16 y3.1)] ++ Ωx) := h
            refine OpS.loadB h .z PA.a (Get.fld Requester_.f2) ty24 rfl rfl rfl (fun u h65 => ?_)
            exact ⟨u, rfl, trivial, h65⟩
          · intro q1 w Γx Ωx h
            refine OpS.mv rfl rfl rfl ?_
            exact ⟨undef, rfl, trivial, h⟩
          · intro q1 w Γx Ωx h
            refine OpS.bin rfl rfl rfl rfl rfl ?_
            exact ⟨undef, rfl, trivial, h⟩
          · intro q1 w Γx Ωx h
            refine OpS.sub h Try.underlying24 ty55 rfl rfl rfl rfl rfl (V.at .z) e11 (fun u h66 => ?_)
            exact ⟨u, rfl, trivial, h66⟩
          · intro q1 w Γx Ωx h
            refine OpS.appF (f := false) (f' := false) (f3 := false) h (V.at .z) (.s .z) rfl Try.underlying24 ti55 rfl rfl rfl rfl rfl rfl rfl (V.at (.s (.s .z))) e12 (fun u w22 h67 => ?_)
            exact ⟨u, rfl, trivial, h67⟩
          have h68 : St e w [(false, .val (Rep.slice Pending_.rep) (q1 1) (({ y1 with Pending := y1.Pending }).Pending)), (false, .val (Rep.slice Pending_.rep) (q1 4) x2), (true, .full (q1 4)), (false, .val (Rep.slice Pending_.rep) (q1 6) (({ y1 with Pending := y1.Pending }).Pending)), (false, .val (Rep.slice Pending_.rep) (q1 9) x3), (false, .val (Rep.slice Pending_.rep) (q1 10) x4), (false, .val (Rep.slice Pending_.rep) u7 y1.Pending), (true, .val Message_.rep u26 y3.1), (false, .val Message_.rep u25 x1.Request), (false, .val Pending_.rep u23 x1)] [(false, .box 26 Requester_.rep u2 ({ y1 with Pending := y1.Pending })), (false, .box 55 Pending_.rep u24 x1), (true, .box 51 Message_.rep u3 Message_.z), (true, .box 51 Message_.rep u4 Message_.z), (true, .box 51 Message_.rep u16 y3.1)] := h
          refine RunL.op (OpS.fbox (o3 := 2) h68 .z PA.z fa26_2 rfl rfl rfl rfl ?_)
          obtain ⟨d1, e13, hF⟩ := letP_use hF
          refine RunL.op (OpS.storeB (f' := false) h68 .z PA.a (Put.of (Put.fld Requester_.f2) e13) ty24 rfl rfl rfl (V.at (.s (.s (.s (.s (.s .z)))))) (.inr rfl) (fun w23 h69 => ?_))
          refine RunL.nil ?_
          refine Run.slim [(11, u24), (4, u2), (5, u3), (6, u4), (8, u16)] ⟨rfl, rfl, rfl, rfl, rfl, trivial⟩ ?_
          refine Run.seq ?_
          have h70 := h69.picks (.cons .z (.cons .z (.cons .z (.cons (.s .z) (.cons .z .nil)))))
          refine Run.drawV (Ωs := [(true, .box 51 Message_.rep u4 Message_.z)]) [⟨some 54, none, fun u_ => [(false, .val Requester_.rep u_ d1)], fun ds_ u_ => [], [], [(0, [])], none⟩, ⟨some 55, some ((padd u24 0)), fun _ => [], fun ds_ u_ => [], [], [(1, [])], none⟩, ⟨some 56, none, fun u_ => [(false, .val Message_.rep u_ x1.Request)], fun ds_ u_ => [], [], [(1, [])], none⟩, ⟨some 57, none, fun u_ => [(true, .val Message_.rep u_ y3.1)], fun ds_ u_ => [], [], [(3, [])], none⟩, ⟨none, some undef, fun _ => [], fun ds_ u_ => [], [], [(0, [])], none⟩, ⟨none, some undef, fun _ => [], fun ds_ u_ => [(false, .box 51 Message_.rep u3 x1.Request)], [2], [], none⟩] [[], [], [1], [], [0], [2]] [[(false, .box 26 Requester_.rep u2 d1)], [(false, .box 55 Pending_.rep u24 x1)], [(true, .box 51 Message_.rep u3 Message_.z)], [(true, .box 51 Message_.rep u16 y3.1)]] [0, 1, 3, 4, 5, 6, 7, 8, 9] Try_mixed rfl rfl rfl h70 (.cons ?_ (.cons ?_ (.cons ?_ (.cons ?_ (.cons ?_ (.cons ?_ .nil)))))) (fun q2 w hq2 h => ?_)
          · intro q2 w Γx Ωx h
            have h : St e w ([(false, .val (Rep.slice Pending_.rep) (q1 1) (({ y1 with Pending := y1.Pending }).Pending)), (false, .val (Rep.slice Pending_.rep) (q1 4) x2), (true, .full (q1 4)), (false, .val (Rep.slice Pending_.rep) (q1 6) (({ y1 with Pending := y1.Pending }).Pending)), (false, .val (Rep.slice Pending_.rep) (q1 9) x3), (false, .val (Rep.slice Pending_.rep) (q1 10) x4), (false, .val (Rep.slice Pending_.rep) u7 y1.Pending), (true, .val Message_.rep u26 y3.1), (false, .val Message_.rep u25 x1.Request), (false, .val Pending_.rep u23 x1)] ++ Γx) ([(false, .box 26 Requester_.rep u2 d1), (true, .box 51 Message_.rep u4 Message_.z)] ++ Ωx) := h
            refine OpS.loadB h .z PA.z Get.id ty26 rfl rfl rfl (fun u h77 => ?_)
            exact ⟨u, rfl, trivial, h77⟩
          · intro q2 w Γx Ωx h
            have h : St e w ([(false, .val (Rep.slice Pending_.rep) (q1 1) (({ y1 with Pending := y1.Pending }).Pending)), (false, .val (Rep.slice Pending_.rep) (q1 4) x2), (true, .full (q1 4)), (false, .val (Rep.slice Pending_.rep) (q1 6) (({ y1 with Pending := y1.Pending }).Pending)), (false, .val (Rep.slice Pending_.rep) (q1 9) x3), (false, .val (Rep.slice Pending_.rep) (q1 10) x4), (false, .val (Rep.slice Pending_.rep) u7 y1.Pending), (true, .val Message_.rep u26 y3.1), (false, .val Message_.rep u25 x1.Request), (false, .val Pending_.rep u23 x1)] ++ Γx) ([(false, .box 55 Pending_.rep u24 x1), (true, .box 51 Message_.rep u4 Message_.z)] ++ Ωx) := h
            refine OpS.fbox (o3 := 0) h .z PA.z fa55_0 rfl rfl rfl rfl ?_
            exact ⟨undef, rfl, trivial, h⟩
          · intro q2 w Γx Ωx h
            have h : St e w ([(false, .val (Rep.slice Pending_.rep) (q1 1) (({ y1 with Pending := y1.Pending }).Pending)), (false, .val (Rep.slice Pending_.rep) (q1 4) x2), (true, .full (q1 4)), (false, .val (Rep.slice Pending_.rep) (q1 6) (({ y1 with Pending := y1.Pending }).Pending)), (false, .val (Rep.slice Pending_.rep) (q1 9) x3), (false, .val (Rep.slice Pending_.rep) (q1 10) x4), (false, .val (Rep.slice Pending_.rep) u7 y1.Pending), (true, .val Message_.rep u26 y3.1), (false, .val Message_.rep u25 x1.Request), (false, .val Pending_.rep u23 x1)] ++ Γx) ([(false, .box 55 Pending_.rep u24 x1), (true, .box 51 Message_.rep u4 Message_.z)] ++ Ωx) := h
            refine OpS.loadB h .z PA.a (Get.fld Pending_.f0) ty51 rfl rfl rfl (fun u h78 => ?_)
            exact ⟨u, rfl, trivial, h78⟩
          · intro q2 w Γx Ωx h
            have h : St e w ([(false, .val (Rep.slice Pending_.rep) (q1 1) (({ y1 with Pending := y1.Pending }).Pending)), (false, .val (Rep.slice Pending_.rep) (q1 4) x2), (true, .full (q1 4)), (false, .val (Rep.slice Pending_.rep) (q1 6) (({ y1 with Pending := y1.Pending }).Pending)), (false, .val (Rep.slice Pending_.rep) (q1 9) x3), (false, .val (Rep.slice Pending_.rep) (q1 10) x4), (false, .val (Rep.slice Pending_.rep) u7 y1.Pending), (true, .val Message_.rep u26 y3.1), (false, .val Message_.rep u25 x1.Request), (false, .val Pending_.rep u23 x1)] ++ Γx) ([(true, .box 51 Message_.rep u16 y3.1), (true, .box 51 Message_.rep u4 Message_.z)] ++ Ωx) := h
            refine OpS.loadB h .z PA.z Get.id ty51 rfl rfl rfl (fun u h79 => ?_)
            exact ⟨u, rfl, trivial, h79⟩
          · intro q2 w Γx Ωx h
            have h : St e w ([(false, .val Requester_.rep (q2 0) d1), (false, .val (Rep.slice Pending_.rep) (q1 1) (({ y1 with Pending := y1.Pending }).Pending)), (false, .val (Rep.slice Pending_.rep) (q1 4) x2), (true, .full (q1 4)), (false, .val (Rep.slice Pending_.rep) (q1 6) (({ y1 with Pending := y1.Pending }).Pending)), (false, .val (Rep.slice Pending_.rep) (q1 9) x3), (false, .val (Rep.slice Pending_.rep) (q1 10) x4), (false, .val (Rep.slice Pending_.rep) u7 y1.Pending), (true, .val Message_.rep u26 y3.1), (false, .val Message_.rep u25 x1.Request), (false, .val Pending_.rep u23 x1)] ++ Γx) ([(false, .box 26 Requester_.rep u2 d1), (true, .box 51 Message_.rep u4 Message_.z)] ++ Ωx) := h
            refine OpS.storeB (f' := false) h .z PA.z Put.id ty26 rfl rfl rfl (V.at .z) (.inr rfl) (fun w26 h80 => ?_)
            exact ⟨undef, trivial, trivial, h80⟩
          · intro q2 w Γx Ωx h
            have h : St e w ([(false, .val Message_.rep (q2 2) x1.Request), (false, .val (Rep.slice Pending_.rep) (q1 1) (({ y1 with Pending := y1.Pending }).Pending)), (false, .val (Rep.slice Pending_.rep) (q1 4) x2), (true, .full (q1 4)), (false, .val (Rep.slice Pending_.rep) (q1 6) (({ y1 with Pending := y1.Pending }).Pending)), (false, .val (Rep.slice Pending_.rep) (q1 9) x3), (false, .val (Rep.slice Pending_.rep) (q1 10) x4), (false, .val (Rep.slice Pending_.rep) u7 y1.Pending), (true, .val Message_.rep u26 y3.1), (false, .val Message_.rep u25 x1.Request), (false, .val Pending_.rep u23 x1)] ++ Γx) ([(true, .box 51 Message_.rep u3 Message_.z), (true, .box 51 Message_.rep u4 Message_.z)] ++ Ωx) := h
            have h81 := (h.pick .z).weak
            refine OpS.storeB (f' := false) h81 .z PA.z Put.id ty51 rfl rfl rfl (V.at .z) (.inr rfl) (fun w27 h82 => ?_)
            exact ⟨undef, trivial, trivial, h82⟩
          have h83 : St e w [(false, .val Requester_.rep (q2 0) d1), (false, .val Message_.rep (q2 2) x1.Request), (true, .val Message_.rep (q2 3) y3.1), (false, .val (Rep.slice Pending_.rep) (q1 1) (({ y1 with Pending := y1.Pending }).Pending)), (false, .val (Rep.slice Pending_.rep) (q1 4) x2), (true, .full (q1 4)), (false, .val (Rep.slice Pending_.rep) (q1 6) (({ y1 with Pending := y1.Pending }).Pending)), (false, .val (Rep.slice Pending_.rep) (q1 9) x3), (false, .val (Rep.slice Pending_.rep) (q1 10) x4), (false, .val (Rep.slice Pending_.rep) u7 y1.Pending), (true, .val Message_.rep u26 y3.1), (false, .val Message_.rep u25 x1.Request), (false, .val Pending_.rep u23 x1)] [(false, .box 26 Requester_.rep u2 d1), (false, .box 55 Pending_.rep u24 x1), (true, .box 51 Message_.rep u16 y3.1), (false, .box 51 Message_.rep u3 x1.Request), (true, .box 51 Message_.rep u4 Message_.z)] := h
          refine RunL.op (OpS.storeB (f' := true) h83 (.s (.s (.s (.s .z)))) PA.z Put.id ty51 rfl rfl rfl (V.at (.s (.s .z))) (.inl rfl) (fun w28 h84 => ?_))
          refine RunL.op (OpS.as rfl rfl rfl ?_)
          refine RunL.nil ?_
          refine Run.slim [(7, .bool true), (4, u2), (5, u3), (6, u4)] ⟨rfl, rfl, rfl, rfl, trivial⟩ ?_
          obtain ⟨u27, hu7, h85⟩ := res_box h84 (.s .z) ty26
          obtain ⟨u28, hu8, h86⟩ := res_box h85 (.s (.s (.s (.s .z)))) ty51
          obtain ⟨u29, hu9, h87⟩ := res_box h86 .z ty51
          refine Run.retP rfl (.cell rfl hu7 (.cell rfl hu8 (.cell rfl hu9 (.tmp rfl .nil)))) ?_
          cases hF
          exact Post.mk' ⟨u27, u28, u29, rfl, rfl, rfl, rfl⟩ (h87.picks .nil) (.val (V.at (.s (.s .z))) (.val (V.at (.s .z)) (.val (V.at .z) .nil)))
        ·
          refine Run.skip ?_
          refine Run.endBlock ?_
          refine Run.reg ?_
          refine RunL.op (OpS.bin rfl rfl rfl rfl rfl ?_)
          refine RunL.op (OpS.mv rfl rfl rfl ?_)
          refine RunL.nil ?_
          refine Run.slim [(33, .int .i64 (IntKind.i64.wrap (s1 + 1))), (4, u2), (5, u3), (6, u4), (8, u16), (31, u7), (32, .int .i64 (y1.Pending.length : Int))] ⟨rfl, rfl, rfl, rfl, rfl, rfl, rfl, trivial⟩ ?_
          refine Run.slim [(4, u2), (5, u3), (6, u4), (8, u16), (31, u7), (32, .int .i64 (y1.Pending.length : Int)), (33, .int .i64 (IntKind.i64.wrap (s1 + 1)))] ⟨rfl, rfl, rfl, rfl, rfl, rfl, rfl, trivial⟩ ?_
          exact hk1 ((IntKind.i64.wrap (s1 + 1))) _ _ ⟨rfl, (h53.facts .nil).picks (.cons (.s .z) (.cons (.s .z) (.cons (.s .z) (.cons (.s .z) (.cons (.s .z) .nil)))))⟩ hF
      ·
        refine Run.exit rfl ?_
        refine Run.seq ?_
        refine Run.reg ?_
        refine RunL.op (OpS.loadB (fr := (Rep.iso (fun s : Requester_ => (s.Own, s.Next, s.Pending, ())) (Rep.prod (Rep.int .u8) (Rep.prod (Rep.int .i64) (Rep.prod (Rep.raw u7) Rep.unit))))) h45 .z PA.z (GetS.ok GetS.id) (Ty.like ty26 (by rfl) (by rfl)) rfl rfl rfl (fun u30 h88 => ?_))
        refine RunL.op (OpS.build (f := true) (x' := Message_.z) h88 pl51 ti51 Message_.zr rfl rfl rfl .nil (fun u31 h89 => ?_))
        refine RunL.op (OpS.build (f := true) (x' := Message_.z) h89 pl51 ti51 Message_.zr rfl rfl rfl .nil (fun u32 h90 => ?_))
        refine RunL.op (OpS.storeC (f' := true) (fr := (Rep.iso (fun s : Requester_ => (s.Own, s.Next, s.Pending, ())) (Rep.prod (Rep.int .u8) (Rep.prod (Rep.int .i64) (Rep.prod (Rep.raw u7) Rep.unit))))) (r' := (Rep.iso (fun s : Requester_ => (s.Own, s.Next, s.Pending, ())) (Rep.prod (Rep.int .u8) (Rep.prod (Rep.int .i64) (Rep.prod (Rep.raw u7) Rep.unit))))) (x' := y1) h90 .z PA.z (Chg.id (by rfl)) (Ty.like ty26 (by rfl) (by rfl)) rfl rfl rfl (V.at (.s (.s .z))) (.inl rfl) (fun w29 h91 => ?_))
        refine RunL.op (OpS.storeB (f' := true) h91 (.s .z) PA.z Put.id ty51 rfl rfl rfl (V.at (.s .z)) (.inl rfl) (fun w30 h92 => ?_))
        refine RunL.op (OpS.storeB (f' := true) h92 (.s (.s .z)) PA.z Put.id ty51 rfl rfl rfl (V.at .z) (.inl rfl) (fun w31 h93 => ?_))
        refine RunL.op (OpS.as rfl rfl rfl ?_)
        refine RunL.nil ?_
        refine Run.slim [(7, .bool false), (4, u2), (5, u3), (6, u4)] ⟨rfl, rfl, rfl, rfl, trivial⟩ ?_
        obtain ⟨u33, hu10, h94⟩ := res_box h93 (.s (.s .z)) (Ty.like ty26 (by rfl) (by rfl))
        have h95 := (h94.pick (.s (.s (.s (.s .z))))).freeze
        have h96 := h95.pick (.s (.s .z))
        have h97 := h96.weak
        have h98 := St.boxJ (r' := Requester_.rep) (x' := { y1 with Pending := y1.Pending }) h97 (fun _ _ hs_ => (Jn.iso _ (Jn.prod Jn.refl (Jn.prod Jn.refl (Jn.prod (Jn.raw ((V.at .z) _ _ hs_) rfl) Jn.refl)))))
        have h99 := St.addV (f := false) (r := Requester_.rep) (x := { y1 with Pending := y1.Pending }) h98 (V.jn (r := (Rep.iso (fun s : Requester_ => (s.Own, s.Next, s.Pending, ())) (Rep.prod (Rep.int .u8) (Rep.prod (Rep.int .i64) (Rep.prod (Rep.raw u7) Rep.unit))))) (x := y1) (V.weak (V.at (.s .z))) rfl (fun _ _ hs_ => (Jn.iso _ (Jn.prod Jn.refl (Jn.prod Jn.refl (Jn.prod (Jn.raw ((V.at .z) _ _ hs_) rfl) Jn.refl))))))
        obtain ⟨u34, hu11, h100⟩ := res_box h99 (.s (.s .z)) ty51
        obtain ⟨u35, hu12, h101⟩ := res_box h100 (.s .z) ty51
        refine Run.retP rfl (.cell rfl hu10 (.cell rfl hu11 (.cell rfl hu12 (.tmp rfl .nil)))) ?_
        cases hF
        exact Post.mk' ⟨u33, u34, u35, rfl, rfl, rfl, rfl⟩ (h101.picks .nil) (.val (V.at (.s (.s .z))) (.val (V.weak (V.at (.s .z))) (.val (V.at .z) .nil)))
theorem message_Response_ok {fuel : Nat} {a0 : Message_} {y : (List Int) × Int} (hF : message_Response fuel a0 = some y) {w : World} {v0 : Value} :
    Spec Try.prog 32 [v0].toArray w [(false, .val Message_.rep v0 a0)] [] (fun v Γr Ωr Ωo => ∃ u0 : Value, v = .tuple #[u0, .int .i64 y.2] ∧ Γr = [] ∧ Ωr = [(true, .slice 5 (Rep.int .u8) u0 y.1)] ∧ Ωo = []) := by
  refine Spec.of (L := [(0, v0)]) Try.func32 rfl ⟨rfl, trivial⟩ rfl (fun e h => ?_)
  unfold message_Response at hF
  refine Run.seq ?_
  refine Run.reg ?_
  refine RunL.op (OpS.boxF h rfl rfl rfl (V.at .z) (fun u1 w1 h1 => ?_))
  refine RunL.op (OpS.as rfl rfl rfl ?_)
  refine RunL.op (OpS.as rfl rfl rfl ?_)
  refine RunL.nil ?_
  refine Run.slim [(1, u1)] ⟨rfl, trivial⟩ ?_
  refine Run.seq ?_
  refine Run.seq ?_
  refine Run.reg ?_
  refine RunL.op (OpS.loadB h1 .z PA.z Get.id ty51 rfl rfl rfl (fun u2 h2 => ?_))
  obtain ⟨y1, e1, hF⟩ := bindP_use hF
  refine RunL.op (OpS.callP h2 Try.func49 rfl rfl rfl rfl (vs := [u2]) rfl (message_Valid_ok e1) (.cons (f := false) (V.at .z) .nil) ?_)
  rintro _ w2 _ _ _ ⟨rfl, rfl, rfl, rfl⟩ h3
  have h4 := h3 rfl rfl
  simp only [List.cons_append, List.nil_append] at h4
  refine RunL.op (OpS.not rfl rfl rfl ?_)
  refine RunL.op (OpS.mv rfl rfl rfl ?_)
  refine RunL.join (σ := Bool) (fun s_ L_ w_ => L_ = [(1, u1), (10, .bool s_)] ∧ St e w_ [] [(false, .box 51 Message_.rep u1 a0)]) hF (fun s1 _ w3 hI hF => ?_) (fun j1 hj1 hF => ?_)
  ·
    obtain ⟨rfl, h5⟩ := hI
    refine Run.ite rfl hF (fun e2 hF => ?_) (fun e2 hF => ?_)
    ·
      refine Run.seq ?_
      refine Run.reg ?_
      refine RunL.op (OpS.as rfl rfl rfl ?_)
      refine RunL.op (OpS.as rfl rfl rfl ?_)
      refine RunL.nil ?_
      refine Run.slim [(3, .int .i64 1), (2, .slice none 0 0)] ⟨rfl, rfl, trivial⟩ ?_
      have h6 := St.nil 5 (Rep.int .u8) h5
      refine Run.retP rfl (.tmp rfl (.tmp rfl .nil)) ?_
      cases hF
      exact Post.mk' ⟨(.slice none 0 0), rfl, rfl, rfl, rfl⟩ (h6.picks (.cons .z .nil)) .nil
    ·
      refine Run.skip ?_
      refine Run.seq ?_
      refine Run.reg ?_
      refine RunL.op (OpS.loadB h5 .z PA.z Get.id ty51 rfl rfl rfl (fun u3 h7 => ?_))
      obtain ⟨y2, e3, hF⟩ := bindP_use hF
      refine RunL.op (OpS.callP h7 Try.func52 rfl rfl rfl rfl (vs := [u3]) rfl (message_encode_ok e3) (.cons (f := false) (V.at .z) .nil) ?_)
      rintro u4 w4 _ _ _ ⟨_, rfl, rfl, rfl, rfl⟩ h8
      have h9 := h8 rfl rfl
      simp only [List.cons_append, List.nil_append] at h9
      refine RunL.op (OpS.as rfl rfl rfl ?_)
      refine RunL.op (OpS.as rfl rfl rfl ?_)
      refine RunL.nil ?_
      refine Run.slim [(3, .int .i64 0), (2, u4)] ⟨rfl, rfl, trivial⟩ ?_
      refine Run.retP rfl (.tmp rfl (.tmp rfl .nil)) ?_
      cases hF
      exact Post.mk' ⟨u4, rfl, rfl, rfl, rfl⟩ (h9.picks (.cons .z .nil)) .nil
  ·
    refine RunL.caseb hF (fun e4 hF => ?_) (fun e4 hF => ?_)
    ·
      refine RunL.op (OpS.pass rfl rfl rfl ?_)
      refine RunL.op (OpS.pass rfl rfl rfl ?_)
      refine RunL.op (OpS.pick rfl rfl rfl rfl ?_)
      refine RunL.nil ?_
      refine Run.slim [(10, .bool true), (1, u1)] ⟨rfl, rfl, trivial⟩ ?_
      refine Run.slim [(1, u1), (10, .bool true)] ⟨rfl, rfl, trivial⟩ ?_
      exact hj1 (true) _ _ ⟨rfl, (h4.facts .nil).picks (.cons .z .nil)⟩ hF
    ·
      refine RunL.op (OpS.loadB h4 .z PA.z Get.id ty51 rfl rfl rfl (fun u5 h10 => ?_))
      obtain ⟨y3, e5, hF⟩ := bindP_use hF
      refine RunL.op (OpS.callP h10 Try.func50 rfl rfl rfl rfl (vs := [u5]) rfl (message_request_ok e5) (.cons (f := false) (V.at .z) .nil) ?_)
      rintro _ w5 _ _ _ ⟨rfl, rfl, rfl, rfl⟩ h11
      have h12 := h11 rfl rfl
      simp only [List.cons_append, List.nil_append] at h12
      refine RunL.op (OpS.pick rfl rfl rfl rfl ?_)
      refine RunL.nil ?_
      refine Run.slim [(10, .bool y3), (1, u1)] ⟨rfl, rfl, trivial⟩ ?_
      refine Run.slim [(1, u1), (10, .bool y3)] ⟨rfl, rfl, trivial⟩ ?_
      exact hj1 (y3) _ _ ⟨rfl, (h12.facts .nil).picks (.cons .z .nil)⟩ hF
theorem message_ParseRequest_ok {fuel : Nat} {a0 : List Int} {y : Message_ × Int} (hF : message_ParseRequest fuel a0 = some y) {w : World} {v0 : Value} :
    Spec Try.prog 35 [v0].toArray w [(false, .val (Rep.slice (Rep.int .u8)) v0 a0)] [] (fun v Γr Ωr Ωo => ∃ u0 : Value, v = .tuple #[u0, .int .i64 y.2] ∧ Γr = [(true, .val Message_.rep u0 y.1)] ∧ Ωr = [] ∧ Ωo = []) := by
  refine Spec.of (L := [(0, v0)]) Try.func35 rfl ⟨rfl, trivial⟩ rfl (fun e h => ?_)
  unfold message_ParseRequest at hF
  refine Run.seq ?_
  refine Run.reg ?_
  refine RunL.op (OpS.alloc h ti51 Message_.zr rfl rfl (fun u1 w1 h1 => ?_))
  refine RunL.op (OpS.as rfl rfl rfl ?_)
  refine RunL.nil ?_
  refine Run.slim [(2, u1), (0, v0)] ⟨rfl, rfl, trivial⟩ ?_
  refine Run.seq ?_
  refine Run.seq ?_
  refine Run.reg ?_
  refine RunL.op (OpS.mv rfl rfl rfl ?_)
  refine RunL.op (OpS.len h1 Try.underlying22 rfl rfl rfl (V.at .z) ?_)
  refine RunL.op (OpS.bin rfl rfl rfl rfl rfl ?_)
  refine RunL.nil ?_
  refine Run.slim [(6, .bool (decide ((a0.length : Int) < 7))), (2, u1), (0, v0)] ⟨rfl, rfl, rfl, trivial⟩ ?_
  refine Run.ite rfl hF (fun e1 hF => ?_) (fun e1 hF => ?_)
  ·
    refine Run.seq ?_
    refine Run.reg ?_
    refine RunL.op (OpS.build (f := true) (x' := Message_.z) h1 pl51 ti51 Message_.zr rfl rfl rfl .nil (fun u2 h2 => ?_))
    refine RunL.op (OpS.storeB (f' := true) h2 .z PA.z Put.id ty51 rfl rfl rfl (V.at .z) (.inl rfl) (fun w2 h3 => ?_))
    refine RunL.op (OpS.as rfl rfl rfl ?_)
    refine RunL.nil ?_
    refine Run.slim [(3, .int .i64 4), (2, u1)] ⟨rfl, rfl, trivial⟩ ?_
    obtain ⟨u3, hu1, h4⟩ := res_box h3 .z ty51
    refine Run.retP rfl (.cell rfl hu1 (.tmp rfl .nil)) ?_
    cases hF
    exact Post.mk' ⟨u3, rfl, rfl, rfl, rfl⟩ (h4.picks .nil) (.val (V.at .z) .nil)
  ·
    refine Run.skip ?_
    refine Run.seq ?_
    refine Run.reg ?_
    refine RunL.op (OpS.mv rfl rfl rfl ?_)
    obtain ⟨y1, e2, hF⟩ := bindP_use hF
    refine RunL.op (OpS.callP h1 Try.func53 rfl rfl rfl rfl (vs := [v0, .int .i64 6]) rfl (message_parse_ok e2) (.cons (f := false) (V.at .z) .nil) ?_)
    rintro _ w3 _ _ _ ⟨u4, rfl, rfl, rfl, rfl⟩ h5
    have h6 := h5 rfl rfl
    simp only [List.cons_append, List.nil_append] at h6
    refine RunL.op (OpS.ext rfl rfl rfl rfl ?_)
    refine RunL.op (OpS.ext rfl rfl rfl rfl ?_)
    refine RunL.op (OpS.storeB (f' := true) h6 .z PA.z Put.id ty51 rfl rfl rfl (V.at .z) (.inl rfl) (fun w4 h7 => ?_))
    refine RunL.op (OpS.as rfl rfl rfl ?_)
    refine RunL.nil ?_
    refine Run.slim [(3, .int .i64 y1.2), (2, u1)] ⟨rfl, rfl, trivial⟩ ?_
    obtain ⟨u5, hu2, h8⟩ := res_box h7 .z ty51
    refine Run.retP rfl (.cell rfl hu2 (.tmp rfl .nil)) ?_
    cases hF
    exact Post.mk' ⟨u5, rfl, rfl, rfl, rfl⟩ (h8.picks .nil) (.val (V.at .z) .nil)
set_option maxHeartbeats 8000000 in
theorem law24_ExchangeNumbers_ok {fuel : Nat} {a0 : Int} {a1 : List Bool} {y : Bool} (hF : law24_ExchangeNumbers fuel a0 a1 = some y) {w : World} {v1 : Value} :
    Spec Try.prog 7 [.int .u8 a0, v1].toArray w [(false, .val (Rep.slice Rep.bool) v1 a1)] [] (fun v Γr Ωr Ωo => v = .bool y ∧ Γr = [] ∧ Ωr = [] ∧ Ωo = []) := by
  refine Spec.of (L := [(0, .int .u8 a0), (1, v1)]) Try.func7 rfl ⟨rfl, rfl, trivial⟩ rfl (fun e h => ?_)
  unfold law24_ExchangeNumbers at hF
  refine Run.seq ?_
  refine Run.reg ?_
  refine RunL.op (OpS.as rfl rfl rfl ?_)
  refine RunL.nil ?_
  refine Run.slim [(0, .int .u8 a0), (1, v1)] ⟨rfl, rfl, trivial⟩ ?_
  refine Run.seq ?_
  refine Run.seq ?_
  refine Run.reg ?_
  obtain ⟨y1, e1, hF⟩ := bindP_use hF
  refine RunL.op (OpS.callP h Try.func8 rfl rfl rfl rfl (vs := []) rfl (law24_awake_ok e1) .nil ?_)
  rintro _ w1 _ _ _ ⟨rfl, rfl, rfl, rfl⟩ h1
  have h2 := h1 rfl rfl
  simp only [List.cons_append, List.nil_append] at h2
  refine RunL.op (OpS.not rfl rfl rfl ?_)
  refine RunL.nil ?_
  refine Run.slim [(24, .bool (!y1)), (0, .int .u8 a0), (1, v1)] ⟨rfl, rfl, rfl, trivial⟩ ?_
  refine Run.ite rfl hF (fun e2 hF => ?_) (fun e2 hF => ?_)
  ·
    refine Run.seq ?_
    refine Run.reg ?_
    refine RunL.op (OpS.as rfl rfl rfl ?_)
    refine RunL.nil ?_
    refine Run.slim [(4, .bool false)] ⟨rfl, trivial⟩ ?_
    refine Run.retP rfl (.tmp rfl .nil) ?_
    cases hF
    exact Post.mk' ⟨rfl, rfl, rfl, rfl⟩ (h2.picks .nil) .nil
  ·
    refine Run.skip ?_
    refine Run.seq ?_
    refine Run.reg ?_
    obtain ⟨y2, e3, hF⟩ := bindP_use hF
    refine RunL.op (OpS.callP h2 Try.func9 rfl rfl rfl rfl (vs := [.int .u8 32]) rfl (exchange_New_ok e3) .nil ?_)
    rintro _ w2 _ _ _ ⟨u1, rfl, rfl, rfl, rfl⟩ h3
    have h4 := h3 rfl rfl
    simp only [List.cons_append, List.nil_append] at h4
    refine RunL.op (OpS.mv rfl rfl rfl ?_)
    refine RunL.op (OpS.ext rfl rfl rfl rfl ?_)
    refine RunL.op (OpS.ext rfl rfl rfl rfl ?_)
    refine RunL.op (OpS.alloc h4 ti26 Requester_.zr rfl rfl (fun u2 w3 h5 => ?_))
    refine RunL.op (OpS.storeB (f' := true) h5 .z PA.z Put.id ty26 rfl rfl rfl (V.at .z) (.inl rfl) (fun w4 h6 => ?_))
    refine RunL.op (OpS.as rfl rfl rfl ?_)
    refine RunL.nil ?_
    refine Run.slim [(6, .int .i64 y2.2), (5, u2), (0, .int .u8 a0), (1, v1)] ⟨rfl, rfl, rfl, rfl, trivial⟩ ?_
    refine Run.seq ?_
    refine Run.seq ?_
    refine Run.reg ?_
    refine RunL.op (OpS.mv rfl rfl rfl ?_)
    refine RunL.op (OpS.bin rfl rfl rfl rfl rfl ?_)
    refine RunL.nil ?_
    refine Run.slim [(30, .bool (y2.2 != 0)), (5, u2), (0, .int .u8 a0), (1, v1)] ⟨rfl, rfl, rfl, rfl, trivial⟩ ?_
    refine Run.ite rfl hF (fun e4 hF => ?_) (fun e4 hF => ?_)
    ·
      refine Run.seq ?_
      refine Run.reg ?_
      refine RunL.op (OpS.as rfl rfl rfl ?_)
      refine RunL.nil ?_
      refine Run.slim [(4, .bool false)] ⟨rfl, trivial⟩ ?_
      refine Run.retP rfl (.tmp rfl .nil) ?_
      cases hF
      exact Post.mk' ⟨rfl, rfl, rfl, rfl⟩ (h6.picks .nil) .nil
    ·
      refine Run.skip ?_
      refine Run.seq ?_
      refine Run.reg ?_
      refine RunL.op (OpS.mv rfl rfl rfl ?_)
      refine RunL.op (OpS.rem rfl rfl rfl rfl (by decide) ?_)
      refine RunL.op (OpS.conv Try.underlying5 Try.underlying3 rfl rfl rfl ?_)
      refine RunL.op (OpS.fbox (o3 := 1) h6 .z PA.z fa26_1 rfl rfl rfl rfl ?_)
      obtain ⟨d1, e5, hF⟩ := letP_use hF
      refine RunL.op (OpS.storeB (f' := true) h6 .z PA.a (Put.of (Put.fld Requester_.f1) e5) ty3 rfl rfl rfl V.int (.inl rfl) (fun w5 h7 => ?_))
      refine RunL.nil ?_
      refine Run.slim [(5, u2), (1, v1)] ⟨rfl, rfl, trivial⟩ ?_
      refine Run.seq ?_
      refine Run.reg ?_
      refine RunL.op (OpS.fbox (o3 := 1) h7 .z PA.z fa26_1 rfl rfl rfl rfl ?_)
      refine RunL.op (OpS.loadBi h7 .z PA.a (Get.fld Requester_.f1) ty3 rfl rfl rfl ?_)
      refine RunL.op (OpS.as rfl rfl rfl ?_)
      refine RunL.nil ?_
      refine Run.slim [(7, .int .i64 d1.Next), (5, u2), (1, v1)] ⟨rfl, rfl, rfl, trivial⟩ ?_
      refine Run.seq ?_
      refine Run.seq ?_
      refine Run.reg ?_
      refine RunL.op (OpS.as rfl rfl rfl ?_)
      refine RunL.nil ?_
      refine Run.block ?_
      have h8 := (h7.pick .z).weak
      refine Run.slim [(1, v1), (5, u2), (7, .int .i64 d1.Next), (8, .int .i64 0)] ⟨rfl, rfl, rfl, rfl, trivial⟩ ?_
      refine Run.loopP (σ := (Int × Int × Requester_)) (fun s_ L_ w_ => L_ = [(1, v1), (5, u2), (7, .int .i64 s_.1), (8, .int .i64 s_.2.1)] ∧ St e w_ [(false, .val (Rep.slice Rep.bool) v1 a1)] [(false, .box 26 Requester_.rep u2 s_.2.2)]) hF ⟨rfl, (h8.facts (.atm (.s .z) .nil)).picks (.cons .z .nil)⟩ (fun k1 hk1 s1 _ w6 hI hF => ?_)
      obtain ⟨rfl, h9⟩ := hI
      refine Run.seq ?_
      refine Run.seq ?_
      refine Run.reg ?_
      refine RunL.op (OpS.mv rfl rfl rfl ?_)
      refine RunL.op (OpS.mv rfl rfl rfl ?_)
      refine RunL.op (OpS.len h9 Try.underlying67 rfl rfl rfl (V.at .z) ?_)
      refine RunL.op (OpS.bin rfl rfl rfl rfl rfl ?_)
      refine RunL.op (OpS.mv rfl rfl rfl ?_)
      refine RunL.join (σ := Bool) (fun s_ L_ w_ => L_ = [(1, v1), (5, u2), (7, .int .i64 s1.1), (8, .int .i64 s1.2.1), (44, .bool s_)] ∧ St e w_ [(false, .val (Rep.slice Rep.bool) v1 a1)] [(false, .box 26 Requester_.rep u2 s1.2.2)]) hF (fun s2 _ w7 hI hF => ?_) (fun j1 hj1 hF => ?_)
      ·
        obtain ⟨rfl, h10⟩ := hI
        refine Run.ite rfl hF (fun e6 hF => ?_) (fun e6 hF => ?_)
        ·
          refine Run.skip ?_
          refine Run.seq ?_
          refine Run.block ?_
          refine Run.seq ?_
          refine Run.reg ?_
          refine RunL.op (OpS.as rfl rfl rfl ?_)
          refine RunL.nil ?_
          refine Run.slim [(9, .int .u8 64), (1, v1), (5, u2), (7, .int .i64 s1.1), (8, .int .i64 s1.2.1)] ⟨rfl, rfl, rfl, rfl, rfl, trivial⟩ ?_
          refine Run.seq ?_
          refine Run.seq ?_
          refine Run.reg ?_
          refine RunL.op (OpS.mv rfl rfl rfl ?_)
          refine RunL.op (OpS.mv rfl rfl rfl ?_)
          obtain ⟨x1, e7, hF⟩ := bindP_use hF
          refine RunL.op (OpS.iptr h10 Try.underlying67 ty4 rfl rfl rfl rfl (V.at .z) e7 (fun u3 h11 => ?_))
          refine RunL.op (OpS.loadb h11 ty4 rfl rfl rfl .z ?_)
          refine RunL.nil ?_
          refine Run.slim [(50, .bool x1), (9, .int .u8 64), (1, v1), (5, u2), (7, .int .i64 s1.1), (8, .int .i64 s1.2.1)] ⟨rfl, rfl, rfl, rfl, rfl, rfl, trivial⟩ ?_
          refine Run.join (σ := Int) (fun s_ L_ w_ => L_ = [(1, v1), (5, u2), (7, .int .i64 s1.1), (8, .int .i64 s1.2.1), (9, .int .u8 s_)] ∧ St e w_ [(false, .val (Rep.slice Rep.bool) v1 a1)] [(false, .box 26 Requester_.rep u2 s1.2.2)]) hF (fun s3 _ w8 hI hF => ?_) (fun j2 hj2 hF => ?_)
          ·
            obtain ⟨rfl, h12⟩ := hI
            refine Run.seq ?_
            refine Run.reg ?_
            refine RunL.op (OpS.loadB h12 .z PA.z Get.id ty26 rfl rfl rfl (fun u4 h13 => ?_))
            refine RunL.op (OpS.mv rfl rfl rfl ?_)
            obtain ⟨y3, e8, hF⟩ := bindP_use hF
            have h14 := h13.front .nil
            refine RunL.op (OpS.callO h14 Try.func10 rfl rfl rfl rfl (vs := [u4, .int .u8 s3, .int .u8 6, .int .u8 1, .slice none 0 0, .int .i64 5]) rfl (exchange_Send_ok e8) rfl (.cons (f := false) (V.at .z) (.cons (f := true) V.nil .nil)) ?_)
            rintro _ w9 _ _ _ ⟨u5, u6, rfl, rfl, rfl, rfl⟩ h15
            have h16 := h15
            simp only [List.cons_append, List.nil_append] at h16
            refine RunL.op (OpS.mv rfl rfl rfl ?_)
            refine RunL.op (OpS.ext rfl rfl rfl rfl ?_)
            refine RunL.op (OpS.ext rfl rfl rfl rfl ?_)
            refine RunL.op (OpS.ext rfl rfl rfl rfl ?_)
            refine RunL.op (OpS.alloc h16 ti26 Requester_.zr rfl rfl (fun u7 w10 h17 => ?_))
            have h18 := (h17.pick .z).weak
            refine RunL.op (OpS.storeB (f' := false) h18 .z PA.z Put.id ty26 rfl rfl rfl (V.at .z) (.inr rfl) (fun w11 h19 => ?_))
            refine RunL.op (OpS.as rfl rfl rfl ?_)
            refine RunL.op (OpS.as rfl rfl rfl ?_)
            refine RunL.nil ?_
            refine Run.slim [(12, .int .i64 y3.2.2), (11, u6), (10, u7), (1, v1), (5, u2), (7, .int .i64 s1.1), (8, .int .i64 s1.2.1), (9, .int .u8 s3)] ⟨rfl, rfl, rfl, rfl, rfl, rfl, rfl, rfl, trivial⟩ ?_
            refine Run.seq ?_
            refine Run.seq ?_
            refine Run.reg ?_
            refine RunL.op (OpS.mv rfl rfl rfl ?_)
            refine RunL.op (OpS.bin rfl rfl rfl rfl rfl ?_)
            refine RunL.nil ?_
            refine Run.slim [(59, .bool (y3.2.2 != 0)), (11, u6), (10, u7), (1, v1), (5, u2), (7, .int .i64 s1.1), (8, .int .i64 s1.2.1), (9, .int .u8 s3)] ⟨rfl, rfl, rfl, rfl, rfl, rfl, rfl, rfl, trivial⟩ ?_
            refine Run.ite rfl hF (fun e9 hF => ?_) (fun e9 hF => ?_)
            ·
              refine Run.seq ?_
              refine Run.reg ?_
              refine RunL.op (OpS.as rfl rfl rfl ?_)
              refine RunL.nil ?_
              refine Run.slim [(4, .bool false)] ⟨rfl, trivial⟩ ?_
              refine Run.retP rfl (.tmp rfl .nil) ?_
              cases hF
              exact Post.mk' ⟨rfl, rfl, rfl, rfl⟩ (h19.picks .nil) .nil
            ·
              refine Run.skip ?_
              refine Run.seq ?_
              refine Run.reg ?_
              refine RunL.op (OpS.mv rfl rfl rfl ?_)
              obtain ⟨y4, e10, hF⟩ := bindP_use hF
              refine RunL.op (OpS.callP h19 Try.func35 rfl rfl rfl rfl (vs := [u6]) rfl (message_ParseRequest_ok e10) (.cons (f := true) (V.at (.s .z)) .nil) ?_)
              rintro _ w12 _ _ _ ⟨u8, rfl, rfl, rfl, rfl⟩ h20
              have h21 := h20 rfl rfl
              simp only [List.cons_append, List.nil_append] at h21
              refine RunL.op (OpS.mv rfl rfl rfl ?_)
              refine RunL.op (OpS.ext rfl rfl rfl rfl ?_)
              refine RunL.op (OpS.ext rfl rfl rfl rfl ?_)
              refine RunL.op (OpS.alloc h21 ti51 Message_.zr rfl rfl (fun u9 w13 h22 => ?_))
              refine RunL.op (OpS.storeB (f' := true) h22 .z PA.z Put.id ty51 rfl rfl rfl (V.at .z) (.inl rfl) (fun w14 h23 => ?_))
              refine RunL.op (OpS.as rfl rfl rfl ?_)
              refine RunL.nil ?_
              refine Run.slim [(14, .int .i64 y4.2), (13, u9), (10, u7), (1, v1), (5, u2), (7, .int .i64 s1.1), (8, .int .i64 s1.2.1), (9, .int .u8 s3)] ⟨rfl, rfl, rfl, rfl, rfl, rfl, rfl, rfl, trivial⟩ ?_
              refine Run.seq ?_
              refine Run.seq ?_
              refine Run.reg ?_
              refine RunL.op (OpS.mv rfl rfl rfl ?_)
              refine RunL.op (OpS.bin rfl rfl rfl rfl rfl ?_)
              refine RunL.op (OpS.mv rfl rfl rfl ?_)
              refine RunL.join (σ := Bool) (fun s_ L_ w_ => L_ = [(1, v1), (5, u2), (7, .int .i64 s1.1), (8, .int .i64 s1.2.1), (10, u7), (13, u9), (91, .bool s_)] ∧ St e w_ [(false, .val (Rep.slice Rep.bool) v1 a1)] [(false, .box 26 Requester_.rep u2 s1.2.2), (false, .box 26 Requester_.rep u7 y3.1), (true, .box 51 Message_.rep u9 y4.1)]) hF (fun s4 _ w15 hI hF => ?_) (fun j3 hj3 hF => ?_)
              ·
                obtain ⟨rfl, h24⟩ := hI
                refine Run.ite rfl hF (fun e11 hF => ?_) (fun e11 hF => ?_)
                ·
                  refine Run.seq ?_
                  refine Run.reg ?_
                  refine RunL.op (OpS.as rfl rfl rfl ?_)
                  refine RunL.nil ?_
                  refine Run.slim [(4, .bool false)] ⟨rfl, trivial⟩ ?_
                  refine Run.retP rfl (.tmp rfl .nil) ?_
                  cases hF
                  exact Post.mk' ⟨rfl, rfl, rfl, rfl⟩ (h24.picks .nil) .nil
                ·
                  refine Run.skip ?_
                  refine Run.seq ?_
                  refine Run.reg ?_
                  refine RunL.op (OpS.mv rfl rfl rfl ?_)
                  refine RunL.op (OpS.bin rfl rfl rfl rfl rfl ?_)
                  refine RunL.op (OpS.rem rfl rfl rfl rfl (by decide) ?_)
                  refine RunL.op (OpS.as rfl rfl rfl ?_)
                  obtain ⟨x2, e12, hF⟩ := letP_use hF
                  refine RunL.name e12 ?_
                  refine RunL.nil ?_
                  refine Run.slim [(7, .int .i64 x2), (1, v1), (5, u2), (8, .int .i64 s1.2.1), (10, u7), (13, u9)] ⟨rfl, rfl, rfl, rfl, rfl, rfl, trivial⟩ ?_
                  refine Run.seq ?_
                  refine Run.reg ?_
                  refine RunL.op (OpS.loadB h24 (.s (.s .z)) PA.z Get.id ty51 rfl rfl rfl (fun u10 h25 => ?_))
                  obtain ⟨y5, e13, hF⟩ := bindP_use hF
                  refine RunL.op (OpS.callP h25 Try.func31 rfl rfl rfl rfl (vs := [u10, .int .u8 0, .slice none 0 0]) rfl (message_Reply_ok e13) (.cons (f := true) (V.at .z) (.cons (f := true) V.nil .nil)) ?_)
                  rintro _ w16 _ _ _ ⟨u11, rfl, rfl, rfl, rfl⟩ h26
                  have h27 := h26 rfl rfl
                  simp only [List.cons_append, List.nil_append] at h27
                  refine RunL.op (OpS.mv rfl rfl rfl ?_)
                  refine RunL.op (OpS.ext rfl rfl rfl rfl ?_)
                  refine RunL.op (OpS.ext rfl rfl rfl rfl ?_)
                  refine RunL.op (OpS.alloc h27 ti51 Message_.zr rfl rfl (fun u12 w17 h28 => ?_))
                  refine RunL.op (OpS.storeB (f' := true) h28 .z PA.z Put.id ty51 rfl rfl rfl (V.at .z) (.inl rfl) (fun w18 h29 => ?_))
                  refine RunL.op (OpS.as rfl rfl rfl ?_)
                  refine RunL.nil ?_
                  refine Run.slim [(15, u12), (7, .int .i64 x2), (1, v1), (5, u2), (8, .int .i64 s1.2.1), (10, u7)] ⟨rfl, rfl, rfl, rfl, rfl, rfl, trivial⟩ ?_
                  refine Run.seq ?_
                  refine Run.reg ?_
                  refine RunL.op (OpS.loadB h29 .z PA.z Get.id ty51 rfl rfl rfl (fun u13 h30 => ?_))
                  obtain ⟨y6, e14, hF⟩ := bindP_use hF
                  refine RunL.op (OpS.callP h30 Try.func32 rfl rfl rfl rfl (vs := [u13]) rfl (message_Response_ok e14) (.cons (f := true) (V.at .z) .nil) ?_)
                  rintro _ w19 _ _ _ ⟨u14, rfl, rfl, rfl, rfl⟩ h31
                  have h32 := h31 rfl rfl
                  simp only [List.cons_append, List.nil_append] at h32
                  refine RunL.op (OpS.mv rfl rfl rfl ?_)
                  refine RunL.op (OpS.ext rfl rfl rfl rfl ?_)
                  refine RunL.op (OpS.ext rfl rfl rfl rfl ?_)
                  refine RunL.op (OpS.as rfl rfl rfl ?_)
                  have h33 := (h32.pick .z).freeze
                  refine RunL.op (OpS.as rfl rfl rfl ?_)
                  refine RunL.nil ?_
                  refine Run.slim [(17, u14), (7, .int .i64 x2), (1, v1), (5, u2), (8, .int .i64 s1.2.1), (10, u7)] ⟨rfl, rfl, rfl, rfl, rfl, rfl, trivial⟩ ?_
                  refine Run.seq ?_
                  refine Run.reg ?_
                  refine RunL.op (OpS.loadB h33 (.s (.s .z)) PA.z Get.id ty26 rfl rfl rfl (fun u15 h34 => ?_))
                  refine RunL.op (OpS.mv rfl rfl rfl ?_)
                  obtain ⟨y7, e15, hF⟩ := bindP_use hF
                  have h35 := h34.front .nil
                  refine RunL.op (OpS.callO h35 Try.func28 rfl rfl rfl rfl (vs := [u15, u14]) rfl (exchange_Receive_ok e15) rfl (.cons (f := false) (V.at .z) (.cons (f := true) (V.at (.s .z)) .nil)) ?_)
                  rintro _ w20 _ _ _ ⟨u16, u17, u18, rfl, rfl, rfl, rfl⟩ h36
                  have h37 := h36
                  simp only [List.cons_append, List.nil_append] at h37
                  refine RunL.op (OpS.mv rfl rfl rfl ?_)
                  refine RunL.op (OpS.ext rfl rfl rfl rfl ?_)
                  refine RunL.op (OpS.ext rfl rfl rfl rfl ?_)
                  refine RunL.op (OpS.ext rfl rfl rfl rfl ?_)
                  refine RunL.op (OpS.ext rfl rfl rfl rfl ?_)
                  refine RunL.op (OpS.alloc h37 ti26 Requester_.zr rfl rfl (fun u19 w21 h38 => ?_))
                  refine RunL.op (OpS.alloc h38 ti51 Message_.zr rfl rfl (fun u20 w22 h39 => ?_))
                  refine RunL.op (OpS.alloc h39 ti51 Message_.zr rfl rfl (fun u21 w23 h40 => ?_))
                  have h41 := (h40.pick (.s (.s .z))).weak
                  refine RunL.op (OpS.storeB (f' := false) h41 .z PA.z Put.id ty26 rfl rfl rfl (V.at .z) (.inr rfl) (fun w24 h42 => ?_))
                  have h43 := (h42.pick (.s (.s .z))).weak
                  refine RunL.op (OpS.storeB (f' := false) h43 .z PA.z Put.id ty51 rfl rfl rfl (V.at (.s .z)) (.inr rfl) (fun w25 h44 => ?_))
                  refine RunL.op (OpS.storeB (f' := true) h44 (.s (.s .z)) PA.z Put.id ty51 rfl rfl rfl (V.at (.s (.s .z))) (.inl rfl) (fun w26 h45 => ?_))
                  refine RunL.op (OpS.as rfl rfl rfl ?_)
                  refine RunL.nil ?_
                  refine Run.slim [(22, .bool y7.2.2.2), (19, u19), (7, .int .i64 x2), (1, v1), (5, u2), (8, .int .i64 s1.2.1)] ⟨rfl, rfl, rfl, rfl, rfl, rfl, trivial⟩ ?_
                  refine Run.seq ?_
                  refine Run.seq ?_
                  refine Run.reg ?_
                  refine RunL.op (OpS.mv rfl rfl rfl ?_)
                  refine RunL.op (OpS.not rfl rfl rfl ?_)
                  refine RunL.op (OpS.mv rfl rfl rfl ?_)
                  refine RunL.join (σ := Bool) (fun s_ L_ w_ => L_ = [(1, v1), (5, u2), (7, .int .i64 x2), (8, .int .i64 s1.2.1), (19, u19), (120, .bool s_)] ∧ St e w_ [(false, .val (Rep.slice Rep.bool) v1 a1)] [(false, .box 26 Requester_.rep u2 s1.2.2), (false, .box 26 Requester_.rep u19 y7.1)]) hF (fun s5 _ w27 hI hF => ?_) (fun j4 hj4 hF => ?_)
                  ·
                    obtain ⟨rfl, h46⟩ := hI
                    refine Run.ite rfl hF (fun e16 hF => ?_) (fun e16 hF => ?_)
                    ·
                      refine Run.seq ?_
                      refine Run.reg ?_
                      refine RunL.op (OpS.as rfl rfl rfl ?_)
                      refine RunL.nil ?_
                      refine Run.slim [(4, .bool false)] ⟨rfl, trivial⟩ ?_
                      refine Run.retP rfl (.tmp rfl .nil) ?_
                      cases hF
                      exact Post.mk' ⟨rfl, rfl, rfl, rfl⟩ (h46.picks .nil) .nil
                    ·
                      refine Run.skip ?_
                      refine Run.reg ?_
                      refine RunL.op (OpS.loadB h46 (.s .z) PA.z Get.id ty26 rfl rfl rfl (fun u22 h47 => ?_))
                      refine RunL.op (OpS.storeB (f' := false) h47 .z PA.z Put.id ty26 rfl rfl rfl (V.at .z) (.inr rfl) (fun w28 h48 => ?_))
                      refine RunL.nil ?_
                      refine Run.slim [(1, v1), (5, u2), (7, .int .i64 x2), (8, .int .i64 s1.2.1)] ⟨rfl, rfl, rfl, rfl, trivial⟩ ?_
                      refine Run.endBlock ?_
                      refine Run.reg ?_
                      refine RunL.op (OpS.mv rfl rfl rfl ?_)
                      refine RunL.op (OpS.bin rfl rfl rfl rfl rfl ?_)
                      refine RunL.op (OpS.as rfl rfl rfl ?_)
                      obtain ⟨x3, e17, hF⟩ := letP_use hF
                      refine RunL.name e17 ?_
                      refine RunL.nil ?_
                      refine Run.slim [(8, .int .i64 x3), (1, v1), (5, u2), (7, .int .i64 x2)] ⟨rfl, rfl, rfl, rfl, trivial⟩ ?_
                      refine Run.slim [(1, v1), (5, u2), (7, .int .i64 x2), (8, .int .i64 x3)] ⟨rfl, rfl, rfl, rfl, trivial⟩ ?_
                      exact hk1 (x2, x3, y7.1) _ _ ⟨rfl, (h48.facts (.atm (.s .z) .nil)).picks (.cons .z .nil)⟩ hF
                  ·
                    refine RunL.caseb hF (fun e18 hF => ?_) (fun e18 hF => ?_)
                    ·
                      refine RunL.op (OpS.pass rfl rfl rfl ?_)
                      refine RunL.op (OpS.pass rfl rfl rfl ?_)
                      refine RunL.op (OpS.pass rfl rfl rfl ?_)
                      refine RunL.op (OpS.pass rfl rfl rfl ?_)
                      refine RunL.op (OpS.pick rfl rfl rfl rfl ?_)
                      refine RunL.nil ?_
                      refine Run.slim [(120, .bool true), (19, u19), (7, .int .i64 x2), (1, v1), (5, u2), (8, .int .i64 s1.2.1)] ⟨rfl, rfl, rfl, rfl, rfl, rfl, trivial⟩ ?_
                      refine Run.slim [(1, v1), (5, u2), (7, .int .i64 x2), (8, .int .i64 s1.2.1), (19, u19), (120, .bool true)] ⟨rfl, rfl, rfl, rfl, rfl, rfl, trivial⟩ ?_
                      exact hj4 (true) _ _ ⟨rfl, (h45.facts (.atm (.s (.s (.s (.s (.s (.s (.s (.s .z)))))))) .nil)).picks (.cons (.s (.s (.s (.s .z)))) (.cons (.s (.s .z)) .nil))⟩ hF
                    ·
                      refine RunL.op (OpS.fbox (o3 := 2) h45 (.s (.s .z)) PA.z fa26_2 rfl rfl rfl rfl ?_)
                      refine RunL.op (OpS.loadB h45 (.s (.s .z)) PA.a (Get.fld Requester_.f2) ty24 rfl rfl rfl (fun u23 h49 => ?_))
                      refine RunL.op (OpS.len h49 Try.underlying24 rfl rfl rfl (V.at .z) ?_)
                      refine RunL.op (OpS.bin rfl rfl rfl rfl rfl ?_)
                      refine RunL.op (OpS.pick rfl rfl rfl rfl ?_)
                      refine RunL.nil ?_
                      refine Run.slim [(120, .bool ((y7.1.Pending.length : Int) != 0)), (19, u19), (7, .int .i64 x2), (1, v1), (5, u2), (8, .int .i64 s1.2.1)] ⟨rfl, rfl, rfl, rfl, rfl, rfl, trivial⟩ ?_
                      refine Run.slim [(1, v1), (5, u2), (7, .int .i64 x2), (8, .int .i64 s1.2.1), (19, u19), (120, .bool ((y7.1.Pending.length : Int) != 0))] ⟨rfl, rfl, rfl, rfl, rfl, rfl, trivial⟩ ?_
                      exact hj4 ((y7.1.Pending.length : Int) != 0) _ _ ⟨rfl, (h49.facts (.atm (.s (.s (.s (.s (.s (.s (.s (.s (.s .z))))))))) .nil)).picks (.cons (.s (.s (.s (.s .z)))) (.cons (.s (.s .z)) .nil))⟩ hF
              ·
                refine RunL.caseb hF (fun e19 hF => ?_) (fun e19 hF => ?_)
                ·
                  refine RunL.op (OpS.pass rfl rfl rfl ?_)
                  refine RunL.op (OpS.pass rfl rfl rfl ?_)
                  refine RunL.op (OpS.pass rfl rfl rfl ?_)
                  refine RunL.op (OpS.pass rfl rfl rfl ?_)
                  refine RunL.op (OpS.pick rfl rfl rfl rfl ?_)
                  refine RunL.op (OpS.mv rfl rfl rfl ?_)
                  refine RunL.op (OpS.pass rfl rfl rfl ?_)
                  refine RunL.op (OpS.pass rfl rfl rfl ?_)
                  refine RunL.op (OpS.pass rfl rfl rfl ?_)
                  refine RunL.op (OpS.pass rfl rfl rfl ?_)
                  refine RunL.op (OpS.pick rfl rfl rfl rfl ?_)
                  refine RunL.op (OpS.mv rfl rfl rfl ?_)
                  refine RunL.op (OpS.pass rfl rfl rfl ?_)
                  refine RunL.op (OpS.pass rfl rfl rfl ?_)
                  refine RunL.op (OpS.pass rfl rfl rfl ?_)
                  refine RunL.op (OpS.pick rfl rfl rfl rfl ?_)
                  refine RunL.op (OpS.mv rfl rfl rfl ?_)
                  refine RunL.op (OpS.pass rfl rfl rfl ?_)
                  refine RunL.op (OpS.pass rfl rfl rfl ?_)
                  refine RunL.op (OpS.pass rfl rfl rfl ?_)
                  refine RunL.op (OpS.pass rfl rfl rfl ?_)
                  refine RunL.op (OpS.pass rfl rfl rfl ?_)
                  refine RunL.op (OpS.pass rfl rfl rfl ?_)
                  refine RunL.op (OpS.pick rfl rfl rfl rfl ?_)
                  refine RunL.nil ?_
                  refine Run.slim [(91, .bool true), (13, u9), (10, u7), (1, v1), (5, u2), (7, .int .i64 s1.1), (8, .int .i64 s1.2.1)] ⟨rfl, rfl, rfl, rfl, rfl, rfl, rfl, trivial⟩ ?_
                  refine Run.slim [(1, v1), (5, u2), (7, .int .i64 s1.1), (8, .int .i64 s1.2.1), (10, u7), (13, u9), (91, .bool true)] ⟨rfl, rfl, rfl, rfl, rfl, rfl, rfl, trivial⟩ ?_
                  exact hj3 (true) _ _ ⟨rfl, (h23.facts (.atm (.s (.s (.s (.s .z)))) .nil)).picks (.cons (.s (.s .z)) (.cons (.s .z) (.cons .z .nil)))⟩ hF
                ·
                  refine RunL.op (OpS.fbox (o3 := 6) h23 .z PA.z fa51_6 rfl rfl rfl rfl ?_)
                  refine RunL.op (OpS.loadBi h23 .z PA.a (Get.fld Message_.f6) ty3 rfl rfl rfl ?_)
                  refine RunL.op (OpS.mv rfl rfl rfl ?_)
                  refine RunL.op (OpS.bin rfl rfl rfl rfl rfl ?_)
                  refine RunL.op (OpS.pick rfl rfl rfl rfl ?_)
                  refine RunL.op (OpS.mv rfl rfl rfl ?_)
                  refine RunL.caseb hF (fun e20 hF => ?_) (fun e20 hF => ?_)
                  ·
                    refine RunL.op (OpS.pass rfl rfl rfl ?_)
                    refine RunL.op (OpS.pass rfl rfl rfl ?_)
                    refine RunL.op (OpS.pass rfl rfl rfl ?_)
                    refine RunL.op (OpS.pass rfl rfl rfl ?_)
                    refine RunL.op (OpS.pick rfl rfl rfl rfl ?_)
                    refine RunL.op (OpS.mv rfl rfl rfl ?_)
                    refine RunL.op (OpS.pass rfl rfl rfl ?_)
                    refine RunL.op (OpS.pass rfl rfl rfl ?_)
                    refine RunL.op (OpS.pass rfl rfl rfl ?_)
                    refine RunL.op (OpS.pick rfl rfl rfl rfl ?_)
                    refine RunL.op (OpS.mv rfl rfl rfl ?_)
                    refine RunL.op (OpS.pass rfl rfl rfl ?_)
                    refine RunL.op (OpS.pass rfl rfl rfl ?_)
                    refine RunL.op (OpS.pass rfl rfl rfl ?_)
                    refine RunL.op (OpS.pass rfl rfl rfl ?_)
                    refine RunL.op (OpS.pass rfl rfl rfl ?_)
                    refine RunL.op (OpS.pass rfl rfl rfl ?_)
                    refine RunL.op (OpS.pick rfl rfl rfl rfl ?_)
                    refine RunL.nil ?_
                    refine Run.slim [(91, .bool true), (13, u9), (10, u7), (1, v1), (5, u2), (7, .int .i64 s1.1), (8, .int .i64 s1.2.1)] ⟨rfl, rfl, rfl, rfl, rfl, rfl, rfl, trivial⟩ ?_
                    refine Run.slim [(1, v1), (5, u2), (7, .int .i64 s1.1), (8, .int .i64 s1.2.1), (10, u7), (13, u9), (91, .bool true)] ⟨rfl, rfl, rfl, rfl, rfl, rfl, rfl, trivial⟩ ?_
                    exact hj3 (true) _ _ ⟨rfl, (h23.facts (.atm (.s (.s (.s (.s .z)))) .nil)).picks (.cons (.s (.s .z)) (.cons (.s .z) (.cons .z .nil)))⟩ hF
                  ·
                    refine RunL.op (OpS.fbox (o3 := 0) h23 .z PA.z fa51_0 rfl rfl rfl rfl ?_)
                    refine RunL.op (OpS.loadBi h23 .z PA.a (Get.fld Message_.f0) ty5 rfl rfl rfl ?_)
                    refine RunL.op (OpS.mv rfl rfl rfl ?_)
                    refine RunL.op (OpS.bin rfl rfl rfl rfl rfl ?_)
                    refine RunL.op (OpS.pick rfl rfl rfl rfl ?_)
                    refine RunL.op (OpS.mv rfl rfl rfl ?_)
                    refine RunL.caseb hF (fun e21 hF => ?_) (fun e21 hF => ?_)
                    ·
                      refine RunL.op (OpS.pass rfl rfl rfl ?_)
                      refine RunL.op (OpS.pass rfl rfl rfl ?_)
                      refine RunL.op (OpS.pass rfl rfl rfl ?_)
                      refine RunL.op (OpS.pick rfl rfl rfl rfl ?_)
                      refine RunL.op (OpS.mv rfl rfl rfl ?_)
                      refine RunL.op (OpS.pass rfl rfl rfl ?_)
                      refine RunL.op (OpS.pass rfl rfl rfl ?_)
                      refine RunL.op (OpS.pass rfl rfl rfl ?_)
                      refine RunL.op (OpS.pass rfl rfl rfl ?_)
                      refine RunL.op (OpS.pass rfl rfl rfl ?_)
                      refine RunL.op (OpS.pass rfl rfl rfl ?_)
                      refine RunL.op (OpS.pick rfl rfl rfl rfl ?_)
                      refine RunL.nil ?_
                      refine Run.slim [(91, .bool true), (13, u9), (10, u7), (1, v1), (5, u2), (7, .int .i64 s1.1), (8, .int .i64 s1.2.1)] ⟨rfl, rfl, rfl, rfl, rfl, rfl, rfl, trivial⟩ ?_
                      refine Run.slim [(1, v1), (5, u2), (7, .int .i64 s1.1), (8, .int .i64 s1.2.1), (10, u7), (13, u9), (91, .bool true)] ⟨rfl, rfl, rfl, rfl, rfl, rfl, rfl, trivial⟩ ?_
                      exact hj3 (true) _ _ ⟨rfl, (h23.facts (.atm (.s (.s (.s (.s .z)))) .nil)).picks (.cons (.s (.s .z)) (.cons (.s .z) (.cons .z .nil)))⟩ hF
                    ·
                      refine RunL.op (OpS.fbox (o3 := 1) h23 .z PA.z fa51_1 rfl rfl rfl rfl ?_)
                      refine RunL.op (OpS.loadBi h23 .z PA.a (Get.fld Message_.f1) ty5 rfl rfl rfl ?_)
                      refine RunL.op (OpS.bin rfl rfl rfl rfl rfl ?_)
                      refine RunL.op (OpS.pick rfl rfl rfl rfl ?_)
                      refine RunL.op (OpS.mv rfl rfl rfl ?_)
                      refine RunL.caseb hF (fun e22 hF => ?_) (fun e22 hF => ?_)
                      ·
                        refine RunL.op (OpS.pass rfl rfl rfl ?_)
                        refine RunL.op (OpS.pass rfl rfl rfl ?_)
                        refine RunL.op (OpS.pass rfl rfl rfl ?_)
                        refine RunL.op (OpS.pass rfl rfl rfl ?_)
                        refine RunL.op (OpS.pass rfl rfl rfl ?_)
                        refine RunL.op (OpS.pass rfl rfl rfl ?_)
                        refine RunL.op (OpS.pick rfl rfl rfl rfl ?_)
                        refine RunL.nil ?_
                        refine Run.slim [(91, .bool true), (13, u9), (10, u7), (1, v1), (5, u2), (7, .int .i64 s1.1), (8, .int .i64 s1.2.1)] ⟨rfl, rfl, rfl, rfl, rfl, rfl, rfl, trivial⟩ ?_
                        refine Run.slim [(1, v1), (5, u2), (7, .int .i64 s1.1), (8, .int .i64 s1.2.1), (10, u7), (13, u9), (91, .bool true)] ⟨rfl, rfl, rfl, rfl, rfl, rfl, rfl, trivial⟩ ?_
                        exact hj3 (true) _ _ ⟨rfl, (h23.facts (.atm (.s (.s (.s (.s .z)))) .nil)).picks (.cons (.s (.s .z)) (.cons (.s .z) (.cons .z .nil)))⟩ hF
                      ·
                        refine RunL.op (OpS.fbox (o3 := 1) h23 (.s .z) PA.z fa26_1 rfl rfl rfl rfl ?_)
                        refine RunL.op (OpS.loadBi h23 (.s .z) PA.a (Get.fld Requester_.f1) ty3 rfl rfl rfl ?_)
                        refine RunL.op (OpS.mv rfl rfl rfl ?_)
                        refine RunL.op (OpS.bin rfl rfl rfl rfl rfl ?_)
                        refine RunL.op (OpS.rem rfl rfl rfl rfl (by decide) ?_)
                        refine RunL.op (OpS.bin rfl rfl rfl rfl rfl ?_)
                        refine RunL.op (OpS.pick rfl rfl rfl rfl ?_)
                        refine RunL.nil ?_
                        refine Run.slim [(91, .bool (y3.1.Next != (Int.tmod (IntKind.i64.wrap (s1.1 + 1)) 64))), (13, u9), (10, u7), (1, v1), (5, u2), (7, .int .i64 s1.1), (8, .int .i64 s1.2.1)] ⟨rfl, rfl, rfl, rfl, rfl, rfl, rfl, trivial⟩ ?_
                        refine Run.slim [(1, v1), (5, u2), (7, .int .i64 s1.1), (8, .int .i64 s1.2.1), (10, u7), (13, u9), (91, .bool (y3.1.Next != (Int.tmod (IntKind.i64.wrap (s1.1 + 1)) 64)))] ⟨rfl, rfl, rfl, rfl, rfl, rfl, rfl, trivial⟩ ?_
                        exact hj3 (y3.1.Next != (Int.tmod (IntKind.i64.wrap (s1.1 + 1)) 64)) _ _ ⟨rfl, (h23.facts (.atm (.s (.s (.s (.s .z)))) .nil)).picks (.cons (.s (.s .z)) (.cons (.s .z) (.cons .z .nil)))⟩ hF
          ·
            refine Run.ite rfl hF (fun e23 hF => ?_) (fun e23 hF => ?_)
            ·
              refine Run.reg ?_
              refine RunL.op (OpS.as rfl rfl rfl ?_)
              refine RunL.nil ?_
              refine Run.slim [(9, .int .u8 65), (1, v1), (5, u2), (7, .int .i64 s1.1), (8, .int .i64 s1.2.1)] ⟨rfl, rfl, rfl, rfl, rfl, trivial⟩ ?_
              refine Run.slim [(1, v1), (5, u2), (7, .int .i64 s1.1), (8, .int .i64 s1.2.1), (9, .int .u8 65)] ⟨rfl, rfl, rfl, rfl, rfl, trivial⟩ ?_
              exact hj2 (65) _ _ ⟨rfl, (h11.facts (.atm (.s .z) .nil)).picks (.cons .z .nil)⟩ hF
            ·
              refine Run.skip ?_
              refine Run.slim [(1, v1), (5, u2), (7, .int .i64 s1.1), (8, .int .i64 s1.2.1), (9, .int .u8 64)] ⟨rfl, rfl, rfl, rfl, rfl, trivial⟩ ?_
              exact hj2 (64) _ _ ⟨rfl, (h11.facts (.atm (.s .z) .nil)).picks (.cons .z .nil)⟩ hF
        ·
          refine Run.exit rfl ?_
          refine Run.seq ?_
          refine Run.reg ?_
          refine RunL.op (OpS.as rfl rfl rfl ?_)
          refine RunL.nil ?_
          refine Run.slim [(4, .bool true)] ⟨rfl, trivial⟩ ?_
          refine Run.retP rfl (.tmp rfl .nil) ?_
          cases hF
          exact Post.mk' ⟨rfl, rfl, rfl, rfl⟩ (h10.picks .nil) .nil
      ·
        refine RunL.caseb hF (fun e24 hF => ?_) (fun e24 hF => ?_)
        ·
          refine RunL.op (OpS.mv rfl rfl rfl ?_)
          refine RunL.op (OpS.bin rfl rfl rfl rfl rfl ?_)
          refine RunL.op (OpS.pick rfl rfl rfl rfl ?_)
          refine RunL.nil ?_
          refine Run.slim [(44, .bool (decide (s1.2.1 < 200))), (1, v1), (5, u2), (7, .int .i64 s1.1), (8, .int .i64 s1.2.1)] ⟨rfl, rfl, rfl, rfl, rfl, trivial⟩ ?_
          refine Run.slim [(1, v1), (5, u2), (7, .int .i64 s1.1), (8, .int .i64 s1.2.1), (44, .bool (decide (s1.2.1 < 200)))] ⟨rfl, rfl, rfl, rfl, rfl, trivial⟩ ?_
          exact hj1 (decide (s1.2.1 < 200)) _ _ ⟨rfl, (h9.facts (.atm .z .nil)).picks (.cons .z .nil)⟩ hF
        ·
          refine RunL.op (OpS.pass rfl rfl rfl ?_)
          refine RunL.op (OpS.pass rfl rfl rfl ?_)
          refine RunL.op (OpS.pick rfl rfl rfl rfl ?_)
          refine RunL.nil ?_
          refine Run.slim [(44, .bool false), (1, v1), (5, u2), (7, .int .i64 s1.1), (8, .int .i64 s1.2.1)] ⟨rfl, rfl, rfl, rfl, rfl, trivial⟩ ?_
          refine Run.slim [(1, v1), (5, u2), (7, .int .i64 s1.1), (8, .int .i64 s1.2.1), (44, .bool false)] ⟨rfl, rfl, rfl, rfl, rfl, trivial⟩ ?_
          exact hj1 (false) _ _ ⟨rfl, (h9.facts (.atm .z .nil)).picks (.cons .z .nil)⟩ hF
end Lift
