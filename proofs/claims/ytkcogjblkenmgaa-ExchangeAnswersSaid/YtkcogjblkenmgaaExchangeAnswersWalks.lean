/- Each Go function computes its plain function. Written by lift.py. -/
import Derived.Test.YtkcogjblkenmgaaExchangeAnswersWalksC
set_option linter.unusedVariables false
set_option linter.unusedSimpArgs false
namespace Lift
open Go Go.Proofs
set_option maxHeartbeats 8000000 in
theorem message_parse_ok {fuel : Nat} {a0 : List Int} {a1 : Int} {y : Message_ × Int} (hF : message_parse fuel a0 a1 = some y) {w : World} {v0 : Value} :
    Spec Try.prog 53 [v0, .int .i64 a1].toArray w [(false, .val (Rep.slice (Rep.int .u8)) v0 a0)] [] (fun v Γr Ωr Ωo => ∃ u0 : Value, v = .tuple #[u0, .int .i64 y.2] ∧ Γr = [(true, .val Message_.rep u0 y.1)] ∧ Ωr = [] ∧ Ωo = []) := by
  refine Spec.of (L := [(0, v0), (1, .int .i64 a1)]) Try.func53 rfl ⟨rfl, rfl, trivial⟩ rfl (fun e h => ?_)
  unfold message_parse at hF
  refine Run.seq ?_
  refine Run.reg ?_
  refine RunL.op (OpS.alloc h ti51 Message_.zr rfl rfl (fun u1 w1 h1 => ?_))
  refine RunL.op (OpS.as rfl rfl rfl ?_)
  refine RunL.nil ?_
  refine Run.slim [(4, u1), (0, v0), (1, .int .i64 a1)] ⟨rfl, rfl, rfl, trivial⟩ ?_
  refine Run.seq ?_
  refine Run.seq ?_
  refine Run.reg ?_
  refine RunL.op (OpS.mv rfl rfl rfl ?_)
  obtain ⟨x1, e1, hF⟩ := bindP_use hF
  refine RunL.op (OpS.sub h1 Try.underlying22 ty5 rfl rfl rfl rfl rfl (V.at .z) e1 (fun u2 h2 => ?_))
  obtain ⟨y1, e2, hF⟩ := bindP_use hF
  refine RunL.op (OpS.callP h2 Try.func61 rfl rfl rfl rfl (vs := [u2]) rfl (checksum_Sum8_ok e2) (.cons (f := false) (V.at .z) .nil) ?_)
  rintro _ w2 _ _ _ ⟨rfl, rfl, rfl, rfl⟩ h3
  have h4 := h3 rfl rfl
  simp only [List.cons_append, List.nil_append] at h4
  refine RunL.op (OpS.bin rfl rfl rfl rfl rfl ?_)
  refine RunL.op (OpS.mv rfl rfl rfl ?_)
  refine RunL.join (σ := Bool) (fun s_ L_ w_ => L_ = [(0, v0), (1, .int .i64 a1), (4, u1), (16, .bool s_)] ∧ St e w_ [(false, .val (Rep.slice (Rep.int .u8)) v0 a0)] [(true, .box 51 Message_.rep u1 Message_.z)]) hF (fun s1 _ w3 hI hF => ?_) (fun j1 hj1 hF => ?_)
  ·
    obtain ⟨rfl, h5⟩ := hI
    refine Run.ite rfl hF (fun e3 hF => ?_) (fun e3 hF => ?_)
    ·
      refine Run.seq ?_
      refine Run.reg ?_
      refine RunL.op (OpS.build (f := true) (x' := Message_.z) h5 pl51 ti51 Message_.zr rfl rfl rfl .nil (fun u3 h6 => ?_))
      refine RunL.op (OpS.storeB (f' := true) h6 .z PA.z Put.id ty51 rfl rfl rfl (V.at .z) (.inl rfl) (fun w4 h7 => ?_))
      refine RunL.op (OpS.as rfl rfl rfl ?_)
      refine RunL.nil ?_
      refine Run.slim [(5, .int .i64 5), (4, u1)] ⟨rfl, rfl, trivial⟩ ?_
      obtain ⟨u4, hu1, h8⟩ := res_box h7 .z ty51
      refine Run.retP rfl (.cell rfl hu1 (.tmp rfl .nil)) ?_
      cases hF
      exact Post.mk' ⟨u4, rfl, rfl, rfl, rfl⟩ (h8.picks .nil) (.val (V.at .z) .nil)
    ·
      refine Run.skip ?_
      refine Run.seq ?_
      obtain ⟨x2, e4, hF⟩ := bindP_use hF
      obtain ⟨x3, e5, hF⟩ := bindP_use hF
      obtain ⟨x4, e6, hF⟩ := bindP_use hF
      obtain ⟨x5, e7, hF⟩ := bindP_use hF
      obtain ⟨x6, e8, hF⟩ := bindP_use hF
      obtain ⟨x7, e9, hF⟩ := bindP_use hF
      obtain ⟨x8, e10, hF⟩ := bindP_use hF
      obtain ⟨x9, e11, hF⟩ := bindP_use hF
      obtain ⟨y2, e12, hF⟩ := bindP_use hF
      refine Run.drawV (Ωs := [(true, .box 51 Message_.rep u1 Message_.z)]) [⟨some 18, some (v0), fun _ => [], fun ds_ u_ => [], [], [], none⟩, ⟨some 19, none, fun u_ => [(false, .ptr (Rep.int .u8) u_ x2)], fun ds_ u_ => [], [], [], none⟩, ⟨some 20, some (.int .u8 x2), fun _ => [], fun ds_ u_ => [], [], [], none⟩, ⟨some 21, some (.int .u8 (IntKind.u8.wrap (Int.tdiv x2 2))), fun _ => [], fun ds_ u_ => [], [], [], none⟩, ⟨some 22, some (v0), fun _ => [], fun ds_ u_ => [], [], [], none⟩, ⟨some 23, none, fun u_ => [(false, .ptr (Rep.int .u8) u_ x3)], fun ds_ u_ => [], [], [], none⟩, ⟨some 24, some (.int .u8 x3), fun _ => [], fun ds_ u_ => [], [], [], none⟩, ⟨some 25, some (.int .u8 (IntKind.u8.wrap (Int.tdiv x3 2))), fun _ => [], fun ds_ u_ => [], [], [], none⟩, ⟨some 26, some (v0), fun _ => [], fun ds_ u_ => [], [], [], none⟩, ⟨some 27, none, fun u_ => [(false, .ptr (Rep.int .u8) u_ x4)], fun ds_ u_ => [], [], [], none⟩, ⟨some 28, some (.int .u8 x4), fun _ => [], fun ds_ u_ => [], [], [], none⟩, ⟨some 29, some (.int .u8 (IntKind.u8.wrap (Int.tdiv x4 4))), fun _ => [], fun ds_ u_ => [], [], [], none⟩, ⟨some 30, some (v0), fun _ => [], fun ds_ u_ => [], [], [], none⟩, ⟨some 31, none, fun u_ => [(false, .ptr (Rep.int .u8) u_ x5)], fun ds_ u_ => [], [], [], none⟩, ⟨some 32, some (.int .u8 x5), fun _ => [], fun ds_ u_ => [], [], [], none⟩, ⟨some 33, some (v0), fun _ => [], fun ds_ u_ => [], [], [], none⟩, ⟨some 34, none, fun u_ => [(false, .ptr (Rep.int .u8) u_ x6)], fun ds_ u_ => [], [], [], none⟩, ⟨some 35, some (.int .u8 x6), fun _ => [], fun ds_ u_ => [], [], [], none⟩, ⟨some 36, some (.int .u8 (Int.tmod x6 4)), fun _ => [], fun ds_ u_ => [], [], [], none⟩, ⟨some 37, some (.int .i64 (IntKind.i64.wrap (Int.tmod x6 4))), fun _ => [], fun ds_ u_ => [], [], [], none⟩, ⟨some 38, some (v0), fun _ => [], fun ds_ u_ => [], [], [], none⟩, ⟨some 39, none, fun u_ => [(false, .ptr (Rep.int .u8) u_ x7)], fun ds_ u_ => [], [], [], none⟩, ⟨some 40, some (.int .u8 x7), fun _ => [], fun ds_ u_ => [], [], [], none⟩, ⟨some 41, some (.int .u8 (Int.tmod x7 4)), fun _ => [], fun ds_ u_ => [], [], [], none⟩, ⟨some 42, some (.int .i64 (IntKind.i64.wrap (Int.tmod x7 4))), fun _ => [], fun ds_ u_ => [], [], [], none⟩, ⟨some 43, some (v0), fun _ => [], fun ds_ u_ => [], [], [], none⟩, ⟨some 44, none, fun u_ => [(false, .ptr (Rep.int .u8) u_ x8)], fun ds_ u_ => [], [], [], none⟩, ⟨some 45, some (.int .u8 x8), fun _ => [], fun ds_ u_ => [], [], [], none⟩, ⟨some 46, some (.int .u8 (IntKind.u8.wrap (Int.tdiv x8 4))), fun _ => [], fun ds_ u_ => [], [], [], none⟩, ⟨some 47, some (.int .i64 (IntKind.i64.wrap (IntKind.u8.wrap (Int.tdiv x8 4)))), fun _ => [], fun ds_ u_ => [], [], [], none⟩, ⟨some 48, some (v0), fun _ => [], fun ds_ u_ => [], [], [], none⟩, ⟨some 49, some (.int .i64 a1), fun _ => [], fun ds_ u_ => [], [], [], none⟩, ⟨some 50, some (v0), fun _ => [], fun ds_ u_ => [], [], [], none⟩, ⟨some 51, some (.int .i64 (a0.length : Int)), fun _ => [], fun ds_ u_ => [], [], [], none⟩, ⟨some 52, some (.int .i64 (IntKind.i64.wrap ((a0.length : Int) - 1))), fun _ => [], fun ds_ u_ => [], [], [], none⟩, ⟨some 53, none, fun u_ => [(false, .val (Rep.slice (Rep.int .u8)) u_ x9)], fun ds_ u_ => [], [], [], none⟩, ⟨some 54, none, fun u_ => [(true, .val (Rep.slice (Rep.int .u8)) u_ y2)], fun ds_ u_ => [], [], [], none⟩, ⟨some 55, none, fun u_ => [(true, .val Message_.rep u_ (⟨(IntKind.u8.wrap (Int.tdiv x2 2)), (IntKind.u8.wrap (Int.tdiv x3 2)), (IntKind.u8.wrap (Int.tdiv x4 4)), x5, (IntKind.i64.wrap (Int.tmod x6 4)), (IntKind.i64.wrap (Int.tmod x7 4)), (IntKind.i64.wrap (IntKind.u8.wrap (Int.tdiv x8 4))), 0, y2⟩ : Message_))], fun ds_ u_ => [], [], [], none⟩, ⟨some 6, none, fun u_ => [], fun ds_ u_ => [(true, .box 51 Message_.rep u_ Message_.z)], [], [], none⟩] [[], [0], [1], [2], [], [4], [5], [6], [], [8], [9], [10], [], [12], [13], [], [15], [16], [17], [18], [], [20], [21], [22], [23], [], [25], [26], [27], [28], [], [], [], [32], [33], [30, 31, 34], [35], [3, 7, 11, 14, 19, 24, 29, 36], []] [] [0, 1, 2, 3, 4, 5, 6, 7, 8, 9, 10, 11, 12, 13, 14, 15, 16, 17, 18, 19, 20, 21, 22, 23, 24, 25, 26, 27, 28, 29, 30, 31, 32, 33, 34, 35, 36, 37, 38] Try_mixed rfl rfl rfl h5 (.cons ?_ (.cons ?_ (.cons ?_ (.cons ?_ (.cons ?_ (.cons ?_ (.cons ?_ (.cons ?_ (.cons ?_ (.cons ?_ (.cons ?_ (.cons ?_ (.cons ?_ (.cons ?_ (.cons ?_ (.cons ?_ (.cons ?_ (.cons ?_ (.cons ?_ (.cons ?_ (.cons ?_ (.cons ?_ (.cons ?_ (.cons ?_ (.cons ?_ (.cons ?_ (.cons ?_ (.cons ?_ (.cons ?_ (.cons ?_ (.cons ?_ (.cons ?_ (.cons ?_ (.cons ?_ (.cons ?_ (.cons ?_ (.cons ?_ (.cons ?_ (.cons ?_ .nil))))))))))))))))))))))))))))))))))))))) (fun q1 w hq1 h => ?_)
      · intro q1 w Γx Ωx h
        refine OpS.mv rfl rfl rfl ?_
        exact ⟨undef, rfl, trivial, h⟩
      · intro q1 w Γx Ωx h
        refine OpS.iptr h Try.underlying22 ty5 rfl rfl rfl rfl (V.at .z) e4 (fun u h22 => ?_)
        exact ⟨u, rfl, trivial, h22⟩
      · intro q1 w Γx Ωx h
        refine OpS.loadi h ty5 rfl rfl rfl .z ?_
        exact ⟨undef, rfl, trivial, h⟩
      · intro q1 w Γx Ωx h
        refine OpS.quo rfl rfl rfl rfl (by decide) ?_
        exact ⟨undef, rfl, trivial, h⟩
      · intro q1 w Γx Ωx h
        refine OpS.mv rfl rfl rfl ?_
        exact ⟨undef, rfl, trivial, h⟩
      · intro q1 w Γx Ωx h
        refine OpS.iptr h Try.underlying22 ty5 rfl rfl rfl rfl (V.at .z) e5 (fun u h23 => ?_)
        exact ⟨u, rfl, trivial, h23⟩
      · intro q1 w Γx Ωx h
        refine OpS.loadi h ty5 rfl rfl rfl .z ?_
        exact ⟨undef, rfl, trivial, h⟩
      · intro q1 w Γx Ωx h
        refine OpS.quo rfl rfl rfl rfl (by decide) ?_
        exact ⟨undef, rfl, trivial, h⟩
      · intro q1 w Γx Ωx h
        refine OpS.mv rfl rfl rfl ?_
        exact ⟨undef, rfl, trivial, h⟩
      · intro q1 w Γx Ωx h
        refine OpS.iptr h Try.underlying22 ty5 rfl rfl rfl rfl (V.at .z) e6 (fun u h24 => ?_)
        exact ⟨u, rfl, trivial, h24⟩
      · intro q1 w Γx Ωx h
        refine OpS.loadi h ty5 rfl rfl rfl .z ?_
        exact ⟨undef, rfl, trivial, h⟩
      · intro q1 w Γx Ωx h
        refine OpS.quo rfl rfl rfl rfl (by decide) ?_
        exact ⟨undef, rfl, trivial, h⟩
      · intro q1 w Γx Ωx h
        refine OpS.mv rfl rfl rfl ?_
        exact ⟨undef, rfl, trivial, h⟩
      · intro q1 w Γx Ωx h
        refine OpS.iptr h Try.underlying22 ty5 rfl rfl rfl rfl (V.at .z) e7 (fun u h25 => ?_)
        exact ⟨u, rfl, trivial, h25⟩
      · intro q1 w Γx Ωx h
        refine OpS.loadi h ty5 rfl rfl rfl .z ?_
        exact ⟨undef, rfl, trivial, h⟩
      · intro q1 w Γx Ωx h
        refine OpS.mv rfl rfl rfl ?_
        exact ⟨undef, rfl, trivial, h⟩
      · intro q1 w Γx Ωx h
        refine OpS.iptr h Try.underlying22 ty5 rfl rfl rfl rfl (V.at .z) e8 (fun u h26 => ?_)
        exact ⟨u, rfl, trivial, h26⟩
      · intro q1 w Γx Ωx h
        refine OpS.loadi h ty5 rfl rfl rfl .z ?_
        exact ⟨undef, rfl, trivial, h⟩
      · intro q1 w Γx Ωx h
        refine OpS.rem rfl rfl rfl rfl (by decide) ?_
        exact ⟨undef, rfl, trivial, h⟩
      · intro q1 w Γx Ωx h
        refine OpS.conv Try.underlying5 Try.underlying3 rfl rfl rfl ?_
        exact ⟨undef, rfl, trivial, h⟩
      · intro q1 w Γx Ωx h
        refine OpS.mv rfl rfl rfl ?_
        exact ⟨undef, rfl, trivial, h⟩
      · intro q1 w Γx Ωx h
        refine OpS.iptr h Try.underlying22 ty5 rfl rfl rfl rfl (V.at .z) e9 (fun u h27 => ?_)
        exact ⟨u, rfl, trivial, h27⟩
      · intro q1 w Γx Ωx h
        refine OpS.loadi h ty5 rfl rfl rfl .z ?_
        exact ⟨undef, rfl, trivial, h⟩
      · intro q1 w Γx Ωx h
        refine OpS.rem rfl rfl rfl rfl (by decide) ?_
        exact ⟨undef, rfl, trivial, h⟩
      · intro q1 w Γx Ωx h
        refine OpS.conv Try.underlying5 Try.underlying3 rfl rfl rfl ?_
        exact ⟨undef, rfl, trivial, h⟩
      · intro q1 w Γx Ωx h
        refine OpS.mv rfl rfl rfl ?_
        exact ⟨undef, rfl, trivial, h⟩
      · intro q1 w Γx Ωx h
        refine OpS.iptr h Try.underlying22 ty5 rfl rfl rfl rfl (V.at .z) e10 (fun u h28 => ?_)
        exact ⟨u, rfl, trivial, h28⟩
      · intro q1 w Γx Ωx h
        refine OpS.loadi h ty5 rfl rfl rfl .z ?_
        exact ⟨undef, rfl, trivial, h⟩
      · intro q1 w Γx Ωx h
        refine OpS.quo rfl rfl rfl rfl (by decide) ?_
        exact ⟨undef, rfl, trivial, h⟩
      · intro q1 w Γx Ωx h
        refine OpS.conv Try.underlying5 Try.underlying3 rfl rfl rfl ?_
        exact ⟨undef, rfl, trivial, h⟩
      · intro q1 w Γx Ωx h
        refine OpS.mv rfl rfl rfl ?_
        exact ⟨undef, rfl, trivial, h⟩
      · intro q1 w Γx Ωx h
        refine OpS.mv rfl rfl rfl ?_
        exact ⟨undef, rfl, trivial, h⟩
      · intro q1 w Γx Ωx h
        refine OpS.mv rfl rfl rfl ?_
        exact ⟨undef, rfl, trivial, h⟩
      · intro q1 w Γx Ωx h
        refine OpS.len h Try.underlying22 rfl rfl rfl (V.at .z) ?_
        exact ⟨undef, rfl, trivial, h⟩
      · intro q1 w Γx Ωx h
        refine OpS.bin rfl rfl rfl rfl rfl ?_
        exact ⟨undef, rfl, trivial, h⟩
      · intro q1 w Γx Ωx h
        refine OpS.sub h Try.underlying22 ty5 rfl rfl rfl rfl rfl (V.at .z) e11 (fun u h29 => ?_)
        exact ⟨u, rfl, trivial, h29⟩
      · intro q1 w Γx Ωx h
        refine OpS.callP h Try.func51 rfl rfl rfl rfl (vs := [(q1 35)]) rfl (slices_Clone_byte_byte_ok e12) (.cons (f := false) (V.at .z) .nil) ?_
        rintro u w7 _ _ _ ⟨_, rfl, rfl, rfl, rfl⟩ h30
        have h31 := h30 rfl rfl
        simp only [List.cons_append, List.nil_append] at h31
        have h32 := h31.freeze
        exact ⟨u, rfl, trivial, h32⟩
      · intro q1 w Γx Ωx h
        refine OpS.build (f := true) (x' := (⟨(IntKind.u8.wrap (Int.tdiv x2 2)), (IntKind.u8.wrap (Int.tdiv x3 2)), (IntKind.u8.wrap (Int.tdiv x4 4)), x5, (IntKind.i64.wrap (Int.tmod x6 4)), (IntKind.i64.wrap (Int.tmod x7 4)), (IntKind.i64.wrap (IntKind.u8.wrap (Int.tdiv x8 4))), 0, y2⟩ : Message_)) h pl51 ti51 Message_.zr rfl rfl rfl (.cons rfl Message_.f0 rfl V.int (.cons rfl Message_.f1 rfl V.int (.cons rfl Message_.f2 rfl V.int (.cons rfl Message_.f3 rfl V.int (.cons rfl Message_.f4 rfl V.int (.cons rfl Message_.f5 rfl V.int (.cons rfl Message_.f6 rfl V.int (.cons rfl Message_.f8 rfl (V.at .z) .nil)))))))) (fun u h33 => ?_)
        exact ⟨u, rfl, trivial, h33⟩
      · intro q1 w Γx Ωx h
        refine OpS.alloc h ti51 Message_.zr rfl rfl (fun u w8 h34 => ?_)
        exact ⟨u, rfl, trivial, h34⟩
      have h35 : St e w [(false, .ptr (Rep.int .u8) (q1 1) x2), (false, .ptr (Rep.int .u8) (q1 5) x3), (false, .ptr (Rep.int .u8) (q1 9) x4), (false, .ptr (Rep.int .u8) (q1 13) x5), (false, .ptr (Rep.int .u8) (q1 16) x6), (false, .ptr (Rep.int .u8) (q1 21) x7), (false, .ptr (Rep.int .u8) (q1 26) x8), (false, .val (Rep.slice (Rep.int .u8)) (q1 35) x9), (true, .val (Rep.slice (Rep.int .u8)) (q1 36) y2), (true, .val Message_.rep (q1 37) (⟨(IntKind.u8.wrap (Int.tdiv x2 2)), (IntKind.u8.wrap (Int.tdiv x3 2)), (IntKind.u8.wrap (Int.tdiv x4 4)), x5, (IntKind.i64.wrap (Int.tmod x6 4)), (IntKind.i64.wrap (Int.tmod x7 4)), (IntKind.i64.wrap (IntKind.u8.wrap (Int.tdiv x8 4))), 0, y2⟩ : Message_)), (false, .val (Rep.slice (Rep.int .u8)) v0 a0)] [(true, .box 51 Message_.rep (q1 38) Message_.z), (true, .box 51 Message_.rep u1 Message_.z)] := h
      refine RunL.op (OpS.storeB (f' := true) h35 .z PA.z Put.id ty51 rfl rfl rfl (V.at (.s (.s (.s (.s (.s (.s (.s (.s (.s .z)))))))))) (.inl rfl) (fun w9 h36 => ?_))
      refine RunL.nil ?_
      refine Run.slim [(6, (q1 38)), (0, v0), (1, .int .i64 a1), (4, u1)] ⟨rfl, rfl, rfl, rfl, trivial⟩ ?_
      refine Run.seq ?_
      refine Run.seq ?_
      refine Run.reg ?_
      refine RunL.op (OpS.mv rfl rfl rfl ?_)
      refine RunL.op (OpS.bin rfl rfl rfl rfl rfl ?_)
      refine RunL.nil ?_
      refine Run.slim [(57, .bool (a1 == 7)), (6, (q1 38)), (0, v0), (1, .int .i64 a1), (4, u1)] ⟨rfl, rfl, rfl, rfl, rfl, trivial⟩ ?_
      refine Run.join (σ := Message_) (fun s_ L_ w_ => L_ = [(0, v0), (1, .int .i64 a1), (4, u1), (6, (q1 38))] ∧ St e w_ [(false, .val (Rep.slice (Rep.int .u8)) v0 a0)] [(true, .box 51 Message_.rep u1 Message_.z), (true, .box 51 Message_.rep (q1 38) s_)]) hF (fun s2 _ w10 hI hF => ?_) (fun j2 hj2 hF => ?_)
      ·
        obtain ⟨rfl, h37⟩ := hI
        refine Run.seq ?_
        refine Run.block ?_
        refine Run.seq ?_
        refine Run.reg ?_
        refine RunL.op (OpS.mv rfl rfl rfl ?_)
        obtain ⟨x10, e13, hF⟩ := bindP_use hF
        refine RunL.op (OpS.iptr h37 Try.underlying22 ty5 rfl rfl rfl rfl (V.at .z) e13 (fun u5 h38 => ?_))
        refine RunL.op (OpS.loadi h38 ty5 rfl rfl rfl .z ?_)
        refine RunL.op (OpS.rem rfl rfl rfl rfl (by decide) ?_)
        refine RunL.op (OpS.bin rfl rfl rfl rfl rfl ?_)
        refine RunL.op (OpS.mv rfl rfl rfl ?_)
        refine RunL.join (σ := Bool) (fun s_ L_ w_ => L_ = [(4, u1), (6, (q1 38)), (64, .bool s_)] ∧ St e w_ [] [(true, .box 51 Message_.rep u1 Message_.z), (true, .box 51 Message_.rep (q1 38) s2)]) hF (fun s3 _ w11 hI hF => ?_) (fun j3 hj3 hF => ?_)
        ·
          obtain ⟨rfl, h39⟩ := hI
          refine Run.ite rfl hF (fun e14 hF => ?_) (fun e14 hF => ?_)
          ·
            refine Run.seq ?_
            refine Run.reg ?_
            refine RunL.op (OpS.build (f := true) (x' := Message_.z) h39 pl51 ti51 Message_.zr rfl rfl rfl .nil (fun u6 h40 => ?_))
            refine RunL.op (OpS.storeB (f' := true) h40 .z PA.z Put.id ty51 rfl rfl rfl (V.at .z) (.inl rfl) (fun w12 h41 => ?_))
            refine RunL.op (OpS.as rfl rfl rfl ?_)
            refine RunL.nil ?_
            refine Run.slim [(5, .int .i64 6), (4, u1)] ⟨rfl, rfl, trivial⟩ ?_
            obtain ⟨u7, hu2, h42⟩ := res_box h41 .z ty51
            refine Run.retP rfl (.cell rfl hu2 (.tmp rfl .nil)) ?_
            cases hF
            exact Post.mk' ⟨u7, rfl, rfl, rfl, rfl⟩ (h42.picks .nil) (.val (V.at .z) .nil)
          ·
            refine Run.seq ?_
            refine Run.reg ?_
            refine RunL.op (OpS.fbox (o3 := 0) h39 (.s .z) PA.z fa51_0 rfl rfl rfl rfl ?_)
            refine RunL.op (OpS.loadBi h39 (.s .z) PA.a (Get.fld Message_.f0) ty5 rfl rfl rfl ?_)
            obtain ⟨y3, e15, hF⟩ := bindP_use hF
            refine RunL.op (OpS.callP h39 Try.func58 rfl rfl rfl rfl (vs := [.int .u8 s2.To]) rfl (message_address_ok e15) .nil ?_)
            rintro _ w13 _ _ _ ⟨rfl, rfl, rfl, rfl⟩ h43
            have h44 := h43 rfl rfl
            simp only [List.cons_append, List.nil_append] at h44
            refine RunL.op (OpS.not rfl rfl rfl ?_)
            refine RunL.op (OpS.mv rfl rfl rfl ?_)
            refine RunL.join (σ := Bool) (fun s_ L_ w_ => L_ = [(4, u1), (6, (q1 38)), (85, .bool s_)] ∧ St e w_ [] [(true, .box 51 Message_.rep u1 Message_.z), (true, .box 51 Message_.rep (q1 38) s2)]) hF (fun s4 _ w14 hI hF => ?_) (fun j4 hj4 hF => ?_)
            ·
              obtain ⟨rfl, h45⟩ := hI
              refine Run.ite rfl hF (fun e16 hF => ?_) (fun e16 hF => ?_)
              ·
                refine Run.seq ?_
                refine Run.reg ?_
                refine RunL.op (OpS.build (f := true) (x' := Message_.z) h45 pl51 ti51 Message_.zr rfl rfl rfl .nil (fun u8 h46 => ?_))
                refine RunL.op (OpS.storeB (f' := true) h46 .z PA.z Put.id ty51 rfl rfl rfl (V.at .z) (.inl rfl) (fun w15 h47 => ?_))
                refine RunL.op (OpS.as rfl rfl rfl ?_)
                refine RunL.nil ?_
                refine Run.slim [(5, .int .i64 13), (4, u1)] ⟨rfl, rfl, trivial⟩ ?_
                obtain ⟨u9, hu3, h48⟩ := res_box h47 .z ty51
                refine Run.retP rfl (.cell rfl hu3 (.tmp rfl .nil)) ?_
                cases hF
                exact Post.mk' ⟨u9, rfl, rfl, rfl, rfl⟩ (h48.picks .nil) (.val (V.at .z) .nil)
              ·
                refine Run.seq ?_
                refine Run.reg ?_
                refine RunL.op (OpS.fbox (o3 := 8) h45 (.s .z) PA.z fa51_8 rfl rfl rfl rfl ?_)
                refine RunL.op (OpS.loadB h45 (.s .z) PA.a (Get.fld Message_.f8) ty22 rfl rfl rfl (fun u10 h49 => ?_))
                refine RunL.op (OpS.len h49 Try.underlying22 rfl rfl rfl (V.at .z) ?_)
                refine RunL.op (OpS.bin rfl rfl rfl rfl rfl ?_)
                refine RunL.op (OpS.as rfl rfl rfl ?_)
                obtain ⟨x11, e17, hF⟩ := letP_use hF
                refine RunL.nameb e17 ?_
                refine RunL.nil ?_
                refine Run.slim [(97, .bool x11), (4, u1), (6, (q1 38))] ⟨rfl, rfl, rfl, trivial⟩ ?_
                refine Run.ite rfl hF (fun e18 hF => ?_) (fun e18 hF => ?_)
                ·
                  refine Run.seq ?_
                  refine Run.reg ?_
                  refine RunL.op (OpS.build (f := true) (x' := Message_.z) h49 pl51 ti51 Message_.zr rfl rfl rfl .nil (fun u11 h50 => ?_))
                  refine RunL.op (OpS.storeB (f' := true) h50 .z PA.z Put.id ty51 rfl rfl rfl (V.at .z) (.inl rfl) (fun w16 h51 => ?_))
                  refine RunL.op (OpS.as rfl rfl rfl ?_)
                  refine RunL.nil ?_
                  refine Run.slim [(5, .int .i64 3), (4, u1)] ⟨rfl, rfl, trivial⟩ ?_
                  obtain ⟨u12, hu4, h52⟩ := res_box h51 .z ty51
                  refine Run.retP rfl (.cell rfl hu4 (.tmp rfl .nil)) ?_
                  cases hF
                  exact Post.mk' ⟨u12, rfl, rfl, rfl, rfl⟩ (h52.picks .nil) (.val (V.at .z) .nil)
                ·
                  refine Run.skip ?_
                  refine Run.endBlock ?_
                  refine Run.seq ?_
                  refine Run.reg ?_
                  refine RunL.op (OpS.loadB h49 (.s .z) PA.z Get.id ty51 rfl rfl rfl (fun u13 h53 => ?_))
                  refine RunL.op (OpS.storeB (f' := true) h53 .z PA.z Put.id ty51 rfl rfl rfl (V.at .z) (.inl rfl) (fun w17 h54 => ?_))
                  refine RunL.op (OpS.as rfl rfl rfl ?_)
                  refine RunL.nil ?_
                  refine Run.slim [(5, .int .i64 0), (4, u1)] ⟨rfl, rfl, trivial⟩ ?_
                  obtain ⟨u14, hu5, h55⟩ := res_box h54 .z ty51
                  refine Run.retP rfl (.cell rfl hu5 (.tmp rfl .nil)) ?_
                  cases hF
                  exact Post.mk' ⟨u14, rfl, rfl, rfl, rfl⟩ (h55.picks .nil) (.val (V.at .z) .nil)
            ·
              refine RunL.caseb hF (fun e19 hF => ?_) (fun e19 hF => ?_)
              ·
                refine RunL.op (OpS.pass rfl rfl rfl ?_)
                refine RunL.op (OpS.pass rfl rfl rfl ?_)
                refine RunL.op (OpS.pass rfl rfl rfl ?_)
                refine RunL.op (OpS.pass rfl rfl rfl ?_)
                refine RunL.op (OpS.pick rfl rfl rfl rfl ?_)
                refine RunL.op (OpS.as rfl rfl rfl ?_)
                refine RunL.nil ?_
                refine Run.slim [(85, .bool true), (4, u1), (6, (q1 38))] ⟨rfl, rfl, rfl, trivial⟩ ?_
                refine Run.slim [(4, u1), (6, (q1 38)), (85, .bool true)] ⟨rfl, rfl, rfl, trivial⟩ ?_
                exact hj4 (true) _ _ ⟨rfl, (h44.facts .nil).picks (.cons .z (.cons .z .nil))⟩ hF
              ·
                refine RunL.op (OpS.fbox (o3 := 1) h44 (.s .z) PA.z fa51_1 rfl rfl rfl rfl ?_)
                refine RunL.op (OpS.loadBi h44 (.s .z) PA.a (Get.fld Message_.f1) ty5 rfl rfl rfl ?_)
                obtain ⟨y4, e20, hF⟩ := bindP_use hF
                refine RunL.op (OpS.callP h44 Try.func58 rfl rfl rfl rfl (vs := [.int .u8 s2.From]) rfl (message_address_ok e20) .nil ?_)
                rintro _ w18 _ _ _ ⟨rfl, rfl, rfl, rfl⟩ h56
                have h57 := h56 rfl rfl
                simp only [List.cons_append, List.nil_append] at h57
                refine RunL.op (OpS.not rfl rfl rfl ?_)
                refine RunL.op (OpS.pick rfl rfl rfl rfl ?_)
                refine RunL.op (OpS.as rfl rfl rfl ?_)
                obtain ⟨x12, e21, hF⟩ := letP_use hF
                refine RunL.nameb e21 ?_
                refine RunL.nil ?_
                refine Run.slim [(85, .bool x12), (4, u1), (6, (q1 38))] ⟨rfl, rfl, rfl, trivial⟩ ?_
                refine Run.slim [(4, u1), (6, (q1 38)), (85, .bool x12)] ⟨rfl, rfl, rfl, trivial⟩ ?_
                exact hj4 (x12) _ _ ⟨rfl, (h57.facts .nil).picks (.cons .z (.cons .z .nil))⟩ hF
        ·
          refine RunL.caseb hF (fun e22 hF => ?_) (fun e22 hF => ?_)
          ·
            refine RunL.op (OpS.pass rfl rfl rfl ?_)
            refine RunL.op (OpS.pass rfl rfl rfl ?_)
            refine RunL.op (OpS.pass rfl rfl rfl ?_)
            refine RunL.op (OpS.pass rfl rfl rfl ?_)
            refine RunL.op (OpS.pass rfl rfl rfl ?_)
            refine RunL.op (OpS.pick rfl rfl rfl rfl ?_)
            refine RunL.op (OpS.mv rfl rfl rfl ?_)
            refine RunL.op (OpS.pass rfl rfl rfl ?_)
            refine RunL.op (OpS.pass rfl rfl rfl ?_)
            refine RunL.op (OpS.pass rfl rfl rfl ?_)
            refine RunL.op (OpS.pass rfl rfl rfl ?_)
            refine RunL.op (OpS.pass rfl rfl rfl ?_)
            refine RunL.op (OpS.pick rfl rfl rfl rfl ?_)
            refine RunL.op (OpS.as rfl rfl rfl ?_)
            refine RunL.nil ?_
            refine Run.slim [(64, .bool true), (4, u1), (6, (q1 38))] ⟨rfl, rfl, rfl, trivial⟩ ?_
            refine Run.slim [(4, u1), (6, (q1 38)), (64, .bool true)] ⟨rfl, rfl, rfl, trivial⟩ ?_
            exact hj3 (true) _ _ ⟨rfl, (h38.facts .nil).picks (.cons .z (.cons .z .nil))⟩ hF
          ·
            refine RunL.op (OpS.mv rfl rfl rfl ?_)
            obtain ⟨x13, e23, hF⟩ := bindP_use hF
            refine RunL.op (OpS.iptr h38 Try.underlying22 ty5 rfl rfl rfl rfl (V.at (.s .z)) e23 (fun u15 h58 => ?_))
            refine RunL.op (OpS.loadi h58 ty5 rfl rfl rfl .z ?_)
            refine RunL.op (OpS.rem rfl rfl rfl rfl (by decide) ?_)
            refine RunL.op (OpS.bin rfl rfl rfl rfl rfl ?_)
            refine RunL.op (OpS.pick rfl rfl rfl rfl ?_)
            refine RunL.op (OpS.mv rfl rfl rfl ?_)
            refine RunL.caseb hF (fun e24 hF => ?_) (fun e24 hF => ?_)
            ·
              refine RunL.op (OpS.pass rfl rfl rfl ?_)
              refine RunL.op (OpS.pass rfl rfl rfl ?_)
              refine RunL.op (OpS.pass rfl rfl rfl ?_)
              refine RunL.op (OpS.pass rfl rfl rfl ?_)
              refine RunL.op (OpS.pass rfl rfl rfl ?_)
              refine RunL.op (OpS.pick rfl rfl rfl rfl ?_)
              refine RunL.op (OpS.as rfl rfl rfl ?_)
              refine RunL.nil ?_
              refine Run.slim [(64, .bool true), (4, u1), (6, (q1 38))] ⟨rfl, rfl, rfl, trivial⟩ ?_
              refine Run.slim [(4, u1), (6, (q1 38)), (64, .bool true)] ⟨rfl, rfl, rfl, trivial⟩ ?_
              exact hj3 (true) _ _ ⟨rfl, (h58.facts .nil).picks (.cons .z (.cons .z .nil))⟩ hF
            ·
              refine RunL.op (OpS.loadB h58 (.s .z) PA.z Get.id ty51 rfl rfl rfl (fun u16 h59 => ?_))
              obtain ⟨y5, e25, hF⟩ := bindP_use hF
              refine RunL.op (OpS.callP h59 Try.func50 rfl rfl rfl rfl (vs := [u16]) rfl (message_request_ok e25) (.cons (f := true) (V.at .z) .nil) ?_)
              rintro _ w19 _ _ _ ⟨rfl, rfl, rfl, rfl⟩ h60
              have h61 := h60 rfl rfl
              simp only [List.cons_append, List.nil_append] at h61
              refine RunL.op (OpS.mv rfl rfl rfl ?_)
              refine RunL.op (OpS.bin rfl rfl rfl rfl rfl ?_)
              refine RunL.op (OpS.neb Try.underlying4 rfl rfl rfl rfl ?_)
              refine RunL.op (OpS.pick rfl rfl rfl rfl ?_)
              refine RunL.op (OpS.as rfl rfl rfl ?_)
              obtain ⟨x14, e26, hF⟩ := letP_use hF
              refine RunL.nameb e26 ?_
              refine RunL.nil ?_
              refine Run.slim [(64, .bool x14), (4, u1), (6, (q1 38))] ⟨rfl, rfl, rfl, trivial⟩ ?_
              refine Run.slim [(4, u1), (6, (q1 38)), (64, .bool x14)] ⟨rfl, rfl, rfl, trivial⟩ ?_
              exact hj3 (x14) _ _ ⟨rfl, (h61.facts .nil).picks (.cons .z (.cons .z .nil))⟩ hF
      ·
        refine Run.ite rfl hF (fun e27 hF => ?_) (fun e27 hF => ?_)
        ·
          refine Run.reg ?_
          refine RunL.op (OpS.mv rfl rfl rfl ?_)
          refine RunL.op (OpS.mv rfl rfl rfl ?_)
          refine RunL.op (OpS.bin rfl rfl rfl rfl rfl ?_)
          obtain ⟨x15, e28, hF⟩ := bindP_use hF
          refine RunL.op (OpS.iptr h36 Try.underlying22 ty5 rfl rfl rfl rfl (V.at (.s (.s (.s (.s (.s (.s (.s (.s (.s (.s .z))))))))))) e28 (fun u17 h62 => ?_))
          refine RunL.op (OpS.loadi h62 ty5 rfl rfl rfl .z ?_)
          refine RunL.op (OpS.fbox (o3 := 7) h62 .z PA.z fa51_7 rfl rfl rfl rfl ?_)
          obtain ⟨d1, e29, hF⟩ := letP_use hF
          refine RunL.op (OpS.storeB (f' := true) h62 .z PA.a (Put.of (Put.fld Message_.f7) e29) ty5 rfl rfl rfl V.int (.inl rfl) (fun w20 h63 => ?_))
          refine RunL.nil ?_
          refine Run.slim [(6, (q1 38)), (0, v0), (1, .int .i64 a1), (4, u1)] ⟨rfl, rfl, rfl, rfl, trivial⟩ ?_
          refine Run.slim [(0, v0), (1, .int .i64 a1), (4, u1), (6, (q1 38))] ⟨rfl, rfl, rfl, rfl, trivial⟩ ?_
          exact hj2 (d1) _ _ ⟨rfl, (h63.facts (.atm (.s (.s (.s (.s (.s (.s (.s (.s (.s (.s (.s .z))))))))))) .nil)).picks (.cons (.s .z) (.cons .z .nil))⟩ hF
        ·
          refine Run.skip ?_
          refine Run.slim [(0, v0), (1, .int .i64 a1), (4, u1), (6, (q1 38))] ⟨rfl, rfl, rfl, rfl, trivial⟩ ?_
          exact hj2 ((⟨(IntKind.u8.wrap (Int.tdiv x2 2)), (IntKind.u8.wrap (Int.tdiv x3 2)), (IntKind.u8.wrap (Int.tdiv x4 4)), x5, (IntKind.i64.wrap (Int.tmod x6 4)), (IntKind.i64.wrap (Int.tmod x7 4)), (IntKind.i64.wrap (IntKind.u8.wrap (Int.tdiv x8 4))), 0, y2⟩ : Message_)) _ _ ⟨rfl, (h36.facts (.atm (.s (.s (.s (.s (.s (.s (.s (.s (.s (.s .z)))))))))) .nil)).picks (.cons (.s .z) (.cons .z .nil))⟩ hF
  ·
    refine RunL.caseb hF (fun e30 hF => ?_) (fun e30 hF => ?_)
    ·
      refine RunL.op (OpS.pass rfl rfl rfl ?_)
      refine RunL.op (OpS.pass rfl rfl rfl ?_)
      refine RunL.op (OpS.pass rfl rfl rfl ?_)
      refine RunL.op (OpS.pass rfl rfl rfl ?_)
      refine RunL.op (OpS.pick rfl rfl rfl rfl ?_)
      refine RunL.nil ?_
      refine Run.slim [(16, .bool true), (4, u1), (0, v0), (1, .int .i64 a1)] ⟨rfl, rfl, rfl, rfl, trivial⟩ ?_
      refine Run.slim [(0, v0), (1, .int .i64 a1), (4, u1), (16, .bool true)] ⟨rfl, rfl, rfl, rfl, trivial⟩ ?_
      exact hj1 (true) _ _ ⟨rfl, (h4.facts (.atm (.s .z) .nil)).picks (.cons .z .nil)⟩ hF
    ·
      refine RunL.op (OpS.mv rfl rfl rfl ?_)
      obtain ⟨x16, e31, hF⟩ := bindP_use hF
      refine RunL.op (OpS.sub h4 Try.underlying22 ty5 rfl rfl rfl rfl rfl (V.at (.s .z)) e31 (fun u18 h64 => ?_))
      obtain ⟨y6, e32, hF⟩ := bindP_use hF
      refine RunL.op (OpS.callP h64 Try.func61 rfl rfl rfl rfl (vs := [u18]) rfl (checksum_Sum8_ok e32) (.cons (f := false) (V.at .z) .nil) ?_)
      rintro _ w21 _ _ _ ⟨rfl, rfl, rfl, rfl⟩ h65
      have h66 := h65 rfl rfl
      simp only [List.cons_append, List.nil_append] at h66
      refine RunL.op (OpS.bin rfl rfl rfl rfl rfl ?_)
      refine RunL.op (OpS.pick rfl rfl rfl rfl ?_)
      refine RunL.nil ?_
      refine Run.slim [(16, .bool (y6 != 0)), (4, u1), (0, v0), (1, .int .i64 a1)] ⟨rfl, rfl, rfl, rfl, trivial⟩ ?_
      refine Run.slim [(0, v0), (1, .int .i64 a1), (4, u1), (16, .bool (y6 != 0))] ⟨rfl, rfl, rfl, rfl, trivial⟩ ?_
      exact hj1 (y6 != 0) _ _ ⟨rfl, (h66.facts (.atm (.s (.s .z)) .nil)).picks (.cons .z .nil)⟩ hF
theorem message_ParseResponse_ok {fuel : Nat} {a0 : List Int} {y : Message_ × Int} (hF : message_ParseResponse fuel a0 = some y) {w : World} {v0 : Value} :
    Spec Try.prog 33 [v0].toArray w [(false, .val (Rep.slice (Rep.int .u8)) v0 a0)] [] (fun v Γr Ωr Ωo => ∃ u0 : Value, v = .tuple #[u0, .int .i64 y.2] ∧ Γr = [(true, .val Message_.rep u0 y.1)] ∧ Ωr = [] ∧ Ωo = []) := by
  refine Spec.of (L := [(0, v0)]) Try.func33 rfl ⟨rfl, trivial⟩ rfl (fun e h => ?_)
  unfold message_ParseResponse at hF
  refine Run.seq ?_
  refine Run.reg ?_
  refine RunL.op (OpS.alloc h ti51 Message_.zr rfl rfl (fun u1 w1 h1 => ?_))
  refine RunL.op (OpS.as rfl rfl rfl ?_)
  refine RunL.nil ?_
  refine Run.slim [(2, u1), (0, v0)] ⟨rfl, rfl, trivial⟩ ?_
  refine Run.seq ?_
  refine Run.seq ?_
  refine Run.reg ?_
  refine RunL.op (OpS.mv rfl rfl rfl ?_)
  refine RunL.op (OpS.len h1 Try.underlying22 rfl rfl rfl (V.at .z) ?_)
  refine RunL.op (OpS.bin rfl rfl rfl rfl rfl ?_)
  refine RunL.nil ?_
  refine Run.slim [(6, .bool (decide ((a0.length : Int) < 8))), (2, u1), (0, v0)] ⟨rfl, rfl, rfl, trivial⟩ ?_
  refine Run.ite rfl hF (fun e1 hF => ?_) (fun e1 hF => ?_)
  ·
    refine Run.seq ?_
    refine Run.reg ?_
    refine RunL.op (OpS.build (f := true) (x' := Message_.z) h1 pl51 ti51 Message_.zr rfl rfl rfl .nil (fun u2 h2 => ?_))
    refine RunL.op (OpS.storeB (f' := true) h2 .z PA.z Put.id ty51 rfl rfl rfl (V.at .z) (.inl rfl) (fun w2 h3 => ?_))
    refine RunL.op (OpS.as rfl rfl rfl ?_)
    refine RunL.nil ?_
    refine Run.slim [(3, .int .i64 4), (2, u1)] ⟨rfl, rfl, trivial⟩ ?_
    obtain ⟨u3, hu1, h4⟩ := res_box h3 .z ty51
    refine Run.retP rfl (.cell rfl hu1 (.tmp rfl .nil)) ?_
    cases hF
    exact Post.mk' ⟨u3, rfl, rfl, rfl, rfl⟩ (h4.picks .nil) (.val (V.at .z) .nil)
  ·
    refine Run.skip ?_
    refine Run.seq ?_
    refine Run.reg ?_
    refine RunL.op (OpS.mv rfl rfl rfl ?_)
    obtain ⟨y1, e2, hF⟩ := bindP_use hF
    refine RunL.op (OpS.callP h1 Try.func53 rfl rfl rfl rfl (vs := [v0, .int .i64 7]) rfl (message_parse_ok e2) (.cons (f := false) (V.at .z) .nil) ?_)
    rintro _ w3 _ _ _ ⟨u4, rfl, rfl, rfl, rfl⟩ h5
    have h6 := h5 rfl rfl
    simp only [List.cons_append, List.nil_append] at h6
    refine RunL.op (OpS.ext rfl rfl rfl rfl ?_)
    refine RunL.op (OpS.ext rfl rfl rfl rfl ?_)
    refine RunL.op (OpS.storeB (f' := true) h6 .z PA.z Put.id ty51 rfl rfl rfl (V.at .z) (.inl rfl) (fun w4 h7 => ?_))
    refine RunL.op (OpS.as rfl rfl rfl ?_)
    refine RunL.nil ?_
    refine Run.slim [(3, .int .i64 y1.2), (2, u1)] ⟨rfl, rfl, trivial⟩ ?_
    obtain ⟨u5, hu2, h8⟩ := res_box h7 .z ty51
    refine Run.retP rfl (.cell rfl hu2 (.tmp rfl .nil)) ?_
    cases hF
    exact Post.mk' ⟨u5, rfl, rfl, rfl, rfl⟩ (h8.picks .nil) (.val (V.at .z) .nil)
theorem message_Reply_ok {fuel : Nat} {a0 : Message_} {a1 : Int} {a2 : List Int} {y : Message_ × Int} (hF : message_Reply fuel a0 a1 a2 = some y) {w : World} {v0 v2 : Value} :
    Spec Try.prog 31 [v0, .int .u8 a1, v2].toArray w [(false, .val Message_.rep v0 a0), (false, .val (Rep.slice (Rep.int .u8)) v2 a2)] [] (fun v Γr Ωr Ωo => ∃ u0 : Value, v = .tuple #[u0, .int .i64 y.2] ∧ Γr = [(true, .val Message_.rep u0 y.1)] ∧ Ωr = [] ∧ Ωo = []) := by
  refine Spec.of (L := [(0, v0), (1, .int .u8 a1), (2, v2)]) Try.func31 rfl ⟨rfl, rfl, rfl, trivial⟩ rfl (fun e h => ?_)
  unfold message_Reply at hF
  refine Run.seq ?_
  refine Run.reg ?_
  refine RunL.op (OpS.boxF h rfl rfl rfl (V.at .z) (fun u1 w1 h1 => ?_))
  refine RunL.op (OpS.alloc h1 ti51 Message_.zr rfl rfl (fun u2 w2 h2 => ?_))
  refine RunL.op (OpS.as rfl rfl rfl ?_)
  refine RunL.nil ?_
  refine Run.slim [(6, u2), (3, u1), (1, .int .u8 a1), (2, v2)] ⟨rfl, rfl, rfl, rfl, trivial⟩ ?_
  refine Run.seq ?_
  refine Run.seq ?_
  refine Run.reg ?_
  refine RunL.op (OpS.loadB h2 (.s .z) PA.z Get.id ty51 rfl rfl rfl (fun u3 h3 => ?_))
  obtain ⟨y1, e1, hF⟩ := bindP_use hF
  refine RunL.op (OpS.callP h3 Try.func49 rfl rfl rfl rfl (vs := [u3]) rfl (message_Valid_ok e1) (.cons (f := false) (V.at .z) .nil) ?_)
  rintro _ w3 _ _ _ ⟨rfl, rfl, rfl, rfl⟩ h4
  have h5 := h4 rfl rfl
  simp only [List.cons_append, List.nil_append] at h5
  refine RunL.op (OpS.not rfl rfl rfl ?_)
  refine RunL.op (OpS.mv rfl rfl rfl ?_)
  refine RunL.join (σ := Bool) (fun s_ L_ w_ => L_ = [(1, .int .u8 a1), (2, v2), (3, u1), (6, u2), (20, .bool s_)] ∧ St e w_ [(false, .val (Rep.slice (Rep.int .u8)) v2 a2)] [(false, .box 51 Message_.rep u1 a0), (true, .box 51 Message_.rep u2 Message_.z)]) hF (fun s1 _ w4 hI hF => ?_) (fun j1 hj1 hF => ?_)
  ·
    obtain ⟨rfl, h6⟩ := hI
    refine Run.ite rfl hF (fun e2 hF => ?_) (fun e2 hF => ?_)
    ·
      refine Run.seq ?_
      refine Run.reg ?_
      refine RunL.op (OpS.build (f := true) (x' := Message_.z) h6 pl51 ti51 Message_.zr rfl rfl rfl .nil (fun u4 h7 => ?_))
      refine RunL.op (OpS.storeB (f' := true) h7 (.s .z) PA.z Put.id ty51 rfl rfl rfl (V.at .z) (.inl rfl) (fun w5 h8 => ?_))
      refine RunL.op (OpS.as rfl rfl rfl ?_)
      refine RunL.nil ?_
      refine Run.slim [(7, .int .i64 1), (6, u2)] ⟨rfl, rfl, trivial⟩ ?_
      obtain ⟨u5, hu1, h9⟩ := res_box h8 .z ty51
      refine Run.retP rfl (.cell rfl hu1 (.tmp rfl .nil)) ?_
      cases hF
      exact Post.mk' ⟨u5, rfl, rfl, rfl, rfl⟩ (h9.picks .nil) (.val (V.at .z) .nil)
    ·
      refine Run.skip ?_
      refine Run.seq ?_
      obtain ⟨y2, e3, hF⟩ := bindP_use hF
      refine Run.drawV (Ωs := [(true, .box 51 Message_.rep u2 Message_.z)]) [⟨some 22, some ((padd u1 1)), fun _ => [], fun ds_ u_ => [], [], [(0, [])], none⟩, ⟨some 23, some (.int .u8 a0.From), fun _ => [], fun ds_ u_ => [], [], [(0, [])], none⟩, ⟨some 24, some ((padd u1 0)), fun _ => [], fun ds_ u_ => [], [], [(0, [])], none⟩, ⟨some 25, some (.int .u8 a0.To), fun _ => [], fun ds_ u_ => [], [], [(0, [])], none⟩, ⟨some 26, some ((padd u1 2)), fun _ => [], fun ds_ u_ => [], [], [(0, [])], none⟩, ⟨some 27, some (.int .u8 a0.Function), fun _ => [], fun ds_ u_ => [], [], [(0, [])], none⟩, ⟨some 28, some (.int .u8 (IntKind.u8.wrap (a0.Function + 1))), fun _ => [], fun ds_ u_ => [], [], [], none⟩, ⟨some 29, some ((padd u1 3)), fun _ => [], fun ds_ u_ => [], [], [(0, [])], none⟩, ⟨some 30, some (.int .u8 a0.Command), fun _ => [], fun ds_ u_ => [], [], [(0, [])], none⟩, ⟨some 31, some ((padd u1 5)), fun _ => [], fun ds_ u_ => [], [], [(0, [])], none⟩, ⟨some 32, some (.int .i64 a0.FromUnit), fun _ => [], fun ds_ u_ => [], [], [(0, [])], none⟩, ⟨some 33, some ((padd u1 4)), fun _ => [], fun ds_ u_ => [], [], [(0, [])], none⟩, ⟨some 34, some (.int .i64 a0.ToUnit), fun _ => [], fun ds_ u_ => [], [], [(0, [])], none⟩, ⟨some 35, some ((padd u1 6)), fun _ => [], fun ds_ u_ => [], [], [(0, [])], none⟩, ⟨some 36, some (.int .i64 a0.Sequence), fun _ => [], fun ds_ u_ => [], [], [(0, [])], none⟩, ⟨some 37, some (.int .u8 a1), fun _ => [], fun ds_ u_ => [], [], [], none⟩, ⟨some 38, some (v2), fun _ => [], fun ds_ u_ => [], [], [], none⟩, ⟨some 39, none, fun u_ => [(true, .val (Rep.slice (Rep.int .u8)) u_ y2)], fun ds_ u_ => [], [], [], none⟩, ⟨some 40, none, fun u_ => [(true, .val Message_.rep u_ (⟨a0.From, a0.To, (IntKind.u8.wrap (a0.Function + 1)), a0.Command, a0.FromUnit, a0.ToUnit, a0.Sequence, a1, y2⟩ : Message_))], fun ds_ u_ => [], [], [], none⟩] [[], [0], [], [2], [], [4], [5], [], [7], [], [9], [], [11], [], [13], [], [], [16], [1, 3, 6, 8, 10, 12, 14, 15, 17]] [[(false, .box 51 Message_.rep u1 a0)]] [0, 1, 2, 3, 4, 5, 6, 7, 8, 9, 10, 11, 12, 13, 14, 15, 16, 17, 18, 19] Try_mixed rfl rfl rfl h6 (.cons ?_ (.cons ?_ (.cons ?_ (.cons ?_ (.cons ?_ (.cons ?_ (.cons ?_ (.cons ?_ (.cons ?_ (.cons ?_ (.cons ?_ (.cons ?_ (.cons ?_ (.cons ?_ (.cons ?_ (.cons ?_ (.cons ?_ (.cons ?_ (.cons ?_ .nil))))))))))))))))))) (fun q1 w hq1 h => ?_)
      · intro q1 w Γx Ωx h
        have h : St e w ([(false, .val (Rep.slice (Rep.int .u8)) v2 a2)] ++ Γx) ([(false, .box 51 Message_.rep u1 a0), (true, .box 51 Message_.rep u2 Message_.z)] ++ Ωx) := h
        refine OpS.fbox (o3 := 1) h .z PA.z fa51_1 rfl rfl rfl rfl ?_
        exact ⟨undef, rfl, trivial, h⟩
      · intro q1 w Γx Ωx h
        have h : St e w ([(false, .val (Rep.slice (Rep.int .u8)) v2 a2)] ++ Γx) ([(false, .box 51 Message_.rep u1 a0), (true, .box 51 Message_.rep u2 Message_.z)] ++ Ωx) := h
        refine OpS.loadBi h .z PA.a (Get.fld Message_.f1) ty5 rfl rfl rfl ?_
        exact ⟨undef, rfl, trivial, h⟩
      · intro q1 w Γx Ωx h
        have h : St e w ([(false, .val (Rep.slice (Rep.int .u8)) v2 a2)] ++ Γx) ([(false, .box 51 Message_.rep u1 a0), (true, .box 51 Message_.rep u2 Message_.z)] ++ Ωx) := h
        refine OpS.fbox (o3 := 0) h .z PA.z fa51_0 rfl rfl rfl rfl ?_
        exact ⟨undef, rfl, trivial, h⟩
      · intro q1 w Γx Ωx h
        have h : St e w ([(false, .val (Rep.slice (Rep.int .u8)) v2 a2)] ++ Γx) ([(false, .box 51 Message_.rep u1 a0), (true, .box 51 Message_.rep u2 Message_.z)] ++ Ωx) := h
        refine OpS.loadBi h .z PA.a (Get.fld Message_.f0) ty5 rfl rfl rfl ?_
        exact ⟨undef, rfl, trivial, h⟩
      · intro q1 w Γx Ωx h
        have h : St e w ([(false, .val (Rep.slice (Rep.int .u8)) v2 a2)] ++ Γx) ([(false, .box 51 Message_.rep u1 a0), (true, .box 51 Message_.rep u2 Message_.z)] ++ Ωx) := h
        refine OpS.fbox (o3 := 2) h .z PA.z fa51_2 rfl rfl rfl rfl ?_
        exact ⟨undef, rfl, trivial, h⟩
      · intro q1 w Γx Ωx h
        have h : St e w ([(false, .val (Rep.slice (Rep.int .u8)) v2 a2)] ++ Γx) ([(false, .box 51 Message_.rep u1 a0), (true, .box 51 Message_.rep u2 Message_.z)] ++ Ωx) := h
        refine OpS.loadBi h .z PA.a (Get.fld Message_.f2) ty5 rfl rfl rfl ?_
        exact ⟨undef, rfl, trivial, h⟩
      · intro q1 w Γx Ωx h
        refine OpS.bin rfl rfl rfl rfl rfl ?_
        exact ⟨undef, rfl, trivial, h⟩
      · intro q1 w Γx Ωx h
        have h : St e w ([(false, .val (Rep.slice (Rep.int .u8)) v2 a2)] ++ Γx) ([(false, .box 51 Message_.rep u1 a0), (true, .box 51 Message_.rep u2 Message_.z)] ++ Ωx) := h
        refine OpS.fbox (o3 := 3) h .z PA.z fa51_3 rfl rfl rfl rfl ?_
        exact ⟨undef, rfl, trivial, h⟩
      · intro q1 w Γx Ωx h
        have h : St e w ([(false, .val (Rep.slice (Rep.int .u8)) v2 a2)] ++ Γx) ([(false, .box 51 Message_.rep u1 a0), (true, .box 51 Message_.rep u2 Message_.z)] ++ Ωx) := h
        refine OpS.loadBi h .z PA.a (Get.fld Message_.f3) ty5 rfl rfl rfl ?_
        exact ⟨undef, rfl, trivial, h⟩
      · intro q1 w Γx Ωx h
        have h : St e w ([(false, .val (Rep.slice (Rep.int .u8)) v2 a2)] ++ Γx) ([(false, .box 51 Message_.rep u1 a0), (true, .box 51 Message_.rep u2 Message_.z)] ++ Ωx) := h
        refine OpS.fbox (o3 := 5) h .z PA.z fa51_5 rfl rfl rfl rfl ?_
        exact ⟨undef, rfl, trivial, h⟩
      · intro q1 w Γx Ωx h
        have h : St e w ([(false, .val (Rep.slice (Rep.int .u8)) v2 a2)] ++ Γx) ([(false, .box 51 Message_.rep u1 a0), (true, .box 51 Message_.rep u2 Message_.z)] ++ Ωx) := h
        refine OpS.loadBi h .z PA.a (Get.fld Message_.f5) ty3 rfl rfl rfl ?_
        exact ⟨undef, rfl, trivial, h⟩
      · intro q1 w Γx Ωx h
        have h : St e w ([(false, .val (Rep.slice (Rep.int .u8)) v2 a2)] ++ Γx) ([(false, .box 51 Message_.rep u1 a0), (true, .box 51 Message_.rep u2 Message_.z)] ++ Ωx) := h
        refine OpS.fbox (o3 := 4) h .z PA.z fa51_4 rfl rfl rfl rfl ?_
        exact ⟨undef, rfl, trivial, h⟩
      · intro q1 w Γx Ωx h
        have h : St e w ([(false, .val (Rep.slice (Rep.int .u8)) v2 a2)] ++ Γx) ([(false, .box 51 Message_.rep u1 a0), (true, .box 51 Message_.rep u2 Message_.z)] ++ Ωx) := h
        refine OpS.loadBi h .z PA.a (Get.fld Message_.f4) ty3 rfl rfl rfl ?_
        exact ⟨undef, rfl, trivial, h⟩
      · intro q1 w Γx Ωx h
        have h : St e w ([(false, .val (Rep.slice (Rep.int .u8)) v2 a2)] ++ Γx) ([(false, .box 51 Message_.rep u1 a0), (true, .box 51 Message_.rep u2 Message_.z)] ++ Ωx) := h
        refine OpS.fbox (o3 := 6) h .z PA.z fa51_6 rfl rfl rfl rfl ?_
        exact ⟨undef, rfl, trivial, h⟩
      · intro q1 w Γx Ωx h
        have h : St e w ([(false, .val (Rep.slice (Rep.int .u8)) v2 a2)] ++ Γx) ([(false, .box 51 Message_.rep u1 a0), (true, .box 51 Message_.rep u2 Message_.z)] ++ Ωx) := h
        refine OpS.loadBi h .z PA.a (Get.fld Message_.f6) ty3 rfl rfl rfl ?_
        exact ⟨undef, rfl, trivial, h⟩
      · intro q1 w Γx Ωx h
        refine OpS.mv rfl rfl rfl ?_
        exact ⟨undef, rfl, trivial, h⟩
      · intro q1 w Γx Ωx h
        refine OpS.mv rfl rfl rfl ?_
        exact ⟨undef, rfl, trivial, h⟩
      · intro q1 w Γx Ωx h
        refine OpS.callP h Try.func51 rfl rfl rfl rfl (vs := [v2]) rfl (slices_Clone_byte_byte_ok e3) (.cons (f := false) (V.at .z) .nil) ?_
        rintro u w7 _ _ _ ⟨_, rfl, rfl, rfl, rfl⟩ h14
        have h15 := h14 rfl rfl
        simp only [List.cons_append, List.nil_append] at h15
        have h16 := h15.freeze
        exact ⟨u, rfl, trivial, h16⟩
      · intro q1 w Γx Ωx h
        refine OpS.build (f := true) (x' := (⟨a0.From, a0.To, (IntKind.u8.wrap (a0.Function + 1)), a0.Command, a0.FromUnit, a0.ToUnit, a0.Sequence, a1, y2⟩ : Message_)) h pl51 ti51 Message_.zr rfl rfl rfl (.cons rfl Message_.f0 rfl V.int (.cons rfl Message_.f1 rfl V.int (.cons rfl Message_.f2 rfl V.int (.cons rfl Message_.f3 rfl V.int (.cons rfl Message_.f4 rfl V.int (.cons rfl Message_.f5 rfl V.int (.cons rfl Message_.f6 rfl V.int (.cons rfl Message_.f7 rfl V.int (.cons rfl Message_.f8 rfl (V.at .z) .nil))))))))) (fun u h17 => ?_)
        exact ⟨u, rfl, trivial, h17⟩
      have h18 : St e w [(true, .val (Rep.slice (Rep.int .u8)) (q1 17) y2), (true, .val Message_.rep (q1 18) (⟨a0.From, a0.To, (IntKind.u8.wrap (a0.Function + 1)), a0.Command, a0.FromUnit, a0.ToUnit, a0.Sequence, a1, y2⟩ : Message_)), (false, .val (Rep.slice (Rep.int .u8)) v2 a2)] [(false, .box 51 Message_.rep u1 a0), (true, .box 51 Message_.rep u2 Message_.z)] := h
      refine RunL.op (OpS.storeB (f' := true) h18 (.s .z) PA.z Put.id ty51 rfl rfl rfl (V.at (.s .z)) (.inl rfl) (fun w8 h19 => ?_))
      refine RunL.op (OpS.as rfl rfl rfl ?_)
      refine RunL.nil ?_
      refine Run.slim [(7, .int .i64 0), (6, u2)] ⟨rfl, rfl, trivial⟩ ?_
      obtain ⟨u6, hu2, h20⟩ := res_box h19 .z ty51
      refine Run.retP rfl (.cell rfl hu2 (.tmp rfl .nil)) ?_
      cases hF
      exact Post.mk' ⟨u6, rfl, rfl, rfl, rfl⟩ (h20.picks .nil) (.val (V.at .z) .nil)
  ·
    refine RunL.caseb hF (fun e4 hF => ?_) (fun e4 hF => ?_)
    ·
      refine RunL.op (OpS.pass rfl rfl rfl ?_)
      refine RunL.op (OpS.pass rfl rfl rfl ?_)
      refine RunL.op (OpS.pass rfl rfl rfl ?_)
      refine RunL.op (OpS.pick rfl rfl rfl rfl ?_)
      refine RunL.op (OpS.mv rfl rfl rfl ?_)
      refine RunL.op (OpS.pass rfl rfl rfl ?_)
      refine RunL.op (OpS.pass rfl rfl rfl ?_)
      refine RunL.op (OpS.pass rfl rfl rfl ?_)
      refine RunL.op (OpS.pick rfl rfl rfl rfl ?_)
      refine RunL.nil ?_
      refine Run.slim [(20, .bool true), (6, u2), (3, u1), (1, .int .u8 a1), (2, v2)] ⟨rfl, rfl, rfl, rfl, rfl, trivial⟩ ?_
      refine Run.slim [(1, .int .u8 a1), (2, v2), (3, u1), (6, u2), (20, .bool true)] ⟨rfl, rfl, rfl, rfl, rfl, trivial⟩ ?_
      exact hj1 (true) _ _ ⟨rfl, (h5.facts (.atm (.s (.s .z)) .nil)).picks (.cons (.s .z) (.cons .z .nil))⟩ hF
    ·
      refine RunL.op (OpS.loadB h5 (.s .z) PA.z Get.id ty51 rfl rfl rfl (fun u7 h21 => ?_))
      obtain ⟨y3, e5, hF⟩ := bindP_use hF
      refine RunL.op (OpS.callP h21 Try.func50 rfl rfl rfl rfl (vs := [u7]) rfl (message_request_ok e5) (.cons (f := false) (V.at .z) .nil) ?_)
      rintro _ w9 _ _ _ ⟨rfl, rfl, rfl, rfl⟩ h22
      have h23 := h22 rfl rfl
      simp only [List.cons_append, List.nil_append] at h23
      refine RunL.op (OpS.not rfl rfl rfl ?_)
      refine RunL.op (OpS.pick rfl rfl rfl rfl ?_)
      refine RunL.op (OpS.mv rfl rfl rfl ?_)
      refine RunL.caseb hF (fun e6 hF => ?_) (fun e6 hF => ?_)
      ·
        refine RunL.op (OpS.pass rfl rfl rfl ?_)
        refine RunL.op (OpS.pass rfl rfl rfl ?_)
        refine RunL.op (OpS.pass rfl rfl rfl ?_)
        refine RunL.op (OpS.pick rfl rfl rfl rfl ?_)
        refine RunL.nil ?_
        refine Run.slim [(20, .bool true), (6, u2), (3, u1), (1, .int .u8 a1), (2, v2)] ⟨rfl, rfl, rfl, rfl, rfl, trivial⟩ ?_
        refine Run.slim [(1, .int .u8 a1), (2, v2), (3, u1), (6, u2), (20, .bool true)] ⟨rfl, rfl, rfl, rfl, rfl, trivial⟩ ?_
        exact hj1 (true) _ _ ⟨rfl, (h23.facts (.atm (.s (.s (.s .z))) .nil)).picks (.cons (.s .z) (.cons .z .nil))⟩ hF
      ·
        refine RunL.op (OpS.mv rfl rfl rfl ?_)
        refine RunL.op (OpS.len h23 Try.underlying22 rfl rfl rfl (V.at (.s (.s (.s .z)))) ?_)
        refine RunL.op (OpS.bin rfl rfl rfl rfl rfl ?_)
        refine RunL.op (OpS.pick rfl rfl rfl rfl ?_)
        refine RunL.nil ?_
        refine Run.slim [(20, .bool (decide ((a2.length : Int) > 240))), (6, u2), (3, u1), (1, .int .u8 a1), (2, v2)] ⟨rfl, rfl, rfl, rfl, rfl, trivial⟩ ?_
        refine Run.slim [(1, .int .u8 a1), (2, v2), (3, u1), (6, u2), (20, .bool (decide ((a2.length : Int) > 240)))] ⟨rfl, rfl, rfl, rfl, rfl, trivial⟩ ?_
        exact hj1 (decide ((a2.length : Int) > 240)) _ _ ⟨rfl, (h23.facts (.atm (.s (.s (.s .z))) .nil)).picks (.cons (.s .z) (.cons .z .nil))⟩ hF
set_option maxHeartbeats 8000000 in
theorem message_Matches_ok {fuel : Nat} {a0 : Message_} {a1 : Message_} {y : Bool} (hF : message_Matches fuel a0 a1 = some y) {w : World} {v0 v1 : Value} :
    Spec Try.prog 34 [v0, v1].toArray w [(false, .val Message_.rep v0 a0), (false, .val Message_.rep v1 a1)] [] (fun v Γr Ωr Ωo => v = .bool y ∧ Γr = [] ∧ Ωr = [] ∧ Ωo = []) := by
  refine Spec.of (L := [(0, v0), (1, v1)]) Try.func34 rfl ⟨rfl, rfl, trivial⟩ rfl (fun e h => ?_)
  unfold message_Matches at hF
  refine Run.seq ?_
  refine Run.reg ?_
  refine RunL.op (OpS.boxF h rfl rfl rfl (V.at .z) (fun u1 w1 h1 => ?_))
  refine RunL.op (OpS.boxF h1 rfl rfl rfl (V.at (.s .z)) (fun u2 w2 h2 => ?_))
  refine RunL.op (OpS.as rfl rfl rfl ?_)
  refine RunL.nil ?_
  refine Run.slim [(3, u2), (2, u1)] ⟨rfl, rfl, trivial⟩ ?_
  refine Run.seq ?_
  refine Run.reg ?_
  refine RunL.op (OpS.loadB h2 (.s .z) PA.z Get.id ty51 rfl rfl rfl (fun u3 h3 => ?_))
  refine RunL.op (OpS.fbox (o3 := 7) h3 .z PA.z fa51_7 rfl rfl rfl rfl ?_)
  refine RunL.op (OpS.loadBi h3 .z PA.a (Get.fld Message_.f7) ty5 rfl rfl rfl ?_)
  refine RunL.op (OpS.fbox (o3 := 8) h3 .z PA.z fa51_8 rfl rfl rfl rfl ?_)
  refine RunL.op (OpS.loadB h3 .z PA.a (Get.fld Message_.f8) ty22 rfl rfl rfl (fun u4 h4 => ?_))
  obtain ⟨y1, e1, hF⟩ := bindP_use hF
  refine RunL.op (OpS.callP h4 Try.func31 rfl rfl rfl rfl (vs := [u3, .int .u8 a1.Code, u4]) rfl (message_Reply_ok e1) (.cons (f := false) (V.at (.s .z)) (.cons (f := false) (V.at .z) .nil)) ?_)
  rintro _ w3 _ _ _ ⟨u5, rfl, rfl, rfl, rfl⟩ h5
  have h6 := h5 rfl rfl
  simp only [List.cons_append, List.nil_append] at h6
  refine RunL.op (OpS.mv rfl rfl rfl ?_)
  refine RunL.op (OpS.ext rfl rfl rfl rfl ?_)
  refine RunL.op (OpS.ext rfl rfl rfl rfl ?_)
  refine RunL.op (OpS.alloc h6 ti51 Message_.zr rfl rfl (fun u6 w4 h7 => ?_))
  refine RunL.op (OpS.storeB (f' := true) h7 .z PA.z Put.id ty51 rfl rfl rfl (V.at .z) (.inl rfl) (fun w5 h8 => ?_))
  refine RunL.op (OpS.as rfl rfl rfl ?_)
  refine RunL.nil ?_
  refine Run.slim [(6, .int .i64 y1.2), (5, u6), (3, u2)] ⟨rfl, rfl, rfl, trivial⟩ ?_
  refine Run.seq ?_
  refine Run.seq ?_
  refine Run.reg ?_
  refine RunL.op (OpS.mv rfl rfl rfl ?_)
  refine RunL.op (OpS.bin rfl rfl rfl rfl rfl ?_)
  refine RunL.op (OpS.mv rfl rfl rfl ?_)
  refine RunL.join (σ := Bool) (fun s_ L_ w_ => L_ = [(3, u2), (5, u6), (23, .bool s_)] ∧ St e w_ [] [(false, .box 51 Message_.rep u2 a1), (true, .box 51 Message_.rep u6 y1.1)]) hF (fun s1 _ w6 hI hF => ?_) (fun j1 hj1 hF => ?_)
  ·
    obtain ⟨rfl, h9⟩ := hI
    refine Run.ite rfl hF (fun e2 hF => ?_) (fun e2 hF => ?_)
    ·
      refine Run.seq ?_
      refine Run.reg ?_
      refine RunL.op (OpS.as rfl rfl rfl ?_)
      refine RunL.nil ?_
      refine Run.slim [(4, .bool false)] ⟨rfl, trivial⟩ ?_
      refine Run.retP rfl (.tmp rfl .nil) ?_
      cases hF
      exact Post.mk' ⟨rfl, rfl, rfl, rfl⟩ (h9.picks .nil) .nil
    ·
      refine Run.skip ?_
      refine Run.seq ?_
      refine Run.reg ?_
      refine RunL.op (OpS.fbox (o3 := 0) h9 (.s .z) PA.z fa51_0 rfl rfl rfl rfl ?_)
      refine RunL.op (OpS.loadBi h9 (.s .z) PA.a (Get.fld Message_.f0) ty5 rfl rfl rfl ?_)
      refine RunL.op (OpS.fbox (o3 := 0) h9 .z PA.z fa51_0 rfl rfl rfl rfl ?_)
      refine RunL.op (OpS.loadBi h9 .z PA.a (Get.fld Message_.f0) ty5 rfl rfl rfl ?_)
      refine RunL.op (OpS.bin rfl rfl rfl rfl rfl ?_)
      refine RunL.op (OpS.mv rfl rfl rfl ?_)
      refine RunL.join (σ := Bool) (fun s_ L_ w_ => L_ = [(3, u2), (5, u6), (7, .bool s_)] ∧ St e w_ [] [(false, .box 51 Message_.rep u2 a1), (true, .box 51 Message_.rep u6 y1.1)]) hF (fun s2 _ w7 hI hF => ?_) (fun j2 hj2 hF => ?_)
      ·
        obtain ⟨rfl, h10⟩ := hI
        refine Run.seq ?_
        refine Run.reg ?_
        refine RunL.op (OpS.mv rfl rfl rfl ?_)
        refine RunL.op (OpS.mv rfl rfl rfl ?_)
        refine RunL.caseb hF (fun e3 hF => ?_) (fun e3 hF => ?_)
        ·
          refine RunL.op (OpS.fbox (o3 := 4) h10 (.s .z) PA.z fa51_4 rfl rfl rfl rfl ?_)
          refine RunL.op (OpS.loadBi h10 (.s .z) PA.a (Get.fld Message_.f4) ty3 rfl rfl rfl ?_)
          refine RunL.op (OpS.fbox (o3 := 4) h10 .z PA.z fa51_4 rfl rfl rfl rfl ?_)
          refine RunL.op (OpS.loadBi h10 .z PA.a (Get.fld Message_.f4) ty3 rfl rfl rfl ?_)
          refine RunL.op (OpS.bin rfl rfl rfl rfl rfl ?_)
          refine RunL.op (OpS.pick rfl rfl rfl rfl ?_)
          refine RunL.op (OpS.mv rfl rfl rfl ?_)
          refine RunL.caseb hF (fun e4 hF => ?_) (fun e4 hF => ?_)
          ·
            refine RunL.op (OpS.fbox (o3 := 5) h10 (.s .z) PA.z fa51_5 rfl rfl rfl rfl ?_)
            refine RunL.op (OpS.loadBi h10 (.s .z) PA.a (Get.fld Message_.f5) ty3 rfl rfl rfl ?_)
            refine RunL.op (OpS.fbox (o3 := 5) h10 .z PA.z fa51_5 rfl rfl rfl rfl ?_)
            refine RunL.op (OpS.loadBi h10 .z PA.a (Get.fld Message_.f5) ty3 rfl rfl rfl ?_)
            refine RunL.op (OpS.bin rfl rfl rfl rfl rfl ?_)
            refine RunL.op (OpS.pick rfl rfl rfl rfl ?_)
            refine RunL.op (OpS.mv rfl rfl rfl ?_)
            refine RunL.caseb hF (fun e5 hF => ?_) (fun e5 hF => ?_)
            ·
              refine RunL.op (OpS.fbox (o3 := 6) h10 (.s .z) PA.z fa51_6 rfl rfl rfl rfl ?_)
              refine RunL.op (OpS.loadBi h10 (.s .z) PA.a (Get.fld Message_.f6) ty3 rfl rfl rfl ?_)
              refine RunL.op (OpS.fbox (o3 := 6) h10 .z PA.z fa51_6 rfl rfl rfl rfl ?_)
              refine RunL.op (OpS.loadBi h10 .z PA.a (Get.fld Message_.f6) ty3 rfl rfl rfl ?_)
              refine RunL.op (OpS.bin rfl rfl rfl rfl rfl ?_)
              refine RunL.op (OpS.pick rfl rfl rfl rfl ?_)
              refine RunL.op (OpS.as rfl rfl rfl ?_)
              obtain ⟨x1, e6, hF⟩ := letP_use hF
              refine RunL.nameb e6 ?_
              refine RunL.nil ?_
              refine Run.slim [(4, .bool x1)] ⟨rfl, trivial⟩ ?_
              refine Run.retP rfl (.tmp rfl .nil) ?_
              cases hF
              exact Post.mk' ⟨rfl, rfl, rfl, rfl⟩ (h10.picks .nil) .nil
            ·
              refine RunL.op (OpS.pass rfl rfl rfl ?_)
              refine RunL.op (OpS.pass rfl rfl rfl ?_)
              refine RunL.op (OpS.pass rfl rfl rfl ?_)
              refine RunL.op (OpS.pass rfl rfl rfl ?_)
              refine RunL.op (OpS.pass rfl rfl rfl ?_)
              refine RunL.op (OpS.pick rfl rfl rfl rfl ?_)
              refine RunL.op (OpS.as rfl rfl rfl ?_)
              refine RunL.nil ?_
              refine Run.slim [(4, .bool false)] ⟨rfl, trivial⟩ ?_
              refine Run.retP rfl (.tmp rfl .nil) ?_
              cases hF
              exact Post.mk' ⟨rfl, rfl, rfl, rfl⟩ (h10.picks .nil) .nil
          ·
            refine RunL.op (OpS.pass rfl rfl rfl ?_)
            refine RunL.op (OpS.pass rfl rfl rfl ?_)
            refine RunL.op (OpS.pass rfl rfl rfl ?_)
            refine RunL.op (OpS.pass rfl rfl rfl ?_)
            refine RunL.op (OpS.pass rfl rfl rfl ?_)
            refine RunL.op (OpS.pick rfl rfl rfl rfl ?_)
            refine RunL.op (OpS.mv rfl rfl rfl ?_)
            refine RunL.op (OpS.pass rfl rfl rfl ?_)
            refine RunL.op (OpS.pass rfl rfl rfl ?_)
            refine RunL.op (OpS.pass rfl rfl rfl ?_)
            refine RunL.op (OpS.pass rfl rfl rfl ?_)
            refine RunL.op (OpS.pass rfl rfl rfl ?_)
            refine RunL.op (OpS.pick rfl rfl rfl rfl ?_)
            refine RunL.op (OpS.as rfl rfl rfl ?_)
            refine RunL.nil ?_
            refine Run.slim [(4, .bool false)] ⟨rfl, trivial⟩ ?_
            refine Run.retP rfl (.tmp rfl .nil) ?_
            cases hF
            exact Post.mk' ⟨rfl, rfl, rfl, rfl⟩ (h10.picks .nil) .nil
        ·
          refine RunL.op (OpS.pass rfl rfl rfl ?_)
          refine RunL.op (OpS.pass rfl rfl rfl ?_)
          refine RunL.op (OpS.pass rfl rfl rfl ?_)
          refine RunL.op (OpS.pass rfl rfl rfl ?_)
          refine RunL.op (OpS.pass rfl rfl rfl ?_)
          refine RunL.op (OpS.pick rfl rfl rfl rfl ?_)
          refine RunL.op (OpS.mv rfl rfl rfl ?_)
          refine RunL.op (OpS.pass rfl rfl rfl ?_)
          refine RunL.op (OpS.pass rfl rfl rfl ?_)
          refine RunL.op (OpS.pass rfl rfl rfl ?_)
          refine RunL.op (OpS.pass rfl rfl rfl ?_)
          refine RunL.op (OpS.pass rfl rfl rfl ?_)
          refine RunL.op (OpS.pick rfl rfl rfl rfl ?_)
          refine RunL.op (OpS.mv rfl rfl rfl ?_)
          refine RunL.op (OpS.pass rfl rfl rfl ?_)
          refine RunL.op (OpS.pass rfl rfl rfl ?_)
          refine RunL.op (OpS.pass rfl rfl rfl ?_)
          refine RunL.op (OpS.pass rfl rfl rfl ?_)
          refine RunL.op (OpS.pass rfl rfl rfl ?_)
          refine RunL.op (OpS.pick rfl rfl rfl rfl ?_)
          refine RunL.op (OpS.as rfl rfl rfl ?_)
          refine RunL.nil ?_
          refine Run.slim [(4, .bool false)] ⟨rfl, trivial⟩ ?_
          refine Run.retP rfl (.tmp rfl .nil) ?_
          cases hF
          exact Post.mk' ⟨rfl, rfl, rfl, rfl⟩ (h10.picks .nil) .nil
      ·
        refine RunL.caseb hF (fun e7 hF => ?_) (fun e7 hF => ?_)
        ·
          refine RunL.op (OpS.fbox (o3 := 1) h9 (.s .z) PA.z fa51_1 rfl rfl rfl rfl ?_)
          refine RunL.op (OpS.loadBi h9 (.s .z) PA.a (Get.fld Message_.f1) ty5 rfl rfl rfl ?_)
          refine RunL.op (OpS.fbox (o3 := 1) h9 .z PA.z fa51_1 rfl rfl rfl rfl ?_)
          refine RunL.op (OpS.loadBi h9 .z PA.a (Get.fld Message_.f1) ty5 rfl rfl rfl ?_)
          refine RunL.op (OpS.bin rfl rfl rfl rfl rfl ?_)
          refine RunL.op (OpS.pick rfl rfl rfl rfl ?_)
          refine RunL.op (OpS.mv rfl rfl rfl ?_)
          refine RunL.caseb hF (fun e8 hF => ?_) (fun e8 hF => ?_)
          ·
            refine RunL.op (OpS.fbox (o3 := 2) h9 (.s .z) PA.z fa51_2 rfl rfl rfl rfl ?_)
            refine RunL.op (OpS.loadBi h9 (.s .z) PA.a (Get.fld Message_.f2) ty5 rfl rfl rfl ?_)
            refine RunL.op (OpS.fbox (o3 := 2) h9 .z PA.z fa51_2 rfl rfl rfl rfl ?_)
            refine RunL.op (OpS.loadBi h9 .z PA.a (Get.fld Message_.f2) ty5 rfl rfl rfl ?_)
            refine RunL.op (OpS.bin rfl rfl rfl rfl rfl ?_)
            refine RunL.op (OpS.pick rfl rfl rfl rfl ?_)
            refine RunL.op (OpS.mv rfl rfl rfl ?_)
            refine RunL.caseb hF (fun e9 hF => ?_) (fun e9 hF => ?_)
            ·
              refine RunL.op (OpS.fbox (o3 := 3) h9 (.s .z) PA.z fa51_3 rfl rfl rfl rfl ?_)
              refine RunL.op (OpS.loadBi h9 (.s .z) PA.a (Get.fld Message_.f3) ty5 rfl rfl rfl ?_)
              refine RunL.op (OpS.fbox (o3 := 3) h9 .z PA.z fa51_3 rfl rfl rfl rfl ?_)
              refine RunL.op (OpS.loadBi h9 .z PA.a (Get.fld Message_.f3) ty5 rfl rfl rfl ?_)
              refine RunL.op (OpS.bin rfl rfl rfl rfl rfl ?_)
              refine RunL.op (OpS.pick rfl rfl rfl rfl ?_)
              refine RunL.op (OpS.as rfl rfl rfl ?_)
              obtain ⟨x2, e10, hF⟩ := letP_use hF
              refine RunL.nameb e10 ?_
              refine RunL.nil ?_
              refine Run.slim [(7, .bool x2), (3, u2), (5, u6)] ⟨rfl, rfl, rfl, trivial⟩ ?_
              refine Run.slim [(3, u2), (5, u6), (7, .bool x2)] ⟨rfl, rfl, rfl, trivial⟩ ?_
              exact hj2 (x2) _ _ ⟨rfl, (h9.facts .nil).picks (.cons .z (.cons .z .nil))⟩ hF
            ·
              refine RunL.op (OpS.pass rfl rfl rfl ?_)
              refine RunL.op (OpS.pass rfl rfl rfl ?_)
              refine RunL.op (OpS.pass rfl rfl rfl ?_)
              refine RunL.op (OpS.pass rfl rfl rfl ?_)
              refine RunL.op (OpS.pass rfl rfl rfl ?_)
              refine RunL.op (OpS.pick rfl rfl rfl rfl ?_)
              refine RunL.op (OpS.as rfl rfl rfl ?_)
              refine RunL.nil ?_
              refine Run.slim [(7, .bool false), (3, u2), (5, u6)] ⟨rfl, rfl, rfl, trivial⟩ ?_
              refine Run.slim [(3, u2), (5, u6), (7, .bool false)] ⟨rfl, rfl, rfl, trivial⟩ ?_
              exact hj2 (false) _ _ ⟨rfl, (h9.facts .nil).picks (.cons .z (.cons .z .nil))⟩ hF
          ·
            refine RunL.op (OpS.pass rfl rfl rfl ?_)
            refine RunL.op (OpS.pass rfl rfl rfl ?_)
            refine RunL.op (OpS.pass rfl rfl rfl ?_)
            refine RunL.op (OpS.pass rfl rfl rfl ?_)
            refine RunL.op (OpS.pass rfl rfl rfl ?_)
            refine RunL.op (OpS.pick rfl rfl rfl rfl ?_)
            refine RunL.op (OpS.mv rfl rfl rfl ?_)
            refine RunL.op (OpS.pass rfl rfl rfl ?_)
            refine RunL.op (OpS.pass rfl rfl rfl ?_)
            refine RunL.op (OpS.pass rfl rfl rfl ?_)
            refine RunL.op (OpS.pass rfl rfl rfl ?_)
            refine RunL.op (OpS.pass rfl rfl rfl ?_)
            refine RunL.op (OpS.pick rfl rfl rfl rfl ?_)
            refine RunL.op (OpS.as rfl rfl rfl ?_)
            refine RunL.nil ?_
            refine Run.slim [(7, .bool false), (3, u2), (5, u6)] ⟨rfl, rfl, rfl, trivial⟩ ?_
            refine Run.slim [(3, u2), (5, u6), (7, .bool false)] ⟨rfl, rfl, rfl, trivial⟩ ?_
            exact hj2 (false) _ _ ⟨rfl, (h9.facts .nil).picks (.cons .z (.cons .z .nil))⟩ hF
        ·
          refine RunL.op (OpS.pass rfl rfl rfl ?_)
          refine RunL.op (OpS.pass rfl rfl rfl ?_)
          refine RunL.op (OpS.pass rfl rfl rfl ?_)
          refine RunL.op (OpS.pass rfl rfl rfl ?_)
          refine RunL.op (OpS.pass rfl rfl rfl ?_)
          refine RunL.op (OpS.pick rfl rfl rfl rfl ?_)
          refine RunL.op (OpS.mv rfl rfl rfl ?_)
          refine RunL.op (OpS.pass rfl rfl rfl ?_)
          refine RunL.op (OpS.pass rfl rfl rfl ?_)
          refine RunL.op (OpS.pass rfl rfl rfl ?_)
          refine RunL.op (OpS.pass rfl rfl rfl ?_)
          refine RunL.op (OpS.pass rfl rfl rfl ?_)
          refine RunL.op (OpS.pick rfl rfl rfl rfl ?_)
          refine RunL.op (OpS.mv rfl rfl rfl ?_)
          refine RunL.op (OpS.pass rfl rfl rfl ?_)
          refine RunL.op (OpS.pass rfl rfl rfl ?_)
          refine RunL.op (OpS.pass rfl rfl rfl ?_)
          refine RunL.op (OpS.pass rfl rfl rfl ?_)
          refine RunL.op (OpS.pass rfl rfl rfl ?_)
          refine RunL.op (OpS.pick rfl rfl rfl rfl ?_)
          refine RunL.op (OpS.as rfl rfl rfl ?_)
          refine RunL.nil ?_
          refine Run.slim [(7, .bool false), (3, u2), (5, u6)] ⟨rfl, rfl, rfl, trivial⟩ ?_
          refine Run.slim [(3, u2), (5, u6), (7, .bool false)] ⟨rfl, rfl, rfl, trivial⟩ ?_
          exact hj2 (false) _ _ ⟨rfl, (h9.facts .nil).picks (.cons .z (.cons .z .nil))⟩ hF
  ·
    refine RunL.caseb hF (fun e11 hF => ?_) (fun e11 hF => ?_)
    ·
      refine RunL.op (OpS.pass rfl rfl rfl ?_)
      refine RunL.op (OpS.pass rfl rfl rfl ?_)
      refine RunL.op (OpS.pass rfl rfl rfl ?_)
      refine RunL.op (OpS.pick rfl rfl rfl rfl ?_)
      refine RunL.nil ?_
      refine Run.slim [(23, .bool true), (5, u6), (3, u2)] ⟨rfl, rfl, rfl, trivial⟩ ?_
      refine Run.slim [(3, u2), (5, u6), (23, .bool true)] ⟨rfl, rfl, rfl, trivial⟩ ?_
      exact hj1 (true) _ _ ⟨rfl, (h8.facts .nil).picks (.cons (.s .z) (.cons .z .nil))⟩ hF
    ·
      refine RunL.op (OpS.loadB h8 (.s .z) PA.z Get.id ty51 rfl rfl rfl (fun u7 h11 => ?_))
      obtain ⟨y2, e12, hF⟩ := bindP_use hF
      refine RunL.op (OpS.callP h11 Try.func49 rfl rfl rfl rfl (vs := [u7]) rfl (message_Valid_ok e12) (.cons (f := false) (V.at .z) .nil) ?_)
      rintro _ w8 _ _ _ ⟨rfl, rfl, rfl, rfl⟩ h12
      have h13 := h12 rfl rfl
      simp only [List.cons_append, List.nil_append] at h13
      refine RunL.op (OpS.not rfl rfl rfl ?_)
      refine RunL.op (OpS.pick rfl rfl rfl rfl ?_)
      refine RunL.nil ?_
      refine Run.slim [(23, .bool (!y2)), (5, u6), (3, u2)] ⟨rfl, rfl, rfl, trivial⟩ ?_
      refine Run.slim [(3, u2), (5, u6), (23, .bool (!y2))] ⟨rfl, rfl, rfl, trivial⟩ ?_
      exact hj1 (!y2) _ _ ⟨rfl, (h13.facts .nil).picks (.cons (.s .z) (.cons .z .nil))⟩ hF
set_option maxHeartbeats 8000000 in
theorem exchange_Receive_ok {fuel : Nat} {a0 : Requester_} {a1 : List Int} {y : Requester_ × Message_ × Message_ × Bool} (hF : exchange_Receive fuel a0 a1 = some y) {w : World} {v0 v1 : Value} :
    Spec Try.prog 28 [v0, v1].toArray w [(false, .val Requester_.rep v0 a0), (false, .val (Rep.slice (Rep.int .u8)) v1 a1)] [] (fun v Γr Ωr Ωo => ∃ u0 u1 u2 : Value, v = .tuple #[u0, u1, u2, .bool y.2.2.2] ∧ Γr = [(false, .val Requester_.rep u0 y.1), (false, .val Message_.rep u1 y.2.1), (true, .val Message_.rep u2 y.2.2.1)] ∧ Ωr = [] ∧ Ωo = []) := by
  refine Spec.of (L := [(0, v0), (1, v1)]) Try.func28 rfl ⟨rfl, rfl, trivial⟩ rfl (fun e h => ?_)
  unfold exchange_Receive at hF
  refine Run.seq ?_
  refine Run.reg ?_
  refine RunL.op (OpS.boxF h rfl rfl rfl (V.at .z) (fun u1 w1 h1 => ?_))
  refine RunL.op (OpS.alloc h1 ti26 Requester_.zr rfl rfl (fun u2 w2 h2 => ?_))
  refine RunL.op (OpS.alloc h2 ti51 Message_.zr rfl rfl (fun u3 w3 h3 => ?_))
  refine RunL.op (OpS.alloc h3 ti51 Message_.zr rfl rfl (fun u4 w4 h4 => ?_))
  refine RunL.op (OpS.as rfl rfl rfl ?_)
  refine RunL.nil ?_
  refine Run.slim [(6, u4), (5, u3), (4, u2), (2, u1), (1, v1)] ⟨rfl, rfl, rfl, rfl, rfl, trivial⟩ ?_
  refine Run.seq ?_
  refine Run.reg ?_
  refine RunL.op (OpS.loadB h4 (.s (.s (.s .z))) PA.z Get.id ty26 rfl rfl rfl (fun u5 h5 => ?_))
  obtain ⟨y1, e1, hF⟩ := bindP_use hF
  have h6 := h5.front .nil
  refine RunL.op (OpS.callO h6 Try.func38 rfl rfl rfl rfl (vs := [u5]) rfl (exchange_clone_ok e1) rfl (.cons (f := false) (V.at .z) .nil) ?_)
  rintro u6 w5 _ _ _ ⟨_, u7, rfl, rfl, rfl, rfl⟩ h7
  have h8 := h7
  simp only [List.cons_append, List.nil_append] at h8
  refine RunL.op (OpS.storeC (f' := true) (fr := (Rep.iso (fun s : Requester_ => (s.Own, s.Next, s.Pending, ())) (Rep.prod (Rep.int .u8) (Rep.prod (Rep.int .i64) (Rep.prod (Rep.raw u7) Rep.unit))))) (r' := (Rep.iso (fun s : Requester_ => (s.Own, s.Next, s.Pending, ())) (Rep.prod (Rep.int .u8) (Rep.prod (Rep.int .i64) (Rep.prod (Rep.raw u7) Rep.unit))))) (x' := y1) h8 (.s (.s (.s .z))) PA.z (Chg.id (by rfl)) (Ty.like ty26 (by rfl) (by rfl)) rfl rfl rfl (V.pure (V.at .z) (Pure.iso (Pure.prod Pure.int (Pure.prod Pure.int (Pure.prod Pure.raw Pure.unit))))) (.inl rfl) (fun w6 h9 => ?_))
  refine RunL.nil ?_
  refine Run.slim [(6, u4), (5, u3), (4, u2), (2, u1), (1, v1)] ⟨rfl, rfl, rfl, rfl, rfl, trivial⟩ ?_
  refine Run.seq ?_
  refine Run.seq ?_
  refine Run.reg ?_
  refine RunL.op (OpS.loadB h9 (.s (.s (.s (.s .z)))) PA.z Get.id ty26 rfl rfl rfl (fun u8 h10 => ?_))
  obtain ⟨y2, e2, hF⟩ := bindP_use hF
  refine RunL.op (OpS.callP h10 Try.func19 rfl rfl rfl rfl (vs := [u8]) rfl (exchange_Valid_ok e2) (.cons (f := false) (V.at .z) .nil) ?_)
  rintro _ w7 _ _ _ ⟨rfl, rfl, rfl, rfl⟩ h11
  have h12 := h11 rfl rfl
  simp only [List.cons_append, List.nil_append] at h12
  refine RunL.op (OpS.not rfl rfl rfl ?_)
  refine RunL.nil ?_
  refine Run.slim [(16, .bool (!y2)), (6, u4), (5, u3), (4, u2), (1, v1)] ⟨rfl, rfl, rfl, rfl, rfl, trivial⟩ ?_
  refine Run.ite rfl hF (fun e3 hF => ?_) (fun e3 hF => ?_)
  ·
    refine Run.seq ?_
    refine Run.reg ?_
    refine RunL.op (OpS.loadB (fr := (Rep.iso (fun s : Requester_ => (s.Own, s.Next, s.Pending, ())) (Rep.prod (Rep.int .u8) (Rep.prod (Rep.int .i64) (Rep.prod (Rep.raw u7) Rep.unit))))) h12 .z PA.z (GetS.ok GetS.id) (Ty.like ty26 (by rfl) (by rfl)) rfl rfl rfl (fun u9 h13 => ?_))
    refine RunL.op (OpS.build (f := true) (x' := Message_.z) h13 pl51 ti51 Message_.zr rfl rfl rfl .nil (fun u10 h14 => ?_))
    refine RunL.op (OpS.build (f := true) (x' := Message_.z) h14 pl51 ti51 Message_.zr rfl rfl rfl .nil (fun u11 h15 => ?_))
    refine RunL.op (OpS.storeC (f' := true) (fr := (Rep.iso (fun s : Requester_ => (s.Own, s.Next, s.Pending, ())) (Rep.prod (Rep.int .u8) (Rep.prod (Rep.int .i64) (Rep.prod (Rep.raw u7) Rep.unit))))) (r' := (Rep.iso (fun s : Requester_ => (s.Own, s.Next, s.Pending, ())) (Rep.prod (Rep.int .u8) (Rep.prod (Rep.int .i64) (Rep.prod (Rep.raw u7) Rep.unit))))) (x' := y1) h15 .z PA.z (Chg.id (by rfl)) (Ty.like ty26 (by rfl) (by rfl)) rfl rfl rfl (V.at (.s (.s .z))) (.inl rfl) (fun w8 h16 => ?_))
    refine RunL.op (OpS.storeB (f' := true) h16 (.s (.s (.s .z))) PA.z Put.id ty51 rfl rfl rfl (V.at (.s .z)) (.inl rfl) (fun w9 h17 => ?_))
    refine RunL.op (OpS.storeB (f' := true) h17 (.s (.s (.s .z))) PA.z Put.id ty51 rfl rfl rfl (V.at .z) (.inl rfl) (fun w10 h18 => ?_))
    refine RunL.op (OpS.as rfl rfl rfl ?_)
    refine RunL.nil ?_
    refine Run.slim [(7, .bool false), (6, u4), (5, u3), (4, u2)] ⟨rfl, rfl, rfl, rfl, trivial⟩ ?_
    obtain ⟨u12, hu1, h19⟩ := res_box h18 (.s (.s .z)) (Ty.like ty26 (by rfl) (by rfl))
    have h20 := (h19.pick (.s (.s (.s .z)))).freeze
    have h21 := h20.pick (.s (.s .z))
    have h22 := h21.weak
    have h23 := St.boxJ (r' := Requester_.rep) (x' := { y1 with Pending := y1.Pending }) h22 (fun _ _ hs_ => (Jn.iso _ (Jn.prod Jn.refl (Jn.prod Jn.refl (Jn.prod (Jn.raw ((V.at .z) _ _ hs_) rfl) Jn.refl)))))
    have h24 := St.addV (f := false) (r := Requester_.rep) (x := { y1 with Pending := y1.Pending }) h23 (V.jn (r := (Rep.iso (fun s : Requester_ => (s.Own, s.Next, s.Pending, ())) (Rep.prod (Rep.int .u8) (Rep.prod (Rep.int .i64) (Rep.prod (Rep.raw u7) Rep.unit))))) (x := y1) (V.weak (V.at (.s .z))) rfl (fun _ _ hs_ => (Jn.iso _ (Jn.prod Jn.refl (Jn.prod Jn.refl (Jn.prod (Jn.raw ((V.at .z) _ _ hs_) rfl) Jn.refl))))))
    obtain ⟨u13, hu2, h25⟩ := res_box h24 (.s (.s .z)) ty51
    obtain ⟨u14, hu3, h26⟩ := res_box h25 (.s .z) ty51
    refine Run.retP rfl (.cell rfl hu1 (.cell rfl hu2 (.cell rfl hu3 (.tmp rfl .nil)))) ?_
    cases hF
    exact Post.mk' ⟨u12, u13, u14, rfl, rfl, rfl, rfl⟩ (h26.picks .nil) (.val (V.at (.s (.s .z))) (.val (V.weak (V.at (.s .z))) (.val (V.at .z) .nil)))
  ·
    refine Run.skip ?_
    refine Run.seq ?_
    refine Run.reg ?_
    refine RunL.op (OpS.mv rfl rfl rfl ?_)
    obtain ⟨y3, e4, hF⟩ := bindP_use hF
    refine RunL.op (OpS.callP h12 Try.func33 rfl rfl rfl rfl (vs := [v1]) rfl (message_ParseResponse_ok e4) (.cons (f := false) (V.at (.s (.s (.s (.s .z))))) .nil) ?_)
    rintro _ w11 _ _ _ ⟨u15, rfl, rfl, rfl, rfl⟩ h27
    have h28 := h27 rfl rfl
    simp only [List.cons_append, List.nil_append] at h28
    refine RunL.op (OpS.mv rfl rfl rfl ?_)
    refine RunL.op (OpS.ext rfl rfl rfl rfl ?_)
    refine RunL.op (OpS.ext rfl rfl rfl rfl ?_)
    refine RunL.op (OpS.alloc h28 ti51 Message_.zr rfl rfl (fun u16 w12 h29 => ?_))
    refine RunL.op (OpS.storeB (f' := true) h29 .z PA.z Put.id ty51 rfl rfl rfl (V.at .z) (.inl rfl) (fun w13 h30 => ?_))
    refine RunL.op (OpS.as rfl rfl rfl ?_)
    refine RunL.nil ?_
    refine Run.slim [(9, .int .i64 y3.2), (8, u16), (6, u4), (5, u3), (4, u2)] ⟨rfl, rfl, rfl, rfl, rfl, trivial⟩ ?_
    refine Run.seq ?_
    refine Run.seq ?_
    refine Run.reg ?_
    refine RunL.op (OpS.mv rfl rfl rfl ?_)
    refine RunL.op (OpS.bin rfl rfl rfl rfl rfl ?_)
    refine RunL.nil ?_
    refine Run.slim [(26, .bool (y3.2 != 0)), (8, u16), (6, u4), (5, u3), (4, u2)] ⟨rfl, rfl, rfl, rfl, rfl, trivial⟩ ?_
    refine Run.ite rfl hF (fun e5 hF => ?_) (fun e5 hF => ?_)
    ·
      refine Run.seq ?_
      refine Run.reg ?_
      refine RunL.op (OpS.loadB (fr := (Rep.iso (fun s : Requester_ => (s.Own, s.Next, s.Pending, ())) (Rep.prod (Rep.int .u8) (Rep.prod (Rep.int .i64) (Rep.prod (Rep.raw u7) Rep.unit))))) h30 (.s .z) PA.z (GetS.ok GetS.id) (Ty.like ty26 (by rfl) (by rfl)) rfl rfl rfl (fun u17 h31 => ?_))
      refine RunL.op (OpS.build (f := true) (x' := Message_.z) h31 pl51 ti51 Message_.zr rfl rfl rfl .nil (fun u18 h32 => ?_))
      refine RunL.op (OpS.build (f := true) (x' := Message_.z) h32 pl51 ti51 Message_.zr rfl rfl rfl .nil (fun u19 h33 => ?_))
      refine RunL.op (OpS.storeC (f' := true) (fr := (Rep.iso (fun s : Requester_ => (s.Own, s.Next, s.Pending, ())) (Rep.prod (Rep.int .u8) (Rep.prod (Rep.int .i64) (Rep.prod (Rep.raw u7) Rep.unit))))) (r' := (Rep.iso (fun s : Requester_ => (s.Own, s.Next, s.Pending, ())) (Rep.prod (Rep.int .u8) (Rep.prod (Rep.int .i64) (Rep.prod (Rep.raw u7) Rep.unit))))) (x' := y1) h33 (.s .z) PA.z (Chg.id (by rfl)) (Ty.like ty26 (by rfl) (by rfl)) rfl rfl rfl (V.at (.s (.s .z))) (.inl rfl) (fun w14 h34 => ?_))
      refine RunL.op (OpS.storeB (f' := true) h34 (.s (.s (.s (.s .z)))) PA.z Put.id ty51 rfl rfl rfl (V.at (.s .z)) (.inl rfl) (fun w15 h35 => ?_))
      refine RunL.op (OpS.storeB (f' := true) h35 (.s (.s (.s (.s .z)))) PA.z Put.id ty51 rfl rfl rfl (V.at .z) (.inl rfl) (fun w16 h36 => ?_))
      refine RunL.op (OpS.as rfl rfl rfl ?_)
      refine RunL.nil ?_
      refine Run.slim [(7, .bool false), (6, u4), (5, u3), (4, u2)] ⟨rfl, rfl, rfl, rfl, trivial⟩ ?_
      obtain ⟨u20, hu4, h37⟩ := res_box h36 (.s (.s .z)) (Ty.like ty26 (by rfl) (by rfl))
      have h38 := (h37.pick (.s (.s (.s (.s .z))))).freeze
      have h39 := h38.pick (.s (.s .z))
      have h40 := h39.weak
      have h41 := St.boxJ (r' := Requester_.rep) (x' := { y1 with Pending := y1.Pending }) h40 (fun _ _ hs_ => (Jn.iso _ (Jn.prod Jn.refl (Jn.prod Jn.refl (Jn.prod (Jn.raw ((V.at .z) _ _ hs_) rfl) Jn.refl)))))
      have h42 := St.addV (f := false) (r := Requester_.rep) (x := { y1 with Pending := y1.Pending }) h41 (V.jn (r := (Rep.iso (fun s : Requester_ => (s.Own, s.Next, s.Pending, ())) (Rep.prod (Rep.int .u8) (Rep.prod (Rep.int .i64) (Rep.prod (Rep.raw u7) Rep.unit))))) (x := y1) (V.weak (V.at (.s .z))) rfl (fun _ _ hs_ => (Jn.iso _ (Jn.prod Jn.refl (Jn.prod Jn.refl (Jn.prod (Jn.raw ((V.at .z) _ _ hs_) rfl) Jn.refl))))))
      obtain ⟨u21, hu5, h43⟩ := res_box h42 (.s (.s .z)) ty51
      obtain ⟨u22, hu6, h44⟩ := res_box h43 (.s .z) ty51
      refine Run.retP rfl (.cell rfl hu4 (.cell rfl hu5 (.cell rfl hu6 (.tmp rfl .nil)))) ?_
      cases hF
      exact Post.mk' ⟨u20, u21, u22, rfl, rfl, rfl, rfl⟩ (h44.picks .nil) (.val (V.at (.s (.s .z))) (.val (V.weak (V.at (.s .z))) (.val (V.at .z) .nil)))
    ·
      refine Run.skip ?_
      refine Run.seq ?_
      refine Run.seq ?_
      refine Run.reg ?_
      refine RunL.op (OpS.fbox (o3 := 2) h30 (.s .z) PA.z fa26_2 rfl rfl rfl rfl ?_)
      refine RunL.op (OpS.loadR h30 (.s .z) PA.a (GetS.ok (GetS.iso _ (GetS.there (GetS.there (GetS.here GetS.id))))) ty24 rfl rfl rfl rfl rfl ?_)
      refine RunL.op (OpS.lenO h30 (.s (.s .z)) Try.underlying24 rfl rfl rfl ?_)
      refine RunL.op (OpS.mv rfl rfl rfl ?_)
      refine RunL.nil ?_
      refine Run.slim [(33, .int .i64 0), (32, .int .i64 (y1.Pending.length : Int)), (31, u7), (8, u16), (6, u4), (5, u3), (4, u2)] ⟨rfl, rfl, rfl, rfl, rfl, rfl, rfl, trivial⟩ ?_
      refine Run.block ?_
      refine Run.slim [(4, u2), (5, u3), (6, u4), (8, u16), (31, u7), (32, .int .i64 (y1.Pending.length : Int)), (33, .int .i64 0)] ⟨rfl, rfl, rfl, rfl, rfl, rfl, rfl, trivial⟩ ?_
      refine Run.loopP (σ := Int) (fun s_ L_ w_ => L_ = [(4, u2), (5, u3), (6, u4), (8, u16), (31, u7), (32, .int .i64 (y1.Pending.length : Int)), (33, .int .i64 s_)] ∧ St e w_ [] [(true, .box 26 (Rep.iso (fun s : Requester_ => (s.Own, s.Next, s.Pending, ())) (Rep.prod (Rep.int .u8) (Rep.prod (Rep.int .i64) (Rep.prod (Rep.raw u7) Rep.unit)))) u2 y1), (true, .box 51 Message_.rep u3 Message_.z), (true, .box 51 Message_.rep u4 Message_.z), (true, .box 51 Message_.rep u16 y3.1), (false, .slice 55 Pending_.rep u7 y1.Pending)]) hF ⟨rfl, (h30.facts .nil).picks (.cons (.s .z) (.cons (.s (.s (.s .z))) (.cons (.s (.s .z)) (.cons .z (.cons .z .nil)))))⟩ (fun k1 hk1 s1 _ w17 hI hF => ?_)
      obtain ⟨rfl, h45⟩ := hI
      refine Run.seq ?_
      refine Run.reg ?_
      refine RunL.op (OpS.bin rfl rfl rfl rfl rfl ?_)
      refine RunL.nil ?_
      refine Run.seq ?_
      refine Run.ite rfl hF (fun e6 hF => ?_) (fun e6 hF => ?_)
      ·
        refine Run.skip ?_
        refine Run.seq ?_
        refine Run.block ?_
        refine Run.seq ?_
        refine Run.reg ?_
        refine RunL.op (OpS.mv rfl rfl rfl ?_)
        obtain ⟨x1, e7, hF⟩ := bindP_use hF
        refine RunL.op (OpS.iown h45 (.s (.s (.s (.s .z)))) Try.underlying24 ty55 rfl rfl rfl rfl e7 ?_)
        refine RunL.op (OpS.loadO h45 (.s (.s (.s (.s .z)))) (idx_ne e7) PA.a (Get.arr e7) ty55 rfl rfl rfl (fun u23 h46 => ?_))
        refine RunL.op (OpS.alloc h46 ti55 Pending_.zr rfl rfl (fun u24 w18 h47 => ?_))
        refine RunL.op (OpS.as rfl rfl rfl ?_)
        have h48 := (h47.pick .z).weak
        refine RunL.op (OpS.storeB (f' := false) h48 .z PA.z Put.id ty55 rfl rfl rfl (V.at .z) (.inr rfl) (fun w19 h49 => ?_))
        refine RunL.nil ?_
        refine Run.slim [(10, .int .i64 s1), (11, u24), (4, u2), (5, u3), (6, u4), (8, u16), (31, u7), (32, .int .i64 (y1.Pending.length : Int)), (33, .int .i64 s1)] ⟨rfl, rfl, rfl, rfl, rfl, rfl, rfl, rfl, rfl, trivial⟩ ?_
        refine Run.seq ?_
        refine Run.reg ?_
        refine RunL.op (OpS.fbox (o3 := 0) h49 .z PA.z fa55_0 rfl rfl rfl rfl ?_)
        refine RunL.op (OpS.loadB h49 .z PA.a (Get.fld Pending_.f0) ty51 rfl rfl rfl (fun u25 h50 => ?_))
        refine RunL.op (OpS.loadB h50 (.s (.s (.s (.s .z)))) PA.z Get.id ty51 rfl rfl rfl (fun u26 h51 => ?_))
        obtain ⟨y4, e8, hF⟩ := bindP_use hF
        refine RunL.op (OpS.callP h51 Try.func34 rfl rfl rfl rfl (vs := [u25, u26]) rfl (message_Matches_ok e8) (.cons (f := false) (V.at (.s .z)) (.cons (f := true) (V.at .z) .nil)) ?_)
        rintro _ w20 _ _ _ ⟨rfl, rfl, rfl, rfl⟩ h52
        have h53 := h52 rfl rfl
        simp only [List.cons_append, List.nil_append] at h53
        refine RunL.nil ?_
        refine Run.slim [(41, .bool y4), (10, .int .i64 s1), (11, u24), (4, u2), (5, u3), (6, u4), (8, u16), (31, u7), (32, .int .i64 (y1.Pending.length : Int)), (33, .int .i64 s1)] ⟨rfl, rfl, rfl, rfl, rfl, rfl, rfl, rfl, rfl, rfl, trivial⟩ ?_
        refine Run.ite rfl hF (fun e9 hF => ?_) (fun e9 hF => ?_)
        ·
          refine Run.seq ?_
          have h54 := (h53.pick (.s (.s (.s (.s (.s .z)))))).freeze
          have h55 := h54.pick (.s .z)
          have h56 := h55.weak
          have h57 := St.boxJ (r' := Requester_.rep) (x' := { y1 with Pending := y1.Pending }) h56 (fun _ _ hs_ => (Jn.iso _ (Jn.prod Jn.refl (Jn.prod Jn.refl (Jn.prod (Jn.raw ((V.at .z) _ _ hs_) rfl) Jn.refl)))))
          obtain ⟨x2, e10, hF⟩ := bindP_use hF
          obtain ⟨x3, e11, hF⟩ := bindP_use hF
          obtain ⟨x4, e12, hF⟩ := bindP_use hF
          refine Run.drawV (Ωs := [(false, .box 55 Pending_.rep u24 x1), (true, .box 51 Message_.rep u3 Message_.z), (true, .box 51 Message_.rep u4 Message_.z), (true, .box 51 Message_.rep u16 y3.1)]) [⟨some 42, some ((padd u2 2)), fun _ => [], fun ds_ u_ => [], [], [(0, [])], none⟩, ⟨some 43, none, fun u_ => [(false, .val (Rep.slice Pending_.rep) u_ (({ y1 with Pending := y1.Pending }).Pending))], fun ds_ u_ => [], [], [(0, [])], none⟩, ⟨some 44, some (.int .i64 s1), fun _ => [], fun ds_ u_ => [], [], [], none⟩, ⟨some 45, some (.int .i64 s1), fun _ => [], fun ds_ u_ => [], [], [], none⟩, ⟨some 46, none, fun u_ => [(false, .val (Rep.slice Pending_.rep) u_ x2), (true, .full u_)], fun ds_ u_ => [], [], [], none⟩, ⟨some 47, some ((padd u2 2)), fun _ => [], fun ds_ u_ => [], [], [(0, [])], none⟩, ⟨some 48, none, fun u_ => [(false, .val (Rep.slice Pending_.rep) u_ (({ y1 with Pending := y1.Pending }).Pending))], fun ds_ u_ => [], [], [(0, [])], none⟩, ⟨some 49, some (.int .i64 s1), fun _ => [], fun ds_ u_ => [], [], [], none⟩, ⟨some 50, some (.int .i64 (IntKind.i64.wrap (s1 + 1))), fun _ => [], fun ds_ u_ => [], [], [], none⟩, ⟨some 51, none, fun u_ => [(false, .val (Rep.slice Pending_.rep) u_ x3)], fun ds_ u_ => [], [], [], none⟩, ⟨some 52, none, fun u_ => [(false, .val (Rep.slice Pending_.rep) u_ x4)], fun ds_ u_ => [], [], [], none⟩] [[], [0], [], [], [1, 2, 3], [], [5], [], [7], [6, 8], [4, 9]] [[(false, .box 26 Requester_.rep u2 ({ y1 with Pending := y1.Pending }))]] [0, 1, 2, 3, 4, 5, 6, 7, 8, 9, 10, 11] Try_mixed rfl rfl rfl h57 (.cons ?_ (.cons ?_ (.cons ?_ (.cons ?_ (.cons ?_ (.cons ?_ (.cons ?_ (.cons ?_ (.cons ?_ (.cons ?_ (.cons ?_ .nil))))))))))) (fun q1 w hq1 h => ?_)
          · intro q1 w Γx Ωx h
            have h : St e w ([(false, .val (Rep.slice Pending_.rep) u7 y1.Pending), (true, .val Message_.rep u26 y3.1), (false, .val Message_.rep u25 x1.Request), (false, .val Pending_.rep u23 x1)] ++ Γx) ([(false, .box 26 Requester_.rep u2 ({ y1 with Pending := y1.Pending })), (false, .box 55 Pending_.rep u24 x1), (true, .box 51 Message_.rep u3 Message_.z), (true, .box 51 Message_.rep u4 Message_.z), (true, .box 51 Message_.rep u16 y3.1)] ++ Ωx) := h
            refine OpS.fbox (o3 := 2) h .z PA.z fa26_2 rfl rfl rfl rfl ?_
            exact ⟨undef, rfl, trivial, h⟩
          · intro q1 w Γx Ωx h
            have h : St e w ([(false, .val (Rep.slice Pending_.rep) u7 y1.Pending), (true, .val Message_.rep u26 y3.1), (false, .val Message_.rep u25 x1.Request), (false, .val Pending_.rep u23 x1)] ++ Γx) ([(false, .box 26 Requester_.rep u2 ({ y1 with Pending := y1.Pending })), (false, .box 55 Pending_.rep u24 x1), (true, .box 51 Message_.rep u3 Message_.z), (true, .box 51 Message_.rep u4 Message_.z), (true, .box 51 Message_.rep u16 y3.1)] ++ Ωx) := h
            refine OpS.loadB h .z PA.a (Get.fld Requester_.f2) ty24 rfl rfl rfl (fun u h63 => ?_)
            exact ⟨u, rfl, trivial, h63⟩
          · intro q1 w Γx Ωx h
            refine OpS.mv rfl rfl rfl ?_
            exact ⟨undef, rfl, trivial, h⟩
          · intro q1 w Γx Ωx h
            refine OpS.mv rfl rfl rfl ?_
            exact ⟨undef, rfl, trivial, h⟩
          · intro q1 w Γx Ωx h
            refine OpS.sub3F h Try.underlying24 ty55 rfl rfl rfl rfl rfl rfl (V.at .z) e10 (fun u h64 => ?_)
            exact ⟨u, rfl, trivial, h64⟩
          · intro q1 w Γx Ωx h
            have h : St e w ([(false, .val (Rep.slice Pending_.rep) u7 y1.Pending), (true, .val Message_.rep u26 y3.1), (false, .val Message_.rep u25 x1.Request), (false, .val Pending_.rep u23 x1)] ++ Γx) ([(false, .box 26 Requester_.rep u2 ({ y1 with Pending := y1.Pending })), (false, .box 55 Pending_.rep u24 x1), (true, .box 51 Message_.rep u3 Message_.z), (true, .box 51 Message_.rep u4 Message_.z), (true, .box 51 Message_.rep u16 y3.1)] ++ Ωx) := h
            refine OpS.fbox (o3 := 2) h .z PA.z fa26_2 rfl rfl rfl rfl ?_
            exact ⟨undef, rfl, trivial, h⟩
          · intro q1 w Γx Ωx h
            have h : St e w ([(false, .val (Rep.slice Pending_.rep) u7 y1.Pending), (true, .val Message_.rep u26 y3.1), (false, .val Message_.rep u25 x1.Request), (false, .val Pending_.rep u23 x1)] ++ Γx) ([(false, .box 26 Requester_.rep u2 ({ y1 with Pending := y1.Pending })), (false, .box 55 Pending_.rep u24 x1), (true, .box 51 Message_.rep u3 Message_.z), (true, .box 51 Message_.rep u4 Message_.z), (true, .box 51 Message_.rep u16 y3.1)] ++ Ωx) := h
            refine OpS.loadB h .z PA.a (Get.fld Requester_.f2) ty24 rfl rfl rfl (fun u h65 => ?_)
            exact ⟨u, rfl, trivial, h65⟩
          · intro q1 w Γx Ωx h
            refine OpS.mv rfl rfl rfl ?_
            exact ⟨undef, rfl, trivial, h⟩
          · intro q1 w Γx Ωx h
            refine OpS.bin rfl rfl rfl rfl rfl ?_
            exact ⟨undef, rfl, trivial, h⟩
          · intro q1 w Γx Ωx h
            refine OpS.sub h Try.underlying24 ty55 rfl rfl rfl rfl rfl (V.at .z) e11 (fun u h66 => ?_)
            exact ⟨u, rfl, trivial, h66⟩
          · intro q1 w Γx Ωx h
            refine OpS.appF (f := false) (f' := false) (f3 := false) h (V.at .z) (.s .z) rfl Try.underlying24 ti55 rfl rfl rfl rfl rfl rfl rfl (V.at (.s (.s .z))) e12 (fun u w22 h67 => ?_)
            exact ⟨u, rfl, trivial, h67⟩
          have h68 : St e w [(false, .val (Rep.slice Pending_.rep) (q1 1) (({ y1 with Pending := y1.Pending }).Pending)), (false, .val (Rep.slice Pending_.rep) (q1 4) x2), (true, .full (q1 4)), (false, .val (Rep.slice Pending_.rep) (q1 6) (({ y1 with Pending := y1.Pending }).Pending)), (false, .val (Rep.slice Pending_.rep) (q1 9) x3), (false, .val (Rep.slice Pending_.rep) (q1 10) x4), (false, .val (Rep.slice Pending_.rep) u7 y1.Pending), (true, .val Message_.rep u26 y3.1), (false, .val Message_.rep u25 x1.Request), (false, .val Pending_.rep u23 x1)] [(false, .box 26 Requester_.rep u2 ({ y1 with Pending := y1.Pending })), (false, .box 55 Pending_.rep u24 x1), (true, .box 51 Message_.rep u3 Message_.z), (true, .box 51 Message_.rep u4 Message_.z), (true, .box 51 Message_.rep u16 y3.1)] := h
          refine RunL.op (OpS.fbox (o3 := 2) h68 .z PA.z fa26_2 rfl rfl rfl rfl ?_)
          obtain ⟨d1, e13, hF⟩ := letP_use hF
          refine RunL.op (OpS.storeB (f' := false) h68 .z PA.a (Put.of (Put.fld Requester_.f2) e13) ty24 rfl rfl rfl (V.at (.s (.s (.s (.s (.s .z)))))) (.inr rfl) (fun w23 h69 => ?_))
          refine RunL.nil ?_
          refine Run.slim [(11, u24), (4, u2), (5, u3), (6, u4), (8, u16)] ⟨rfl, rfl, rfl, rfl, rfl, trivial⟩ ?_
          refine Run.seq ?_
          have h70 := h69.picks (.cons .z (.cons .z (.cons .z (.cons (.s .z) (.cons .z .nil)))))
          refine Run.drawV (Ωs := [(true, .box 51 Message_.rep u4 Message_.z)]) [⟨some 54, none, fun u_ => [(false, .val Requester_.rep u_ d1)], fun ds_ u_ => [], [], [(0, [])], none⟩, ⟨some 55, some ((padd u24 0)), fun _ => [], fun ds_ u_ => [], [], [(1, [])], none⟩, ⟨some 56, none, fun u_ => [(false, .val Message_.rep u_ x1.Request)], fun ds_ u_ => [], [], [(1, [])], none⟩, ⟨some 57, none, fun u_ => [(true, .val Message_.rep u_ y3.1)], fun ds_ u_ => [], [], [(3, [])], none⟩, ⟨none, some undef, fun _ => [], fun ds_ u_ => [], [], [(0, [])], none⟩, ⟨none, some undef, fun _ => [], fun ds_ u_ => [(false, .box 51 Message_.rep u3 x1.Request)], [2], [], none⟩] [[], [], [1], [], [0], [2]] [[(false, .box 26 Requester_.rep u2 d1)], [(false, .box 55 Pending_.rep u24 x1)], [(true, .box 51 Message_.rep u3 Message_.z)], [(true, .box 51 Message_.rep u16 y3.1)]] [0, 1, 3, 4, 5, 6, 7, 8, 9] Try_mixed rfl rfl rfl h70 (.cons ?_ (.cons ?_ (.cons ?_ (.cons ?_ (.cons ?_ (.cons ?_ .nil)))))) (fun q2 w hq2 h => ?_)
          · intro q2 w Γx Ωx h
            have h : St e w ([(false, .val (Rep.slice Pending_.rep) (q1 1) (({ y1 with Pending := y1.Pending }).Pending)), (false, .val (Rep.slice Pending_.rep) (q1 4) x2), (true, .full (q1 4)), (false, .val (Rep.slice Pending_.rep) (q1 6) (({ y1 with Pending := y1.Pending }).Pending)), (false, .val (Rep.slice Pending_.rep) (q1 9) x3), (false, .val (Rep.slice Pending_.rep) (q1 10) x4), (false, .val (Rep.slice Pending_.rep) u7 y1.Pending), (true, .val Message_.rep u26 y3.1), (false, .val Message_.rep u25 x1.Request), (false, .val Pending_.rep u23 x1)] ++ Γx) ([(false, .box 26 Requester_.rep u2 d1), (true, .box 51 Message_.rep u4 Message_.z)] ++ Ωx) := h
            refine OpS.loadB h .z PA.z Get.id ty26 rfl rfl rfl (fun u h77 => ?_)
            exact ⟨u, rfl, trivial, h77⟩
          · intro q2 w Γx Ωx h
            have h : St e w ([(false, .val (Rep.slice Pending_.rep) (q1 1) (({ y1 with Pending := y1.Pending }).Pending)), (false, .val (Rep.slice Pending_.rep) (q1 4) x2), (true, .full (q1 4)), (false, .val (Rep.slice Pending_.rep) (q1 6) (({ y1 with Pending := y1.Pending }).Pending)), (false, .val (Rep.slice Pending_.rep) (q1 9) x3), (false, .val (Rep.slice Pending_.rep) (q1 10) x4), (false, .val (Rep.slice Pending_.rep) u7 y1.Pending), (true, .val Message_.rep u26 y3.1), (false, .val Message_.rep u25 x1.Request), (false, .val Pending_.rep u23 x1)] ++ Γx) ([(false, .box 55 Pending_.rep u24 x1), (true, .box 51 Message_.rep u4 Message_.z)] ++ Ωx) := h
            refine OpS.fbox (o3 := 0) h .z PA.z fa55_0 rfl rfl rfl rfl ?_
            exact ⟨undef, rfl, trivial, h⟩
          · intro q2 w Γx Ωx h
            have h : St e w ([(false, .val (Rep.slice Pending_.rep) (q1 1) (({ y1 with Pending := y1.Pending }).Pending)), (false, .val (Rep.slice Pending_.rep) (q1 4) x2), (true, .full (q1 4)), (false, .val (Rep.slice Pending_.rep) (q1 6) (({ y1 with Pending := y1.Pending }).Pending)), (false, .val (Rep.slice Pending_.rep) (q1 9) x3), (false, .val (Rep.slice Pending_.rep) (q1 10) x4), (false, .val (Rep.slice Pending_.rep) u7 y1.Pending), (true, .val Message_.rep u26 y3.1), (false, .val Message_.rep u25 x1.Request), (false, .val Pending_.rep u23 x1)] ++ Γx) ([(false, .box 55 Pending_.rep u24 x1), (true, .box 51 Message_.rep u4 Message_.z)] ++ Ωx) := h
            refine OpS.loadB h .z PA.a (Get.fld Pending_.f0) ty51 rfl rfl rfl (fun u h78 => ?_)
            exact ⟨u, rfl, trivial, h78⟩
          · intro q2 w Γx Ωx h
            have h : St e w ([(false, .val (Rep.slice Pending_.rep) (q1 1) (({ y1 with Pending := y1.Pending }).Pending)), (false, .val (Rep.slice Pending_.rep) (q1 4) x2), (true, .full (q1 4)), (false, .val (Rep.slice Pending_.rep) (q1 6) (({ y1 with Pending := y1.Pending }).Pending)), (false, .val (Rep.slice Pending_.rep) (q1 9) x3), (false, .val (Rep.slice Pending_.rep) (q1 10) x4), (false, .val (Rep.slice Pending_.rep) u7 y1.Pending), (true, .val Message_.rep u26 y3.1), (false, .val Message_.rep u25 x1.Request), (false, .val Pending_.rep u23 x1)] ++ Γx) ([(true, .box 51 Message_.rep u16 y3.1), (true, .box 51 Message_.rep u4 Message_.z)] ++ Ωx) := h
            refine OpS.loadB h .z PA.z Get.id ty51 rfl rfl rfl (fun u h79 => ?_)
            exact ⟨u, rfl, trivial, h79⟩
          · intro q2 w Γx Ωx h
            have h : St e w ([(false, .val Requester_.rep (q2 0) d1), (false, .val (Rep.slice Pending_.rep) (q1 1) (({ y1 with Pending := y1.Pending }).Pending)), (false, .val (Rep.slice Pending_.rep) (q1 4) x2), (true, .full (q1 4)), (false, .val (Rep.slice Pending_.rep) (q1 6) (({ y1 with Pending := y1.Pending }).Pending)), (false, .val (Rep.slice Pending_.rep) (q1 9) x3), (false, .val (Rep.slice Pending_.rep) (q1 10) x4), (false, .val (Rep.slice Pending_.rep) u7 y1.Pending), (true, .val Message_.rep u26 y3.1), (false, .val Message_.rep u25 x1.Request), (false, .val Pending_.rep u23 x1)] ++ Γx) ([(false, .box 26 Requester_.rep u2 d1), (true, .box 51 Message_.rep u4 Message_.z)] ++ Ωx) := h
            refine OpS.storeB (f' := false) h .z PA.z Put.id ty26 rfl rfl rfl (V.at .z) (.inr rfl) (fun w26 h80 => ?_)
            exact ⟨undef, trivial, trivial, h80⟩
          · intro q2 w Γx Ωx h
            have h : St e w ([(false, .val Message_.rep (q2 2) x1.Request), (false, .val (Rep.slice Pending_.rep) (q1 1) (({ y1 with Pending := y1.Pending }).Pending)), (false, .val (Rep.slice Pending_.rep) (q1 4) x2), (true, .full (q1 4)), (false, .val (Rep.slice Pending_.rep) (q1 6) (({ y1 with Pending := y1.Pending }).Pending)), (false, .val (Rep.slice Pending_.rep) (q1 9) x3), (false, .val (Rep.slice Pending_.rep) (q1 10) x4), (false, .val (Rep.slice Pending_.rep) u7 y1.Pending), (true, .val Message_.rep u26 y3.1), (false, .val Message_.rep u25 x1.Request), (false, .val Pending_.rep u23 x1)] ++ Γx) ([(true, .box 51 Message_.rep u3 Message_.z), (true, .box 51 Message_.rep u4 Message_.z)] ++ Ωx) := h
            have h81 := (h.pick .z).weak
            refine OpS.storeB (f' := false) h81 .z PA.z Put.id ty51 rfl rfl rfl (V.at .z) (.inr rfl) (fun w27 h82 => ?_)
            exact ⟨undef, trivial, trivial, h82⟩
          have h83 : St e w [(false, .val Requester_.rep (q2 0) d1), (false, .val Message_.rep (q2 2) x1.Request), (true, .val Message_.rep (q2 3) y3.1), (false, .val (Rep.slice Pending_.rep) (q1 1) (({ y1 with Pending := y1.Pending }).Pending)), (false, .val (Rep.slice Pending_.rep) (q1 4) x2), (true, .full (q1 4)), (false, .val (Rep.slice Pending_.rep) (q1 6) (({ y1 with Pending := y1.Pending }).Pending)), (false, .val (Rep.slice Pending_.rep) (q1 9) x3), (false, .val (Rep.slice Pending_.rep) (q1 10) x4), (false, .val (Rep.slice Pending_.rep) u7 y1.Pending), (true, .val Message_.rep u26 y3.1), (false, .val Message_.rep u25 x1.Request), (false, .val Pending_.rep u23 x1)] [(false, .box 26 Requester_.rep u2 d1), (false, .box 55 Pending_.rep u24 x1), (true, .box 51 Message_.rep u16 y3.1), (false, .box 51 Message_.rep u3 x1.Request), (true, .box 51 Message_.rep u4 Message_.z)] := h
          refine RunL.op (OpS.storeB (f' := true) h83 (.s (.s (.s (.s .z)))) PA.z Put.id ty51 rfl rfl rfl (V.at (.s (.s .z))) (.inl rfl) (fun w28 h84 => ?_))
          refine RunL.op (OpS.as rfl rfl rfl ?_)
          refine RunL.nil ?_
          refine Run.slim [(7, .bool true), (4, u2), (5, u3), (6, u4)] ⟨rfl, rfl, rfl, rfl, trivial⟩ ?_
          obtain ⟨u27, hu7, h85⟩ := res_box h84 (.s .z) ty26
          obtain ⟨u28, hu8, h86⟩ := res_box h85 (.s (.s (.s (.s .z)))) ty51
          obtain ⟨u29, hu9, h87⟩ := res_box h86 .z ty51
          refine Run.retP rfl (.cell rfl hu7 (.cell rfl hu8 (.cell rfl hu9 (.tmp rfl .nil)))) ?_
          cases hF
          exact Post.mk' ⟨u27, u28, u29, rfl, rfl, rfl, rfl⟩ (h87.picks .nil) (.val (V.at (.s (.s .z))) (.val (V.at (.s .z)) (.val (V.at .z) .nil)))
        ·
          refine Run.skip ?_
          refine Run.endBlock ?_
          refine Run.reg ?_
          refine RunL.op (OpS.bin rfl rfl rfl rfl rfl ?_)
          refine RunL.op (OpS.mv rfl rfl rfl ?_)
          refine RunL.nil ?_
          refine Run.slim [(33, .int .i64 (IntKind.i64.wrap (s1 + 1))), (4, u2), (5, u3), (6, u4), (8, u16), (31, u7), (32, .int .i64 (y1.Pending.length : Int))] ⟨rfl, rfl, rfl, rfl, rfl, rfl, rfl, trivial⟩ ?_
          refine Run.slim [(4, u2), (5, u3), (6, u4), (8, u16), (31, u7), (32, .int .i64 (y1.Pending.length : Int)), (33, .int .i64 (IntKind.i64.wrap (s1 + 1)))] ⟨rfl, rfl, rfl, rfl, rfl, rfl, rfl, trivial⟩ ?_
          exact hk1 ((IntKind.i64.wrap (s1 + 1))) _ _ ⟨rfl, (h53.facts .nil).picks (.cons (.s .z) (.cons (.s .z) (.cons (.s .z) (.cons (.s .z) (.cons (.s .z) .nil)))))⟩ hF
      ·
        refine Run.exit rfl ?_
        refine Run.seq ?_
        refine Run.reg ?_
        refine RunL.op (OpS.loadB (fr := (Rep.iso (fun s : Requester_ => (s.Own, s.Next, s.Pending, ())) (Rep.prod (Rep.int .u8) (Rep.prod (Rep.int .i64) (Rep.prod (Rep.raw u7) Rep.unit))))) h45 .z PA.z (GetS.ok GetS.id) (Ty.like ty26 (by rfl) (by rfl)) rfl rfl rfl (fun u30 h88 => ?_))
        refine RunL.op (OpS.build (f := true) (x' := Message_.z) h88 pl51 ti51 Message_.zr rfl rfl rfl .nil (fun u31 h89 => ?_))
        refine RunL.op (OpS.build (f := true) (x' := Message_.z) h89 pl51 ti51 Message_.zr rfl rfl rfl .nil (fun u32 h90 => ?_))
        refine RunL.op (OpS.storeC (f' := true) (fr := (Rep.iso (fun s : Requester_ => (s.Own, s.Next, s.Pending, ())) (Rep.prod (Rep.int .u8) (Rep.prod (Rep.int .i64) (Rep.prod (Rep.raw u7) Rep.unit))))) (r' := (Rep.iso (fun s : Requester_ => (s.Own, s.Next, s.Pending, ())) (Rep.prod (Rep.int .u8) (Rep.prod (Rep.int .i64) (Rep.prod (Rep.raw u7) Rep.unit))))) (x' := y1) h90 .z PA.z (Chg.id (by rfl)) (Ty.like ty26 (by rfl) (by rfl)) rfl rfl rfl (V.at (.s (.s .z))) (.inl rfl) (fun w29 h91 => ?_))
        refine RunL.op (OpS.storeB (f' := true) h91 (.s .z) PA.z Put.id ty51 rfl rfl rfl (V.at (.s .z)) (.inl rfl) (fun w30 h92 => ?_))
        refine RunL.op (OpS.storeB (f' := true) h92 (.s (.s .z)) PA.z Put.id ty51 rfl rfl rfl (V.at .z) (.inl rfl) (fun w31 h93 => ?_))
        refine RunL.op (OpS.as rfl rfl rfl ?_)
        refine RunL.nil ?_
        refine Run.slim [(7, .bool false), (4, u2), (5, u3), (6, u4)] ⟨rfl, rfl, rfl, rfl, trivial⟩ ?_
        obtain ⟨u33, hu10, h94⟩ := res_box h93 (.s (.s .z)) (Ty.like ty26 (by rfl) (by rfl))
        have h95 := (h94.pick (.s (.s (.s (.s .z))))).freeze
        have h96 := h95.pick (.s (.s .z))
        have h97 := h96.weak
        have h98 := St.boxJ (r' := Requester_.rep) (x' := { y1 with Pending := y1.Pending }) h97 (fun _ _ hs_ => (Jn.iso _ (Jn.prod Jn.refl (Jn.prod Jn.refl (Jn.prod (Jn.raw ((V.at .z) _ _ hs_) rfl) Jn.refl)))))
        have h99 := St.addV (f := false) (r := Requester_.rep) (x := { y1 with Pending := y1.Pending }) h98 (V.jn (r := (Rep.iso (fun s : Requester_ => (s.Own, s.Next, s.Pending, ())) (Rep.prod (Rep.int .u8) (Rep.prod (Rep.int .i64) (Rep.prod (Rep.raw u7) Rep.unit))))) (x := y1) (V.weak (V.at (.s .z))) rfl (fun _ _ hs_ => (Jn.iso _ (Jn.prod Jn.refl (Jn.prod Jn.refl (Jn.prod (Jn.raw ((V.at .z) _ _ hs_) rfl) Jn.refl))))))
        obtain ⟨u34, hu11, h100⟩ := res_box h99 (.s (.s .z)) ty51
        obtain ⟨u35, hu12, h101⟩ := res_box h100 (.s .z) ty51
        refine Run.retP rfl (.cell rfl hu10 (.cell rfl hu11 (.cell rfl hu12 (.tmp rfl .nil)))) ?_
        cases hF
        exact Post.mk' ⟨u33, u34, u35, rfl, rfl, rfl, rfl⟩ (h101.picks .nil) (.val (V.at (.s (.s .z))) (.val (V.weak (V.at (.s .z))) (.val (V.at .z) .nil)))
set_option maxHeartbeats 8000000 in
theorem law24_ExchangeAnswers_ok {fuel : Nat} {a0 : List Int} {a1 : List Int} {a2 : List Int} {a3 : Int} {y : Bool} (hF : law24_ExchangeAnswers fuel a0 a1 a2 a3 = some y) {w : World} {v0 v1 v2 : Value} :
    Spec Try.prog 4 [v0, v1, v2, .int .i64 a3].toArray w [(false, .val (Rep.slice (Rep.int .u8)) v0 a0), (false, .val (Rep.slice (Rep.int .u8)) v1 a1), (false, .val (Rep.slice (Rep.int .u8)) v2 a2)] [] (fun v Γr Ωr Ωo => v = .bool y ∧ Γr = [] ∧ Ωr = [] ∧ Ωo = []) := by
  refine Spec.of (L := [(0, v0), (1, v1), (2, v2), (3, .int .i64 a3)]) Try.func4 rfl ⟨rfl, rfl, rfl, rfl, trivial⟩ rfl (fun e h => ?_)
  unfold law24_ExchangeAnswers at hF
  refine Run.seq ?_
  refine Run.reg ?_
  refine RunL.op (OpS.as rfl rfl rfl ?_)
  refine RunL.nil ?_
  refine Run.slim [(0, v0), (1, v1), (2, v2), (3, .int .i64 a3)] ⟨rfl, rfl, rfl, rfl, trivial⟩ ?_
  refine Run.seq ?_
  refine Run.seq ?_
  refine Run.reg ?_
  obtain ⟨y1, e1, hF⟩ := bindP_use hF
  refine RunL.op (OpS.callP h Try.func8 rfl rfl rfl rfl (vs := []) rfl (law24_awake_ok e1) .nil ?_)
  rintro _ w1 _ _ _ ⟨rfl, rfl, rfl, rfl⟩ h1
  have h2 := h1 rfl rfl
  simp only [List.cons_append, List.nil_append] at h2
  refine RunL.op (OpS.not rfl rfl rfl ?_)
  refine RunL.nil ?_
  refine Run.slim [(47, .bool (!y1)), (0, v0), (1, v1), (2, v2), (3, .int .i64 a3)] ⟨rfl, rfl, rfl, rfl, rfl, trivial⟩ ?_
  refine Run.ite rfl hF (fun e2 hF => ?_) (fun e2 hF => ?_)
  ·
    refine Run.seq ?_
    refine Run.reg ?_
    refine RunL.op (OpS.as rfl rfl rfl ?_)
    refine RunL.nil ?_
    refine Run.slim [(8, .bool false)] ⟨rfl, trivial⟩ ?_
    refine Run.retP rfl (.tmp rfl .nil) ?_
    cases hF
    exact Post.mk' ⟨rfl, rfl, rfl, rfl⟩ (h2.picks .nil) .nil
  ·
    refine Run.skip ?_
    refine Run.seq ?_
    refine Run.seq ?_
    refine Run.reg ?_
    refine RunL.op (OpS.mv rfl rfl rfl ?_)
    refine RunL.op (OpS.len h2 Try.underlying22 rfl rfl rfl (V.at (.s .z)) ?_)
    refine RunL.op (OpS.bin rfl rfl rfl rfl rfl ?_)
    refine RunL.op (OpS.mv rfl rfl rfl ?_)
    refine RunL.join (σ := Bool) (fun s_ L_ w_ => L_ = [(0, v0), (1, v1), (2, v2), (3, .int .i64 a3), (55, .bool s_)] ∧ St e w_ [(false, .val (Rep.slice (Rep.int .u8)) v0 a0), (false, .val (Rep.slice (Rep.int .u8)) v1 a1), (false, .val (Rep.slice (Rep.int .u8)) v2 a2)] []) hF (fun s1 _ w2 hI hF => ?_) (fun j1 hj1 hF => ?_)
    ·
      obtain ⟨rfl, h3⟩ := hI
      refine Run.ite rfl hF (fun e3 hF => ?_) (fun e3 hF => ?_)
      ·
        refine Run.seq ?_
        refine Run.reg ?_
        refine RunL.op (OpS.as rfl rfl rfl ?_)
        refine RunL.nil ?_
        refine Run.slim [(8, .bool true)] ⟨rfl, trivial⟩ ?_
        refine Run.retP rfl (.tmp rfl .nil) ?_
        cases hF
        exact Post.mk' ⟨rfl, rfl, rfl, rfl⟩ (h3.picks .nil) .nil
      ·
        refine Run.skip ?_
        refine Run.seq ?_
        refine Run.reg ?_
        refine RunL.op (OpS.mv rfl rfl rfl ?_)
        obtain ⟨y2, e4, hF⟩ := bindP_use hF
        have h4 := h3.front .nil
        refine RunL.op (OpS.callO h4 Try.func12 rfl rfl rfl rfl (vs := [v0, .int .i64 160]) rfl (field_New_ok e4) rfl (.cons (f := false) (V.at .z) .nil) ?_)
        rintro u1 w3 _ _ _ ⟨_, rfl, rfl, rfl, rfl⟩ h5
        have h6 := h5
        simp only [List.cons_append, List.nil_append] at h6
        refine RunL.op (OpS.as rfl rfl rfl ?_)
        refine RunL.nil ?_
        refine Run.slim [(9, u1), (1, v1), (2, v2), (3, .int .i64 a3)] ⟨rfl, rfl, rfl, rfl, trivial⟩ ?_
        refine Run.seq ?_
        refine Run.reg ?_
        refine RunL.op (OpS.mv rfl rfl rfl ?_)
        obtain ⟨y3, e5, hF⟩ := bindP_use hF
        have h7 := h6.front (.cons .z .nil)
        refine RunL.op (OpS.callO h7 Try.func13 rfl rfl rfl rfl (vs := [u1, .int .i64 12]) rfl (law24_play_ok e5) rfl .nil ?_)
        rintro _ w4 _ _ _ ⟨u2, rfl, rfl, rfl, rfl⟩ h8
        have h9 := h8
        simp only [List.cons_append, List.nil_append] at h9
        refine RunL.op (OpS.mv rfl rfl rfl ?_)
        refine RunL.op (OpS.ext rfl rfl rfl rfl ?_)
        refine RunL.op (OpS.ext rfl rfl rfl rfl ?_)
        refine RunL.op (OpS.alloc h9 ti26 Requester_.zr rfl rfl (fun u3 w5 h10 => ?_))
        refine RunL.op (OpS.storeB (f' := true) h10 .z PA.z Put.id ty26 rfl rfl rfl (V.at .z) (.inl rfl) (fun w6 h11 => ?_))
        refine RunL.op (OpS.as rfl rfl rfl ?_)
        refine RunL.nil ?_
        refine Run.slim [(11, .int .i64 y3.2.1), (10, u3), (9, u1), (1, v1), (2, v2), (3, .int .i64 a3)] ⟨rfl, rfl, rfl, rfl, rfl, rfl, trivial⟩ ?_
        refine Run.seq ?_
        refine Run.reg ?_
        refine RunL.op (OpS.mv rfl rfl rfl ?_)
        obtain ⟨y4, e6, hF⟩ := bindP_use hF
        have h12 := h11.front (.cons (.s .z) .nil)
        refine RunL.op (OpS.callO h12 Try.func14 rfl rfl rfl rfl (vs := [u1, .int .i64 256]) rfl (field_Codes_Next_ok e6) rfl .nil ?_)
        rintro _ w7 _ _ _ ⟨rfl, rfl, rfl, rfl⟩ h13
        have h14 := h13
        simp only [List.cons_append, List.nil_append] at h14
        refine RunL.op (OpS.conv Try.underlying3 Try.underlying5 rfl rfl rfl ?_)
        refine RunL.op (OpS.as rfl rfl rfl ?_)
        refine RunL.nil ?_
        refine Run.slim [(12, .int .u8 (IntKind.u8.wrap y4.1)), (11, .int .i64 y3.2.1), (10, u3), (9, u1), (1, v1), (2, v2), (3, .int .i64 a3)] ⟨rfl, rfl, rfl, rfl, rfl, rfl, rfl, trivial⟩ ?_
        refine Run.seq ?_
        refine Run.reg ?_
        refine RunL.op (OpS.mv rfl rfl rfl ?_)
        obtain ⟨y5, e7, hF⟩ := bindP_use hF
        refine RunL.op (OpS.callP h14 Try.func9 rfl rfl rfl rfl (vs := [.int .u8 (IntKind.u8.wrap y4.1)]) rfl (exchange_New_ok e7) .nil ?_)
        rintro _ w8 _ _ _ ⟨u4, rfl, rfl, rfl, rfl⟩ h15
        have h16 := h15 rfl rfl
        simp only [List.cons_append, List.nil_append] at h16
        refine RunL.op (OpS.mv rfl rfl rfl ?_)
        refine RunL.op (OpS.ext rfl rfl rfl rfl ?_)
        refine RunL.op (OpS.ext rfl rfl rfl rfl ?_)
        refine RunL.op (OpS.alloc h16 ti26 Requester_.zr rfl rfl (fun u5 w9 h17 => ?_))
        refine RunL.op (OpS.storeB (f' := true) h17 .z PA.z Put.id ty26 rfl rfl rfl (V.at .z) (.inl rfl) (fun w10 h18 => ?_))
        refine RunL.op (OpS.as rfl rfl rfl ?_)
        refine RunL.nil ?_
        refine Run.slim [(14, .int .i64 y5.2), (13, u5), (12, .int .u8 (IntKind.u8.wrap y4.1)), (11, .int .i64 y3.2.1), (10, u3), (9, u1), (1, v1), (2, v2), (3, .int .i64 a3)] ⟨rfl, rfl, rfl, rfl, rfl, rfl, rfl, rfl, rfl, trivial⟩ ?_
        refine Run.seq ?_
        refine Run.reg ?_
        refine RunL.op (OpS.mv rfl rfl rfl ?_)
        obtain ⟨y6, e8, hF⟩ := bindP_use hF
        refine RunL.op (OpS.callP h18 Try.func15 rfl rfl rfl rfl (vs := [.int .u8 (IntKind.u8.wrap y4.1)]) rfl (ref24_New_ok e8) .nil ?_)
        rintro _ w11 _ _ _ ⟨u6, rfl, rfl, rfl, rfl⟩ h19
        have h20 := h19 rfl rfl
        simp only [List.cons_append, List.nil_append] at h20
        refine RunL.op (OpS.mv rfl rfl rfl ?_)
        refine RunL.op (OpS.ext rfl rfl rfl rfl ?_)
        refine RunL.op (OpS.ext rfl rfl rfl rfl ?_)
        refine RunL.op (OpS.alloc h20 ti26 Requester_.zr rfl rfl (fun u7 w12 h21 => ?_))
        refine RunL.op (OpS.storeB (f' := true) h21 .z PA.z Put.id ty26 rfl rfl rfl (V.at .z) (.inl rfl) (fun w13 h22 => ?_))
        refine RunL.op (OpS.as rfl rfl rfl ?_)
        refine RunL.nil ?_
        refine Run.slim [(16, .int .i64 y6.2), (15, u7), (14, .int .i64 y5.2), (13, u5), (11, .int .i64 y3.2.1), (10, u3), (9, u1), (1, v1), (2, v2), (3, .int .i64 a3)] ⟨rfl, rfl, rfl, rfl, rfl, rfl, rfl, rfl, rfl, rfl, trivial⟩ ?_
        refine Run.seq ?_
        refine Run.seq ?_
        refine Run.reg ?_
        refine RunL.op (OpS.mv rfl rfl rfl ?_)
        refine RunL.op (OpS.mv rfl rfl rfl ?_)
        refine RunL.op (OpS.bin rfl rfl rfl rfl rfl ?_)
        refine RunL.op (OpS.mv rfl rfl rfl ?_)
        refine RunL.join (σ := Bool) (fun s_ L_ w_ => L_ = [(1, v1), (2, v2), (3, .int .i64 a3), (9, u1), (10, u3), (11, .int .i64 y3.2.1), (84, .bool s_)] ∧ St e w_ [(false, .val (Rep.slice (Rep.int .u8)) v1 a1), (false, .val (Rep.slice (Rep.int .u8)) v2 a2)] [(false, .box 72 field_Codes.rep u1 y4.2), (true, .box 26 Requester_.rep u3 y3.1)]) hF (fun s2 _ w14 hI hF => ?_) (fun j2 hj2 hF => ?_)
        ·
          obtain ⟨rfl, h23⟩ := hI
          refine Run.ite rfl hF (fun e9 hF => ?_) (fun e9 hF => ?_)
          ·
            refine Run.seq ?_
            refine Run.reg ?_
            refine RunL.op (OpS.as rfl rfl rfl ?_)
            refine RunL.nil ?_
            refine Run.slim [(8, .bool false)] ⟨rfl, trivial⟩ ?_
            refine Run.retP rfl (.tmp rfl .nil) ?_
            cases hF
            exact Post.mk' ⟨rfl, rfl, rfl, rfl⟩ (h23.picks .nil) .nil
          ·
            refine Run.skip ?_
            refine Run.seq ?_
            refine Run.seq ?_
            obtain ⟨y7, e10, hF⟩ := bindP_use hF
            refine Run.drawV (Ωs := []) [⟨some 85, none, fun u_ => [(true, .val Requester_.rep u_ y3.1)], fun ds_ u_ => [], [], [(1, [])], none⟩, ⟨some 86, some (u1), fun _ => [], fun ds_ u_ => [], [], [], none⟩, ⟨some 87, none, fun u_ => [(true, .val Requester_.rep u_ y3.1)], fun ds_ u_ => [], [], [(1, [])], none⟩, ⟨some 88, none, fun u_ => [(true, .val Requester_.rep u_ y7.1)], fun ds_ u_ => [(false, .box 72 field_Codes.rep u1 y7.2)], [0], [], none⟩, ⟨some 89, none, fun u_ => [(true, .val (Rep.slice Requester_.rep) u_ ([y3.1, y7.1]))], fun ds_ u_ => [], [], [], none⟩, ⟨some 90, some (.int .i64 (([y3.1, y7.1]).length : Int)), fun _ => [], fun ds_ u_ => [], [], [], none⟩, ⟨some 91, some (.int .i64 0), fun _ => [], fun ds_ u_ => [], [], [], none⟩] [[], [], [], [1, 2], [0, 3], [4], []] [[(false, .box 72 field_Codes.rep u1 y4.2)], [(true, .box 26 Requester_.rep u3 y3.1)]] [1, 2, 3, 4, 5, 6, 7, 8] Try_mixed rfl rfl rfl h23 (.cons ?_ (.cons ?_ (.cons ?_ (.cons ?_ (.cons ?_ (.cons ?_ (.cons ?_ .nil))))))) (fun q1 w hq1 h => ?_)
            · intro q1 w Γx Ωx h
              have h : St e w ([(false, .val (Rep.slice (Rep.int .u8)) v1 a1), (false, .val (Rep.slice (Rep.int .u8)) v2 a2)] ++ Γx) ([(true, .box 26 Requester_.rep u3 y3.1)] ++ Ωx) := h
              refine OpS.loadB h .z PA.z Get.id ty26 rfl rfl rfl (fun u h30 => ?_)
              exact ⟨u, rfl, trivial, h30⟩
            · intro q1 w Γx Ωx h
              refine OpS.mv rfl rfl rfl ?_
              exact ⟨undef, rfl, trivial, h⟩
            · intro q1 w Γx Ωx h
              have h : St e w ([(false, .val (Rep.slice (Rep.int .u8)) v1 a1), (false, .val (Rep.slice (Rep.int .u8)) v2 a2)] ++ Γx) ([(true, .box 26 Requester_.rep u3 y3.1)] ++ Ωx) := h
              refine OpS.loadB h .z PA.z Get.id ty26 rfl rfl rfl (fun u h31 => ?_)
              exact ⟨u, rfl, trivial, h31⟩
            · intro q1 w Γx Ωx h
              have h : St e w ([(true, .val Requester_.rep (q1 2) y3.1), (false, .val (Rep.slice (Rep.int .u8)) v1 a1), (false, .val (Rep.slice (Rep.int .u8)) v2 a2)] ++ Γx) ([(false, .box 72 field_Codes.rep u1 y4.2)] ++ Ωx) := h
              have h32 := h.front (.cons .z .nil)
              refine OpS.callO h32 Try.func17 rfl rfl rfl rfl (vs := [u1, (q1 2)]) rfl (law24_odd_ok e10) rfl (.cons (f := true) (V.at .z) .nil) ?_
              rintro u w17 _ _ _ ⟨_, rfl, rfl, rfl, rfl⟩ h33
              have h34 := h33
              simp only [List.cons_append, List.nil_append] at h34
              exact ⟨u, rfl, trivial, h34⟩
            · intro q1 w Γx Ωx h
              refine OpS.lit (r := Requester_.rep) (f := true) h Try.underlying45 ti26 rfl rfl rfl rfl rfl (.cons rfl (V.at .z) (.cons rfl (V.at (.s .z)) .nil)) rfl rfl (fun u w18 h35 => ?_)
              exact ⟨u, rfl, trivial, h35⟩
            · intro q1 w Γx Ωx h
              refine OpS.len h Try.underlying45 rfl rfl rfl (V.at .z) ?_
              exact ⟨undef, rfl, trivial, h⟩
            · intro q1 w Γx Ωx h
              refine OpS.mv rfl rfl rfl ?_
              exact ⟨undef, rfl, trivial, h⟩
            have h36 : St e w [(true, .val Requester_.rep (q1 0) y3.1), (true, .val Requester_.rep (q1 2) y3.1), (true, .val Requester_.rep (q1 3) y7.1), (true, .val (Rep.slice Requester_.rep) (q1 4) ([y3.1, y7.1])), (false, .val (Rep.slice (Rep.int .u8)) v1 a1), (false, .val (Rep.slice (Rep.int .u8)) v2 a2)] [(true, .box 26 Requester_.rep u3 y3.1), (false, .box 72 field_Codes.rep u1 y7.2)] := h
            refine RunL.nil ?_
            refine Run.slim [(89, (q1 4)), (90, .int .i64 (([y3.1, y7.1]).length : Int)), (91, .int .i64 0), (1, v1), (2, v2), (3, .int .i64 a3), (9, u1), (11, .int .i64 y3.2.1)] ⟨rfl, rfl, rfl, rfl, rfl, rfl, rfl, rfl, trivial⟩ ?_
            refine Run.block ?_
            refine Run.slim [(1, v1), (2, v2), (3, .int .i64 a3), (9, u1), (11, .int .i64 y3.2.1), (89, (q1 4)), (90, .int .i64 (([y3.1, y7.1]).length : Int)), (91, .int .i64 0)] ⟨rfl, rfl, rfl, rfl, rfl, rfl, rfl, rfl, trivial⟩ ?_
            refine Run.loopP (σ := (Int × field_Codes)) (fun s_ L_ w_ => L_ = [(1, v1), (2, v2), (3, .int .i64 a3), (9, u1), (11, .int .i64 y3.2.1), (89, (q1 4)), (90, .int .i64 (([y3.1, y7.1]).length : Int)), (91, .int .i64 s_.1)] ∧ St e w_ [(false, .val (Rep.slice (Rep.int .u8)) v1 a1), (false, .val (Rep.slice (Rep.int .u8)) v2 a2), (true, .val (Rep.slice Requester_.rep) (q1 4) ([y3.1, y7.1]))] [(false, .box 72 field_Codes.rep u1 s_.2)]) hF ⟨rfl, (h36.facts (.atm (.s (.s (.s (.s .z)))) (.atm (.s (.s (.s (.s (.s .z))))) (.atm (.s (.s (.s .z))) .nil)))).picks (.cons (.s .z) .nil)⟩ (fun k1 hk1 s3 _ w19 hI hF => ?_)
            obtain ⟨rfl, h37⟩ := hI
            refine Run.seq ?_
            refine Run.reg ?_
            refine RunL.op (OpS.bin rfl rfl rfl rfl rfl ?_)
            refine RunL.nil ?_
            refine Run.seq ?_
            refine Run.ite rfl hF (fun e11 hF => ?_) (fun e11 hF => ?_)
            ·
              refine Run.skip ?_
              refine Run.seq ?_
              refine Run.block ?_
              refine Run.seq ?_
              refine Run.reg ?_
              obtain ⟨x1, e12, hF⟩ := bindP_use hF
              refine RunL.op (OpS.iptr h37 Try.underlying45 ty26 rfl rfl rfl rfl (V.at (.s (.s .z))) e12 (fun u8 h38 => ?_))
              refine RunL.op (OpS.load h38 ty26 rfl rfl rfl .z (fun u9 h39 => ?_))
              refine RunL.op (OpS.alloc h39 ti26 Requester_.zr rfl rfl (fun u10 w20 h40 => ?_))
              refine RunL.op (OpS.storeB (f' := true) h40 .z PA.z Put.id ty26 rfl rfl rfl (V.at .z) (.inl rfl) (fun w21 h41 => ?_))
              refine RunL.nil ?_
              refine Run.slim [(18, u10), (1, v1), (2, v2), (3, .int .i64 a3), (9, u1), (11, .int .i64 y3.2.1), (89, (q1 4)), (90, .int .i64 (([y3.1, y7.1]).length : Int)), (91, .int .i64 s3.1)] ⟨rfl, rfl, rfl, rfl, rfl, rfl, rfl, rfl, rfl, trivial⟩ ?_
              refine Run.seq ?_
              have h42 := h41.picks (.cons (.s .z) (.cons .z .nil))
              obtain ⟨y8, e13, hF⟩ := bindP_use hF
              obtain ⟨y9, e14, hF⟩ := bindP_use hF
              obtain ⟨y10, e15, hF⟩ := bindP_use hF
              obtain ⟨y11, e16, hF⟩ := bindP_use hF
              obtain ⟨y12, e17, hF⟩ := bindP_use hF
              obtain ⟨y13, e18, hF⟩ := bindP_use hF
              obtain ⟨x2, e19, hF⟩ := bindP_use hF
              refine Run.drawV (Ωs := [(true, .box 26 Requester_.rep u10 x1)]) [⟨some 95, some (u1), fun _ => [], fun ds_ u_ => [], [], [], none⟩, ⟨some 96, some (.int .i64 y8.1), fun _ => [], fun ds_ u_ => [(false, .box 72 field_Codes.rep u1 y8.2)], [0], [], none⟩, ⟨some 97, some (.int .i64 (IntKind.i64.wrap (60 + y8.1))), fun _ => [], fun ds_ u_ => [], [], [], none⟩, ⟨some 98, some (.int .u8 (IntKind.u8.wrap (IntKind.i64.wrap (60 + y8.1)))), fun _ => [], fun ds_ u_ => [], [], [], none⟩, ⟨some 99, some (u1), fun _ => [], fun ds_ u_ => [], [], [], none⟩, ⟨some 100, some (.int .i64 y9.1), fun _ => [], fun ds_ u_ => [(false, .box 72 field_Codes.rep u1 y9.2)], [2], [], none⟩, ⟨some 101, some (.int .u8 (IntKind.u8.wrap y9.1)), fun _ => [], fun ds_ u_ => [], [], [], none⟩, ⟨some 102, some (u1), fun _ => [], fun ds_ u_ => [], [], [], none⟩, ⟨some 103, some (.int .i64 y10.1), fun _ => [], fun ds_ u_ => [(false, .box 72 field_Codes.rep u1 y10.2)], [6], [], none⟩, ⟨some 104, some (.int .u8 (IntKind.u8.wrap y10.1)), fun _ => [], fun ds_ u_ => [], [], [], none⟩, ⟨some 105, some (.int .i64 y3.2.1), fun _ => [], fun ds_ u_ => [], [], [], none⟩, ⟨some 106, some (.int .i64 y3.2.1), fun _ => [], fun ds_ u_ => [], [], [], none⟩, ⟨some 107, some (u1), fun _ => [], fun ds_ u_ => [], [], [], none⟩, ⟨some 108, some (.int .i64 y11.1), fun _ => [], fun ds_ u_ => [(false, .box 72 field_Codes.rep u1 y11.2)], [9], [], none⟩, ⟨some 109, some (.int .i64 (IntKind.i64.wrap (y3.2.1 + y11.1))), fun _ => [], fun ds_ u_ => [], [], [], none⟩, ⟨some 110, some (.int .i64 a3), fun _ => [], fun ds_ u_ => [], [], [], none⟩, ⟨some 111, some (u1), fun _ => [], fun ds_ u_ => [], [], [], none⟩, ⟨some 112, some (.int .i64 y12.1), fun _ => [], fun ds_ u_ => [(false, .box 72 field_Codes.rep u1 y12.2)], [14], [], none⟩, ⟨some 113, none, fun u_ => [(true, .val (Rep.slice (Rep.int .i64)) u_ ([y3.2.1, (IntKind.i64.wrap (y3.2.1 + y11.1)), a3, y12.1]))], fun ds_ u_ => [], [], [], none⟩, ⟨some 114, some (u1), fun _ => [], fun ds_ u_ => [], [], [], none⟩, ⟨some 115, some (.int .i64 y13.1), fun _ => [], fun ds_ u_ => [(false, .box 72 field_Codes.rep u1 y13.2)], [18], [], none⟩, ⟨some 116, none, fun u_ => [(true, .ptr (Rep.int .i64) u_ x2)], fun ds_ u_ => [], [], [], none⟩, ⟨some 117, some (.int .i64 x2), fun _ => [], fun ds_ u_ => [], [], [], none⟩, ⟨some 19, some (.int .u8 (IntKind.u8.wrap (IntKind.i64.wrap (60 + y8.1)))), fun _ => [], fun ds_ u_ => [], [], [], none⟩, ⟨some 20, some (.int .u8 (IntKind.u8.wrap y9.1)), fun _ => [], fun ds_ u_ => [], [], [], none⟩, ⟨some 21, some (.int .u8 (IntKind.u8.wrap y10.1)), fun _ => [], fun ds_ u_ => [], [], [], none⟩] [[], [0], [1], [2], [], [4], [5], [], [7], [8], [], [], [], [12], [11, 13], [], [], [16], [10, 14, 15, 17], [], [19], [18, 20], [21], [3], [6], [9]] [[(false, .box 72 field_Codes.rep u1 s3.2)]] [1, 3, 4, 5, 7, 8, 10, 11, 12, 13, 15, 16, 17, 19, 20, 21, 22, 23, 24, 25, 26] Try_mixed rfl rfl rfl h42 (.cons ?_ (.cons ?_ (.cons ?_ (.cons ?_ (.cons ?_ (.cons ?_ (.cons ?_ (.cons ?_ (.cons ?_ (.cons ?_ (.cons ?_ (.cons ?_ (.cons ?_ (.cons ?_ (.cons ?_ (.cons ?_ (.cons ?_ (.cons ?_ (.cons ?_ (.cons ?_ (.cons ?_ (.cons ?_ (.cons ?_ (.cons ?_ (.cons ?_ (.cons ?_ .nil)))))))))))))))))))))))))) (fun q2 w hq2 h => ?_)
              · intro q2 w Γx Ωx h
                refine OpS.mv rfl rfl rfl ?_
                exact ⟨undef, rfl, trivial, h⟩
              · intro q2 w Γx Ωx h
                have h : St e w ([(true, .val Requester_.rep u9 x1), (true, .ptr Requester_.rep u8 x1), (false, .val (Rep.slice (Rep.int .u8)) v1 a1), (false, .val (Rep.slice (Rep.int .u8)) v2 a2), (true, .val (Rep.slice Requester_.rep) (q1 4) ([y3.1, y7.1]))] ++ Γx) ([(false, .box 72 field_Codes.rep u1 s3.2), (true, .box 26 Requester_.rep u10 x1)] ++ Ωx) := h
                have h63 := h.front (.cons .z .nil)
                refine OpS.callO h63 Try.func14 rfl rfl rfl rfl (vs := [u1, .int .i64 10]) rfl (field_Codes_Next_ok e13) rfl .nil ?_
                rintro _ w29 _ _ _ ⟨rfl, rfl, rfl, rfl⟩ h64
                have h65 := h64
                simp only [List.cons_append, List.nil_append] at h65
                exact ⟨undef, rfl, trivial, h65⟩
              · intro q2 w Γx Ωx h
                refine OpS.bin rfl rfl rfl rfl rfl ?_
                exact ⟨undef, rfl, trivial, h⟩
              · intro q2 w Γx Ωx h
                refine OpS.conv Try.underlying3 Try.underlying5 rfl rfl rfl ?_
                exact ⟨undef, rfl, trivial, h⟩
              · intro q2 w Γx Ωx h
                refine OpS.mv rfl rfl rfl ?_
                exact ⟨undef, rfl, trivial, h⟩
              · intro q2 w Γx Ωx h
                have h : St e w ([(true, .val Requester_.rep u9 x1), (true, .ptr Requester_.rep u8 x1), (false, .val (Rep.slice (Rep.int .u8)) v1 a1), (false, .val (Rep.slice (Rep.int .u8)) v2 a2), (true, .val (Rep.slice Requester_.rep) (q1 4) ([y3.1, y7.1]))] ++ Γx) ([(false, .box 72 field_Codes.rep u1 y8.2), (true, .box 26 Requester_.rep u10 x1)] ++ Ωx) := h
                have h66 := h.front (.cons .z .nil)
                refine OpS.callO h66 Try.func14 rfl rfl rfl rfl (vs := [u1, .int .i64 8]) rfl (field_Codes_Next_ok e14) rfl .nil ?_
                rintro _ w30 _ _ _ ⟨rfl, rfl, rfl, rfl⟩ h67
                have h68 := h67
                simp only [List.cons_append, List.nil_append] at h68
                exact ⟨undef, rfl, trivial, h68⟩
              · intro q2 w Γx Ωx h
                refine OpS.conv Try.underlying3 Try.underlying5 rfl rfl rfl ?_
                exact ⟨undef, rfl, trivial, h⟩
              · intro q2 w Γx Ωx h
                refine OpS.mv rfl rfl rfl ?_
                exact ⟨undef, rfl, trivial, h⟩
              · intro q2 w Γx Ωx h
                have h : St e w ([(true, .val Requester_.rep u9 x1), (true, .ptr Requester_.rep u8 x1), (false, .val (Rep.slice (Rep.int .u8)) v1 a1), (false, .val (Rep.slice (Rep.int .u8)) v2 a2), (true, .val (Rep.slice Requester_.rep) (q1 4) ([y3.1, y7.1]))] ++ Γx) ([(false, .box 72 field_Codes.rep u1 y9.2), (true, .box 26 Requester_.rep u10 x1)] ++ Ωx) := h
                have h69 := h.front (.cons .z .nil)
                refine OpS.callO h69 Try.func14 rfl rfl rfl rfl (vs := [u1, .int .i64 256]) rfl (field_Codes_Next_ok e15) rfl .nil ?_
                rintro _ w31 _ _ _ ⟨rfl, rfl, rfl, rfl⟩ h70
                have h71 := h70
                simp only [List.cons_append, List.nil_append] at h71
                exact ⟨undef, rfl, trivial, h71⟩
              · intro q2 w Γx Ωx h
                refine OpS.conv Try.underlying3 Try.underlying5 rfl rfl rfl ?_
                exact ⟨undef, rfl, trivial, h⟩
              · intro q2 w Γx Ωx h
                refine OpS.mv rfl rfl rfl ?_
                exact ⟨undef, rfl, trivial, h⟩
              · intro q2 w Γx Ωx h
                refine OpS.mv rfl rfl rfl ?_
                exact ⟨undef, rfl, trivial, h⟩
              · intro q2 w Γx Ωx h
                refine OpS.mv rfl rfl rfl ?_
                exact ⟨undef, rfl, trivial, h⟩
              · intro q2 w Γx Ωx h
                have h : St e w ([(true, .val Requester_.rep u9 x1), (true, .ptr Requester_.rep u8 x1), (false, .val (Rep.slice (Rep.int .u8)) v1 a1), (false, .val (Rep.slice (Rep.int .u8)) v2 a2), (true, .val (Rep.slice Requester_.rep) (q1 4) ([y3.1, y7.1]))] ++ Γx) ([(false, .box 72 field_Codes.rep u1 y10.2), (true, .box 26 Requester_.rep u10 x1)] ++ Ωx) := h
                have h72 := h.front (.cons .z .nil)
                refine OpS.callO h72 Try.func14 rfl rfl rfl rfl (vs := [u1, .int .i64 60]) rfl (field_Codes_Next_ok e16) rfl .nil ?_
                rintro _ w32 _ _ _ ⟨rfl, rfl, rfl, rfl⟩ h73
                have h74 := h73
                simp only [List.cons_append, List.nil_append] at h74
                exact ⟨undef, rfl, trivial, h74⟩
              · intro q2 w Γx Ωx h
                refine OpS.bin rfl rfl rfl rfl rfl ?_
                exact ⟨undef, rfl, trivial, h⟩
              · intro q2 w Γx Ωx h
                refine OpS.mv rfl rfl rfl ?_
                exact ⟨undef, rfl, trivial, h⟩
              · intro q2 w Γx Ωx h
                refine OpS.mv rfl rfl rfl ?_
                exact ⟨undef, rfl, trivial, h⟩
              · intro q2 w Γx Ωx h
                have h : St e w ([(true, .val Requester_.rep u9 x1), (true, .ptr Requester_.rep u8 x1), (false, .val (Rep.slice (Rep.int .u8)) v1 a1), (false, .val (Rep.slice (Rep.int .u8)) v2 a2), (true, .val (Rep.slice Requester_.rep) (q1 4) ([y3.1, y7.1]))] ++ Γx) ([(false, .box 72 field_Codes.rep u1 y11.2), (true, .box 26 Requester_.rep u10 x1)] ++ Ωx) := h
                have h75 := h.front (.cons .z .nil)
                refine OpS.callO h75 Try.func18 rfl rfl rfl rfl (vs := [u1]) rfl (field_Codes_Now_ok e17) rfl .nil ?_
                rintro _ w33 _ _ _ ⟨rfl, rfl, rfl, rfl⟩ h76
                have h77 := h76
                simp only [List.cons_append, List.nil_append] at h77
                exact ⟨undef, rfl, trivial, h77⟩
              · intro q2 w Γx Ωx h
                refine OpS.lit (r := (Rep.int .i64)) (f := true) h Try.underlying32 ti2 rfl rfl rfl rfl rfl (.cons rfl V.int (.cons rfl V.int (.cons rfl V.int (.cons rfl V.int .nil)))) rfl rfl (fun u w34 h78 => ?_)
                exact ⟨u, rfl, trivial, h78⟩
              · intro q2 w Γx Ωx h
                refine OpS.mv rfl rfl rfl ?_
                exact ⟨undef, rfl, trivial, h⟩
              · intro q2 w Γx Ωx h
                have h : St e w ([(true, .val Requester_.rep u9 x1), (true, .ptr Requester_.rep u8 x1), (false, .val (Rep.slice (Rep.int .u8)) v1 a1), (false, .val (Rep.slice (Rep.int .u8)) v2 a2), (true, .val (Rep.slice Requester_.rep) (q1 4) ([y3.1, y7.1]))] ++ Γx) ([(false, .box 72 field_Codes.rep u1 y12.2), (true, .box 26 Requester_.rep u10 x1)] ++ Ωx) := h
                have h79 := h.front (.cons .z .nil)
                refine OpS.callO h79 Try.func14 rfl rfl rfl rfl (vs := [u1, .int .i64 4]) rfl (field_Codes_Next_ok e18) rfl .nil ?_
                rintro _ w35 _ _ _ ⟨rfl, rfl, rfl, rfl⟩ h80
                have h81 := h80
                simp only [List.cons_append, List.nil_append] at h81
                exact ⟨undef, rfl, trivial, h81⟩
              · intro q2 w Γx Ωx h
                refine OpS.iptr h Try.underlying32 ty2 rfl rfl rfl rfl (V.at .z) e19 (fun u h82 => ?_)
                exact ⟨u, rfl, trivial, h82⟩
              · intro q2 w Γx Ωx h
                refine OpS.loadi h ty2 rfl rfl rfl .z ?_
                exact ⟨undef, rfl, trivial, h⟩
              · intro q2 w Γx Ωx h
                refine OpS.as rfl rfl rfl ?_
                exact ⟨undef, rfl, trivial, h⟩
              · intro q2 w Γx Ωx h
                refine OpS.as rfl rfl rfl ?_
                exact ⟨undef, rfl, trivial, h⟩
              · intro q2 w Γx Ωx h
                refine OpS.as rfl rfl rfl ?_
                exact ⟨undef, rfl, trivial, h⟩
              have h83 : St e w [(true, .val (Rep.slice (Rep.int .i64)) (q2 18) ([y3.2.1, (IntKind.i64.wrap (y3.2.1 + y11.1)), a3, y12.1])), (true, .ptr (Rep.int .i64) (q2 21) x2), (true, .val Requester_.rep u9 x1), (true, .ptr Requester_.rep u8 x1), (false, .val (Rep.slice (Rep.int .u8)) v1 a1), (false, .val (Rep.slice (Rep.int .u8)) v2 a2), (true, .val (Rep.slice Requester_.rep) (q1 4) ([y3.1, y7.1]))] [(false, .box 72 field_Codes.rep u1 y13.2), (true, .box 26 Requester_.rep u10 x1)] := h
              refine RunL.op (OpS.as rfl rfl rfl ?_)
              refine RunL.nil ?_
              refine Run.slim [(22, .int .i64 x2), (19, .int .u8 (IntKind.u8.wrap (IntKind.i64.wrap (60 + y8.1)))), (20, .int .u8 (IntKind.u8.wrap y9.1)), (21, .int .u8 (IntKind.u8.wrap y10.1)), (18, u10), (1, v1), (2, v2), (3, .int .i64 a3), (9, u1), (11, .int .i64 y3.2.1), (89, (q1 4)), (90, .int .i64 (([y3.1, y7.1]).length : Int)), (91, .int .i64 s3.1)] ⟨rfl, rfl, rfl, rfl, rfl, rfl, rfl, rfl, rfl, rfl, rfl, rfl, rfl, trivial⟩ ?_
              refine Run.seq ?_
              refine Run.seq ?_
              have h84 := h83.picks (.cons (.s .z) (.cons .z .nil))
              obtain ⟨y14, e20, hF⟩ := bindP_use hF
              obtain ⟨y15, e21, hF⟩ := bindP_use hF
              refine Run.drawV (Ωs := [(false, .box 72 field_Codes.rep u1 y13.2)]) [⟨some 118, none, fun u_ => [(true, .val Requester_.rep u_ x1)], fun ds_ u_ => [], [], [(0, [])], none⟩, ⟨some 119, some (.bool y14), fun _ => [], fun ds_ u_ => [], [], [], none⟩, ⟨some 120, none, fun u_ => [(true, .val Requester_.rep u_ x1)], fun ds_ u_ => [], [], [(0, [])], none⟩, ⟨some 121, some (.bool y15), fun _ => [], fun ds_ u_ => [], [], [], none⟩, ⟨some 122, some (.bool (y14 != y15)), fun _ => [], fun ds_ u_ => [], [], [], none⟩] [[], [0], [], [2], [1, 3]] [[(true, .box 26 Requester_.rep u10 x1)]] [0, 1, 2, 3, 4, 5] Try_mixed rfl rfl rfl h84 (.cons ?_ (.cons ?_ (.cons ?_ (.cons ?_ (.cons ?_ .nil))))) (fun q3 w hq3 h => ?_)
              · intro q3 w Γx Ωx h
                have h : St e w ([(true, .val (Rep.slice (Rep.int .i64)) (q2 18) ([y3.2.1, (IntKind.i64.wrap (y3.2.1 + y11.1)), a3, y12.1])), (true, .ptr (Rep.int .i64) (q2 21) x2), (true, .val Requester_.rep u9 x1), (true, .ptr Requester_.rep u8 x1), (false, .val (Rep.slice (Rep.int .u8)) v1 a1), (false, .val (Rep.slice (Rep.int .u8)) v2 a2), (true, .val (Rep.slice Requester_.rep) (q1 4) ([y3.1, y7.1]))] ++ Γx) ([(true, .box 26 Requester_.rep u10 x1), (false, .box 72 field_Codes.rep u1 y13.2)] ++ Ωx) := h
                refine OpS.loadB h .z PA.z Get.id ty26 rfl rfl rfl (fun u h91 => ?_)
                exact ⟨u, rfl, trivial, h91⟩
              · intro q3 w Γx Ωx h
                refine OpS.callP h Try.func19 rfl rfl rfl rfl (vs := [(q3 0)]) rfl (exchange_Valid_ok e20) (.cons (f := true) (V.at .z) .nil) ?_
                rintro _ w38 _ _ _ ⟨rfl, rfl, rfl, rfl⟩ h92
                have h93 := h92 rfl rfl
                simp only [List.cons_append, List.nil_append] at h93
                exact ⟨undef, rfl, trivial, h93⟩
              · intro q3 w Γx Ωx h
                have h : St e w ([(true, .val (Rep.slice (Rep.int .i64)) (q2 18) ([y3.2.1, (IntKind.i64.wrap (y3.2.1 + y11.1)), a3, y12.1])), (true, .ptr (Rep.int .i64) (q2 21) x2), (true, .val Requester_.rep u9 x1), (true, .ptr Requester_.rep u8 x1), (false, .val (Rep.slice (Rep.int .u8)) v1 a1), (false, .val (Rep.slice (Rep.int .u8)) v2 a2), (true, .val (Rep.slice Requester_.rep) (q1 4) ([y3.1, y7.1]))] ++ Γx) ([(true, .box 26 Requester_.rep u10 x1), (false, .box 72 field_Codes.rep u1 y13.2)] ++ Ωx) := h
                refine OpS.loadB h .z PA.z Get.id ty26 rfl rfl rfl (fun u h94 => ?_)
                exact ⟨u, rfl, trivial, h94⟩
              · intro q3 w Γx Ωx h
                refine OpS.callP h Try.func20 rfl rfl rfl rfl (vs := [(q3 2)]) rfl (ref24_Valid_ok e21) (.cons (f := true) (V.at .z) .nil) ?_
                rintro _ w39 _ _ _ ⟨rfl, rfl, rfl, rfl⟩ h95
                have h96 := h95 rfl rfl
                simp only [List.cons_append, List.nil_append] at h96
                exact ⟨undef, rfl, trivial, h96⟩
              · intro q3 w Γx Ωx h
                refine OpS.neb Try.underlying4 rfl rfl rfl rfl ?_
                exact ⟨undef, rfl, trivial, h⟩
              have h97 : St e w [(true, .val Requester_.rep (q3 0) x1), (true, .val Requester_.rep (q3 2) x1), (true, .val (Rep.slice (Rep.int .i64)) (q2 18) ([y3.2.1, (IntKind.i64.wrap (y3.2.1 + y11.1)), a3, y12.1])), (true, .ptr (Rep.int .i64) (q2 21) x2), (true, .val Requester_.rep u9 x1), (true, .ptr Requester_.rep u8 x1), (false, .val (Rep.slice (Rep.int .u8)) v1 a1), (false, .val (Rep.slice (Rep.int .u8)) v2 a2), (true, .val (Rep.slice Requester_.rep) (q1 4) ([y3.1, y7.1]))] [(true, .box 26 Requester_.rep u10 x1), (false, .box 72 field_Codes.rep u1 y13.2)] := h
              refine RunL.nil ?_
              refine Run.slim [(122, .bool (y14 != y15)), (22, .int .i64 x2), (19, .int .u8 (IntKind.u8.wrap (IntKind.i64.wrap (60 + y8.1)))), (20, .int .u8 (IntKind.u8.wrap y9.1)), (21, .int .u8 (IntKind.u8.wrap y10.1)), (18, u10), (1, v1), (2, v2), (3, .int .i64 a3), (9, u1), (11, .int .i64 y3.2.1), (89, (q1 4)), (90, .int .i64 (([y3.1, y7.1]).length : Int)), (91, .int .i64 s3.1)] ⟨rfl, rfl, rfl, rfl, rfl, rfl, rfl, rfl, rfl, rfl, rfl, rfl, rfl, rfl, trivial⟩ ?_
              refine Run.ite rfl hF (fun e22 hF => ?_) (fun e22 hF => ?_)
              ·
                refine Run.seq ?_
                refine Run.reg ?_
                refine RunL.op (OpS.as rfl rfl rfl ?_)
                refine RunL.nil ?_
                refine Run.slim [(8, .bool false)] ⟨rfl, trivial⟩ ?_
                refine Run.retP rfl (.tmp rfl .nil) ?_
                cases hF
                exact Post.mk' ⟨rfl, rfl, rfl, rfl⟩ (h97.picks .nil) .nil
              ·
                refine Run.skip ?_
                refine Run.seq ?_
                refine Run.reg ?_
                refine RunL.op (OpS.loadB h97 .z PA.z Get.id ty26 rfl rfl rfl (fun u11 h98 => ?_))
                refine RunL.op (OpS.mv rfl rfl rfl ?_)
                refine RunL.op (OpS.mv rfl rfl rfl ?_)
                refine RunL.op (OpS.mv rfl rfl rfl ?_)
                refine RunL.op (OpS.mv rfl rfl rfl ?_)
                refine RunL.op (OpS.mv rfl rfl rfl ?_)
                obtain ⟨y16, e23, hF⟩ := bindP_use hF
                have h99 := h98.front .nil
                refine RunL.op (OpS.callO h99 Try.func10 rfl rfl rfl rfl (vs := [u11, .int .u8 (IntKind.u8.wrap (IntKind.i64.wrap (60 + y8.1))), .int .u8 (IntKind.u8.wrap y9.1), .int .u8 (IntKind.u8.wrap y10.1), v2, .int .i64 x2]) rfl (exchange_Send_ok e23) rfl (.cons (f := true) (V.at .z) (.cons (f := false) (V.at (.s (.s (.s (.s (.s (.s (.s (.s .z))))))))) .nil)) ?_)
                rintro _ w40 _ _ _ ⟨u12, u13, rfl, rfl, rfl, rfl⟩ h100
                have h101 := h100
                simp only [List.cons_append, List.nil_append] at h101
                refine RunL.op (OpS.mv rfl rfl rfl ?_)
                refine RunL.op (OpS.ext rfl rfl rfl rfl ?_)
                refine RunL.op (OpS.ext rfl rfl rfl rfl ?_)
                refine RunL.op (OpS.ext rfl rfl rfl rfl ?_)
                refine RunL.op (OpS.alloc h101 ti26 Requester_.zr rfl rfl (fun u14 w41 h102 => ?_))
                have h103 := (h102.pick .z).weak
                refine RunL.op (OpS.storeB (f' := false) h103 .z PA.z Put.id ty26 rfl rfl rfl (V.at .z) (.inr rfl) (fun w42 h104 => ?_))
                refine RunL.op (OpS.as rfl rfl rfl ?_)
                refine RunL.op (OpS.as rfl rfl rfl ?_)
                refine RunL.nil ?_
                refine Run.slim [(25, .int .i64 y16.2.2), (24, u13), (23, u14), (22, .int .i64 x2), (19, .int .u8 (IntKind.u8.wrap (IntKind.i64.wrap (60 + y8.1)))), (20, .int .u8 (IntKind.u8.wrap y9.1)), (21, .int .u8 (IntKind.u8.wrap y10.1)), (18, u10), (1, v1), (2, v2), (3, .int .i64 a3), (9, u1), (11, .int .i64 y3.2.1), (89, (q1 4)), (90, .int .i64 (([y3.1, y7.1]).length : Int)), (91, .int .i64 s3.1)] ⟨rfl, rfl, rfl, rfl, rfl, rfl, rfl, rfl, rfl, rfl, rfl, rfl, rfl, rfl, rfl, rfl, trivial⟩ ?_
                refine Run.seq ?_
                refine Run.reg ?_
                refine RunL.op (OpS.loadB h104 (.s .z) PA.z Get.id ty26 rfl rfl rfl (fun u15 h105 => ?_))
                refine RunL.op (OpS.mv rfl rfl rfl ?_)
                refine RunL.op (OpS.mv rfl rfl rfl ?_)
                refine RunL.op (OpS.mv rfl rfl rfl ?_)
                refine RunL.op (OpS.mv rfl rfl rfl ?_)
                refine RunL.op (OpS.mv rfl rfl rfl ?_)
                obtain ⟨y17, e24, hF⟩ := bindP_use hF
                refine RunL.op (OpS.callP h105 Try.func21 rfl rfl rfl rfl (vs := [u15, .int .u8 (IntKind.u8.wrap (IntKind.i64.wrap (60 + y8.1))), .int .u8 (IntKind.u8.wrap y9.1), .int .u8 (IntKind.u8.wrap y10.1), v2, .int .i64 x2]) rfl (ref24_Send_ok e24) (.cons (f := true) (V.at .z) (.cons (f := false) (V.at (.s (.s (.s (.s (.s (.s (.s (.s (.s (.s (.s .z)))))))))))) .nil)) ?_)
                rintro _ w43 _ _ _ ⟨u16, u17, rfl, rfl, rfl, rfl⟩ h106
                have h107 := h106 rfl rfl
                simp only [List.cons_append, List.nil_append] at h107
                refine RunL.op (OpS.mv rfl rfl rfl ?_)
                refine RunL.op (OpS.ext rfl rfl rfl rfl ?_)
                refine RunL.op (OpS.ext rfl rfl rfl rfl ?_)
                refine RunL.op (OpS.ext rfl rfl rfl rfl ?_)
                refine RunL.op (OpS.alloc h107 ti26 Requester_.zr rfl rfl (fun u18 w44 h108 => ?_))
                refine RunL.op (OpS.storeB (f' := true) h108 .z PA.z Put.id ty26 rfl rfl rfl (V.at .z) (.inl rfl) (fun w45 h109 => ?_))
                refine RunL.op (OpS.as rfl rfl rfl ?_)
                refine RunL.op (OpS.as rfl rfl rfl ?_)
                refine RunL.nil ?_
                refine Run.slim [(28, .int .i64 y17.2.2), (27, u17), (26, u18), (25, .int .i64 y16.2.2), (24, u13), (23, u14), (22, .int .i64 x2), (18, u10), (1, v1), (2, v2), (3, .int .i64 a3), (9, u1), (11, .int .i64 y3.2.1), (89, (q1 4)), (90, .int .i64 (([y3.1, y7.1]).length : Int)), (91, .int .i64 s3.1)] ⟨rfl, rfl, rfl, rfl, rfl, rfl, rfl, rfl, rfl, rfl, rfl, rfl, rfl, rfl, rfl, rfl, trivial⟩ ?_
                refine Run.seq ?_
                refine Run.seq ?_
                refine Run.reg ?_
                refine RunL.op (OpS.mv rfl rfl rfl ?_)
                refine RunL.op (OpS.mv rfl rfl rfl ?_)
                refine RunL.op (OpS.bin rfl rfl rfl rfl rfl ?_)
                refine RunL.op (OpS.mv rfl rfl rfl ?_)
                refine RunL.join (σ := Bool) (fun s_ L_ w_ => L_ = [(1, v1), (2, v2), (3, .int .i64 a3), (9, u1), (11, .int .i64 y3.2.1), (18, u10), (22, .int .i64 x2), (89, (q1 4)), (90, .int .i64 (([y3.1, y7.1]).length : Int)), (91, .int .i64 s3.1), (160, .bool s_)] ∧ St e w_ [(false, .val (Rep.slice (Rep.int .u8)) v1 a1), (false, .val (Rep.slice (Rep.int .u8)) v2 a2), (true, .val (Rep.slice Requester_.rep) (q1 4) ([y3.1, y7.1]))] [(false, .box 72 field_Codes.rep u1 y13.2), (true, .box 26 Requester_.rep u10 x1)]) hF (fun s4 _ w46 hI hF => ?_) (fun j3 hj3 hF => ?_)
                ·
                  obtain ⟨rfl, h110⟩ := hI
                  refine Run.ite rfl hF (fun e25 hF => ?_) (fun e25 hF => ?_)
                  ·
                    refine Run.seq ?_
                    refine Run.reg ?_
                    refine RunL.op (OpS.as rfl rfl rfl ?_)
                    refine RunL.nil ?_
                    refine Run.slim [(8, .bool false)] ⟨rfl, trivial⟩ ?_
                    refine Run.retP rfl (.tmp rfl .nil) ?_
                    cases hF
                    exact Post.mk' ⟨rfl, rfl, rfl, rfl⟩ (h110.picks .nil) .nil
                  ·
                    refine Run.skip ?_
                    refine Run.seq ?_
                    refine Run.reg ?_
                    refine RunL.op (OpS.loadB h110 (.s .z) PA.z Get.id ty26 rfl rfl rfl (fun u19 h111 => ?_))
                    refine RunL.op (OpS.mv rfl rfl rfl ?_)
                    obtain ⟨y18, e26, hF⟩ := bindP_use hF
                    have h112 := h111.front .nil
                    refine RunL.op (OpS.callO h112 Try.func11 rfl rfl rfl rfl (vs := [u19, .int .i64 x2]) rfl (exchange_Tick_ok e26) rfl (.cons (f := true) (V.at .z) .nil) ?_)
                    rintro _ w47 _ _ _ ⟨u20, u21, u22, rfl, rfl, rfl, rfl⟩ h113
                    have h114 := h113
                    simp only [List.cons_append, List.nil_append] at h114
                    refine RunL.op (OpS.mv rfl rfl rfl ?_)
                    refine RunL.op (OpS.ext rfl rfl rfl rfl ?_)
                    refine RunL.op (OpS.ext rfl rfl rfl rfl ?_)
                    refine RunL.op (OpS.ext rfl rfl rfl rfl ?_)
                    refine RunL.op (OpS.alloc h114 ti26 Requester_.zr rfl rfl (fun u23 w48 h115 => ?_))
                    have h116 := (h115.pick .z).weak
                    refine RunL.op (OpS.storeB (f' := false) h116 .z PA.z Put.id ty26 rfl rfl rfl (V.at .z) (.inr rfl) (fun w49 h117 => ?_))
                    refine RunL.op (OpS.as rfl rfl rfl ?_)
                    have h118 := (h117.pick (.s .z)).freeze
                    refine RunL.op (OpS.as rfl rfl rfl ?_)
                    have h119 := (h118.pick (.s .z)).freeze
                    refine RunL.nil ?_
                    refine Run.slim [(31, u22), (30, u21), (29, u23), (1, v1), (2, v2), (3, .int .i64 a3), (9, u1), (11, .int .i64 y3.2.1), (18, u10), (22, .int .i64 x2), (89, (q1 4)), (90, .int .i64 (([y3.1, y7.1]).length : Int)), (91, .int .i64 s3.1)] ⟨rfl, rfl, rfl, rfl, rfl, rfl, rfl, rfl, rfl, rfl, rfl, rfl, rfl, trivial⟩ ?_
                    refine Run.seq ?_
                    refine Run.reg ?_
                    refine RunL.op (OpS.loadB h119 (.s (.s .z)) PA.z Get.id ty26 rfl rfl rfl (fun u24 h120 => ?_))
                    refine RunL.op (OpS.mv rfl rfl rfl ?_)
                    obtain ⟨y19, e27, hF⟩ := bindP_use hF
                    refine RunL.op (OpS.callP h120 Try.func22 rfl rfl rfl rfl (vs := [u24, .int .i64 x2]) rfl (ref24_Tick_ok e27) (.cons (f := true) (V.at .z) .nil) ?_)
                    rintro _ w50 _ _ _ ⟨u25, u26, u27, rfl, rfl, rfl, rfl⟩ h121
                    have h122 := h121 rfl rfl
                    simp only [List.cons_append, List.nil_append] at h122
                    refine RunL.op (OpS.mv rfl rfl rfl ?_)
                    refine RunL.op (OpS.ext rfl rfl rfl rfl ?_)
                    refine RunL.op (OpS.ext rfl rfl rfl rfl ?_)
                    refine RunL.op (OpS.ext rfl rfl rfl rfl ?_)
                    refine RunL.op (OpS.alloc h122 ti26 Requester_.zr rfl rfl (fun u28 w51 h123 => ?_))
                    refine RunL.op (OpS.storeB (f' := true) h123 .z PA.z Put.id ty26 rfl rfl rfl (V.at .z) (.inl rfl) (fun w52 h124 => ?_))
                    refine RunL.op (OpS.as rfl rfl rfl ?_)
                    have h125 := (h124.pick (.s .z)).freeze
                    refine RunL.op (OpS.as rfl rfl rfl ?_)
                    have h126 := (h125.pick (.s .z)).freeze
                    refine RunL.nil ?_
                    refine Run.slim [(34, u27), (33, u26), (32, u28), (31, u22), (30, u21), (29, u23), (1, v1), (2, v2), (3, .int .i64 a3), (9, u1), (11, .int .i64 y3.2.1), (18, u10), (89, (q1 4)), (90, .int .i64 (([y3.1, y7.1]).length : Int)), (91, .int .i64 s3.1)] ⟨rfl, rfl, rfl, rfl, rfl, rfl, rfl, rfl, rfl, rfl, rfl, rfl, rfl, rfl, rfl, trivial⟩ ?_
                    refine Run.seq ?_
                    refine Run.seq ?_
                    refine Run.reg ?_
                    refine RunL.op (OpS.loadB h126 (.s .z) PA.z Get.id ty26 rfl rfl rfl (fun u29 h127 => ?_))
                    refine RunL.op (OpS.loadB h127 .z PA.z Get.id ty26 rfl rfl rfl (fun u30 h128 => ?_))
                    obtain ⟨y20, e28, hF⟩ := bindP_use hF
                    refine RunL.op (OpS.callP h128 Try.func16 rfl rfl rfl rfl (vs := [u29, u30]) rfl (ref24_Same_ok e28) (.cons (f := false) (V.at (.s .z)) (.cons (f := true) (V.at .z) .nil)) ?_)
                    rintro _ w53 _ _ _ ⟨rfl, rfl, rfl, rfl⟩ h129
                    have h130 := h129 rfl rfl
                    simp only [List.cons_append, List.nil_append] at h130
                    refine RunL.op (OpS.not rfl rfl rfl ?_)
                    refine RunL.op (OpS.mv rfl rfl rfl ?_)
                    refine RunL.join (σ := Bool) (fun s_ L_ w_ => L_ = [(1, v1), (2, v2), (3, .int .i64 a3), (9, u1), (11, .int .i64 y3.2.1), (18, u10), (89, (q1 4)), (90, .int .i64 (([y3.1, y7.1]).length : Int)), (91, .int .i64 s3.1), (190, .bool s_)] ∧ St e w_ [(false, .val (Rep.slice (Rep.int .u8)) v1 a1), (false, .val (Rep.slice (Rep.int .u8)) v2 a2), (true, .val (Rep.slice Requester_.rep) (q1 4) ([y3.1, y7.1]))] [(false, .box 72 field_Codes.rep u1 y13.2), (true, .box 26 Requester_.rep u10 x1)]) hF (fun s5 _ w54 hI hF => ?_) (fun j4 hj4 hF => ?_)
                    ·
                      obtain ⟨rfl, h131⟩ := hI
                      refine Run.ite rfl hF (fun e29 hF => ?_) (fun e29 hF => ?_)
                      ·
                        refine Run.seq ?_
                        refine Run.reg ?_
                        refine RunL.op (OpS.as rfl rfl rfl ?_)
                        refine RunL.nil ?_
                        refine Run.slim [(8, .bool false)] ⟨rfl, trivial⟩ ?_
                        refine Run.retP rfl (.tmp rfl .nil) ?_
                        cases hF
                        exact Post.mk' ⟨rfl, rfl, rfl, rfl⟩ (h131.picks .nil) .nil
                      ·
                        refine Run.skip ?_
                        refine Run.seq ?_
                        refine Run.reg ?_
                        refine RunL.op (OpS.mv rfl rfl rfl ?_)
                        refine RunL.op (OpS.as rfl rfl rfl ?_)
                        refine RunL.nil ?_
                        refine Run.slim [(35, v1), (1, v1), (2, v2), (3, .int .i64 a3), (9, u1), (11, .int .i64 y3.2.1), (18, u10), (89, (q1 4)), (90, .int .i64 (([y3.1, y7.1]).length : Int)), (91, .int .i64 s3.1)] ⟨rfl, rfl, rfl, rfl, rfl, rfl, rfl, rfl, rfl, rfl, trivial⟩ ?_
                        refine Run.seq ?_
                        refine Run.seq ?_
                        refine Run.reg ?_
                        refine RunL.op (OpS.fbox (o3 := 2) h131 (.s .z) PA.z fa26_2 rfl rfl rfl rfl ?_)
                        refine RunL.op (OpS.loadB h131 (.s .z) PA.a (Get.fld Requester_.f2) ty24 rfl rfl rfl (fun u31 h132 => ?_))
                        refine RunL.op (OpS.len h132 Try.underlying24 rfl rfl rfl (V.at .z) ?_)
                        refine RunL.op (OpS.bin rfl rfl rfl rfl rfl ?_)
                        refine RunL.op (OpS.mv rfl rfl rfl ?_)
                        refine RunL.join (σ := (Bool × field_Codes)) (fun s_ L_ w_ => L_ = [(1, v1), (2, v2), (3, .int .i64 a3), (9, u1), (11, .int .i64 y3.2.1), (18, u10), (35, v1), (89, (q1 4)), (90, .int .i64 (([y3.1, y7.1]).length : Int)), (91, .int .i64 s3.1), (200, .bool s_.1)] ∧ St e w_ [(false, .val (Rep.slice (Rep.int .u8)) v1 a1), (false, .val (Rep.slice (Rep.int .u8)) v2 a2), (true, .val (Rep.slice Requester_.rep) (q1 4) ([y3.1, y7.1]))] [(false, .box 72 field_Codes.rep u1 s_.2), (true, .box 26 Requester_.rep u10 x1)]) hF (fun s6 _ w55 hI hF => ?_) (fun j5 hj5 hF => ?_)
                        ·
                          obtain ⟨rfl, h133⟩ := hI
                          refine Run.join (σ := ((List Int) × field_Codes)) (fun s_ L_ w_ => ∃ u0_ : Value, L_ = [(1, v1), (2, v2), (3, .int .i64 a3), (9, u1), (11, .int .i64 y3.2.1), (18, u10), (35, u0_), (89, (q1 4)), (90, .int .i64 (([y3.1, y7.1]).length : Int)), (91, .int .i64 s3.1)] ∧ St e w_ [(false, .val (Rep.slice (Rep.int .u8)) v1 a1), (false, .val (Rep.slice (Rep.int .u8)) v2 a2), (true, .val (Rep.slice Requester_.rep) (q1 4) ([y3.1, y7.1])), (false, .val (Rep.slice (Rep.int .u8)) u0_ s_.1)] [(false, .box 72 field_Codes.rep u1 s_.2), (true, .box 26 Requester_.rep u10 x1)]) hF (fun s7 _ w56 hI hF => ?_) (fun j6 hj6 hF => ?_)
                          ·
                            obtain ⟨u32, rfl, h134⟩ := hI
                            refine Run.seq ?_
                            refine Run.reg ?_
                            refine RunL.op (OpS.loadB h134 (.s .z) PA.z Get.id ty26 rfl rfl rfl (fun u33 h135 => ?_))
                            refine RunL.op (OpS.mv rfl rfl rfl ?_)
                            obtain ⟨y21, e30, hF⟩ := bindP_use hF
                            have h136 := h135.front .nil
                            refine RunL.op (OpS.callO h136 Try.func28 rfl rfl rfl rfl (vs := [u33, u32]) rfl (exchange_Receive_ok e30) rfl (.cons (f := true) (V.at .z) (.cons (f := false) (V.at (.s (.s (.s (.s .z))))) .nil)) ?_)
                            rintro _ w57 _ _ _ ⟨u34, u35, u36, rfl, rfl, rfl, rfl⟩ h137
                            have h138 := h137
                            simp only [List.cons_append, List.nil_append] at h138
                            refine RunL.op (OpS.mv rfl rfl rfl ?_)
                            refine RunL.op (OpS.ext rfl rfl rfl rfl ?_)
                            refine RunL.op (OpS.ext rfl rfl rfl rfl ?_)
                            refine RunL.op (OpS.ext rfl rfl rfl rfl ?_)
                            refine RunL.op (OpS.ext rfl rfl rfl rfl ?_)
                            refine RunL.op (OpS.alloc h138 ti26 Requester_.zr rfl rfl (fun u37 w58 h139 => ?_))
                            refine RunL.op (OpS.alloc h139 ti51 Message_.zr rfl rfl (fun u38 w59 h140 => ?_))
                            refine RunL.op (OpS.alloc h140 ti51 Message_.zr rfl rfl (fun u39 w60 h141 => ?_))
                            have h142 := (h141.pick (.s (.s .z))).weak
                            refine RunL.op (OpS.storeB (f' := false) h142 .z PA.z Put.id ty26 rfl rfl rfl (V.at .z) (.inr rfl) (fun w61 h143 => ?_))
                            have h144 := (h143.pick (.s (.s .z))).weak
                            refine RunL.op (OpS.storeB (f' := false) h144 .z PA.z Put.id ty51 rfl rfl rfl (V.at (.s .z)) (.inr rfl) (fun w62 h145 => ?_))
                            refine RunL.op (OpS.storeB (f' := true) h145 (.s (.s .z)) PA.z Put.id ty51 rfl rfl rfl (V.at (.s (.s .z))) (.inl rfl) (fun w63 h146 => ?_))
                            refine RunL.op (OpS.as rfl rfl rfl ?_)
                            refine RunL.nil ?_
                            refine Run.slim [(41, .bool y21.2.2.2), (40, u39), (39, u38), (38, u37), (1, v1), (2, v2), (3, .int .i64 a3), (9, u1), (11, .int .i64 y3.2.1), (18, u10), (35, u32), (89, (q1 4)), (90, .int .i64 (([y3.1, y7.1]).length : Int)), (91, .int .i64 s3.1)] ⟨rfl, rfl, rfl, rfl, rfl, rfl, rfl, rfl, rfl, rfl, rfl, rfl, rfl, rfl, trivial⟩ ?_
                            refine Run.seq ?_
                            refine Run.reg ?_
                            refine RunL.op (OpS.loadB h146 (.s (.s (.s (.s .z)))) PA.z Get.id ty26 rfl rfl rfl (fun u40 h147 => ?_))
                            refine RunL.op (OpS.mv rfl rfl rfl ?_)
                            obtain ⟨y22, e31, hF⟩ := bindP_use hF
                            refine RunL.op (OpS.callP h147 Try.func29 rfl rfl rfl rfl (vs := [u40, u32]) rfl (ref24_Receive_ok e31) (.cons (f := true) (V.at .z) (.cons (f := false) (V.at (.s (.s (.s (.s (.s (.s (.s (.s .z))))))))) .nil)) ?_)
                            rintro _ w64 _ _ _ ⟨u41, u42, u43, rfl, rfl, rfl, rfl⟩ h148
                            have h149 := h148 rfl rfl
                            simp only [List.cons_append, List.nil_append] at h149
                            refine RunL.op (OpS.mv rfl rfl rfl ?_)
                            refine RunL.op (OpS.ext rfl rfl rfl rfl ?_)
                            refine RunL.op (OpS.ext rfl rfl rfl rfl ?_)
                            refine RunL.op (OpS.ext rfl rfl rfl rfl ?_)
                            refine RunL.op (OpS.ext rfl rfl rfl rfl ?_)
                            refine RunL.op (OpS.alloc h149 ti26 Requester_.zr rfl rfl (fun u44 w65 h150 => ?_))
                            refine RunL.op (OpS.alloc h150 ti51 Message_.zr rfl rfl (fun u45 w66 h151 => ?_))
                            refine RunL.op (OpS.alloc h151 ti51 Message_.zr rfl rfl (fun u46 w67 h152 => ?_))
                            refine RunL.op (OpS.storeB (f' := true) h152 (.s (.s .z)) PA.z Put.id ty26 rfl rfl rfl (V.at .z) (.inl rfl) (fun w68 h153 => ?_))
                            refine RunL.op (OpS.storeB (f' := true) h153 (.s (.s .z)) PA.z Put.id ty51 rfl rfl rfl (V.at (.s .z)) (.inl rfl) (fun w69 h154 => ?_))
                            refine RunL.op (OpS.storeB (f' := true) h154 (.s (.s .z)) PA.z Put.id ty51 rfl rfl rfl (V.at (.s (.s .z))) (.inl rfl) (fun w70 h155 => ?_))
                            refine RunL.op (OpS.as rfl rfl rfl ?_)
                            refine RunL.nil ?_
                            refine Run.slim [(45, .bool y22.2.2.2), (44, u46), (43, u45), (42, u44), (41, .bool y21.2.2.2), (40, u39), (39, u38), (38, u37), (1, v1), (2, v2), (3, .int .i64 a3), (9, u1), (11, .int .i64 y3.2.1), (89, (q1 4)), (90, .int .i64 (([y3.1, y7.1]).length : Int)), (91, .int .i64 s3.1)] ⟨rfl, rfl, rfl, rfl, rfl, rfl, rfl, rfl, rfl, rfl, rfl, rfl, rfl, rfl, rfl, rfl, trivial⟩ ?_
                            refine Run.seq ?_
                            refine Run.reg ?_
                            refine RunL.op (OpS.mv rfl rfl rfl ?_)
                            refine RunL.op (OpS.mv rfl rfl rfl ?_)
                            refine RunL.op (OpS.neb Try.underlying4 rfl rfl rfl rfl ?_)
                            refine RunL.op (OpS.mv rfl rfl rfl ?_)
                            refine RunL.join (σ := Bool) (fun s_ L_ w_ => L_ = [(1, v1), (2, v2), (3, .int .i64 a3), (9, u1), (11, .int .i64 y3.2.1), (89, (q1 4)), (90, .int .i64 (([y3.1, y7.1]).length : Int)), (91, .int .i64 s3.1), (269, .bool s_)] ∧ St e w_ [(false, .val (Rep.slice (Rep.int .u8)) v1 a1), (false, .val (Rep.slice (Rep.int .u8)) v2 a2), (true, .val (Rep.slice Requester_.rep) (q1 4) ([y3.1, y7.1]))] [(false, .box 72 field_Codes.rep u1 s7.2)]) hF (fun s8 _ w71 hI hF => ?_) (fun j7 hj7 hF => ?_)
                            ·
                              obtain ⟨rfl, h156⟩ := hI
                              refine Run.ite rfl hF (fun e32 hF => ?_) (fun e32 hF => ?_)
                              ·
                                refine Run.seq ?_
                                refine Run.reg ?_
                                refine RunL.op (OpS.as rfl rfl rfl ?_)
                                refine RunL.nil ?_
                                refine Run.slim [(8, .bool false)] ⟨rfl, trivial⟩ ?_
                                refine Run.retP rfl (.tmp rfl .nil) ?_
                                cases hF
                                exact Post.mk' ⟨rfl, rfl, rfl, rfl⟩ (h156.picks .nil) .nil
                              ·
                                refine Run.skip ?_
                                refine Run.endBlock ?_
                                refine Run.reg ?_
                                refine RunL.op (OpS.bin rfl rfl rfl rfl rfl ?_)
                                refine RunL.op (OpS.mv rfl rfl rfl ?_)
                                refine RunL.nil ?_
                                refine Run.slim [(91, .int .i64 (IntKind.i64.wrap (s3.1 + 1))), (1, v1), (2, v2), (3, .int .i64 a3), (9, u1), (11, .int .i64 y3.2.1), (89, (q1 4)), (90, .int .i64 (([y3.1, y7.1]).length : Int))] ⟨rfl, rfl, rfl, rfl, rfl, rfl, rfl, rfl, trivial⟩ ?_
                                refine Run.slim [(1, v1), (2, v2), (3, .int .i64 a3), (9, u1), (11, .int .i64 y3.2.1), (89, (q1 4)), (90, .int .i64 (([y3.1, y7.1]).length : Int)), (91, .int .i64 (IntKind.i64.wrap (s3.1 + 1)))] ⟨rfl, rfl, rfl, rfl, rfl, rfl, rfl, rfl, trivial⟩ ?_
                                exact hk1 ((IntKind.i64.wrap (s3.1 + 1)), s7.2) _ _ ⟨rfl, (h156.facts (.atm .z (.atm (.s .z) (.atm (.s (.s .z)) .nil)))).picks (.cons .z .nil)⟩ hF
                            ·
                              refine RunL.caseb hF (fun e33 hF => ?_) (fun e33 hF => ?_)
                              ·
                                refine RunL.op (OpS.pass rfl rfl rfl ?_)
                                refine RunL.op (OpS.pass rfl rfl rfl ?_)
                                refine RunL.op (OpS.pass rfl rfl rfl ?_)
                                refine RunL.op (OpS.pass rfl rfl rfl ?_)
                                refine RunL.op (OpS.pick rfl rfl rfl rfl ?_)
                                refine RunL.op (OpS.mv rfl rfl rfl ?_)
                                refine RunL.op (OpS.pass rfl rfl rfl ?_)
                                refine RunL.op (OpS.pass rfl rfl rfl ?_)
                                refine RunL.op (OpS.pass rfl rfl rfl ?_)
                                refine RunL.op (OpS.pass rfl rfl rfl ?_)
                                refine RunL.op (OpS.pick rfl rfl rfl rfl ?_)
                                refine RunL.op (OpS.mv rfl rfl rfl ?_)
                                refine RunL.op (OpS.pass rfl rfl rfl ?_)
                                refine RunL.op (OpS.pass rfl rfl rfl ?_)
                                refine RunL.op (OpS.pass rfl rfl rfl ?_)
                                refine RunL.op (OpS.pass rfl rfl rfl ?_)
                                refine RunL.op (OpS.pick rfl rfl rfl rfl ?_)
                                refine RunL.nil ?_
                                refine Run.slim [(269, .bool true), (1, v1), (2, v2), (3, .int .i64 a3), (9, u1), (11, .int .i64 y3.2.1), (89, (q1 4)), (90, .int .i64 (([y3.1, y7.1]).length : Int)), (91, .int .i64 s3.1)] ⟨rfl, rfl, rfl, rfl, rfl, rfl, rfl, rfl, rfl, trivial⟩ ?_
                                refine Run.slim [(1, v1), (2, v2), (3, .int .i64 a3), (9, u1), (11, .int .i64 y3.2.1), (89, (q1 4)), (90, .int .i64 (([y3.1, y7.1]).length : Int)), (91, .int .i64 s3.1), (269, .bool true)] ⟨rfl, rfl, rfl, rfl, rfl, rfl, rfl, rfl, rfl, trivial⟩ ?_
                                exact hj7 (true) _ _ ⟨rfl, (h155.facts (.atm (.s (.s (.s (.s (.s (.s (.s (.s .z)))))))) (.atm (.s (.s (.s (.s (.s (.s (.s (.s (.s .z))))))))) (.atm (.s (.s (.s (.s (.s (.s (.s (.s (.s (.s .z)))))))))) .nil)))).picks (.cons (.s (.s (.s (.s (.s (.s .z)))))) .nil)⟩ hF
                              ·
                                refine RunL.op (OpS.loadB h155 (.s (.s (.s (.s (.s .z))))) PA.z Get.id ty26 rfl rfl rfl (fun u47 h157 => ?_))
                                refine RunL.op (OpS.loadB h157 (.s (.s .z)) PA.z Get.id ty26 rfl rfl rfl (fun u48 h158 => ?_))
                                obtain ⟨y23, e34, hF⟩ := bindP_use hF
                                refine RunL.op (OpS.callP h158 Try.func16 rfl rfl rfl rfl (vs := [u47, u48]) rfl (ref24_Same_ok e34) (.cons (f := false) (V.at (.s .z)) (.cons (f := true) (V.at .z) .nil)) ?_)
                                rintro _ w72 _ _ _ ⟨rfl, rfl, rfl, rfl⟩ h159
                                have h160 := h159 rfl rfl
                                simp only [List.cons_append, List.nil_append] at h160
                                refine RunL.op (OpS.not rfl rfl rfl ?_)
                                refine RunL.op (OpS.pick rfl rfl rfl rfl ?_)
                                refine RunL.op (OpS.mv rfl rfl rfl ?_)
                                refine RunL.caseb hF (fun e35 hF => ?_) (fun e35 hF => ?_)
                                ·
                                  refine RunL.op (OpS.pass rfl rfl rfl ?_)
                                  refine RunL.op (OpS.pass rfl rfl rfl ?_)
                                  refine RunL.op (OpS.pass rfl rfl rfl ?_)
                                  refine RunL.op (OpS.pass rfl rfl rfl ?_)
                                  refine RunL.op (OpS.pick rfl rfl rfl rfl ?_)
                                  refine RunL.op (OpS.mv rfl rfl rfl ?_)
                                  refine RunL.op (OpS.pass rfl rfl rfl ?_)
                                  refine RunL.op (OpS.pass rfl rfl rfl ?_)
                                  refine RunL.op (OpS.pass rfl rfl rfl ?_)
                                  refine RunL.op (OpS.pass rfl rfl rfl ?_)
                                  refine RunL.op (OpS.pick rfl rfl rfl rfl ?_)
                                  refine RunL.nil ?_
                                  refine Run.slim [(269, .bool true), (1, v1), (2, v2), (3, .int .i64 a3), (9, u1), (11, .int .i64 y3.2.1), (89, (q1 4)), (90, .int .i64 (([y3.1, y7.1]).length : Int)), (91, .int .i64 s3.1)] ⟨rfl, rfl, rfl, rfl, rfl, rfl, rfl, rfl, rfl, trivial⟩ ?_
                                  refine Run.slim [(1, v1), (2, v2), (3, .int .i64 a3), (9, u1), (11, .int .i64 y3.2.1), (89, (q1 4)), (90, .int .i64 (([y3.1, y7.1]).length : Int)), (91, .int .i64 s3.1), (269, .bool true)] ⟨rfl, rfl, rfl, rfl, rfl, rfl, rfl, rfl, rfl, trivial⟩ ?_
                                  exact hj7 (true) _ _ ⟨rfl, (h160.facts (.atm (.s (.s (.s (.s (.s (.s (.s (.s (.s (.s .z)))))))))) (.atm (.s (.s (.s (.s (.s (.s (.s (.s (.s (.s (.s .z))))))))))) (.atm (.s (.s (.s (.s (.s (.s (.s (.s (.s (.s (.s (.s .z)))))))))))) .nil)))).picks (.cons (.s (.s (.s (.s (.s (.s .z)))))) .nil)⟩ hF
                                ·
                                  refine RunL.op (OpS.loadB h160 (.s (.s (.s (.s .z)))) PA.z Get.id ty51 rfl rfl rfl (fun u49 h161 => ?_))
                                  refine RunL.op (OpS.loadB h161 (.s .z) PA.z Get.id ty51 rfl rfl rfl (fun u50 h162 => ?_))
                                  obtain ⟨y24, e36, hF⟩ := bindP_use hF
                                  refine RunL.op (OpS.callP h162 Try.func30 rfl rfl rfl rfl (vs := [u49, u50]) rfl (ref24_SameMessage_ok e36) (.cons (f := false) (V.at (.s .z)) (.cons (f := true) (V.at .z) .nil)) ?_)
                                  rintro _ w73 _ _ _ ⟨rfl, rfl, rfl, rfl⟩ h163
                                  have h164 := h163 rfl rfl
                                  simp only [List.cons_append, List.nil_append] at h164
                                  refine RunL.op (OpS.not rfl rfl rfl ?_)
                                  refine RunL.op (OpS.pick rfl rfl rfl rfl ?_)
                                  refine RunL.op (OpS.mv rfl rfl rfl ?_)
                                  refine RunL.caseb hF (fun e37 hF => ?_) (fun e37 hF => ?_)
                                  ·
                                    refine RunL.op (OpS.pass rfl rfl rfl ?_)
                                    refine RunL.op (OpS.pass rfl rfl rfl ?_)
                                    refine RunL.op (OpS.pass rfl rfl rfl ?_)
                                    refine RunL.op (OpS.pass rfl rfl rfl ?_)
                                    refine RunL.op (OpS.pick rfl rfl rfl rfl ?_)
                                    refine RunL.nil ?_
                                    refine Run.slim [(269, .bool true), (1, v1), (2, v2), (3, .int .i64 a3), (9, u1), (11, .int .i64 y3.2.1), (89, (q1 4)), (90, .int .i64 (([y3.1, y7.1]).length : Int)), (91, .int .i64 s3.1)] ⟨rfl, rfl, rfl, rfl, rfl, rfl, rfl, rfl, rfl, trivial⟩ ?_
                                    refine Run.slim [(1, v1), (2, v2), (3, .int .i64 a3), (9, u1), (11, .int .i64 y3.2.1), (89, (q1 4)), (90, .int .i64 (([y3.1, y7.1]).length : Int)), (91, .int .i64 s3.1), (269, .bool true)] ⟨rfl, rfl, rfl, rfl, rfl, rfl, rfl, rfl, rfl, trivial⟩ ?_
                                    exact hj7 (true) _ _ ⟨rfl, (h164.facts (.atm (.s (.s (.s (.s (.s (.s (.s (.s (.s (.s (.s (.s .z)))))))))))) (.atm (.s (.s (.s (.s (.s (.s (.s (.s (.s (.s (.s (.s (.s .z))))))))))))) (.atm (.s (.s (.s (.s (.s (.s (.s (.s (.s (.s (.s (.s (.s (.s .z)))))))))))))) .nil)))).picks (.cons (.s (.s (.s (.s (.s (.s .z)))))) .nil)⟩ hF
                                  ·
                                    refine RunL.op (OpS.loadB h164 (.s (.s (.s .z))) PA.z Get.id ty51 rfl rfl rfl (fun u51 h165 => ?_))
                                    refine RunL.op (OpS.loadB h165 .z PA.z Get.id ty51 rfl rfl rfl (fun u52 h166 => ?_))
                                    obtain ⟨y25, e38, hF⟩ := bindP_use hF
                                    refine RunL.op (OpS.callP h166 Try.func30 rfl rfl rfl rfl (vs := [u51, u52]) rfl (ref24_SameMessage_ok e38) (.cons (f := true) (V.at (.s .z)) (.cons (f := true) (V.at .z) .nil)) ?_)
                                    rintro _ w74 _ _ _ ⟨rfl, rfl, rfl, rfl⟩ h167
                                    have h168 := h167 rfl rfl
                                    simp only [List.cons_append, List.nil_append] at h168
                                    refine RunL.op (OpS.not rfl rfl rfl ?_)
                                    refine RunL.op (OpS.pick rfl rfl rfl rfl ?_)
                                    refine RunL.nil ?_
                                    refine Run.slim [(269, .bool (!y25)), (1, v1), (2, v2), (3, .int .i64 a3), (9, u1), (11, .int .i64 y3.2.1), (89, (q1 4)), (90, .int .i64 (([y3.1, y7.1]).length : Int)), (91, .int .i64 s3.1)] ⟨rfl, rfl, rfl, rfl, rfl, rfl, rfl, rfl, rfl, trivial⟩ ?_
                                    refine Run.slim [(1, v1), (2, v2), (3, .int .i64 a3), (9, u1), (11, .int .i64 y3.2.1), (89, (q1 4)), (90, .int .i64 (([y3.1, y7.1]).length : Int)), (91, .int .i64 s3.1), (269, .bool (!y25))] ⟨rfl, rfl, rfl, rfl, rfl, rfl, rfl, rfl, rfl, trivial⟩ ?_
                                    exact hj7 (!y25) _ _ ⟨rfl, (h168.facts (.atm (.s (.s (.s (.s (.s (.s (.s (.s (.s (.s (.s (.s (.s (.s .z)))))))))))))) (.atm (.s (.s (.s (.s (.s (.s (.s (.s (.s (.s (.s (.s (.s (.s (.s .z))))))))))))))) (.atm (.s (.s (.s (.s (.s (.s (.s (.s (.s (.s (.s (.s (.s (.s (.s (.s .z)))))))))))))))) .nil)))).picks (.cons (.s (.s (.s (.s (.s (.s .z)))))) .nil)⟩ hF
                          ·
                            refine Run.ite rfl hF (fun e39 hF => ?_) (fun e39 hF => ?_)
                            ·
                              refine Run.seq ?_
                              obtain ⟨y26, e40, hF⟩ := bindP_use hF
                              obtain ⟨x3, e41, hF⟩ := bindP_use hF
                              obtain ⟨y27, e42, hF⟩ := bindP_use hF
                              obtain ⟨y28, e43, hF⟩ := bindP_use hF
                              obtain ⟨y29, e44, hF⟩ := bindP_use hF
                              refine Run.drawV (Ωs := []) [⟨some 202, some ((padd u10 2)), fun _ => [], fun ds_ u_ => [], [], [(1, [])], none⟩, ⟨some 203, none, fun u_ => [(true, .val (Rep.slice Pending_.rep) u_ x1.Pending)], fun ds_ u_ => [], [], [(1, [])], none⟩, ⟨some 204, some (u1), fun _ => [], fun ds_ u_ => [], [], [], none⟩, ⟨some 205, some ((padd u10 2)), fun _ => [], fun ds_ u_ => [], [], [(1, [])], none⟩, ⟨some 206, none, fun u_ => [(true, .val (Rep.slice Pending_.rep) u_ x1.Pending)], fun ds_ u_ => [], [], [(1, [])], none⟩, ⟨some 207, some (.int .i64 (x1.Pending.length : Int)), fun _ => [], fun ds_ u_ => [], [], [], none⟩, ⟨some 208, some (.int .i64 y26.1), fun _ => [], fun ds_ u_ => [(false, .box 72 field_Codes.rep u1 y26.2)], [0], [], none⟩, ⟨some 209, none, fun u_ => [(true, .ptr Pending_.rep u_ x3)], fun ds_ u_ => [], [], [], none⟩, ⟨some 210, none, fun u_ => [(true, .ptr Message_.rep u_ x3.Request)], fun ds_ u_ => [], [], [], none⟩, ⟨some 211, none, fun u_ => [(true, .val Message_.rep u_ x3.Request)], fun ds_ u_ => [], [], [], none⟩, ⟨some 212, some (u1), fun _ => [], fun ds_ u_ => [], [], [], none⟩, ⟨some 213, some (.int .i64 y27.1), fun _ => [], fun ds_ u_ => [(false, .box 72 field_Codes.rep u1 y27.2)], [8], [], none⟩, ⟨some 214, some (.int .u8 (IntKind.u8.wrap y27.1)), fun _ => [], fun ds_ u_ => [], [], [], none⟩, ⟨some 215, some (u1), fun _ => [], fun ds_ u_ => [], [], [], none⟩, ⟨some 216, none, fun u_ => [(true, .val (Rep.slice (Rep.int .u8)) u_ y28.1)], fun ds_ u_ => [(false, .box 72 field_Codes.rep u1 y28.2)], [13], [], none⟩, ⟨some 217, none, fun u_ => [(true, .eqv u_ (.tuple #[(tcomp u_ 0), .int .i64 y29.2])), (true, .val Message_.rep (tcomp u_ 0) y29.1)], fun ds_ u_ => [], [], [], none⟩, ⟨some 201, none, fun u_ => [(true, .eqv u_ (.tuple #[(tcomp u_ 0), .int .i64 y29.2])), (true, .val Message_.rep (tcomp u_ 0) y29.1)], fun ds_ u_ => [], [], [], none⟩, ⟨some 218, none, fun u_ => [(true, .val Message_.rep u_ y29.1)], fun ds_ u_ => [], [], [], none⟩, ⟨some 219, some (.int .i64 y29.2), fun _ => [], fun ds_ u_ => [], [], [], none⟩, ⟨some 36, none, fun u_ => [], fun ds_ u_ => [(true, .box 51 Message_.rep u_ Message_.z)], [], [], none⟩, ⟨none, some undef, fun _ => [], fun ds_ u_ => [(true, .box 51 Message_.rep (nth ds_ 0) y29.1)], [21], [], none⟩] [[], [0], [], [], [3], [4], [2, 5], [1, 6], [7], [8], [], [10], [11], [], [13], [9, 12, 14], [15], [16], [16], [], [19, 17]] [[(false, .box 72 field_Codes.rep u1 s6.2)], [(true, .box 26 Requester_.rep u10 x1)]] [1, 2, 3, 4, 5, 6, 7, 9, 10, 11, 12, 14, 15, 16, 17, 18, 19, 20, 22] Try_mixed rfl rfl rfl h133 (.cons ?_ (.cons ?_ (.cons ?_ (.cons ?_ (.cons ?_ (.cons ?_ (.cons ?_ (.cons ?_ (.cons ?_ (.cons ?_ (.cons ?_ (.cons ?_ (.cons ?_ (.cons ?_ (.cons ?_ (.cons ?_ (.cons ?_ (.cons ?_ (.cons ?_ (.cons ?_ (.cons ?_ .nil))))))))))))))))))))) (fun q4 w hq4 h => ?_)
                              · intro q4 w Γx Ωx h
                                have h : St e w ([(false, .val (Rep.slice (Rep.int .u8)) v1 a1), (false, .val (Rep.slice (Rep.int .u8)) v2 a2), (true, .val (Rep.slice Requester_.rep) (q1 4) ([y3.1, y7.1]))] ++ Γx) ([(true, .box 26 Requester_.rep u10 x1)] ++ Ωx) := h
                                refine OpS.fbox (o3 := 2) h .z PA.z fa26_2 rfl rfl rfl rfl ?_
                                exact ⟨undef, rfl, trivial, h⟩
                              · intro q4 w Γx Ωx h
                                have h : St e w ([(false, .val (Rep.slice (Rep.int .u8)) v1 a1), (false, .val (Rep.slice (Rep.int .u8)) v2 a2), (true, .val (Rep.slice Requester_.rep) (q1 4) ([y3.1, y7.1]))] ++ Γx) ([(true, .box 26 Requester_.rep u10 x1)] ++ Ωx) := h
                                refine OpS.loadB h .z PA.a (Get.fld Requester_.f2) ty24 rfl rfl rfl (fun u h188 => ?_)
                                exact ⟨u, rfl, trivial, h188⟩
                              · intro q4 w Γx Ωx h
                                refine OpS.mv rfl rfl rfl ?_
                                exact ⟨undef, rfl, trivial, h⟩
                              · intro q4 w Γx Ωx h
                                have h : St e w ([(false, .val (Rep.slice (Rep.int .u8)) v1 a1), (false, .val (Rep.slice (Rep.int .u8)) v2 a2), (true, .val (Rep.slice Requester_.rep) (q1 4) ([y3.1, y7.1]))] ++ Γx) ([(true, .box 26 Requester_.rep u10 x1)] ++ Ωx) := h
                                refine OpS.fbox (o3 := 2) h .z PA.z fa26_2 rfl rfl rfl rfl ?_
                                exact ⟨undef, rfl, trivial, h⟩
                              · intro q4 w Γx Ωx h
                                have h : St e w ([(false, .val (Rep.slice (Rep.int .u8)) v1 a1), (false, .val (Rep.slice (Rep.int .u8)) v2 a2), (true, .val (Rep.slice Requester_.rep) (q1 4) ([y3.1, y7.1]))] ++ Γx) ([(true, .box 26 Requester_.rep u10 x1)] ++ Ωx) := h
                                refine OpS.loadB h .z PA.a (Get.fld Requester_.f2) ty24 rfl rfl rfl (fun u h189 => ?_)
                                exact ⟨u, rfl, trivial, h189⟩
                              · intro q4 w Γx Ωx h
                                refine OpS.len h Try.underlying24 rfl rfl rfl (V.at .z) ?_
                                exact ⟨undef, rfl, trivial, h⟩
                              · intro q4 w Γx Ωx h
                                have h : St e w ([(false, .val (Rep.slice (Rep.int .u8)) v1 a1), (false, .val (Rep.slice (Rep.int .u8)) v2 a2), (true, .val (Rep.slice Requester_.rep) (q1 4) ([y3.1, y7.1]))] ++ Γx) ([(false, .box 72 field_Codes.rep u1 s6.2)] ++ Ωx) := h
                                have h190 := h.front (.cons .z .nil)
                                refine OpS.callO h190 Try.func14 rfl rfl rfl rfl (vs := [u1, .int .i64 (x1.Pending.length : Int)]) rfl (field_Codes_Next_ok e40) rfl .nil ?_
                                rintro _ w81 _ _ _ ⟨rfl, rfl, rfl, rfl⟩ h191
                                have h192 := h191
                                simp only [List.cons_append, List.nil_append] at h192
                                exact ⟨undef, rfl, trivial, h192⟩
                              · intro q4 w Γx Ωx h
                                refine OpS.iptr h Try.underlying24 ty55 rfl rfl rfl rfl (V.at .z) e41 (fun u h193 => ?_)
                                exact ⟨u, rfl, trivial, h193⟩
                              · intro q4 w Γx Ωx h
                                refine OpS.fptr h fa55_0 Pending_.f0 rfl rfl rfl .z (fun u h194 => ?_)
                                exact ⟨u, rfl, trivial, h194⟩
                              · intro q4 w Γx Ωx h
                                refine OpS.load h ty51 rfl rfl rfl .z (fun u h195 => ?_)
                                exact ⟨u, rfl, trivial, h195⟩
                              · intro q4 w Γx Ωx h
                                refine OpS.mv rfl rfl rfl ?_
                                exact ⟨undef, rfl, trivial, h⟩
                              · intro q4 w Γx Ωx h
                                have h : St e w ([(false, .val (Rep.slice (Rep.int .u8)) v1 a1), (false, .val (Rep.slice (Rep.int .u8)) v2 a2), (true, .val (Rep.slice Requester_.rep) (q1 4) ([y3.1, y7.1]))] ++ Γx) ([(false, .box 72 field_Codes.rep u1 y26.2)] ++ Ωx) := h
                                have h196 := h.front (.cons .z .nil)
                                refine OpS.callO h196 Try.func14 rfl rfl rfl rfl (vs := [u1, .int .i64 3]) rfl (field_Codes_Next_ok e42) rfl .nil ?_
                                rintro _ w82 _ _ _ ⟨rfl, rfl, rfl, rfl⟩ h197
                                have h198 := h197
                                simp only [List.cons_append, List.nil_append] at h198
                                exact ⟨undef, rfl, trivial, h198⟩
                              · intro q4 w Γx Ωx h
                                refine OpS.conv Try.underlying3 Try.underlying5 rfl rfl rfl ?_
                                exact ⟨undef, rfl, trivial, h⟩
                              · intro q4 w Γx Ωx h
                                refine OpS.mv rfl rfl rfl ?_
                                exact ⟨undef, rfl, trivial, h⟩
                              · intro q4 w Γx Ωx h
                                have h : St e w ([(false, .val (Rep.slice (Rep.int .u8)) v1 a1), (false, .val (Rep.slice (Rep.int .u8)) v2 a2), (true, .val (Rep.slice Requester_.rep) (q1 4) ([y3.1, y7.1]))] ++ Γx) ([(false, .box 72 field_Codes.rep u1 y27.2)] ++ Ωx) := h
                                have h199 := h.front (.cons .z .nil)
                                refine OpS.callO h199 Try.func26 rfl rfl rfl rfl (vs := [u1, .int .i64 2]) rfl (field_Codes_Bytes_ok e43) rfl .nil ?_
                                rintro u w83 _ _ _ ⟨_, rfl, rfl, rfl, rfl⟩ h200
                                have h201 := h200
                                simp only [List.cons_append, List.nil_append] at h201
                                have h202 := h201.freeze
                                exact ⟨u, rfl, trivial, h202⟩
                              · intro q4 w Γx Ωx h
                                refine OpS.callP h Try.func25 rfl rfl rfl rfl (vs := [(q4 9), .int .u8 (IntKind.u8.wrap y27.1), (q4 14)]) rfl (ref23_Reply_ok e44) (.cons (f := true) (V.at .z) (.cons (f := true) (V.at (.s .z)) .nil)) ?_
                                rintro _ w84 _ _ _ ⟨u54, rfl, rfl, rfl, rfl⟩ h203
                                have h204 := h203 rfl rfl
                                simp only [List.cons_append, List.nil_append] at h204
                                exact ⟨_, rfl, trivial, St.eqv rfl h204⟩
                              · intro q4 w Γx Ωx h
                                refine OpS.mv rfl rfl rfl ?_
                                exact ⟨_, rfl, trivial, ((h.dup (.s .z)).dup (.s .z))⟩
                              · intro q4 w Γx Ωx h
                                refine OpS.extT h .z rfl rfl rfl rfl ?_
                                exact ⟨_, rfl, trivial, (h.dup (.s .z))⟩
                              · intro q4 w Γx Ωx h
                                refine OpS.extT h .z rfl rfl rfl rfl ?_
                                exact ⟨undef, rfl, trivial, h⟩
                              · intro q4 w Γx Ωx h
                                refine OpS.alloc h ti51 Message_.zr rfl rfl (fun u w85 h205 => ?_)
                                exact ⟨u, rfl, trivial, h205⟩
                              · intro q4 w Γx Ωx h
                                have h : St e w ([(true, .val Message_.rep (q4 17) y29.1), (false, .val (Rep.slice (Rep.int .u8)) v1 a1), (false, .val (Rep.slice (Rep.int .u8)) v2 a2), (true, .val (Rep.slice Requester_.rep) (q1 4) ([y3.1, y7.1]))] ++ Γx) ([(true, .box 51 Message_.rep (q4 19) Message_.z)] ++ Ωx) := h
                                refine OpS.storeB (f' := true) h .z PA.z Put.id ty51 rfl rfl rfl (V.at .z) (.inl rfl) (fun w86 h206 => ?_)
                                exact ⟨undef, trivial, trivial, h206⟩
                              have h207 : St e w [(true, .val (Rep.slice Pending_.rep) (q4 1) x1.Pending), (true, .val (Rep.slice Pending_.rep) (q4 4) x1.Pending), (true, .ptr Pending_.rep (q4 7) x3), (true, .ptr Message_.rep (q4 8) x3.Request), (true, .val Message_.rep (q4 9) x3.Request), (true, .val (Rep.slice (Rep.int .u8)) (q4 14) y28.1), (true, .eqv (q4 15) (.tuple #[(tcomp (q4 15) 0), .int .i64 y29.2])), (true, .val Message_.rep (tcomp (q4 15) 0) y29.1), (true, .eqv (q4 16) (.tuple #[(tcomp (q4 16) 0), .int .i64 y29.2])), (true, .val Message_.rep (tcomp (q4 16) 0) y29.1), (true, .val Message_.rep (q4 17) y29.1), (false, .val (Rep.slice (Rep.int .u8)) v1 a1), (false, .val (Rep.slice (Rep.int .u8)) v2 a2), (true, .val (Rep.slice Requester_.rep) (q1 4) ([y3.1, y7.1]))] [(true, .box 26 Requester_.rep u10 x1), (false, .box 72 field_Codes.rep u1 y28.2), (true, .box 51 Message_.rep (q4 19) y29.1)] := h
                              refine RunL.op (OpS.as rfl rfl rfl ?_)
                              refine RunL.nil ?_
                              refine Run.slim [(36, (q4 19)), (1, v1), (2, v2), (3, .int .i64 a3), (9, u1), (11, .int .i64 y3.2.1), (18, u10), (89, (q1 4)), (90, .int .i64 (([y3.1, y7.1]).length : Int)), (91, .int .i64 s3.1)] ⟨rfl, rfl, rfl, rfl, rfl, rfl, rfl, rfl, rfl, rfl, trivial⟩ ?_
                              refine Run.seq ?_
                              have h208 := h207.picks (.cons (.s .z) (.cons (.s .z) (.cons .z .nil)))
                              obtain ⟨y30, e45, hF⟩ := bindP_use hF
                              refine Run.drawV (Ωs := [(true, .box 26 Requester_.rep u10 x1)]) [⟨some 220, some ((padd (q4 19) 6)), fun _ => [], fun ds_ u_ => [], [], [(1, [])], none⟩, ⟨some 221, some (.int .i64 y29.1.Sequence), fun _ => [], fun ds_ u_ => [], [], [(1, [])], none⟩, ⟨some 222, some (u1), fun _ => [], fun ds_ u_ => [], [], [], none⟩, ⟨some 223, some (.int .i64 y30.1), fun _ => [], fun ds_ u_ => [(false, .box 72 field_Codes.rep u1 y30.2)], [0], [], none⟩, ⟨some 224, some (.int .i64 (IntKind.i64.wrap (Int.tdiv y30.1 4))), fun _ => [], fun ds_ u_ => [], [], [], none⟩, ⟨some 225, some (.int .i64 (IntKind.i64.wrap (y29.1.Sequence + (IntKind.i64.wrap (Int.tdiv y30.1 4))))), fun _ => [], fun ds_ u_ => [], [], [], none⟩, ⟨some 226, some (.int .i64 (Int.tmod (IntKind.i64.wrap (y29.1.Sequence + (IntKind.i64.wrap (Int.tdiv y30.1 4)))) 64)), fun _ => [], fun ds_ u_ => [], [], [], none⟩] [[], [0], [], [2], [3], [1, 4], [5]] [[(false, .box 72 field_Codes.rep u1 y28.2)], [(true, .box 51 Message_.rep (q4 19) y29.1)]] [1, 2, 3, 4, 5, 6, 7, 8] Try_mixed rfl rfl rfl h208 (.cons ?_ (.cons ?_ (.cons ?_ (.cons ?_ (.cons ?_ (.cons ?_ (.cons ?_ .nil))))))) (fun q5 w hq5 h => ?_)
                              · intro q5 w Γx Ωx h
                                have h : St e w ([(true, .val (Rep.slice Pending_.rep) (q4 1) x1.Pending), (true, .val (Rep.slice Pending_.rep) (q4 4) x1.Pending), (true, .ptr Pending_.rep (q4 7) x3), (true, .ptr Message_.rep (q4 8) x3.Request), (true, .val Message_.rep (q4 9) x3.Request), (true, .val (Rep.slice (Rep.int .u8)) (q4 14) y28.1), (true, .eqv (q4 15) (.tuple #[(tcomp (q4 15) 0), .int .i64 y29.2])), (true, .val Message_.rep (tcomp (q4 15) 0) y29.1), (true, .eqv (q4 16) (.tuple #[(tcomp (q4 16) 0), .int .i64 y29.2])), (true, .val Message_.rep (tcomp (q4 16) 0) y29.1), (true, .val Message_.rep (q4 17) y29.1), (false, .val (Rep.slice (Rep.int .u8)) v1 a1), (false, .val (Rep.slice (Rep.int .u8)) v2 a2), (true, .val (Rep.slice Requester_.rep) (q1 4) ([y3.1, y7.1]))] ++ Γx) ([(true, .box 51 Message_.rep (q4 19) y29.1), (true, .box 26 Requester_.rep u10 x1)] ++ Ωx) := h
                                refine OpS.fbox (o3 := 6) h .z PA.z fa51_6 rfl rfl rfl rfl ?_
                                exact ⟨undef, rfl, trivial, h⟩
                              · intro q5 w Γx Ωx h
                                have h : St e w ([(true, .val (Rep.slice Pending_.rep) (q4 1) x1.Pending), (true, .val (Rep.slice Pending_.rep) (q4 4) x1.Pending), (true, .ptr Pending_.rep (q4 7) x3), (true, .ptr Message_.rep (q4 8) x3.Request), (true, .val Message_.rep (q4 9) x3.Request), (true, .val (Rep.slice (Rep.int .u8)) (q4 14) y28.1), (true, .eqv (q4 15) (.tuple #[(tcomp (q4 15) 0), .int .i64 y29.2])), (true, .val Message_.rep (tcomp (q4 15) 0) y29.1), (true, .eqv (q4 16) (.tuple #[(tcomp (q4 16) 0), .int .i64 y29.2])), (true, .val Message_.rep (tcomp (q4 16) 0) y29.1), (true, .val Message_.rep (q4 17) y29.1), (false, .val (Rep.slice (Rep.int .u8)) v1 a1), (false, .val (Rep.slice (Rep.int .u8)) v2 a2), (true, .val (Rep.slice Requester_.rep) (q1 4) ([y3.1, y7.1]))] ++ Γx) ([(true, .box 51 Message_.rep (q4 19) y29.1), (true, .box 26 Requester_.rep u10 x1)] ++ Ωx) := h
                                refine OpS.loadBi h .z PA.a (Get.fld Message_.f6) ty3 rfl rfl rfl ?_
                                exact ⟨undef, rfl, trivial, h⟩
                              · intro q5 w Γx Ωx h
                                refine OpS.mv rfl rfl rfl ?_
                                exact ⟨undef, rfl, trivial, h⟩
                              · intro q5 w Γx Ωx h
                                have h : St e w ([(true, .val (Rep.slice Pending_.rep) (q4 1) x1.Pending), (true, .val (Rep.slice Pending_.rep) (q4 4) x1.Pending), (true, .ptr Pending_.rep (q4 7) x3), (true, .ptr Message_.rep (q4 8) x3.Request), (true, .val Message_.rep (q4 9) x3.Request), (true, .val (Rep.slice (Rep.int .u8)) (q4 14) y28.1), (true, .eqv (q4 15) (.tuple #[(tcomp (q4 15) 0), .int .i64 y29.2])), (true, .val Message_.rep (tcomp (q4 15) 0) y29.1), (true, .eqv (q4 16) (.tuple #[(tcomp (q4 16) 0), .int .i64 y29.2])), (true, .val Message_.rep (tcomp (q4 16) 0) y29.1), (true, .val Message_.rep (q4 17) y29.1), (false, .val (Rep.slice (Rep.int .u8)) v1 a1), (false, .val (Rep.slice (Rep.int .u8)) v2 a2), (true, .val (Rep.slice Requester_.rep) (q1 4) ([y3.1, y7.1]))] ++ Γx) ([(false, .box 72 field_Codes.rep u1 y28.2), (true, .box 26 Requester_.rep u10 x1)] ++ Ωx) := h
                                have h212 := h.front (.cons .z .nil)
                                refine OpS.callO h212 Try.func14 rfl rfl rfl rfl (vs := [u1, .int .i64 5]) rfl (field_Codes_Next_ok e45) rfl .nil ?_
                                rintro _ w88 _ _ _ ⟨rfl, rfl, rfl, rfl⟩ h213
                                have h214 := h213
                                simp only [List.cons_append, List.nil_append] at h214
                                exact ⟨undef, rfl, trivial, h214⟩
                              · intro q5 w Γx Ωx h
                                refine OpS.quo rfl rfl rfl rfl (by decide) ?_
                                exact ⟨undef, rfl, trivial, h⟩
                              · intro q5 w Γx Ωx h
                                refine OpS.bin rfl rfl rfl rfl rfl ?_
                                exact ⟨undef, rfl, trivial, h⟩
                              · intro q5 w Γx Ωx h
                                refine OpS.rem rfl rfl rfl rfl (by decide) ?_
                                exact ⟨undef, rfl, trivial, h⟩
                              have h215 : St e w [(true, .val (Rep.slice Pending_.rep) (q4 1) x1.Pending), (true, .val (Rep.slice Pending_.rep) (q4 4) x1.Pending), (true, .ptr Pending_.rep (q4 7) x3), (true, .ptr Message_.rep (q4 8) x3.Request), (true, .val Message_.rep (q4 9) x3.Request), (true, .val (Rep.slice (Rep.int .u8)) (q4 14) y28.1), (true, .eqv (q4 15) (.tuple #[(tcomp (q4 15) 0), .int .i64 y29.2])), (true, .val Message_.rep (tcomp (q4 15) 0) y29.1), (true, .eqv (q4 16) (.tuple #[(tcomp (q4 16) 0), .int .i64 y29.2])), (true, .val Message_.rep (tcomp (q4 16) 0) y29.1), (true, .val Message_.rep (q4 17) y29.1), (false, .val (Rep.slice (Rep.int .u8)) v1 a1), (false, .val (Rep.slice (Rep.int .u8)) v2 a2), (true, .val (Rep.slice Requester_.rep) (q1 4) ([y3.1, y7.1]))] [(true, .box 51 Message_.rep (q4 19) y29.1), (false, .box 72 field_Codes.rep u1 y30.2), (true, .box 26 Requester_.rep u10 x1)] := h
                              refine RunL.op (OpS.fbox (o3 := 6) h215 .z PA.z fa51_6 rfl rfl rfl rfl ?_)
                              obtain ⟨d1, e46, hF⟩ := letP_use hF
                              refine RunL.op (OpS.storeB (f' := true) h215 .z PA.a (Put.of (Put.fld Message_.f6) e46) ty3 rfl rfl rfl V.int (.inl rfl) (fun w89 h216 => ?_))
                              refine RunL.nil ?_
                              refine Run.slim [(36, (q4 19)), (1, v1), (2, v2), (3, .int .i64 a3), (9, u1), (11, .int .i64 y3.2.1), (18, u10), (89, (q1 4)), (90, .int .i64 (([y3.1, y7.1]).length : Int)), (91, .int .i64 s3.1)] ⟨rfl, rfl, rfl, rfl, rfl, rfl, rfl, rfl, rfl, rfl, trivial⟩ ?_
                              refine Run.reg ?_
                              refine RunL.op (OpS.loadB h216 .z PA.z Get.id ty51 rfl rfl rfl (fun u55 h217 => ?_))
                              obtain ⟨y31, e47, hF⟩ := bindP_use hF
                              refine RunL.op (OpS.callP h217 Try.func27 rfl rfl rfl rfl (vs := [u55]) rfl (ref23_Response_ok e47) (.cons (f := true) (V.at .z) .nil) ?_)
                              rintro _ w90 _ _ _ ⟨u56, rfl, rfl, rfl, rfl⟩ h218
                              have h219 := h218 rfl rfl
                              simp only [List.cons_append, List.nil_append] at h219
                              refine RunL.op (OpS.mv rfl rfl rfl ?_)
                              refine RunL.op (OpS.ext rfl rfl rfl rfl ?_)
                              refine RunL.op (OpS.ext rfl rfl rfl rfl ?_)
                              refine RunL.op (OpS.as rfl rfl rfl ?_)
                              have h220 := (h219.pick .z).freeze
                              refine RunL.nil ?_
                              refine Run.slim [(35, u56), (1, v1), (2, v2), (3, .int .i64 a3), (9, u1), (11, .int .i64 y3.2.1), (18, u10), (89, (q1 4)), (90, .int .i64 (([y3.1, y7.1]).length : Int)), (91, .int .i64 s3.1)] ⟨rfl, rfl, rfl, rfl, rfl, rfl, rfl, rfl, rfl, rfl, trivial⟩ ?_
                              refine Run.slim [(1, v1), (2, v2), (3, .int .i64 a3), (9, u1), (11, .int .i64 y3.2.1), (18, u10), (35, u56), (89, (q1 4)), (90, .int .i64 (([y3.1, y7.1]).length : Int)), (91, .int .i64 s3.1)] ⟨rfl, rfl, rfl, rfl, rfl, rfl, rfl, rfl, rfl, rfl, trivial⟩ ?_
                              exact hj6 (y31.1, y30.2) _ _ ⟨u56, rfl, (h220.facts (.atm (.s (.s (.s (.s (.s (.s (.s (.s (.s (.s (.s (.s (.s .z))))))))))))) (.atm (.s (.s (.s (.s (.s (.s (.s (.s (.s (.s (.s (.s (.s (.s .z)))))))))))))) (.atm (.s (.s (.s (.s (.s (.s (.s (.s (.s (.s (.s (.s (.s (.s (.s .z))))))))))))))) (.val (V.weak (V.at .z)) .nil))))).picks (.cons (.s .z) (.cons (.s .z) .nil))⟩ hF
                            ·
                              refine Run.skip ?_
                              refine Run.slim [(1, v1), (2, v2), (3, .int .i64 a3), (9, u1), (11, .int .i64 y3.2.1), (18, u10), (35, v1), (89, (q1 4)), (90, .int .i64 (([y3.1, y7.1]).length : Int)), (91, .int .i64 s3.1)] ⟨rfl, rfl, rfl, rfl, rfl, rfl, rfl, rfl, rfl, rfl, trivial⟩ ?_
                              exact hj6 (a1, s6.2) _ _ ⟨v1, rfl, (h133.facts (.atm .z (.atm (.s .z) (.atm (.s (.s .z)) (.val (V.at .z) .nil))))).picks (.cons .z (.cons .z .nil))⟩ hF
                        ·
                          refine RunL.caseb hF (fun e48 hF => ?_) (fun e48 hF => ?_)
                          ·
                            refine RunL.op (OpS.mv rfl rfl rfl ?_)
                            obtain ⟨y32, e49, hF⟩ := bindP_use hF
                            have h221 := h132.front (.cons .z .nil)
                            refine RunL.op (OpS.callO h221 Try.func14 rfl rfl rfl rfl (vs := [u1, .int .i64 4]) rfl (field_Codes_Next_ok e49) rfl .nil ?_)
                            rintro _ w91 _ _ _ ⟨rfl, rfl, rfl, rfl⟩ h222
                            have h223 := h222
                            simp only [List.cons_append, List.nil_append] at h223
                            refine RunL.op (OpS.bin rfl rfl rfl rfl rfl ?_)
                            refine RunL.op (OpS.pick rfl rfl rfl rfl ?_)
                            refine RunL.nil ?_
                            refine Run.slim [(200, .bool (decide (y32.1 > 0))), (35, v1), (1, v1), (2, v2), (3, .int .i64 a3), (9, u1), (11, .int .i64 y3.2.1), (18, u10), (89, (q1 4)), (90, .int .i64 (([y3.1, y7.1]).length : Int)), (91, .int .i64 s3.1)] ⟨rfl, rfl, rfl, rfl, rfl, rfl, rfl, rfl, rfl, rfl, rfl, trivial⟩ ?_
                            refine Run.slim [(1, v1), (2, v2), (3, .int .i64 a3), (9, u1), (11, .int .i64 y3.2.1), (18, u10), (35, v1), (89, (q1 4)), (90, .int .i64 (([y3.1, y7.1]).length : Int)), (91, .int .i64 s3.1), (200, .bool (decide (y32.1 > 0)))] ⟨rfl, rfl, rfl, rfl, rfl, rfl, rfl, rfl, rfl, rfl, rfl, trivial⟩ ?_
                            exact hj5 (decide (y32.1 > 0), y32.2) _ _ ⟨rfl, (h223.facts (.atm (.s .z) (.atm (.s (.s .z)) (.atm (.s (.s (.s .z))) .nil)))).picks (.cons .z (.cons .z .nil))⟩ hF
                          ·
                            refine RunL.op (OpS.pass rfl rfl rfl ?_)
                            refine RunL.op (OpS.pass rfl rfl rfl ?_)
                            refine RunL.op (OpS.pass rfl rfl rfl ?_)
                            refine RunL.op (OpS.pick rfl rfl rfl rfl ?_)
                            refine RunL.nil ?_
                            refine Run.slim [(200, .bool false), (35, v1), (1, v1), (2, v2), (3, .int .i64 a3), (9, u1), (11, .int .i64 y3.2.1), (18, u10), (89, (q1 4)), (90, .int .i64 (([y3.1, y7.1]).length : Int)), (91, .int .i64 s3.1)] ⟨rfl, rfl, rfl, rfl, rfl, rfl, rfl, rfl, rfl, rfl, rfl, trivial⟩ ?_
                            refine Run.slim [(1, v1), (2, v2), (3, .int .i64 a3), (9, u1), (11, .int .i64 y3.2.1), (18, u10), (35, v1), (89, (q1 4)), (90, .int .i64 (([y3.1, y7.1]).length : Int)), (91, .int .i64 s3.1), (200, .bool false)] ⟨rfl, rfl, rfl, rfl, rfl, rfl, rfl, rfl, rfl, rfl, rfl, trivial⟩ ?_
                            exact hj5 (false, y13.2) _ _ ⟨rfl, (h132.facts (.atm (.s .z) (.atm (.s (.s .z)) (.atm (.s (.s (.s .z))) .nil)))).picks (.cons .z (.cons .z .nil))⟩ hF
                    ·
                      refine RunL.caseb hF (fun e50 hF => ?_) (fun e50 hF => ?_)
                      ·
                        refine RunL.op (OpS.pass rfl rfl rfl ?_)
                        refine RunL.op (OpS.pass rfl rfl rfl ?_)
                        refine RunL.op (OpS.pass rfl rfl rfl ?_)
                        refine RunL.op (OpS.pass rfl rfl rfl ?_)
                        refine RunL.op (OpS.pick rfl rfl rfl rfl ?_)
                        refine RunL.op (OpS.mv rfl rfl rfl ?_)
                        refine RunL.op (OpS.pass rfl rfl rfl ?_)
                        refine RunL.op (OpS.pass rfl rfl rfl ?_)
                        refine RunL.op (OpS.pass rfl rfl rfl ?_)
                        refine RunL.op (OpS.pass rfl rfl rfl ?_)
                        refine RunL.op (OpS.pick rfl rfl rfl rfl ?_)
                        refine RunL.nil ?_
                        refine Run.slim [(190, .bool true), (1, v1), (2, v2), (3, .int .i64 a3), (9, u1), (11, .int .i64 y3.2.1), (18, u10), (89, (q1 4)), (90, .int .i64 (([y3.1, y7.1]).length : Int)), (91, .int .i64 s3.1)] ⟨rfl, rfl, rfl, rfl, rfl, rfl, rfl, rfl, rfl, rfl, trivial⟩ ?_
                        refine Run.slim [(1, v1), (2, v2), (3, .int .i64 a3), (9, u1), (11, .int .i64 y3.2.1), (18, u10), (89, (q1 4)), (90, .int .i64 (([y3.1, y7.1]).length : Int)), (91, .int .i64 s3.1), (190, .bool true)] ⟨rfl, rfl, rfl, rfl, rfl, rfl, rfl, rfl, rfl, rfl, trivial⟩ ?_
                        exact hj4 (true) _ _ ⟨rfl, (h130.facts (.atm (.s (.s (.s (.s (.s (.s (.s (.s (.s (.s .z)))))))))) (.atm (.s (.s (.s (.s (.s (.s (.s (.s (.s (.s (.s .z))))))))))) (.atm (.s (.s (.s (.s (.s (.s (.s (.s (.s (.s (.s (.s .z)))))))))))) .nil)))).picks (.cons (.s (.s .z)) (.cons (.s (.s .z)) .nil))⟩ hF
                      ·
                        refine RunL.op (OpS.mv rfl rfl rfl ?_)
                        refine RunL.op (OpS.mv rfl rfl rfl ?_)
                        obtain ⟨y33, e51, hF⟩ := bindP_use hF
                        refine RunL.op (OpS.callP h130 Try.func23 rfl rfl rfl rfl (vs := [u21, u26]) rfl (ref24_Bytes_ok e51) (.cons (f := true) (V.at (.s (.s (.s (.s (.s (.s (.s .z)))))))) (.cons (f := true) (V.at (.s (.s (.s .z)))) .nil)) ?_)
                        rintro _ w92 _ _ _ ⟨rfl, rfl, rfl, rfl⟩ h224
                        have h225 := h224 rfl rfl
                        simp only [List.cons_append, List.nil_append] at h225
                        refine RunL.op (OpS.not rfl rfl rfl ?_)
                        refine RunL.op (OpS.pick rfl rfl rfl rfl ?_)
                        refine RunL.op (OpS.mv rfl rfl rfl ?_)
                        refine RunL.caseb hF (fun e52 hF => ?_) (fun e52 hF => ?_)
                        ·
                          refine RunL.op (OpS.pass rfl rfl rfl ?_)
                          refine RunL.op (OpS.pass rfl rfl rfl ?_)
                          refine RunL.op (OpS.pass rfl rfl rfl ?_)
                          refine RunL.op (OpS.pass rfl rfl rfl ?_)
                          refine RunL.op (OpS.pick rfl rfl rfl rfl ?_)
                          refine RunL.nil ?_
                          refine Run.slim [(190, .bool true), (1, v1), (2, v2), (3, .int .i64 a3), (9, u1), (11, .int .i64 y3.2.1), (18, u10), (89, (q1 4)), (90, .int .i64 (([y3.1, y7.1]).length : Int)), (91, .int .i64 s3.1)] ⟨rfl, rfl, rfl, rfl, rfl, rfl, rfl, rfl, rfl, rfl, trivial⟩ ?_
                          refine Run.slim [(1, v1), (2, v2), (3, .int .i64 a3), (9, u1), (11, .int .i64 y3.2.1), (18, u10), (89, (q1 4)), (90, .int .i64 (([y3.1, y7.1]).length : Int)), (91, .int .i64 s3.1), (190, .bool true)] ⟨rfl, rfl, rfl, rfl, rfl, rfl, rfl, rfl, rfl, rfl, trivial⟩ ?_
                          exact hj4 (true) _ _ ⟨rfl, (h225.facts (.atm (.s (.s (.s (.s (.s (.s (.s (.s (.s (.s .z)))))))))) (.atm (.s (.s (.s (.s (.s (.s (.s (.s (.s (.s (.s .z))))))))))) (.atm (.s (.s (.s (.s (.s (.s (.s (.s (.s (.s (.s (.s .z)))))))))))) .nil)))).picks (.cons (.s (.s .z)) (.cons (.s (.s .z)) .nil))⟩ hF
                        ·
                          refine RunL.op (OpS.mv rfl rfl rfl ?_)
                          refine RunL.op (OpS.mv rfl rfl rfl ?_)
                          obtain ⟨y34, e53, hF⟩ := bindP_use hF
                          refine RunL.op (OpS.callP h225 Try.func24 rfl rfl rfl rfl (vs := [u22, u27]) rfl (ref24_SameMessages_ok e53) (.cons (f := false) (V.at (.s (.s (.s (.s (.s (.s .z))))))) (.cons (f := true) (V.at (.s (.s .z))) .nil)) ?_)
                          rintro _ w93 _ _ _ ⟨rfl, rfl, rfl, rfl⟩ h226
                          have h227 := h226 rfl rfl
                          simp only [List.cons_append, List.nil_append] at h227
                          refine RunL.op (OpS.not rfl rfl rfl ?_)
                          refine RunL.op (OpS.pick rfl rfl rfl rfl ?_)
                          refine RunL.nil ?_
                          refine Run.slim [(190, .bool (!y34)), (1, v1), (2, v2), (3, .int .i64 a3), (9, u1), (11, .int .i64 y3.2.1), (18, u10), (89, (q1 4)), (90, .int .i64 (([y3.1, y7.1]).length : Int)), (91, .int .i64 s3.1)] ⟨rfl, rfl, rfl, rfl, rfl, rfl, rfl, rfl, rfl, rfl, trivial⟩ ?_
                          refine Run.slim [(1, v1), (2, v2), (3, .int .i64 a3), (9, u1), (11, .int .i64 y3.2.1), (18, u10), (89, (q1 4)), (90, .int .i64 (([y3.1, y7.1]).length : Int)), (91, .int .i64 s3.1), (190, .bool (!y34))] ⟨rfl, rfl, rfl, rfl, rfl, rfl, rfl, rfl, rfl, rfl, trivial⟩ ?_
                          exact hj4 (!y34) _ _ ⟨rfl, (h227.facts (.atm (.s (.s (.s (.s (.s (.s (.s (.s (.s (.s .z)))))))))) (.atm (.s (.s (.s (.s (.s (.s (.s (.s (.s (.s (.s .z))))))))))) (.atm (.s (.s (.s (.s (.s (.s (.s (.s (.s (.s (.s (.s .z)))))))))))) .nil)))).picks (.cons (.s (.s .z)) (.cons (.s (.s .z)) .nil))⟩ hF
                ·
                  refine RunL.caseb hF (fun e54 hF => ?_) (fun e54 hF => ?_)
                  ·
                    refine RunL.op (OpS.pass rfl rfl rfl ?_)
                    refine RunL.op (OpS.pass rfl rfl rfl ?_)
                    refine RunL.op (OpS.pass rfl rfl rfl ?_)
                    refine RunL.op (OpS.pass rfl rfl rfl ?_)
                    refine RunL.op (OpS.pass rfl rfl rfl ?_)
                    refine RunL.op (OpS.pick rfl rfl rfl rfl ?_)
                    refine RunL.op (OpS.mv rfl rfl rfl ?_)
                    refine RunL.op (OpS.pass rfl rfl rfl ?_)
                    refine RunL.op (OpS.pass rfl rfl rfl ?_)
                    refine RunL.op (OpS.pass rfl rfl rfl ?_)
                    refine RunL.op (OpS.pass rfl rfl rfl ?_)
                    refine RunL.op (OpS.pick rfl rfl rfl rfl ?_)
                    refine RunL.nil ?_
                    refine Run.slim [(160, .bool true), (22, .int .i64 x2), (18, u10), (1, v1), (2, v2), (3, .int .i64 a3), (9, u1), (11, .int .i64 y3.2.1), (89, (q1 4)), (90, .int .i64 (([y3.1, y7.1]).length : Int)), (91, .int .i64 s3.1)] ⟨rfl, rfl, rfl, rfl, rfl, rfl, rfl, rfl, rfl, rfl, rfl, trivial⟩ ?_
                    refine Run.slim [(1, v1), (2, v2), (3, .int .i64 a3), (9, u1), (11, .int .i64 y3.2.1), (18, u10), (22, .int .i64 x2), (89, (q1 4)), (90, .int .i64 (([y3.1, y7.1]).length : Int)), (91, .int .i64 s3.1), (160, .bool true)] ⟨rfl, rfl, rfl, rfl, rfl, rfl, rfl, rfl, rfl, rfl, rfl, trivial⟩ ?_
                    exact hj3 (true) _ _ ⟨rfl, (h109.facts (.atm (.s (.s (.s (.s (.s (.s (.s (.s (.s (.s (.s (.s .z)))))))))))) (.atm (.s (.s (.s (.s (.s (.s (.s (.s (.s (.s (.s (.s (.s .z))))))))))))) (.atm (.s (.s (.s (.s (.s (.s (.s (.s (.s (.s (.s (.s (.s (.s .z)))))))))))))) .nil)))).picks (.cons (.s (.s (.s .z))) (.cons (.s (.s .z)) .nil))⟩ hF
                  ·
                    refine RunL.op (OpS.mv rfl rfl rfl ?_)
                    refine RunL.op (OpS.toStr h109 Try.underlying22 Try.underlying5 Try.underlying9 rfl rfl rfl (V.at (.s (.s (.s (.s .z))))) (fun u57 h228 => ?_))
                    refine RunL.op (OpS.mv rfl rfl rfl ?_)
                    refine RunL.op (OpS.toStr h228 Try.underlying22 Try.underlying5 Try.underlying9 rfl rfl rfl (V.at (.s (.s .z))) (fun u58 h229 => ?_))
                    refine RunL.op (OpS.nes h229 rfl rfl rfl rfl (V.at (.s .z)) (V.at .z) Try.underlying9 ?_)
                    refine RunL.op (OpS.pick rfl rfl rfl rfl ?_)
                    refine RunL.op (OpS.mv rfl rfl rfl ?_)
                    refine RunL.caseb hF (fun e55 hF => ?_) (fun e55 hF => ?_)
                    ·
                      refine RunL.op (OpS.pass rfl rfl rfl ?_)
                      refine RunL.op (OpS.pass rfl rfl rfl ?_)
                      refine RunL.op (OpS.pass rfl rfl rfl ?_)
                      refine RunL.op (OpS.pass rfl rfl rfl ?_)
                      refine RunL.op (OpS.pick rfl rfl rfl rfl ?_)
                      refine RunL.nil ?_
                      refine Run.slim [(160, .bool true), (22, .int .i64 x2), (18, u10), (1, v1), (2, v2), (3, .int .i64 a3), (9, u1), (11, .int .i64 y3.2.1), (89, (q1 4)), (90, .int .i64 (([y3.1, y7.1]).length : Int)), (91, .int .i64 s3.1)] ⟨rfl, rfl, rfl, rfl, rfl, rfl, rfl, rfl, rfl, rfl, rfl, trivial⟩ ?_
                      refine Run.slim [(1, v1), (2, v2), (3, .int .i64 a3), (9, u1), (11, .int .i64 y3.2.1), (18, u10), (22, .int .i64 x2), (89, (q1 4)), (90, .int .i64 (([y3.1, y7.1]).length : Int)), (91, .int .i64 s3.1), (160, .bool true)] ⟨rfl, rfl, rfl, rfl, rfl, rfl, rfl, rfl, rfl, rfl, rfl, trivial⟩ ?_
                      exact hj3 (true) _ _ ⟨rfl, (h229.facts (.atm (.s (.s (.s (.s (.s (.s (.s (.s (.s (.s (.s (.s (.s (.s .z)))))))))))))) (.atm (.s (.s (.s (.s (.s (.s (.s (.s (.s (.s (.s (.s (.s (.s (.s .z))))))))))))))) (.atm (.s (.s (.s (.s (.s (.s (.s (.s (.s (.s (.s (.s (.s (.s (.s (.s .z)))))))))))))))) .nil)))).picks (.cons (.s (.s (.s .z))) (.cons (.s (.s .z)) .nil))⟩ hF
                    ·
                      refine RunL.op (OpS.loadB h229 (.s .z) PA.z Get.id ty26 rfl rfl rfl (fun u59 h230 => ?_))
                      refine RunL.op (OpS.loadB h230 .z PA.z Get.id ty26 rfl rfl rfl (fun u60 h231 => ?_))
                      obtain ⟨y35, e56, hF⟩ := bindP_use hF
                      refine RunL.op (OpS.callP h231 Try.func16 rfl rfl rfl rfl (vs := [u59, u60]) rfl (ref24_Same_ok e56) (.cons (f := false) (V.at (.s .z)) (.cons (f := true) (V.at .z) .nil)) ?_)
                      rintro _ w94 _ _ _ ⟨rfl, rfl, rfl, rfl⟩ h232
                      have h233 := h232 rfl rfl
                      simp only [List.cons_append, List.nil_append] at h233
                      refine RunL.op (OpS.not rfl rfl rfl ?_)
                      refine RunL.op (OpS.pick rfl rfl rfl rfl ?_)
                      refine RunL.nil ?_
                      refine Run.slim [(160, .bool (!y35)), (22, .int .i64 x2), (18, u10), (1, v1), (2, v2), (3, .int .i64 a3), (9, u1), (11, .int .i64 y3.2.1), (89, (q1 4)), (90, .int .i64 (([y3.1, y7.1]).length : Int)), (91, .int .i64 s3.1)] ⟨rfl, rfl, rfl, rfl, rfl, rfl, rfl, rfl, rfl, rfl, rfl, trivial⟩ ?_
                      refine Run.slim [(1, v1), (2, v2), (3, .int .i64 a3), (9, u1), (11, .int .i64 y3.2.1), (18, u10), (22, .int .i64 x2), (89, (q1 4)), (90, .int .i64 (([y3.1, y7.1]).length : Int)), (91, .int .i64 s3.1), (160, .bool (!y35))] ⟨rfl, rfl, rfl, rfl, rfl, rfl, rfl, rfl, rfl, rfl, rfl, trivial⟩ ?_
                      exact hj3 (!y35) _ _ ⟨rfl, (h233.facts (.atm (.s (.s (.s (.s (.s (.s (.s (.s (.s (.s (.s (.s (.s (.s (.s (.s .z)))))))))))))))) (.atm (.s (.s (.s (.s (.s (.s (.s (.s (.s (.s (.s (.s (.s (.s (.s (.s (.s .z))))))))))))))))) (.atm (.s (.s (.s (.s (.s (.s (.s (.s (.s (.s (.s (.s (.s (.s (.s (.s (.s (.s .z)))))))))))))))))) .nil)))).picks (.cons (.s (.s (.s .z))) (.cons (.s (.s .z)) .nil))⟩ hF
            ·
              refine Run.exit rfl ?_
              refine Run.seq ?_
              refine Run.reg ?_
              refine RunL.op (OpS.as rfl rfl rfl ?_)
              refine RunL.nil ?_
              refine Run.slim [(8, .bool true)] ⟨rfl, trivial⟩ ?_
              refine Run.retP rfl (.tmp rfl .nil) ?_
              cases hF
              exact Post.mk' ⟨rfl, rfl, rfl, rfl⟩ (h37.picks .nil) .nil
        ·
          refine RunL.caseb hF (fun e57 hF => ?_) (fun e57 hF => ?_)
          ·
            refine RunL.op (OpS.pass rfl rfl rfl ?_)
            refine RunL.op (OpS.pass rfl rfl rfl ?_)
            refine RunL.op (OpS.pass rfl rfl rfl ?_)
            refine RunL.op (OpS.pass rfl rfl rfl ?_)
            refine RunL.op (OpS.pick rfl rfl rfl rfl ?_)
            refine RunL.nil ?_
            refine Run.slim [(84, .bool true), (11, .int .i64 y3.2.1), (10, u3), (9, u1), (1, v1), (2, v2), (3, .int .i64 a3)] ⟨rfl, rfl, rfl, rfl, rfl, rfl, rfl, trivial⟩ ?_
            refine Run.slim [(1, v1), (2, v2), (3, .int .i64 a3), (9, u1), (10, u3), (11, .int .i64 y3.2.1), (84, .bool true)] ⟨rfl, rfl, rfl, rfl, rfl, rfl, rfl, trivial⟩ ?_
            exact hj2 (true) _ _ ⟨rfl, (h22.facts (.atm (.s (.s (.s (.s .z)))) (.atm (.s (.s (.s (.s (.s .z))))) .nil))).picks (.cons (.s (.s .z)) (.cons (.s (.s .z)) .nil))⟩ hF
          ·
            refine RunL.op (OpS.loadB h22 (.s .z) PA.z Get.id ty26 rfl rfl rfl (fun u61 h234 => ?_))
            refine RunL.op (OpS.loadB h234 .z PA.z Get.id ty26 rfl rfl rfl (fun u62 h235 => ?_))
            obtain ⟨y36, e58, hF⟩ := bindP_use hF
            refine RunL.op (OpS.callP h235 Try.func16 rfl rfl rfl rfl (vs := [u61, u62]) rfl (ref24_Same_ok e58) (.cons (f := true) (V.at (.s .z)) (.cons (f := true) (V.at .z) .nil)) ?_)
            rintro _ w95 _ _ _ ⟨rfl, rfl, rfl, rfl⟩ h236
            have h237 := h236 rfl rfl
            simp only [List.cons_append, List.nil_append] at h237
            refine RunL.op (OpS.not rfl rfl rfl ?_)
            refine RunL.op (OpS.pick rfl rfl rfl rfl ?_)
            refine RunL.nil ?_
            refine Run.slim [(84, .bool (!y36)), (11, .int .i64 y3.2.1), (10, u3), (9, u1), (1, v1), (2, v2), (3, .int .i64 a3)] ⟨rfl, rfl, rfl, rfl, rfl, rfl, rfl, trivial⟩ ?_
            refine Run.slim [(1, v1), (2, v2), (3, .int .i64 a3), (9, u1), (10, u3), (11, .int .i64 y3.2.1), (84, .bool (!y36))] ⟨rfl, rfl, rfl, rfl, rfl, rfl, rfl, trivial⟩ ?_
            exact hj2 (!y36) _ _ ⟨rfl, (h237.facts (.atm (.s (.s (.s (.s (.s (.s .z)))))) (.atm (.s (.s (.s (.s (.s (.s (.s .z))))))) .nil))).picks (.cons (.s (.s .z)) (.cons (.s (.s .z)) .nil))⟩ hF
    ·
      refine RunL.caseb hF (fun e59 hF => ?_) (fun e59 hF => ?_)
      ·
        refine RunL.op (OpS.pass rfl rfl rfl ?_)
        refine RunL.op (OpS.pass rfl rfl rfl ?_)
        refine RunL.op (OpS.pass rfl rfl rfl ?_)
        refine RunL.op (OpS.pick rfl rfl rfl rfl ?_)
        refine RunL.nil ?_
        refine Run.slim [(55, .bool true), (0, v0), (1, v1), (2, v2), (3, .int .i64 a3)] ⟨rfl, rfl, rfl, rfl, rfl, trivial⟩ ?_
        refine Run.slim [(0, v0), (1, v1), (2, v2), (3, .int .i64 a3), (55, .bool true)] ⟨rfl, rfl, rfl, rfl, rfl, trivial⟩ ?_
        exact hj1 (true) _ _ ⟨rfl, (h2.facts (.atm .z (.atm (.s .z) (.atm (.s (.s .z)) .nil)))).picks .nil⟩ hF
      ·
        refine RunL.op (OpS.mv rfl rfl rfl ?_)
        refine RunL.op (OpS.len h2 Try.underlying22 rfl rfl rfl (V.at (.s (.s .z))) ?_)
        refine RunL.op (OpS.bin rfl rfl rfl rfl rfl ?_)
        refine RunL.op (OpS.pick rfl rfl rfl rfl ?_)
        refine RunL.nil ?_
        refine Run.slim [(55, .bool (decide ((a2.length : Int) > 300))), (0, v0), (1, v1), (2, v2), (3, .int .i64 a3)] ⟨rfl, rfl, rfl, rfl, rfl, trivial⟩ ?_
        refine Run.slim [(0, v0), (1, v1), (2, v2), (3, .int .i64 a3), (55, .bool (decide ((a2.length : Int) > 300)))] ⟨rfl, rfl, rfl, rfl, rfl, trivial⟩ ?_
        exact hj1 (decide ((a2.length : Int) > 300)) _ _ ⟨rfl, (h2.facts (.atm .z (.atm (.s .z) (.atm (.s (.s .z)) .nil)))).picks .nil⟩ hF
end Lift
