/- Each Go function computes its plain function. Written by lift.py. -/
import Derived.Test.YtgfioeiebfponaaTransferAnswersWalksA
set_option linter.unusedVariables false
set_option linter.unusedSimpArgs false
namespace Lift
open Go Go.Proofs
open RunL (op)
set_option maxHeartbeats 8000000 in
theorem ref30_Accept_ok {fuel : Nat} {a0 : Download_} {a1 : Int} {a2 : List Int} {y : Download_ × Int} (hF : ref30_Accept fuel a0 a1 a2 = some y) {w : World} {v0 v2 : Value} :
  Spec Try.prog 19 [v0, .int .i64 a1, v2].toArray w [(false, .val Download_.rep v0 a0), (false, .val (Rep.slice (Rep.int .u8)) v2 a2)] [] (fun v Γr Ωr Ωo => ∃ u0 : Value, v = .tuple #[u0, .int .i64 y.2] ∧ Γr = [(false, .val Download_.rep u0 y.1)] ∧ Ωr = [] ∧ Ωo = []) := by
 refine Spec.of (L := [(0, v0), (1, .int .i64 a1), (2, v2)]) Try.func19 rfl ⟨rfl, rfl, rfl, trivial⟩ rfl (fun e h => ?_)
 unfold ref30_Accept at hF
 refine Run.seq ?_
 refine Run.reg ?_
 refine op (OpS.boxF h rfl rfl rfl (V.at .z) (fun u1 w1 h1 => ?_))
 refine op (OpS.alloc h1 ti28 Download_.zr rfl rfl (fun u2 w2 h2 => ?_))
 refine op (OpS.as rfl rfl rfl ?_)
 refine RunL.nil ?_
 refine Run.slim [(6, u2), (3, u1), (1, .int .i64 a1), (2, v2)] ⟨rfl, rfl, rfl, rfl, trivial⟩ ?_
 refine Run.seq ?_
 refine Run.seq ?_
 refine Run.reg ?_
 refine op (OpS.loadB h2 (.s .z) PA.z Get.id ty28 rfl rfl rfl (fun u3 h3 => ?_))
 obtain ⟨y1, e1, hF⟩ := bindP_use hF
 refine op (OpS.callP h3 Try.func23 rfl rfl rfl rfl (vs := [u3]) rfl (ref30_Valid_ok e1) (.cons (f := false) (V.at .z) .nil) ?_)
 rintro _ w3 _ _ _ ⟨rfl, rfl, rfl, rfl⟩ h4
 have h5 := h4 rfl rfl
 simp only [List.cons_append, List.nil_append] at h5
 refine op (OpS.not rfl rfl rfl ?_)
 refine RunL.nil ?_
 refine Run.slim [(13, .bool (!y1)), (6, u2), (3, u1), (1, .int .i64 a1), (2, v2)] ⟨rfl, rfl, rfl, rfl, rfl, trivial⟩ ?_
 refine Run.ite rfl hF (fun e2 hF => ?_) (fun e2 hF => ?_)
 ·
  refine Run.seq ?_
  refine Run.reg ?_
  refine op (OpS.build (f := true) (x' := Download_.z) h5 pl28 ti28 Download_.zr rfl rfl rfl .nil (fun u4 h6 => ?_))
  refine op (OpS.storeB (f' := true) h6 .z PA.z Put.id ty28 rfl rfl rfl (V.at .z) (.inl rfl) (fun w4 h7 => ?_))
  refine op (OpS.as rfl rfl rfl ?_)
  refine RunL.nil ?_
  refine Run.slim [(7, .int .i64 1), (6, u2)] ⟨rfl, rfl, trivial⟩ ?_
  obtain ⟨u5, hu1, h8⟩ := res_box h7 .z ty28
  refine Run.retP rfl (.cell rfl hu1 (.tmp rfl .nil)) ?_
  cases hF
  exact Post.mk' ⟨u5, rfl, rfl, rfl, rfl⟩ (h8.picks .nil) (.val (V.weak (V.at .z)) .nil)
 ·
  refine Run.skip ?_
  refine Run.seq ?_
  refine Run.seq ?_
  refine Run.reg ?_
  refine op (OpS.mv rfl rfl rfl ?_)
  refine op (OpS.bin rfl rfl rfl rfl rfl ?_)
  refine op (OpS.mv rfl rfl rfl ?_)
  refine RunL.join (σ := Bool) (fun s_ L_ w_ => L_ = [(1, .int .i64 a1), (2, v2), (3, u1), (6, u2), (23, .bool s_)] ∧ St e w_ [(false, .val (Rep.slice (Rep.int .u8)) v2 a2)] [(false, .box 28 Download_.rep u1 a0), (true, .box 28 Download_.rep u2 Download_.z)]) hF (fun s1 _ w5 hI hF => ?_) (fun j1 hj1 hF => ?_)
  ·
   obtain ⟨rfl, h9⟩ := hI
   refine Run.ite rfl hF (fun e3 hF => ?_) (fun e3 hF => ?_)
   ·
    refine Run.seq ?_
    refine Run.reg ?_
    refine op (OpS.build (f := true) (x' := Download_.z) h9 pl28 ti28 Download_.zr rfl rfl rfl .nil (fun u6 h10 => ?_))
    refine op (OpS.storeB (f' := true) h10 (.s .z) PA.z Put.id ty28 rfl rfl rfl (V.at .z) (.inl rfl) (fun w6 h11 => ?_))
    refine op (OpS.as rfl rfl rfl ?_)
    refine RunL.nil ?_
    refine Run.slim [(7, .int .i64 2), (6, u2)] ⟨rfl, rfl, trivial⟩ ?_
    obtain ⟨u7, hu2, h12⟩ := res_box h11 .z ty28
    refine Run.retP rfl (.cell rfl hu2 (.tmp rfl .nil)) ?_
    cases hF
    exact Post.mk' ⟨u7, rfl, rfl, rfl, rfl⟩ (h12.picks .nil) (.val (V.weak (V.at .z)) .nil)
   ·
    refine Run.skip ?_
    refine Run.seq ?_
    refine Run.reg ?_
    refine op (OpS.mv rfl rfl rfl ?_)
    refine op (OpS.fbox (o3 := 1) h9 .z PA.z fa28_1 rfl rfl rfl rfl ?_)
    refine op (OpS.loadBi h9 .z PA.a (Get.fld Download_.f1) ty3 rfl rfl rfl ?_)
    refine op (OpS.bin rfl rfl rfl rfl rfl ?_)
    refine op (OpS.as rfl rfl rfl ?_)
    obtain ⟨x1, e4, hF⟩ := letP_use hF
    refine RunL.name e4 ?_
    refine RunL.nil ?_
    refine Run.slim [(8, .int .i64 x1), (1, .int .i64 a1), (2, v2), (3, u1), (6, u2)] ⟨rfl, rfl, rfl, rfl, rfl, trivial⟩ ?_
    refine Run.seq ?_
    refine Run.reg ?_
    refine op (OpS.mv rfl rfl rfl ?_)
    refine op (OpS.fbox (o3 := 1) h9 .z PA.z fa28_1 rfl rfl rfl rfl ?_)
    refine op (OpS.loadBi h9 .z PA.a (Get.fld Download_.f1) ty3 rfl rfl rfl ?_)
    refine op (OpS.bin rfl rfl rfl rfl rfl ?_)
    refine op (OpS.fbox (o3 := 0) h9 .z PA.z fa28_0 rfl rfl rfl rfl ?_)
    refine op (OpS.loadBi h9 .z PA.a (Get.fld Download_.f0) ty3 rfl rfl rfl ?_)
    refine op (OpS.mini rfl rfl rfl rfl ?_)
    refine op (OpS.as rfl rfl rfl ?_)
    obtain ⟨x2, e5, hF⟩ := letP_use hF
    refine RunL.name e5 ?_
    refine RunL.nil ?_
    refine Run.slim [(9, .int .i64 x2), (8, .int .i64 x1), (1, .int .i64 a1), (2, v2), (3, u1), (6, u2)] ⟨rfl, rfl, rfl, rfl, rfl, rfl, trivial⟩ ?_
    refine Run.seq ?_
    refine Run.seq ?_
    refine Run.reg ?_
    refine op (OpS.mv rfl rfl rfl ?_)
    refine op (OpS.len h9 Try.underlying22 rfl rfl rfl (V.at .z) ?_)
    refine op (OpS.mv rfl rfl rfl ?_)
    refine op (OpS.mv rfl rfl rfl ?_)
    refine op (OpS.bin rfl rfl rfl rfl rfl ?_)
    refine op (OpS.bin rfl rfl rfl rfl rfl ?_)
    refine RunL.nil ?_
    refine Run.slim [(41, .bool ((a2.length : Int) != (IntKind.i64.wrap (x2 - x1)))), (9, .int .i64 x2), (8, .int .i64 x1), (1, .int .i64 a1), (2, v2), (3, u1), (6, u2)] ⟨rfl, rfl, rfl, rfl, rfl, rfl, rfl, trivial⟩ ?_
    refine Run.ite rfl hF (fun e6 hF => ?_) (fun e6 hF => ?_)
    ·
     refine Run.seq ?_
     refine Run.reg ?_
     refine op (OpS.build (f := true) (x' := Download_.z) h9 pl28 ti28 Download_.zr rfl rfl rfl .nil (fun u8 h13 => ?_))
     refine op (OpS.storeB (f' := true) h13 (.s .z) PA.z Put.id ty28 rfl rfl rfl (V.at .z) (.inl rfl) (fun w7 h14 => ?_))
     refine op (OpS.as rfl rfl rfl ?_)
     refine RunL.nil ?_
     refine Run.slim [(7, .int .i64 4), (6, u2)] ⟨rfl, rfl, trivial⟩ ?_
     obtain ⟨u9, hu3, h15⟩ := res_box h14 .z ty28
     refine Run.retP rfl (.cell rfl hu3 (.tmp rfl .nil)) ?_
     cases hF
     exact Post.mk' ⟨u9, rfl, rfl, rfl, rfl⟩ (h15.picks .nil) (.val (V.weak (V.at .z)) .nil)
    ·
     refine Run.skip ?_
     refine Run.seq ?_
     refine Run.seq ?_
     refine Run.join (σ := Bool) (fun s_ L_ w_ => L_ = [(1, .int .i64 a1), (2, v2), (3, u1), (6, u2), (8, .int .i64 x1), (58, .bool s_)] ∧ St e w_ [(false, .val (Rep.slice (Rep.int .u8)) v2 a2)] [(false, .box 28 Download_.rep u1 a0), (true, .box 28 Download_.rep u2 Download_.z)]) hF (fun s2 _ w8 hI hF => ?_) (fun j2 hj2 hF => ?_)
     ·
      obtain ⟨rfl, h16⟩ := hI
      refine Run.ite rfl hF (fun e7 hF => ?_) (fun e7 hF => ?_)
      ·
       refine Run.seq ?_
       refine Run.reg ?_
       refine op (OpS.build (f := true) (x' := Download_.z) h16 pl28 ti28 Download_.zr rfl rfl rfl .nil (fun u10 h17 => ?_))
       refine op (OpS.storeB (f' := true) h17 (.s .z) PA.z Put.id ty28 rfl rfl rfl (V.at .z) (.inl rfl) (fun w9 h18 => ?_))
       refine op (OpS.as rfl rfl rfl ?_)
       refine RunL.nil ?_
       refine Run.slim [(7, .int .i64 42), (6, u2)] ⟨rfl, rfl, trivial⟩ ?_
       obtain ⟨u11, hu4, h19⟩ := res_box h18 .z ty28
       refine Run.retP rfl (.cell rfl hu4 (.tmp rfl .nil)) ?_
       cases hF
       exact Post.mk' ⟨u11, rfl, rfl, rfl, rfl⟩ (h19.picks .nil) (.val (V.weak (V.at .z)) .nil)
      ·
       refine Run.skip ?_
       refine Run.seq ?_
       refine Run.reg ?_
       refine op (OpS.loadB h16 .z PA.z Get.id ty28 rfl rfl rfl (fun u12 h20 => ?_))
       obtain ⟨y2, e8, hF⟩ := bindP_use hF
       refine op (OpS.callP h20 Try.func17 rfl rfl rfl rfl (vs := [u12]) rfl (ref30_Copy_ok e8) (.cons (f := false) (V.at .z) .nil) ?_)
       rintro u13 w10 _ _ _ ⟨_, u14, u15, rfl, rfl, rfl, rfl⟩ h21
       have h22 := h21 rfl rfl
       simp only [List.cons_append, List.nil_append] at h22
       refine op (OpS.storeC (f' := false) (fr := (Rep.iso (fun s : Download_ => (s.Size, s.Part, s.Have, s.Data, ())) (Rep.prod (Rep.int .i64) (Rep.prod (Rep.int .i64) (Rep.prod (Rep.raw u14) (Rep.prod (Rep.raw u15) Rep.unit)))))) (r' := (Rep.iso (fun s : Download_ => (s.Size, s.Part, s.Have, s.Data, ())) (Rep.prod (Rep.int .i64) (Rep.prod (Rep.int .i64) (Rep.prod (Rep.raw u14) (Rep.prod (Rep.raw u15) Rep.unit)))))) (x' := y2) h22 (.s (.s .z)) PA.z (Chg.id (by rfl)) (Ty.like ty28 (by rfl) (by rfl)) rfl rfl rfl (V.weak (V.at .z)) (.inr rfl) (fun w11 h23 => ?_))
       refine RunL.nil ?_
       refine Run.slim [(1, .int .i64 a1), (2, v2), (3, u1), (6, u2), (8, .int .i64 x1)] ⟨rfl, rfl, rfl, rfl, rfl, trivial⟩ ?_
       refine Run.seq ?_
       refine Run.reg ?_
       refine op (OpS.fbox (o3 := 2) h23 .z PA.z fa28_2 rfl rfl rfl rfl ?_)
       refine op (OpS.loadR h23 .z PA.a (GetS.ok (GetS.iso _ (GetS.there (GetS.there (GetS.here GetS.id))))) ty26 rfl rfl rfl rfl rfl ?_)
       refine op (OpS.mv rfl rfl rfl ?_)
       obtain ⟨x3, e9, hF⟩ := bindP_use hF
       refine op (OpS.iown h23 (.s .z) Try.underlying26 ty4 rfl rfl rfl rfl e9 ?_)
       obtain ⟨d1, e10, hF⟩ := letP_use hF
       refine op (OpS.storeO (f' := true) h23 (.s .z) (idx_ne e9) PA.a (Put.of (Put.arr e9) e10) ty4 rfl rfl rfl V.bool (.inl rfl) (fun w12 h24 => ?_))
       refine RunL.nil ?_
       refine Run.slim [(2, v2), (3, u1), (6, u2), (8, .int .i64 x1)] ⟨rfl, rfl, rfl, rfl, trivial⟩ ?_
       refine Run.seq ?_
       refine Run.seq ?_
       refine Run.reg ?_
       refine op (OpS.as rfl rfl rfl ?_)
       refine RunL.nil ?_
       refine Run.block ?_
       have h25 := (h24.pick .z).freeze
       have h26 := h25.pick .z
       have h27 := St.boxJ (r' := (Rep.iso (fun s : Download_ => (s.Size, s.Part, s.Have, s.Data, ())) (Rep.prod (Rep.int .i64) (Rep.prod (Rep.int .i64) (Rep.prod (Rep.slice Rep.bool) (Rep.prod (Rep.raw u15) Rep.unit)))))) (x' := { y2 with Have := d1 }) h26 (fun _ _ hs_ => (Jn.iso _ (Jn.prod Jn.refl (Jn.prod Jn.refl (Jn.prod (Jn.raw ((V.weak (V.at .z)) _ _ hs_) rfl) (Jn.prod Jn.same Jn.refl))))))
       refine Run.slim [(2, v2), (3, u1), (6, u2), (8, .int .i64 x1), (10, .int .i64 0)] ⟨rfl, rfl, rfl, rfl, rfl, trivial⟩ ?_
       refine Run.loopP (σ := (Int × (List Int))) (fun s_ L_ w_ => L_ = [(2, v2), (3, u1), (6, u2), (8, .int .i64 x1), (10, .int .i64 s_.1)] ∧ St e w_ [(false, .val (Rep.slice (Rep.int .u8)) v2 a2)] [(false, .box 28 (Rep.iso (fun s : Download_ => (s.Size, s.Part, s.Have, s.Data, ())) (Rep.prod (Rep.int .i64) (Rep.prod (Rep.int .i64) (Rep.prod (Rep.slice Rep.bool) (Rep.prod (Rep.raw u15) Rep.unit))))) u1 ({ y2 with Have := d1 })), (true, .box 28 Download_.rep u2 Download_.z), (true, .slice 5 (Rep.int .u8) u15 s_.2)]) hF ⟨rfl, (h27.facts (.atm (.s (.s (.s .z))) .nil)).picks (.cons .z (.cons (.s .z) (.cons .z .nil)))⟩ (fun k1 hk1 s3 _ w13 hI hF => ?_)
       obtain ⟨rfl, h28⟩ := hI
       refine Run.seq ?_
       refine Run.seq ?_
       refine Run.reg ?_
       refine op (OpS.mv rfl rfl rfl ?_)
       refine op (OpS.mv rfl rfl rfl ?_)
       refine op (OpS.len h28 Try.underlying22 rfl rfl rfl (V.at .z) ?_)
       refine op (OpS.bin rfl rfl rfl rfl rfl ?_)
       refine RunL.nil ?_
       refine Run.slim [(69, .bool (decide (s3.1 < (a2.length : Int)))), (2, v2), (3, u1), (6, u2), (8, .int .i64 x1), (10, .int .i64 s3.1)] ⟨rfl, rfl, rfl, rfl, rfl, rfl, trivial⟩ ?_
       refine Run.ite rfl hF (fun e11 hF => ?_) (fun e11 hF => ?_)
       ·
        refine Run.skip ?_
        refine Run.seq ?_
        refine Run.block ?_
        have h29 := h28.picks (.cons .z (.cons (.s .z) (.cons .z .nil)))
        obtain ⟨x4, e12, hF⟩ := bindP_use hF
        refine Run.drawV (Ωs := [(true, .box 28 Download_.rep u2 Download_.z)]) [⟨some 72, some ((padd u1 3)), fun _ => [], fun ds_ u_ => [], [], [(0, [])], none⟩, ⟨some 73, some (u15), fun _ => [], fun ds_ u_ => [], [], [(0, []), (1, [])], none⟩, ⟨some 74, some (.int .i64 x1), fun _ => [], fun ds_ u_ => [], [], [], none⟩, ⟨some 75, some (.int .i64 s3.1), fun _ => [], fun ds_ u_ => [], [], [], none⟩, ⟨some 76, some (.int .i64 (IntKind.i64.wrap (x1 + s3.1))), fun _ => [], fun ds_ u_ => [], [], [], none⟩, ⟨some 77, some (v2), fun _ => [], fun ds_ u_ => [], [], [], none⟩, ⟨some 78, some (.int .i64 s3.1), fun _ => [], fun ds_ u_ => [], [], [], none⟩, ⟨some 79, none, fun u_ => [(false, .ptr (Rep.int .u8) u_ x4)], fun ds_ u_ => [], [], [], none⟩, ⟨some 80, some (.int .u8 x4), fun _ => [], fun ds_ u_ => [], [], [], none⟩] [[], [0], [], [], [2, 3], [], [], [5, 6], [7]] [[(false, .box 28 (Rep.iso (fun s : Download_ => (s.Size, s.Part, s.Have, s.Data, ())) (Rep.prod (Rep.int .i64) (Rep.prod (Rep.int .i64) (Rep.prod (Rep.slice Rep.bool) (Rep.prod (Rep.raw u15) Rep.unit))))) u1 ({ y2 with Have := d1 }))], [(true, .slice 5 (Rep.int .u8) u15 s3.2)]] [0, 1, 2, 3, 4, 5, 6, 7, 8, 9, 10] Try_mixed rfl rfl rfl h29 (.cons ?_ (.cons ?_ (.cons ?_ (.cons ?_ (.cons ?_ (.cons ?_ (.cons ?_ (.cons ?_ (.cons ?_ .nil))))))))) (fun q1 w hq1 h => ?_)
        ·intro q1 w Γx Ωx h
         have h : St e w ([(false, .val (Rep.slice (Rep.int .u8)) v2 a2)] ++ Γx) ([(false, .box 28 (Rep.iso (fun s : Download_ => (s.Size, s.Part, s.Have, s.Data, ())) (Rep.prod (Rep.int .i64) (Rep.prod (Rep.int .i64) (Rep.prod (Rep.slice Rep.bool) (Rep.prod (Rep.raw u15) Rep.unit))))) u1 ({ y2 with Have := d1 })), (true, .box 28 Download_.rep u2 Download_.z)] ++ Ωx) := h
         refine OpS.fbox (o3 := 3) h .z PA.z fa28_3 rfl rfl rfl rfl ?_
         exact ⟨undef, rfl, trivial, h⟩
        ·intro q1 w Γx Ωx h
         have h : St e w ([(false, .val (Rep.slice (Rep.int .u8)) v2 a2)] ++ Γx) ([(false, .box 28 (Rep.iso (fun s : Download_ => (s.Size, s.Part, s.Have, s.Data, ())) (Rep.prod (Rep.int .i64) (Rep.prod (Rep.int .i64) (Rep.prod (Rep.slice Rep.bool) (Rep.prod (Rep.raw u15) Rep.unit))))) u1 ({ y2 with Have := d1 })), (true, .slice 5 (Rep.int .u8) u15 s3.2), (true, .box 28 Download_.rep u2 Download_.z)] ++ Ωx) := h
         refine OpS.loadR h .z PA.a (GetS.ok (GetS.iso _ (GetS.there (GetS.there (GetS.there (GetS.here GetS.id)))))) ty22 rfl rfl rfl rfl rfl ?_
         exact ⟨undef, rfl, trivial, h⟩
        ·intro q1 w Γx Ωx h
         refine OpS.mv rfl rfl rfl ?_
         exact ⟨undef, rfl, trivial, h⟩
        ·intro q1 w Γx Ωx h
         refine OpS.mv rfl rfl rfl ?_
         exact ⟨undef, rfl, trivial, h⟩
        ·intro q1 w Γx Ωx h
         refine OpS.bin rfl rfl rfl rfl rfl ?_
         exact ⟨undef, rfl, trivial, h⟩
        ·intro q1 w Γx Ωx h
         refine OpS.mv rfl rfl rfl ?_
         exact ⟨undef, rfl, trivial, h⟩
        ·intro q1 w Γx Ωx h
         refine OpS.mv rfl rfl rfl ?_
         exact ⟨undef, rfl, trivial, h⟩
        ·intro q1 w Γx Ωx h
         refine OpS.iptr h Try.underlying22 ty5 rfl rfl rfl rfl (V.at .z) e12 (fun u h31 => ?_)
         exact ⟨u, rfl, trivial, h31⟩
        ·intro q1 w Γx Ωx h
         refine OpS.loadi h ty5 rfl rfl rfl .z ?_
         exact ⟨undef, rfl, trivial, h⟩
        have h32 : St e w [(false, .ptr (Rep.int .u8) (q1 7) x4), (false, .val (Rep.slice (Rep.int .u8)) v2 a2)] [(false, .box 28 (Rep.iso (fun s : Download_ => (s.Size, s.Part, s.Have, s.Data, ())) (Rep.prod (Rep.int .i64) (Rep.prod (Rep.int .i64) (Rep.prod (Rep.slice Rep.bool) (Rep.prod (Rep.raw u15) Rep.unit))))) u1 ({ y2 with Have := d1 })), (true, .slice 5 (Rep.int .u8) u15 s3.2), (true, .box 28 Download_.rep u2 Download_.z)] := h
        obtain ⟨x5, e13, hF⟩ := bindP_use hF
        refine op (OpS.iown h32 (.s .z) Try.underlying22 ty5 rfl rfl rfl rfl e13 ?_)
        obtain ⟨d2, e14, hF⟩ := letP_use hF
        refine op (OpS.storeO (f' := true) h32 (.s .z) (idx_ne e13) PA.a (Put.of (Put.arr e13) e14) ty5 rfl rfl rfl V.int (.inl rfl) (fun w14 h33 => ?_))
        refine RunL.nil ?_
        refine Run.slim [(2, v2), (3, u1), (6, u2), (8, .int .i64 x1), (10, .int .i64 s3.1)] ⟨rfl, rfl, rfl, rfl, rfl, trivial⟩ ?_
        refine Run.endBlock ?_
        refine Run.reg ?_
        refine op (OpS.mv rfl rfl rfl ?_)
        refine op (OpS.bin rfl rfl rfl rfl rfl ?_)
        refine op (OpS.as rfl rfl rfl ?_)
        obtain ⟨x6, e15, hF⟩ := letP_use hF
        refine RunL.name e15 ?_
        refine RunL.nil ?_
        refine Run.slim [(10, .int .i64 x6), (2, v2), (3, u1), (6, u2), (8, .int .i64 x1)] ⟨rfl, rfl, rfl, rfl, rfl, trivial⟩ ?_
        refine Run.slim [(2, v2), (3, u1), (6, u2), (8, .int .i64 x1), (10, .int .i64 x6)] ⟨rfl, rfl, rfl, rfl, rfl, trivial⟩ ?_
        exact hk1 (x6, d2) _ _ ⟨rfl, (h33.facts (.atm (.s .z) .nil)).picks (.cons (.s .z) (.cons (.s .z) (.cons .z .nil)))⟩ hF
       ·
        refine Run.exit rfl ?_
        refine Run.seq ?_
        refine Run.reg ?_
        refine op (OpS.loadB (fr := (Rep.iso (fun s : Download_ => (s.Size, s.Part, s.Have, s.Data, ())) (Rep.prod (Rep.int .i64) (Rep.prod (Rep.int .i64) (Rep.prod (Rep.slice Rep.bool) (Rep.prod (Rep.raw u15) Rep.unit)))))) h28 .z PA.z (GetS.ok GetS.id) (Ty.like ty28 (by rfl) (by rfl)) rfl rfl rfl (fun u16 h34 => ?_))
        have h35 := (h34.pick (.s .z)).weak
        obtain ⟨d3, e16, hF⟩ := letP_use hF
        refine op (OpS.storeC (f' := false) (fr := (Rep.iso (fun s : Download_ => (s.Size, s.Part, s.Have, s.Data, ())) (Rep.prod (Rep.int .i64) (Rep.prod (Rep.int .i64) (Rep.prod (Rep.slice Rep.bool) (Rep.prod (Rep.raw u15) Rep.unit)))))) (r' := (Rep.iso (fun s : Download_ => (s.Size, s.Part, s.Have, s.Data, ())) (Rep.prod (Rep.int .i64) (Rep.prod (Rep.int .i64) (Rep.prod (Rep.slice Rep.bool) (Rep.prod (Rep.raw u15) Rep.unit)))))) (x' := d3) h35 .z PA.z (Chg.of (x' := { y2 with Have := d1 }) (Chg.id (by rfl)) e16) (Ty.like ty28 (by rfl) (by rfl)) rfl rfl rfl (V.at .z) (.inr rfl) (fun w15 h36 => ?_))
        refine op (OpS.as rfl rfl rfl ?_)
        refine RunL.nil ?_
        refine Run.slim [(7, .int .i64 0), (6, u2)] ⟨rfl, rfl, trivial⟩ ?_
        have h38 := (h36.pick (.s (.s .z))).freeze
        have h39 := h38.pick .z
        have h40 := St.boxJ (r' := Download_.rep) (x' := { d3 with Data := s3.2 }) h39 (fun _ _ hs_ => (Jn.iso _ (Jn.prod Jn.refl (Jn.prod Jn.refl (Jn.prod Jn.refl (Jn.prod (Jn.raw ((V.weak (V.at .z)) _ _ hs_) rfl) Jn.refl))))))
        have h41 := h40.pick (.s .z)
        have h42 := St.boxJ (r' := Download_.rep) (x' := { { y2 with Have := d1 } with Data := s3.2 }) h41 (fun _ _ hs_ => (Jn.iso _ (Jn.prod Jn.refl (Jn.prod Jn.refl (Jn.prod Jn.refl (Jn.prod (Jn.raw ((V.weak (V.at .z)) _ _ hs_) rfl) Jn.refl))))))
        obtain ⟨u17, hu5, h37⟩ := res_box h42 (.s .z) ty28
        refine Run.retP rfl (.cell rfl hu5 (.tmp rfl .nil)) ?_
        cases hF
        exact Post.mk' ⟨u17, rfl, rfl, rfl, rfl⟩ (h37.picks .nil) (.val (V.at .z) .nil)
     ·
      obtain ⟨x7, e17, hF⟩ := bindP_use hF
      refine iteP_use hF (fun e18 hF => ?_) (fun e18 hF => ?_)
      ·
       have hG := hF
       subst e18
       have hF := hG
       obtain ⟨x8, e19, hF⟩ := bindP_use hF
       refine Run.drawV (Ωs := [(true, .box 28 Download_.rep u2 Download_.z)]) [⟨some 43, some ((padd u1 2)), fun _ => [], fun ds_ u_ => [], [], [(0, [])], none⟩, ⟨some 44, none, fun u_ => [(false, .val (Rep.slice Rep.bool) u_ a0.Have)], fun ds_ u_ => [], [], [(0, [])], none⟩, ⟨some 45, some (.int .i64 a1), fun _ => [], fun ds_ u_ => [], [], [], none⟩, ⟨some 46, none, fun u_ => [(false, .ptr Rep.bool u_ true)], fun ds_ u_ => [], [], [], none⟩, ⟨some 47, some (.bool true), fun _ => [], fun ds_ u_ => [], [], [], none⟩, ⟨some 48, some (.bool true), fun _ => [], fun ds_ u_ => [], [], [], none⟩, ⟨some 49, some ((padd u1 3)), fun _ => [], fun ds_ u_ => [], [], [(0, [])], none⟩, ⟨some 50, none, fun u_ => [(false, .val (Rep.slice (Rep.int .u8)) u_ a0.Data)], fun ds_ u_ => [], [], [(0, [])], none⟩, ⟨some 51, some (.int .i64 x1), fun _ => [], fun ds_ u_ => [], [], [], none⟩, ⟨some 52, some (.int .i64 x2), fun _ => [], fun ds_ u_ => [], [], [], none⟩, ⟨some 53, none, fun u_ => [(false, .val (Rep.slice (Rep.int .u8)) u_ x8)], fun ds_ u_ => [], [], [], none⟩, ⟨some 54, none, fun u_ => [(true, .val Rep.str u_ (toStr x8))], fun ds_ u_ => [], [], [], none⟩, ⟨some 55, some (v2), fun _ => [], fun ds_ u_ => [], [], [], none⟩, ⟨some 56, none, fun u_ => [(true, .val Rep.str u_ (toStr a2))], fun ds_ u_ => [], [], [], none⟩, ⟨some 57, some (.bool ((toStr x8) != (toStr a2))), fun _ => [], fun ds_ u_ => [], [], [], none⟩, ⟨some 58, some (.bool ((toStr x8) != (toStr a2))), fun _ => [], fun ds_ u_ => [], [], [], none⟩] [[], [0], [], [1, 2], [3], [4], [5], [6, 5], [5], [5], [7, 8, 9, 5], [10, 5], [5], [12, 5], [11, 13, 5], [5, 14]] [[(false, .box 28 Download_.rep u1 a0)]] [0, 1, 2, 3, 4, 5, 6, 7, 8, 9, 10, 11, 12, 13, 14, 15, 16] Try_mixed rfl rfl rfl h9 (.cons ?_ (.cons ?_ (.cons ?_ (.cons ?_ (.cons ?_ (.cons ?_ (.cons ?_ (.cons ?_ (.cons ?_ (.cons ?_ (.cons ?_ (.cons ?_ (.cons ?_ (.cons ?_ (.cons ?_ (.cons ?_ .nil)))))))))))))))) (fun q2 w hq2 h => ?_)
       ·intro q2 w Γx Ωx h
        have h : St e w ([(false, .val (Rep.slice (Rep.int .u8)) v2 a2)] ++ Γx) ([(false, .box 28 Download_.rep u1 a0), (true, .box 28 Download_.rep u2 Download_.z)] ++ Ωx) := h
        refine OpS.fbox (o3 := 2) h .z PA.z fa28_2 rfl rfl rfl rfl ?_
        exact ⟨undef, rfl, trivial, h⟩
       ·intro q2 w Γx Ωx h
        have h : St e w ([(false, .val (Rep.slice (Rep.int .u8)) v2 a2)] ++ Γx) ([(false, .box 28 Download_.rep u1 a0), (true, .box 28 Download_.rep u2 Download_.z)] ++ Ωx) := h
        refine OpS.loadB h .z PA.a (Get.fld Download_.f2) ty26 rfl rfl rfl (fun u h49 => ?_)
        exact ⟨u, rfl, trivial, h49⟩
       ·intro q2 w Γx Ωx h
        refine OpS.mv rfl rfl rfl ?_
        exact ⟨undef, rfl, trivial, h⟩
       ·intro q2 w Γx Ωx h
        refine OpS.iptr h Try.underlying26 ty4 rfl rfl rfl rfl (V.at .z) e17 (fun u h50 => ?_)
        exact ⟨u, rfl, trivial, h50⟩
       ·intro q2 w Γx Ωx h
        refine OpS.loadb h ty4 rfl rfl rfl .z ?_
        exact ⟨undef, rfl, trivial, h⟩
       ·intro q2 w Γx Ωx h
        refine OpS.mv rfl rfl rfl ?_
        exact ⟨undef, rfl, trivial, h⟩
       ·intro q2 w Γx Ωx h
        have h : St e w ([(false, .val (Rep.slice (Rep.int .u8)) v2 a2)] ++ Γx) ([(false, .box 28 Download_.rep u1 a0), (true, .box 28 Download_.rep u2 Download_.z)] ++ Ωx) := h
        refine OpS.fbox (o3 := 3) h .z PA.z fa28_3 rfl rfl rfl rfl ?_
        exact ⟨undef, rfl, trivial, h⟩
       ·intro q2 w Γx Ωx h
        have h : St e w ([(false, .val (Rep.slice (Rep.int .u8)) v2 a2)] ++ Γx) ([(false, .box 28 Download_.rep u1 a0), (true, .box 28 Download_.rep u2 Download_.z)] ++ Ωx) := h
        refine OpS.loadB h .z PA.a (Get.fld Download_.f3) ty22 rfl rfl rfl (fun u h51 => ?_)
        exact ⟨u, rfl, trivial, h51⟩
       ·intro q2 w Γx Ωx h
        refine OpS.mv rfl rfl rfl ?_
        exact ⟨undef, rfl, trivial, h⟩
       ·intro q2 w Γx Ωx h
        refine OpS.mv rfl rfl rfl ?_
        exact ⟨undef, rfl, trivial, h⟩
       ·intro q2 w Γx Ωx h
        refine OpS.sub h Try.underlying22 ty5 rfl rfl rfl rfl rfl (V.at .z) e19 (fun u h52 => ?_)
        exact ⟨u, rfl, trivial, h52⟩
       ·intro q2 w Γx Ωx h
        refine OpS.toStr h Try.underlying22 Try.underlying5 Try.underlying9 rfl rfl rfl (V.at .z) (fun u h53 => ?_)
        exact ⟨u, rfl, trivial, h53⟩
       ·intro q2 w Γx Ωx h
        refine OpS.mv rfl rfl rfl ?_
        exact ⟨undef, rfl, trivial, h⟩
       ·intro q2 w Γx Ωx h
        refine OpS.toStr h Try.underlying22 Try.underlying5 Try.underlying9 rfl rfl rfl (V.at .z) (fun u h54 => ?_)
        exact ⟨u, rfl, trivial, h54⟩
       ·intro q2 w Γx Ωx h
        refine OpS.nes h rfl rfl rfl rfl (V.at .z) (V.at (.s .z)) Try.underlying9 ?_
        exact ⟨undef, rfl, trivial, h⟩
       ·intro q2 w Γx Ωx h
        refine OpS.pick rfl rfl rfl rfl ?_
        exact ⟨undef, rfl, trivial, h⟩
       have h55 : St e w [(false, .val (Rep.slice Rep.bool) (q2 1) a0.Have), (false, .ptr Rep.bool (q2 3) true), (false, .val (Rep.slice (Rep.int .u8)) (q2 7) a0.Data), (false, .val (Rep.slice (Rep.int .u8)) (q2 10) x8), (true, .val Rep.str (q2 11) (toStr x8)), (true, .val Rep.str (q2 13) (toStr a2)), (false, .val (Rep.slice (Rep.int .u8)) v2 a2)] [(false, .box 28 Download_.rep u1 a0), (true, .box 28 Download_.rep u2 Download_.z)] := h
       refine RunL.nil ?_
       refine Run.slim [(58, .bool ((toStr x8) != (toStr a2))), (8, .int .i64 x1), (1, .int .i64 a1), (2, v2), (3, u1), (6, u2)] ⟨rfl, rfl, rfl, rfl, rfl, rfl, trivial⟩ ?_
       refine Run.slim [(1, .int .i64 a1), (2, v2), (3, u1), (6, u2), (8, .int .i64 x1), (58, .bool ((toStr x8) != (toStr a2)))] ⟨rfl, rfl, rfl, rfl, rfl, rfl, trivial⟩ ?_
       exact hj2 ((toStr x8) != (toStr a2)) _ _ ⟨rfl, (h55.facts (.atm (.s (.s (.s (.s (.s (.s .z)))))) .nil)).picks (.cons .z (.cons .z .nil))⟩ hF
      ·
       have hG := hF
       subst e18
       have hF := hG
       refine Run.drawV (Ωs := [(true, .box 28 Download_.rep u2 Download_.z)]) [⟨some 43, some ((padd u1 2)), fun _ => [], fun ds_ u_ => [], [], [(0, [])], none⟩, ⟨some 44, none, fun u_ => [(false, .val (Rep.slice Rep.bool) u_ a0.Have)], fun ds_ u_ => [], [], [(0, [])], none⟩, ⟨some 45, some (.int .i64 a1), fun _ => [], fun ds_ u_ => [], [], [], none⟩, ⟨some 46, none, fun u_ => [(false, .ptr Rep.bool u_ false)], fun ds_ u_ => [], [], [], none⟩, ⟨some 47, some (.bool false), fun _ => [], fun ds_ u_ => [], [], [], none⟩, ⟨some 48, some (.bool false), fun _ => [], fun ds_ u_ => [], [], [], none⟩, ⟨some 49, some undef, fun _ => [], fun _ _ => [], [], [], none⟩, ⟨some 50, some undef, fun _ => [], fun _ _ => [], [], [], none⟩, ⟨some 51, some undef, fun _ => [], fun _ _ => [], [], [], none⟩, ⟨some 52, some undef, fun _ => [], fun _ _ => [], [], [], none⟩, ⟨some 53, some undef, fun _ => [], fun _ _ => [], [], [], none⟩, ⟨some 54, some undef, fun _ => [], fun _ _ => [], [], [], none⟩, ⟨some 55, some undef, fun _ => [], fun _ _ => [], [], [], none⟩, ⟨some 56, some undef, fun _ => [], fun _ _ => [], [], [], none⟩, ⟨some 57, some undef, fun _ => [], fun _ _ => [], [], [], none⟩, ⟨some 58, some (.bool false), fun _ => [], fun ds_ u_ => [], [], [], none⟩] [[], [0], [], [1, 2], [3], [4], [5], [5], [5], [5], [5], [5], [5], [5], [5], [5, 14]] [[(false, .box 28 Download_.rep u1 a0)]] [0, 1, 2, 3, 4, 5, 6, 7, 8, 9, 10, 11, 12, 13, 14, 15, 16] Try_mixed rfl rfl rfl h9 (.cons ?_ (.cons ?_ (.cons ?_ (.cons ?_ (.cons ?_ (.cons ?_ (.cons ?_ (.cons ?_ (.cons ?_ (.cons ?_ (.cons ?_ (.cons ?_ (.cons ?_ (.cons ?_ (.cons ?_ (.cons ?_ .nil)))))))))))))))) (fun q2 w hq3 h => ?_)
       ·intro q2 w Γx Ωx h
        have h : St e w ([(false, .val (Rep.slice (Rep.int .u8)) v2 a2)] ++ Γx) ([(false, .box 28 Download_.rep u1 a0), (true, .box 28 Download_.rep u2 Download_.z)] ++ Ωx) := h
        refine OpS.fbox (o3 := 2) h .z PA.z fa28_2 rfl rfl rfl rfl ?_
        exact ⟨undef, rfl, trivial, h⟩
       ·intro q2 w Γx Ωx h
        have h : St e w ([(false, .val (Rep.slice (Rep.int .u8)) v2 a2)] ++ Γx) ([(false, .box 28 Download_.rep u1 a0), (true, .box 28 Download_.rep u2 Download_.z)] ++ Ωx) := h
        refine OpS.loadB h .z PA.a (Get.fld Download_.f2) ty26 rfl rfl rfl (fun u h56 => ?_)
        exact ⟨u, rfl, trivial, h56⟩
       ·intro q2 w Γx Ωx h
        refine OpS.mv rfl rfl rfl ?_
        exact ⟨undef, rfl, trivial, h⟩
       ·intro q2 w Γx Ωx h
        refine OpS.iptr h Try.underlying26 ty4 rfl rfl rfl rfl (V.at .z) e17 (fun u h57 => ?_)
        exact ⟨u, rfl, trivial, h57⟩
       ·intro q2 w Γx Ωx h
        refine OpS.loadb h ty4 rfl rfl rfl .z ?_
        exact ⟨undef, rfl, trivial, h⟩
       ·intro q2 w Γx Ωx h
        refine OpS.mv rfl rfl rfl ?_
        exact ⟨undef, rfl, trivial, h⟩
       ·intro q2 w Γx Ωx h
        exact OpS.pass rfl rfl rfl ⟨undef, rfl, trivial, h⟩
       ·intro q2 w Γx Ωx h
        exact OpS.pass rfl rfl rfl ⟨undef, rfl, trivial, h⟩
       ·intro q2 w Γx Ωx h
        exact OpS.pass rfl rfl rfl ⟨undef, rfl, trivial, h⟩
       ·intro q2 w Γx Ωx h
        exact OpS.pass rfl rfl rfl ⟨undef, rfl, trivial, h⟩
       ·intro q2 w Γx Ωx h
        exact OpS.pass rfl rfl rfl ⟨undef, rfl, trivial, h⟩
       ·intro q2 w Γx Ωx h
        exact OpS.pass rfl rfl rfl ⟨undef, rfl, trivial, h⟩
       ·intro q2 w Γx Ωx h
        exact OpS.pass rfl rfl rfl ⟨undef, rfl, trivial, h⟩
       ·intro q2 w Γx Ωx h
        exact OpS.pass rfl rfl rfl ⟨undef, rfl, trivial, h⟩
       ·intro q2 w Γx Ωx h
        exact OpS.pass rfl rfl rfl ⟨undef, rfl, trivial, h⟩
       ·intro q2 w Γx Ωx h
        refine OpS.pick rfl rfl rfl rfl ?_
        exact ⟨undef, rfl, trivial, h⟩
       have h58 : St e w [(false, .val (Rep.slice Rep.bool) (q2 1) a0.Have), (false, .ptr Rep.bool (q2 3) false), (false, .val (Rep.slice (Rep.int .u8)) v2 a2)] [(false, .box 28 Download_.rep u1 a0), (true, .box 28 Download_.rep u2 Download_.z)] := h
       refine RunL.nil ?_
       refine Run.slim [(58, .bool false), (8, .int .i64 x1), (1, .int .i64 a1), (2, v2), (3, u1), (6, u2)] ⟨rfl, rfl, rfl, rfl, rfl, rfl, trivial⟩ ?_
       refine Run.slim [(1, .int .i64 a1), (2, v2), (3, u1), (6, u2), (8, .int .i64 x1), (58, .bool false)] ⟨rfl, rfl, rfl, rfl, rfl, rfl, trivial⟩ ?_
       exact hj2 (false) _ _ ⟨rfl, (h58.facts (.atm (.s (.s .z)) .nil)).picks (.cons .z (.cons .z .nil))⟩ hF
  ·
   refine RunL.caseb hF (fun e20 hF => ?_) (fun e20 hF => ?_)
   ·
    refine op (OpS.pass rfl rfl rfl ?_)
    refine op (OpS.pass rfl rfl rfl ?_)
    refine op (OpS.pass rfl rfl rfl ?_)
    refine op (OpS.pass rfl rfl rfl ?_)
    refine op (OpS.pass rfl rfl rfl ?_)
    refine op (OpS.pick rfl rfl rfl rfl ?_)
    refine RunL.nil ?_
    refine Run.slim [(23, .bool true), (6, u2), (3, u1), (1, .int .i64 a1), (2, v2)] ⟨rfl, rfl, rfl, rfl, rfl, trivial⟩ ?_
    refine Run.slim [(1, .int .i64 a1), (2, v2), (3, u1), (6, u2), (23, .bool true)] ⟨rfl, rfl, rfl, rfl, rfl, trivial⟩ ?_
    exact hj1 (true) _ _ ⟨rfl, (h5.facts (.atm (.s (.s .z)) .nil)).picks (.cons (.s .z) (.cons .z .nil))⟩ hF
   ·
    refine op (OpS.mv rfl rfl rfl ?_)
    refine op (OpS.fbox (o3 := 2) h5 (.s .z) PA.z fa28_2 rfl rfl rfl rfl ?_)
    refine op (OpS.loadB h5 (.s .z) PA.a (Get.fld Download_.f2) ty26 rfl rfl rfl (fun u18 h59 => ?_))
    refine op (OpS.len h59 Try.underlying26 rfl rfl rfl (V.at .z) ?_)
    refine op (OpS.bin rfl rfl rfl rfl rfl ?_)
    refine op (OpS.pick rfl rfl rfl rfl ?_)
    refine RunL.nil ?_
    refine Run.slim [(23, .bool (decide (a1 ≥ (a0.Have.length : Int)))), (6, u2), (3, u1), (1, .int .i64 a1), (2, v2)] ⟨rfl, rfl, rfl, rfl, rfl, trivial⟩ ?_
    refine Run.slim [(1, .int .i64 a1), (2, v2), (3, u1), (6, u2), (23, .bool (decide (a1 ≥ (a0.Have.length : Int))))] ⟨rfl, rfl, rfl, rfl, rfl, trivial⟩ ?_
    exact hj1 (decide (a1 ≥ (a0.Have.length : Int))) _ _ ⟨rfl, (h59.facts (.atm (.s (.s (.s .z))) .nil)).picks (.cons (.s .z) (.cons .z .nil))⟩ hF
theorem law30_play_ok {fuel : Nat} {a0 : field_Codes} {y : Download_ × field_Codes} (hF : law30_play fuel a0 = some y) {w : World} {v0 : Value} :
  Spec Try.prog 10 [v0].toArray w [] [(false, .box 51 field_Codes.rep v0 a0)] (fun v Γr Ωr Ωo => ∃ u0 : Value, v = u0 ∧ Γr = [(false, .val Download_.rep u0 y.1)] ∧ Ωr = [] ∧ Ωo = [(false, .box 51 field_Codes.rep v0 y.2)]) := by
 refine Spec.of (L := [(0, v0)]) Try.func10 rfl ⟨rfl, trivial⟩ rfl (fun e h => ?_)
 unfold law30_play at hF
 refine Run.seq ?_
 refine Run.reg ?_
 refine op (OpS.alloc h ti28 Download_.zr rfl rfl (fun u1 w1 h1 => ?_))
 refine RunL.nil ?_
 refine Run.seq ?_
 refine Run.reg ?_
 refine op (OpS.mv rfl rfl rfl ?_)
 obtain ⟨y1, e1, hF⟩ := bindP_use hF
 have h2 := h1.front (.cons (.s .z) .nil)
 refine op (OpS.callO h2 Try.func18 rfl rfl rfl rfl (vs := [v0, .int .i64 60]) rfl (field_Codes_Next_ok e1) rfl .nil ?_)
 rintro _ w2 _ _ _ ⟨rfl, rfl, rfl, rfl⟩ h3
 have h4 := h3
 simp only [List.cons_append, List.nil_append] at h4
 refine op (OpS.bin rfl rfl rfl rfl rfl ?_)
 refine op (OpS.mv rfl rfl rfl ?_)
 obtain ⟨y2, e2, hF⟩ := bindP_use hF
 have h5 := h4.front (.cons .z .nil)
 refine op (OpS.callO h5 Try.func18 rfl rfl rfl rfl (vs := [v0, .int .i64 9]) rfl (field_Codes_Next_ok e2) rfl .nil ?_)
 rintro _ w3 _ _ _ ⟨rfl, rfl, rfl, rfl⟩ h6
 have h7 := h6
 simp only [List.cons_append, List.nil_append] at h7
 refine op (OpS.bin rfl rfl rfl rfl rfl ?_)
 obtain ⟨y3, e3, hF⟩ := bindP_use hF
 refine op (OpS.callP h7 Try.func16 rfl rfl rfl rfl (vs := [.int .i64 (IntKind.i64.wrap (1 + y1.1)), .int .i64 (IntKind.i64.wrap (1 + y2.1))]) rfl (ref30_New_ok e3) .nil ?_)
 rintro _ w4 _ _ _ ⟨u2, rfl, rfl, rfl, rfl⟩ h8
 have h9 := h8 rfl rfl
 simp only [List.cons_append, List.nil_append] at h9
 refine op (OpS.mv rfl rfl rfl ?_)
 refine op (OpS.ext rfl rfl rfl rfl ?_)
 refine op (OpS.ext rfl rfl rfl rfl ?_)
 refine op (OpS.alloc h9 ti28 Download_.zr rfl rfl (fun u3 w5 h10 => ?_))
 refine op (OpS.storeB (f' := true) h10 .z PA.z Put.id ty28 rfl rfl rfl (V.at .z) (.inl rfl) (fun w6 h11 => ?_))
 refine op (OpS.as rfl rfl rfl ?_)
 refine RunL.nil ?_
 refine Run.slim [(3, u3), (2, u1), (0, v0)] ⟨rfl, rfl, rfl, trivial⟩ ?_
 refine Run.seq ?_
 refine Run.seq ?_
 refine Run.reg ?_
 refine op (OpS.mv rfl rfl rfl ?_)
 obtain ⟨y4, e4, hF⟩ := bindP_use hF
 have h12 := h11.front (.cons (.s .z) .nil)
 refine op (OpS.callO h12 Try.func18 rfl rfl rfl rfl (vs := [v0, .int .i64 12]) rfl (field_Codes_Next_ok e4) rfl .nil ?_)
 rintro _ w7 _ _ _ ⟨rfl, rfl, rfl, rfl⟩ h13
 have h14 := h13
 simp only [List.cons_append, List.nil_append] at h14
 refine op (OpS.as rfl rfl rfl ?_)
 refine RunL.nil ?_
 refine Run.slim [(5, .int .i64 y4.1), (3, u3), (2, u1), (0, v0)] ⟨rfl, rfl, rfl, rfl, trivial⟩ ?_
 refine Run.block ?_
 have h15 := (h14.pick (.s .z)).weak
 refine Run.slim [(0, v0), (2, u1), (3, u3), (5, .int .i64 y4.1)] ⟨rfl, rfl, rfl, rfl, trivial⟩ ?_
 refine Run.loopP (σ := (Int × field_Codes × Download_)) (fun s_ L_ w_ => L_ = [(0, v0), (2, u1), (3, u3), (5, .int .i64 s_.1)] ∧ St e w_ [] [(false, .box 51 field_Codes.rep v0 s_.2.1), (true, .box 28 Download_.rep u1 Download_.z), (false, .box 28 Download_.rep u3 s_.2.2)]) hF ⟨rfl, (h15.facts .nil).picks (.cons (.s .z) (.cons (.s .z) (.cons .z .nil)))⟩ (fun k1 hk1 s1 _ w8 hI hF => ?_)
 obtain ⟨rfl, h16⟩ := hI
 refine Run.seq ?_
 refine Run.seq ?_
 refine Run.reg ?_
 refine op (OpS.mv rfl rfl rfl ?_)
 refine op (OpS.bin rfl rfl rfl rfl rfl ?_)
 refine RunL.nil ?_
 refine Run.slim [(24, .bool (decide (s1.1 > 0))), (0, v0), (2, u1), (3, u3), (5, .int .i64 s1.1)] ⟨rfl, rfl, rfl, rfl, rfl, trivial⟩ ?_
 refine Run.ite rfl hF (fun e5 hF => ?_) (fun e5 hF => ?_)
 ·
  refine Run.skip ?_
  refine Run.seq ?_
  refine Run.block ?_
  refine Run.seq ?_
  refine Run.reg ?_
  refine op (OpS.mv rfl rfl rfl ?_)
  refine op (OpS.fbox (o3 := 2) h16 (.s (.s .z)) PA.z fa28_2 rfl rfl rfl rfl ?_)
  refine op (OpS.loadB h16 (.s (.s .z)) PA.a (Get.fld Download_.f2) ty26 rfl rfl rfl (fun u4 h17 => ?_))
  refine op (OpS.len h17 Try.underlying26 rfl rfl rfl (V.at .z) ?_)
  obtain ⟨y5, e6, hF⟩ := bindP_use hF
  have h18 := h17.front (.cons .z .nil)
  refine op (OpS.callO h18 Try.func18 rfl rfl rfl rfl (vs := [v0, .int .i64 (s1.2.2.Have.length : Int)]) rfl (field_Codes_Next_ok e6) rfl .nil ?_)
  rintro _ w9 _ _ _ ⟨rfl, rfl, rfl, rfl⟩ h19
  have h20 := h19
  simp only [List.cons_append, List.nil_append] at h20
  refine op (OpS.as rfl rfl rfl ?_)
  refine RunL.nil ?_
  refine Run.slim [(6, .int .i64 y5.1), (0, v0), (2, u1), (3, u3), (5, .int .i64 s1.1)] ⟨rfl, rfl, rfl, rfl, rfl, trivial⟩ ?_
  refine Run.seq ?_
  refine Run.reg ?_
  refine op (OpS.fbox (o3 := 1) h20 (.s (.s .z)) PA.z fa28_1 rfl rfl rfl rfl ?_)
  refine op (OpS.loadBi h20 (.s (.s .z)) PA.a (Get.fld Download_.f1) ty3 rfl rfl rfl ?_)
  refine op (OpS.fbox (o3 := 0) h20 (.s (.s .z)) PA.z fa28_0 rfl rfl rfl rfl ?_)
  refine op (OpS.loadBi h20 (.s (.s .z)) PA.a (Get.fld Download_.f0) ty3 rfl rfl rfl ?_)
  refine op (OpS.mv rfl rfl rfl ?_)
  refine op (OpS.fbox (o3 := 1) h20 (.s (.s .z)) PA.z fa28_1 rfl rfl rfl rfl ?_)
  refine op (OpS.loadBi h20 (.s (.s .z)) PA.a (Get.fld Download_.f1) ty3 rfl rfl rfl ?_)
  refine op (OpS.bin rfl rfl rfl rfl rfl ?_)
  refine op (OpS.bin rfl rfl rfl rfl rfl ?_)
  refine op (OpS.mini rfl rfl rfl rfl ?_)
  obtain ⟨x1, e7, hF⟩ := bindP_use hF
  refine op (OpS.make h20 Try.underlying22 ti5 rfl rfl (Zr.int .u8 0) rfl rfl rfl rfl e7 (by simp) (mk_fits e7) rfl (fun u5 w10 h21 => ?_))
  refine op (OpS.as rfl rfl rfl ?_)
  refine RunL.nil ?_
  refine Run.slim [(7, u5), (6, .int .i64 y5.1), (0, v0), (2, u1), (3, u3), (5, .int .i64 s1.1)] ⟨rfl, rfl, rfl, rfl, rfl, rfl, trivial⟩ ?_
  refine Run.seq ?_
  refine Run.seq ?_
  refine Run.reg ?_
  refine op (OpS.mv rfl rfl rfl ?_)
  refine op (OpS.lenO h21 .z Try.underlying22 rfl rfl rfl ?_)
  refine op (OpS.mv rfl rfl rfl ?_)
  refine RunL.nil ?_
  refine Run.slim [(45, .int .i64 0), (44, .int .i64 (x1.length : Int)), (7, u5), (6, .int .i64 y5.1), (0, v0), (2, u1), (3, u3), (5, .int .i64 s1.1)] ⟨rfl, rfl, rfl, rfl, rfl, rfl, rfl, rfl, trivial⟩ ?_
  refine Run.block ?_
  refine Run.slim [(0, v0), (2, u1), (3, u3), (5, .int .i64 s1.1), (6, .int .i64 y5.1), (7, u5), (44, .int .i64 (x1.length : Int)), (45, .int .i64 0)] ⟨rfl, rfl, rfl, rfl, rfl, rfl, rfl, rfl, trivial⟩ ?_
  refine Run.loopP (σ := (Int × field_Codes × (List Int))) (fun s_ L_ w_ => L_ = [(0, v0), (2, u1), (3, u3), (5, .int .i64 s1.1), (6, .int .i64 y5.1), (7, u5), (44, .int .i64 (x1.length : Int)), (45, .int .i64 s_.1)] ∧ St e w_ [] [(false, .box 51 field_Codes.rep v0 s_.2.1), (true, .box 28 Download_.rep u1 Download_.z), (false, .box 28 Download_.rep u3 s1.2.2), (true, .slice 5 (Rep.int .u8) u5 s_.2.2)]) hF ⟨rfl, (h21.facts .nil).picks (.cons (.s .z) (.cons (.s .z) (.cons (.s .z) (.cons .z .nil))))⟩ (fun k2 hk2 s2 _ w11 hI hF => ?_)
  obtain ⟨rfl, h22⟩ := hI
  refine Run.seq ?_
  refine Run.reg ?_
  refine op (OpS.bin rfl rfl rfl rfl rfl ?_)
  refine RunL.nil ?_
  refine Run.seq ?_
  refine Run.ite rfl hF (fun e8 hF => ?_) (fun e8 hF => ?_)
  ·
   refine Run.skip ?_
   refine Run.seq ?_
   refine Run.block ?_
   refine Run.seq ?_
   refine Run.reg ?_
   refine op (OpS.mv rfl rfl rfl ?_)
   refine op (OpS.as rfl rfl rfl ?_)
   refine RunL.nil ?_
   refine Run.slim [(8, .int .i64 s2.1), (0, v0), (2, u1), (3, u3), (5, .int .i64 s1.1), (6, .int .i64 y5.1), (7, u5), (44, .int .i64 (x1.length : Int)), (45, .int .i64 s2.1)] ⟨rfl, rfl, rfl, rfl, rfl, rfl, rfl, rfl, rfl, trivial⟩ ?_
   refine Run.reg ?_
   refine op (OpS.mv rfl rfl rfl ?_)
   refine op (OpS.mv rfl rfl rfl ?_)
   refine op (OpS.mv rfl rfl rfl ?_)
   obtain ⟨y6, e9, hF⟩ := bindP_use hF
   have h23 := h22.front (.cons .z .nil)
   refine op (OpS.callO h23 Try.func18 rfl rfl rfl rfl (vs := [v0, .int .i64 256]) rfl (field_Codes_Next_ok e9) rfl .nil ?_)
   rintro _ w12 _ _ _ ⟨rfl, rfl, rfl, rfl⟩ h24
   have h25 := h24
   simp only [List.cons_append, List.nil_append] at h25
   refine op (OpS.conv Try.underlying3 Try.underlying5 rfl rfl rfl ?_)
   obtain ⟨x2, e10, hF⟩ := bindP_use hF
   refine op (OpS.iown h25 (.s (.s (.s .z))) Try.underlying22 ty5 rfl rfl rfl rfl e10 ?_)
   obtain ⟨d1, e11, hF⟩ := letP_use hF
   refine op (OpS.storeO (f' := true) h25 (.s (.s (.s .z))) (idx_ne e10) PA.a (Put.of (Put.arr e10) e11) ty5 rfl rfl rfl V.int (.inl rfl) (fun w13 h26 => ?_))
   refine RunL.nil ?_
   refine Run.slim [(0, v0), (2, u1), (3, u3), (5, .int .i64 s1.1), (6, .int .i64 y5.1), (7, u5), (44, .int .i64 (x1.length : Int)), (45, .int .i64 s2.1)] ⟨rfl, rfl, rfl, rfl, rfl, rfl, rfl, rfl, trivial⟩ ?_
   refine Run.endBlock ?_
   refine Run.reg ?_
   refine op (OpS.bin rfl rfl rfl rfl rfl ?_)
   refine op (OpS.mv rfl rfl rfl ?_)
   refine RunL.nil ?_
   refine Run.slim [(45, .int .i64 (IntKind.i64.wrap (s2.1 + 1))), (0, v0), (2, u1), (3, u3), (5, .int .i64 s1.1), (6, .int .i64 y5.1), (7, u5), (44, .int .i64 (x1.length : Int))] ⟨rfl, rfl, rfl, rfl, rfl, rfl, rfl, rfl, trivial⟩ ?_
   refine Run.slim [(0, v0), (2, u1), (3, u3), (5, .int .i64 s1.1), (6, .int .i64 y5.1), (7, u5), (44, .int .i64 (x1.length : Int)), (45, .int .i64 (IntKind.i64.wrap (s2.1 + 1)))] ⟨rfl, rfl, rfl, rfl, rfl, rfl, rfl, rfl, trivial⟩ ?_
   exact hk2 ((IntKind.i64.wrap (s2.1 + 1)), y6.2, d1) _ _ ⟨rfl, (h26.facts .nil).picks (.cons (.s .z) (.cons (.s .z) (.cons (.s .z) (.cons .z .nil))))⟩ hF
  ·
   refine Run.exit rfl ?_
   refine Run.seq ?_
   refine Run.reg ?_
   refine op (OpS.loadB h22 (.s (.s .z)) PA.z Get.id ty28 rfl rfl rfl (fun u6 h27 => ?_))
   refine op (OpS.mv rfl rfl rfl ?_)
   refine op (OpS.mv rfl rfl rfl ?_)
   have h28 := (h27.pick (.s (.s (.s .z)))).freeze
   obtain ⟨y7, e12, hF⟩ := bindP_use hF
   have h29 := h28.front .nil
   refine op (OpS.callO h29 Try.func19 rfl rfl rfl rfl (vs := [u6, .int .i64 y5.1, u5]) rfl (ref30_Accept_ok e12) rfl (.cons (f := false) (V.at (.s .z)) (.cons (f := true) (V.at .z) .nil)) ?_)
   rintro _ w14 _ _ _ ⟨u7, rfl, rfl, rfl, rfl⟩ h30
   have h31 := h30
   simp only [List.cons_append, List.nil_append] at h31
   refine op (OpS.mv rfl rfl rfl ?_)
   refine op (OpS.ext rfl rfl rfl rfl ?_)
   refine op (OpS.ext rfl rfl rfl rfl ?_)
   refine op (OpS.alloc h31 ti28 Download_.zr rfl rfl (fun u8 w15 h32 => ?_))
   have h33 := (h32.pick .z).weak
   refine op (OpS.storeB (f' := false) h33 .z PA.z Put.id ty28 rfl rfl rfl (V.at .z) (.inr rfl) (fun w16 h34 => ?_))
   refine op (OpS.as rfl rfl rfl ?_)
   refine RunL.nil ?_
   refine Run.slim [(10, .int .i64 y7.2), (9, u8), (0, v0), (2, u1), (3, u3), (5, .int .i64 s1.1)] ⟨rfl, rfl, rfl, rfl, rfl, rfl, trivial⟩ ?_
   refine Run.seq ?_
   refine Run.reg ?_
   refine op (OpS.mv rfl rfl rfl ?_)
   refine op (OpS.bin rfl rfl rfl rfl rfl ?_)
   refine RunL.nil ?_
   refine Run.slim [(63, .bool (y7.2 == 0)), (9, u8), (0, v0), (2, u1), (3, u3), (5, .int .i64 s1.1)] ⟨rfl, rfl, rfl, rfl, rfl, rfl, trivial⟩ ?_
   refine Run.ite rfl hF (fun e13 hF => ?_) (fun e13 hF => ?_)
   ·
    refine Run.reg ?_
    refine op (OpS.loadB h34 .z PA.z Get.id ty28 rfl rfl rfl (fun u9 h35 => ?_))
    refine op (OpS.storeB (f' := false) h35 (.s (.s (.s .z))) PA.z Put.id ty28 rfl rfl rfl (V.at .z) (.inr rfl) (fun w17 h36 => ?_))
    refine RunL.nil ?_
    refine Run.slim [(0, v0), (2, u1), (3, u3), (5, .int .i64 s1.1)] ⟨rfl, rfl, rfl, rfl, trivial⟩ ?_
    refine Run.endBlock ?_
    refine Run.reg ?_
    refine op (OpS.mv rfl rfl rfl ?_)
    refine op (OpS.bin rfl rfl rfl rfl rfl ?_)
    refine op (OpS.as rfl rfl rfl ?_)
    obtain ⟨x3, e14, hF⟩ := letP_use hF
    refine RunL.name e14 ?_
    refine RunL.nil ?_
    refine Run.slim [(5, .int .i64 x3), (0, v0), (2, u1), (3, u3)] ⟨rfl, rfl, rfl, rfl, trivial⟩ ?_
    refine Run.slim [(0, v0), (2, u1), (3, u3), (5, .int .i64 x3)] ⟨rfl, rfl, rfl, rfl, trivial⟩ ?_
    exact hk1 (x3, s2.2.1, y7.1) _ _ ⟨rfl, (h36.facts .nil).picks (.cons (.s (.s .z)) (.cons (.s (.s .z)) (.cons .z .nil)))⟩ hF
   ·
    refine Run.skip ?_
    refine Run.endBlock ?_
    refine Run.reg ?_
    refine op (OpS.mv rfl rfl rfl ?_)
    refine op (OpS.bin rfl rfl rfl rfl rfl ?_)
    refine op (OpS.as rfl rfl rfl ?_)
    obtain ⟨x4, e15, hF⟩ := letP_use hF
    refine RunL.name e15 ?_
    refine RunL.nil ?_
    refine Run.slim [(5, .int .i64 x4), (0, v0), (2, u1), (3, u3)] ⟨rfl, rfl, rfl, rfl, trivial⟩ ?_
    refine Run.slim [(0, v0), (2, u1), (3, u3), (5, .int .i64 x4)] ⟨rfl, rfl, rfl, rfl, trivial⟩ ?_
    exact hk1 (x4, s2.2.1, s1.2.2) _ _ ⟨rfl, (h34.facts .nil).picks (.cons (.s .z) (.cons (.s .z) (.cons (.s .z) .nil)))⟩ hF
 ·
  refine Run.exit rfl ?_
  refine Run.seq ?_
  refine Run.reg ?_
  refine op (OpS.loadB h16 (.s (.s .z)) PA.z Get.id ty28 rfl rfl rfl (fun u10 h37 => ?_))
  have h38 := (h37.pick (.s .z)).weak
  refine op (OpS.storeB (f' := false) h38 .z PA.z Put.id ty28 rfl rfl rfl (V.at .z) (.inr rfl) (fun w18 h39 => ?_))
  refine RunL.nil ?_
  refine Run.slim [(2, u1)] ⟨rfl, trivial⟩ ?_
  obtain ⟨u11, hu1, h40⟩ := res_box h39 .z ty28
  refine Run.retP rfl (.cell rfl hu1 .nil) ?_
  cases hF
  exact Post.mk' ⟨u11, rfl, rfl, rfl, rfl⟩ (h40.picks (.cons (.s .z) .nil)) (.val (V.at .z) .nil)
theorem ref30_Same_ok {fuel : Nat} {a0 : Download_} {a1 : Download_} {y : Bool} (hF : ref30_Same fuel a0 a1 = some y) {w : World} {v0 v1 : Value} :
  Spec Try.prog 12 [v0, v1].toArray w [(false, .val Download_.rep v0 a0), (false, .val Download_.rep v1 a1)] [] (fun v Γr Ωr Ωo => v = .bool y ∧ Γr = [] ∧ Ωr = [] ∧ Ωo = []) := by
 refine Spec.of (L := [(0, v0), (1, v1)]) Try.func12 rfl ⟨rfl, rfl, trivial⟩ rfl (fun e h => ?_)
 unfold ref30_Same at hF
 refine Run.seq ?_
 refine Run.reg ?_
 refine op (OpS.boxF h rfl rfl rfl (V.at .z) (fun u1 w1 h1 => ?_))
 refine op (OpS.boxF h1 rfl rfl rfl (V.at (.s .z)) (fun u2 w2 h2 => ?_))
 refine op (OpS.as rfl rfl rfl ?_)
 refine RunL.nil ?_
 refine Run.slim [(3, u2), (2, u1)] ⟨rfl, rfl, trivial⟩ ?_
 refine Run.seq ?_
 refine Run.seq ?_
 refine Run.reg ?_
 refine op (OpS.fbox (o3 := 0) h2 (.s .z) PA.z fa28_0 rfl rfl rfl rfl ?_)
 refine op (OpS.loadBi h2 (.s .z) PA.a (Get.fld Download_.f0) ty3 rfl rfl rfl ?_)
 refine op (OpS.fbox (o3 := 0) h2 .z PA.z fa28_0 rfl rfl rfl rfl ?_)
 refine op (OpS.loadBi h2 .z PA.a (Get.fld Download_.f0) ty3 rfl rfl rfl ?_)
 refine op (OpS.bin rfl rfl rfl rfl rfl ?_)
 refine op (OpS.mv rfl rfl rfl ?_)
 refine RunL.join (σ := Bool) (fun s_ L_ w_ => L_ = [(2, u1), (3, u2), (35, .bool s_)] ∧ St e w_ [] [(false, .box 28 Download_.rep u1 a0), (false, .box 28 Download_.rep u2 a1)]) hF (fun s1 _ w3 hI hF => ?_) (fun j1 hj1 hF => ?_)
 ·
  obtain ⟨rfl, h3⟩ := hI
  refine Run.ite rfl hF (fun e1 hF => ?_) (fun e1 hF => ?_)
  ·
   refine Run.seq ?_
   refine Run.reg ?_
   refine op (OpS.as rfl rfl rfl ?_)
   refine RunL.nil ?_
   refine Run.slim [(4, .bool false)] ⟨rfl, trivial⟩ ?_
   refine Run.retP rfl (.tmp rfl .nil) ?_
   cases hF
   exact Post.mk' ⟨rfl, rfl, rfl, rfl⟩ (h3.picks .nil) .nil
  ·
   refine Run.skip ?_
   refine Run.seq ?_
   refine Run.seq ?_
   refine Run.reg ?_
   refine op (OpS.as rfl rfl rfl ?_)
   refine RunL.nil ?_
   refine Run.slim [(5, .int .i64 0), (2, u1), (3, u2)] ⟨rfl, rfl, rfl, trivial⟩ ?_
   refine Run.block ?_
   refine Run.slim [(2, u1), (3, u2), (5, .int .i64 0)] ⟨rfl, rfl, rfl, trivial⟩ ?_
   refine Run.loopP (σ := Int) (fun s_ L_ w_ => L_ = [(2, u1), (3, u2), (5, .int .i64 s_)] ∧ St e w_ [] [(false, .box 28 Download_.rep u1 a0), (false, .box 28 Download_.rep u2 a1)]) hF ⟨rfl, (h3.facts .nil).picks (.cons .z (.cons .z .nil))⟩ (fun k1 hk1 s2 _ w4 hI hF => ?_)
   obtain ⟨rfl, h4⟩ := hI
   refine Run.seq ?_
   refine Run.seq ?_
   refine Run.reg ?_
   refine op (OpS.mv rfl rfl rfl ?_)
   refine op (OpS.fbox (o3 := 2) h4 .z PA.z fa28_2 rfl rfl rfl rfl ?_)
   refine op (OpS.loadB h4 .z PA.a (Get.fld Download_.f2) ty26 rfl rfl rfl (fun u3 h5 => ?_))
   refine op (OpS.len h5 Try.underlying26 rfl rfl rfl (V.at .z) ?_)
   refine op (OpS.bin rfl rfl rfl rfl rfl ?_)
   refine RunL.nil ?_
   refine Run.slim [(40, .bool (decide (s2 < (a0.Have.length : Int)))), (2, u1), (3, u2), (5, .int .i64 s2)] ⟨rfl, rfl, rfl, rfl, trivial⟩ ?_
   refine Run.ite rfl hF (fun e2 hF => ?_) (fun e2 hF => ?_)
   ·
    refine Run.skip ?_
    refine Run.seq ?_
    refine Run.block ?_
    refine Run.seq ?_
    obtain ⟨x1, e3, hF⟩ := bindP_use hF
    obtain ⟨x2, e4, hF⟩ := bindP_use hF
    refine Run.drawV (Ωs := []) [⟨some 43, some ((padd u1 2)), fun _ => [], fun ds_ u_ => [], [], [(0, [])], none⟩, ⟨some 44, none, fun u_ => [(false, .val (Rep.slice Rep.bool) u_ a0.Have)], fun ds_ u_ => [], [], [(0, [])], none⟩, ⟨some 45, some (.int .i64 s2), fun _ => [], fun ds_ u_ => [], [], [], none⟩, ⟨some 46, none, fun u_ => [(false, .ptr Rep.bool u_ x1)], fun ds_ u_ => [], [], [], none⟩, ⟨some 47, some (.bool x1), fun _ => [], fun ds_ u_ => [], [], [], none⟩, ⟨some 48, some ((padd u2 2)), fun _ => [], fun ds_ u_ => [], [], [(1, [])], none⟩, ⟨some 49, none, fun u_ => [(false, .val (Rep.slice Rep.bool) u_ a1.Have)], fun ds_ u_ => [], [], [(1, [])], none⟩, ⟨some 50, some (.int .i64 s2), fun _ => [], fun ds_ u_ => [], [], [], none⟩, ⟨some 51, none, fun u_ => [(false, .ptr Rep.bool u_ x2)], fun ds_ u_ => [], [], [], none⟩, ⟨some 52, some (.bool x2), fun _ => [], fun ds_ u_ => [], [], [], none⟩, ⟨some 53, some (.bool (x1 != x2)), fun _ => [], fun ds_ u_ => [], [], [], none⟩] [[], [0], [], [1, 2], [3], [], [5], [], [6, 7], [8], [4, 9]] [[(false, .box 28 Download_.rep u1 a0)], [(false, .box 28 Download_.rep u2 a1)]] [0, 1, 2, 3, 4, 5, 6, 7, 8, 9, 10, 11, 12] Try_mixed rfl rfl rfl h5 (.cons ?_ (.cons ?_ (.cons ?_ (.cons ?_ (.cons ?_ (.cons ?_ (.cons ?_ (.cons ?_ (.cons ?_ (.cons ?_ (.cons ?_ .nil))))))))))) (fun q1 w hq1 h => ?_)
    ·intro q1 w Γx Ωx h
     have h : St e w ([(false, .val (Rep.slice Rep.bool) u3 a0.Have)] ++ Γx) ([(false, .box 28 Download_.rep u1 a0)] ++ Ωx) := h
     refine OpS.fbox (o3 := 2) h .z PA.z fa28_2 rfl rfl rfl rfl ?_
     exact ⟨undef, rfl, trivial, h⟩
    ·intro q1 w Γx Ωx h
     have h : St e w ([(false, .val (Rep.slice Rep.bool) u3 a0.Have)] ++ Γx) ([(false, .box 28 Download_.rep u1 a0)] ++ Ωx) := h
     refine OpS.loadB h .z PA.a (Get.fld Download_.f2) ty26 rfl rfl rfl (fun u h10 => ?_)
     exact ⟨u, rfl, trivial, h10⟩
    ·intro q1 w Γx Ωx h
     refine OpS.mv rfl rfl rfl ?_
     exact ⟨undef, rfl, trivial, h⟩
    ·intro q1 w Γx Ωx h
     refine OpS.iptr h Try.underlying26 ty4 rfl rfl rfl rfl (V.at .z) e3 (fun u h11 => ?_)
     exact ⟨u, rfl, trivial, h11⟩
    ·intro q1 w Γx Ωx h
     refine OpS.loadb h ty4 rfl rfl rfl .z ?_
     exact ⟨undef, rfl, trivial, h⟩
    ·intro q1 w Γx Ωx h
     have h : St e w ([(false, .val (Rep.slice Rep.bool) u3 a0.Have)] ++ Γx) ([(false, .box 28 Download_.rep u2 a1)] ++ Ωx) := h
     refine OpS.fbox (o3 := 2) h .z PA.z fa28_2 rfl rfl rfl rfl ?_
     exact ⟨undef, rfl, trivial, h⟩
    ·intro q1 w Γx Ωx h
     have h : St e w ([(false, .val (Rep.slice Rep.bool) u3 a0.Have)] ++ Γx) ([(false, .box 28 Download_.rep u2 a1)] ++ Ωx) := h
     refine OpS.loadB h .z PA.a (Get.fld Download_.f2) ty26 rfl rfl rfl (fun u h12 => ?_)
     exact ⟨u, rfl, trivial, h12⟩
    ·intro q1 w Γx Ωx h
     refine OpS.mv rfl rfl rfl ?_
     exact ⟨undef, rfl, trivial, h⟩
    ·intro q1 w Γx Ωx h
     refine OpS.iptr h Try.underlying26 ty4 rfl rfl rfl rfl (V.at .z) e4 (fun u h13 => ?_)
     exact ⟨u, rfl, trivial, h13⟩
    ·intro q1 w Γx Ωx h
     refine OpS.loadb h ty4 rfl rfl rfl .z ?_
     exact ⟨undef, rfl, trivial, h⟩
    ·intro q1 w Γx Ωx h
     refine OpS.neb Try.underlying4 rfl rfl rfl rfl ?_
     exact ⟨undef, rfl, trivial, h⟩
    have h14 : St e w [(false, .val (Rep.slice Rep.bool) (q1 1) a0.Have), (false, .ptr Rep.bool (q1 3) x1), (false, .val (Rep.slice Rep.bool) (q1 6) a1.Have), (false, .ptr Rep.bool (q1 8) x2), (false, .val (Rep.slice Rep.bool) u3 a0.Have)] [(false, .box 28 Download_.rep u1 a0), (false, .box 28 Download_.rep u2 a1)] := h
    refine RunL.nil ?_
    refine Run.slim [(53, .bool (x1 != x2)), (2, u1), (3, u2), (5, .int .i64 s2)] ⟨rfl, rfl, rfl, rfl, trivial⟩ ?_
    refine Run.ite rfl hF (fun e5 hF => ?_) (fun e5 hF => ?_)
    ·
     refine Run.seq ?_
     refine Run.reg ?_
     refine op (OpS.as rfl rfl rfl ?_)
     refine RunL.nil ?_
     refine Run.slim [(4, .bool false)] ⟨rfl, trivial⟩ ?_
     refine Run.retP rfl (.tmp rfl .nil) ?_
     cases hF
     exact Post.mk' ⟨rfl, rfl, rfl, rfl⟩ (h14.picks .nil) .nil
    ·
     refine Run.skip ?_
     refine Run.endBlock ?_
     refine Run.reg ?_
     refine op (OpS.mv rfl rfl rfl ?_)
     refine op (OpS.bin rfl rfl rfl rfl rfl ?_)
     refine op (OpS.as rfl rfl rfl ?_)
     obtain ⟨x3, e6, hF⟩ := letP_use hF
     refine RunL.name e6 ?_
     refine RunL.nil ?_
     refine Run.slim [(5, .int .i64 x3), (2, u1), (3, u2)] ⟨rfl, rfl, rfl, trivial⟩ ?_
     refine Run.slim [(2, u1), (3, u2), (5, .int .i64 x3)] ⟨rfl, rfl, rfl, trivial⟩ ?_
     exact hk1 (x3) _ _ ⟨rfl, (h14.facts .nil).picks (.cons .z (.cons .z .nil))⟩ hF
   ·
    refine Run.exit rfl ?_
    refine Run.seq ?_
    refine Run.reg ?_
    refine op (OpS.as rfl rfl rfl ?_)
    refine RunL.nil ?_
    refine Run.slim [(4, .bool true)] ⟨rfl, trivial⟩ ?_
    refine Run.retP rfl (.tmp rfl .nil) ?_
    cases hF
    exact Post.mk' ⟨rfl, rfl, rfl, rfl⟩ (h5.picks .nil) .nil
 ·
  refine RunL.caseb hF (fun e7 hF => ?_) (fun e7 hF => ?_)
  ·
   refine op (OpS.pass rfl rfl rfl ?_)
   refine op (OpS.pass rfl rfl rfl ?_)
   refine op (OpS.pass rfl rfl rfl ?_)
   refine op (OpS.pass rfl rfl rfl ?_)
   refine op (OpS.pass rfl rfl rfl ?_)
   refine op (OpS.pick rfl rfl rfl rfl ?_)
   refine op (OpS.mv rfl rfl rfl ?_)
   refine op (OpS.pass rfl rfl rfl ?_)
   refine op (OpS.pass rfl rfl rfl ?_)
   refine op (OpS.pass rfl rfl rfl ?_)
   refine op (OpS.pass rfl rfl rfl ?_)
   refine op (OpS.pass rfl rfl rfl ?_)
   refine op (OpS.pass rfl rfl rfl ?_)
   refine op (OpS.pass rfl rfl rfl ?_)
   refine op (OpS.pick rfl rfl rfl rfl ?_)
   refine op (OpS.mv rfl rfl rfl ?_)
   refine op (OpS.pass rfl rfl rfl ?_)
   refine op (OpS.pass rfl rfl rfl ?_)
   refine op (OpS.pass rfl rfl rfl ?_)
   refine op (OpS.pass rfl rfl rfl ?_)
   refine op (OpS.pass rfl rfl rfl ?_)
   refine op (OpS.pass rfl rfl rfl ?_)
   refine op (OpS.pass rfl rfl rfl ?_)
   refine op (OpS.pick rfl rfl rfl rfl ?_)
   refine RunL.nil ?_
   refine Run.slim [(35, .bool true), (3, u2), (2, u1)] ⟨rfl, rfl, rfl, trivial⟩ ?_
   refine Run.slim [(2, u1), (3, u2), (35, .bool true)] ⟨rfl, rfl, rfl, trivial⟩ ?_
   exact hj1 (true) _ _ ⟨rfl, (h2.facts .nil).picks (.cons (.s .z) (.cons .z .nil))⟩ hF
  ·
   refine op (OpS.fbox (o3 := 1) h2 (.s .z) PA.z fa28_1 rfl rfl rfl rfl ?_)
   refine op (OpS.loadBi h2 (.s .z) PA.a (Get.fld Download_.f1) ty3 rfl rfl rfl ?_)
   refine op (OpS.fbox (o3 := 1) h2 .z PA.z fa28_1 rfl rfl rfl rfl ?_)
   refine op (OpS.loadBi h2 .z PA.a (Get.fld Download_.f1) ty3 rfl rfl rfl ?_)
   refine op (OpS.bin rfl rfl rfl rfl rfl ?_)
   refine op (OpS.pick rfl rfl rfl rfl ?_)
   refine op (OpS.mv rfl rfl rfl ?_)
   refine RunL.caseb hF (fun e8 hF => ?_) (fun e8 hF => ?_)
   ·
    refine op (OpS.pass rfl rfl rfl ?_)
    refine op (OpS.pass rfl rfl rfl ?_)
    refine op (OpS.pass rfl rfl rfl ?_)
    refine op (OpS.pass rfl rfl rfl ?_)
    refine op (OpS.pass rfl rfl rfl ?_)
    refine op (OpS.pass rfl rfl rfl ?_)
    refine op (OpS.pass rfl rfl rfl ?_)
    refine op (OpS.pick rfl rfl rfl rfl ?_)
    refine op (OpS.mv rfl rfl rfl ?_)
    refine op (OpS.pass rfl rfl rfl ?_)
    refine op (OpS.pass rfl rfl rfl ?_)
    refine op (OpS.pass rfl rfl rfl ?_)
    refine op (OpS.pass rfl rfl rfl ?_)
    refine op (OpS.pass rfl rfl rfl ?_)
    refine op (OpS.pass rfl rfl rfl ?_)
    refine op (OpS.pass rfl rfl rfl ?_)
    refine op (OpS.pick rfl rfl rfl rfl ?_)
    refine RunL.nil ?_
    refine Run.slim [(35, .bool true), (3, u2), (2, u1)] ⟨rfl, rfl, rfl, trivial⟩ ?_
    refine Run.slim [(2, u1), (3, u2), (35, .bool true)] ⟨rfl, rfl, rfl, trivial⟩ ?_
    exact hj1 (true) _ _ ⟨rfl, (h2.facts .nil).picks (.cons (.s .z) (.cons .z .nil))⟩ hF
   ·
    refine op (OpS.fbox (o3 := 2) h2 (.s .z) PA.z fa28_2 rfl rfl rfl rfl ?_)
    refine op (OpS.loadB h2 (.s .z) PA.a (Get.fld Download_.f2) ty26 rfl rfl rfl (fun u4 h15 => ?_))
    refine op (OpS.len h15 Try.underlying26 rfl rfl rfl (V.at .z) ?_)
    refine op (OpS.fbox (o3 := 2) h15 .z PA.z fa28_2 rfl rfl rfl rfl ?_)
    refine op (OpS.loadB h15 .z PA.a (Get.fld Download_.f2) ty26 rfl rfl rfl (fun u5 h16 => ?_))
    refine op (OpS.len h16 Try.underlying26 rfl rfl rfl (V.at .z) ?_)
    refine op (OpS.bin rfl rfl rfl rfl rfl ?_)
    refine op (OpS.pick rfl rfl rfl rfl ?_)
    refine op (OpS.mv rfl rfl rfl ?_)
    refine RunL.caseb hF (fun e9 hF => ?_) (fun e9 hF => ?_)
    ·
     refine op (OpS.pass rfl rfl rfl ?_)
     refine op (OpS.pass rfl rfl rfl ?_)
     refine op (OpS.pass rfl rfl rfl ?_)
     refine op (OpS.pass rfl rfl rfl ?_)
     refine op (OpS.pass rfl rfl rfl ?_)
     refine op (OpS.pass rfl rfl rfl ?_)
     refine op (OpS.pass rfl rfl rfl ?_)
     refine op (OpS.pick rfl rfl rfl rfl ?_)
     refine RunL.nil ?_
     refine Run.slim [(35, .bool true), (3, u2), (2, u1)] ⟨rfl, rfl, rfl, trivial⟩ ?_
     refine Run.slim [(2, u1), (3, u2), (35, .bool true)] ⟨rfl, rfl, rfl, trivial⟩ ?_
     exact hj1 (true) _ _ ⟨rfl, (h16.facts .nil).picks (.cons (.s .z) (.cons .z .nil))⟩ hF
    ·
     refine op (OpS.fbox (o3 := 3) h16 (.s .z) PA.z fa28_3 rfl rfl rfl rfl ?_)
     refine op (OpS.loadB h16 (.s .z) PA.a (Get.fld Download_.f3) ty22 rfl rfl rfl (fun u6 h17 => ?_))
     refine op (OpS.toStr h17 Try.underlying22 Try.underlying5 Try.underlying9 rfl rfl rfl (V.at .z) (fun u7 h18 => ?_))
     refine op (OpS.fbox (o3 := 3) h18 .z PA.z fa28_3 rfl rfl rfl rfl ?_)
     refine op (OpS.loadB h18 .z PA.a (Get.fld Download_.f3) ty22 rfl rfl rfl (fun u8 h19 => ?_))
     refine op (OpS.toStr h19 Try.underlying22 Try.underlying5 Try.underlying9 rfl rfl rfl (V.at .z) (fun u9 h20 => ?_))
     refine op (OpS.nes h20 rfl rfl rfl rfl (V.at (.s (.s .z))) (V.at .z) Try.underlying9 ?_)
     refine op (OpS.pick rfl rfl rfl rfl ?_)
     refine RunL.nil ?_
     refine Run.slim [(35, .bool ((toStr a0.Data) != (toStr a1.Data))), (3, u2), (2, u1)] ⟨rfl, rfl, rfl, trivial⟩ ?_
     refine Run.slim [(2, u1), (3, u2), (35, .bool ((toStr a0.Data) != (toStr a1.Data)))] ⟨rfl, rfl, rfl, trivial⟩ ?_
     exact hj1 ((toStr a0.Data) != (toStr a1.Data)) _ _ ⟨rfl, (h20.facts .nil).picks (.cons (.s .z) (.cons .z .nil))⟩ hF
theorem transfer_Bytes_ok {fuel : Nat} {a0 : Download_} {y : (List Int) × Int} (hF : transfer_Bytes fuel a0 = some y) {w : World} {v0 : Value} :
  Spec Try.prog 20 [v0].toArray w [(false, .val Download_.rep v0 a0)] [] (fun v Γr Ωr Ωo => ∃ u0 : Value, v = .tuple #[u0, .int .i64 y.2] ∧ Γr = [] ∧ Ωr = [(true, .slice 5 (Rep.int .u8) u0 y.1)] ∧ Ωo = []) := by
 refine Spec.of (L := [(0, v0)]) Try.func20 rfl ⟨rfl, trivial⟩ rfl (fun e h => ?_)
 unfold transfer_Bytes at hF
 refine Run.seq ?_
 refine Run.reg ?_
 refine op (OpS.boxF h rfl rfl rfl (V.at .z) (fun u1 w1 h1 => ?_))
 refine op (OpS.as rfl rfl rfl ?_)
 refine op (OpS.as rfl rfl rfl ?_)
 refine RunL.nil ?_
 refine Run.slim [(1, u1)] ⟨rfl, trivial⟩ ?_
 refine Run.seq ?_
 refine Run.seq ?_
 refine Run.reg ?_
 refine op (OpS.loadB h1 .z PA.z Get.id ty28 rfl rfl rfl (fun u2 h2 => ?_))
 obtain ⟨y1, e1, hF⟩ := bindP_use hF
 refine op (OpS.callP h2 Try.func22 rfl rfl rfl rfl (vs := [u2]) rfl (transfer_Valid_ok e1) (.cons (f := false) (V.at .z) .nil) ?_)
 rintro _ w2 _ _ _ ⟨rfl, rfl, rfl, rfl⟩ h3
 have h4 := h3 rfl rfl
 simp only [List.cons_append, List.nil_append] at h4
 refine op (OpS.not rfl rfl rfl ?_)
 refine RunL.nil ?_
 refine Run.slim [(6, .bool (!y1)), (1, u1)] ⟨rfl, rfl, trivial⟩ ?_
 refine Run.ite rfl hF (fun e2 hF => ?_) (fun e2 hF => ?_)
 ·
  refine Run.seq ?_
  refine Run.reg ?_
  refine op (OpS.as rfl rfl rfl ?_)
  refine op (OpS.as rfl rfl rfl ?_)
  refine RunL.nil ?_
  refine Run.slim [(3, .int .i64 1), (2, .slice none 0 0)] ⟨rfl, rfl, trivial⟩ ?_
  have h5 := St.nil 5 (Rep.int .u8) h4
  refine Run.retP rfl (.tmp rfl (.tmp rfl .nil)) ?_
  cases hF
  exact Post.mk' ⟨(.slice none 0 0), rfl, rfl, rfl, rfl⟩ (h5.picks (.cons .z .nil)) .nil
 ·
  refine Run.skip ?_
  refine Run.seq ?_
  refine Run.seq ?_
  refine Run.reg ?_
  refine op (OpS.loadB h4 .z PA.z Get.id ty28 rfl rfl rfl (fun u3 h6 => ?_))
  obtain ⟨y2, e3, hF⟩ := bindP_use hF
  refine op (OpS.callP h6 Try.func15 rfl rfl rfl rfl (vs := [u3]) rfl (transfer_Complete_ok e3) (.cons (f := false) (V.at .z) .nil) ?_)
  rintro _ w3 _ _ _ ⟨rfl, rfl, rfl, rfl⟩ h7
  have h8 := h7 rfl rfl
  simp only [List.cons_append, List.nil_append] at h8
  refine op (OpS.not rfl rfl rfl ?_)
  refine RunL.nil ?_
  refine Run.slim [(9, .bool (!y2)), (1, u1)] ⟨rfl, rfl, trivial⟩ ?_
  refine Run.ite rfl hF (fun e4 hF => ?_) (fun e4 hF => ?_)
  ·
   refine Run.seq ?_
   refine Run.reg ?_
   refine op (OpS.as rfl rfl rfl ?_)
   refine op (OpS.as rfl rfl rfl ?_)
   refine RunL.nil ?_
   refine Run.slim [(3, .int .i64 46), (2, .slice none 0 0)] ⟨rfl, rfl, trivial⟩ ?_
   have h9 := St.nil 5 (Rep.int .u8) h8
   refine Run.retP rfl (.tmp rfl (.tmp rfl .nil)) ?_
   cases hF
   exact Post.mk' ⟨(.slice none 0 0), rfl, rfl, rfl, rfl⟩ (h9.picks (.cons .z .nil)) .nil
  ·
   refine Run.skip ?_
   refine Run.seq ?_
   refine Run.reg ?_
   refine op (OpS.fbox (o3 := 3) h8 .z PA.z fa28_3 rfl rfl rfl rfl ?_)
   refine op (OpS.loadB h8 .z PA.a (Get.fld Download_.f3) ty22 rfl rfl rfl (fun u4 h10 => ?_))
   obtain ⟨y3, e5, hF⟩ := bindP_use hF
   refine op (OpS.callP h10 Try.func30 rfl rfl rfl rfl (vs := [u4]) rfl (slices_Clone_byte_byte_ok e5) (.cons (f := false) (V.at .z) .nil) ?_)
   rintro u5 w4 _ _ _ ⟨_, rfl, rfl, rfl, rfl⟩ h11
   have h12 := h11 rfl rfl
   simp only [List.cons_append, List.nil_append] at h12
   refine op (OpS.as rfl rfl rfl ?_)
   refine op (OpS.as rfl rfl rfl ?_)
   refine RunL.nil ?_
   refine Run.slim [(3, .int .i64 0), (2, u5)] ⟨rfl, rfl, trivial⟩ ?_
   refine Run.retP rfl (.tmp rfl (.tmp rfl .nil)) ?_
   cases hF
   exact Post.mk' ⟨u5, rfl, rfl, rfl, rfl⟩ (h12.picks (.cons .z .nil)) .nil
theorem ref30_Wanted_ok {fuel : Nat} {a0 : Download_} {a1 : Int} {y : (List Int)} (hF : ref30_Wanted fuel a0 a1 = some y) {w : World} {v0 : Value} :
  Spec Try.prog 26 [v0, .int .i64 a1].toArray w [(false, .val Download_.rep v0 a0)] [] (fun v Γr Ωr Ωo => ∃ u0 : Value, v = u0 ∧ Γr = [] ∧ Ωr = [(true, .slice 3 (Rep.int .i64) u0 y)] ∧ Ωo = []) := by
 refine Spec.of (L := [(0, v0), (1, .int .i64 a1)]) Try.func26 rfl ⟨rfl, rfl, trivial⟩ rfl (fun e h => ?_)
 unfold ref30_Wanted at hF
 refine Run.seq ?_
 refine Run.reg ?_
 refine op (OpS.boxF h rfl rfl rfl (V.at .z) (fun u1 w1 h1 => ?_))
 refine op (OpS.as rfl rfl rfl ?_)
 refine RunL.nil ?_
 refine Run.slim [(2, u1), (1, .int .i64 a1)] ⟨rfl, rfl, trivial⟩ ?_
 refine Run.seq ?_
 refine Run.seq ?_
 refine Run.reg ?_
 refine op (OpS.loadB h1 .z PA.z Get.id ty28 rfl rfl rfl (fun u2 h2 => ?_))
 obtain ⟨y1, e1, hF⟩ := bindP_use hF
 refine op (OpS.callP h2 Try.func23 rfl rfl rfl rfl (vs := [u2]) rfl (ref30_Valid_ok e1) (.cons (f := false) (V.at .z) .nil) ?_)
 rintro _ w2 _ _ _ ⟨rfl, rfl, rfl, rfl⟩ h3
 have h4 := h3 rfl rfl
 simp only [List.cons_append, List.nil_append] at h4
 refine op (OpS.not rfl rfl rfl ?_)
 refine RunL.nil ?_
 refine Run.slim [(9, .bool (!y1)), (2, u1), (1, .int .i64 a1)] ⟨rfl, rfl, rfl, trivial⟩ ?_
 refine Run.ite rfl hF (fun e2 hF => ?_) (fun e2 hF => ?_)
 ·
  refine Run.seq ?_
  refine Run.reg ?_
  refine op (OpS.as rfl rfl rfl ?_)
  refine RunL.nil ?_
  refine Run.slim [(4, .slice none 0 0)] ⟨rfl, trivial⟩ ?_
  have h5 := St.nil 3 (Rep.int .i64) h4
  refine Run.retP rfl (.tmp rfl .nil) ?_
  cases hF
  exact Post.mk' ⟨(.slice none 0 0), rfl, rfl, rfl, rfl⟩ (h5.picks (.cons .z .nil)) .nil
 ·
  refine Run.skip ?_
  refine Run.seq ?_
  refine Run.reg ?_
  refine op (OpS.as rfl rfl rfl ?_)
  refine RunL.nil ?_
  refine Run.slim [(5, .slice none 0 0), (2, u1), (1, .int .i64 a1)] ⟨rfl, rfl, rfl, trivial⟩ ?_
  refine Run.seq ?_
  refine Run.seq ?_
  refine Run.reg ?_
  refine op (OpS.as rfl rfl rfl ?_)
  refine RunL.nil ?_
  refine Run.block ?_
  have h6 := St.nil 3 (Rep.int .i64) h4
  refine Run.slim [(1, .int .i64 a1), (2, u1), (5, (.slice none 0 0)), (6, .int .i64 0)] ⟨rfl, rfl, rfl, rfl, trivial⟩ ?_
  refine Run.loopP (σ := (Int × (List Int))) (fun s_ L_ w_ => ∃ u0_ : Value, L_ = [(1, .int .i64 a1), (2, u1), (5, u0_), (6, .int .i64 s_.1)] ∧ St e w_ [] [(false, .box 28 Download_.rep u1 a0), (true, .slice 3 (Rep.int .i64) u0_ s_.2)]) hF ⟨(.slice none 0 0), rfl, (h6.facts .nil).picks (.cons (.s .z) (.cons .z .nil))⟩ (fun k1 hk1 s1 _ w3 hI hF => ?_)
  obtain ⟨u3, rfl, h7⟩ := hI
  refine Run.seq ?_
  refine Run.seq ?_
  refine Run.reg ?_
  refine op (OpS.mv rfl rfl rfl ?_)
  refine op (OpS.fbox (o3 := 2) h7 .z PA.z fa28_2 rfl rfl rfl rfl ?_)
  refine op (OpS.loadB h7 .z PA.a (Get.fld Download_.f2) ty26 rfl rfl rfl (fun u4 h8 => ?_))
  refine op (OpS.len h8 Try.underlying26 rfl rfl rfl (V.at .z) ?_)
  refine op (OpS.bin rfl rfl rfl rfl rfl ?_)
  refine op (OpS.mv rfl rfl rfl ?_)
  refine RunL.join (σ := Bool) (fun s_ L_ w_ => L_ = [(1, .int .i64 a1), (2, u1), (5, u3), (6, .int .i64 s1.1), (20, .bool s_)] ∧ St e w_ [] [(false, .box 28 Download_.rep u1 a0), (true, .slice 3 (Rep.int .i64) u3 s1.2)]) hF (fun s2 _ w4 hI hF => ?_) (fun j1 hj1 hF => ?_)
  ·
   obtain ⟨rfl, h9⟩ := hI
   refine Run.ite rfl hF (fun e3 hF => ?_) (fun e3 hF => ?_)
   ·
    refine Run.skip ?_
    refine Run.seq ?_
    refine Run.block ?_
    refine Run.seq ?_
    refine Run.reg ?_
    refine op (OpS.fbox (o3 := 2) h9 .z PA.z fa28_2 rfl rfl rfl rfl ?_)
    refine op (OpS.loadB h9 .z PA.a (Get.fld Download_.f2) ty26 rfl rfl rfl (fun u5 h10 => ?_))
    refine op (OpS.mv rfl rfl rfl ?_)
    obtain ⟨x1, e4, hF⟩ := bindP_use hF
    refine op (OpS.iptr h10 Try.underlying26 ty4 rfl rfl rfl rfl (V.at .z) e4 (fun u6 h11 => ?_))
    refine op (OpS.loadb h11 ty4 rfl rfl rfl .z ?_)
    refine op (OpS.not rfl rfl rfl ?_)
    refine RunL.nil ?_
    refine Run.slim [(28, .bool (!x1)), (1, .int .i64 a1), (2, u1), (5, u3), (6, .int .i64 s1.1)] ⟨rfl, rfl, rfl, rfl, rfl, trivial⟩ ?_
    refine Run.ite rfl hF (fun e5 hF => ?_) (fun e5 hF => ?_)
    ·
     refine Run.reg ?_
     refine op (OpS.mv rfl rfl rfl ?_)
     refine op (OpS.mv rfl rfl rfl ?_)
     refine op (OpS.lit (r := (Rep.int .i64)) (f := true) h11 Try.underlying37 ti3 rfl rfl rfl rfl rfl (.cons rfl V.int .nil) rfl rfl (fun u7 w5 h12 => ?_))
     obtain ⟨x2, e6, hF⟩ := bindP_use hF
     refine op (OpS.app (f' := true) h12 (.s .z) Try.underlying37 ti3 rfl rfl rfl rfl rfl rfl rfl (V.at .z) (.inr Pure.int) e6 (fun u8 w6 h13 => ?_))
     refine op (OpS.as rfl rfl rfl ?_)
     refine RunL.nil ?_
     refine Run.slim [(5, u8), (1, .int .i64 a1), (2, u1), (6, .int .i64 s1.1)] ⟨rfl, rfl, rfl, rfl, trivial⟩ ?_
     refine Run.endBlock ?_
     refine Run.reg ?_
     refine op (OpS.mv rfl rfl rfl ?_)
     refine op (OpS.bin rfl rfl rfl rfl rfl ?_)
     refine op (OpS.as rfl rfl rfl ?_)
     obtain ⟨x3, e7, hF⟩ := letP_use hF
     refine RunL.name e7 ?_
     refine RunL.nil ?_
     refine Run.slim [(6, .int .i64 x3), (5, u8), (1, .int .i64 a1), (2, u1)] ⟨rfl, rfl, rfl, rfl, trivial⟩ ?_
     refine Run.slim [(1, .int .i64 a1), (2, u1), (5, u8), (6, .int .i64 x3)] ⟨rfl, rfl, rfl, rfl, trivial⟩ ?_
     exact hk1 (x3, x2) _ _ ⟨u8, rfl, (h13.facts .nil).picks (.cons (.s .z) (.cons .z .nil))⟩ hF
    ·
     refine Run.skip ?_
     refine Run.endBlock ?_
     refine Run.reg ?_
     refine op (OpS.mv rfl rfl rfl ?_)
     refine op (OpS.bin rfl rfl rfl rfl rfl ?_)
     refine op (OpS.as rfl rfl rfl ?_)
     obtain ⟨x4, e8, hF⟩ := letP_use hF
     refine RunL.name e8 ?_
     refine RunL.nil ?_
     refine Run.slim [(6, .int .i64 x4), (1, .int .i64 a1), (2, u1), (5, u3)] ⟨rfl, rfl, rfl, rfl, trivial⟩ ?_
     refine Run.slim [(1, .int .i64 a1), (2, u1), (5, u3), (6, .int .i64 x4)] ⟨rfl, rfl, rfl, rfl, trivial⟩ ?_
     exact hk1 (x4, s1.2) _ _ ⟨u3, rfl, (h11.facts .nil).picks (.cons .z (.cons .z .nil))⟩ hF
   ·
    refine Run.exit rfl ?_
    refine Run.seq ?_
    refine Run.reg ?_
    refine op (OpS.mv rfl rfl rfl ?_)
    refine op (OpS.as rfl rfl rfl ?_)
    refine RunL.nil ?_
    refine Run.slim [(4, u3)] ⟨rfl, trivial⟩ ?_
    refine Run.retP rfl (.tmp rfl .nil) ?_
    cases hF
    exact Post.mk' ⟨u3, rfl, rfl, rfl, rfl⟩ (h9.picks (.cons (.s .z) .nil)) .nil
  ·
   refine RunL.caseb hF (fun e9 hF => ?_) (fun e9 hF => ?_)
   ·
    refine op (OpS.mv rfl rfl rfl ?_)
    refine op (OpS.lenO h8 (.s .z) Try.underlying37 rfl rfl rfl ?_)
    refine op (OpS.mv rfl rfl rfl ?_)
    refine op (OpS.bin rfl rfl rfl rfl rfl ?_)
    refine op (OpS.pick rfl rfl rfl rfl ?_)
    refine RunL.nil ?_
    refine Run.slim [(20, .bool (decide ((s1.2.length : Int) < a1))), (1, .int .i64 a1), (2, u1), (5, u3), (6, .int .i64 s1.1)] ⟨rfl, rfl, rfl, rfl, rfl, trivial⟩ ?_
    refine Run.slim [(1, .int .i64 a1), (2, u1), (5, u3), (6, .int .i64 s1.1), (20, .bool (decide ((s1.2.length : Int) < a1)))] ⟨rfl, rfl, rfl, rfl, rfl, trivial⟩ ?_
    exact hj1 (decide ((s1.2.length : Int) < a1)) _ _ ⟨rfl, (h8.facts .nil).picks (.cons .z (.cons .z .nil))⟩ hF
   ·
    refine op (OpS.pass rfl rfl rfl ?_)
    refine op (OpS.pass rfl rfl rfl ?_)
    refine op (OpS.pass rfl rfl rfl ?_)
    refine op (OpS.pass rfl rfl rfl ?_)
    refine op (OpS.pick rfl rfl rfl rfl ?_)
    refine RunL.nil ?_
    refine Run.slim [(20, .bool false), (1, .int .i64 a1), (2, u1), (5, u3), (6, .int .i64 s1.1)] ⟨rfl, rfl, rfl, rfl, rfl, trivial⟩ ?_
    refine Run.slim [(1, .int .i64 a1), (2, u1), (5, u3), (6, .int .i64 s1.1), (20, .bool false)] ⟨rfl, rfl, rfl, rfl, rfl, trivial⟩ ?_
    exact hj1 (false) _ _ ⟨rfl, (h8.facts .nil).picks (.cons .z (.cons .z .nil))⟩ hF
theorem ref30_Complete_ok {fuel : Nat} {a0 : Download_} {y : Bool} (hF : ref30_Complete fuel a0 = some y) {w : World} {v0 : Value} :
  Spec Try.prog 24 [v0].toArray w [(false, .val Download_.rep v0 a0)] [] (fun v Γr Ωr Ωo => v = .bool y ∧ Γr = [] ∧ Ωr = [] ∧ Ωo = []) := by
 refine Spec.of (L := [(0, v0)]) Try.func24 rfl ⟨rfl, trivial⟩ rfl (fun e h => ?_)
 unfold ref30_Complete at hF
 refine Run.seq ?_
 refine Run.reg ?_
 refine op (OpS.boxF h rfl rfl rfl (V.at .z) (fun u1 w1 h1 => ?_))
 refine op (OpS.as rfl rfl rfl ?_)
 refine RunL.nil ?_
 refine Run.slim [(1, u1)] ⟨rfl, trivial⟩ ?_
 refine Run.seq ?_
 refine Run.reg ?_
 refine op (OpS.loadB h1 .z PA.z Get.id ty28 rfl rfl rfl (fun u2 h2 => ?_))
 obtain ⟨y1, e1, hF⟩ := bindP_use hF
 refine op (OpS.callP h2 Try.func23 rfl rfl rfl rfl (vs := [u2]) rfl (ref30_Valid_ok e1) (.cons (f := false) (V.at .z) .nil) ?_)
 rintro _ w2 _ _ _ ⟨rfl, rfl, rfl, rfl⟩ h3
 have h4 := h3 rfl rfl
 simp only [List.cons_append, List.nil_append] at h4
 refine op (OpS.mv rfl rfl rfl ?_)
 refine RunL.caseb hF (fun e2 hF => ?_) (fun e2 hF => ?_)
 ·
  refine op (OpS.loadB h4 .z PA.z Get.id ty28 rfl rfl rfl (fun u3 h5 => ?_))
  obtain ⟨y2, e3, hF⟩ := bindP_use hF
  refine op (OpS.callP h5 Try.func26 rfl rfl rfl rfl (vs := [u3, .int .i64 1]) rfl (ref30_Wanted_ok e3) (.cons (f := false) (V.at .z) .nil) ?_)
  rintro u4 w3 _ _ _ ⟨_, rfl, rfl, rfl, rfl⟩ h6
  have h7 := h6 rfl rfl
  simp only [List.cons_append, List.nil_append] at h7
  refine op (OpS.lenO h7 .z Try.underlying37 rfl rfl rfl ?_)
  refine op (OpS.bin rfl rfl rfl rfl rfl ?_)
  refine op (OpS.pick rfl rfl rfl rfl ?_)
  refine op (OpS.as rfl rfl rfl ?_)
  obtain ⟨x1, e4, hF⟩ := letP_use hF
  refine RunL.nameb e4 ?_
  refine RunL.nil ?_
  refine Run.slim [(2, .bool x1)] ⟨rfl, trivial⟩ ?_
  refine Run.retP rfl (.tmp rfl .nil) ?_
  cases hF
  exact Post.mk' ⟨rfl, rfl, rfl, rfl⟩ (h7.picks .nil) .nil
 ·
  refine op (OpS.pass rfl rfl rfl ?_)
  refine op (OpS.pass rfl rfl rfl ?_)
  refine op (OpS.pass rfl rfl rfl ?_)
  refine op (OpS.pass rfl rfl rfl ?_)
  refine op (OpS.pick rfl rfl rfl rfl ?_)
  refine op (OpS.as rfl rfl rfl ?_)
  refine RunL.nil ?_
  refine Run.slim [(2, .bool false)] ⟨rfl, trivial⟩ ?_
  refine Run.retP rfl (.tmp rfl .nil) ?_
  cases hF
  exact Post.mk' ⟨rfl, rfl, rfl, rfl⟩ (h4.picks .nil) .nil
theorem ref30_Bytes_ok {fuel : Nat} {a0 : Download_} {y : (List Int) × Int} (hF : ref30_Bytes fuel a0 = some y) {w : World} {v0 : Value} :
  Spec Try.prog 21 [v0].toArray w [(false, .val Download_.rep v0 a0)] [] (fun v Γr Ωr Ωo => ∃ u0 : Value, v = .tuple #[u0, .int .i64 y.2] ∧ Γr = [] ∧ Ωr = [(true, .slice 5 (Rep.int .u8) u0 y.1)] ∧ Ωo = []) := by
 refine Spec.of (L := [(0, v0)]) Try.func21 rfl ⟨rfl, trivial⟩ rfl (fun e h => ?_)
 unfold ref30_Bytes at hF
 refine Run.seq ?_
 refine Run.reg ?_
 refine op (OpS.boxF h rfl rfl rfl (V.at .z) (fun u1 w1 h1 => ?_))
 refine op (OpS.as rfl rfl rfl ?_)
 refine op (OpS.as rfl rfl rfl ?_)
 refine RunL.nil ?_
 refine Run.slim [(1, u1)] ⟨rfl, trivial⟩ ?_
 refine Run.seq ?_
 refine Run.block ?_
 refine Run.seq ?_
 refine Run.reg ?_
 refine op (OpS.loadB h1 .z PA.z Get.id ty28 rfl rfl rfl (fun u2 h2 => ?_))
 obtain ⟨y1, e1, hF⟩ := bindP_use hF
 refine op (OpS.callP h2 Try.func23 rfl rfl rfl rfl (vs := [u2]) rfl (ref30_Valid_ok e1) (.cons (f := false) (V.at .z) .nil) ?_)
 rintro _ w2 _ _ _ ⟨rfl, rfl, rfl, rfl⟩ h3
 have h4 := h3 rfl rfl
 simp only [List.cons_append, List.nil_append] at h4
 refine op (OpS.not rfl rfl rfl ?_)
 refine op (OpS.as rfl rfl rfl ?_)
 obtain ⟨x1, e2, hF⟩ := letP_use hF
 refine RunL.nameb e2 ?_
 refine RunL.nil ?_
 refine Run.slim [(4, .bool x1), (1, u1)] ⟨rfl, rfl, trivial⟩ ?_
 refine Run.ite rfl hF (fun e3 hF => ?_) (fun e3 hF => ?_)
 ·
  refine Run.seq ?_
  refine Run.reg ?_
  refine op (OpS.as rfl rfl rfl ?_)
  refine op (OpS.as rfl rfl rfl ?_)
  refine RunL.nil ?_
  refine Run.slim [(3, .int .i64 1), (2, .slice none 0 0)] ⟨rfl, rfl, trivial⟩ ?_
  have h5 := St.nil 5 (Rep.int .u8) h4
  refine Run.retP rfl (.tmp rfl (.tmp rfl .nil)) ?_
  cases hF
  exact Post.mk' ⟨(.slice none 0 0), rfl, rfl, rfl, rfl⟩ (h5.picks (.cons .z .nil)) .nil
 ·
  refine Run.seq ?_
  refine Run.reg ?_
  refine op (OpS.loadB h4 .z PA.z Get.id ty28 rfl rfl rfl (fun u3 h6 => ?_))
  obtain ⟨y2, e4, hF⟩ := bindP_use hF
  refine op (OpS.callP h6 Try.func24 rfl rfl rfl rfl (vs := [u3]) rfl (ref30_Complete_ok e4) (.cons (f := false) (V.at .z) .nil) ?_)
  rintro _ w3 _ _ _ ⟨rfl, rfl, rfl, rfl⟩ h7
  have h8 := h7 rfl rfl
  simp only [List.cons_append, List.nil_append] at h8
  refine op (OpS.not rfl rfl rfl ?_)
  refine op (OpS.as rfl rfl rfl ?_)
  obtain ⟨x2, e5, hF⟩ := letP_use hF
  refine RunL.nameb e5 ?_
  refine RunL.nil ?_
  refine Run.slim [(8, .bool x2), (1, u1)] ⟨rfl, rfl, trivial⟩ ?_
  refine Run.ite rfl hF (fun e6 hF => ?_) (fun e6 hF => ?_)
  ·
   refine Run.seq ?_
   refine Run.reg ?_
   refine op (OpS.as rfl rfl rfl ?_)
   refine op (OpS.as rfl rfl rfl ?_)
   refine RunL.nil ?_
   refine Run.slim [(3, .int .i64 46), (2, .slice none 0 0)] ⟨rfl, rfl, trivial⟩ ?_
   have h9 := St.nil 5 (Rep.int .u8) h8
   refine Run.retP rfl (.tmp rfl (.tmp rfl .nil)) ?_
   cases hF
   exact Post.mk' ⟨(.slice none 0 0), rfl, rfl, rfl, rfl⟩ (h9.picks (.cons .z .nil)) .nil
  ·
   refine Run.skip ?_
   refine Run.endBlock ?_
   refine Run.seq ?_
   refine Run.reg ?_
   refine op (OpS.fbox (o3 := 3) h8 .z PA.z fa28_3 rfl rfl rfl rfl ?_)
   refine op (OpS.loadB h8 .z PA.a (Get.fld Download_.f3) ty22 rfl rfl rfl (fun u4 h10 => ?_))
   have h11 := St.nil 5 (Rep.int .u8) h10
   obtain ⟨x3, e7, hF⟩ := bindP_use hF
   refine op (OpS.app (f' := false) h11 .z Try.underlying22 ti5 rfl rfl rfl rfl rfl rfl rfl (V.at .z) (.inr Pure.int) e7 (fun u5 w4 h12 => ?_))
   refine op (OpS.as rfl rfl rfl ?_)
   refine op (OpS.as rfl rfl rfl ?_)
   refine RunL.nil ?_
   refine Run.slim [(3, .int .i64 0), (2, u5)] ⟨rfl, rfl, trivial⟩ ?_
   refine Run.retP rfl (.tmp rfl (.tmp rfl .nil)) ?_
   cases hF
   exact Post.mk' ⟨u5, rfl, rfl, rfl, rfl⟩ (h12.picks (.cons .z .nil)) .nil
theorem law30_ints_ok {fuel : Nat} {a0 : List Int} {a1 : List Int} {y : Bool} (hF : law30_ints fuel a0 a1 = some y) {w : World} {v0 v1 : Value} :
  Spec Try.prog 25 [v0, v1].toArray w [(false, .val (Rep.slice (Rep.int .i64)) v0 a0), (false, .val (Rep.slice (Rep.int .i64)) v1 a1)] [] (fun v Γr Ωr Ωo => v = .bool y ∧ Γr = [] ∧ Ωr = [] ∧ Ωo = []) := by
 refine Spec.of (L := [(0, v0), (1, v1)]) Try.func25 rfl ⟨rfl, rfl, trivial⟩ rfl (fun e h => ?_)
 unfold law30_ints at hF
 refine Run.seq ?_
 refine Run.reg ?_
 refine op (OpS.as rfl rfl rfl ?_)
 refine RunL.nil ?_
 refine Run.slim [(0, v0), (1, v1)] ⟨rfl, rfl, trivial⟩ ?_
 refine Run.seq ?_
 refine Run.seq ?_
 refine Run.reg ?_
 refine op (OpS.mv rfl rfl rfl ?_)
 refine op (OpS.len h Try.underlying37 rfl rfl rfl (V.at .z) ?_)
 refine op (OpS.mv rfl rfl rfl ?_)
 refine op (OpS.len h Try.underlying37 rfl rfl rfl (V.at (.s .z)) ?_)
 refine op (OpS.bin rfl rfl rfl rfl rfl ?_)
 refine RunL.nil ?_
 refine Run.slim [(10, .bool ((a0.length : Int) != (a1.length : Int))), (0, v0), (1, v1)] ⟨rfl, rfl, rfl, trivial⟩ ?_
 refine Run.ite rfl hF (fun e1 hF => ?_) (fun e1 hF => ?_)
 ·
  refine Run.seq ?_
  refine Run.reg ?_
  refine op (OpS.as rfl rfl rfl ?_)
  refine RunL.nil ?_
  refine Run.slim [(4, .bool false)] ⟨rfl, trivial⟩ ?_
  refine Run.retP rfl (.tmp rfl .nil) ?_
  cases hF
  exact Post.mk' ⟨rfl, rfl, rfl, rfl⟩ (h.picks .nil) .nil
 ·
  refine Run.skip ?_
  refine Run.seq ?_
  refine Run.seq ?_
  refine Run.reg ?_
  refine op (OpS.as rfl rfl rfl ?_)
  refine RunL.nil ?_
  refine Run.slim [(5, .int .i64 0), (0, v0), (1, v1)] ⟨rfl, rfl, rfl, trivial⟩ ?_
  refine Run.block ?_
  refine Run.slim [(0, v0), (1, v1), (5, .int .i64 0)] ⟨rfl, rfl, rfl, trivial⟩ ?_
  refine Run.loopP (σ := Int) (fun s_ L_ w_ => L_ = [(0, v0), (1, v1), (5, .int .i64 s_)] ∧ St e w_ [(false, .val (Rep.slice (Rep.int .i64)) v0 a0), (false, .val (Rep.slice (Rep.int .i64)) v1 a1)] []) hF ⟨rfl, (h.facts (.atm .z (.atm (.s .z) .nil))).picks .nil⟩ (fun k1 hk1 s1 _ w1 hI hF => ?_)
  obtain ⟨rfl, h1⟩ := hI
  refine Run.seq ?_
  refine Run.seq ?_
  refine Run.reg ?_
  refine op (OpS.mv rfl rfl rfl ?_)
  refine op (OpS.mv rfl rfl rfl ?_)
  refine op (OpS.len h1 Try.underlying37 rfl rfl rfl (V.at .z) ?_)
  refine op (OpS.bin rfl rfl rfl rfl rfl ?_)
  refine RunL.nil ?_
  refine Run.slim [(14, .bool (decide (s1 < (a0.length : Int)))), (0, v0), (1, v1), (5, .int .i64 s1)] ⟨rfl, rfl, rfl, rfl, trivial⟩ ?_
  refine Run.ite rfl hF (fun e2 hF => ?_) (fun e2 hF => ?_)
  ·
   refine Run.skip ?_
   refine Run.seq ?_
   refine Run.block ?_
   refine Run.seq ?_
   obtain ⟨x1, e3, hF⟩ := bindP_use hF
   obtain ⟨x2, e4, hF⟩ := bindP_use hF
   refine Run.drawV (Ωs := []) [⟨some 17, some (v0), fun _ => [], fun ds_ u_ => [], [], [], none⟩, ⟨some 18, some (.int .i64 s1), fun _ => [], fun ds_ u_ => [], [], [], none⟩, ⟨some 19, none, fun u_ => [(false, .ptr (Rep.int .i64) u_ x1)], fun ds_ u_ => [], [], [], none⟩, ⟨some 20, some (.int .i64 x1), fun _ => [], fun ds_ u_ => [], [], [], none⟩, ⟨some 21, some (v1), fun _ => [], fun ds_ u_ => [], [], [], none⟩, ⟨some 22, some (.int .i64 s1), fun _ => [], fun ds_ u_ => [], [], [], none⟩, ⟨some 23, none, fun u_ => [(false, .ptr (Rep.int .i64) u_ x2)], fun ds_ u_ => [], [], [], none⟩, ⟨some 24, some (.int .i64 x2), fun _ => [], fun ds_ u_ => [], [], [], none⟩, ⟨some 25, some (.bool (x1 != x2)), fun _ => [], fun ds_ u_ => [], [], [], none⟩] [[], [], [0, 1], [2], [], [], [4, 5], [6], [3, 7]] [] [0, 1, 2, 3, 4, 5, 6, 7, 8] Try_mixed rfl rfl rfl h1 (.cons ?_ (.cons ?_ (.cons ?_ (.cons ?_ (.cons ?_ (.cons ?_ (.cons ?_ (.cons ?_ (.cons ?_ .nil))))))))) (fun q1 w hq1 h => ?_)
   ·intro q1 w Γx Ωx h
    refine OpS.mv rfl rfl rfl ?_
    exact ⟨undef, rfl, trivial, h⟩
   ·intro q1 w Γx Ωx h
    refine OpS.mv rfl rfl rfl ?_
    exact ⟨undef, rfl, trivial, h⟩
   ·intro q1 w Γx Ωx h
    refine OpS.iptr h Try.underlying37 ty3 rfl rfl rfl rfl (V.at .z) e3 (fun u h4 => ?_)
    exact ⟨u, rfl, trivial, h4⟩
   ·intro q1 w Γx Ωx h
    refine OpS.loadi h ty3 rfl rfl rfl .z ?_
    exact ⟨undef, rfl, trivial, h⟩
   ·intro q1 w Γx Ωx h
    refine OpS.mv rfl rfl rfl ?_
    exact ⟨undef, rfl, trivial, h⟩
   ·intro q1 w Γx Ωx h
    refine OpS.mv rfl rfl rfl ?_
    exact ⟨undef, rfl, trivial, h⟩
   ·intro q1 w Γx Ωx h
    refine OpS.iptr h Try.underlying37 ty3 rfl rfl rfl rfl (V.at (.s .z)) e4 (fun u h5 => ?_)
    exact ⟨u, rfl, trivial, h5⟩
   ·intro q1 w Γx Ωx h
    refine OpS.loadi h ty3 rfl rfl rfl .z ?_
    exact ⟨undef, rfl, trivial, h⟩
   ·intro q1 w Γx Ωx h
    refine OpS.bin rfl rfl rfl rfl rfl ?_
    exact ⟨undef, rfl, trivial, h⟩
   have h6 : St e w [(false, .ptr (Rep.int .i64) (q1 2) x1), (false, .ptr (Rep.int .i64) (q1 6) x2), (false, .val (Rep.slice (Rep.int .i64)) v0 a0), (false, .val (Rep.slice (Rep.int .i64)) v1 a1)] [] := h
   refine RunL.nil ?_
   refine Run.slim [(25, .bool (x1 != x2)), (0, v0), (1, v1), (5, .int .i64 s1)] ⟨rfl, rfl, rfl, rfl, trivial⟩ ?_
   refine Run.ite rfl hF (fun e5 hF => ?_) (fun e5 hF => ?_)
   ·
    refine Run.seq ?_
    refine Run.reg ?_
    refine op (OpS.as rfl rfl rfl ?_)
    refine RunL.nil ?_
    refine Run.slim [(4, .bool false)] ⟨rfl, trivial⟩ ?_
    refine Run.retP rfl (.tmp rfl .nil) ?_
    cases hF
    exact Post.mk' ⟨rfl, rfl, rfl, rfl⟩ (h6.picks .nil) .nil
   ·
    refine Run.skip ?_
    refine Run.endBlock ?_
    refine Run.reg ?_
    refine op (OpS.mv rfl rfl rfl ?_)
    refine op (OpS.bin rfl rfl rfl rfl rfl ?_)
    refine op (OpS.as rfl rfl rfl ?_)
    obtain ⟨x3, e6, hF⟩ := letP_use hF
    refine RunL.name e6 ?_
    refine RunL.nil ?_
    refine Run.slim [(5, .int .i64 x3), (0, v0), (1, v1)] ⟨rfl, rfl, rfl, trivial⟩ ?_
    refine Run.slim [(0, v0), (1, v1), (5, .int .i64 x3)] ⟨rfl, rfl, rfl, trivial⟩ ?_
    exact hk1 (x3) _ _ ⟨rfl, (h6.facts (.atm (.s (.s .z)) (.atm (.s (.s (.s .z))) .nil))).picks .nil⟩ hF
  ·
   refine Run.exit rfl ?_
   refine Run.seq ?_
   refine Run.reg ?_
   refine op (OpS.as rfl rfl rfl ?_)
   refine RunL.nil ?_
   refine Run.slim [(4, .bool true)] ⟨rfl, trivial⟩ ?_
   refine Run.retP rfl (.tmp rfl .nil) ?_
   cases hF
   exact Post.mk' ⟨rfl, rfl, rfl, rfl⟩ (h1.picks .nil) .nil
end Lift
