/- Each Go function computes its plain function. Written by lift.py. -/
import Derived.Test.YtlfbpnoempdiiaaResponderAnswersWalksC
set_option linter.unusedVariables false
set_option linter.unusedSimpArgs false
namespace Lift
open Go Go.Proofs
open RunL (op)
set_option maxHeartbeats 8000000 in
theorem ref25_Accept_ok {fuel : Nat} {a0 : Responder_} {a1 : List Int} {a2 : Int} {y : Responder_ × (List Int) × Int} (hF : ref25_Accept fuel a0 a1 a2 = some y) {w : World} {v0 v1 : Value} :
  Spec Try.prog 31 [v0, v1, .int .i64 a2].toArray w [(false, .val Responder_.rep v0 a0), (false, .val (Rep.slice (Rep.int .u8)) v1 a1)] [] (fun v Γr Ωr Ωo => ∃ u0 u1 : Value, v = .tuple #[u0, u1, .int .i64 y.2.2] ∧ Γr = [(false, .val Responder_.rep u0 y.1), (true, .val (Rep.slice (Rep.int .u8)) u1 y.2.1)] ∧ Ωr = [] ∧ Ωo = []) := by
 refine Spec.of (L := [(0, v0), (1, v1), (2, .int .i64 a2)]) Try.func31 rfl ⟨rfl, rfl, rfl, trivial⟩ rfl (fun e h => ?_)
 unfold ref25_Accept at hF
 refine Run.seq ?_
 refine Run.reg ?_
 refine op (OpS.boxF h rfl rfl rfl (V.at .z) (fun u1 w1 h1 => ?_))
 refine op (OpS.alloc h1 ti29 Responder_.zr rfl rfl (fun u2 w2 h2 => ?_))
 refine op (OpS.as rfl rfl rfl ?_)
 refine op (OpS.as rfl rfl rfl ?_)
 refine RunL.nil ?_
 refine Run.slim [(6, u2), (3, u1), (1, v1), (2, .int .i64 a2)] ⟨rfl, rfl, rfl, rfl, trivial⟩ ?_
 refine Run.seq ?_
 refine Run.block ?_
 refine Run.seq ?_
 refine Run.reg ?_
 refine op (OpS.loadB h2 (.s .z) PA.z Get.id ty29 rfl rfl rfl (fun u3 h3 => ?_))
 obtain ⟨y1, e1, hF⟩ := bindP_use hF
 refine op (OpS.callP h3 Try.func28 rfl rfl rfl rfl (vs := [u3]) rfl (ref25_Valid_ok e1) (.cons (f := false) (V.at .z) .nil) ?_)
 rintro _ w3 _ _ _ ⟨rfl, rfl, rfl, rfl⟩ h4
 have h5 := h4 rfl rfl
 simp only [List.cons_append, List.nil_append] at h5
 refine op (OpS.not rfl rfl rfl ?_)
 refine op (OpS.as rfl rfl rfl ?_)
 obtain ⟨x1, e2, hF⟩ := letP_use hF
 refine RunL.nameb e2 ?_
 refine RunL.nil ?_
 refine Run.slim [(18, .bool x1), (6, u2), (3, u1), (1, v1), (2, .int .i64 a2)] ⟨rfl, rfl, rfl, rfl, rfl, trivial⟩ ?_
 refine Run.ite rfl hF (fun e3 hF => ?_) (fun e3 hF => ?_)
 ·
  refine Run.seq ?_
  refine Run.reg ?_
  refine op (OpS.build (f := true) (x' := Responder_.z) h5 pl29 ti29 Responder_.zr rfl rfl rfl .nil (fun u4 h6 => ?_))
  refine op (OpS.storeB (f' := true) h6 .z PA.z Put.id ty29 rfl rfl rfl (V.at .z) (.inl rfl) (fun w4 h7 => ?_))
  refine op (OpS.as rfl rfl rfl ?_)
  refine op (OpS.as rfl rfl rfl ?_)
  refine RunL.nil ?_
  refine Run.slim [(8, .int .i64 1), (7, .slice none 0 0), (6, u2)] ⟨rfl, rfl, rfl, trivial⟩ ?_
  obtain ⟨u5, hu1, h8⟩ := res_box h7 .z ty29
  refine Run.retP rfl (.cell rfl hu1 (.tmp rfl (.tmp rfl .nil))) ?_
  cases hF
  exact Post.mk' ⟨u5, .slice none 0 0, rfl, rfl, rfl, rfl⟩ (h8.picks .nil) (.val (V.weak (V.at .z)) (.val V.nil .nil))
 ·
  refine Run.seq ?_
  refine Run.reg ?_
  refine op (OpS.mv rfl rfl rfl ?_)
  obtain ⟨y2, e4, hF⟩ := bindP_use hF
  refine op (OpS.callP h5 Try.func58 rfl rfl rfl rfl (vs := [.int .i64 a2]) rfl (ref24_Time_ok e4) .nil ?_)
  rintro _ w5 _ _ _ ⟨rfl, rfl, rfl, rfl⟩ h9
  have h10 := h9 rfl rfl
  simp only [List.cons_append, List.nil_append] at h10
  refine op (OpS.not rfl rfl rfl ?_)
  refine op (OpS.as rfl rfl rfl ?_)
  obtain ⟨x2, e5, hF⟩ := letP_use hF
  refine RunL.nameb e5 ?_
  refine RunL.nil ?_
  refine Run.slim [(23, .bool x2), (6, u2), (3, u1), (1, v1), (2, .int .i64 a2)] ⟨rfl, rfl, rfl, rfl, rfl, trivial⟩ ?_
  refine Run.ite rfl hF (fun e6 hF => ?_) (fun e6 hF => ?_)
  ·
   refine Run.seq ?_
   refine Run.reg ?_
   refine op (OpS.build (f := true) (x' := Responder_.z) h10 pl29 ti29 Responder_.zr rfl rfl rfl .nil (fun u6 h11 => ?_))
   refine op (OpS.storeB (f' := true) h11 .z PA.z Put.id ty29 rfl rfl rfl (V.at .z) (.inl rfl) (fun w6 h12 => ?_))
   refine op (OpS.as rfl rfl rfl ?_)
   refine op (OpS.as rfl rfl rfl ?_)
   refine RunL.nil ?_
   refine Run.slim [(8, .int .i64 2), (7, .slice none 0 0), (6, u2)] ⟨rfl, rfl, rfl, trivial⟩ ?_
   obtain ⟨u7, hu2, h13⟩ := res_box h12 .z ty29
   refine Run.retP rfl (.cell rfl hu2 (.tmp rfl (.tmp rfl .nil))) ?_
   cases hF
   exact Post.mk' ⟨u7, .slice none 0 0, rfl, rfl, rfl, rfl⟩ (h13.picks .nil) (.val (V.weak (V.at .z)) (.val V.nil .nil))
  ·
   refine Run.skip ?_
   refine Run.endBlock ?_
   refine Run.seq ?_
   refine Run.reg ?_
   refine op (OpS.mv rfl rfl rfl ?_)
   obtain ⟨y3, e7, hF⟩ := bindP_use hF
   refine op (OpS.callP h10 Try.func59 rfl rfl rfl rfl (vs := [v1]) rfl (ref23_ParseRequest_ok e7) (.cons (f := false) (V.at (.s (.s .z))) .nil) ?_)
   rintro _ w7 _ _ _ ⟨u8, rfl, rfl, rfl, rfl⟩ h14
   have h15 := h14 rfl rfl
   simp only [List.cons_append, List.nil_append] at h15
   refine op (OpS.mv rfl rfl rfl ?_)
   refine op (OpS.ext rfl rfl rfl rfl ?_)
   refine op (OpS.ext rfl rfl rfl rfl ?_)
   refine op (OpS.alloc h15 ti37 Message_.zr rfl rfl (fun u9 w8 h16 => ?_))
   refine op (OpS.storeB (f' := true) h16 .z PA.z Put.id ty37 rfl rfl rfl (V.at .z) (.inl rfl) (fun w9 h17 => ?_))
   refine op (OpS.as rfl rfl rfl ?_)
   refine RunL.nil ?_
   refine Run.slim [(10, .int .i64 y3.2), (9, u9), (6, u2), (3, u1), (2, .int .i64 a2)] ⟨rfl, rfl, rfl, rfl, rfl, trivial⟩ ?_
   refine Run.seq ?_
   refine Run.seq ?_
   refine Run.reg ?_
   refine op (OpS.mv rfl rfl rfl ?_)
   refine op (OpS.bin rfl rfl rfl rfl rfl ?_)
   refine RunL.nil ?_
   refine Run.slim [(34, .bool (y3.2 != 0)), (10, .int .i64 y3.2), (9, u9), (6, u2), (3, u1), (2, .int .i64 a2)] ⟨rfl, rfl, rfl, rfl, rfl, rfl, trivial⟩ ?_
   refine Run.ite rfl hF (fun e8 hF => ?_) (fun e8 hF => ?_)
   ·
    refine Run.seq ?_
    refine Run.reg ?_
    refine op (OpS.build (f := true) (x' := Responder_.z) h17 pl29 ti29 Responder_.zr rfl rfl rfl .nil (fun u10 h18 => ?_))
    refine op (OpS.mv rfl rfl rfl ?_)
    refine op (OpS.storeB (f' := true) h18 (.s .z) PA.z Put.id ty29 rfl rfl rfl (V.at .z) (.inl rfl) (fun w10 h19 => ?_))
    refine op (OpS.as rfl rfl rfl ?_)
    refine op (OpS.as rfl rfl rfl ?_)
    refine RunL.nil ?_
    refine Run.slim [(8, .int .i64 y3.2), (7, .slice none 0 0), (6, u2)] ⟨rfl, rfl, rfl, trivial⟩ ?_
    obtain ⟨u11, hu3, h20⟩ := res_box h19 .z ty29
    refine Run.retP rfl (.cell rfl hu3 (.tmp rfl (.tmp rfl .nil))) ?_
    cases hF
    exact Post.mk' ⟨u11, .slice none 0 0, rfl, rfl, rfl, rfl⟩ (h20.picks .nil) (.val (V.weak (V.at .z)) (.val V.nil .nil))
   ·
    refine Run.skip ?_
    refine Run.seq ?_
    refine Run.seq ?_
    refine Run.reg ?_
    refine op (OpS.fbox (o3 := 0) h17 .z PA.z fa37_0 rfl rfl rfl rfl ?_)
    refine op (OpS.loadBi h17 .z PA.a (Get.fld Message_.f0) ty5 rfl rfl rfl ?_)
    refine op (OpS.fbox (o3 := 0) h17 (.s (.s .z)) PA.z fa29_0 rfl rfl rfl rfl ?_)
    refine op (OpS.loadBi h17 (.s (.s .z)) PA.a (Get.fld Responder_.f0) ty5 rfl rfl rfl ?_)
    refine op (OpS.bin rfl rfl rfl rfl rfl ?_)
    refine RunL.nil ?_
    refine Run.slim [(41, .bool (y3.1.To != a0.Own)), (9, u9), (6, u2), (3, u1), (2, .int .i64 a2)] ⟨rfl, rfl, rfl, rfl, rfl, trivial⟩ ?_
    refine Run.ite rfl hF (fun e9 hF => ?_) (fun e9 hF => ?_)
    ·
     refine Run.seq ?_
     refine Run.reg ?_
     refine op (OpS.build (f := true) (x' := Responder_.z) h17 pl29 ti29 Responder_.zr rfl rfl rfl .nil (fun u12 h21 => ?_))
     refine op (OpS.storeB (f' := true) h21 (.s .z) PA.z Put.id ty29 rfl rfl rfl (V.at .z) (.inl rfl) (fun w11 h22 => ?_))
     refine op (OpS.as rfl rfl rfl ?_)
     refine op (OpS.as rfl rfl rfl ?_)
     refine RunL.nil ?_
     refine Run.slim [(8, .int .i64 13), (7, .slice none 0 0), (6, u2)] ⟨rfl, rfl, rfl, trivial⟩ ?_
     obtain ⟨u13, hu4, h23⟩ := res_box h22 .z ty29
     refine Run.retP rfl (.cell rfl hu4 (.tmp rfl (.tmp rfl .nil))) ?_
     cases hF
     exact Post.mk' ⟨u13, .slice none 0 0, rfl, rfl, rfl, rfl⟩ (h23.picks .nil) (.val (V.weak (V.at .z)) (.val V.nil .nil))
    ·
     refine Run.skip ?_
     refine Run.seq ?_
     refine Run.reg ?_
     refine op (OpS.loadB h17 (.s (.s .z)) PA.z Get.id ty29 rfl rfl rfl (fun u14 h24 => ?_))
     refine op (OpS.mv rfl rfl rfl ?_)
     obtain ⟨y4, e10, hF⟩ := bindP_use hF
     have h25 := h24.front .nil
     refine op (OpS.callO h25 Try.func52 rfl rfl rfl rfl (vs := [u14, .int .i64 a2]) rfl (ref25_Fresh_ok e10) rfl (.cons (f := false) (V.at .z) .nil) ?_)
     rintro u15 w12 _ _ _ ⟨_, u16, u17, rfl, rfl, rfl, rfl⟩ h26
     have h27 := h26
     simp only [List.cons_append, List.nil_append] at h27
     have h28 := St.nil 37 Message_.rep h27
     refine op (OpS.alloc (r := (Rep.iso (fun s : Responder_ => (s.Own, s.Queue, s.Memory, ())) (Rep.prod (Rep.int .u8) (Rep.prod (Rep.raw (.slice none 0 0)) (Rep.prod (Rep.slice Memory_.rep) Rep.unit))))) h28 ti29 (Zr.iso (y := Responder_.z) _ (Zr.of (Zr.prod (Zr.int .u8 0) (Zr.prod (Zr.raw rfl _) (Zr.prod (Zr.slice Memory_.rep) Zr.unit))) (by rfl))) rfl rfl (fun u18 w13 h29 => ?_))
     refine op (OpS.storeC (f' := true) (fr := (Rep.iso (fun s : Responder_ => (s.Own, s.Queue, s.Memory, ())) (Rep.prod (Rep.int .u8) (Rep.prod (Rep.raw u16) (Rep.prod (Rep.raw u17) Rep.unit))))) (r' := (Rep.iso (fun s : Responder_ => (s.Own, s.Queue, s.Memory, ())) (Rep.prod (Rep.int .u8) (Rep.prod (Rep.raw u16) (Rep.prod (Rep.raw u17) Rep.unit))))) (x' := y4) h29 .z PA.z (Chg.id (by rfl)) (Ty.like ty29 (by rfl) (by rfl)) rfl rfl rfl (V.pure (V.at .z) (Pure.iso (Pure.prod Pure.int (Pure.prod Pure.raw (Pure.prod Pure.raw Pure.unit))))) (.inl rfl) (fun w14 h30 => ?_))
     refine RunL.nil ?_
     refine Run.slim [(11, u18), (9, u9), (6, u2)] ⟨rfl, rfl, rfl, trivial⟩ ?_
     refine Run.seq ?_
     refine Run.seq ?_
     refine Run.reg ?_
     refine op (OpS.as rfl rfl rfl ?_)
     refine RunL.nil ?_
     refine Run.block ?_
     have h31 := (h30.pick (.s (.s (.s .z)))).freeze
     have h32 := h31.pick .z
     have h33 := h32.weak
     have h34 := St.boxJ (r' := (Rep.iso (fun s : Responder_ => (s.Own, s.Queue, s.Memory, ())) (Rep.prod (Rep.int .u8) (Rep.prod (Rep.raw u16) (Rep.prod (Rep.slice Memory_.rep) Rep.unit))))) (x' := { y4 with Memory := y4.Memory }) h33 (fun _ _ hs_ => (Jn.iso _ (Jn.prod Jn.refl (Jn.prod Jn.same (Jn.prod (Jn.raw ((V.at .z) _ _ hs_) rfl) Jn.refl)))))
     refine Run.slim [(6, u2), (9, u9), (11, u18), (12, .int .i64 0)] ⟨rfl, rfl, rfl, rfl, trivial⟩ ?_
     refine Run.loopP (σ := Int) (fun s_ L_ w_ => L_ = [(6, u2), (9, u9), (11, u18), (12, .int .i64 s_)] ∧ St e w_ [] [(true, .box 29 Responder_.rep u2 Responder_.z), (true, .box 37 Message_.rep u9 y3.1), (false, .box 29 (Rep.iso (fun s : Responder_ => (s.Own, s.Queue, s.Memory, ())) (Rep.prod (Rep.int .u8) (Rep.prod (Rep.raw u16) (Rep.prod (Rep.slice Memory_.rep) Rep.unit)))) u18 ({ y4 with Memory := y4.Memory })), (false, .slice 37 Message_.rep u16 y4.Queue)]) hF ⟨rfl, (h34.facts .nil).picks (.cons (.s (.s (.s (.s .z)))) (.cons (.s (.s (.s .z))) (.cons .z (.cons (.s .z) .nil))))⟩ (fun k1 hk1 s1 _ w15 hI hF => ?_)
     obtain ⟨rfl, h35⟩ := hI
     refine Run.seq ?_
     refine Run.seq ?_
     refine Run.reg ?_
     refine op (OpS.mv rfl rfl rfl ?_)
     refine op (OpS.fbox (o3 := 2) h35 (.s (.s .z)) PA.z fa29_2 rfl rfl rfl rfl ?_)
     refine op (OpS.loadB (fr := (Rep.slice Memory_.rep)) h35 (.s (.s .z)) PA.a (GetS.ok (GetS.iso _ (GetS.there (GetS.there (GetS.here GetS.id))))) (Ty.like ty27 (by rfl) (by rfl)) rfl rfl rfl (fun u19 h36 => ?_))
     refine op (OpS.len h36 Try.underlying27 rfl rfl rfl (V.at .z) ?_)
     refine op (OpS.bin rfl rfl rfl rfl rfl ?_)
     refine RunL.nil ?_
     refine Run.slim [(50, .bool (decide (s1 < ((({ y4 with Memory := y4.Memory }).Memory).length : Int)))), (6, u2), (9, u9), (11, u18), (12, .int .i64 s1)] ⟨rfl, rfl, rfl, rfl, rfl, trivial⟩ ?_
     refine Run.ite rfl hF (fun e11 hF => ?_) (fun e11 hF => ?_)
     ·
      refine Run.skip ?_
      refine Run.seq ?_
      refine Run.block ?_
      refine Run.seq ?_
      have h37 := h36.picks (.cons (.s .z) (.cons (.s .z) (.cons .z (.cons .z .nil))))
      obtain ⟨x3, e12, hF⟩ := bindP_use hF
      obtain ⟨y5, e13, hF⟩ := bindP_use hF
      refine Run.drawV (Ωs := [(true, .box 29 Responder_.rep u2 Responder_.z), (false, .slice 37 Message_.rep u16 y4.Queue)]) [⟨some 53, some ((padd u18 2)), fun _ => [], fun ds_ u_ => [], [], [(1, [])], none⟩, ⟨some 54, none, fun u_ => [(false, .val (Rep.slice Memory_.rep) u_ (({ y4 with Memory := y4.Memory }).Memory))], fun ds_ u_ => [], [], [(1, [])], none⟩, ⟨some 55, some (.int .i64 s1), fun _ => [], fun ds_ u_ => [], [], [], none⟩, ⟨some 56, none, fun u_ => [(false, .ptr Memory_.rep u_ x3)], fun ds_ u_ => [], [], [], none⟩, ⟨some 57, none, fun u_ => [(false, .ptr Message_.rep u_ x3.Request)], fun ds_ u_ => [], [], [], none⟩, ⟨some 58, none, fun u_ => [(false, .val Message_.rep u_ x3.Request)], fun ds_ u_ => [], [], [], none⟩, ⟨some 59, none, fun u_ => [(true, .val Message_.rep u_ y3.1)], fun ds_ u_ => [], [], [(0, [])], none⟩, ⟨some 60, some (.bool y5), fun _ => [], fun ds_ u_ => [], [], [], none⟩] [[], [0], [], [1, 2], [3], [4], [], [5, 6]] [[(true, .box 37 Message_.rep u9 y3.1)], [(false, .box 29 (Rep.iso (fun s : Responder_ => (s.Own, s.Queue, s.Memory, ())) (Rep.prod (Rep.int .u8) (Rep.prod (Rep.raw u16) (Rep.prod (Rep.slice Memory_.rep) Rep.unit)))) u18 ({ y4 with Memory := y4.Memory }))]] [0, 1, 2, 3, 4, 5, 6, 7, 8, 9] Try_mixed rfl rfl rfl h37 (.cons ?_ (.cons ?_ (.cons ?_ (.cons ?_ (.cons ?_ (.cons ?_ (.cons ?_ (.cons ?_ .nil)))))))) (fun q1 w hq1 h => ?_)
      ·intro q1 w Γx Ωx h
       have h : St e w ([(false, .val (Rep.slice Memory_.rep) u19 (({ y4 with Memory := y4.Memory }).Memory))] ++ Γx) ([(false, .box 29 (Rep.iso (fun s : Responder_ => (s.Own, s.Queue, s.Memory, ())) (Rep.prod (Rep.int .u8) (Rep.prod (Rep.raw u16) (Rep.prod (Rep.slice Memory_.rep) Rep.unit)))) u18 ({ y4 with Memory := y4.Memory })), (true, .box 29 Responder_.rep u2 Responder_.z), (false, .slice 37 Message_.rep u16 y4.Queue)] ++ Ωx) := h
       refine OpS.fbox (o3 := 2) h .z PA.z fa29_2 rfl rfl rfl rfl ?_
       exact ⟨undef, rfl, trivial, h⟩
      ·intro q1 w Γx Ωx h
       have h : St e w ([(false, .val (Rep.slice Memory_.rep) u19 (({ y4 with Memory := y4.Memory }).Memory))] ++ Γx) ([(false, .box 29 (Rep.iso (fun s : Responder_ => (s.Own, s.Queue, s.Memory, ())) (Rep.prod (Rep.int .u8) (Rep.prod (Rep.raw u16) (Rep.prod (Rep.slice Memory_.rep) Rep.unit)))) u18 ({ y4 with Memory := y4.Memory })), (true, .box 29 Responder_.rep u2 Responder_.z), (false, .slice 37 Message_.rep u16 y4.Queue)] ++ Ωx) := h
       refine OpS.loadB (fr := (Rep.slice Memory_.rep)) h .z PA.a (GetS.ok (GetS.iso _ (GetS.there (GetS.there (GetS.here GetS.id))))) (Ty.like ty27 (by rfl) (by rfl)) rfl rfl rfl (fun u h45 => ?_)
       exact ⟨u, rfl, trivial, h45⟩
      ·intro q1 w Γx Ωx h
       refine OpS.mv rfl rfl rfl ?_
       exact ⟨undef, rfl, trivial, h⟩
      ·intro q1 w Γx Ωx h
       refine OpS.iptr h Try.underlying27 ty72 rfl rfl rfl rfl (V.at .z) e12 (fun u h46 => ?_)
       exact ⟨u, rfl, trivial, h46⟩
      ·intro q1 w Γx Ωx h
       refine OpS.fptr h fa72_0 Memory_.f0 rfl rfl rfl .z (fun u h47 => ?_)
       exact ⟨u, rfl, trivial, h47⟩
      ·intro q1 w Γx Ωx h
       refine OpS.load h ty37 rfl rfl rfl .z (fun u h48 => ?_)
       exact ⟨u, rfl, trivial, h48⟩
      ·intro q1 w Γx Ωx h
       have h : St e w ([(false, .val (Rep.slice Memory_.rep) u19 (({ y4 with Memory := y4.Memory }).Memory))] ++ Γx) ([(true, .box 37 Message_.rep u9 y3.1), (true, .box 29 Responder_.rep u2 Responder_.z), (false, .slice 37 Message_.rep u16 y4.Queue)] ++ Ωx) := h
       refine OpS.loadB h .z PA.z Get.id ty37 rfl rfl rfl (fun u h49 => ?_)
       exact ⟨u, rfl, trivial, h49⟩
      ·intro q1 w Γx Ωx h
       refine OpS.callP h Try.func30 rfl rfl rfl rfl (vs := [(q1 5), (q1 6)]) rfl (ref25_Same_ok e13) (.cons (f := false) (V.at .z) (.cons (f := true) (V.at (.s .z)) .nil)) ?_
       rintro _ w17 _ _ _ ⟨rfl, rfl, rfl, rfl⟩ h50
       have h51 := h50 rfl rfl
       simp only [List.cons_append, List.nil_append] at h51
       exact ⟨undef, rfl, trivial, h51⟩
      have h52 : St e w [(false, .val (Rep.slice Memory_.rep) (q1 1) (({ y4 with Memory := y4.Memory }).Memory)), (false, .ptr Memory_.rep (q1 3) x3), (false, .ptr Message_.rep (q1 4) x3.Request), (false, .val Message_.rep (q1 5) x3.Request), (true, .val Message_.rep (q1 6) y3.1), (false, .val (Rep.slice Memory_.rep) u19 (({ y4 with Memory := y4.Memory }).Memory))] [(true, .box 37 Message_.rep u9 y3.1), (false, .box 29 (Rep.iso (fun s : Responder_ => (s.Own, s.Queue, s.Memory, ())) (Rep.prod (Rep.int .u8) (Rep.prod (Rep.raw u16) (Rep.prod (Rep.slice Memory_.rep) Rep.unit)))) u18 ({ y4 with Memory := y4.Memory })), (true, .box 29 Responder_.rep u2 Responder_.z), (false, .slice 37 Message_.rep u16 y4.Queue)] := h
      refine RunL.nil ?_
      refine Run.slim [(60, .bool y5), (6, u2), (9, u9), (11, u18), (12, .int .i64 s1)] ⟨rfl, rfl, rfl, rfl, rfl, trivial⟩ ?_
      refine Run.ite rfl hF (fun e14 hF => ?_) (fun e14 hF => ?_)
      ·
       refine Run.seq ?_
       have h53 := (h52.pick (.s (.s (.s .z)))).freeze
       have h54 := h53.pick (.s .z)
       have h55 := St.boxJ (r' := Responder_.rep) (x' := { { y4 with Memory := y4.Memory } with Queue := y4.Queue }) h54 (fun _ _ hs_ => (Jn.iso _ (Jn.prod Jn.refl (Jn.prod (Jn.raw ((V.at .z) _ _ hs_) rfl) Jn.refl))))
       have h56 := h55.picks (.cons .z (.cons (.s .z) (.cons .z .nil)))
       obtain ⟨x4, e15, hF⟩ := bindP_use hF
       obtain ⟨x5, e16, hF⟩ := bindP_use hF
       obtain ⟨d1, e17, hF⟩ := letP_use hF
       refine Run.drawV (Ωs := [(true, .box 37 Message_.rep u9 y3.1)]) [⟨some 61, none, fun u_ => [(false, .val Responder_.rep u_ ({ { y4 with Memory := y4.Memory } with Queue := y4.Queue }))], fun ds_ u_ => [], [], [(0, [])], none⟩, ⟨some 62, some ((padd u18 2)), fun _ => [], fun ds_ u_ => [], [], [(0, [])], none⟩, ⟨some 63, none, fun u_ => [(false, .val (Rep.slice Memory_.rep) u_ (({ { y4 with Memory := y4.Memory } with Queue := y4.Queue }).Memory))], fun ds_ u_ => [], [], [(0, [])], none⟩, ⟨some 64, some (.int .i64 s1), fun _ => [], fun ds_ u_ => [], [], [], none⟩, ⟨some 65, none, fun u_ => [(false, .ptr Memory_.rep u_ x4)], fun ds_ u_ => [], [], [], none⟩, ⟨some 66, none, fun u_ => [(false, .ptr (Rep.slice (Rep.int .u8)) u_ x4.Reply)], fun ds_ u_ => [], [], [], none⟩, ⟨some 67, none, fun u_ => [(false, .val (Rep.slice (Rep.int .u8)) u_ x4.Reply)], fun ds_ u_ => [], [], [], none⟩, ⟨some 68, none, fun u_ => [(true, .val (Rep.slice (Rep.int .u8)) u_ x5)], fun ds_ u_ => [], [], [], none⟩, ⟨none, some undef, fun _ => [], fun ds_ u_ => [(false, .box 29 Responder_.rep u2 d1)], [1], [], none⟩] [[], [], [1], [], [2, 3], [4], [5], [6], [0]] [[(false, .box 29 Responder_.rep u18 ({ { y4 with Memory := y4.Memory } with Queue := y4.Queue }))], [(true, .box 29 Responder_.rep u2 Responder_.z)]] [0, 2, 3, 4, 5, 6, 7, 8, 9, 10] Try_mixed rfl rfl rfl h56 (.cons ?_ (.cons ?_ (.cons ?_ (.cons ?_ (.cons ?_ (.cons ?_ (.cons ?_ (.cons ?_ (.cons ?_ .nil))))))))) (fun q2 w hq2 h => ?_)
       ·intro q2 w Γx Ωx h
        have h : St e w ([(false, .val (Rep.slice Message_.rep) u16 y4.Queue), (false, .val (Rep.slice Memory_.rep) (q1 1) (({ y4 with Memory := y4.Memory }).Memory)), (false, .ptr Memory_.rep (q1 3) x3), (false, .ptr Message_.rep (q1 4) x3.Request), (false, .val Message_.rep (q1 5) x3.Request), (true, .val Message_.rep (q1 6) y3.1), (false, .val (Rep.slice Memory_.rep) u19 (({ y4 with Memory := y4.Memory }).Memory))] ++ Γx) ([(false, .box 29 Responder_.rep u18 ({ { y4 with Memory := y4.Memory } with Queue := y4.Queue })), (true, .box 37 Message_.rep u9 y3.1)] ++ Ωx) := h
        refine OpS.loadB h .z PA.z Get.id ty29 rfl rfl rfl (fun u h66 => ?_)
        exact ⟨u, rfl, trivial, h66⟩
       ·intro q2 w Γx Ωx h
        have h : St e w ([(false, .val (Rep.slice Message_.rep) u16 y4.Queue), (false, .val (Rep.slice Memory_.rep) (q1 1) (({ y4 with Memory := y4.Memory }).Memory)), (false, .ptr Memory_.rep (q1 3) x3), (false, .ptr Message_.rep (q1 4) x3.Request), (false, .val Message_.rep (q1 5) x3.Request), (true, .val Message_.rep (q1 6) y3.1), (false, .val (Rep.slice Memory_.rep) u19 (({ y4 with Memory := y4.Memory }).Memory))] ++ Γx) ([(false, .box 29 Responder_.rep u18 ({ { y4 with Memory := y4.Memory } with Queue := y4.Queue })), (true, .box 37 Message_.rep u9 y3.1)] ++ Ωx) := h
        refine OpS.fbox (o3 := 2) h .z PA.z fa29_2 rfl rfl rfl rfl ?_
        exact ⟨undef, rfl, trivial, h⟩
       ·intro q2 w Γx Ωx h
        have h : St e w ([(false, .val (Rep.slice Message_.rep) u16 y4.Queue), (false, .val (Rep.slice Memory_.rep) (q1 1) (({ y4 with Memory := y4.Memory }).Memory)), (false, .ptr Memory_.rep (q1 3) x3), (false, .ptr Message_.rep (q1 4) x3.Request), (false, .val Message_.rep (q1 5) x3.Request), (true, .val Message_.rep (q1 6) y3.1), (false, .val (Rep.slice Memory_.rep) u19 (({ y4 with Memory := y4.Memory }).Memory))] ++ Γx) ([(false, .box 29 Responder_.rep u18 ({ { y4 with Memory := y4.Memory } with Queue := y4.Queue })), (true, .box 37 Message_.rep u9 y3.1)] ++ Ωx) := h
        refine OpS.loadB h .z PA.a (Get.fld Responder_.f2) ty27 rfl rfl rfl (fun u h67 => ?_)
        exact ⟨u, rfl, trivial, h67⟩
       ·intro q2 w Γx Ωx h
        refine OpS.mv rfl rfl rfl ?_
        exact ⟨undef, rfl, trivial, h⟩
       ·intro q2 w Γx Ωx h
        refine OpS.iptr h Try.underlying27 ty72 rfl rfl rfl rfl (V.at .z) e15 (fun u h68 => ?_)
        exact ⟨u, rfl, trivial, h68⟩
       ·intro q2 w Γx Ωx h
        refine OpS.fptr h fa72_1 Memory_.f1 rfl rfl rfl .z (fun u h69 => ?_)
        exact ⟨u, rfl, trivial, h69⟩
       ·intro q2 w Γx Ωx h
        refine OpS.load h ty22 rfl rfl rfl .z (fun u h70 => ?_)
        exact ⟨u, rfl, trivial, h70⟩
       ·intro q2 w Γx Ωx h
        have h71 := St.nil 5 (Rep.int .u8) h
        refine OpS.app (f' := false) h71 .z Try.underlying22 ti5 rfl rfl rfl rfl rfl rfl rfl (V.at .z) (.inr Pure.int) e16 (fun u w20 h72 => ?_)
        exact ⟨u, rfl, trivial, (h72.freeze)⟩
       ·intro q2 w Γx Ωx h
        have h : St e w ([(false, .val Responder_.rep (q2 0) ({ { y4 with Memory := y4.Memory } with Queue := y4.Queue })), (false, .val (Rep.slice Message_.rep) u16 y4.Queue), (false, .val (Rep.slice Memory_.rep) (q1 1) (({ y4 with Memory := y4.Memory }).Memory)), (false, .ptr Memory_.rep (q1 3) x3), (false, .ptr Message_.rep (q1 4) x3.Request), (false, .val Message_.rep (q1 5) x3.Request), (true, .val Message_.rep (q1 6) y3.1), (false, .val (Rep.slice Memory_.rep) u19 (({ y4 with Memory := y4.Memory }).Memory))] ++ Γx) ([(true, .box 29 Responder_.rep u2 Responder_.z), (true, .box 37 Message_.rep u9 y3.1)] ++ Ωx) := h
        have h73 := (h.pick .z).weak
        refine OpS.storeB (f' := false) h73 .z PA.z (Put.of Put.id e17) ty29 rfl rfl rfl (V.at .z) (.inr rfl) (fun w21 h74 => ?_)
        exact ⟨undef, trivial, trivial, h74⟩
       have h75 : St e w [(false, .val Responder_.rep (q2 0) ({ { y4 with Memory := y4.Memory } with Queue := y4.Queue })), (false, .val (Rep.slice Memory_.rep) (q2 2) (({ { y4 with Memory := y4.Memory } with Queue := y4.Queue }).Memory)), (false, .ptr Memory_.rep (q2 4) x4), (false, .ptr (Rep.slice (Rep.int .u8)) (q2 5) x4.Reply), (false, .val (Rep.slice (Rep.int .u8)) (q2 6) x4.Reply), (true, .val (Rep.slice (Rep.int .u8)) (q2 7) x5), (false, .val (Rep.slice Message_.rep) u16 y4.Queue), (false, .val (Rep.slice Memory_.rep) (q1 1) (({ y4 with Memory := y4.Memory }).Memory)), (false, .ptr Memory_.rep (q1 3) x3), (false, .ptr Message_.rep (q1 4) x3.Request), (false, .val Message_.rep (q1 5) x3.Request), (true, .val Message_.rep (q1 6) y3.1), (false, .val (Rep.slice Memory_.rep) u19 (({ y4 with Memory := y4.Memory }).Memory))] [(false, .box 29 Responder_.rep u18 ({ { y4 with Memory := y4.Memory } with Queue := y4.Queue })), (false, .box 29 Responder_.rep u2 d1), (true, .box 37 Message_.rep u9 y3.1)] := h
       refine op (OpS.as rfl rfl rfl ?_)
       refine op (OpS.as rfl rfl rfl ?_)
       refine RunL.nil ?_
       refine Run.slim [(8, .int .i64 0), (7, (q2 7)), (6, u2)] ⟨rfl, rfl, rfl, trivial⟩ ?_
       obtain ⟨u20, hu5, h76⟩ := res_box h75 (.s .z) ty29
       refine Run.retP rfl (.cell rfl hu5 (.tmp rfl (.tmp rfl .nil))) ?_
       cases hF
       exact Post.mk' ⟨u20, (q2 7), rfl, rfl, rfl, rfl⟩ (h76.picks .nil) (.val (V.at .z) (.val (V.at (.s (.s (.s (.s (.s (.s .z))))))) .nil))
      ·
       refine Run.skip ?_
       refine Run.endBlock ?_
       refine Run.reg ?_
       refine op (OpS.mv rfl rfl rfl ?_)
       refine op (OpS.bin rfl rfl rfl rfl rfl ?_)
       refine op (OpS.as rfl rfl rfl ?_)
       obtain ⟨x6, e18, hF⟩ := letP_use hF
       refine RunL.name e18 ?_
       refine RunL.nil ?_
       refine Run.slim [(12, .int .i64 x6), (6, u2), (9, u9), (11, u18)] ⟨rfl, rfl, rfl, rfl, trivial⟩ ?_
       refine Run.slim [(6, u2), (9, u9), (11, u18), (12, .int .i64 x6)] ⟨rfl, rfl, rfl, rfl, trivial⟩ ?_
       exact hk1 (x6) _ _ ⟨rfl, (h52.facts .nil).picks (.cons (.s (.s .z)) (.cons .z (.cons .z (.cons .z .nil))))⟩ hF
     ·
      refine Run.exit rfl ?_
      refine Run.seq ?_
      refine Run.seq ?_
      refine Run.reg ?_
      refine op (OpS.as rfl rfl rfl ?_)
      refine RunL.nil ?_
      refine Run.slim [(13, .int .i64 0), (6, u2), (9, u9), (11, u18)] ⟨rfl, rfl, rfl, rfl, trivial⟩ ?_
      refine Run.block ?_
      refine Run.slim [(6, u2), (9, u9), (11, u18), (13, .int .i64 0)] ⟨rfl, rfl, rfl, rfl, trivial⟩ ?_
      refine Run.loopP (σ := Int) (fun s_ L_ w_ => L_ = [(6, u2), (9, u9), (11, u18), (13, .int .i64 s_)] ∧ St e w_ [] [(true, .box 29 Responder_.rep u2 Responder_.z), (true, .box 37 Message_.rep u9 y3.1), (false, .box 29 (Rep.iso (fun s : Responder_ => (s.Own, s.Queue, s.Memory, ())) (Rep.prod (Rep.int .u8) (Rep.prod (Rep.raw u16) (Rep.prod (Rep.slice Memory_.rep) Rep.unit)))) u18 ({ y4 with Memory := y4.Memory })), (false, .slice 37 Message_.rep u16 y4.Queue)]) hF ⟨rfl, (h36.facts .nil).picks (.cons .z (.cons .z (.cons .z (.cons .z .nil))))⟩ (fun k2 hk2 s2 _ w22 hI hF => ?_)
      obtain ⟨rfl, h77⟩ := hI
      refine Run.seq ?_
      refine Run.seq ?_
      refine Run.reg ?_
      refine op (OpS.mv rfl rfl rfl ?_)
      refine op (OpS.fbox (o3 := 1) h77 (.s (.s .z)) PA.z fa29_1 rfl rfl rfl rfl ?_)
      refine op (OpS.loadR h77 (.s (.s .z)) PA.a (GetS.ok (GetS.iso _ (GetS.there (GetS.here GetS.id)))) ty26 rfl rfl rfl rfl rfl ?_)
      refine op (OpS.lenO h77 (.s (.s (.s .z))) Try.underlying26 rfl rfl rfl ?_)
      refine op (OpS.bin rfl rfl rfl rfl rfl ?_)
      refine RunL.nil ?_
      refine Run.slim [(73, .bool (decide (s2 < (y4.Queue.length : Int)))), (6, u2), (9, u9), (11, u18), (13, .int .i64 s2)] ⟨rfl, rfl, rfl, rfl, rfl, trivial⟩ ?_
      refine Run.ite rfl hF (fun e19 hF => ?_) (fun e19 hF => ?_)
      ·
       refine Run.skip ?_
       refine Run.seq ?_
       refine Run.block ?_
       refine Run.seq ?_
       have h78 := h77.picks (.cons (.s .z) (.cons (.s .z) (.cons (.s .z) (.cons .z .nil))))
       obtain ⟨x7, e20, hF⟩ := bindP_use hF
       obtain ⟨y6, e21, hF⟩ := bindP_use hF
       refine Run.drawV (Ωs := [(true, .box 29 Responder_.rep u2 Responder_.z)]) [⟨some 76, some ((padd u18 1)), fun _ => [], fun ds_ u_ => [], [], [(1, [])], none⟩, ⟨some 77, some (u16), fun _ => [], fun ds_ u_ => [], [], [(2, []), (1, [])], none⟩, ⟨some 78, some (.int .i64 s2), fun _ => [], fun ds_ u_ => [], [], [], none⟩, ⟨some 79, some ((padd (sp u16) ((s2 : Int).toNat * Message_.rep.n))), fun _ => [], fun ds_ u_ => [], [], [(2, [])], none⟩, ⟨some 80, none, fun u_ => [(false, .val Message_.rep u_ x7)], fun ds_ u_ => [], [], [(2, [])], none⟩, ⟨some 81, none, fun u_ => [(true, .val Message_.rep u_ y3.1)], fun ds_ u_ => [], [], [(0, [])], none⟩, ⟨some 82, some (.bool y6), fun _ => [], fun ds_ u_ => [], [], [], none⟩] [[], [0], [], [1, 2], [3], [], [4, 5]] [[(true, .box 37 Message_.rep u9 y3.1)], [(false, .box 29 (Rep.iso (fun s : Responder_ => (s.Own, s.Queue, s.Memory, ())) (Rep.prod (Rep.int .u8) (Rep.prod (Rep.raw u16) (Rep.prod (Rep.slice Memory_.rep) Rep.unit)))) u18 ({ y4 with Memory := y4.Memory }))], [(false, .slice 37 Message_.rep u16 y4.Queue)]] [0, 1, 2, 3, 4, 5, 6, 7, 8, 9] Try_mixed rfl rfl rfl h78 (.cons ?_ (.cons ?_ (.cons ?_ (.cons ?_ (.cons ?_ (.cons ?_ (.cons ?_ .nil))))))) (fun q3 w hq3 h => ?_)
       ·intro q3 w Γx Ωx h
        have h : St e w ([] ++ Γx) ([(false, .box 29 (Rep.iso (fun s : Responder_ => (s.Own, s.Queue, s.Memory, ())) (Rep.prod (Rep.int .u8) (Rep.prod (Rep.raw u16) (Rep.prod (Rep.slice Memory_.rep) Rep.unit)))) u18 ({ y4 with Memory := y4.Memory })), (true, .box 29 Responder_.rep u2 Responder_.z)] ++ Ωx) := h
        refine OpS.fbox (o3 := 1) h .z PA.z fa29_1 rfl rfl rfl rfl ?_
        exact ⟨undef, rfl, trivial, h⟩
       ·intro q3 w Γx Ωx h
        have h : St e w ([] ++ Γx) ([(false, .slice 37 Message_.rep u16 y4.Queue), (false, .box 29 (Rep.iso (fun s : Responder_ => (s.Own, s.Queue, s.Memory, ())) (Rep.prod (Rep.int .u8) (Rep.prod (Rep.raw u16) (Rep.prod (Rep.slice Memory_.rep) Rep.unit)))) u18 ({ y4 with Memory := y4.Memory })), (true, .box 29 Responder_.rep u2 Responder_.z)] ++ Ωx) := h
        refine OpS.loadR h (.s .z) PA.a (GetS.ok (GetS.iso _ (GetS.there (GetS.here GetS.id)))) ty26 rfl rfl rfl rfl rfl ?_
        exact ⟨undef, rfl, trivial, h⟩
       ·intro q3 w Γx Ωx h
        refine OpS.mv rfl rfl rfl ?_
        exact ⟨undef, rfl, trivial, h⟩
       ·intro q3 w Γx Ωx h
        have h : St e w ([] ++ Γx) ([(false, .slice 37 Message_.rep u16 y4.Queue), (true, .box 29 Responder_.rep u2 Responder_.z)] ++ Ωx) := h
        refine OpS.iown h .z Try.underlying26 ty37 rfl rfl rfl rfl e20 ?_
        exact ⟨undef, rfl, trivial, h⟩
       ·intro q3 w Γx Ωx h
        have h : St e w ([] ++ Γx) ([(false, .slice 37 Message_.rep u16 y4.Queue), (true, .box 29 Responder_.rep u2 Responder_.z)] ++ Ωx) := h
        refine OpS.loadO h .z (idx_ne e20) PA.a (Get.arr e20) ty37 rfl rfl rfl (fun u h83 => ?_)
        exact ⟨u, rfl, trivial, h83⟩
       ·intro q3 w Γx Ωx h
        have h : St e w ([] ++ Γx) ([(true, .box 37 Message_.rep u9 y3.1), (true, .box 29 Responder_.rep u2 Responder_.z)] ++ Ωx) := h
        refine OpS.loadB h .z PA.z Get.id ty37 rfl rfl rfl (fun u h84 => ?_)
        exact ⟨u, rfl, trivial, h84⟩
       ·intro q3 w Γx Ωx h
        refine OpS.callP h Try.func30 rfl rfl rfl rfl (vs := [(q3 4), (q3 5)]) rfl (ref25_Same_ok e21) (.cons (f := false) (V.at .z) (.cons (f := true) (V.at (.s .z)) .nil)) ?_
        rintro _ w24 _ _ _ ⟨rfl, rfl, rfl, rfl⟩ h85
        have h86 := h85 rfl rfl
        simp only [List.cons_append, List.nil_append] at h86
        exact ⟨undef, rfl, trivial, h86⟩
       have h87 : St e w [(false, .val Message_.rep (q3 4) x7), (true, .val Message_.rep (q3 5) y3.1)] [(true, .box 37 Message_.rep u9 y3.1), (false, .box 29 (Rep.iso (fun s : Responder_ => (s.Own, s.Queue, s.Memory, ())) (Rep.prod (Rep.int .u8) (Rep.prod (Rep.raw u16) (Rep.prod (Rep.slice Memory_.rep) Rep.unit)))) u18 ({ y4 with Memory := y4.Memory })), (false, .slice 37 Message_.rep u16 y4.Queue), (true, .box 29 Responder_.rep u2 Responder_.z)] := h
       refine RunL.nil ?_
       refine Run.slim [(82, .bool y6), (6, u2), (9, u9), (11, u18), (13, .int .i64 s2)] ⟨rfl, rfl, rfl, rfl, rfl, trivial⟩ ?_
       refine Run.ite rfl hF (fun e22 hF => ?_) (fun e22 hF => ?_)
       ·
        refine Run.seq ?_
        refine Run.reg ?_
        refine op (OpS.loadB (fr := (Rep.iso (fun s : Responder_ => (s.Own, s.Queue, s.Memory, ())) (Rep.prod (Rep.int .u8) (Rep.prod (Rep.raw u16) (Rep.prod (Rep.slice Memory_.rep) Rep.unit))))) h87 (.s .z) PA.z (GetS.ok GetS.id) (Ty.like ty29 (by rfl) (by rfl)) rfl rfl rfl (fun u21 h88 => ?_))
        have h89 := (h88.pick (.s (.s (.s .z)))).weak
        obtain ⟨d2, e23, hF⟩ := letP_use hF
        refine op (OpS.storeC (f' := false) (fr := (Rep.iso (fun s : Responder_ => (s.Own, s.Queue, s.Memory, ())) (Rep.prod (Rep.int .u8) (Rep.prod (Rep.raw u16) (Rep.prod (Rep.slice Memory_.rep) Rep.unit))))) (r' := (Rep.iso (fun s : Responder_ => (s.Own, s.Queue, s.Memory, ())) (Rep.prod (Rep.int .u8) (Rep.prod (Rep.raw u16) (Rep.prod (Rep.slice Memory_.rep) Rep.unit))))) (x' := d2) h89 .z PA.z (Chg.of (x' := { y4 with Memory := y4.Memory }) (Chg.id (by rfl)) e23) (Ty.like ty29 (by rfl) (by rfl)) rfl rfl rfl (V.at .z) (.inr rfl) (fun w25 h90 => ?_))
        refine op (OpS.as rfl rfl rfl ?_)
        refine op (OpS.as rfl rfl rfl ?_)
        refine RunL.nil ?_
        refine Run.slim [(8, .int .i64 0), (7, .slice none 0 0), (6, u2)] ⟨rfl, rfl, rfl, trivial⟩ ?_
        have h92 := (h90.pick (.s (.s (.s .z)))).freeze
        have h93 := h92.pick .z
        have h94 := St.boxJ (r' := Responder_.rep) (x' := { d2 with Queue := y4.Queue }) h93 (fun _ _ hs_ => (Jn.iso _ (Jn.prod Jn.refl (Jn.prod (Jn.raw ((V.at .z) _ _ hs_) rfl) Jn.refl))))
        have h95 := h94.pick (.s (.s .z))
        have h96 := St.boxJ (r' := Responder_.rep) (x' := { { y4 with Memory := y4.Memory } with Queue := y4.Queue }) h95 (fun _ _ hs_ => (Jn.iso _ (Jn.prod Jn.refl (Jn.prod (Jn.raw ((V.at .z) _ _ hs_) rfl) Jn.refl))))
        obtain ⟨u22, hu6, h91⟩ := res_box h96 (.s .z) ty29
        refine Run.retP rfl (.cell rfl hu6 (.tmp rfl (.tmp rfl .nil))) ?_
        cases hF
        exact Post.mk' ⟨u22, .slice none 0 0, rfl, rfl, rfl, rfl⟩ (h91.picks .nil) (.val (V.at .z) (.val V.nil .nil))
       ·
        refine Run.skip ?_
        refine Run.endBlock ?_
        refine Run.reg ?_
        refine op (OpS.mv rfl rfl rfl ?_)
        refine op (OpS.bin rfl rfl rfl rfl rfl ?_)
        refine op (OpS.as rfl rfl rfl ?_)
        obtain ⟨x8, e24, hF⟩ := letP_use hF
        refine RunL.name e24 ?_
        refine RunL.nil ?_
        refine Run.slim [(13, .int .i64 x8), (6, u2), (9, u9), (11, u18)] ⟨rfl, rfl, rfl, rfl, trivial⟩ ?_
        refine Run.slim [(6, u2), (9, u9), (11, u18), (13, .int .i64 x8)] ⟨rfl, rfl, rfl, rfl, trivial⟩ ?_
        exact hk2 (x8) _ _ ⟨rfl, (h87.facts .nil).picks (.cons (.s (.s (.s .z))) (.cons .z (.cons .z (.cons .z .nil))))⟩ hF
      ·
       refine Run.exit rfl ?_
       refine Run.seq ?_
       refine Run.seq ?_
       refine Run.reg ?_
       refine op (OpS.fbox (o3 := 1) h77 (.s (.s .z)) PA.z fa29_1 rfl rfl rfl rfl ?_)
       refine op (OpS.loadR h77 (.s (.s .z)) PA.a (GetS.ok (GetS.iso _ (GetS.there (GetS.here GetS.id)))) ty26 rfl rfl rfl rfl rfl ?_)
       refine op (OpS.lenO h77 (.s (.s (.s .z))) Try.underlying26 rfl rfl rfl ?_)
       refine op (OpS.bin rfl rfl rfl rfl rfl ?_)
       refine op (OpS.mv rfl rfl rfl ?_)
       refine RunL.join (σ := Bool) (fun s_ L_ w_ => L_ = [(6, u2), (9, u9), (11, u18), (97, .bool s_)] ∧ St e w_ [] [(true, .box 29 Responder_.rep u2 Responder_.z), (true, .box 37 Message_.rep u9 y3.1), (false, .box 29 (Rep.iso (fun s : Responder_ => (s.Own, s.Queue, s.Memory, ())) (Rep.prod (Rep.int .u8) (Rep.prod (Rep.raw u16) (Rep.prod (Rep.slice Memory_.rep) Rep.unit)))) u18 ({ y4 with Memory := y4.Memory })), (false, .slice 37 Message_.rep u16 y4.Queue)]) hF (fun s3 _ w26 hI hF => ?_) (fun j1 hj1 hF => ?_)
       ·
        obtain ⟨rfl, h97⟩ := hI
        refine Run.ite rfl hF (fun e25 hF => ?_) (fun e25 hF => ?_)
        ·
         refine Run.seq ?_
         refine Run.reg ?_
         refine op (OpS.loadB h97 (.s .z) PA.z Get.id ty37 rfl rfl rfl (fun u23 h98 => ?_))
         obtain ⟨y7, e26, hF⟩ := bindP_use hF
         refine op (OpS.callP h98 Try.func60 rfl rfl rfl rfl (vs := [u23, .int .u8 192, .slice none 0 0]) rfl (ref23_Reply_ok e26) (.cons (f := true) (V.at .z) (.cons (f := true) V.nil .nil)) ?_)
         rintro _ w27 _ _ _ ⟨u24, rfl, rfl, rfl, rfl⟩ h99
         have h100 := h99 rfl rfl
         simp only [List.cons_append, List.nil_append] at h100
         refine op (OpS.mv rfl rfl rfl ?_)
         refine op (OpS.ext rfl rfl rfl rfl ?_)
         refine op (OpS.ext rfl rfl rfl rfl ?_)
         refine op (OpS.alloc h100 ti37 Message_.zr rfl rfl (fun u25 w28 h101 => ?_))
         refine op (OpS.storeB (f' := true) h101 .z PA.z Put.id ty37 rfl rfl rfl (V.at .z) (.inl rfl) (fun w29 h102 => ?_))
         refine op (OpS.as rfl rfl rfl ?_)
         refine RunL.nil ?_
         refine Run.slim [(14, u25), (6, u2), (11, u18)] ⟨rfl, rfl, rfl, trivial⟩ ?_
         refine Run.seq ?_
         refine Run.reg ?_
         refine op (OpS.loadB h102 .z PA.z Get.id ty37 rfl rfl rfl (fun u26 h103 => ?_))
         obtain ⟨y8, e27, hF⟩ := bindP_use hF
         refine op (OpS.callP h103 Try.func61 rfl rfl rfl rfl (vs := [u26]) rfl (ref23_Response_ok e27) (.cons (f := true) (V.at .z) .nil) ?_)
         rintro _ w30 _ _ _ ⟨u27, rfl, rfl, rfl, rfl⟩ h104
         have h105 := h104 rfl rfl
         simp only [List.cons_append, List.nil_append] at h105
         refine op (OpS.mv rfl rfl rfl ?_)
         refine op (OpS.ext rfl rfl rfl rfl ?_)
         refine op (OpS.ext rfl rfl rfl rfl ?_)
         refine op (OpS.as rfl rfl rfl ?_)
         have h106 := (h105.pick .z).freeze
         refine op (OpS.as rfl rfl rfl ?_)
         refine RunL.nil ?_
         refine Run.slim [(16, u27), (6, u2), (11, u18)] ⟨rfl, rfl, rfl, trivial⟩ ?_
         refine Run.seq ?_
         refine Run.reg ?_
         refine op (OpS.loadB (fr := (Rep.iso (fun s : Responder_ => (s.Own, s.Queue, s.Memory, ())) (Rep.prod (Rep.int .u8) (Rep.prod (Rep.raw u16) (Rep.prod (Rep.slice Memory_.rep) Rep.unit))))) h106 (.s (.s (.s .z))) PA.z (GetS.ok GetS.id) (Ty.like ty29 (by rfl) (by rfl)) rfl rfl rfl (fun u28 h107 => ?_))
         refine op (OpS.mv rfl rfl rfl ?_)
         have h108 := (h107.pick (.s .z)).weak
         obtain ⟨d3, e28, hF⟩ := letP_use hF
         refine op (OpS.storeC (f' := false) (fr := (Rep.iso (fun s : Responder_ => (s.Own, s.Queue, s.Memory, ())) (Rep.prod (Rep.int .u8) (Rep.prod (Rep.raw u16) (Rep.prod (Rep.slice Memory_.rep) Rep.unit))))) (r' := (Rep.iso (fun s : Responder_ => (s.Own, s.Queue, s.Memory, ())) (Rep.prod (Rep.int .u8) (Rep.prod (Rep.raw u16) (Rep.prod (Rep.slice Memory_.rep) Rep.unit))))) (x' := d3) h108 .z PA.z (Chg.of (x' := { y4 with Memory := y4.Memory }) (Chg.id (by rfl)) e28) (Ty.like ty29 (by rfl) (by rfl)) rfl rfl rfl (V.at .z) (.inr rfl) (fun w31 h109 => ?_))
         refine op (OpS.as rfl rfl rfl ?_)
         refine op (OpS.as rfl rfl rfl ?_)
         refine RunL.nil ?_
         refine Run.slim [(8, .int .i64 0), (7, u27), (6, u2)] ⟨rfl, rfl, rfl, trivial⟩ ?_
         have h111 := (h109.pick (.s (.s (.s (.s .z))))).freeze
         have h112 := h111.pick .z
         have h113 := St.boxJ (r' := Responder_.rep) (x' := { d3 with Queue := y4.Queue }) h112 (fun _ _ hs_ => (Jn.iso _ (Jn.prod Jn.refl (Jn.prod (Jn.raw ((V.at .z) _ _ hs_) rfl) Jn.refl))))
         have h114 := h113.pick (.s (.s (.s .z)))
         have h115 := St.boxJ (r' := Responder_.rep) (x' := { { y4 with Memory := y4.Memory } with Queue := y4.Queue }) h114 (fun _ _ hs_ => (Jn.iso _ (Jn.prod Jn.refl (Jn.prod (Jn.raw ((V.at .z) _ _ hs_) rfl) Jn.refl))))
         obtain ⟨u29, hu7, h110⟩ := res_box h115 (.s .z) ty29
         refine Run.retP rfl (.cell rfl hu7 (.tmp rfl (.tmp rfl .nil))) ?_
         cases hF
         exact Post.mk' ⟨u29, u27, rfl, rfl, rfl, rfl⟩ (h110.picks .nil) (.val (V.at .z) (.val (V.at (.s (.s (.s .z)))) .nil))
        ·
         refine Run.skip ?_
         refine Run.seq ?_
         refine Run.reg ?_
         refine op (OpS.fbox (o3 := 1) h97 (.s (.s .z)) PA.z fa29_1 rfl rfl rfl rfl ?_)
         refine op (OpS.loadR h97 (.s (.s .z)) PA.a (GetS.ok (GetS.iso _ (GetS.there (GetS.here GetS.id)))) ty26 rfl rfl rfl rfl rfl ?_)
         refine op (OpS.loadB h97 (.s .z) PA.z Get.id ty37 rfl rfl rfl (fun u30 h116 => ?_))
         refine op (OpS.lit (r := Message_.rep) (f := true) h116 Try.underlying26 ti37 rfl rfl rfl rfl rfl (.cons rfl (V.at .z) .nil) rfl rfl (fun u31 w32 h117 => ?_))
         obtain ⟨x9, e29, hF⟩ := bindP_use hF
         refine op (OpS.app (f' := true) h117 (.s (.s (.s .z))) Try.underlying26 ti37 rfl rfl rfl rfl rfl rfl rfl (V.at .z) (.inl (.inl rfl)) e29 (fun u32 w33 h118 => ?_))
         refine op (OpS.fbox (o3 := 1) h118 (.s (.s (.s .z))) PA.z fa29_1 rfl rfl rfl rfl ?_)
         refine op (OpS.storeC (f' := false) (fr := (Rep.raw u32)) (r' := (Rep.iso (fun s : Responder_ => (s.Own, s.Queue, s.Memory, ())) (Rep.prod (Rep.int .u8) (Rep.prod (Rep.raw u32) (Rep.prod (Rep.slice Memory_.rep) Rep.unit))))) (x' := { y4 with Memory := y4.Memory }) h118 (.s (.s (.s .z))) PA.a (Chg.iso _ (Chg.there (Chg.here (Chg.id (by rfl))))) (Ty.like ty26 (by rfl) (by rfl)) rfl rfl rfl (V.raw (f := false) (St.own1 h118 .z) (({ y4 with Memory := y4.Memory }).Queue)) (.inr rfl) (fun w34 h119 => ?_))
         refine RunL.nil ?_
         refine Run.slim [(6, u2), (11, u18)] ⟨rfl, rfl, trivial⟩ ?_
         refine Run.seq ?_
         refine Run.reg ?_
         refine op (OpS.loadB (fr := (Rep.iso (fun s : Responder_ => (s.Own, s.Queue, s.Memory, ())) (Rep.prod (Rep.int .u8) (Rep.prod (Rep.raw u32) (Rep.prod (Rep.slice Memory_.rep) Rep.unit))))) h119 .z PA.z (GetS.ok GetS.id) (Ty.like ty29 (by rfl) (by rfl)) rfl rfl rfl (fun u33 h120 => ?_))
         have h121 := (h120.pick (.s (.s .z))).weak
         obtain ⟨d4, e30, hF⟩ := letP_use hF
         refine op (OpS.storeC (f' := false) (fr := (Rep.iso (fun s : Responder_ => (s.Own, s.Queue, s.Memory, ())) (Rep.prod (Rep.int .u8) (Rep.prod (Rep.raw u32) (Rep.prod (Rep.slice Memory_.rep) Rep.unit))))) (r' := (Rep.iso (fun s : Responder_ => (s.Own, s.Queue, s.Memory, ())) (Rep.prod (Rep.int .u8) (Rep.prod (Rep.raw u32) (Rep.prod (Rep.slice Memory_.rep) Rep.unit))))) (x' := d4) h121 .z PA.z (Chg.of (x' := { y4 with Memory := y4.Memory }) (Chg.id (by rfl)) e30) (Ty.like ty29 (by rfl) (by rfl)) rfl rfl rfl (V.at .z) (.inr rfl) (fun w35 h122 => ?_))
         refine op (OpS.as rfl rfl rfl ?_)
         refine op (OpS.as rfl rfl rfl ?_)
         refine RunL.nil ?_
         refine Run.slim [(8, .int .i64 0), (7, .slice none 0 0), (6, u2)] ⟨rfl, rfl, rfl, trivial⟩ ?_
         have h124 := (h122.pick (.s (.s .z))).freeze
         have h125 := h124.pick .z
         have h126 := St.boxJ (r' := Responder_.rep) (x' := { d4 with Queue := x9 }) h125 (fun _ _ hs_ => (Jn.iso _ (Jn.prod Jn.refl (Jn.prod (Jn.raw ((V.at .z) _ _ hs_) rfl) Jn.refl))))
         have h127 := h126.pick (.s .z)
         have h128 := St.boxJ (r' := Responder_.rep) (x' := { { y4 with Memory := y4.Memory } with Queue := x9 }) h127 (fun _ _ hs_ => (Jn.iso _ (Jn.prod Jn.refl (Jn.prod (Jn.raw ((V.at .z) _ _ hs_) rfl) Jn.refl))))
         obtain ⟨u34, hu8, h123⟩ := res_box h128 (.s .z) ty29
         refine Run.retP rfl (.cell rfl hu8 (.tmp rfl (.tmp rfl .nil))) ?_
         cases hF
         exact Post.mk' ⟨u34, .slice none 0 0, rfl, rfl, rfl, rfl⟩ (h123.picks .nil) (.val (V.at .z) (.val V.nil .nil))
       ·
        refine RunL.caseb hF (fun e31 hF => ?_) (fun e31 hF => ?_)
        ·
         refine op (OpS.pass rfl rfl rfl ?_)
         refine op (OpS.pass rfl rfl rfl ?_)
         refine op (OpS.pass rfl rfl rfl ?_)
         refine op (OpS.pass rfl rfl rfl ?_)
         refine op (OpS.pass rfl rfl rfl ?_)
         refine op (OpS.pass rfl rfl rfl ?_)
         refine op (OpS.pass rfl rfl rfl ?_)
         refine op (OpS.pass rfl rfl rfl ?_)
         refine op (OpS.pick rfl rfl rfl rfl ?_)
         refine RunL.nil ?_
         refine Run.slim [(97, .bool true), (6, u2), (9, u9), (11, u18)] ⟨rfl, rfl, rfl, rfl, trivial⟩ ?_
         refine Run.slim [(6, u2), (9, u9), (11, u18), (97, .bool true)] ⟨rfl, rfl, rfl, rfl, trivial⟩ ?_
         exact hj1 (true) _ _ ⟨rfl, (h77.facts .nil).picks (.cons .z (.cons .z (.cons .z (.cons .z .nil))))⟩ hF
        ·
         refine op (OpS.fbox (o3 := 1) h77 (.s (.s .z)) PA.z fa29_1 rfl rfl rfl rfl ?_)
         refine op (OpS.loadR h77 (.s (.s .z)) PA.a (GetS.ok (GetS.iso _ (GetS.there (GetS.here GetS.id)))) ty26 rfl rfl rfl rfl rfl ?_)
         refine op (OpS.lenO h77 (.s (.s (.s .z))) Try.underlying26 rfl rfl rfl ?_)
         refine op (OpS.fbox (o3 := 2) h77 (.s (.s .z)) PA.z fa29_2 rfl rfl rfl rfl ?_)
         refine op (OpS.loadB (fr := (Rep.slice Memory_.rep)) h77 (.s (.s .z)) PA.a (GetS.ok (GetS.iso _ (GetS.there (GetS.there (GetS.here GetS.id))))) (Ty.like ty27 (by rfl) (by rfl)) rfl rfl rfl (fun u35 h129 => ?_))
         refine op (OpS.len h129 Try.underlying27 rfl rfl rfl (V.at .z) ?_)
         refine op (OpS.bin rfl rfl rfl rfl rfl ?_)
         refine op (OpS.bin rfl rfl rfl rfl rfl ?_)
         refine op (OpS.pick rfl rfl rfl rfl ?_)
         refine RunL.nil ?_
         refine Run.slim [(97, .bool (decide ((IntKind.i64.wrap ((y4.Queue.length : Int) + ((({ y4 with Memory := y4.Memory }).Memory).length : Int))) ≥ 16))), (6, u2), (9, u9), (11, u18)] ⟨rfl, rfl, rfl, rfl, trivial⟩ ?_
         refine Run.slim [(6, u2), (9, u9), (11, u18), (97, .bool (decide ((IntKind.i64.wrap ((y4.Queue.length : Int) + ((({ y4 with Memory := y4.Memory }).Memory).length : Int))) ≥ 16)))] ⟨rfl, rfl, rfl, rfl, trivial⟩ ?_
         exact hj1 (decide ((IntKind.i64.wrap ((y4.Queue.length : Int) + ((({ y4 with Memory := y4.Memory }).Memory).length : Int))) ≥ 16)) _ _ ⟨rfl, (h129.facts .nil).picks (.cons .z (.cons .z (.cons .z (.cons .z .nil))))⟩ hF
set_option maxHeartbeats 8000000 in
theorem ref25_Done_ok {fuel : Nat} {a0 : Responder_} {a1 : Int} {a2 : List Int} {a3 : Int} {y : Responder_ × (List Int) × Int} (hF : ref25_Done fuel a0 a1 a2 a3 = some y) {w : World} {v0 v2 : Value} :
  Spec Try.prog 33 [v0, .int .u8 a1, v2, .int .i64 a3].toArray w [(false, .val Responder_.rep v0 a0), (false, .val (Rep.slice (Rep.int .u8)) v2 a2)] [] (fun v Γr Ωr Ωo => ∃ u0 u1 : Value, v = .tuple #[u0, u1, .int .i64 y.2.2] ∧ Γr = [(false, .val Responder_.rep u0 y.1), (true, .val (Rep.slice (Rep.int .u8)) u1 y.2.1)] ∧ Ωr = [] ∧ Ωo = []) := by
 refine Spec.of (L := [(0, v0), (1, .int .u8 a1), (2, v2), (3, .int .i64 a3)]) Try.func33 rfl ⟨rfl, rfl, rfl, rfl, trivial⟩ rfl (fun e h => ?_)
 unfold ref25_Done at hF
 refine Run.seq ?_
 refine Run.reg ?_
 refine op (OpS.boxF h rfl rfl rfl (V.at .z) (fun u1 w1 h1 => ?_))
 refine op (OpS.alloc h1 ti29 Responder_.zr rfl rfl (fun u2 w2 h2 => ?_))
 refine op (OpS.as rfl rfl rfl ?_)
 refine op (OpS.as rfl rfl rfl ?_)
 refine RunL.nil ?_
 refine Run.slim [(8, u2), (4, u1), (1, .int .u8 a1), (2, v2), (3, .int .i64 a3)] ⟨rfl, rfl, rfl, rfl, rfl, trivial⟩ ?_
 refine Run.seq ?_
 refine Run.block ?_
 refine Run.seq ?_
 refine Run.reg ?_
 refine op (OpS.loadB h2 (.s .z) PA.z Get.id ty29 rfl rfl rfl (fun u3 h3 => ?_))
 obtain ⟨y1, e1, hF⟩ := bindP_use hF
 refine op (OpS.callP h3 Try.func28 rfl rfl rfl rfl (vs := [u3]) rfl (ref25_Valid_ok e1) (.cons (f := false) (V.at .z) .nil) ?_)
 rintro _ w3 _ _ _ ⟨rfl, rfl, rfl, rfl⟩ h4
 have h5 := h4 rfl rfl
 simp only [List.cons_append, List.nil_append] at h5
 refine op (OpS.not rfl rfl rfl ?_)
 refine op (OpS.as rfl rfl rfl ?_)
 obtain ⟨x1, e2, hF⟩ := letP_use hF
 refine RunL.nameb e2 ?_
 refine RunL.nil ?_
 refine Run.slim [(15, .bool x1), (8, u2), (4, u1), (1, .int .u8 a1), (2, v2), (3, .int .i64 a3)] ⟨rfl, rfl, rfl, rfl, rfl, rfl, trivial⟩ ?_
 refine Run.ite rfl hF (fun e3 hF => ?_) (fun e3 hF => ?_)
 ·
  refine Run.seq ?_
  refine Run.reg ?_
  refine op (OpS.build (f := true) (x' := Responder_.z) h5 pl29 ti29 Responder_.zr rfl rfl rfl .nil (fun u4 h6 => ?_))
  refine op (OpS.storeB (f' := true) h6 .z PA.z Put.id ty29 rfl rfl rfl (V.at .z) (.inl rfl) (fun w4 h7 => ?_))
  refine op (OpS.as rfl rfl rfl ?_)
  refine op (OpS.as rfl rfl rfl ?_)
  refine RunL.nil ?_
  refine Run.slim [(10, .int .i64 1), (9, .slice none 0 0), (8, u2)] ⟨rfl, rfl, rfl, trivial⟩ ?_
  obtain ⟨u5, hu1, h8⟩ := res_box h7 .z ty29
  refine Run.retP rfl (.cell rfl hu1 (.tmp rfl (.tmp rfl .nil))) ?_
  cases hF
  exact Post.mk' ⟨u5, .slice none 0 0, rfl, rfl, rfl, rfl⟩ (h8.picks .nil) (.val (V.weak (V.at .z)) (.val V.nil .nil))
 ·
  refine Run.seq ?_
  refine Run.reg ?_
  refine op (OpS.mv rfl rfl rfl ?_)
  obtain ⟨y2, e4, hF⟩ := bindP_use hF
  refine op (OpS.callP h5 Try.func58 rfl rfl rfl rfl (vs := [.int .i64 a3]) rfl (ref24_Time_ok e4) .nil ?_)
  rintro _ w5 _ _ _ ⟨rfl, rfl, rfl, rfl⟩ h9
  have h10 := h9 rfl rfl
  simp only [List.cons_append, List.nil_append] at h10
  refine op (OpS.not rfl rfl rfl ?_)
  refine op (OpS.as rfl rfl rfl ?_)
  obtain ⟨x2, e5, hF⟩ := letP_use hF
  refine RunL.nameb e5 ?_
  refine RunL.nil ?_
  refine Run.slim [(20, .bool x2), (8, u2), (4, u1), (1, .int .u8 a1), (2, v2), (3, .int .i64 a3)] ⟨rfl, rfl, rfl, rfl, rfl, rfl, trivial⟩ ?_
  refine Run.ite rfl hF (fun e6 hF => ?_) (fun e6 hF => ?_)
  ·
   refine Run.seq ?_
   refine Run.reg ?_
   refine op (OpS.build (f := true) (x' := Responder_.z) h10 pl29 ti29 Responder_.zr rfl rfl rfl .nil (fun u6 h11 => ?_))
   refine op (OpS.storeB (f' := true) h11 .z PA.z Put.id ty29 rfl rfl rfl (V.at .z) (.inl rfl) (fun w6 h12 => ?_))
   refine op (OpS.as rfl rfl rfl ?_)
   refine op (OpS.as rfl rfl rfl ?_)
   refine RunL.nil ?_
   refine Run.slim [(10, .int .i64 2), (9, .slice none 0 0), (8, u2)] ⟨rfl, rfl, rfl, trivial⟩ ?_
   obtain ⟨u7, hu2, h13⟩ := res_box h12 .z ty29
   refine Run.retP rfl (.cell rfl hu2 (.tmp rfl (.tmp rfl .nil))) ?_
   cases hF
   exact Post.mk' ⟨u7, .slice none 0 0, rfl, rfl, rfl, rfl⟩ (h13.picks .nil) (.val (V.weak (V.at .z)) (.val V.nil .nil))
  ·
   refine Run.seq ?_
   refine Run.reg ?_
   refine op (OpS.fbox (o3 := 1) h10 (.s .z) PA.z fa29_1 rfl rfl rfl rfl ?_)
   refine op (OpS.loadB h10 (.s .z) PA.a (Get.fld Responder_.f1) ty26 rfl rfl rfl (fun u8 h14 => ?_))
   refine op (OpS.len h14 Try.underlying26 rfl rfl rfl (V.at .z) ?_)
   refine op (OpS.bin rfl rfl rfl rfl rfl ?_)
   refine op (OpS.as rfl rfl rfl ?_)
   obtain ⟨x3, e7, hF⟩ := letP_use hF
   refine RunL.nameb e7 ?_
   refine RunL.nil ?_
   refine Run.slim [(25, .bool x3), (8, u2), (4, u1), (1, .int .u8 a1), (2, v2), (3, .int .i64 a3)] ⟨rfl, rfl, rfl, rfl, rfl, rfl, trivial⟩ ?_
   refine Run.ite rfl hF (fun e8 hF => ?_) (fun e8 hF => ?_)
   ·
    refine Run.seq ?_
    refine Run.reg ?_
    refine op (OpS.build (f := true) (x' := Responder_.z) h14 pl29 ti29 Responder_.zr rfl rfl rfl .nil (fun u9 h15 => ?_))
    refine op (OpS.storeB (f' := true) h15 .z PA.z Put.id ty29 rfl rfl rfl (V.at .z) (.inl rfl) (fun w7 h16 => ?_))
    refine op (OpS.as rfl rfl rfl ?_)
    refine op (OpS.as rfl rfl rfl ?_)
    refine RunL.nil ?_
    refine Run.slim [(10, .int .i64 46), (9, .slice none 0 0), (8, u2)] ⟨rfl, rfl, rfl, trivial⟩ ?_
    obtain ⟨u10, hu3, h17⟩ := res_box h16 .z ty29
    refine Run.retP rfl (.cell rfl hu3 (.tmp rfl (.tmp rfl .nil))) ?_
    cases hF
    exact Post.mk' ⟨u10, .slice none 0 0, rfl, rfl, rfl, rfl⟩ (h17.picks .nil) (.val (V.weak (V.at .z)) (.val V.nil .nil))
   ·
    refine Run.skip ?_
    refine Run.endBlock ?_
    refine Run.seq ?_
    refine Run.reg ?_
    refine op (OpS.fbox (o3 := 1) h14 (.s .z) PA.z fa29_1 rfl rfl rfl rfl ?_)
    refine op (OpS.loadB h14 (.s .z) PA.a (Get.fld Responder_.f1) ty26 rfl rfl rfl (fun u11 h18 => ?_))
    obtain ⟨x4, e9, hF⟩ := bindP_use hF
    refine op (OpS.iptr h18 Try.underlying26 ty37 rfl rfl rfl rfl (V.at .z) e9 (fun u12 h19 => ?_))
    refine op (OpS.load h19 ty37 rfl rfl rfl .z (fun u13 h20 => ?_))
    refine op (OpS.mv rfl rfl rfl ?_)
    refine op (OpS.mv rfl rfl rfl ?_)
    obtain ⟨y3, e10, hF⟩ := bindP_use hF
    refine op (OpS.callP h20 Try.func60 rfl rfl rfl rfl (vs := [u13, .int .u8 a1, v2]) rfl (ref23_Reply_ok e10) (.cons (f := false) (V.at .z) (.cons (f := false) (V.at (.s (.s (.s (.s (.s (.s .z))))))) .nil)) ?_)
    rintro _ w8 _ _ _ ⟨u14, rfl, rfl, rfl, rfl⟩ h21
    have h22 := h21 rfl rfl
    simp only [List.cons_append, List.nil_append] at h22
    refine op (OpS.mv rfl rfl rfl ?_)
    refine op (OpS.ext rfl rfl rfl rfl ?_)
    refine op (OpS.ext rfl rfl rfl rfl ?_)
    refine op (OpS.alloc h22 ti37 Message_.zr rfl rfl (fun u15 w9 h23 => ?_))
    refine op (OpS.storeB (f' := true) h23 .z PA.z Put.id ty37 rfl rfl rfl (V.at .z) (.inl rfl) (fun w10 h24 => ?_))
    refine op (OpS.as rfl rfl rfl ?_)
    refine RunL.nil ?_
    refine Run.slim [(12, .int .i64 y3.2), (11, u15), (8, u2), (4, u1), (3, .int .i64 a3)] ⟨rfl, rfl, rfl, rfl, rfl, trivial⟩ ?_
    refine Run.seq ?_
    refine Run.seq ?_
    refine Run.reg ?_
    refine op (OpS.mv rfl rfl rfl ?_)
    refine op (OpS.bin rfl rfl rfl rfl rfl ?_)
    refine RunL.nil ?_
    refine Run.slim [(42, .bool (y3.2 != 0)), (12, .int .i64 y3.2), (11, u15), (8, u2), (4, u1), (3, .int .i64 a3)] ⟨rfl, rfl, rfl, rfl, rfl, rfl, trivial⟩ ?_
    refine Run.ite rfl hF (fun e11 hF => ?_) (fun e11 hF => ?_)
    ·
     refine Run.seq ?_
     refine Run.reg ?_
     refine op (OpS.build (f := true) (x' := Responder_.z) h24 pl29 ti29 Responder_.zr rfl rfl rfl .nil (fun u16 h25 => ?_))
     refine op (OpS.mv rfl rfl rfl ?_)
     refine op (OpS.storeB (f' := true) h25 (.s .z) PA.z Put.id ty29 rfl rfl rfl (V.at .z) (.inl rfl) (fun w11 h26 => ?_))
     refine op (OpS.as rfl rfl rfl ?_)
     refine op (OpS.as rfl rfl rfl ?_)
     refine RunL.nil ?_
     refine Run.slim [(10, .int .i64 y3.2), (9, .slice none 0 0), (8, u2)] ⟨rfl, rfl, rfl, trivial⟩ ?_
     obtain ⟨u17, hu4, h27⟩ := res_box h26 .z ty29
     refine Run.retP rfl (.cell rfl hu4 (.tmp rfl (.tmp rfl .nil))) ?_
     cases hF
     exact Post.mk' ⟨u17, .slice none 0 0, rfl, rfl, rfl, rfl⟩ (h27.picks .nil) (.val (V.weak (V.at .z)) (.val V.nil .nil))
    ·
     refine Run.skip ?_
     refine Run.seq ?_
     refine Run.reg ?_
     refine op (OpS.loadB h24 .z PA.z Get.id ty37 rfl rfl rfl (fun u18 h28 => ?_))
     obtain ⟨y4, e12, hF⟩ := bindP_use hF
     refine op (OpS.callP h28 Try.func61 rfl rfl rfl rfl (vs := [u18]) rfl (ref23_Response_ok e12) (.cons (f := true) (V.at .z) .nil) ?_)
     rintro _ w12 _ _ _ ⟨u19, rfl, rfl, rfl, rfl⟩ h29
     have h30 := h29 rfl rfl
     simp only [List.cons_append, List.nil_append] at h30
     refine op (OpS.mv rfl rfl rfl ?_)
     refine op (OpS.ext rfl rfl rfl rfl ?_)
     refine op (OpS.ext rfl rfl rfl rfl ?_)
     refine op (OpS.as rfl rfl rfl ?_)
     have h31 := (h30.pick .z).freeze
     refine op (OpS.as rfl rfl rfl ?_)
     refine RunL.nil ?_
     refine Run.slim [(12, .int .i64 y4.2), (13, u19), (8, u2), (4, u1), (3, .int .i64 a3)] ⟨rfl, rfl, rfl, rfl, rfl, trivial⟩ ?_
     refine Run.seq ?_
     refine Run.seq ?_
     refine Run.reg ?_
     refine op (OpS.mv rfl rfl rfl ?_)
     refine op (OpS.bin rfl rfl rfl rfl rfl ?_)
     refine RunL.nil ?_
     refine Run.slim [(51, .bool (y4.2 != 0)), (12, .int .i64 y4.2), (13, u19), (8, u2), (4, u1), (3, .int .i64 a3)] ⟨rfl, rfl, rfl, rfl, rfl, rfl, trivial⟩ ?_
     refine Run.ite rfl hF (fun e13 hF => ?_) (fun e13 hF => ?_)
     ·
      refine Run.seq ?_
      refine Run.reg ?_
      refine op (OpS.build (f := true) (x' := Responder_.z) h31 pl29 ti29 Responder_.zr rfl rfl rfl .nil (fun u20 h32 => ?_))
      refine op (OpS.mv rfl rfl rfl ?_)
      refine op (OpS.storeB (f' := true) h32 (.s .z) PA.z Put.id ty29 rfl rfl rfl (V.at .z) (.inl rfl) (fun w13 h33 => ?_))
      refine op (OpS.as rfl rfl rfl ?_)
      refine op (OpS.as rfl rfl rfl ?_)
      refine RunL.nil ?_
      refine Run.slim [(10, .int .i64 y4.2), (9, .slice none 0 0), (8, u2)] ⟨rfl, rfl, rfl, trivial⟩ ?_
      obtain ⟨u21, hu5, h34⟩ := res_box h33 .z ty29
      refine Run.retP rfl (.cell rfl hu5 (.tmp rfl (.tmp rfl .nil))) ?_
      cases hF
      exact Post.mk' ⟨u21, .slice none 0 0, rfl, rfl, rfl, rfl⟩ (h34.picks .nil) (.val (V.weak (V.at .z)) (.val V.nil .nil))
     ·
      refine Run.skip ?_
      refine Run.seq ?_
      refine Run.reg ?_
      refine op (OpS.loadB h31 (.s (.s .z)) PA.z Get.id ty29 rfl rfl rfl (fun u22 h35 => ?_))
      refine op (OpS.mv rfl rfl rfl ?_)
      obtain ⟨y5, e14, hF⟩ := bindP_use hF
      have h36 := h35.front .nil
      refine op (OpS.callO h36 Try.func52 rfl rfl rfl rfl (vs := [u22, .int .i64 a3]) rfl (ref25_Fresh_ok e14) rfl (.cons (f := false) (V.at .z) .nil) ?_)
      rintro u23 w14 _ _ _ ⟨_, u24, u25, rfl, rfl, rfl, rfl⟩ h37
      have h38 := h37
      simp only [List.cons_append, List.nil_append] at h38
      have h39 := St.nil 72 Memory_.rep h38
      refine op (OpS.alloc (r := (Rep.iso (fun s : Responder_ => (s.Own, s.Queue, s.Memory, ())) (Rep.prod (Rep.int .u8) (Rep.prod (Rep.slice Message_.rep) (Rep.prod (Rep.raw (.slice none 0 0)) Rep.unit))))) h39 ti29 (Zr.iso (y := Responder_.z) _ (Zr.of (Zr.prod (Zr.int .u8 0) (Zr.prod (Zr.slice Message_.rep) (Zr.prod (Zr.raw rfl _) Zr.unit))) (by rfl))) rfl rfl (fun u26 w15 h40 => ?_))
      refine op (OpS.storeC (f' := true) (fr := (Rep.iso (fun s : Responder_ => (s.Own, s.Queue, s.Memory, ())) (Rep.prod (Rep.int .u8) (Rep.prod (Rep.raw u24) (Rep.prod (Rep.raw u25) Rep.unit))))) (r' := (Rep.iso (fun s : Responder_ => (s.Own, s.Queue, s.Memory, ())) (Rep.prod (Rep.int .u8) (Rep.prod (Rep.raw u24) (Rep.prod (Rep.raw u25) Rep.unit))))) (x' := y5) h40 .z PA.z (Chg.id (by rfl)) (Ty.like ty29 (by rfl) (by rfl)) rfl rfl rfl (V.pure (V.at .z) (Pure.iso (Pure.prod Pure.int (Pure.prod Pure.raw (Pure.prod Pure.raw Pure.unit))))) (.inl rfl) (fun w16 h41 => ?_))
      refine RunL.nil ?_
      refine Run.slim [(14, u26), (13, u19), (8, u2), (3, .int .i64 a3)] ⟨rfl, rfl, rfl, rfl, trivial⟩ ?_
      refine Run.seq ?_
      have h42 := (h41.pick (.s (.s .z))).freeze
      have h43 := h42.pick .z
      have h44 := h43.weak
      have h45 := St.boxJ (r' := (Rep.iso (fun s : Responder_ => (s.Own, s.Queue, s.Memory, ())) (Rep.prod (Rep.int .u8) (Rep.prod (Rep.slice Message_.rep) (Rep.prod (Rep.raw u25) Rep.unit))))) (x' := { y5 with Queue := y5.Queue }) h44 (fun _ _ hs_ => (Jn.iso _ (Jn.prod Jn.refl (Jn.prod (Jn.raw ((V.at .z) _ _ hs_) rfl) (Jn.prod Jn.same Jn.refl)))))
      have h46 := h45.picks (.cons .z (.cons (.s .z) (.cons .z (.cons .z (.cons .z (.cons .z .nil))))))
      obtain ⟨x5, e15, hF⟩ := bindP_use hF
      obtain ⟨x6, e16, hF⟩ := bindP_use hF
      obtain ⟨x7, e17, hF⟩ := bindP_use hF
      refine Run.drawV (Ωs := [(true, .slice 72 Memory_.rep (.slice none 0 0) ([])), (true, .box 37 Message_.rep u15 y3.1), (true, .box 29 Responder_.rep u2 Responder_.z), (false, .box 29 Responder_.rep u1 a0)]) [⟨some 57, some ((padd u26 2)), fun _ => [], fun ds_ u_ => [], [], [(0, [])], none⟩, ⟨some 58, some (u25), fun _ => [], fun ds_ u_ => [], [], [(1, [12, 1]), (0, [])], none⟩, ⟨some 59, some ((padd u26 1)), fun _ => [], fun ds_ u_ => [], [], [(0, [])], none⟩, ⟨some 60, none, fun u_ => [(false, .val (Rep.slice Message_.rep) u_ (({ y5 with Queue := y5.Queue }).Queue))], fun ds_ u_ => [], [], [(0, [])], none⟩, ⟨some 61, none, fun u_ => [(false, .ptr Message_.rep u_ x5)], fun ds_ u_ => [], [], [], none⟩, ⟨some 62, none, fun u_ => [(false, .val Message_.rep u_ x5)], fun ds_ u_ => [], [], [], none⟩, ⟨some 63, some (u19), fun _ => [], fun ds_ u_ => [], [], [], none⟩, ⟨some 64, none, fun u_ => [(true, .val (Rep.slice (Rep.int .u8)) u_ x6)], fun ds_ u_ => [], [], [], none⟩, ⟨some 65, some (.int .i64 a3), fun _ => [], fun ds_ u_ => [], [], [], none⟩, ⟨some 66, some (.int .i64 (IntKind.i64.wrap (a3 + 100))), fun _ => [], fun ds_ u_ => [], [], [], none⟩, ⟨some 67, none, fun u_ => [(false, .val Memory_.rep u_ (⟨x5, x6, (IntKind.i64.wrap (a3 + 100))⟩ : Memory_))], fun ds_ u_ => [], [], [], none⟩, ⟨some 68, none, fun u_ => [(false, .val (Rep.slice Memory_.rep) u_ ([(⟨x5, x6, (IntKind.i64.wrap (a3 + 100))⟩ : Memory_)]))], fun ds_ u_ => [], [], [], none⟩, ⟨some 69, none, fun u_ => [], fun ds_ u_ => [(false, .slice 72 Memory_.rep u_ x7)], [1], [], none⟩] [[], [0], [], [2], [3], [4], [], [6], [], [8], [5, 7, 9], [10], [1, 11]] [[(false, .box 29 (Rep.iso (fun s : Responder_ => (s.Own, s.Queue, s.Memory, ())) (Rep.prod (Rep.int .u8) (Rep.prod (Rep.slice Message_.rep) (Rep.prod (Rep.raw u25) Rep.unit)))) u26 ({ y5 with Queue := y5.Queue }))], [(false, .slice 72 Memory_.rep u25 y5.Memory)]] [0, 2, 3, 4, 5, 6, 7, 8, 9, 10, 11, 12, 13, 14] Try_mixed rfl rfl rfl h46 (.cons ?_ (.cons ?_ (.cons ?_ (.cons ?_ (.cons ?_ (.cons ?_ (.cons ?_ (.cons ?_ (.cons ?_ (.cons ?_ (.cons ?_ (.cons ?_ (.cons ?_ .nil))))))))))))) (fun q1 w hq1 h => ?_)
      ·intro q1 w Γx Ωx h
       have h : St e w ([(false, .val (Rep.slice Message_.rep) u24 y5.Queue), (false, .val (Rep.iso (fun s : Responder_ => (s.Own, s.Queue, s.Memory, ())) (Rep.prod (Rep.int .u8) (Rep.prod (Rep.raw u24) (Rep.prod (Rep.raw u25) Rep.unit)))) u23 y5), (false, .val Responder_.rep u22 a0), (true, .val (Rep.slice (Rep.int .u8)) u19 y4.1), (true, .val Message_.rep u18 y3.1), (true, .val Message_.rep u14 y3.1), (false, .val Message_.rep u13 x4), (false, .ptr Message_.rep u12 x4), (false, .val (Rep.slice Message_.rep) u11 a0.Queue), (false, .val (Rep.slice Message_.rep) u8 a0.Queue), (false, .val Responder_.rep u3 a0), (false, .val Responder_.rep v0 a0), (false, .val (Rep.slice (Rep.int .u8)) v2 a2)] ++ Γx) ([(false, .box 29 (Rep.iso (fun s : Responder_ => (s.Own, s.Queue, s.Memory, ())) (Rep.prod (Rep.int .u8) (Rep.prod (Rep.slice Message_.rep) (Rep.prod (Rep.raw u25) Rep.unit)))) u26 ({ y5 with Queue := y5.Queue })), (true, .slice 72 Memory_.rep (.slice none 0 0) ([])), (true, .box 37 Message_.rep u15 y3.1), (true, .box 29 Responder_.rep u2 Responder_.z), (false, .box 29 Responder_.rep u1 a0)] ++ Ωx) := h
       refine OpS.fbox (o3 := 2) h .z PA.z fa29_2 rfl rfl rfl rfl ?_
       exact ⟨undef, rfl, trivial, h⟩
      ·intro q1 w Γx Ωx h
       have h : St e w ([(false, .val (Rep.slice Message_.rep) u24 y5.Queue), (false, .val (Rep.iso (fun s : Responder_ => (s.Own, s.Queue, s.Memory, ())) (Rep.prod (Rep.int .u8) (Rep.prod (Rep.raw u24) (Rep.prod (Rep.raw u25) Rep.unit)))) u23 y5), (false, .val Responder_.rep u22 a0), (true, .val (Rep.slice (Rep.int .u8)) u19 y4.1), (true, .val Message_.rep u18 y3.1), (true, .val Message_.rep u14 y3.1), (false, .val Message_.rep u13 x4), (false, .ptr Message_.rep u12 x4), (false, .val (Rep.slice Message_.rep) u11 a0.Queue), (false, .val (Rep.slice Message_.rep) u8 a0.Queue), (false, .val Responder_.rep u3 a0), (false, .val Responder_.rep v0 a0), (false, .val (Rep.slice (Rep.int .u8)) v2 a2)] ++ Γx) ([(false, .slice 72 Memory_.rep u25 y5.Memory), (false, .box 29 (Rep.iso (fun s : Responder_ => (s.Own, s.Queue, s.Memory, ())) (Rep.prod (Rep.int .u8) (Rep.prod (Rep.slice Message_.rep) (Rep.prod (Rep.raw u25) Rep.unit)))) u26 ({ y5 with Queue := y5.Queue })), (true, .slice 72 Memory_.rep (.slice none 0 0) ([])), (true, .box 37 Message_.rep u15 y3.1), (true, .box 29 Responder_.rep u2 Responder_.z), (false, .box 29 Responder_.rep u1 a0)] ++ Ωx) := h
       refine OpS.loadR h (.s .z) PA.a (GetS.ok (GetS.iso _ (GetS.there (GetS.there (GetS.here GetS.id))))) ty27 rfl rfl rfl rfl rfl ?_
       exact ⟨undef, rfl, trivial, h⟩
      ·intro q1 w Γx Ωx h
       have h : St e w ([(false, .val (Rep.slice Message_.rep) u24 y5.Queue), (false, .val (Rep.iso (fun s : Responder_ => (s.Own, s.Queue, s.Memory, ())) (Rep.prod (Rep.int .u8) (Rep.prod (Rep.raw u24) (Rep.prod (Rep.raw u25) Rep.unit)))) u23 y5), (false, .val Responder_.rep u22 a0), (true, .val (Rep.slice (Rep.int .u8)) u19 y4.1), (true, .val Message_.rep u18 y3.1), (true, .val Message_.rep u14 y3.1), (false, .val Message_.rep u13 x4), (false, .ptr Message_.rep u12 x4), (false, .val (Rep.slice Message_.rep) u11 a0.Queue), (false, .val (Rep.slice Message_.rep) u8 a0.Queue), (false, .val Responder_.rep u3 a0), (false, .val Responder_.rep v0 a0), (false, .val (Rep.slice (Rep.int .u8)) v2 a2)] ++ Γx) ([(false, .box 29 (Rep.iso (fun s : Responder_ => (s.Own, s.Queue, s.Memory, ())) (Rep.prod (Rep.int .u8) (Rep.prod (Rep.slice Message_.rep) (Rep.prod (Rep.raw u25) Rep.unit)))) u26 ({ y5 with Queue := y5.Queue })), (true, .slice 72 Memory_.rep (.slice none 0 0) ([])), (true, .box 37 Message_.rep u15 y3.1), (true, .box 29 Responder_.rep u2 Responder_.z), (false, .box 29 Responder_.rep u1 a0)] ++ Ωx) := h
       refine OpS.fbox (o3 := 1) h .z PA.z fa29_1 rfl rfl rfl rfl ?_
       exact ⟨undef, rfl, trivial, h⟩
      ·intro q1 w Γx Ωx h
       have h : St e w ([(false, .val (Rep.slice Message_.rep) u24 y5.Queue), (false, .val (Rep.iso (fun s : Responder_ => (s.Own, s.Queue, s.Memory, ())) (Rep.prod (Rep.int .u8) (Rep.prod (Rep.raw u24) (Rep.prod (Rep.raw u25) Rep.unit)))) u23 y5), (false, .val Responder_.rep u22 a0), (true, .val (Rep.slice (Rep.int .u8)) u19 y4.1), (true, .val Message_.rep u18 y3.1), (true, .val Message_.rep u14 y3.1), (false, .val Message_.rep u13 x4), (false, .ptr Message_.rep u12 x4), (false, .val (Rep.slice Message_.rep) u11 a0.Queue), (false, .val (Rep.slice Message_.rep) u8 a0.Queue), (false, .val Responder_.rep u3 a0), (false, .val Responder_.rep v0 a0), (false, .val (Rep.slice (Rep.int .u8)) v2 a2)] ++ Γx) ([(false, .box 29 (Rep.iso (fun s : Responder_ => (s.Own, s.Queue, s.Memory, ())) (Rep.prod (Rep.int .u8) (Rep.prod (Rep.slice Message_.rep) (Rep.prod (Rep.raw u25) Rep.unit)))) u26 ({ y5 with Queue := y5.Queue })), (true, .slice 72 Memory_.rep (.slice none 0 0) ([])), (true, .box 37 Message_.rep u15 y3.1), (true, .box 29 Responder_.rep u2 Responder_.z), (false, .box 29 Responder_.rep u1 a0)] ++ Ωx) := h
       refine OpS.loadB (fr := (Rep.slice Message_.rep)) h .z PA.a (GetS.ok (GetS.iso _ (GetS.there (GetS.here GetS.id)))) (Ty.like ty26 (by rfl) (by rfl)) rfl rfl rfl (fun u h55 => ?_)
       exact ⟨u, rfl, trivial, h55⟩
      ·intro q1 w Γx Ωx h
       refine OpS.iptr h Try.underlying26 ty37 rfl rfl rfl rfl (V.at .z) e15 (fun u h56 => ?_)
       exact ⟨u, rfl, trivial, h56⟩
      ·intro q1 w Γx Ωx h
       refine OpS.load h ty37 rfl rfl rfl .z (fun u h57 => ?_)
       exact ⟨u, rfl, trivial, h57⟩
      ·intro q1 w Γx Ωx h
       refine OpS.mv rfl rfl rfl ?_
       exact ⟨undef, rfl, trivial, h⟩
      ·intro q1 w Γx Ωx h
       have h58 := St.nil 5 (Rep.int .u8) h
       refine OpS.app (f' := true) h58 .z Try.underlying22 ti5 rfl rfl rfl rfl rfl rfl rfl (V.at (.s (.s (.s .z)))) (.inr Pure.int) e16 (fun u w20 h59 => ?_)
       exact ⟨u, rfl, trivial, (h59.freeze)⟩
      ·intro q1 w Γx Ωx h
       refine OpS.mv rfl rfl rfl ?_
       exact ⟨undef, rfl, trivial, h⟩
      ·intro q1 w Γx Ωx h
       refine OpS.bin rfl rfl rfl rfl rfl ?_
       exact ⟨undef, rfl, trivial, h⟩
      ·intro q1 w Γx Ωx h
       refine OpS.build (f := false) (x' := (⟨x5, x6, (IntKind.i64.wrap (a3 + 100))⟩ : Memory_)) h pl72 ti72 Memory_.zr rfl rfl rfl (.cons rfl Memory_.f0 rfl (V.at .z) (.cons rfl Memory_.f1 rfl (V.weak (V.at (.s .z))) (.cons rfl Memory_.f2 rfl V.int .nil))) (fun u h60 => ?_)
       exact ⟨u, rfl, trivial, h60⟩
      ·intro q1 w Γx Ωx h
       refine OpS.lit (r := Memory_.rep) (f := false) h Try.underlying27 ti72 rfl rfl rfl rfl rfl (.cons rfl (V.at .z) .nil) rfl rfl (fun u w21 h61 => ?_)
       exact ⟨u, rfl, trivial, h61⟩
      ·intro q1 w Γx Ωx h
       have h : St e w ([(false, .val (Rep.slice Memory_.rep) (q1 11) ([(⟨x5, x6, (IntKind.i64.wrap (a3 + 100))⟩ : Memory_)])), (false, .val (Rep.slice Message_.rep) u24 y5.Queue), (false, .val (Rep.iso (fun s : Responder_ => (s.Own, s.Queue, s.Memory, ())) (Rep.prod (Rep.int .u8) (Rep.prod (Rep.raw u24) (Rep.prod (Rep.raw u25) Rep.unit)))) u23 y5), (false, .val Responder_.rep u22 a0), (true, .val (Rep.slice (Rep.int .u8)) u19 y4.1), (true, .val Message_.rep u18 y3.1), (true, .val Message_.rep u14 y3.1), (false, .val Message_.rep u13 x4), (false, .ptr Message_.rep u12 x4), (false, .val (Rep.slice Message_.rep) u11 a0.Queue), (false, .val (Rep.slice Message_.rep) u8 a0.Queue), (false, .val Responder_.rep u3 a0), (false, .val Responder_.rep v0 a0), (false, .val (Rep.slice (Rep.int .u8)) v2 a2)] ++ Γx) ([(false, .slice 72 Memory_.rep u25 y5.Memory), (true, .slice 72 Memory_.rep (.slice none 0 0) ([])), (true, .box 37 Message_.rep u15 y3.1), (true, .box 29 Responder_.rep u2 Responder_.z), (false, .box 29 Responder_.rep u1 a0)] ++ Ωx) := h
       refine OpS.app (f' := false) h .z Try.underlying27 ti72 rfl rfl rfl rfl rfl rfl rfl (V.at .z) (.inl (.inr rfl)) e17 (fun u w22 h62 => ?_)
       exact ⟨u, rfl, trivial, h62⟩
      have h63 : St e w [(false, .val (Rep.slice Message_.rep) (q1 3) (({ y5 with Queue := y5.Queue }).Queue)), (false, .ptr Message_.rep (q1 4) x5), (false, .val Message_.rep (q1 5) x5), (true, .val (Rep.slice (Rep.int .u8)) (q1 7) x6), (false, .val Memory_.rep (q1 10) (⟨x5, x6, (IntKind.i64.wrap (a3 + 100))⟩ : Memory_)), (false, .val (Rep.slice Memory_.rep) (q1 11) ([(⟨x5, x6, (IntKind.i64.wrap (a3 + 100))⟩ : Memory_)])), (false, .val (Rep.slice Message_.rep) u24 y5.Queue), (false, .val (Rep.iso (fun s : Responder_ => (s.Own, s.Queue, s.Memory, ())) (Rep.prod (Rep.int .u8) (Rep.prod (Rep.raw u24) (Rep.prod (Rep.raw u25) Rep.unit)))) u23 y5), (false, .val Responder_.rep u22 a0), (true, .val (Rep.slice (Rep.int .u8)) u19 y4.1), (true, .val Message_.rep u18 y3.1), (true, .val Message_.rep u14 y3.1), (false, .val Message_.rep u13 x4), (false, .ptr Message_.rep u12 x4), (false, .val (Rep.slice Message_.rep) u11 a0.Queue), (false, .val (Rep.slice Message_.rep) u8 a0.Queue), (false, .val Responder_.rep u3 a0), (false, .val Responder_.rep v0 a0), (false, .val (Rep.slice (Rep.int .u8)) v2 a2)] [(false, .box 29 (Rep.iso (fun s : Responder_ => (s.Own, s.Queue, s.Memory, ())) (Rep.prod (Rep.int .u8) (Rep.prod (Rep.slice Message_.rep) (Rep.prod (Rep.raw u25) Rep.unit)))) u26 ({ y5 with Queue := y5.Queue })), (false, .slice 72 Memory_.rep (q1 12) x7), (true, .slice 72 Memory_.rep (.slice none 0 0) ([])), (true, .box 37 Message_.rep u15 y3.1), (true, .box 29 Responder_.rep u2 Responder_.z), (false, .box 29 Responder_.rep u1 a0)] := h
      refine op (OpS.fbox (o3 := 2) h63 .z PA.z fa29_2 rfl rfl rfl rfl ?_)
      refine op (OpS.storeC (f' := false) (fr := (Rep.raw (q1 12))) (r' := (Rep.iso (fun s : Responder_ => (s.Own, s.Queue, s.Memory, ())) (Rep.prod (Rep.int .u8) (Rep.prod (Rep.slice Message_.rep) (Rep.prod (Rep.raw (q1 12)) Rep.unit))))) (x' := { y5 with Queue := y5.Queue }) h63 .z PA.a (Chg.iso _ (Chg.there (Chg.there (Chg.here (Chg.id (by rfl)))))) (Ty.like ty27 (by rfl) (by rfl)) rfl rfl rfl (V.raw (f := false) (St.own1 h63 (.s .z)) (({ y5 with Queue := y5.Queue }).Memory)) (.inr rfl) (fun w23 h64 => ?_))
      refine RunL.nil ?_
      refine Run.slim [(14, u26), (13, u19), (8, u2)] ⟨rfl, rfl, rfl, trivial⟩ ?_
      refine Run.seq ?_
      refine Run.reg ?_
      refine op (OpS.fbox (o3 := 1) h64 .z PA.z fa29_1 rfl rfl rfl rfl ?_)
      refine op (OpS.loadB (fr := (Rep.slice Message_.rep)) h64 .z PA.a (GetS.ok (GetS.iso _ (GetS.there (GetS.here GetS.id)))) (Ty.like ty26 (by rfl) (by rfl)) rfl rfl rfl (fun u27 h65 => ?_))
      obtain ⟨x8, e18, hF⟩ := bindP_use hF
      refine op (OpS.sub h65 Try.underlying26 ty37 rfl rfl rfl rfl rfl (V.at .z) e18 (fun u28 h66 => ?_))
      refine op (OpS.fbox (o3 := 1) h66 .z PA.z fa29_1 rfl rfl rfl rfl ?_)
      obtain ⟨d1, e19, hF⟩ := letP_use hF
      refine op (OpS.storeC (f' := false) (fr := (Rep.slice Message_.rep)) (r' := (Rep.iso (fun s : Responder_ => (s.Own, s.Queue, s.Memory, ())) (Rep.prod (Rep.int .u8) (Rep.prod (Rep.slice Message_.rep) (Rep.prod (Rep.raw (q1 12)) Rep.unit))))) (x' := d1) h66 .z PA.a (Chg.of (x' := { { y5 with Queue := y5.Queue } with Queue := x8 }) (Chg.iso _ (Chg.there (Chg.here (Chg.id (by rfl))))) e19) ty26 rfl rfl rfl (V.at .z) (.inr rfl) (fun w24 h67 => ?_))
      refine RunL.nil ?_
      refine Run.slim [(14, u26), (13, u19), (8, u2)] ⟨rfl, rfl, rfl, trivial⟩ ?_
      refine Run.seq ?_
      refine Run.reg ?_
      refine op (OpS.loadB (fr := (Rep.iso (fun s : Responder_ => (s.Own, s.Queue, s.Memory, ())) (Rep.prod (Rep.int .u8) (Rep.prod (Rep.slice Message_.rep) (Rep.prod (Rep.raw (q1 12)) Rep.unit))))) h67 .z PA.z (GetS.ok GetS.id) (Ty.like ty29 (by rfl) (by rfl)) rfl rfl rfl (fun u29 h68 => ?_))
      refine op (OpS.mv rfl rfl rfl ?_)
      have h69 := (h68.pick (.s (.s (.s (.s .z))))).weak
      refine op (OpS.storeC (f' := false) (fr := (Rep.iso (fun s : Responder_ => (s.Own, s.Queue, s.Memory, ())) (Rep.prod (Rep.int .u8) (Rep.prod (Rep.slice Message_.rep) (Rep.prod (Rep.raw (q1 12)) Rep.unit))))) (r' := (Rep.iso (fun s : Responder_ => (s.Own, s.Queue, s.Memory, ())) (Rep.prod (Rep.int .u8) (Rep.prod (Rep.slice Message_.rep) (Rep.prod (Rep.raw (q1 12)) Rep.unit))))) (x' := d1) h69 .z PA.z (Chg.id (by rfl)) (Ty.like ty29 (by rfl) (by rfl)) rfl rfl rfl (V.at .z) (.inr rfl) (fun w25 h70 => ?_))
      refine op (OpS.as rfl rfl rfl ?_)
      refine op (OpS.as rfl rfl rfl ?_)
      refine RunL.nil ?_
      refine Run.slim [(10, .int .i64 0), (9, u19), (8, u2)] ⟨rfl, rfl, rfl, trivial⟩ ?_
      have h72 := (h70.pick (.s (.s .z))).freeze
      have h73 := h72.pick .z
      have h74 := St.boxJ (r' := Responder_.rep) (x' := { d1 with Memory := x7 }) h73 (fun _ _ hs_ => (Jn.iso _ (Jn.prod Jn.refl (Jn.prod Jn.refl (Jn.prod (Jn.raw ((V.at .z) _ _ hs_) rfl) Jn.refl)))))
      have h75 := h74.pick (.s .z)
      have h76 := St.boxJ (r' := Responder_.rep) (x' := { d1 with Memory := x7 }) h75 (fun _ _ hs_ => (Jn.iso _ (Jn.prod Jn.refl (Jn.prod Jn.refl (Jn.prod (Jn.raw ((V.at .z) _ _ hs_) rfl) Jn.refl)))))
      obtain ⟨u30, hu6, h71⟩ := res_box h76 (.s .z) ty29
      refine Run.retP rfl (.cell rfl hu6 (.tmp rfl (.tmp rfl .nil))) ?_
      cases hF
      exact Post.mk' ⟨u30, u19, rfl, rfl, rfl, rfl⟩ (h71.picks .nil) (.val (V.at .z) (.val (V.at (.s (.s (.s (.s (.s (.s (.s (.s (.s (.s (.s (.s (.s (.s .z))))))))))))))) .nil))
set_option maxHeartbeats 8000000 in
theorem law25_play_ok {fuel : Nat} {a0 : field_Codes} {a1 : Int} {y : Responder_ × Int × field_Codes} (hF : law25_play fuel a0 a1 = some y) {w : World} {v0 : Value} :
  Spec Try.prog 21 [v0, .int .i64 a1].toArray w [] [(false, .box 64 field_Codes.rep v0 a0)] (fun v Γr Ωr Ωo => ∃ u0 : Value, v = .tuple #[u0, .int .i64 y.2.1] ∧ Γr = [(false, .val Responder_.rep u0 y.1)] ∧ Ωr = [] ∧ Ωo = [(false, .box 64 field_Codes.rep v0 y.2.2)]) := by
 refine Spec.of (L := [(0, v0), (1, .int .i64 a1)]) Try.func21 rfl ⟨rfl, rfl, trivial⟩ rfl (fun e h => ?_)
 unfold law25_play at hF
 refine Run.seq ?_
 refine Run.reg ?_
 refine op (OpS.alloc h ti29 Responder_.zr rfl rfl (fun u1 w1 h1 => ?_))
 refine op (OpS.as rfl rfl rfl ?_)
 refine RunL.nil ?_
 refine Run.slim [(4, u1), (0, v0), (1, .int .i64 a1)] ⟨rfl, rfl, rfl, trivial⟩ ?_
 refine Run.seq ?_
 refine Run.reg ?_
 obtain ⟨y1, e1, hF⟩ := bindP_use hF
 refine op (OpS.callP h1 Try.func22 rfl rfl rfl rfl (vs := [.int .u8 32]) rfl (ref25_New_ok e1) .nil ?_)
 rintro _ w2 _ _ _ ⟨u2, rfl, rfl, rfl, rfl⟩ h2
 have h3 := h2 rfl rfl
 simp only [List.cons_append, List.nil_append] at h3
 refine op (OpS.mv rfl rfl rfl ?_)
 refine op (OpS.ext rfl rfl rfl rfl ?_)
 refine op (OpS.ext rfl rfl rfl rfl ?_)
 refine op (OpS.alloc h3 ti29 Responder_.zr rfl rfl (fun u3 w3 h4 => ?_))
 refine op (OpS.storeB (f' := true) h4 .z PA.z Put.id ty29 rfl rfl rfl (V.at .z) (.inl rfl) (fun w4 h5 => ?_))
 refine op (OpS.as rfl rfl rfl ?_)
 refine RunL.nil ?_
 refine Run.slim [(6, u3), (4, u1), (0, v0), (1, .int .i64 a1)] ⟨rfl, rfl, rfl, rfl, trivial⟩ ?_
 refine Run.seq ?_
 refine Run.reg ?_
 refine op (OpS.as rfl rfl rfl ?_)
 refine RunL.nil ?_
 refine Run.seq ?_
 refine Run.seq ?_
 refine Run.reg ?_
 refine op (OpS.mv rfl rfl rfl ?_)
 refine op (OpS.mv rfl rfl rfl ?_)
 refine op (OpS.bin rfl rfl rfl rfl rfl ?_)
 obtain ⟨y2, e2, hF⟩ := bindP_use hF
 have h6 := h5.front (.cons (.s (.s .z)) .nil)
 refine op (OpS.callO h6 Try.func12 rfl rfl rfl rfl (vs := [v0, .int .i64 (IntKind.i64.wrap (a1 + 1))]) rfl (field_Codes_Next_ok e2) rfl .nil ?_)
 rintro _ w5 _ _ _ ⟨rfl, rfl, rfl, rfl⟩ h7
 have h8 := h7
 simp only [List.cons_append, List.nil_append] at h8
 refine op (OpS.as rfl rfl rfl ?_)
 refine RunL.nil ?_
 refine Run.slim [(9, .int .i64 y2.1), (8, .int .i64 0), (6, u3), (4, u1), (0, v0)] ⟨rfl, rfl, rfl, rfl, rfl, trivial⟩ ?_
 refine Run.block ?_
 have h9 := (h8.pick (.s .z)).weak
 refine Run.slim [(0, v0), (4, u1), (6, u3), (8, .int .i64 0), (9, .int .i64 y2.1)] ⟨rfl, rfl, rfl, rfl, rfl, trivial⟩ ?_
 refine Run.loopP (σ := (Int × Int × field_Codes × Responder_)) (fun s_ L_ w_ => L_ = [(0, v0), (4, u1), (6, u3), (8, .int .i64 s_.1), (9, .int .i64 s_.2.1)] ∧ St e w_ [] [(false, .box 64 field_Codes.rep v0 s_.2.2.1), (true, .box 29 Responder_.rep u1 Responder_.z), (false, .box 29 Responder_.rep u3 s_.2.2.2)]) hF ⟨rfl, (h9.facts .nil).picks (.cons (.s .z) (.cons (.s .z) (.cons .z .nil)))⟩ (fun k1 hk1 s1 _ w6 hI hF => ?_)
 obtain ⟨rfl, h10⟩ := hI
 refine Run.seq ?_
 refine Run.seq ?_
 refine Run.reg ?_
 refine op (OpS.mv rfl rfl rfl ?_)
 refine op (OpS.bin rfl rfl rfl rfl rfl ?_)
 refine RunL.nil ?_
 refine Run.slim [(27, .bool (decide (s1.2.1 > 0))), (0, v0), (4, u1), (6, u3), (8, .int .i64 s1.1), (9, .int .i64 s1.2.1)] ⟨rfl, rfl, rfl, rfl, rfl, rfl, trivial⟩ ?_
 refine Run.ite rfl hF (fun e3 hF => ?_) (fun e3 hF => ?_)
 ·
  refine Run.skip ?_
  refine Run.seq ?_
  refine Run.block ?_
  refine Run.seq ?_
  refine Run.seq ?_
  refine Run.reg ?_
  refine op (OpS.mv rfl rfl rfl ?_)
  obtain ⟨y3, e4, hF⟩ := bindP_use hF
  have h11 := h10.front (.cons .z .nil)
  refine op (OpS.callO h11 Try.func12 rfl rfl rfl rfl (vs := [v0, .int .i64 3]) rfl (field_Codes_Next_ok e4) rfl .nil ?_)
  rintro _ w7 _ _ _ ⟨rfl, rfl, rfl, rfl⟩ h12
  have h13 := h12
  simp only [List.cons_append, List.nil_append] at h13
  refine op (OpS.bin rfl rfl rfl rfl rfl ?_)
  refine RunL.nil ?_
  refine Run.slim [(32, .bool (decide (y3.1 < 2))), (0, v0), (4, u1), (6, u3), (8, .int .i64 s1.1), (9, .int .i64 s1.2.1)] ⟨rfl, rfl, rfl, rfl, rfl, rfl, trivial⟩ ?_
  refine Run.join (σ := (field_Codes × Responder_)) (fun s_ L_ w_ => L_ = [(0, v0), (4, u1), (6, u3), (8, .int .i64 s1.1), (9, .int .i64 s1.2.1)] ∧ St e w_ [] [(false, .box 64 field_Codes.rep v0 s_.1), (true, .box 29 Responder_.rep u1 Responder_.z), (false, .box 29 Responder_.rep u3 s_.2)]) hF (fun s2 _ w8 hI hF => ?_) (fun j1 hj1 hF => ?_)
  ·
   obtain ⟨rfl, h14⟩ := hI
   refine Run.reg ?_
   refine op (OpS.mv rfl rfl rfl ?_)
   refine op (OpS.mv rfl rfl rfl ?_)
   obtain ⟨y4, e5, hF⟩ := bindP_use hF
   have h15 := h14.front (.cons .z .nil)
   refine op (OpS.callO h15 Try.func12 rfl rfl rfl rfl (vs := [v0, .int .i64 3]) rfl (field_Codes_Next_ok e5) rfl .nil ?_)
   rintro _ w9 _ _ _ ⟨rfl, rfl, rfl, rfl⟩ h16
   have h17 := h16
   simp only [List.cons_append, List.nil_append] at h17
   refine op (OpS.mv rfl rfl rfl ?_)
   obtain ⟨y5, e6, hF⟩ := bindP_use hF
   have h18 := h17.front (.cons .z .nil)
   refine op (OpS.callO h18 Try.func12 rfl rfl rfl rfl (vs := [v0, .int .i64 40]) rfl (field_Codes_Next_ok e6) rfl .nil ?_)
   rintro _ w10 _ _ _ ⟨rfl, rfl, rfl, rfl⟩ h19
   have h20 := h19
   simp only [List.cons_append, List.nil_append] at h20
   refine op (OpS.bin rfl rfl rfl rfl rfl ?_)
   refine op (OpS.bin rfl rfl rfl rfl rfl ?_)
   refine op (OpS.as rfl rfl rfl ?_)
   obtain ⟨x1, e7, hF⟩ := letP_use hF
   refine RunL.name e7 ?_
   refine RunL.nil ?_
   refine Run.slim [(8, .int .i64 x1), (0, v0), (4, u1), (6, u3), (9, .int .i64 s1.2.1)] ⟨rfl, rfl, rfl, rfl, rfl, trivial⟩ ?_
   refine Run.endBlock ?_
   refine Run.reg ?_
   refine op (OpS.mv rfl rfl rfl ?_)
   refine op (OpS.bin rfl rfl rfl rfl rfl ?_)
   refine op (OpS.as rfl rfl rfl ?_)
   obtain ⟨x2, e8, hF⟩ := letP_use hF
   refine RunL.name e8 ?_
   refine RunL.nil ?_
   refine Run.slim [(9, .int .i64 x2), (8, .int .i64 x1), (0, v0), (4, u1), (6, u3)] ⟨rfl, rfl, rfl, rfl, rfl, trivial⟩ ?_
   refine Run.slim [(0, v0), (4, u1), (6, u3), (8, .int .i64 x1), (9, .int .i64 x2)] ⟨rfl, rfl, rfl, rfl, rfl, trivial⟩ ?_
   exact hk1 (x1, x2, y5.2, s2.2) _ _ ⟨rfl, (h20.facts .nil).picks (.cons .z (.cons .z (.cons .z .nil)))⟩ hF
  ·
   refine Run.ite rfl hF (fun e9 hF => ?_) (fun e9 hF => ?_)
   ·
    refine Run.seq ?_
    refine Run.reg ?_
    refine op (OpS.mv rfl rfl rfl ?_)
    obtain ⟨y6, e10, hF⟩ := bindP_use hF
    have h21 := h13.front (.cons .z .nil)
    refine op (OpS.callO h21 Try.func26 rfl rfl rfl rfl (vs := [v0, .int .u8 32]) rfl (field_Codes_Request_ok e10) rfl .nil ?_)
    rintro u4 w11 _ _ _ ⟨_, rfl, rfl, rfl, rfl⟩ h22
    have h23 := h22
    simp only [List.cons_append, List.nil_append] at h23
    obtain ⟨y7, e11, hF⟩ := bindP_use hF
    refine op (OpS.callP h23 Try.func27 rfl rfl rfl rfl (vs := [u4]) rfl (ref23_Request_ok e11) (.cons (f := true) (V.at .z) .nil) ?_)
    rintro _ w12 _ _ _ ⟨u5, rfl, rfl, rfl, rfl⟩ h24
    have h25 := h24 rfl rfl
    simp only [List.cons_append, List.nil_append] at h25
    refine op (OpS.mv rfl rfl rfl ?_)
    refine op (OpS.ext rfl rfl rfl rfl ?_)
    refine op (OpS.ext rfl rfl rfl rfl ?_)
    refine op (OpS.as rfl rfl rfl ?_)
    have h26 := (h25.pick .z).freeze
    refine op (OpS.as rfl rfl rfl ?_)
    refine RunL.nil ?_
    refine Run.slim [(10, u5), (0, v0), (4, u1), (6, u3), (8, .int .i64 s1.1), (9, .int .i64 s1.2.1)] ⟨rfl, rfl, rfl, rfl, rfl, rfl, trivial⟩ ?_
    refine Run.seq ?_
    refine Run.reg ?_
    refine op (OpS.loadB h26 (.s (.s .z)) PA.z Get.id ty29 rfl rfl rfl (fun u6 h27 => ?_))
    refine op (OpS.mv rfl rfl rfl ?_)
    refine op (OpS.mv rfl rfl rfl ?_)
    obtain ⟨y8, e12, hF⟩ := bindP_use hF
    have h28 := h27.front .nil
    refine op (OpS.callO h28 Try.func31 rfl rfl rfl rfl (vs := [u6, u5, .int .i64 s1.1]) rfl (ref25_Accept_ok e12) rfl (.cons (f := false) (V.at .z) (.cons (f := true) (V.at (.s .z)) .nil)) ?_)
    rintro _ w13 _ _ _ ⟨u7, u8, rfl, rfl, rfl, rfl⟩ h29
    have h30 := h29
    simp only [List.cons_append, List.nil_append] at h30
    refine op (OpS.mv rfl rfl rfl ?_)
    refine op (OpS.ext rfl rfl rfl rfl ?_)
    refine op (OpS.ext rfl rfl rfl rfl ?_)
    refine op (OpS.ext rfl rfl rfl rfl ?_)
    refine op (OpS.alloc h30 ti29 Responder_.zr rfl rfl (fun u9 w14 h31 => ?_))
    have h32 := (h31.pick .z).weak
    refine op (OpS.storeB (f' := false) h32 .z PA.z Put.id ty29 rfl rfl rfl (V.at .z) (.inr rfl) (fun w15 h33 => ?_))
    refine op (OpS.as rfl rfl rfl ?_)
    refine op (OpS.as rfl rfl rfl ?_)
    refine RunL.nil ?_
    refine Run.slim [(14, .int .i64 y8.2.2), (12, u9), (0, v0), (4, u1), (6, u3), (8, .int .i64 s1.1), (9, .int .i64 s1.2.1)] ⟨rfl, rfl, rfl, rfl, rfl, rfl, rfl, trivial⟩ ?_
    refine Run.seq ?_
    refine Run.reg ?_
    refine op (OpS.mv rfl rfl rfl ?_)
    refine op (OpS.bin rfl rfl rfl rfl rfl ?_)
    refine RunL.nil ?_
    refine Run.slim [(48, .bool (y8.2.2 == 0)), (12, u9), (0, v0), (4, u1), (6, u3), (8, .int .i64 s1.1), (9, .int .i64 s1.2.1)] ⟨rfl, rfl, rfl, rfl, rfl, rfl, rfl, trivial⟩ ?_
    refine Run.ite rfl hF (fun e13 hF => ?_) (fun e13 hF => ?_)
    ·
     refine Run.reg ?_
     refine op (OpS.loadB h33 .z PA.z Get.id ty29 rfl rfl rfl (fun u10 h34 => ?_))
     refine op (OpS.storeB (f' := false) h34 (.s (.s (.s .z))) PA.z Put.id ty29 rfl rfl rfl (V.at .z) (.inr rfl) (fun w16 h35 => ?_))
     refine RunL.nil ?_
     refine Run.slim [(0, v0), (4, u1), (6, u3), (8, .int .i64 s1.1), (9, .int .i64 s1.2.1)] ⟨rfl, rfl, rfl, rfl, rfl, trivial⟩ ?_
     refine Run.slim [(0, v0), (4, u1), (6, u3), (8, .int .i64 s1.1), (9, .int .i64 s1.2.1)] ⟨rfl, rfl, rfl, rfl, rfl, trivial⟩ ?_
     exact hj1 (y6.2, y8.1) _ _ ⟨rfl, (h35.facts .nil).picks (.cons (.s (.s .z)) (.cons (.s (.s .z)) (.cons .z .nil)))⟩ hF
    ·
     refine Run.skip ?_
     refine Run.slim [(0, v0), (4, u1), (6, u3), (8, .int .i64 s1.1), (9, .int .i64 s1.2.1)] ⟨rfl, rfl, rfl, rfl, rfl, trivial⟩ ?_
     exact hj1 (y6.2, s1.2.2.2) _ _ ⟨rfl, (h33.facts .nil).picks (.cons (.s .z) (.cons (.s .z) (.cons (.s .z) .nil)))⟩ hF
   ·
    refine Run.seq ?_
    have h36 := h13.picks (.cons .z (.cons (.s .z) (.cons .z .nil)))
    obtain ⟨y9, e14, hF⟩ := bindP_use hF
    obtain ⟨y10, e15, hF⟩ := bindP_use hF
    obtain ⟨y11, e16, hF⟩ := bindP_use hF
    refine Run.drawV (Ωs := [(true, .box 29 Responder_.rep u1 Responder_.z)]) [⟨some 51, none, fun u_ => [(false, .val Responder_.rep u_ s1.2.2.2)], fun ds_ u_ => [], [], [(1, [])], none⟩, ⟨some 52, some (v0), fun _ => [], fun ds_ u_ => [], [], [], none⟩, ⟨some 53, some (.int .i64 y9.1), fun _ => [], fun ds_ u_ => [(false, .box 64 field_Codes.rep v0 y9.2)], [0], [], none⟩, ⟨some 54, some (.int .u8 (IntKind.u8.wrap y9.1)), fun _ => [], fun ds_ u_ => [], [], [], none⟩, ⟨some 55, some (v0), fun _ => [], fun ds_ u_ => [], [], [], none⟩, ⟨some 56, none, fun u_ => [(true, .val (Rep.slice (Rep.int .u8)) u_ y10.1)], fun ds_ u_ => [(false, .box 64 field_Codes.rep v0 y10.2)], [4], [], none⟩, ⟨some 57, some (.int .i64 s1.1), fun _ => [], fun ds_ u_ => [], [], [], none⟩, ⟨some 58, none, fun u_ => [(true, .eqv u_ (.tuple #[(tcomp u_ 0), (tcomp u_ 1), .int .i64 y11.2.2])), (false, .val Responder_.rep (tcomp u_ 0) y11.1), (true, .val (Rep.slice (Rep.int .u8)) (tcomp u_ 1) y11.2.1)], fun ds_ u_ => [], [], [], none⟩, ⟨some 50, none, fun u_ => [(true, .eqv u_ (.tuple #[(tcomp u_ 0), (tcomp u_ 1), .int .i64 y11.2.2])), (false, .val Responder_.rep (tcomp u_ 0) y11.1), (true, .val (Rep.slice (Rep.int .u8)) (tcomp u_ 1) y11.2.1)], fun ds_ u_ => [], [], [], none⟩, ⟨some 59, none, fun u_ => [(false, .val Responder_.rep u_ y11.1)], fun ds_ u_ => [], [], [], none⟩, ⟨some 60, none, fun u_ => [(true, .val (Rep.slice (Rep.int .u8)) u_ y11.2.1)], fun ds_ u_ => [], [], [], none⟩, ⟨some 61, some (.int .i64 y11.2.2), fun _ => [], fun ds_ u_ => [], [], [], none⟩, ⟨some 15, none, fun u_ => [], fun ds_ u_ => [(true, .box 29 Responder_.rep u_ Responder_.z)], [], [], none⟩, ⟨none, some undef, fun _ => [], fun ds_ u_ => [(false, .box 29 Responder_.rep (nth ds_ 0) y11.1)], [14], [], none⟩, ⟨some 16, none, fun u_ => [(true, .val (Rep.slice (Rep.int .u8)) u_ y11.2.1)], fun ds_ u_ => [], [], [], none⟩] [[], [], [1], [2], [], [4], [], [0, 3, 5, 6], [7], [8], [8], [8], [], [12, 9], [10]] [[(false, .box 64 field_Codes.rep v0 y3.2)], [(false, .box 29 Responder_.rep u3 s1.2.2.2)]] [1, 2, 3, 5, 6, 7, 8, 9, 10, 11, 12, 13, 15, 16] Try_mixed rfl rfl rfl h36 (.cons ?_ (.cons ?_ (.cons ?_ (.cons ?_ (.cons ?_ (.cons ?_ (.cons ?_ (.cons ?_ (.cons ?_ (.cons ?_ (.cons ?_ (.cons ?_ (.cons ?_ (.cons ?_ (.cons ?_ .nil))))))))))))))) (fun q1 w hq1 h => ?_)
    ·intro q1 w Γx Ωx h
     have h : St e w ([] ++ Γx) ([(false, .box 29 Responder_.rep u3 s1.2.2.2), (true, .box 29 Responder_.rep u1 Responder_.z)] ++ Ωx) := h
     refine OpS.loadB h .z PA.z Get.id ty29 rfl rfl rfl (fun u h51 => ?_)
     exact ⟨u, rfl, trivial, h51⟩
    ·intro q1 w Γx Ωx h
     refine OpS.mv rfl rfl rfl ?_
     exact ⟨undef, rfl, trivial, h⟩
    ·intro q1 w Γx Ωx h
     have h : St e w ([] ++ Γx) ([(false, .box 64 field_Codes.rep v0 y3.2), (true, .box 29 Responder_.rep u1 Responder_.z)] ++ Ωx) := h
     have h52 := h.front (.cons .z .nil)
     refine OpS.callO h52 Try.func12 rfl rfl rfl rfl (vs := [v0, .int .i64 2]) rfl (field_Codes_Next_ok e14) rfl .nil ?_
     rintro _ w22 _ _ _ ⟨rfl, rfl, rfl, rfl⟩ h53
     have h54 := h53
     simp only [List.cons_append, List.nil_append] at h54
     exact ⟨undef, rfl, trivial, h54⟩
    ·intro q1 w Γx Ωx h
     refine OpS.conv Try.underlying3 Try.underlying5 rfl rfl rfl ?_
     exact ⟨undef, rfl, trivial, h⟩
    ·intro q1 w Γx Ωx h
     refine OpS.mv rfl rfl rfl ?_
     exact ⟨undef, rfl, trivial, h⟩
    ·intro q1 w Γx Ωx h
     have h : St e w ([] ++ Γx) ([(false, .box 64 field_Codes.rep v0 y9.2), (true, .box 29 Responder_.rep u1 Responder_.z)] ++ Ωx) := h
     have h55 := h.front (.cons .z .nil)
     refine OpS.callO h55 Try.func50 rfl rfl rfl rfl (vs := [v0, .int .i64 2]) rfl (field_Codes_Bytes_ok e15) rfl .nil ?_
     rintro u w23 _ _ _ ⟨_, rfl, rfl, rfl, rfl⟩ h56
     have h57 := h56
     simp only [List.cons_append, List.nil_append] at h57
     have h58 := h57.freeze
     exact ⟨u, rfl, trivial, h58⟩
    ·intro q1 w Γx Ωx h
     refine OpS.mv rfl rfl rfl ?_
     exact ⟨undef, rfl, trivial, h⟩
    ·intro q1 w Γx Ωx h
     have h59 := h.front .nil
     refine OpS.callO h59 Try.func33 rfl rfl rfl rfl (vs := [(q1 0), .int .u8 (IntKind.u8.wrap y9.1), (q1 5), .int .i64 s1.1]) rfl (ref25_Done_ok e16) rfl (.cons (f := false) (V.at .z) (.cons (f := true) (V.at (.s .z)) .nil)) ?_
     rintro _ w24 _ _ _ ⟨u13, u14, rfl, rfl, rfl, rfl⟩ h60
     have h61 := h60
     simp only [List.cons_append, List.nil_append] at h61
     exact ⟨_, rfl, trivial, St.eqv rfl h61⟩
    ·intro q1 w Γx Ωx h
     refine OpS.mv rfl rfl rfl ?_
     exact ⟨_, rfl, trivial, (((h.dup (.s (.s .z))).dup (.s (.s .z))).dup (.s (.s .z)))⟩
    ·intro q1 w Γx Ωx h
     refine OpS.extT h .z rfl rfl rfl rfl ?_
     exact ⟨_, rfl, trivial, (h.dup (.s .z))⟩
    ·intro q1 w Γx Ωx h
     refine OpS.extT h .z rfl rfl rfl rfl ?_
     exact ⟨_, rfl, trivial, (h.dup (.s (.s .z)))⟩
    ·intro q1 w Γx Ωx h
     refine OpS.extT h .z rfl rfl rfl rfl ?_
     exact ⟨undef, rfl, trivial, h⟩
    ·intro q1 w Γx Ωx h
     refine OpS.alloc h ti29 Responder_.zr rfl rfl (fun u w25 h62 => ?_)
     exact ⟨u, rfl, trivial, h62⟩
    ·intro q1 w Γx Ωx h
     have h : St e w ([(false, .val Responder_.rep (q1 9) y11.1)] ++ Γx) ([(true, .box 29 Responder_.rep (q1 12) Responder_.z), (true, .box 29 Responder_.rep u1 Responder_.z)] ++ Ωx) := h
     have h63 := (h.pick .z).weak
     refine OpS.storeB (f' := false) h63 .z PA.z Put.id ty29 rfl rfl rfl (V.at .z) (.inr rfl) (fun w26 h64 => ?_)
     exact ⟨undef, trivial, trivial, h64⟩
    ·intro q1 w Γx Ωx h
     refine OpS.as rfl rfl rfl ?_
     exact ⟨_, rfl, trivial, (h.dup .z)⟩
    have h65 : St e w [(false, .val Responder_.rep (q1 0) s1.2.2.2), (true, .val (Rep.slice (Rep.int .u8)) (q1 5) y10.1), (true, .eqv (q1 7) (.tuple #[(tcomp (q1 7) 0), (tcomp (q1 7) 1), .int .i64 y11.2.2])), (false, .val Responder_.rep (tcomp (q1 7) 0) y11.1), (true, .val (Rep.slice (Rep.int .u8)) (tcomp (q1 7) 1) y11.2.1), (true, .eqv (q1 8) (.tuple #[(tcomp (q1 8) 0), (tcomp (q1 8) 1), .int .i64 y11.2.2])), (false, .val Responder_.rep (tcomp (q1 8) 0) y11.1), (true, .val (Rep.slice (Rep.int .u8)) (tcomp (q1 8) 1) y11.2.1), (false, .val Responder_.rep (q1 9) y11.1), (true, .val (Rep.slice (Rep.int .u8)) (q1 10) y11.2.1), (true, .val (Rep.slice (Rep.int .u8)) (q1 14) y11.2.1)] [(false, .box 29 Responder_.rep u3 s1.2.2.2), (false, .box 64 field_Codes.rep v0 y10.2), (false, .box 29 Responder_.rep (q1 12) y11.1), (true, .box 29 Responder_.rep u1 Responder_.z)] := h
    refine op (OpS.as rfl rfl rfl ?_)
    refine RunL.nil ?_
    refine Run.slim [(17, .int .i64 y11.2.2), (15, (q1 12)), (0, v0), (4, u1), (6, u3), (8, .int .i64 s1.1), (9, .int .i64 s1.2.1)] ⟨rfl, rfl, rfl, rfl, rfl, rfl, rfl, trivial⟩ ?_
    refine Run.seq ?_
    refine Run.reg ?_
    refine op (OpS.mv rfl rfl rfl ?_)
    refine op (OpS.bin rfl rfl rfl rfl rfl ?_)
    refine RunL.nil ?_
    refine Run.slim [(63, .bool (y11.2.2 == 0)), (15, (q1 12)), (0, v0), (4, u1), (6, u3), (8, .int .i64 s1.1), (9, .int .i64 s1.2.1)] ⟨rfl, rfl, rfl, rfl, rfl, rfl, rfl, trivial⟩ ?_
    refine Run.ite rfl hF (fun e17 hF => ?_) (fun e17 hF => ?_)
    ·
     refine Run.reg ?_
     refine op (OpS.loadB h65 (.s (.s .z)) PA.z Get.id ty29 rfl rfl rfl (fun u15 h66 => ?_))
     refine op (OpS.storeB (f' := false) h66 .z PA.z Put.id ty29 rfl rfl rfl (V.at .z) (.inr rfl) (fun w27 h67 => ?_))
     refine RunL.nil ?_
     refine Run.slim [(0, v0), (4, u1), (6, u3), (8, .int .i64 s1.1), (9, .int .i64 s1.2.1)] ⟨rfl, rfl, rfl, rfl, rfl, trivial⟩ ?_
     refine Run.slim [(0, v0), (4, u1), (6, u3), (8, .int .i64 s1.1), (9, .int .i64 s1.2.1)] ⟨rfl, rfl, rfl, rfl, rfl, trivial⟩ ?_
     exact hj1 (y10.2, y11.1) _ _ ⟨rfl, (h67.facts .nil).picks (.cons (.s .z) (.cons (.s (.s .z)) (.cons .z .nil)))⟩ hF
    ·
     refine Run.skip ?_
     refine Run.slim [(0, v0), (4, u1), (6, u3), (8, .int .i64 s1.1), (9, .int .i64 s1.2.1)] ⟨rfl, rfl, rfl, rfl, rfl, trivial⟩ ?_
     exact hj1 (y10.2, s1.2.2.2) _ _ ⟨rfl, (h65.facts .nil).picks (.cons (.s .z) (.cons (.s (.s .z)) (.cons .z .nil)))⟩ hF
 ·
  refine Run.exit rfl ?_
  refine Run.seq ?_
  refine Run.reg ?_
  refine op (OpS.loadB h10 (.s (.s .z)) PA.z Get.id ty29 rfl rfl rfl (fun u16 h68 => ?_))
  refine op (OpS.mv rfl rfl rfl ?_)
  have h69 := (h68.pick (.s .z)).weak
  refine op (OpS.storeB (f' := false) h69 .z PA.z Put.id ty29 rfl rfl rfl (V.at .z) (.inr rfl) (fun w28 h70 => ?_))
  refine op (OpS.as rfl rfl rfl ?_)
  refine RunL.nil ?_
  refine Run.slim [(5, .int .i64 s1.1), (4, u1)] ⟨rfl, rfl, trivial⟩ ?_
  obtain ⟨u17, hu1, h71⟩ := res_box h70 .z ty29
  refine Run.retP rfl (.cell rfl hu1 (.tmp rfl .nil)) ?_
  cases hF
  exact Post.mk' ⟨u17, rfl, rfl, rfl, rfl⟩ (h71.picks (.cons (.s .z) .nil)) (.val (V.at .z) .nil)
theorem ref24_SameMessages_ok {fuel : Nat} {a0 : List Message_} {a1 : List Message_} {y : Bool} (hF : ref24_SameMessages fuel a0 a1 = some y) {w : World} {v0 v1 : Value} :
  Spec Try.prog 51 [v0, v1].toArray w [(false, .val (Rep.slice Message_.rep) v0 a0), (false, .val (Rep.slice Message_.rep) v1 a1)] [] (fun v Γr Ωr Ωo => v = .bool y ∧ Γr = [] ∧ Ωr = [] ∧ Ωo = []) := by
 refine Spec.of (L := [(0, v0), (1, v1)]) Try.func51 rfl ⟨rfl, rfl, trivial⟩ rfl (fun e h => ?_)
 unfold ref24_SameMessages at hF
 refine Run.seq ?_
 refine Run.reg ?_
 refine op (OpS.as rfl rfl rfl ?_)
 refine RunL.nil ?_
 refine Run.slim [(0, v0), (1, v1)] ⟨rfl, rfl, trivial⟩ ?_
 refine Run.seq ?_
 refine Run.seq ?_
 refine Run.reg ?_
 refine op (OpS.mv rfl rfl rfl ?_)
 refine op (OpS.len h Try.underlying26 rfl rfl rfl (V.at .z) ?_)
 refine op (OpS.mv rfl rfl rfl ?_)
 refine op (OpS.len h Try.underlying26 rfl rfl rfl (V.at (.s .z)) ?_)
 refine op (OpS.bin rfl rfl rfl rfl rfl ?_)
 refine RunL.nil ?_
 refine Run.slim [(10, .bool ((a0.length : Int) != (a1.length : Int))), (0, v0), (1, v1)] ⟨rfl, rfl, rfl, trivial⟩ ?_
 refine Run.ite rfl hF (fun e1 hF => ?_) (fun e1 hF => ?_)
 ·
  refine Run.seq ?_
  refine Run.reg ?_
  refine op (OpS.as rfl rfl rfl ?_)
  refine RunL.nil ?_
  refine Run.slim [(4, .bool false)] ⟨rfl, trivial⟩ ?_
  refine Run.retP rfl (.tmp rfl .nil) ?_
  cases hF
  exact Post.mk' ⟨rfl, rfl, rfl, rfl⟩ (h.picks .nil) .nil
 ·
  refine Run.skip ?_
  refine Run.seq ?_
  refine Run.seq ?_
  refine Run.reg ?_
  refine op (OpS.as rfl rfl rfl ?_)
  refine RunL.nil ?_
  refine Run.slim [(5, .int .i64 0), (0, v0), (1, v1)] ⟨rfl, rfl, rfl, trivial⟩ ?_
  refine Run.block ?_
  refine Run.slim [(0, v0), (1, v1), (5, .int .i64 0)] ⟨rfl, rfl, rfl, trivial⟩ ?_
  refine Run.loopP (σ := Int) (fun s_ L_ w_ => L_ = [(0, v0), (1, v1), (5, .int .i64 s_)] ∧ St e w_ [(false, .val (Rep.slice Message_.rep) v0 a0), (false, .val (Rep.slice Message_.rep) v1 a1)] []) hF ⟨rfl, (h.facts (.atm .z (.atm (.s .z) .nil))).picks .nil⟩ (fun k1 hk1 s1 _ w1 hI hF => ?_)
  obtain ⟨rfl, h1⟩ := hI
  refine Run.seq ?_
  refine Run.seq ?_
  refine Run.reg ?_
  refine op (OpS.mv rfl rfl rfl ?_)
  refine op (OpS.mv rfl rfl rfl ?_)
  refine op (OpS.len h1 Try.underlying26 rfl rfl rfl (V.at .z) ?_)
  refine op (OpS.bin rfl rfl rfl rfl rfl ?_)
  refine RunL.nil ?_
  refine Run.slim [(14, .bool (decide (s1 < (a0.length : Int)))), (0, v0), (1, v1), (5, .int .i64 s1)] ⟨rfl, rfl, rfl, rfl, trivial⟩ ?_
  refine Run.ite rfl hF (fun e2 hF => ?_) (fun e2 hF => ?_)
  ·
   refine Run.skip ?_
   refine Run.seq ?_
   refine Run.block ?_
   refine Run.seq ?_
   obtain ⟨x1, e3, hF⟩ := bindP_use hF
   obtain ⟨x2, e4, hF⟩ := bindP_use hF
   obtain ⟨y1, e5, hF⟩ := bindP_use hF
   refine Run.drawV (Ωs := []) [⟨some 17, some (v0), fun _ => [], fun ds_ u_ => [], [], [], none⟩, ⟨some 18, some (.int .i64 s1), fun _ => [], fun ds_ u_ => [], [], [], none⟩, ⟨some 19, none, fun u_ => [(false, .ptr Message_.rep u_ x1)], fun ds_ u_ => [], [], [], none⟩, ⟨some 20, none, fun u_ => [(false, .val Message_.rep u_ x1)], fun ds_ u_ => [], [], [], none⟩, ⟨some 21, some (v1), fun _ => [], fun ds_ u_ => [], [], [], none⟩, ⟨some 22, some (.int .i64 s1), fun _ => [], fun ds_ u_ => [], [], [], none⟩, ⟨some 23, none, fun u_ => [(false, .ptr Message_.rep u_ x2)], fun ds_ u_ => [], [], [], none⟩, ⟨some 24, none, fun u_ => [(false, .val Message_.rep u_ x2)], fun ds_ u_ => [], [], [], none⟩, ⟨some 25, some (.bool y1), fun _ => [], fun ds_ u_ => [], [], [], none⟩, ⟨some 26, some (.bool (!y1)), fun _ => [], fun ds_ u_ => [], [], [], none⟩] [[], [], [0, 1], [2], [], [], [4, 5], [6], [3, 7], [8]] [] [0, 1, 2, 3, 4, 5, 6, 7, 8, 9] Try_mixed rfl rfl rfl h1 (.cons ?_ (.cons ?_ (.cons ?_ (.cons ?_ (.cons ?_ (.cons ?_ (.cons ?_ (.cons ?_ (.cons ?_ (.cons ?_ .nil)))))))))) (fun q1 w hq1 h => ?_)
   ·intro q1 w Γx Ωx h
    refine OpS.mv rfl rfl rfl ?_
    exact ⟨undef, rfl, trivial, h⟩
   ·intro q1 w Γx Ωx h
    refine OpS.mv rfl rfl rfl ?_
    exact ⟨undef, rfl, trivial, h⟩
   ·intro q1 w Γx Ωx h
    refine OpS.iptr h Try.underlying26 ty37 rfl rfl rfl rfl (V.at .z) e3 (fun u h8 => ?_)
    exact ⟨u, rfl, trivial, h8⟩
   ·intro q1 w Γx Ωx h
    refine OpS.load h ty37 rfl rfl rfl .z (fun u h9 => ?_)
    exact ⟨u, rfl, trivial, h9⟩
   ·intro q1 w Γx Ωx h
    refine OpS.mv rfl rfl rfl ?_
    exact ⟨undef, rfl, trivial, h⟩
   ·intro q1 w Γx Ωx h
    refine OpS.mv rfl rfl rfl ?_
    exact ⟨undef, rfl, trivial, h⟩
   ·intro q1 w Γx Ωx h
    refine OpS.iptr h Try.underlying26 ty37 rfl rfl rfl rfl (V.at (.s .z)) e4 (fun u h10 => ?_)
    exact ⟨u, rfl, trivial, h10⟩
   ·intro q1 w Γx Ωx h
    refine OpS.load h ty37 rfl rfl rfl .z (fun u h11 => ?_)
    exact ⟨u, rfl, trivial, h11⟩
   ·intro q1 w Γx Ωx h
    refine OpS.callP h Try.func19 rfl rfl rfl rfl (vs := [(q1 3), (q1 7)]) rfl (ref24_SameMessage_ok e5) (.cons (f := false) (V.at .z) (.cons (f := false) (V.at (.s .z)) .nil)) ?_
    rintro _ w3 _ _ _ ⟨rfl, rfl, rfl, rfl⟩ h12
    have h13 := h12 rfl rfl
    simp only [List.cons_append, List.nil_append] at h13
    exact ⟨undef, rfl, trivial, h13⟩
   ·intro q1 w Γx Ωx h
    refine OpS.not rfl rfl rfl ?_
    exact ⟨undef, rfl, trivial, h⟩
   have h14 : St e w [(false, .ptr Message_.rep (q1 2) x1), (false, .val Message_.rep (q1 3) x1), (false, .ptr Message_.rep (q1 6) x2), (false, .val Message_.rep (q1 7) x2), (false, .val (Rep.slice Message_.rep) v0 a0), (false, .val (Rep.slice Message_.rep) v1 a1)] [] := h
   refine RunL.nil ?_
   refine Run.slim [(26, .bool (!y1)), (0, v0), (1, v1), (5, .int .i64 s1)] ⟨rfl, rfl, rfl, rfl, trivial⟩ ?_
   refine Run.ite rfl hF (fun e6 hF => ?_) (fun e6 hF => ?_)
   ·
    refine Run.seq ?_
    refine Run.reg ?_
    refine op (OpS.as rfl rfl rfl ?_)
    refine RunL.nil ?_
    refine Run.slim [(4, .bool false)] ⟨rfl, trivial⟩ ?_
    refine Run.retP rfl (.tmp rfl .nil) ?_
    cases hF
    exact Post.mk' ⟨rfl, rfl, rfl, rfl⟩ (h14.picks .nil) .nil
   ·
    refine Run.skip ?_
    refine Run.endBlock ?_
    refine Run.reg ?_
    refine op (OpS.mv rfl rfl rfl ?_)
    refine op (OpS.bin rfl rfl rfl rfl rfl ?_)
    refine op (OpS.as rfl rfl rfl ?_)
    obtain ⟨x3, e7, hF⟩ := letP_use hF
    refine RunL.name e7 ?_
    refine RunL.nil ?_
    refine Run.slim [(5, .int .i64 x3), (0, v0), (1, v1)] ⟨rfl, rfl, rfl, trivial⟩ ?_
    refine Run.slim [(0, v0), (1, v1), (5, .int .i64 x3)] ⟨rfl, rfl, rfl, trivial⟩ ?_
    exact hk1 (x3) _ _ ⟨rfl, (h14.facts (.atm (.s (.s (.s (.s .z)))) (.atm (.s (.s (.s (.s (.s .z))))) .nil))).picks .nil⟩ hF
  ·
   refine Run.exit rfl ?_
   refine Run.seq ?_
   refine Run.reg ?_
   refine op (OpS.as rfl rfl rfl ?_)
   refine RunL.nil ?_
   refine Run.slim [(4, .bool true)] ⟨rfl, trivial⟩ ?_
   refine Run.retP rfl (.tmp rfl .nil) ?_
   cases hF
   exact Post.mk' ⟨rfl, rfl, rfl, rfl⟩ (h1.picks .nil) .nil
set_option maxHeartbeats 8000000 in
theorem ref25_Equal_ok {fuel : Nat} {a0 : Responder_} {a1 : Responder_} {y : Bool} (hF : ref25_Equal fuel a0 a1 = some y) {w : World} {v0 v1 : Value} :
  Spec Try.prog 23 [v0, v1].toArray w [(false, .val Responder_.rep v0 a0), (false, .val Responder_.rep v1 a1)] [] (fun v Γr Ωr Ωo => v = .bool y ∧ Γr = [] ∧ Ωr = [] ∧ Ωo = []) := by
 refine Spec.of (L := [(0, v0), (1, v1)]) Try.func23 rfl ⟨rfl, rfl, trivial⟩ rfl (fun e h => ?_)
 unfold ref25_Equal at hF
 refine Run.seq ?_
 refine Run.reg ?_
 refine op (OpS.boxF h rfl rfl rfl (V.at .z) (fun u1 w1 h1 => ?_))
 refine op (OpS.boxF h1 rfl rfl rfl (V.at (.s .z)) (fun u2 w2 h2 => ?_))
 refine op (OpS.as rfl rfl rfl ?_)
 refine RunL.nil ?_
 refine Run.slim [(3, u2), (2, u1)] ⟨rfl, rfl, trivial⟩ ?_
 refine Run.seq ?_
 refine Run.seq ?_
 refine Run.reg ?_
 refine op (OpS.fbox (o3 := 0) h2 (.s .z) PA.z fa29_0 rfl rfl rfl rfl ?_)
 refine op (OpS.loadBi h2 (.s .z) PA.a (Get.fld Responder_.f0) ty5 rfl rfl rfl ?_)
 refine op (OpS.fbox (o3 := 0) h2 .z PA.z fa29_0 rfl rfl rfl rfl ?_)
 refine op (OpS.loadBi h2 .z PA.a (Get.fld Responder_.f0) ty5 rfl rfl rfl ?_)
 refine op (OpS.bin rfl rfl rfl rfl rfl ?_)
 refine op (OpS.mv rfl rfl rfl ?_)
 refine RunL.join (σ := Bool) (fun s_ L_ w_ => L_ = [(2, u1), (3, u2), (27, .bool s_)] ∧ St e w_ [] [(false, .box 29 Responder_.rep u1 a0), (false, .box 29 Responder_.rep u2 a1)]) hF (fun s1 _ w3 hI hF => ?_) (fun j1 hj1 hF => ?_)
 ·
  obtain ⟨rfl, h3⟩ := hI
  refine Run.ite rfl hF (fun e1 hF => ?_) (fun e1 hF => ?_)
  ·
   refine Run.seq ?_
   refine Run.reg ?_
   refine op (OpS.as rfl rfl rfl ?_)
   refine RunL.nil ?_
   refine Run.slim [(4, .bool false)] ⟨rfl, trivial⟩ ?_
   refine Run.retP rfl (.tmp rfl .nil) ?_
   cases hF
   exact Post.mk' ⟨rfl, rfl, rfl, rfl⟩ (h3.picks .nil) .nil
  ·
   refine Run.skip ?_
   refine Run.seq ?_
   refine Run.seq ?_
   refine Run.reg ?_
   refine op (OpS.as rfl rfl rfl ?_)
   refine RunL.nil ?_
   refine Run.slim [(5, .int .i64 0), (2, u1), (3, u2)] ⟨rfl, rfl, rfl, trivial⟩ ?_
   refine Run.block ?_
   refine Run.slim [(2, u1), (3, u2), (5, .int .i64 0)] ⟨rfl, rfl, rfl, trivial⟩ ?_
   refine Run.loopP (σ := Int) (fun s_ L_ w_ => L_ = [(2, u1), (3, u2), (5, .int .i64 s_)] ∧ St e w_ [] [(false, .box 29 Responder_.rep u1 a0), (false, .box 29 Responder_.rep u2 a1)]) hF ⟨rfl, (h3.facts .nil).picks (.cons .z (.cons .z .nil))⟩ (fun k1 hk1 s2 _ w4 hI hF => ?_)
   obtain ⟨rfl, h4⟩ := hI
   refine Run.seq ?_
   refine Run.seq ?_
   refine Run.reg ?_
   refine op (OpS.mv rfl rfl rfl ?_)
   refine op (OpS.fbox (o3 := 2) h4 .z PA.z fa29_2 rfl rfl rfl rfl ?_)
   refine op (OpS.loadB h4 .z PA.a (Get.fld Responder_.f2) ty27 rfl rfl rfl (fun u3 h5 => ?_))
   refine op (OpS.len h5 Try.underlying27 rfl rfl rfl (V.at .z) ?_)
   refine op (OpS.bin rfl rfl rfl rfl rfl ?_)
   refine RunL.nil ?_
   refine Run.slim [(32, .bool (decide (s2 < (a0.Memory.length : Int)))), (2, u1), (3, u2), (5, .int .i64 s2)] ⟨rfl, rfl, rfl, rfl, trivial⟩ ?_
   refine Run.ite rfl hF (fun e2 hF => ?_) (fun e2 hF => ?_)
   ·
    refine Run.skip ?_
    refine Run.seq ?_
    refine Run.block ?_
    refine Run.seq ?_
    refine Run.join (σ := Bool) (fun s_ L_ w_ => L_ = [(2, u1), (3, u2), (5, .int .i64 s2), (80, .bool s_)] ∧ St e w_ [] [(false, .box 29 Responder_.rep u1 a0), (false, .box 29 Responder_.rep u2 a1)]) hF (fun s3 _ w5 hI hF => ?_) (fun j2 hj2 hF => ?_)
    ·
     obtain ⟨rfl, h6⟩ := hI
     refine Run.ite rfl hF (fun e3 hF => ?_) (fun e3 hF => ?_)
     ·
      refine Run.seq ?_
      refine Run.reg ?_
      refine op (OpS.as rfl rfl rfl ?_)
      refine RunL.nil ?_
      refine Run.slim [(4, .bool false)] ⟨rfl, trivial⟩ ?_
      refine Run.retP rfl (.tmp rfl .nil) ?_
      cases hF
      exact Post.mk' ⟨rfl, rfl, rfl, rfl⟩ (h6.picks .nil) .nil
     ·
      refine Run.skip ?_
      refine Run.endBlock ?_
      refine Run.reg ?_
      refine op (OpS.mv rfl rfl rfl ?_)
      refine op (OpS.bin rfl rfl rfl rfl rfl ?_)
      refine op (OpS.as rfl rfl rfl ?_)
      obtain ⟨x1, e4, hF⟩ := letP_use hF
      refine RunL.name e4 ?_
      refine RunL.nil ?_
      refine Run.slim [(5, .int .i64 x1), (2, u1), (3, u2)] ⟨rfl, rfl, rfl, trivial⟩ ?_
      refine Run.slim [(2, u1), (3, u2), (5, .int .i64 x1)] ⟨rfl, rfl, rfl, trivial⟩ ?_
      exact hk1 (x1) _ _ ⟨rfl, (h6.facts .nil).picks (.cons .z (.cons .z .nil))⟩ hF
    ·
     obtain ⟨x2, e5, hF⟩ := bindP_use hF
     obtain ⟨x3, e6, hF⟩ := bindP_use hF
     obtain ⟨x4, e7, hF⟩ := letP_use hF
     refine iteP_use hF (fun e8 hF => ?_) (fun e8 hF => ?_)
     ·
      have hG := hF
      subst e8
      have hF := hG
      refine Run.drawV (Ωs := []) [⟨some 35, some ((padd u1 2)), fun _ => [], fun ds_ u_ => [], [], [(0, [])], none⟩, ⟨some 36, none, fun u_ => [(false, .val (Rep.slice Memory_.rep) u_ a0.Memory)], fun ds_ u_ => [], [], [(0, [])], none⟩, ⟨some 37, some (.int .i64 s2), fun _ => [], fun ds_ u_ => [], [], [], none⟩, ⟨some 38, none, fun u_ => [(false, .ptr Memory_.rep u_ x2)], fun ds_ u_ => [], [], [], none⟩, ⟨some 39, none, fun u_ => [(false, .ptr (Rep.int .i64) u_ x2.Until)], fun ds_ u_ => [], [], [], none⟩, ⟨some 40, some (.int .i64 x2.Until), fun _ => [], fun ds_ u_ => [], [], [], none⟩, ⟨some 41, some ((padd u2 2)), fun _ => [], fun ds_ u_ => [], [], [(1, [])], none⟩, ⟨some 42, none, fun u_ => [(false, .val (Rep.slice Memory_.rep) u_ a1.Memory)], fun ds_ u_ => [], [], [(1, [])], none⟩, ⟨some 43, some (.int .i64 s2), fun _ => [], fun ds_ u_ => [], [], [], none⟩, ⟨some 44, none, fun u_ => [(false, .ptr Memory_.rep u_ x3)], fun ds_ u_ => [], [], [], none⟩, ⟨some 45, none, fun u_ => [(false, .ptr (Rep.int .i64) u_ x3.Until)], fun ds_ u_ => [], [], [], none⟩, ⟨some 46, some (.int .i64 x3.Until), fun _ => [], fun ds_ u_ => [], [], [], none⟩, ⟨some 47, some (.bool (x2.Until != x3.Until)), fun _ => [], fun ds_ u_ => [], [], [], none⟩, ⟨some 48, some (.bool true), fun _ => [], fun ds_ u_ => [], [], [], none⟩, ⟨some 49, some undef, fun _ => [], fun _ _ => [], [], [], none⟩, ⟨some 50, some undef, fun _ => [], fun _ _ => [], [], [], none⟩, ⟨some 51, some undef, fun _ => [], fun _ _ => [], [], [], none⟩, ⟨some 52, some undef, fun _ => [], fun _ _ => [], [], [], none⟩, ⟨some 53, some undef, fun _ => [], fun _ _ => [], [], [], none⟩, ⟨some 54, some undef, fun _ => [], fun _ _ => [], [], [], none⟩, ⟨some 55, some undef, fun _ => [], fun _ _ => [], [], [], none⟩, ⟨some 56, some undef, fun _ => [], fun _ _ => [], [], [], none⟩, ⟨some 57, some undef, fun _ => [], fun _ _ => [], [], [], none⟩, ⟨some 58, some undef, fun _ => [], fun _ _ => [], [], [], none⟩, ⟨some 59, some undef, fun _ => [], fun _ _ => [], [], [], none⟩, ⟨some 60, some undef, fun _ => [], fun _ _ => [], [], [], none⟩, ⟨some 61, some undef, fun _ => [], fun _ _ => [], [], [], none⟩, ⟨some 62, some undef, fun _ => [], fun _ _ => [], [], [], none⟩, ⟨some 63, some undef, fun _ => [], fun _ _ => [], [], [], none⟩, ⟨some 64, some (.bool true), fun _ => [], fun ds_ u_ => [], [], [], none⟩, ⟨some 65, some (.bool true), fun _ => [], fun ds_ u_ => [], [], [], none⟩, ⟨some 66, some undef, fun _ => [], fun _ _ => [], [], [], none⟩, ⟨some 67, some undef, fun _ => [], fun _ _ => [], [], [], none⟩, ⟨some 68, some undef, fun _ => [], fun _ _ => [], [], [], none⟩, ⟨some 69, some undef, fun _ => [], fun _ _ => [], [], [], none⟩, ⟨some 70, some undef, fun _ => [], fun _ _ => [], [], [], none⟩, ⟨some 71, some undef, fun _ => [], fun _ _ => [], [], [], none⟩, ⟨some 72, some undef, fun _ => [], fun _ _ => [], [], [], none⟩, ⟨some 73, some undef, fun _ => [], fun _ _ => [], [], [], none⟩, ⟨some 74, some undef, fun _ => [], fun _ _ => [], [], [], none⟩, ⟨some 75, some undef, fun _ => [], fun _ _ => [], [], [], none⟩, ⟨some 76, some undef, fun _ => [], fun _ _ => [], [], [], none⟩, ⟨some 77, some undef, fun _ => [], fun _ _ => [], [], [], none⟩, ⟨some 78, some undef, fun _ => [], fun _ _ => [], [], [], none⟩, ⟨some 79, some undef, fun _ => [], fun _ _ => [], [], [], none⟩, ⟨some 80, some (.bool true), fun _ => [], fun ds_ u_ => [], [], [], none⟩] [[], [0], [], [1, 2], [3], [4], [], [6], [], [7, 8], [9], [10], [5, 11], [12], [13], [13], [13], [13], [13], [13], [13], [13], [13], [13], [13], [13], [13], [13], [13], [13, 28], [29], [30], [30], [30], [30], [30], [30], [30], [30], [30], [30], [30], [30], [30], [30], [30, 44]] [[(false, .box 29 Responder_.rep u1 a0)], [(false, .box 29 Responder_.rep u2 a1)]] [0, 1, 2, 3, 4, 5, 6, 7, 8, 9, 10, 11, 12, 13, 14, 15, 16, 17, 18, 19, 20, 21, 22, 23, 24, 25, 26, 27, 28, 29, 30, 31, 32, 33, 34, 35, 36, 37, 38, 39, 40, 41, 42, 43, 44, 45, 46, 47] Try_mixed rfl rfl rfl h5 (.cons ?_ (.cons ?_ (.cons ?_ (.cons ?_ (.cons ?_ (.cons ?_ (.cons ?_ (.cons ?_ (.cons ?_ (.cons ?_ (.cons ?_ (.cons ?_ (.cons ?_ (.cons ?_ (.cons ?_ (.cons ?_ (.cons ?_ (.cons ?_ (.cons ?_ (.cons ?_ (.cons ?_ (.cons ?_ (.cons ?_ (.cons ?_ (.cons ?_ (.cons ?_ (.cons ?_ (.cons ?_ (.cons ?_ (.cons ?_ (.cons ?_ (.cons ?_ (.cons ?_ (.cons ?_ (.cons ?_ (.cons ?_ (.cons ?_ (.cons ?_ (.cons ?_ (.cons ?_ (.cons ?_ (.cons ?_ (.cons ?_ (.cons ?_ (.cons ?_ (.cons ?_ .nil)))))))))))))))))))))))))))))))))))))))))))))) (fun q1 w hq1 h => ?_)
      ·intro q1 w Γx Ωx h
       have h : St e w ([(false, .val (Rep.slice Memory_.rep) u3 a0.Memory)] ++ Γx) ([(false, .box 29 Responder_.rep u1 a0)] ++ Ωx) := h
       refine OpS.fbox (o3 := 2) h .z PA.z fa29_2 rfl rfl rfl rfl ?_
       exact ⟨undef, rfl, trivial, h⟩
      ·intro q1 w Γx Ωx h
       have h : St e w ([(false, .val (Rep.slice Memory_.rep) u3 a0.Memory)] ++ Γx) ([(false, .box 29 Responder_.rep u1 a0)] ++ Ωx) := h
       refine OpS.loadB h .z PA.a (Get.fld Responder_.f2) ty27 rfl rfl rfl (fun u h13 => ?_)
       exact ⟨u, rfl, trivial, h13⟩
      ·intro q1 w Γx Ωx h
       refine OpS.mv rfl rfl rfl ?_
       exact ⟨undef, rfl, trivial, h⟩
      ·intro q1 w Γx Ωx h
       refine OpS.iptr h Try.underlying27 ty72 rfl rfl rfl rfl (V.at .z) e5 (fun u h14 => ?_)
       exact ⟨u, rfl, trivial, h14⟩
      ·intro q1 w Γx Ωx h
       refine OpS.fptr h fa72_2 Memory_.f2 rfl rfl rfl .z (fun u h15 => ?_)
       exact ⟨u, rfl, trivial, h15⟩
      ·intro q1 w Γx Ωx h
       refine OpS.loadi h ty2 rfl rfl rfl .z ?_
       exact ⟨undef, rfl, trivial, h⟩
      ·intro q1 w Γx Ωx h
       have h : St e w ([(false, .val (Rep.slice Memory_.rep) u3 a0.Memory)] ++ Γx) ([(false, .box 29 Responder_.rep u2 a1)] ++ Ωx) := h
       refine OpS.fbox (o3 := 2) h .z PA.z fa29_2 rfl rfl rfl rfl ?_
       exact ⟨undef, rfl, trivial, h⟩
      ·intro q1 w Γx Ωx h
       have h : St e w ([(false, .val (Rep.slice Memory_.rep) u3 a0.Memory)] ++ Γx) ([(false, .box 29 Responder_.rep u2 a1)] ++ Ωx) := h
       refine OpS.loadB h .z PA.a (Get.fld Responder_.f2) ty27 rfl rfl rfl (fun u h16 => ?_)
       exact ⟨u, rfl, trivial, h16⟩
      ·intro q1 w Γx Ωx h
       refine OpS.mv rfl rfl rfl ?_
       exact ⟨undef, rfl, trivial, h⟩
      ·intro q1 w Γx Ωx h
       refine OpS.iptr h Try.underlying27 ty72 rfl rfl rfl rfl (V.at .z) e6 (fun u h17 => ?_)
       exact ⟨u, rfl, trivial, h17⟩
      ·intro q1 w Γx Ωx h
       refine OpS.fptr h fa72_2 Memory_.f2 rfl rfl rfl .z (fun u h18 => ?_)
       exact ⟨u, rfl, trivial, h18⟩
      ·intro q1 w Γx Ωx h
       refine OpS.loadi h ty2 rfl rfl rfl .z ?_
       exact ⟨undef, rfl, trivial, h⟩
      ·intro q1 w Γx Ωx h
       refine OpS.bin rfl rfl rfl rfl rfl ?_
       exact ⟨undef, rfl, trivial, h⟩
      ·intro q1 w Γx Ωx h
       refine OpS.mv rfl rfl rfl ?_
       exact ⟨undef, (congrArg (fun z_ => some (Value.bool z_)) e7), trivial, h⟩
      ·intro q1 w Γx Ωx h
       exact OpS.pass rfl rfl rfl ⟨undef, rfl, trivial, h⟩
      ·intro q1 w Γx Ωx h
       exact OpS.pass rfl rfl rfl ⟨undef, rfl, trivial, h⟩
      ·intro q1 w Γx Ωx h
       exact OpS.pass rfl rfl rfl ⟨undef, rfl, trivial, h⟩
      ·intro q1 w Γx Ωx h
       exact OpS.pass rfl rfl rfl ⟨undef, rfl, trivial, h⟩
      ·intro q1 w Γx Ωx h
       exact OpS.pass rfl rfl rfl ⟨undef, rfl, trivial, h⟩
      ·intro q1 w Γx Ωx h
       exact OpS.pass rfl rfl rfl ⟨undef, rfl, trivial, h⟩
      ·intro q1 w Γx Ωx h
       exact OpS.pass rfl rfl rfl ⟨undef, rfl, trivial, h⟩
      ·intro q1 w Γx Ωx h
       exact OpS.pass rfl rfl rfl ⟨undef, rfl, trivial, h⟩
      ·intro q1 w Γx Ωx h
       exact OpS.pass rfl rfl rfl ⟨undef, rfl, trivial, h⟩
      ·intro q1 w Γx Ωx h
       exact OpS.pass rfl rfl rfl ⟨undef, rfl, trivial, h⟩
      ·intro q1 w Γx Ωx h
       exact OpS.pass rfl rfl rfl ⟨undef, rfl, trivial, h⟩
      ·intro q1 w Γx Ωx h
       exact OpS.pass rfl rfl rfl ⟨undef, rfl, trivial, h⟩
      ·intro q1 w Γx Ωx h
       exact OpS.pass rfl rfl rfl ⟨undef, rfl, trivial, h⟩
      ·intro q1 w Γx Ωx h
       exact OpS.pass rfl rfl rfl ⟨undef, rfl, trivial, h⟩
      ·intro q1 w Γx Ωx h
       exact OpS.pass rfl rfl rfl ⟨undef, rfl, trivial, h⟩
      ·intro q1 w Γx Ωx h
       refine OpS.pick rfl rfl rfl rfl ?_
       exact ⟨undef, rfl, trivial, h⟩
      ·intro q1 w Γx Ωx h
       refine OpS.mv rfl rfl rfl ?_
       exact ⟨undef, rfl, trivial, h⟩
      ·intro q1 w Γx Ωx h
       exact OpS.pass rfl rfl rfl ⟨undef, rfl, trivial, h⟩
      ·intro q1 w Γx Ωx h
       exact OpS.pass rfl rfl rfl ⟨undef, rfl, trivial, h⟩
      ·intro q1 w Γx Ωx h
       exact OpS.pass rfl rfl rfl ⟨undef, rfl, trivial, h⟩
      ·intro q1 w Γx Ωx h
       exact OpS.pass rfl rfl rfl ⟨undef, rfl, trivial, h⟩
      ·intro q1 w Γx Ωx h
       exact OpS.pass rfl rfl rfl ⟨undef, rfl, trivial, h⟩
      ·intro q1 w Γx Ωx h
       exact OpS.pass rfl rfl rfl ⟨undef, rfl, trivial, h⟩
      ·intro q1 w Γx Ωx h
       exact OpS.pass rfl rfl rfl ⟨undef, rfl, trivial, h⟩
      ·intro q1 w Γx Ωx h
       exact OpS.pass rfl rfl rfl ⟨undef, rfl, trivial, h⟩
      ·intro q1 w Γx Ωx h
       exact OpS.pass rfl rfl rfl ⟨undef, rfl, trivial, h⟩
      ·intro q1 w Γx Ωx h
       exact OpS.pass rfl rfl rfl ⟨undef, rfl, trivial, h⟩
      ·intro q1 w Γx Ωx h
       exact OpS.pass rfl rfl rfl ⟨undef, rfl, trivial, h⟩
      ·intro q1 w Γx Ωx h
       exact OpS.pass rfl rfl rfl ⟨undef, rfl, trivial, h⟩
      ·intro q1 w Γx Ωx h
       exact OpS.pass rfl rfl rfl ⟨undef, rfl, trivial, h⟩
      ·intro q1 w Γx Ωx h
       exact OpS.pass rfl rfl rfl ⟨undef, rfl, trivial, h⟩
      ·intro q1 w Γx Ωx h
       refine OpS.pick rfl rfl rfl rfl ?_
       exact ⟨undef, rfl, trivial, h⟩
      have h19 : St e w [(false, .val (Rep.slice Memory_.rep) (q1 1) a0.Memory), (false, .ptr Memory_.rep (q1 3) x2), (false, .ptr (Rep.int .i64) (q1 4) x2.Until), (false, .val (Rep.slice Memory_.rep) (q1 7) a1.Memory), (false, .ptr Memory_.rep (q1 9) x3), (false, .ptr (Rep.int .i64) (q1 10) x3.Until), (false, .val (Rep.slice Memory_.rep) u3 a0.Memory)] [(false, .box 29 Responder_.rep u1 a0), (false, .box 29 Responder_.rep u2 a1)] := h
      refine RunL.nil ?_
      refine Run.slim [(80, .bool true), (2, u1), (3, u2), (5, .int .i64 s2)] ⟨rfl, rfl, rfl, rfl, trivial⟩ ?_
      refine Run.slim [(2, u1), (3, u2), (5, .int .i64 s2), (80, .bool true)] ⟨rfl, rfl, rfl, rfl, trivial⟩ ?_
      exact hj2 (true) _ _ ⟨rfl, (h19.facts .nil).picks (.cons .z (.cons .z .nil))⟩ hF
     ·
      have hG := hF
      subst e8
      have hF := hG
      obtain ⟨x5, e9, hF⟩ := bindP_use hF
      obtain ⟨x6, e10, hF⟩ := bindP_use hF
      obtain ⟨x7, e11, hF⟩ := letP_use hF
      refine iteP_use hF (fun e12 hF => ?_) (fun e12 hF => ?_)
      ·
       have hG := hF
       subst e12
       have hF := hG
       refine Run.drawV (Ωs := []) [⟨some 35, some ((padd u1 2)), fun _ => [], fun ds_ u_ => [], [], [(0, [])], none⟩, ⟨some 36, none, fun u_ => [(false, .val (Rep.slice Memory_.rep) u_ a0.Memory)], fun ds_ u_ => [], [], [(0, [])], none⟩, ⟨some 37, some (.int .i64 s2), fun _ => [], fun ds_ u_ => [], [], [], none⟩, ⟨some 38, none, fun u_ => [(false, .ptr Memory_.rep u_ x2)], fun ds_ u_ => [], [], [], none⟩, ⟨some 39, none, fun u_ => [(false, .ptr (Rep.int .i64) u_ x2.Until)], fun ds_ u_ => [], [], [], none⟩, ⟨some 40, some (.int .i64 x2.Until), fun _ => [], fun ds_ u_ => [], [], [], none⟩, ⟨some 41, some ((padd u2 2)), fun _ => [], fun ds_ u_ => [], [], [(1, [])], none⟩, ⟨some 42, none, fun u_ => [(false, .val (Rep.slice Memory_.rep) u_ a1.Memory)], fun ds_ u_ => [], [], [(1, [])], none⟩, ⟨some 43, some (.int .i64 s2), fun _ => [], fun ds_ u_ => [], [], [], none⟩, ⟨some 44, none, fun u_ => [(false, .ptr Memory_.rep u_ x3)], fun ds_ u_ => [], [], [], none⟩, ⟨some 45, none, fun u_ => [(false, .ptr (Rep.int .i64) u_ x3.Until)], fun ds_ u_ => [], [], [], none⟩, ⟨some 46, some (.int .i64 x3.Until), fun _ => [], fun ds_ u_ => [], [], [], none⟩, ⟨some 47, some (.bool (x2.Until != x3.Until)), fun _ => [], fun ds_ u_ => [], [], [], none⟩, ⟨some 48, some (.bool false), fun _ => [], fun ds_ u_ => [], [], [], none⟩, ⟨some 49, some ((padd u1 2)), fun _ => [], fun ds_ u_ => [], [], [(0, [])], none⟩, ⟨some 50, none, fun u_ => [(false, .val (Rep.slice Memory_.rep) u_ a0.Memory)], fun ds_ u_ => [], [], [(0, [])], none⟩, ⟨some 51, some (.int .i64 s2), fun _ => [], fun ds_ u_ => [], [], [], none⟩, ⟨some 52, none, fun u_ => [(false, .ptr Memory_.rep u_ x5)], fun ds_ u_ => [], [], [], none⟩, ⟨some 53, none, fun u_ => [(false, .ptr (Rep.slice (Rep.int .u8)) u_ x5.Reply)], fun ds_ u_ => [], [], [], none⟩, ⟨some 54, none, fun u_ => [(false, .val (Rep.slice (Rep.int .u8)) u_ x5.Reply)], fun ds_ u_ => [], [], [], none⟩, ⟨some 55, none, fun u_ => [(true, .val Rep.str u_ (toStr x5.Reply))], fun ds_ u_ => [], [], [], none⟩, ⟨some 56, some ((padd u2 2)), fun _ => [], fun ds_ u_ => [], [], [(1, [])], none⟩, ⟨some 57, none, fun u_ => [(false, .val (Rep.slice Memory_.rep) u_ a1.Memory)], fun ds_ u_ => [], [], [(1, [])], none⟩, ⟨some 58, some (.int .i64 s2), fun _ => [], fun ds_ u_ => [], [], [], none⟩, ⟨some 59, none, fun u_ => [(false, .ptr Memory_.rep u_ x6)], fun ds_ u_ => [], [], [], none⟩, ⟨some 60, none, fun u_ => [(false, .ptr (Rep.slice (Rep.int .u8)) u_ x6.Reply)], fun ds_ u_ => [], [], [], none⟩, ⟨some 61, none, fun u_ => [(false, .val (Rep.slice (Rep.int .u8)) u_ x6.Reply)], fun ds_ u_ => [], [], [], none⟩, ⟨some 62, none, fun u_ => [(true, .val Rep.str u_ (toStr x6.Reply))], fun ds_ u_ => [], [], [], none⟩, ⟨some 63, some (.bool ((toStr x5.Reply) != (toStr x6.Reply))), fun _ => [], fun ds_ u_ => [], [], [], none⟩, ⟨some 64, some (.bool ((toStr x5.Reply) != (toStr x6.Reply))), fun _ => [], fun ds_ u_ => [], [], [], none⟩, ⟨some 65, some (.bool true), fun _ => [], fun ds_ u_ => [], [], [], none⟩, ⟨some 66, some undef, fun _ => [], fun _ _ => [], [], [], none⟩, ⟨some 67, some undef, fun _ => [], fun _ _ => [], [], [], none⟩, ⟨some 68, some undef, fun _ => [], fun _ _ => [], [], [], none⟩, ⟨some 69, some undef, fun _ => [], fun _ _ => [], [], [], none⟩, ⟨some 70, some undef, fun _ => [], fun _ _ => [], [], [], none⟩, ⟨some 71, some undef, fun _ => [], fun _ _ => [], [], [], none⟩, ⟨some 72, some undef, fun _ => [], fun _ _ => [], [], [], none⟩, ⟨some 73, some undef, fun _ => [], fun _ _ => [], [], [], none⟩, ⟨some 74, some undef, fun _ => [], fun _ _ => [], [], [], none⟩, ⟨some 75, some undef, fun _ => [], fun _ _ => [], [], [], none⟩, ⟨some 76, some undef, fun _ => [], fun _ _ => [], [], [], none⟩, ⟨some 77, some undef, fun _ => [], fun _ _ => [], [], [], none⟩, ⟨some 78, some undef, fun _ => [], fun _ _ => [], [], [], none⟩, ⟨some 79, some undef, fun _ => [], fun _ _ => [], [], [], none⟩, ⟨some 80, some (.bool true), fun _ => [], fun ds_ u_ => [], [], [], none⟩] [[], [0], [], [1, 2], [3], [4], [], [6], [], [7, 8], [9], [10], [5, 11], [12], [13], [14, 13], [13], [15, 16, 13], [17, 13], [18, 13], [19, 13], [13], [21, 13], [13], [22, 23, 13], [24, 13], [25, 13], [26, 13], [20, 27, 13], [13, 28], [29], [30], [30], [30], [30], [30], [30], [30], [30], [30], [30], [30], [30], [30], [30], [30, 44]] [[(false, .box 29 Responder_.rep u1 a0)], [(false, .box 29 Responder_.rep u2 a1)]] [0, 1, 2, 3, 4, 5, 6, 7, 8, 9, 10, 11, 12, 13, 14, 15, 16, 17, 18, 19, 20, 21, 22, 23, 24, 25, 26, 27, 28, 29, 30, 31, 32, 33, 34, 35, 36, 37, 38, 39, 40, 41, 42, 43, 44, 45, 46, 47] Try_mixed rfl rfl rfl h5 (.cons ?_ (.cons ?_ (.cons ?_ (.cons ?_ (.cons ?_ (.cons ?_ (.cons ?_ (.cons ?_ (.cons ?_ (.cons ?_ (.cons ?_ (.cons ?_ (.cons ?_ (.cons ?_ (.cons ?_ (.cons ?_ (.cons ?_ (.cons ?_ (.cons ?_ (.cons ?_ (.cons ?_ (.cons ?_ (.cons ?_ (.cons ?_ (.cons ?_ (.cons ?_ (.cons ?_ (.cons ?_ (.cons ?_ (.cons ?_ (.cons ?_ (.cons ?_ (.cons ?_ (.cons ?_ (.cons ?_ (.cons ?_ (.cons ?_ (.cons ?_ (.cons ?_ (.cons ?_ (.cons ?_ (.cons ?_ (.cons ?_ (.cons ?_ (.cons ?_ (.cons ?_ .nil)))))))))))))))))))))))))))))))))))))))))))))) (fun q1 w hq2 h => ?_)
       ·intro q1 w Γx Ωx h
        have h : St e w ([(false, .val (Rep.slice Memory_.rep) u3 a0.Memory)] ++ Γx) ([(false, .box 29 Responder_.rep u1 a0)] ++ Ωx) := h
        refine OpS.fbox (o3 := 2) h .z PA.z fa29_2 rfl rfl rfl rfl ?_
        exact ⟨undef, rfl, trivial, h⟩
       ·intro q1 w Γx Ωx h
        have h : St e w ([(false, .val (Rep.slice Memory_.rep) u3 a0.Memory)] ++ Γx) ([(false, .box 29 Responder_.rep u1 a0)] ++ Ωx) := h
        refine OpS.loadB h .z PA.a (Get.fld Responder_.f2) ty27 rfl rfl rfl (fun u h30 => ?_)
        exact ⟨u, rfl, trivial, h30⟩
       ·intro q1 w Γx Ωx h
        refine OpS.mv rfl rfl rfl ?_
        exact ⟨undef, rfl, trivial, h⟩
       ·intro q1 w Γx Ωx h
        refine OpS.iptr h Try.underlying27 ty72 rfl rfl rfl rfl (V.at .z) e5 (fun u h31 => ?_)
        exact ⟨u, rfl, trivial, h31⟩
       ·intro q1 w Γx Ωx h
        refine OpS.fptr h fa72_2 Memory_.f2 rfl rfl rfl .z (fun u h32 => ?_)
        exact ⟨u, rfl, trivial, h32⟩
       ·intro q1 w Γx Ωx h
        refine OpS.loadi h ty2 rfl rfl rfl .z ?_
        exact ⟨undef, rfl, trivial, h⟩
       ·intro q1 w Γx Ωx h
        have h : St e w ([(false, .val (Rep.slice Memory_.rep) u3 a0.Memory)] ++ Γx) ([(false, .box 29 Responder_.rep u2 a1)] ++ Ωx) := h
        refine OpS.fbox (o3 := 2) h .z PA.z fa29_2 rfl rfl rfl rfl ?_
        exact ⟨undef, rfl, trivial, h⟩
       ·intro q1 w Γx Ωx h
        have h : St e w ([(false, .val (Rep.slice Memory_.rep) u3 a0.Memory)] ++ Γx) ([(false, .box 29 Responder_.rep u2 a1)] ++ Ωx) := h
        refine OpS.loadB h .z PA.a (Get.fld Responder_.f2) ty27 rfl rfl rfl (fun u h33 => ?_)
        exact ⟨u, rfl, trivial, h33⟩
       ·intro q1 w Γx Ωx h
        refine OpS.mv rfl rfl rfl ?_
        exact ⟨undef, rfl, trivial, h⟩
       ·intro q1 w Γx Ωx h
        refine OpS.iptr h Try.underlying27 ty72 rfl rfl rfl rfl (V.at .z) e6 (fun u h34 => ?_)
        exact ⟨u, rfl, trivial, h34⟩
       ·intro q1 w Γx Ωx h
        refine OpS.fptr h fa72_2 Memory_.f2 rfl rfl rfl .z (fun u h35 => ?_)
        exact ⟨u, rfl, trivial, h35⟩
       ·intro q1 w Γx Ωx h
        refine OpS.loadi h ty2 rfl rfl rfl .z ?_
        exact ⟨undef, rfl, trivial, h⟩
       ·intro q1 w Γx Ωx h
        refine OpS.bin rfl rfl rfl rfl rfl ?_
        exact ⟨undef, rfl, trivial, h⟩
       ·intro q1 w Γx Ωx h
        refine OpS.mv rfl rfl rfl ?_
        exact ⟨undef, (congrArg (fun z_ => some (Value.bool z_)) e7), trivial, h⟩
       ·intro q1 w Γx Ωx h
        have h : St e w ([(false, .val (Rep.slice Memory_.rep) u3 a0.Memory)] ++ Γx) ([(false, .box 29 Responder_.rep u1 a0)] ++ Ωx) := h
        refine OpS.fbox (o3 := 2) h .z PA.z fa29_2 rfl rfl rfl rfl ?_
        exact ⟨undef, rfl, trivial, h⟩
       ·intro q1 w Γx Ωx h
        have h : St e w ([(false, .val (Rep.slice Memory_.rep) u3 a0.Memory)] ++ Γx) ([(false, .box 29 Responder_.rep u1 a0)] ++ Ωx) := h
        refine OpS.loadB h .z PA.a (Get.fld Responder_.f2) ty27 rfl rfl rfl (fun u h36 => ?_)
        exact ⟨u, rfl, trivial, h36⟩
       ·intro q1 w Γx Ωx h
        refine OpS.mv rfl rfl rfl ?_
        exact ⟨undef, rfl, trivial, h⟩
       ·intro q1 w Γx Ωx h
        refine OpS.iptr h Try.underlying27 ty72 rfl rfl rfl rfl (V.at .z) e9 (fun u h37 => ?_)
        exact ⟨u, rfl, trivial, h37⟩
       ·intro q1 w Γx Ωx h
        refine OpS.fptr h fa72_1 Memory_.f1 rfl rfl rfl .z (fun u h38 => ?_)
        exact ⟨u, rfl, trivial, h38⟩
       ·intro q1 w Γx Ωx h
        refine OpS.load h ty22 rfl rfl rfl .z (fun u h39 => ?_)
        exact ⟨u, rfl, trivial, h39⟩
       ·intro q1 w Γx Ωx h
        refine OpS.toStr h Try.underlying22 Try.underlying5 Try.underlying9 rfl rfl rfl (V.at .z) (fun u h40 => ?_)
        exact ⟨u, rfl, trivial, h40⟩
       ·intro q1 w Γx Ωx h
        have h : St e w ([(false, .val (Rep.slice Memory_.rep) u3 a0.Memory)] ++ Γx) ([(false, .box 29 Responder_.rep u2 a1)] ++ Ωx) := h
        refine OpS.fbox (o3 := 2) h .z PA.z fa29_2 rfl rfl rfl rfl ?_
        exact ⟨undef, rfl, trivial, h⟩
       ·intro q1 w Γx Ωx h
        have h : St e w ([(false, .val (Rep.slice Memory_.rep) u3 a0.Memory)] ++ Γx) ([(false, .box 29 Responder_.rep u2 a1)] ++ Ωx) := h
        refine OpS.loadB h .z PA.a (Get.fld Responder_.f2) ty27 rfl rfl rfl (fun u h41 => ?_)
        exact ⟨u, rfl, trivial, h41⟩
       ·intro q1 w Γx Ωx h
        refine OpS.mv rfl rfl rfl ?_
        exact ⟨undef, rfl, trivial, h⟩
       ·intro q1 w Γx Ωx h
        refine OpS.iptr h Try.underlying27 ty72 rfl rfl rfl rfl (V.at .z) e10 (fun u h42 => ?_)
        exact ⟨u, rfl, trivial, h42⟩
       ·intro q1 w Γx Ωx h
        refine OpS.fptr h fa72_1 Memory_.f1 rfl rfl rfl .z (fun u h43 => ?_)
        exact ⟨u, rfl, trivial, h43⟩
       ·intro q1 w Γx Ωx h
        refine OpS.load h ty22 rfl rfl rfl .z (fun u h44 => ?_)
        exact ⟨u, rfl, trivial, h44⟩
       ·intro q1 w Γx Ωx h
        refine OpS.toStr h Try.underlying22 Try.underlying5 Try.underlying9 rfl rfl rfl (V.at .z) (fun u h45 => ?_)
        exact ⟨u, rfl, trivial, h45⟩
       ·intro q1 w Γx Ωx h
        refine OpS.nes h rfl rfl rfl rfl (V.at .z) (V.at (.s .z)) Try.underlying9 ?_
        exact ⟨undef, rfl, trivial, h⟩
       ·intro q1 w Γx Ωx h
        refine OpS.pick rfl rfl rfl rfl ?_
        exact ⟨undef, rfl, trivial, h⟩
       ·intro q1 w Γx Ωx h
        refine OpS.mv rfl rfl rfl ?_
        exact ⟨undef, (congrArg (fun z_ => some (Value.bool z_)) e11), trivial, h⟩
       ·intro q1 w Γx Ωx h
        exact OpS.pass rfl rfl rfl ⟨undef, rfl, trivial, h⟩
       ·intro q1 w Γx Ωx h
        exact OpS.pass rfl rfl rfl ⟨undef, rfl, trivial, h⟩
       ·intro q1 w Γx Ωx h
        exact OpS.pass rfl rfl rfl ⟨undef, rfl, trivial, h⟩
       ·intro q1 w Γx Ωx h
        exact OpS.pass rfl rfl rfl ⟨undef, rfl, trivial, h⟩
       ·intro q1 w Γx Ωx h
        exact OpS.pass rfl rfl rfl ⟨undef, rfl, trivial, h⟩
       ·intro q1 w Γx Ωx h
        exact OpS.pass rfl rfl rfl ⟨undef, rfl, trivial, h⟩
       ·intro q1 w Γx Ωx h
        exact OpS.pass rfl rfl rfl ⟨undef, rfl, trivial, h⟩
       ·intro q1 w Γx Ωx h
        exact OpS.pass rfl rfl rfl ⟨undef, rfl, trivial, h⟩
       ·intro q1 w Γx Ωx h
        exact OpS.pass rfl rfl rfl ⟨undef, rfl, trivial, h⟩
       ·intro q1 w Γx Ωx h
        exact OpS.pass rfl rfl rfl ⟨undef, rfl, trivial, h⟩
       ·intro q1 w Γx Ωx h
        exact OpS.pass rfl rfl rfl ⟨undef, rfl, trivial, h⟩
       ·intro q1 w Γx Ωx h
        exact OpS.pass rfl rfl rfl ⟨undef, rfl, trivial, h⟩
       ·intro q1 w Γx Ωx h
        exact OpS.pass rfl rfl rfl ⟨undef, rfl, trivial, h⟩
       ·intro q1 w Γx Ωx h
        exact OpS.pass rfl rfl rfl ⟨undef, rfl, trivial, h⟩
       ·intro q1 w Γx Ωx h
        refine OpS.pick rfl rfl rfl rfl ?_
        exact ⟨undef, rfl, trivial, h⟩
       have h46 : St e w [(false, .val (Rep.slice Memory_.rep) (q1 1) a0.Memory), (false, .ptr Memory_.rep (q1 3) x2), (false, .ptr (Rep.int .i64) (q1 4) x2.Until), (false, .val (Rep.slice Memory_.rep) (q1 7) a1.Memory), (false, .ptr Memory_.rep (q1 9) x3), (false, .ptr (Rep.int .i64) (q1 10) x3.Until), (false, .val (Rep.slice Memory_.rep) (q1 15) a0.Memory), (false, .ptr Memory_.rep (q1 17) x5), (false, .ptr (Rep.slice (Rep.int .u8)) (q1 18) x5.Reply), (false, .val (Rep.slice (Rep.int .u8)) (q1 19) x5.Reply), (true, .val Rep.str (q1 20) (toStr x5.Reply)), (false, .val (Rep.slice Memory_.rep) (q1 22) a1.Memory), (false, .ptr Memory_.rep (q1 24) x6), (false, .ptr (Rep.slice (Rep.int .u8)) (q1 25) x6.Reply), (false, .val (Rep.slice (Rep.int .u8)) (q1 26) x6.Reply), (true, .val Rep.str (q1 27) (toStr x6.Reply)), (false, .val (Rep.slice Memory_.rep) u3 a0.Memory)] [(false, .box 29 Responder_.rep u1 a0), (false, .box 29 Responder_.rep u2 a1)] := h
       refine RunL.nil ?_
       refine Run.slim [(80, .bool true), (2, u1), (3, u2), (5, .int .i64 s2)] ⟨rfl, rfl, rfl, rfl, trivial⟩ ?_
       refine Run.slim [(2, u1), (3, u2), (5, .int .i64 s2), (80, .bool true)] ⟨rfl, rfl, rfl, rfl, trivial⟩ ?_
       exact hj2 (true) _ _ ⟨rfl, (h46.facts .nil).picks (.cons .z (.cons .z .nil))⟩ hF
      ·
       have hG := hF
       subst e12
       have hF := hG
       obtain ⟨x8, e13, hF⟩ := bindP_use hF
       obtain ⟨x9, e14, hF⟩ := bindP_use hF
       obtain ⟨y1, e15, hF⟩ := bindP_use hF
       refine Run.drawV (Ωs := []) [⟨some 35, some ((padd u1 2)), fun _ => [], fun ds_ u_ => [], [], [(0, [])], none⟩, ⟨some 36, none, fun u_ => [(false, .val (Rep.slice Memory_.rep) u_ a0.Memory)], fun ds_ u_ => [], [], [(0, [])], none⟩, ⟨some 37, some (.int .i64 s2), fun _ => [], fun ds_ u_ => [], [], [], none⟩, ⟨some 38, none, fun u_ => [(false, .ptr Memory_.rep u_ x2)], fun ds_ u_ => [], [], [], none⟩, ⟨some 39, none, fun u_ => [(false, .ptr (Rep.int .i64) u_ x2.Until)], fun ds_ u_ => [], [], [], none⟩, ⟨some 40, some (.int .i64 x2.Until), fun _ => [], fun ds_ u_ => [], [], [], none⟩, ⟨some 41, some ((padd u2 2)), fun _ => [], fun ds_ u_ => [], [], [(1, [])], none⟩, ⟨some 42, none, fun u_ => [(false, .val (Rep.slice Memory_.rep) u_ a1.Memory)], fun ds_ u_ => [], [], [(1, [])], none⟩, ⟨some 43, some (.int .i64 s2), fun _ => [], fun ds_ u_ => [], [], [], none⟩, ⟨some 44, none, fun u_ => [(false, .ptr Memory_.rep u_ x3)], fun ds_ u_ => [], [], [], none⟩, ⟨some 45, none, fun u_ => [(false, .ptr (Rep.int .i64) u_ x3.Until)], fun ds_ u_ => [], [], [], none⟩, ⟨some 46, some (.int .i64 x3.Until), fun _ => [], fun ds_ u_ => [], [], [], none⟩, ⟨some 47, some (.bool (x2.Until != x3.Until)), fun _ => [], fun ds_ u_ => [], [], [], none⟩, ⟨some 48, some (.bool false), fun _ => [], fun ds_ u_ => [], [], [], none⟩, ⟨some 49, some ((padd u1 2)), fun _ => [], fun ds_ u_ => [], [], [(0, [])], none⟩, ⟨some 50, none, fun u_ => [(false, .val (Rep.slice Memory_.rep) u_ a0.Memory)], fun ds_ u_ => [], [], [(0, [])], none⟩, ⟨some 51, some (.int .i64 s2), fun _ => [], fun ds_ u_ => [], [], [], none⟩, ⟨some 52, none, fun u_ => [(false, .ptr Memory_.rep u_ x5)], fun ds_ u_ => [], [], [], none⟩, ⟨some 53, none, fun u_ => [(false, .ptr (Rep.slice (Rep.int .u8)) u_ x5.Reply)], fun ds_ u_ => [], [], [], none⟩, ⟨some 54, none, fun u_ => [(false, .val (Rep.slice (Rep.int .u8)) u_ x5.Reply)], fun ds_ u_ => [], [], [], none⟩, ⟨some 55, none, fun u_ => [(true, .val Rep.str u_ (toStr x5.Reply))], fun ds_ u_ => [], [], [], none⟩, ⟨some 56, some ((padd u2 2)), fun _ => [], fun ds_ u_ => [], [], [(1, [])], none⟩, ⟨some 57, none, fun u_ => [(false, .val (Rep.slice Memory_.rep) u_ a1.Memory)], fun ds_ u_ => [], [], [(1, [])], none⟩, ⟨some 58, some (.int .i64 s2), fun _ => [], fun ds_ u_ => [], [], [], none⟩, ⟨some 59, none, fun u_ => [(false, .ptr Memory_.rep u_ x6)], fun ds_ u_ => [], [], [], none⟩, ⟨some 60, none, fun u_ => [(false, .ptr (Rep.slice (Rep.int .u8)) u_ x6.Reply)], fun ds_ u_ => [], [], [], none⟩, ⟨some 61, none, fun u_ => [(false, .val (Rep.slice (Rep.int .u8)) u_ x6.Reply)], fun ds_ u_ => [], [], [], none⟩, ⟨some 62, none, fun u_ => [(true, .val Rep.str u_ (toStr x6.Reply))], fun ds_ u_ => [], [], [], none⟩, ⟨some 63, some (.bool ((toStr x5.Reply) != (toStr x6.Reply))), fun _ => [], fun ds_ u_ => [], [], [], none⟩, ⟨some 64, some (.bool ((toStr x5.Reply) != (toStr x6.Reply))), fun _ => [], fun ds_ u_ => [], [], [], none⟩, ⟨some 65, some (.bool false), fun _ => [], fun ds_ u_ => [], [], [], none⟩, ⟨some 66, some ((padd u1 2)), fun _ => [], fun ds_ u_ => [], [], [(0, [])], none⟩, ⟨some 67, none, fun u_ => [(false, .val (Rep.slice Memory_.rep) u_ a0.Memory)], fun ds_ u_ => [], [], [(0, [])], none⟩, ⟨some 68, some (.int .i64 s2), fun _ => [], fun ds_ u_ => [], [], [], none⟩, ⟨some 69, none, fun u_ => [(false, .ptr Memory_.rep u_ x8)], fun ds_ u_ => [], [], [], none⟩, ⟨some 70, none, fun u_ => [(false, .ptr Message_.rep u_ x8.Request)], fun ds_ u_ => [], [], [], none⟩, ⟨some 71, none, fun u_ => [(false, .val Message_.rep u_ x8.Request)], fun ds_ u_ => [], [], [], none⟩, ⟨some 72, some ((padd u2 2)), fun _ => [], fun ds_ u_ => [], [], [(1, [])], none⟩, ⟨some 73, none, fun u_ => [(false, .val (Rep.slice Memory_.rep) u_ a1.Memory)], fun ds_ u_ => [], [], [(1, [])], none⟩, ⟨some 74, some (.int .i64 s2), fun _ => [], fun ds_ u_ => [], [], [], none⟩, ⟨some 75, none, fun u_ => [(false, .ptr Memory_.rep u_ x9)], fun ds_ u_ => [], [], [], none⟩, ⟨some 76, none, fun u_ => [(false, .ptr Message_.rep u_ x9.Request)], fun ds_ u_ => [], [], [], none⟩, ⟨some 77, none, fun u_ => [(false, .val Message_.rep u_ x9.Request)], fun ds_ u_ => [], [], [], none⟩, ⟨some 78, some (.bool y1), fun _ => [], fun ds_ u_ => [], [], [], none⟩, ⟨some 79, some (.bool (!y1)), fun _ => [], fun ds_ u_ => [], [], [], none⟩, ⟨some 80, some (.bool (!y1)), fun _ => [], fun ds_ u_ => [], [], [], none⟩] [[], [0], [], [1, 2], [3], [4], [], [6], [], [7, 8], [9], [10], [5, 11], [12], [13], [14, 13], [13], [15, 16, 13], [17, 13], [18, 13], [19, 13], [13], [21, 13], [13], [22, 23, 13], [24, 13], [25, 13], [26, 13], [20, 27, 13], [13, 28], [29], [30], [31, 30], [30], [32, 33, 30], [34, 30], [35, 30], [30], [37, 30], [30], [38, 39, 30], [40, 30], [41, 30], [36, 42, 30], [43, 30], [30, 44]] [[(false, .box 29 Responder_.rep u1 a0)], [(false, .box 29 Responder_.rep u2 a1)]] [0, 1, 2, 3, 4, 5, 6, 7, 8, 9, 10, 11, 12, 13, 14, 15, 16, 17, 18, 19, 20, 21, 22, 23, 24, 25, 26, 27, 28, 29, 30, 31, 32, 33, 34, 35, 36, 37, 38, 39, 40, 41, 42, 43, 44, 45, 46, 47] Try_mixed rfl rfl rfl h5 (.cons ?_ (.cons ?_ (.cons ?_ (.cons ?_ (.cons ?_ (.cons ?_ (.cons ?_ (.cons ?_ (.cons ?_ (.cons ?_ (.cons ?_ (.cons ?_ (.cons ?_ (.cons ?_ (.cons ?_ (.cons ?_ (.cons ?_ (.cons ?_ (.cons ?_ (.cons ?_ (.cons ?_ (.cons ?_ (.cons ?_ (.cons ?_ (.cons ?_ (.cons ?_ (.cons ?_ (.cons ?_ (.cons ?_ (.cons ?_ (.cons ?_ (.cons ?_ (.cons ?_ (.cons ?_ (.cons ?_ (.cons ?_ (.cons ?_ (.cons ?_ (.cons ?_ (.cons ?_ (.cons ?_ (.cons ?_ (.cons ?_ (.cons ?_ (.cons ?_ (.cons ?_ .nil)))))))))))))))))))))))))))))))))))))))))))))) (fun q1 w hq3 h => ?_)
       ·intro q1 w Γx Ωx h
        have h : St e w ([(false, .val (Rep.slice Memory_.rep) u3 a0.Memory)] ++ Γx) ([(false, .box 29 Responder_.rep u1 a0)] ++ Ωx) := h
        refine OpS.fbox (o3 := 2) h .z PA.z fa29_2 rfl rfl rfl rfl ?_
        exact ⟨undef, rfl, trivial, h⟩
       ·intro q1 w Γx Ωx h
        have h : St e w ([(false, .val (Rep.slice Memory_.rep) u3 a0.Memory)] ++ Γx) ([(false, .box 29 Responder_.rep u1 a0)] ++ Ωx) := h
        refine OpS.loadB h .z PA.a (Get.fld Responder_.f2) ty27 rfl rfl rfl (fun u h57 => ?_)
        exact ⟨u, rfl, trivial, h57⟩
       ·intro q1 w Γx Ωx h
        refine OpS.mv rfl rfl rfl ?_
        exact ⟨undef, rfl, trivial, h⟩
       ·intro q1 w Γx Ωx h
        refine OpS.iptr h Try.underlying27 ty72 rfl rfl rfl rfl (V.at .z) e5 (fun u h58 => ?_)
        exact ⟨u, rfl, trivial, h58⟩
       ·intro q1 w Γx Ωx h
        refine OpS.fptr h fa72_2 Memory_.f2 rfl rfl rfl .z (fun u h59 => ?_)
        exact ⟨u, rfl, trivial, h59⟩
       ·intro q1 w Γx Ωx h
        refine OpS.loadi h ty2 rfl rfl rfl .z ?_
        exact ⟨undef, rfl, trivial, h⟩
       ·intro q1 w Γx Ωx h
        have h : St e w ([(false, .val (Rep.slice Memory_.rep) u3 a0.Memory)] ++ Γx) ([(false, .box 29 Responder_.rep u2 a1)] ++ Ωx) := h
        refine OpS.fbox (o3 := 2) h .z PA.z fa29_2 rfl rfl rfl rfl ?_
        exact ⟨undef, rfl, trivial, h⟩
       ·intro q1 w Γx Ωx h
        have h : St e w ([(false, .val (Rep.slice Memory_.rep) u3 a0.Memory)] ++ Γx) ([(false, .box 29 Responder_.rep u2 a1)] ++ Ωx) := h
        refine OpS.loadB h .z PA.a (Get.fld Responder_.f2) ty27 rfl rfl rfl (fun u h60 => ?_)
        exact ⟨u, rfl, trivial, h60⟩
       ·intro q1 w Γx Ωx h
        refine OpS.mv rfl rfl rfl ?_
        exact ⟨undef, rfl, trivial, h⟩
       ·intro q1 w Γx Ωx h
        refine OpS.iptr h Try.underlying27 ty72 rfl rfl rfl rfl (V.at .z) e6 (fun u h61 => ?_)
        exact ⟨u, rfl, trivial, h61⟩
       ·intro q1 w Γx Ωx h
        refine OpS.fptr h fa72_2 Memory_.f2 rfl rfl rfl .z (fun u h62 => ?_)
        exact ⟨u, rfl, trivial, h62⟩
       ·intro q1 w Γx Ωx h
        refine OpS.loadi h ty2 rfl rfl rfl .z ?_
        exact ⟨undef, rfl, trivial, h⟩
       ·intro q1 w Γx Ωx h
        refine OpS.bin rfl rfl rfl rfl rfl ?_
        exact ⟨undef, rfl, trivial, h⟩
       ·intro q1 w Γx Ωx h
        refine OpS.mv rfl rfl rfl ?_
        exact ⟨undef, (congrArg (fun z_ => some (Value.bool z_)) e7), trivial, h⟩
       ·intro q1 w Γx Ωx h
        have h : St e w ([(false, .val (Rep.slice Memory_.rep) u3 a0.Memory)] ++ Γx) ([(false, .box 29 Responder_.rep u1 a0)] ++ Ωx) := h
        refine OpS.fbox (o3 := 2) h .z PA.z fa29_2 rfl rfl rfl rfl ?_
        exact ⟨undef, rfl, trivial, h⟩
       ·intro q1 w Γx Ωx h
        have h : St e w ([(false, .val (Rep.slice Memory_.rep) u3 a0.Memory)] ++ Γx) ([(false, .box 29 Responder_.rep u1 a0)] ++ Ωx) := h
        refine OpS.loadB h .z PA.a (Get.fld Responder_.f2) ty27 rfl rfl rfl (fun u h63 => ?_)
        exact ⟨u, rfl, trivial, h63⟩
       ·intro q1 w Γx Ωx h
        refine OpS.mv rfl rfl rfl ?_
        exact ⟨undef, rfl, trivial, h⟩
       ·intro q1 w Γx Ωx h
        refine OpS.iptr h Try.underlying27 ty72 rfl rfl rfl rfl (V.at .z) e9 (fun u h64 => ?_)
        exact ⟨u, rfl, trivial, h64⟩
       ·intro q1 w Γx Ωx h
        refine OpS.fptr h fa72_1 Memory_.f1 rfl rfl rfl .z (fun u h65 => ?_)
        exact ⟨u, rfl, trivial, h65⟩
       ·intro q1 w Γx Ωx h
        refine OpS.load h ty22 rfl rfl rfl .z (fun u h66 => ?_)
        exact ⟨u, rfl, trivial, h66⟩
       ·intro q1 w Γx Ωx h
        refine OpS.toStr h Try.underlying22 Try.underlying5 Try.underlying9 rfl rfl rfl (V.at .z) (fun u h67 => ?_)
        exact ⟨u, rfl, trivial, h67⟩
       ·intro q1 w Γx Ωx h
        have h : St e w ([(false, .val (Rep.slice Memory_.rep) u3 a0.Memory)] ++ Γx) ([(false, .box 29 Responder_.rep u2 a1)] ++ Ωx) := h
        refine OpS.fbox (o3 := 2) h .z PA.z fa29_2 rfl rfl rfl rfl ?_
        exact ⟨undef, rfl, trivial, h⟩
       ·intro q1 w Γx Ωx h
        have h : St e w ([(false, .val (Rep.slice Memory_.rep) u3 a0.Memory)] ++ Γx) ([(false, .box 29 Responder_.rep u2 a1)] ++ Ωx) := h
        refine OpS.loadB h .z PA.a (Get.fld Responder_.f2) ty27 rfl rfl rfl (fun u h68 => ?_)
        exact ⟨u, rfl, trivial, h68⟩
       ·intro q1 w Γx Ωx h
        refine OpS.mv rfl rfl rfl ?_
        exact ⟨undef, rfl, trivial, h⟩
       ·intro q1 w Γx Ωx h
        refine OpS.iptr h Try.underlying27 ty72 rfl rfl rfl rfl (V.at .z) e10 (fun u h69 => ?_)
        exact ⟨u, rfl, trivial, h69⟩
       ·intro q1 w Γx Ωx h
        refine OpS.fptr h fa72_1 Memory_.f1 rfl rfl rfl .z (fun u h70 => ?_)
        exact ⟨u, rfl, trivial, h70⟩
       ·intro q1 w Γx Ωx h
        refine OpS.load h ty22 rfl rfl rfl .z (fun u h71 => ?_)
        exact ⟨u, rfl, trivial, h71⟩
       ·intro q1 w Γx Ωx h
        refine OpS.toStr h Try.underlying22 Try.underlying5 Try.underlying9 rfl rfl rfl (V.at .z) (fun u h72 => ?_)
        exact ⟨u, rfl, trivial, h72⟩
       ·intro q1 w Γx Ωx h
        refine OpS.nes h rfl rfl rfl rfl (V.at .z) (V.at (.s .z)) Try.underlying9 ?_
        exact ⟨undef, rfl, trivial, h⟩
       ·intro q1 w Γx Ωx h
        refine OpS.pick rfl rfl rfl rfl ?_
        exact ⟨undef, rfl, trivial, h⟩
       ·intro q1 w Γx Ωx h
        refine OpS.mv rfl rfl rfl ?_
        exact ⟨undef, (congrArg (fun z_ => some (Value.bool z_)) e11), trivial, h⟩
       ·intro q1 w Γx Ωx h
        have h : St e w ([(false, .val (Rep.slice Memory_.rep) u3 a0.Memory)] ++ Γx) ([(false, .box 29 Responder_.rep u1 a0)] ++ Ωx) := h
        refine OpS.fbox (o3 := 2) h .z PA.z fa29_2 rfl rfl rfl rfl ?_
        exact ⟨undef, rfl, trivial, h⟩
       ·intro q1 w Γx Ωx h
        have h : St e w ([(false, .val (Rep.slice Memory_.rep) u3 a0.Memory)] ++ Γx) ([(false, .box 29 Responder_.rep u1 a0)] ++ Ωx) := h
        refine OpS.loadB h .z PA.a (Get.fld Responder_.f2) ty27 rfl rfl rfl (fun u h73 => ?_)
        exact ⟨u, rfl, trivial, h73⟩
       ·intro q1 w Γx Ωx h
        refine OpS.mv rfl rfl rfl ?_
        exact ⟨undef, rfl, trivial, h⟩
       ·intro q1 w Γx Ωx h
        refine OpS.iptr h Try.underlying27 ty72 rfl rfl rfl rfl (V.at .z) e13 (fun u h74 => ?_)
        exact ⟨u, rfl, trivial, h74⟩
       ·intro q1 w Γx Ωx h
        refine OpS.fptr h fa72_0 Memory_.f0 rfl rfl rfl .z (fun u h75 => ?_)
        exact ⟨u, rfl, trivial, h75⟩
       ·intro q1 w Γx Ωx h
        refine OpS.load h ty37 rfl rfl rfl .z (fun u h76 => ?_)
        exact ⟨u, rfl, trivial, h76⟩
       ·intro q1 w Γx Ωx h
        have h : St e w ([(false, .val (Rep.slice Memory_.rep) u3 a0.Memory)] ++ Γx) ([(false, .box 29 Responder_.rep u2 a1)] ++ Ωx) := h
        refine OpS.fbox (o3 := 2) h .z PA.z fa29_2 rfl rfl rfl rfl ?_
        exact ⟨undef, rfl, trivial, h⟩
       ·intro q1 w Γx Ωx h
        have h : St e w ([(false, .val (Rep.slice Memory_.rep) u3 a0.Memory)] ++ Γx) ([(false, .box 29 Responder_.rep u2 a1)] ++ Ωx) := h
        refine OpS.loadB h .z PA.a (Get.fld Responder_.f2) ty27 rfl rfl rfl (fun u h77 => ?_)
        exact ⟨u, rfl, trivial, h77⟩
       ·intro q1 w Γx Ωx h
        refine OpS.mv rfl rfl rfl ?_
        exact ⟨undef, rfl, trivial, h⟩
       ·intro q1 w Γx Ωx h
        refine OpS.iptr h Try.underlying27 ty72 rfl rfl rfl rfl (V.at .z) e14 (fun u h78 => ?_)
        exact ⟨u, rfl, trivial, h78⟩
       ·intro q1 w Γx Ωx h
        refine OpS.fptr h fa72_0 Memory_.f0 rfl rfl rfl .z (fun u h79 => ?_)
        exact ⟨u, rfl, trivial, h79⟩
       ·intro q1 w Γx Ωx h
        refine OpS.load h ty37 rfl rfl rfl .z (fun u h80 => ?_)
        exact ⟨u, rfl, trivial, h80⟩
       ·intro q1 w Γx Ωx h
        refine OpS.callP h Try.func19 rfl rfl rfl rfl (vs := [(q1 36), (q1 42)]) rfl (ref24_SameMessage_ok e15) (.cons (f := false) (V.at .z) (.cons (f := false) (V.at (.s .z)) .nil)) ?_
        rintro _ w7 _ _ _ ⟨rfl, rfl, rfl, rfl⟩ h81
        have h82 := h81 rfl rfl
        simp only [List.cons_append, List.nil_append] at h82
        exact ⟨undef, rfl, trivial, h82⟩
       ·intro q1 w Γx Ωx h
        refine OpS.not rfl rfl rfl ?_
        exact ⟨undef, rfl, trivial, h⟩
       ·intro q1 w Γx Ωx h
        refine OpS.pick rfl rfl rfl rfl ?_
        exact ⟨undef, rfl, trivial, h⟩
       have h83 : St e w [(false, .val (Rep.slice Memory_.rep) (q1 1) a0.Memory), (false, .ptr Memory_.rep (q1 3) x2), (false, .ptr (Rep.int .i64) (q1 4) x2.Until), (false, .val (Rep.slice Memory_.rep) (q1 7) a1.Memory), (false, .ptr Memory_.rep (q1 9) x3), (false, .ptr (Rep.int .i64) (q1 10) x3.Until), (false, .val (Rep.slice Memory_.rep) (q1 15) a0.Memory), (false, .ptr Memory_.rep (q1 17) x5), (false, .ptr (Rep.slice (Rep.int .u8)) (q1 18) x5.Reply), (false, .val (Rep.slice (Rep.int .u8)) (q1 19) x5.Reply), (true, .val Rep.str (q1 20) (toStr x5.Reply)), (false, .val (Rep.slice Memory_.rep) (q1 22) a1.Memory), (false, .ptr Memory_.rep (q1 24) x6), (false, .ptr (Rep.slice (Rep.int .u8)) (q1 25) x6.Reply), (false, .val (Rep.slice (Rep.int .u8)) (q1 26) x6.Reply), (true, .val Rep.str (q1 27) (toStr x6.Reply)), (false, .val (Rep.slice Memory_.rep) (q1 32) a0.Memory), (false, .ptr Memory_.rep (q1 34) x8), (false, .ptr Message_.rep (q1 35) x8.Request), (false, .val Message_.rep (q1 36) x8.Request), (false, .val (Rep.slice Memory_.rep) (q1 38) a1.Memory), (false, .ptr Memory_.rep (q1 40) x9), (false, .ptr Message_.rep (q1 41) x9.Request), (false, .val Message_.rep (q1 42) x9.Request), (false, .val (Rep.slice Memory_.rep) u3 a0.Memory)] [(false, .box 29 Responder_.rep u1 a0), (false, .box 29 Responder_.rep u2 a1)] := h
       refine RunL.nil ?_
       refine Run.slim [(80, .bool (!y1)), (2, u1), (3, u2), (5, .int .i64 s2)] ⟨rfl, rfl, rfl, rfl, trivial⟩ ?_
       refine Run.slim [(2, u1), (3, u2), (5, .int .i64 s2), (80, .bool (!y1))] ⟨rfl, rfl, rfl, rfl, trivial⟩ ?_
       exact hj2 (!y1) _ _ ⟨rfl, (h83.facts .nil).picks (.cons .z (.cons .z .nil))⟩ hF
   ·
    refine Run.exit rfl ?_
    refine Run.seq ?_
    refine Run.reg ?_
    refine op (OpS.as rfl rfl rfl ?_)
    refine RunL.nil ?_
    refine Run.slim [(4, .bool true)] ⟨rfl, trivial⟩ ?_
    refine Run.retP rfl (.tmp rfl .nil) ?_
    cases hF
    exact Post.mk' ⟨rfl, rfl, rfl, rfl⟩ (h5.picks .nil) .nil
 ·
  refine RunL.caseb hF (fun e16 hF => ?_) (fun e16 hF => ?_)
  ·
   refine op (OpS.pass rfl rfl rfl ?_)
   refine op (OpS.pass rfl rfl rfl ?_)
   refine op (OpS.pass rfl rfl rfl ?_)
   refine op (OpS.pass rfl rfl rfl ?_)
   refine op (OpS.pass rfl rfl rfl ?_)
   refine op (OpS.pass rfl rfl rfl ?_)
   refine op (OpS.pick rfl rfl rfl rfl ?_)
   refine op (OpS.mv rfl rfl rfl ?_)
   refine op (OpS.pass rfl rfl rfl ?_)
   refine op (OpS.pass rfl rfl rfl ?_)
   refine op (OpS.pass rfl rfl rfl ?_)
   refine op (OpS.pass rfl rfl rfl ?_)
   refine op (OpS.pass rfl rfl rfl ?_)
   refine op (OpS.pass rfl rfl rfl ?_)
   refine op (OpS.pass rfl rfl rfl ?_)
   refine op (OpS.pick rfl rfl rfl rfl ?_)
   refine RunL.nil ?_
   refine Run.slim [(27, .bool true), (3, u2), (2, u1)] ⟨rfl, rfl, rfl, trivial⟩ ?_
   refine Run.slim [(2, u1), (3, u2), (27, .bool true)] ⟨rfl, rfl, rfl, trivial⟩ ?_
   exact hj1 (true) _ _ ⟨rfl, (h2.facts .nil).picks (.cons (.s .z) (.cons .z .nil))⟩ hF
  ·
   refine op (OpS.fbox (o3 := 1) h2 (.s .z) PA.z fa29_1 rfl rfl rfl rfl ?_)
   refine op (OpS.loadB h2 (.s .z) PA.a (Get.fld Responder_.f1) ty26 rfl rfl rfl (fun u4 h84 => ?_))
   refine op (OpS.fbox (o3 := 1) h84 .z PA.z fa29_1 rfl rfl rfl rfl ?_)
   refine op (OpS.loadB h84 .z PA.a (Get.fld Responder_.f1) ty26 rfl rfl rfl (fun u5 h85 => ?_))
   obtain ⟨y2, e17, hF⟩ := bindP_use hF
   refine op (OpS.callP h85 Try.func51 rfl rfl rfl rfl (vs := [u4, u5]) rfl (ref24_SameMessages_ok e17) (.cons (f := false) (V.at (.s .z)) (.cons (f := false) (V.at .z) .nil)) ?_)
   rintro _ w8 _ _ _ ⟨rfl, rfl, rfl, rfl⟩ h86
   have h87 := h86 rfl rfl
   simp only [List.cons_append, List.nil_append] at h87
   refine op (OpS.not rfl rfl rfl ?_)
   refine op (OpS.pick rfl rfl rfl rfl ?_)
   refine op (OpS.mv rfl rfl rfl ?_)
   refine RunL.caseb hF (fun e18 hF => ?_) (fun e18 hF => ?_)
   ·
    refine op (OpS.pass rfl rfl rfl ?_)
    refine op (OpS.pass rfl rfl rfl ?_)
    refine op (OpS.pass rfl rfl rfl ?_)
    refine op (OpS.pass rfl rfl rfl ?_)
    refine op (OpS.pass rfl rfl rfl ?_)
    refine op (OpS.pass rfl rfl rfl ?_)
    refine op (OpS.pass rfl rfl rfl ?_)
    refine op (OpS.pick rfl rfl rfl rfl ?_)
    refine RunL.nil ?_
    refine Run.slim [(27, .bool true), (3, u2), (2, u1)] ⟨rfl, rfl, rfl, trivial⟩ ?_
    refine Run.slim [(2, u1), (3, u2), (27, .bool true)] ⟨rfl, rfl, rfl, trivial⟩ ?_
    exact hj1 (true) _ _ ⟨rfl, (h87.facts .nil).picks (.cons (.s .z) (.cons .z .nil))⟩ hF
   ·
    refine op (OpS.fbox (o3 := 2) h87 (.s .z) PA.z fa29_2 rfl rfl rfl rfl ?_)
    refine op (OpS.loadB h87 (.s .z) PA.a (Get.fld Responder_.f2) ty27 rfl rfl rfl (fun u6 h88 => ?_))
    refine op (OpS.len h88 Try.underlying27 rfl rfl rfl (V.at .z) ?_)
    refine op (OpS.fbox (o3 := 2) h88 .z PA.z fa29_2 rfl rfl rfl rfl ?_)
    refine op (OpS.loadB h88 .z PA.a (Get.fld Responder_.f2) ty27 rfl rfl rfl (fun u7 h89 => ?_))
    refine op (OpS.len h89 Try.underlying27 rfl rfl rfl (V.at .z) ?_)
    refine op (OpS.bin rfl rfl rfl rfl rfl ?_)
    refine op (OpS.pick rfl rfl rfl rfl ?_)
    refine RunL.nil ?_
    refine Run.slim [(27, .bool ((a0.Memory.length : Int) != (a1.Memory.length : Int))), (3, u2), (2, u1)] ⟨rfl, rfl, rfl, trivial⟩ ?_
    refine Run.slim [(2, u1), (3, u2), (27, .bool ((a0.Memory.length : Int) != (a1.Memory.length : Int)))] ⟨rfl, rfl, rfl, trivial⟩ ?_
    exact hj1 ((a0.Memory.length : Int) != (a1.Memory.length : Int)) _ _ ⟨rfl, (h89.facts .nil).picks (.cons (.s .z) (.cons .z .nil))⟩ hF
set_option maxHeartbeats 8000000 in
theorem law25_odd_ok {fuel : Nat} {a0 : field_Codes} {a1 : Responder_} {y : Responder_ × field_Codes} (hF : law25_odd fuel a0 a1 = some y) {w : World} {v0 v1 : Value} :
  Spec Try.prog 24 [v0, v1].toArray w [(false, .val Responder_.rep v1 a1)] [(false, .box 64 field_Codes.rep v0 a0)] (fun v Γr Ωr Ωo => ∃ u0 : Value, v = u0 ∧ Γr = [(false, .val Responder_.rep u0 y.1)] ∧ Ωr = [] ∧ Ωo = [(false, .box 64 field_Codes.rep v0 y.2)]) := by
 refine Spec.of (L := [(0, v0), (1, v1)]) Try.func24 rfl ⟨rfl, rfl, trivial⟩ rfl (fun e h => ?_)
 unfold law25_odd at hF
 refine Run.seq ?_
 refine Run.reg ?_
 refine op (OpS.boxF h rfl rfl rfl (V.at .z) (fun u1 w1 h1 => ?_))
 refine op (OpS.alloc h1 ti29 Responder_.zr rfl rfl (fun u2 w2 h2 => ?_))
 refine RunL.nil ?_
 refine Run.slim [(4, u2), (3, u1), (0, v0)] ⟨rfl, rfl, rfl, trivial⟩ ?_
 refine Run.seq ?_
 refine Run.reg ?_
 refine op (OpS.loadB h2 (.s .z) PA.z Get.id ty29 rfl rfl rfl (fun u3 h3 => ?_))
 obtain ⟨y1, e1, hF⟩ := bindP_use hF
 have h4 := h3.front .nil
 refine op (OpS.callO h4 Try.func52 rfl rfl rfl rfl (vs := [u3, .int .i64 (-1)]) rfl (ref25_Fresh_ok e1) rfl (.cons (f := false) (V.at .z) .nil) ?_)
 rintro u4 w3 _ _ _ ⟨_, u5, u6, rfl, rfl, rfl, rfl⟩ h5
 have h6 := h5
 simp only [List.cons_append, List.nil_append] at h6
 refine op (OpS.storeC (f' := false) (fr := (Rep.iso (fun s : Responder_ => (s.Own, s.Queue, s.Memory, ())) (Rep.prod (Rep.int .u8) (Rep.prod (Rep.raw u5) (Rep.prod (Rep.raw u6) Rep.unit))))) (r' := (Rep.iso (fun s : Responder_ => (s.Own, s.Queue, s.Memory, ())) (Rep.prod (Rep.int .u8) (Rep.prod (Rep.raw u5) (Rep.prod (Rep.raw u6) Rep.unit))))) (x' := y1) h6 (.s (.s (.s .z))) PA.z (Chg.id (by rfl)) (Ty.like ty29 (by rfl) (by rfl)) rfl rfl rfl (V.at .z) (.inr rfl) (fun w4 h7 => ?_))
 refine RunL.nil ?_
 refine Run.slim [(4, u2), (3, u1), (0, v0)] ⟨rfl, rfl, rfl, trivial⟩ ?_
 refine Run.seq ?_
 refine Run.reg ?_
 refine op (OpS.mv rfl rfl rfl ?_)
 obtain ⟨y2, e2, hF⟩ := bindP_use hF
 have h8 := h7.front (.cons (.s (.s (.s (.s .z)))) .nil)
 refine op (OpS.callO h8 Try.func12 rfl rfl rfl rfl (vs := [v0, .int .i64 5]) rfl (field_Codes_Next_ok e2) rfl .nil ?_)
 rintro _ w5 _ _ _ ⟨rfl, rfl, rfl, rfl⟩ h9
 have h10 := h9
 simp only [List.cons_append, List.nil_append] at h10
 refine op (OpS.as rfl rfl rfl ?_)
 refine RunL.nil ?_
 refine Run.slim [(5, .int .i64 y2.1), (4, u2), (3, u1), (0, v0)] ⟨rfl, rfl, rfl, rfl, trivial⟩ ?_
 refine Run.seq ?_
 refine Run.seq ?_
 refine Run.reg ?_
 refine op (OpS.mv rfl rfl rfl ?_)
 refine op (OpS.bin rfl rfl rfl rfl rfl ?_)
 refine op (OpS.mv rfl rfl rfl ?_)
 refine RunL.join (σ := Bool) (fun s_ L_ w_ => L_ = [(0, v0), (3, u1), (4, u2), (5, .int .i64 y2.1), (17, .bool s_)] ∧ St e w_ [] [(false, .box 64 field_Codes.rep v0 y2.2), (false, .box 29 (Rep.iso (fun s : Responder_ => (s.Own, s.Queue, s.Memory, ())) (Rep.prod (Rep.int .u8) (Rep.prod (Rep.raw u5) (Rep.prod (Rep.raw u6) Rep.unit)))) u1 y1), (true, .box 29 Responder_.rep u2 Responder_.z), (false, .slice 37 Message_.rep u5 y1.Queue), (false, .slice 72 Memory_.rep u6 y1.Memory)]) hF (fun s1 _ w6 hI hF => ?_) (fun j1 hj1 hF => ?_)
 ·
  obtain ⟨rfl, h11⟩ := hI
  refine Run.join (σ := Int) (fun s_ L_ w_ => L_ = [(0, v0), (3, u1), (4, u2), (5, .int .i64 s_)] ∧ St e w_ [] [(false, .box 64 field_Codes.rep v0 y2.2), (false, .box 29 (Rep.iso (fun s : Responder_ => (s.Own, s.Queue, s.Memory, ())) (Rep.prod (Rep.int .u8) (Rep.prod (Rep.raw u5) (Rep.prod (Rep.raw u6) Rep.unit)))) u1 y1), (true, .box 29 Responder_.rep u2 Responder_.z), (false, .slice 37 Message_.rep u5 y1.Queue), (false, .slice 72 Memory_.rep u6 y1.Memory)]) hF (fun s2 _ w7 hI hF => ?_) (fun j2 hj2 hF => ?_)
  ·
   obtain ⟨rfl, h12⟩ := hI
   refine Run.seq ?_
   refine Run.seq ?_
   refine Run.reg ?_
   refine op (OpS.mv rfl rfl rfl ?_)
   refine RunL.nil ?_
   refine Run.slim [(18, .int .i64 s2), (0, v0), (3, u1), (4, u2)] ⟨rfl, rfl, rfl, rfl, trivial⟩ ?_
   refine Run.block ?_
   refine Run.seq ?_
   refine Run.reg ?_
   refine op (OpS.bin rfl rfl rfl rfl rfl ?_)
   refine op (OpS.as rfl rfl rfl ?_)
   obtain ⟨x1, e3, hF⟩ := letP_use hF
   refine RunL.nameb e3 ?_
   refine RunL.nil ?_
   refine Run.slim [(19, .bool x1), (18, .int .i64 s2), (0, v0), (3, u1), (4, u2)] ⟨rfl, rfl, rfl, rfl, rfl, trivial⟩ ?_
   refine Run.ite rfl hF (fun e4 hF => ?_) (fun e4 hF => ?_)
   ·
    have h13 := (h12.pick (.s (.s (.s .z)))).freeze
    have h14 := h13.pick (.s .z)
    have h15 := St.boxJ (r' := (Rep.iso (fun s : Responder_ => (s.Own, s.Queue, s.Memory, ())) (Rep.prod (Rep.int .u8) (Rep.prod (Rep.slice Message_.rep) (Rep.prod (Rep.raw u6) Rep.unit))))) (x' := { y1 with Queue := y1.Queue }) h14 (fun _ _ hs_ => (Jn.iso _ (Jn.prod Jn.refl (Jn.prod (Jn.raw ((V.at .z) _ _ hs_) rfl) (Jn.prod Jn.same Jn.refl)))))
    have h16 := h15.picks (.cons .z (.cons .z (.cons (.s .z) (.cons .z .nil))))
    obtain ⟨y3, e5, hF⟩ := bindP_use hF
    obtain ⟨x2, e6, hF⟩ := bindP_use hF
    obtain ⟨x3, e7, hF⟩ := bindP_use hF
    obtain ⟨d1, e8, hF⟩ := letP_use hF
    refine Run.drawV (Ωs := [(true, .box 29 Responder_.rep u2 Responder_.z)]) [⟨some 21, some ((padd u1 2)), fun _ => [], fun ds_ u_ => [], [], [(0, [])], none⟩, ⟨some 22, some (u6), fun _ => [], fun ds_ u_ => [], [], [(0, []), (2, [9, 1])], none⟩, ⟨some 23, none, fun u_ => [(true, .val (Rep.slice (Rep.int .i64)) u_ ([(-1), 0, 9223372036854775807]))], fun ds_ u_ => [], [], [], none⟩, ⟨some 24, some (v0), fun _ => [], fun ds_ u_ => [], [], [], none⟩, ⟨some 25, some (.int .i64 y3.1), fun _ => [], fun ds_ u_ => [(false, .box 64 field_Codes.rep v0 y3.2)], [1], [], none⟩, ⟨some 26, none, fun u_ => [(true, .ptr (Rep.int .i64) u_ x2)], fun ds_ u_ => [], [], [], none⟩, ⟨some 27, some (.int .i64 x2), fun _ => [], fun ds_ u_ => [], [], [], none⟩, ⟨some 28, some ((padd (sp u6) ((0 : Int).toNat * Memory_.rep.n))), fun _ => [], fun ds_ u_ => [], [], [(2, [9, 8, 7])], none⟩, ⟨some 29, some ((padd (sp u6) ((0 : Int).toNat * Memory_.rep.n + 10))), fun _ => [], fun ds_ u_ => [], [], [(2, [9, 8])], none⟩, ⟨none, some undef, fun _ => [], fun ds_ u_ => [(false, .slice 72 Memory_.rep u6 d1)], [2], [], none⟩] [[], [0], [], [], [3], [2, 4], [5], [1], [7], [8, 6]] [[(false, .box 29 (Rep.iso (fun s : Responder_ => (s.Own, s.Queue, s.Memory, ())) (Rep.prod (Rep.int .u8) (Rep.prod (Rep.slice Message_.rep) (Rep.prod (Rep.raw u6) Rep.unit)))) u1 ({ y1 with Queue := y1.Queue }))], [(false, .box 64 field_Codes.rep v0 y2.2)], [(false, .slice 72 Memory_.rep u6 y1.Memory)]] [0, 3, 4, 5, 6, 7, 8, 9, 10, 11, 12] Try_mixed rfl rfl rfl h16 (.cons ?_ (.cons ?_ (.cons ?_ (.cons ?_ (.cons ?_ (.cons ?_ (.cons ?_ (.cons ?_ (.cons ?_ (.cons ?_ .nil)))))))))) (fun q1 w hq1 h => ?_)
    ·intro q1 w Γx Ωx h
     have h : St e w ([(false, .val (Rep.slice Message_.rep) u5 y1.Queue)] ++ Γx) ([(false, .box 29 (Rep.iso (fun s : Responder_ => (s.Own, s.Queue, s.Memory, ())) (Rep.prod (Rep.int .u8) (Rep.prod (Rep.slice Message_.rep) (Rep.prod (Rep.raw u6) Rep.unit)))) u1 ({ y1 with Queue := y1.Queue })), (true, .box 29 Responder_.rep u2 Responder_.z)] ++ Ωx) := h
     refine OpS.fbox (o3 := 2) h .z PA.z fa29_2 rfl rfl rfl rfl ?_
     exact ⟨undef, rfl, trivial, h⟩
    ·intro q1 w Γx Ωx h
     have h : St e w ([(false, .val (Rep.slice Message_.rep) u5 y1.Queue)] ++ Γx) ([(false, .box 29 (Rep.iso (fun s : Responder_ => (s.Own, s.Queue, s.Memory, ())) (Rep.prod (Rep.int .u8) (Rep.prod (Rep.slice Message_.rep) (Rep.prod (Rep.raw u6) Rep.unit)))) u1 ({ y1 with Queue := y1.Queue })), (false, .slice 72 Memory_.rep u6 y1.Memory), (true, .box 29 Responder_.rep u2 Responder_.z)] ++ Ωx) := h
     refine OpS.loadR h .z PA.a (GetS.ok (GetS.iso _ (GetS.there (GetS.there (GetS.here GetS.id))))) ty27 rfl rfl rfl rfl rfl ?_
     exact ⟨undef, rfl, trivial, h⟩
    ·intro q1 w Γx Ωx h
     refine OpS.lit (r := (Rep.int .i64)) (f := true) h Try.underlying60 ti2 rfl rfl rfl rfl rfl (.cons rfl V.int (.cons rfl V.int (.cons rfl V.int .nil))) rfl rfl (fun u w11 h23 => ?_)
     exact ⟨u, rfl, trivial, h23⟩
    ·intro q1 w Γx Ωx h
     refine OpS.mv rfl rfl rfl ?_
     exact ⟨undef, rfl, trivial, h⟩
    ·intro q1 w Γx Ωx h
     have h : St e w ([(false, .val (Rep.slice Message_.rep) u5 y1.Queue)] ++ Γx) ([(false, .box 64 field_Codes.rep v0 y2.2), (true, .box 29 Responder_.rep u2 Responder_.z)] ++ Ωx) := h
     have h24 := h.front (.cons .z .nil)
     refine OpS.callO h24 Try.func12 rfl rfl rfl rfl (vs := [v0, .int .i64 3]) rfl (field_Codes_Next_ok e5) rfl .nil ?_
     rintro _ w12 _ _ _ ⟨rfl, rfl, rfl, rfl⟩ h25
     have h26 := h25
     simp only [List.cons_append, List.nil_append] at h26
     exact ⟨undef, rfl, trivial, h26⟩
    ·intro q1 w Γx Ωx h
     refine OpS.iptr h Try.underlying60 ty2 rfl rfl rfl rfl (V.at .z) e6 (fun u h27 => ?_)
     exact ⟨u, rfl, trivial, h27⟩
    ·intro q1 w Γx Ωx h
     refine OpS.loadi h ty2 rfl rfl rfl .z ?_
     exact ⟨undef, rfl, trivial, h⟩
    ·intro q1 w Γx Ωx h
     have h : St e w ([(false, .val (Rep.slice Message_.rep) u5 y1.Queue)] ++ Γx) ([(false, .slice 72 Memory_.rep u6 y1.Memory), (true, .box 29 Responder_.rep u2 Responder_.z)] ++ Ωx) := h
     refine OpS.iown h .z Try.underlying27 ty72 rfl rfl rfl rfl e7 ?_
     exact ⟨undef, rfl, trivial, h⟩
    ·intro q1 w Γx Ωx h
     have h : St e w ([(false, .val (Rep.slice Message_.rep) u5 y1.Queue)] ++ Γx) ([(false, .slice 72 Memory_.rep u6 y1.Memory), (true, .box 29 Responder_.rep u2 Responder_.z)] ++ Ωx) := h
     refine OpS.fown h .z (idx_ne e7) PA.a fa72_2 rfl rfl rfl ?_
     exact ⟨undef, rfl, trivial, h⟩
    ·intro q1 w Γx Ωx h
     have h : St e w ([(false, .val (Rep.slice Message_.rep) u5 y1.Queue)] ++ Γx) ([(false, .slice 72 Memory_.rep u6 y1.Memory), (true, .box 29 Responder_.rep u2 Responder_.z)] ++ Ωx) := h
     refine OpS.storeO (f' := true) h .z (idx_ne e7) PA.a (Put.of (Put.comp (Get.arr e7) (Put.fld Memory_.f2) (Put.arr e7)) e8) ty2 rfl rfl rfl V.int (.inr rfl) (fun w13 h28 => ?_)
     exact ⟨undef, trivial, trivial, h28⟩
    have h29 : St e w [(true, .val (Rep.slice (Rep.int .i64)) (q1 2) ([(-1), 0, 9223372036854775807])), (true, .ptr (Rep.int .i64) (q1 5) x2), (false, .val (Rep.slice Message_.rep) u5 y1.Queue)] [(false, .box 29 (Rep.iso (fun s : Responder_ => (s.Own, s.Queue, s.Memory, ())) (Rep.prod (Rep.int .u8) (Rep.prod (Rep.slice Message_.rep) (Rep.prod (Rep.raw u6) Rep.unit)))) u1 ({ y1 with Queue := y1.Queue })), (false, .box 64 field_Codes.rep v0 y3.2), (false, .slice 72 Memory_.rep u6 d1), (true, .box 29 Responder_.rep u2 Responder_.z)] := h
    refine RunL.nil ?_
    refine Run.slim [(3, u1), (4, u2)] ⟨rfl, rfl, trivial⟩ ?_
    refine Run.endBlock ?_
    refine Run.seq ?_
    refine Run.reg ?_
    refine op (OpS.loadB (fr := (Rep.iso (fun s : Responder_ => (s.Own, s.Queue, s.Memory, ())) (Rep.prod (Rep.int .u8) (Rep.prod (Rep.slice Message_.rep) (Rep.prod (Rep.raw u6) Rep.unit))))) h29 .z PA.z (GetS.ok GetS.id) (Ty.like ty29 (by rfl) (by rfl)) rfl rfl rfl (fun u7 h30 => ?_))
    have h31 := (h30.pick (.s (.s (.s .z)))).weak
    obtain ⟨d2, e9, hF⟩ := letP_use hF
    refine op (OpS.storeC (f' := false) (fr := (Rep.iso (fun s : Responder_ => (s.Own, s.Queue, s.Memory, ())) (Rep.prod (Rep.int .u8) (Rep.prod (Rep.slice Message_.rep) (Rep.prod (Rep.raw u6) Rep.unit))))) (r' := (Rep.iso (fun s : Responder_ => (s.Own, s.Queue, s.Memory, ())) (Rep.prod (Rep.int .u8) (Rep.prod (Rep.slice Message_.rep) (Rep.prod (Rep.raw u6) Rep.unit))))) (x' := d2) h31 .z PA.z (Chg.of (x' := { y1 with Queue := y1.Queue }) (Chg.id (by rfl)) e9) (Ty.like ty29 (by rfl) (by rfl)) rfl rfl rfl (V.at .z) (.inr rfl) (fun w14 h32 => ?_))
    refine RunL.nil ?_
    refine Run.slim [(4, u2)] ⟨rfl, trivial⟩ ?_
    have h34 := (h32.pick (.s (.s (.s .z)))).freeze
    have h35 := h34.pick .z
    have h36 := St.boxJ (r' := Responder_.rep) (x' := { d2 with Memory := d1 }) h35 (fun _ _ hs_ => (Jn.iso _ (Jn.prod Jn.refl (Jn.prod Jn.refl (Jn.prod (Jn.raw ((V.at .z) _ _ hs_) rfl) Jn.refl)))))
    have h37 := h36.pick (.s .z)
    have h38 := St.boxJ (r' := Responder_.rep) (x' := { { y1 with Queue := y1.Queue } with Memory := d1 }) h37 (fun _ _ hs_ => (Jn.iso _ (Jn.prod Jn.refl (Jn.prod Jn.refl (Jn.prod (Jn.raw ((V.at .z) _ _ hs_) rfl) Jn.refl)))))
    obtain ⟨u8, hu1, h33⟩ := res_box h38 (.s .z) ty29
    refine Run.retP rfl (.cell rfl hu1 .nil) ?_
    cases hF
    exact Post.mk' ⟨u8, rfl, rfl, rfl, rfl⟩ (h33.picks (.cons (.s (.s .z)) .nil)) (.val (V.at .z) .nil)
   ·
    refine Run.seq ?_
    refine Run.reg ?_
    refine op (OpS.bin rfl rfl rfl rfl rfl ?_)
    refine op (OpS.as rfl rfl rfl ?_)
    obtain ⟨x4, e10, hF⟩ := letP_use hF
    refine RunL.nameb e10 ?_
    refine RunL.nil ?_
    refine Run.slim [(30, .bool x4), (18, .int .i64 s2), (0, v0), (3, u1), (4, u2)] ⟨rfl, rfl, rfl, rfl, rfl, trivial⟩ ?_
    refine Run.ite rfl hF (fun e11 hF => ?_) (fun e11 hF => ?_)
    ·
     have h39 := (h12.pick (.s (.s (.s .z)))).freeze
     have h40 := h39.pick (.s .z)
     have h41 := St.boxJ (r' := (Rep.iso (fun s : Responder_ => (s.Own, s.Queue, s.Memory, ())) (Rep.prod (Rep.int .u8) (Rep.prod (Rep.slice Message_.rep) (Rep.prod (Rep.raw u6) Rep.unit))))) (x' := { y1 with Queue := y1.Queue }) h40 (fun _ _ hs_ => (Jn.iso _ (Jn.prod Jn.refl (Jn.prod (Jn.raw ((V.at .z) _ _ hs_) rfl) (Jn.prod Jn.same Jn.refl)))))
     have h42 := h41.picks (.cons .z (.cons .z (.cons (.s .z) (.cons .z .nil))))
     obtain ⟨y4, e12, hF⟩ := bindP_use hF
     obtain ⟨x5, e13, hF⟩ := bindP_use hF
     obtain ⟨d3, e14, hF⟩ := letP_use hF
     refine Run.drawV (Ωs := [(true, .box 29 Responder_.rep u2 Responder_.z)]) [⟨some 32, some ((padd u1 2)), fun _ => [], fun ds_ u_ => [], [], [(0, [])], none⟩, ⟨some 33, some (u6), fun _ => [], fun ds_ u_ => [], [], [(0, []), (2, [6, 1])], none⟩, ⟨some 34, some (v0), fun _ => [], fun ds_ u_ => [], [], [], none⟩, ⟨some 35, none, fun u_ => [(true, .val (Rep.slice (Rep.int .u8)) u_ y4.1)], fun ds_ u_ => [(false, .box 64 field_Codes.rep v0 y4.2)], [1], [], none⟩, ⟨some 36, some ((padd (sp u6) ((0 : Int).toNat * Memory_.rep.n))), fun _ => [], fun ds_ u_ => [], [], [(2, [6, 5, 4])], none⟩, ⟨some 37, some ((padd (sp u6) ((0 : Int).toNat * Memory_.rep.n + 9))), fun _ => [], fun ds_ u_ => [], [], [(2, [6, 5])], none⟩, ⟨none, some undef, fun _ => [], fun ds_ u_ => [(false, .slice 72 Memory_.rep u6 d3)], [2], [], none⟩] [[], [0], [], [2], [1], [4], [5, 3]] [[(false, .box 29 (Rep.iso (fun s : Responder_ => (s.Own, s.Queue, s.Memory, ())) (Rep.prod (Rep.int .u8) (Rep.prod (Rep.slice Message_.rep) (Rep.prod (Rep.raw u6) Rep.unit)))) u1 ({ y1 with Queue := y1.Queue }))], [(false, .box 64 field_Codes.rep v0 y2.2)], [(false, .slice 72 Memory_.rep u6 y1.Memory)]] [0, 3, 4, 5, 6, 7, 8, 9] Try_mixed rfl rfl rfl h42 (.cons ?_ (.cons ?_ (.cons ?_ (.cons ?_ (.cons ?_ (.cons ?_ (.cons ?_ .nil))))))) (fun q2 w hq2 h => ?_)
     ·intro q2 w Γx Ωx h
      have h : St e w ([(false, .val (Rep.slice Message_.rep) u5 y1.Queue)] ++ Γx) ([(false, .box 29 (Rep.iso (fun s : Responder_ => (s.Own, s.Queue, s.Memory, ())) (Rep.prod (Rep.int .u8) (Rep.prod (Rep.slice Message_.rep) (Rep.prod (Rep.raw u6) Rep.unit)))) u1 ({ y1 with Queue := y1.Queue })), (true, .box 29 Responder_.rep u2 Responder_.z)] ++ Ωx) := h
      refine OpS.fbox (o3 := 2) h .z PA.z fa29_2 rfl rfl rfl rfl ?_
      exact ⟨undef, rfl, trivial, h⟩
     ·intro q2 w Γx Ωx h
      have h : St e w ([(false, .val (Rep.slice Message_.rep) u5 y1.Queue)] ++ Γx) ([(false, .box 29 (Rep.iso (fun s : Responder_ => (s.Own, s.Queue, s.Memory, ())) (Rep.prod (Rep.int .u8) (Rep.prod (Rep.slice Message_.rep) (Rep.prod (Rep.raw u6) Rep.unit)))) u1 ({ y1 with Queue := y1.Queue })), (false, .slice 72 Memory_.rep u6 y1.Memory), (true, .box 29 Responder_.rep u2 Responder_.z)] ++ Ωx) := h
      refine OpS.loadR h .z PA.a (GetS.ok (GetS.iso _ (GetS.there (GetS.there (GetS.here GetS.id))))) ty27 rfl rfl rfl rfl rfl ?_
      exact ⟨undef, rfl, trivial, h⟩
     ·intro q2 w Γx Ωx h
      refine OpS.mv rfl rfl rfl ?_
      exact ⟨undef, rfl, trivial, h⟩
     ·intro q2 w Γx Ωx h
      have h : St e w ([(false, .val (Rep.slice Message_.rep) u5 y1.Queue)] ++ Γx) ([(false, .box 64 field_Codes.rep v0 y2.2), (true, .box 29 Responder_.rep u2 Responder_.z)] ++ Ωx) := h
      have h48 := h.front (.cons .z .nil)
      refine OpS.callO h48 Try.func50 rfl rfl rfl rfl (vs := [v0, .int .i64 9]) rfl (field_Codes_Bytes_ok e12) rfl .nil ?_
      rintro u w17 _ _ _ ⟨_, rfl, rfl, rfl, rfl⟩ h49
      have h50 := h49
      simp only [List.cons_append, List.nil_append] at h50
      have h51 := h50.freeze
      exact ⟨u, rfl, trivial, h51⟩
     ·intro q2 w Γx Ωx h
      have h : St e w ([(false, .val (Rep.slice Message_.rep) u5 y1.Queue)] ++ Γx) ([(false, .slice 72 Memory_.rep u6 y1.Memory), (true, .box 29 Responder_.rep u2 Responder_.z)] ++ Ωx) := h
      refine OpS.iown h .z Try.underlying27 ty72 rfl rfl rfl rfl e13 ?_
      exact ⟨undef, rfl, trivial, h⟩
     ·intro q2 w Γx Ωx h
      have h : St e w ([(false, .val (Rep.slice Message_.rep) u5 y1.Queue)] ++ Γx) ([(false, .slice 72 Memory_.rep u6 y1.Memory), (true, .box 29 Responder_.rep u2 Responder_.z)] ++ Ωx) := h
      refine OpS.fown h .z (idx_ne e13) PA.a fa72_1 rfl rfl rfl ?_
      exact ⟨undef, rfl, trivial, h⟩
     ·intro q2 w Γx Ωx h
      have h : St e w ([(true, .val (Rep.slice (Rep.int .u8)) (q2 3) y4.1), (false, .val (Rep.slice Message_.rep) u5 y1.Queue)] ++ Γx) ([(false, .slice 72 Memory_.rep u6 y1.Memory), (true, .box 29 Responder_.rep u2 Responder_.z)] ++ Ωx) := h
      refine OpS.storeO (f' := false) h .z (idx_ne e13) PA.a (Put.of (Put.comp (Get.arr e13) (Put.fld Memory_.f1) (Put.arr e13)) e14) ty22 rfl rfl rfl (V.weak (V.at .z)) (.inr rfl) (fun w18 h52 => ?_)
      exact ⟨undef, trivial, trivial, h52⟩
     have h53 : St e w [(true, .val (Rep.slice (Rep.int .u8)) (q2 3) y4.1), (false, .val (Rep.slice Message_.rep) u5 y1.Queue)] [(false, .box 29 (Rep.iso (fun s : Responder_ => (s.Own, s.Queue, s.Memory, ())) (Rep.prod (Rep.int .u8) (Rep.prod (Rep.slice Message_.rep) (Rep.prod (Rep.raw u6) Rep.unit)))) u1 ({ y1 with Queue := y1.Queue })), (false, .box 64 field_Codes.rep v0 y4.2), (false, .slice 72 Memory_.rep u6 d3), (true, .box 29 Responder_.rep u2 Responder_.z)] := h
     refine RunL.nil ?_
     refine Run.slim [(3, u1), (4, u2)] ⟨rfl, rfl, trivial⟩ ?_
     refine Run.endBlock ?_
     refine Run.seq ?_
     refine Run.reg ?_
     refine op (OpS.loadB (fr := (Rep.iso (fun s : Responder_ => (s.Own, s.Queue, s.Memory, ())) (Rep.prod (Rep.int .u8) (Rep.prod (Rep.slice Message_.rep) (Rep.prod (Rep.raw u6) Rep.unit))))) h53 .z PA.z (GetS.ok GetS.id) (Ty.like ty29 (by rfl) (by rfl)) rfl rfl rfl (fun u9 h54 => ?_))
     have h55 := (h54.pick (.s (.s (.s .z)))).weak
     obtain ⟨d4, e15, hF⟩ := letP_use hF
     refine op (OpS.storeC (f' := false) (fr := (Rep.iso (fun s : Responder_ => (s.Own, s.Queue, s.Memory, ())) (Rep.prod (Rep.int .u8) (Rep.prod (Rep.slice Message_.rep) (Rep.prod (Rep.raw u6) Rep.unit))))) (r' := (Rep.iso (fun s : Responder_ => (s.Own, s.Queue, s.Memory, ())) (Rep.prod (Rep.int .u8) (Rep.prod (Rep.slice Message_.rep) (Rep.prod (Rep.raw u6) Rep.unit))))) (x' := d4) h55 .z PA.z (Chg.of (x' := { y1 with Queue := y1.Queue }) (Chg.id (by rfl)) e15) (Ty.like ty29 (by rfl) (by rfl)) rfl rfl rfl (V.at .z) (.inr rfl) (fun w19 h56 => ?_))
     refine RunL.nil ?_
     refine Run.slim [(4, u2)] ⟨rfl, trivial⟩ ?_
     have h58 := (h56.pick (.s (.s (.s .z)))).freeze
     have h59 := h58.pick .z
     have h60 := St.boxJ (r' := Responder_.rep) (x' := { d4 with Memory := d3 }) h59 (fun _ _ hs_ => (Jn.iso _ (Jn.prod Jn.refl (Jn.prod Jn.refl (Jn.prod (Jn.raw ((V.at .z) _ _ hs_) rfl) Jn.refl)))))
     have h61 := h60.pick (.s .z)
     have h62 := St.boxJ (r' := Responder_.rep) (x' := { { y1 with Queue := y1.Queue } with Memory := d3 }) h61 (fun _ _ hs_ => (Jn.iso _ (Jn.prod Jn.refl (Jn.prod Jn.refl (Jn.prod (Jn.raw ((V.at .z) _ _ hs_) rfl) Jn.refl)))))
     obtain ⟨u10, hu2, h57⟩ := res_box h62 (.s .z) ty29
     refine Run.retP rfl (.cell rfl hu2 .nil) ?_
     cases hF
     exact Post.mk' ⟨u10, rfl, rfl, rfl, rfl⟩ (h57.picks (.cons (.s (.s .z)) .nil)) (.val (V.at .z) .nil)
    ·
     refine Run.seq ?_
     refine Run.reg ?_
     refine op (OpS.bin rfl rfl rfl rfl rfl ?_)
     refine op (OpS.as rfl rfl rfl ?_)
     obtain ⟨x6, e16, hF⟩ := letP_use hF
     refine RunL.nameb e16 ?_
     refine RunL.nil ?_
     refine Run.slim [(38, .bool x6), (18, .int .i64 s2), (0, v0), (3, u1), (4, u2)] ⟨rfl, rfl, rfl, rfl, rfl, trivial⟩ ?_
     refine Run.ite rfl hF (fun e17 hF => ?_) (fun e17 hF => ?_)
     ·
      have h63 := (h12.pick (.s (.s (.s (.s .z))))).freeze
      have h64 := h63.pick (.s .z)
      have h65 := St.boxJ (r' := (Rep.iso (fun s : Responder_ => (s.Own, s.Queue, s.Memory, ())) (Rep.prod (Rep.int .u8) (Rep.prod (Rep.raw u5) (Rep.prod (Rep.slice Memory_.rep) Rep.unit))))) (x' := { y1 with Memory := y1.Memory }) h64 (fun _ _ hs_ => (Jn.iso _ (Jn.prod Jn.refl (Jn.prod Jn.same (Jn.prod (Jn.raw ((V.at .z) _ _ hs_) rfl) Jn.refl)))))
      have h66 := h65.picks (.cons .z (.cons (.s (.s .z)) (.cons .z (.cons .z .nil))))
      obtain ⟨x7, e18, hF⟩ := bindP_use hF
      obtain ⟨x8, e19, hF⟩ := bindP_use hF
      refine Run.drawV (Ωs := [(false, .box 64 field_Codes.rep v0 y2.2), (true, .box 29 Responder_.rep u2 Responder_.z)]) [⟨some 40, some ((padd u1 1)), fun _ => [], fun ds_ u_ => [], [], [(0, [])], none⟩, ⟨some 41, some (u5), fun _ => [], fun ds_ u_ => [], [], [(0, []), (1, [8, 1])], none⟩, ⟨some 42, some ((padd u1 2)), fun _ => [], fun ds_ u_ => [], [], [(0, [])], none⟩, ⟨some 43, none, fun u_ => [(false, .val (Rep.slice Memory_.rep) u_ (({ y1 with Memory := y1.Memory }).Memory))], fun ds_ u_ => [], [], [(0, [])], none⟩, ⟨some 44, none, fun u_ => [(false, .ptr Memory_.rep u_ x7)], fun ds_ u_ => [], [], [], none⟩, ⟨some 45, none, fun u_ => [(false, .ptr Message_.rep u_ x7.Request)], fun ds_ u_ => [], [], [], none⟩, ⟨some 46, none, fun u_ => [(false, .val Message_.rep u_ x7.Request)], fun ds_ u_ => [], [], [], none⟩, ⟨some 47, none, fun u_ => [(false, .val (Rep.slice Message_.rep) u_ ([x7.Request]))], fun ds_ u_ => [], [], [], none⟩, ⟨some 48, none, fun u_ => [], fun ds_ u_ => [(false, .slice 37 Message_.rep u_ x8)], [1], [], none⟩] [[], [0], [], [2], [3], [4], [5], [6], [1, 7]] [[(false, .box 29 (Rep.iso (fun s : Responder_ => (s.Own, s.Queue, s.Memory, ())) (Rep.prod (Rep.int .u8) (Rep.prod (Rep.raw u5) (Rep.prod (Rep.slice Memory_.rep) Rep.unit)))) u1 ({ y1 with Memory := y1.Memory }))], [(false, .slice 37 Message_.rep u5 y1.Queue)]] [0, 2, 3, 4, 5, 6, 7, 8, 9, 10] Try_mixed rfl rfl rfl h66 (.cons ?_ (.cons ?_ (.cons ?_ (.cons ?_ (.cons ?_ (.cons ?_ (.cons ?_ (.cons ?_ (.cons ?_ .nil))))))))) (fun q3 w hq3 h => ?_)
      ·intro q3 w Γx Ωx h
       have h : St e w ([(false, .val (Rep.slice Memory_.rep) u6 y1.Memory)] ++ Γx) ([(false, .box 29 (Rep.iso (fun s : Responder_ => (s.Own, s.Queue, s.Memory, ())) (Rep.prod (Rep.int .u8) (Rep.prod (Rep.raw u5) (Rep.prod (Rep.slice Memory_.rep) Rep.unit)))) u1 ({ y1 with Memory := y1.Memory })), (false, .box 64 field_Codes.rep v0 y2.2), (true, .box 29 Responder_.rep u2 Responder_.z)] ++ Ωx) := h
       refine OpS.fbox (o3 := 1) h .z PA.z fa29_1 rfl rfl rfl rfl ?_
       exact ⟨undef, rfl, trivial, h⟩
      ·intro q3 w Γx Ωx h
       have h : St e w ([(false, .val (Rep.slice Memory_.rep) u6 y1.Memory)] ++ Γx) ([(false, .box 29 (Rep.iso (fun s : Responder_ => (s.Own, s.Queue, s.Memory, ())) (Rep.prod (Rep.int .u8) (Rep.prod (Rep.raw u5) (Rep.prod (Rep.slice Memory_.rep) Rep.unit)))) u1 ({ y1 with Memory := y1.Memory })), (false, .slice 37 Message_.rep u5 y1.Queue), (false, .box 64 field_Codes.rep v0 y2.2), (true, .box 29 Responder_.rep u2 Responder_.z)] ++ Ωx) := h
       refine OpS.loadR h .z PA.a (GetS.ok (GetS.iso _ (GetS.there (GetS.here GetS.id)))) ty26 rfl rfl rfl rfl rfl ?_
       exact ⟨undef, rfl, trivial, h⟩
      ·intro q3 w Γx Ωx h
       have h : St e w ([(false, .val (Rep.slice Memory_.rep) u6 y1.Memory)] ++ Γx) ([(false, .box 29 (Rep.iso (fun s : Responder_ => (s.Own, s.Queue, s.Memory, ())) (Rep.prod (Rep.int .u8) (Rep.prod (Rep.raw u5) (Rep.prod (Rep.slice Memory_.rep) Rep.unit)))) u1 ({ y1 with Memory := y1.Memory })), (false, .box 64 field_Codes.rep v0 y2.2), (true, .box 29 Responder_.rep u2 Responder_.z)] ++ Ωx) := h
       refine OpS.fbox (o3 := 2) h .z PA.z fa29_2 rfl rfl rfl rfl ?_
       exact ⟨undef, rfl, trivial, h⟩
      ·intro q3 w Γx Ωx h
       have h : St e w ([(false, .val (Rep.slice Memory_.rep) u6 y1.Memory)] ++ Γx) ([(false, .box 29 (Rep.iso (fun s : Responder_ => (s.Own, s.Queue, s.Memory, ())) (Rep.prod (Rep.int .u8) (Rep.prod (Rep.raw u5) (Rep.prod (Rep.slice Memory_.rep) Rep.unit)))) u1 ({ y1 with Memory := y1.Memory })), (false, .box 64 field_Codes.rep v0 y2.2), (true, .box 29 Responder_.rep u2 Responder_.z)] ++ Ωx) := h
       refine OpS.loadB (fr := (Rep.slice Memory_.rep)) h .z PA.a (GetS.ok (GetS.iso _ (GetS.there (GetS.there (GetS.here GetS.id))))) (Ty.like ty27 (by rfl) (by rfl)) rfl rfl rfl (fun u h73 => ?_)
       exact ⟨u, rfl, trivial, h73⟩
      ·intro q3 w Γx Ωx h
       refine OpS.iptr h Try.underlying27 ty72 rfl rfl rfl rfl (V.at .z) e18 (fun u h74 => ?_)
       exact ⟨u, rfl, trivial, h74⟩
      ·intro q3 w Γx Ωx h
       refine OpS.fptr h fa72_0 Memory_.f0 rfl rfl rfl .z (fun u h75 => ?_)
       exact ⟨u, rfl, trivial, h75⟩
      ·intro q3 w Γx Ωx h
       refine OpS.load h ty37 rfl rfl rfl .z (fun u h76 => ?_)
       exact ⟨u, rfl, trivial, h76⟩
      ·intro q3 w Γx Ωx h
       refine OpS.lit (r := Message_.rep) (f := false) h Try.underlying26 ti37 rfl rfl rfl rfl rfl (.cons rfl (V.at .z) .nil) rfl rfl (fun u w22 h77 => ?_)
       exact ⟨u, rfl, trivial, h77⟩
      ·intro q3 w Γx Ωx h
       have h : St e w ([(false, .val (Rep.slice Message_.rep) (q3 7) ([x7.Request])), (false, .val (Rep.slice Memory_.rep) u6 y1.Memory)] ++ Γx) ([(false, .slice 37 Message_.rep u5 y1.Queue), (false, .box 64 field_Codes.rep v0 y2.2), (true, .box 29 Responder_.rep u2 Responder_.z)] ++ Ωx) := h
       refine OpS.app (f' := false) h .z Try.underlying26 ti37 rfl rfl rfl rfl rfl rfl rfl (V.at .z) (.inl (.inr rfl)) e19 (fun u w23 h78 => ?_)
       exact ⟨u, rfl, trivial, h78⟩
      have h79 : St e w [(false, .val (Rep.slice Memory_.rep) (q3 3) (({ y1 with Memory := y1.Memory }).Memory)), (false, .ptr Memory_.rep (q3 4) x7), (false, .ptr Message_.rep (q3 5) x7.Request), (false, .val Message_.rep (q3 6) x7.Request), (false, .val (Rep.slice Message_.rep) (q3 7) ([x7.Request])), (false, .val (Rep.slice Memory_.rep) u6 y1.Memory)] [(false, .box 29 (Rep.iso (fun s : Responder_ => (s.Own, s.Queue, s.Memory, ())) (Rep.prod (Rep.int .u8) (Rep.prod (Rep.raw u5) (Rep.prod (Rep.slice Memory_.rep) Rep.unit)))) u1 ({ y1 with Memory := y1.Memory })), (false, .slice 37 Message_.rep (q3 8) x8), (false, .box 64 field_Codes.rep v0 y2.2), (true, .box 29 Responder_.rep u2 Responder_.z)] := h
      refine op (OpS.fbox (o3 := 1) h79 .z PA.z fa29_1 rfl rfl rfl rfl ?_)
      refine op (OpS.storeC (f' := false) (fr := (Rep.raw (q3 8))) (r' := (Rep.iso (fun s : Responder_ => (s.Own, s.Queue, s.Memory, ())) (Rep.prod (Rep.int .u8) (Rep.prod (Rep.raw (q3 8)) (Rep.prod (Rep.slice Memory_.rep) Rep.unit))))) (x' := { y1 with Memory := y1.Memory }) h79 .z PA.a (Chg.iso _ (Chg.there (Chg.here (Chg.id (by rfl))))) (Ty.like ty26 (by rfl) (by rfl)) rfl rfl rfl (V.raw (f := false) (St.own1 h79 (.s .z)) (({ y1 with Memory := y1.Memory }).Queue)) (.inr rfl) (fun w24 h80 => ?_))
      refine RunL.nil ?_
      refine Run.slim [(3, u1), (4, u2)] ⟨rfl, rfl, trivial⟩ ?_
      refine Run.endBlock ?_
      refine Run.seq ?_
      refine Run.reg ?_
      refine op (OpS.loadB (fr := (Rep.iso (fun s : Responder_ => (s.Own, s.Queue, s.Memory, ())) (Rep.prod (Rep.int .u8) (Rep.prod (Rep.raw (q3 8)) (Rep.prod (Rep.slice Memory_.rep) Rep.unit))))) h80 .z PA.z (GetS.ok GetS.id) (Ty.like ty29 (by rfl) (by rfl)) rfl rfl rfl (fun u11 h81 => ?_))
      have h82 := (h81.pick (.s (.s (.s .z)))).weak
      obtain ⟨d5, e20, hF⟩ := letP_use hF
      refine op (OpS.storeC (f' := false) (fr := (Rep.iso (fun s : Responder_ => (s.Own, s.Queue, s.Memory, ())) (Rep.prod (Rep.int .u8) (Rep.prod (Rep.raw (q3 8)) (Rep.prod (Rep.slice Memory_.rep) Rep.unit))))) (r' := (Rep.iso (fun s : Responder_ => (s.Own, s.Queue, s.Memory, ())) (Rep.prod (Rep.int .u8) (Rep.prod (Rep.raw (q3 8)) (Rep.prod (Rep.slice Memory_.rep) Rep.unit))))) (x' := d5) h82 .z PA.z (Chg.of (x' := { y1 with Memory := y1.Memory }) (Chg.id (by rfl)) e20) (Ty.like ty29 (by rfl) (by rfl)) rfl rfl rfl (V.at .z) (.inr rfl) (fun w25 h83 => ?_))
      refine RunL.nil ?_
      refine Run.slim [(4, u2)] ⟨rfl, trivial⟩ ?_
      have h85 := (h83.pick (.s (.s .z))).freeze
      have h86 := h85.pick .z
      have h87 := St.boxJ (r' := Responder_.rep) (x' := { d5 with Queue := x8 }) h86 (fun _ _ hs_ => (Jn.iso _ (Jn.prod Jn.refl (Jn.prod (Jn.raw ((V.at .z) _ _ hs_) rfl) Jn.refl))))
      have h88 := h87.pick (.s .z)
      have h89 := St.boxJ (r' := Responder_.rep) (x' := { { y1 with Memory := y1.Memory } with Queue := x8 }) h88 (fun _ _ hs_ => (Jn.iso _ (Jn.prod Jn.refl (Jn.prod (Jn.raw ((V.at .z) _ _ hs_) rfl) Jn.refl))))
      obtain ⟨u12, hu3, h84⟩ := res_box h89 (.s .z) ty29
      refine Run.retP rfl (.cell rfl hu3 .nil) ?_
      cases hF
      exact Post.mk' ⟨u12, rfl, rfl, rfl, rfl⟩ (h84.picks (.cons (.s (.s .z)) .nil)) (.val (V.at .z) .nil)
     ·
      refine Run.seq ?_
      refine Run.reg ?_
      refine op (OpS.bin rfl rfl rfl rfl rfl ?_)
      refine op (OpS.as rfl rfl rfl ?_)
      obtain ⟨x9, e21, hF⟩ := letP_use hF
      refine RunL.nameb e21 ?_
      refine RunL.nil ?_
      refine Run.slim [(50, .bool x9), (18, .int .i64 s2), (0, v0), (3, u1), (4, u2)] ⟨rfl, rfl, rfl, rfl, rfl, trivial⟩ ?_
      refine Run.ite rfl hF (fun e22 hF => ?_) (fun e22 hF => ?_)
      ·
       have h90 := (h12.pick (.s (.s (.s (.s .z))))).freeze
       have h91 := h90.pick (.s .z)
       have h92 := St.boxJ (r' := (Rep.iso (fun s : Responder_ => (s.Own, s.Queue, s.Memory, ())) (Rep.prod (Rep.int .u8) (Rep.prod (Rep.raw u5) (Rep.prod (Rep.slice Memory_.rep) Rep.unit))))) (x' := { y1 with Memory := y1.Memory }) h91 (fun _ _ hs_ => (Jn.iso _ (Jn.prod Jn.refl (Jn.prod Jn.same (Jn.prod (Jn.raw ((V.at .z) _ _ hs_) rfl) Jn.refl)))))
       have h93 := h92.picks (.cons .z (.cons .z (.cons (.s .z) (.cons .z .nil))))
       obtain ⟨y5, e23, hF⟩ := bindP_use hF
       obtain ⟨x10, e24, hF⟩ := bindP_use hF
       refine Run.drawV (Ωs := [(true, .box 29 Responder_.rep u2 Responder_.z)]) [⟨some 52, some ((padd u1 1)), fun _ => [], fun ds_ u_ => [], [], [(0, [])], none⟩, ⟨some 53, some (u5), fun _ => [], fun ds_ u_ => [], [], [(0, []), (2, [5, 1])], none⟩, ⟨some 54, some (v0), fun _ => [], fun ds_ u_ => [], [], [], none⟩, ⟨some 55, none, fun u_ => [(true, .val Message_.rep u_ y5.1)], fun ds_ u_ => [(false, .box 64 field_Codes.rep v0 y5.2)], [1], [], none⟩, ⟨some 56, none, fun u_ => [(true, .val (Rep.slice Message_.rep) u_ ([y5.1]))], fun ds_ u_ => [], [], [], none⟩, ⟨some 57, none, fun u_ => [], fun ds_ u_ => [(false, .slice 37 Message_.rep u_ x10)], [2], [], none⟩] [[], [0], [], [2], [3], [1, 4]] [[(false, .box 29 (Rep.iso (fun s : Responder_ => (s.Own, s.Queue, s.Memory, ())) (Rep.prod (Rep.int .u8) (Rep.prod (Rep.raw u5) (Rep.prod (Rep.slice Memory_.rep) Rep.unit)))) u1 ({ y1 with Memory := y1.Memory }))], [(false, .box 64 field_Codes.rep v0 y2.2)], [(false, .slice 37 Message_.rep u5 y1.Queue)]] [0, 3, 4, 5, 6, 7, 8] Try_mixed rfl rfl rfl h93 (.cons ?_ (.cons ?_ (.cons ?_ (.cons ?_ (.cons ?_ (.cons ?_ .nil)))))) (fun q4 w hq4 h => ?_)
       ·intro q4 w Γx Ωx h
        have h : St e w ([(false, .val (Rep.slice Memory_.rep) u6 y1.Memory)] ++ Γx) ([(false, .box 29 (Rep.iso (fun s : Responder_ => (s.Own, s.Queue, s.Memory, ())) (Rep.prod (Rep.int .u8) (Rep.prod (Rep.raw u5) (Rep.prod (Rep.slice Memory_.rep) Rep.unit)))) u1 ({ y1 with Memory := y1.Memory })), (true, .box 29 Responder_.rep u2 Responder_.z)] ++ Ωx) := h
        refine OpS.fbox (o3 := 1) h .z PA.z fa29_1 rfl rfl rfl rfl ?_
        exact ⟨undef, rfl, trivial, h⟩
       ·intro q4 w Γx Ωx h
        have h : St e w ([(false, .val (Rep.slice Memory_.rep) u6 y1.Memory)] ++ Γx) ([(false, .box 29 (Rep.iso (fun s : Responder_ => (s.Own, s.Queue, s.Memory, ())) (Rep.prod (Rep.int .u8) (Rep.prod (Rep.raw u5) (Rep.prod (Rep.slice Memory_.rep) Rep.unit)))) u1 ({ y1 with Memory := y1.Memory })), (false, .slice 37 Message_.rep u5 y1.Queue), (true, .box 29 Responder_.rep u2 Responder_.z)] ++ Ωx) := h
        refine OpS.loadR h .z PA.a (GetS.ok (GetS.iso _ (GetS.there (GetS.here GetS.id)))) ty26 rfl rfl rfl rfl rfl ?_
        exact ⟨undef, rfl, trivial, h⟩
       ·intro q4 w Γx Ωx h
        refine OpS.mv rfl rfl rfl ?_
        exact ⟨undef, rfl, trivial, h⟩
       ·intro q4 w Γx Ωx h
        have h : St e w ([(false, .val (Rep.slice Memory_.rep) u6 y1.Memory)] ++ Γx) ([(false, .box 64 field_Codes.rep v0 y2.2), (true, .box 29 Responder_.rep u2 Responder_.z)] ++ Ωx) := h
        have h99 := h.front (.cons .z .nil)
        refine OpS.callO h99 Try.func26 rfl rfl rfl rfl (vs := [v0, .int .u8 33]) rfl (field_Codes_Request_ok e23) rfl .nil ?_
        rintro u w29 _ _ _ ⟨_, rfl, rfl, rfl, rfl⟩ h100
        have h101 := h100
        simp only [List.cons_append, List.nil_append] at h101
        exact ⟨u, rfl, trivial, h101⟩
       ·intro q4 w Γx Ωx h
        refine OpS.lit (r := Message_.rep) (f := true) h Try.underlying26 ti37 rfl rfl rfl rfl rfl (.cons rfl (V.at .z) .nil) rfl rfl (fun u w30 h102 => ?_)
        exact ⟨u, rfl, trivial, h102⟩
       ·intro q4 w Γx Ωx h
        have h : St e w ([(true, .val (Rep.slice Message_.rep) (q4 4) ([y5.1])), (false, .val (Rep.slice Memory_.rep) u6 y1.Memory)] ++ Γx) ([(false, .slice 37 Message_.rep u5 y1.Queue), (true, .box 29 Responder_.rep u2 Responder_.z)] ++ Ωx) := h
        refine OpS.app (f' := true) h .z Try.underlying26 ti37 rfl rfl rfl rfl rfl rfl rfl (V.at .z) (.inl (.inl rfl)) e24 (fun u w31 h103 => ?_)
        exact ⟨u, rfl, trivial, h103⟩
       have h104 : St e w [(true, .val Message_.rep (q4 3) y5.1), (true, .val (Rep.slice Message_.rep) (q4 4) ([y5.1])), (false, .val (Rep.slice Memory_.rep) u6 y1.Memory)] [(false, .box 29 (Rep.iso (fun s : Responder_ => (s.Own, s.Queue, s.Memory, ())) (Rep.prod (Rep.int .u8) (Rep.prod (Rep.raw u5) (Rep.prod (Rep.slice Memory_.rep) Rep.unit)))) u1 ({ y1 with Memory := y1.Memory })), (false, .box 64 field_Codes.rep v0 y5.2), (false, .slice 37 Message_.rep (q4 5) x10), (true, .box 29 Responder_.rep u2 Responder_.z)] := h
       refine op (OpS.fbox (o3 := 1) h104 .z PA.z fa29_1 rfl rfl rfl rfl ?_)
       refine op (OpS.storeC (f' := false) (fr := (Rep.raw (q4 5))) (r' := (Rep.iso (fun s : Responder_ => (s.Own, s.Queue, s.Memory, ())) (Rep.prod (Rep.int .u8) (Rep.prod (Rep.raw (q4 5)) (Rep.prod (Rep.slice Memory_.rep) Rep.unit))))) (x' := { y1 with Memory := y1.Memory }) h104 .z PA.a (Chg.iso _ (Chg.there (Chg.here (Chg.id (by rfl))))) (Ty.like ty26 (by rfl) (by rfl)) rfl rfl rfl (V.raw (f := false) (St.own1 h104 (.s (.s .z))) (({ y1 with Memory := y1.Memory }).Queue)) (.inr rfl) (fun w32 h105 => ?_))
       refine RunL.nil ?_
       refine Run.slim [(3, u1), (4, u2)] ⟨rfl, rfl, trivial⟩ ?_
       refine Run.endBlock ?_
       refine Run.seq ?_
       refine Run.reg ?_
       refine op (OpS.loadB (fr := (Rep.iso (fun s : Responder_ => (s.Own, s.Queue, s.Memory, ())) (Rep.prod (Rep.int .u8) (Rep.prod (Rep.raw (q4 5)) (Rep.prod (Rep.slice Memory_.rep) Rep.unit))))) h105 .z PA.z (GetS.ok GetS.id) (Ty.like ty29 (by rfl) (by rfl)) rfl rfl rfl (fun u13 h106 => ?_))
       have h107 := (h106.pick (.s (.s (.s .z)))).weak
       obtain ⟨d6, e25, hF⟩ := letP_use hF
       refine op (OpS.storeC (f' := false) (fr := (Rep.iso (fun s : Responder_ => (s.Own, s.Queue, s.Memory, ())) (Rep.prod (Rep.int .u8) (Rep.prod (Rep.raw (q4 5)) (Rep.prod (Rep.slice Memory_.rep) Rep.unit))))) (r' := (Rep.iso (fun s : Responder_ => (s.Own, s.Queue, s.Memory, ())) (Rep.prod (Rep.int .u8) (Rep.prod (Rep.raw (q4 5)) (Rep.prod (Rep.slice Memory_.rep) Rep.unit))))) (x' := d6) h107 .z PA.z (Chg.of (x' := { y1 with Memory := y1.Memory }) (Chg.id (by rfl)) e25) (Ty.like ty29 (by rfl) (by rfl)) rfl rfl rfl (V.at .z) (.inr rfl) (fun w33 h108 => ?_))
       refine RunL.nil ?_
       refine Run.slim [(4, u2)] ⟨rfl, trivial⟩ ?_
       have h110 := (h108.pick (.s (.s (.s .z)))).freeze
       have h111 := h110.pick .z
       have h112 := St.boxJ (r' := Responder_.rep) (x' := { d6 with Queue := x10 }) h111 (fun _ _ hs_ => (Jn.iso _ (Jn.prod Jn.refl (Jn.prod (Jn.raw ((V.at .z) _ _ hs_) rfl) Jn.refl))))
       have h113 := h112.pick (.s .z)
       have h114 := St.boxJ (r' := Responder_.rep) (x' := { { y1 with Memory := y1.Memory } with Queue := x10 }) h113 (fun _ _ hs_ => (Jn.iso _ (Jn.prod Jn.refl (Jn.prod (Jn.raw ((V.at .z) _ _ hs_) rfl) Jn.refl))))
       obtain ⟨u14, hu4, h109⟩ := res_box h114 (.s .z) ty29
       refine Run.retP rfl (.cell rfl hu4 .nil) ?_
       cases hF
       exact Post.mk' ⟨u14, rfl, rfl, rfl, rfl⟩ (h109.picks (.cons (.s (.s .z)) .nil)) (.val (V.at .z) .nil)
      ·
       refine Run.seq ?_
       refine Run.reg ?_
       refine op (OpS.bin rfl rfl rfl rfl rfl ?_)
       refine op (OpS.as rfl rfl rfl ?_)
       obtain ⟨x11, e26, hF⟩ := letP_use hF
       refine RunL.nameb e26 ?_
       refine RunL.nil ?_
       refine Run.slim [(59, .bool x11), (0, v0), (3, u1), (4, u2)] ⟨rfl, rfl, rfl, rfl, trivial⟩ ?_
       refine Run.ite rfl hF (fun e27 hF => ?_) (fun e27 hF => ?_)
       ·
        refine Run.reg ?_
        refine op (OpS.mv rfl rfl rfl ?_)
        obtain ⟨y6, e28, hF⟩ := bindP_use hF
        have h115 := h12.front (.cons .z .nil)
        refine op (OpS.callO h115 Try.func12 rfl rfl rfl rfl (vs := [v0, .int .i64 256]) rfl (field_Codes_Next_ok e28) rfl .nil ?_)
        rintro _ w34 _ _ _ ⟨rfl, rfl, rfl, rfl⟩ h116
        have h117 := h116
        simp only [List.cons_append, List.nil_append] at h117
        refine op (OpS.conv Try.underlying3 Try.underlying5 rfl rfl rfl ?_)
        refine op (OpS.fbox (o3 := 0) h117 (.s .z) PA.z fa29_0 rfl rfl rfl rfl ?_)
        obtain ⟨d7, e29, hF⟩ := letP_use hF
        refine op (OpS.storeC (f' := true) (fr := (Rep.int .u8)) (r' := (Rep.iso (fun s : Responder_ => (s.Own, s.Queue, s.Memory, ())) (Rep.prod (Rep.int .u8) (Rep.prod (Rep.raw u5) (Rep.prod (Rep.raw u6) Rep.unit))))) (x' := d7) h117 (.s .z) PA.a (Chg.of (x' := { y1 with Own := (IntKind.u8.wrap y6.1) }) (Chg.iso _ (Chg.here (Chg.id (by rfl)))) e29) ty5 rfl rfl rfl V.int (.inr rfl) (fun w35 h118 => ?_))
        refine RunL.nil ?_
        refine Run.slim [(3, u1), (4, u2)] ⟨rfl, rfl, trivial⟩ ?_
        refine Run.endBlock ?_
        refine Run.seq ?_
        refine Run.reg ?_
        refine op (OpS.loadB (fr := (Rep.iso (fun s : Responder_ => (s.Own, s.Queue, s.Memory, ())) (Rep.prod (Rep.int .u8) (Rep.prod (Rep.raw u5) (Rep.prod (Rep.raw u6) Rep.unit))))) h118 .z PA.z (GetS.ok GetS.id) (Ty.like ty29 (by rfl) (by rfl)) rfl rfl rfl (fun u15 h119 => ?_))
        refine op (OpS.storeC (f' := true) (fr := (Rep.iso (fun s : Responder_ => (s.Own, s.Queue, s.Memory, ())) (Rep.prod (Rep.int .u8) (Rep.prod (Rep.raw u5) (Rep.prod (Rep.raw u6) Rep.unit))))) (r' := (Rep.iso (fun s : Responder_ => (s.Own, s.Queue, s.Memory, ())) (Rep.prod (Rep.int .u8) (Rep.prod (Rep.raw u5) (Rep.prod (Rep.raw u6) Rep.unit))))) (x' := d7) h119 (.s (.s .z)) PA.z (Chg.id (by rfl)) (Ty.like ty29 (by rfl) (by rfl)) rfl rfl rfl (V.pure (V.at .z) (Pure.iso (Pure.prod Pure.int (Pure.prod Pure.raw (Pure.prod Pure.raw Pure.unit))))) (.inl rfl) (fun w36 h120 => ?_))
        refine RunL.nil ?_
        refine Run.slim [(4, u2)] ⟨rfl, trivial⟩ ?_
        obtain ⟨u16, hu5, h121⟩ := res_box h120 .z (Ty.like ty29 (by rfl) (by rfl))
        have h122 := (h121.pick (.s (.s (.s .z)))).freeze
        have h123 := h122.pick .z
        have h124 := h123.weak
        have h125 := St.boxJ (r' := (Rep.iso (fun s : Responder_ => (s.Own, s.Queue, s.Memory, ())) (Rep.prod (Rep.int .u8) (Rep.prod (Rep.slice Message_.rep) (Rep.prod (Rep.raw u6) Rep.unit))))) (x' := { d7 with Queue := y1.Queue }) h124 (fun _ _ hs_ => (Jn.iso _ (Jn.prod Jn.refl (Jn.prod (Jn.raw ((V.at .z) _ _ hs_) rfl) (Jn.prod Jn.same Jn.refl)))))
        have h126 := h125.pick (.s .z)
        have h127 := St.boxJ (r' := (Rep.iso (fun s : Responder_ => (s.Own, s.Queue, s.Memory, ())) (Rep.prod (Rep.int .u8) (Rep.prod (Rep.slice Message_.rep) (Rep.prod (Rep.raw u6) Rep.unit))))) (x' := { d7 with Queue := y1.Queue }) h126 (fun _ _ hs_ => (Jn.iso _ (Jn.prod Jn.refl (Jn.prod (Jn.raw ((V.at .z) _ _ hs_) rfl) (Jn.prod Jn.same Jn.refl)))))
        have h128 := (h127.pick (.s (.s (.s .z)))).freeze
        have h129 := h128.pick .z
        have h130 := St.boxJ (r' := Responder_.rep) (x' := { { d7 with Queue := y1.Queue } with Memory := y1.Memory }) h129 (fun _ _ hs_ => (Jn.iso _ (Jn.prod Jn.refl (Jn.prod Jn.refl (Jn.prod (Jn.raw ((V.at .z) _ _ hs_) rfl) Jn.refl)))))
        have h131 := h130.pick (.s .z)
        have h132 := St.boxJ (r' := Responder_.rep) (x' := { { d7 with Queue := y1.Queue } with Memory := y1.Memory }) h131 (fun _ _ hs_ => (Jn.iso _ (Jn.prod Jn.refl (Jn.prod Jn.refl (Jn.prod (Jn.raw ((V.at .z) _ _ hs_) rfl) Jn.refl)))))
        have h133 := St.addV (f := false) (r := Responder_.rep) (x := { { d7 with Queue := y1.Queue } with Memory := y1.Memory }) h132 (V.jn (r := (Rep.iso (fun s : Responder_ => (s.Own, s.Queue, s.Memory, ())) (Rep.prod (Rep.int .u8) (Rep.prod (Rep.raw u5) (Rep.prod (Rep.raw u6) Rep.unit))))) (x := d7) (V.weak (V.at (.s (.s .z)))) rfl (fun _ _ hs_ => (Jn.iso _ (Jn.prod Jn.refl (Jn.prod (Jn.raw ((V.at (.s .z)) _ _ hs_) rfl) (Jn.prod (Jn.raw ((V.at .z) _ _ hs_) rfl) Jn.refl))))))
        refine Run.retP rfl (.cell rfl hu5 .nil) ?_
        cases hF
        exact Post.mk' ⟨u16, rfl, rfl, rfl, rfl⟩ (h133.picks (.cons (.s (.s .z)) .nil)) (.val (V.at .z) .nil)
       ·
        refine Run.skip ?_
        refine Run.endBlock ?_
        refine Run.seq ?_
        refine Run.reg ?_
        refine op (OpS.loadB (fr := (Rep.iso (fun s : Responder_ => (s.Own, s.Queue, s.Memory, ())) (Rep.prod (Rep.int .u8) (Rep.prod (Rep.raw u5) (Rep.prod (Rep.raw u6) Rep.unit))))) h12 (.s .z) PA.z (GetS.ok GetS.id) (Ty.like ty29 (by rfl) (by rfl)) rfl rfl rfl (fun u17 h134 => ?_))
        refine op (OpS.storeC (f' := true) (fr := (Rep.iso (fun s : Responder_ => (s.Own, s.Queue, s.Memory, ())) (Rep.prod (Rep.int .u8) (Rep.prod (Rep.raw u5) (Rep.prod (Rep.raw u6) Rep.unit))))) (r' := (Rep.iso (fun s : Responder_ => (s.Own, s.Queue, s.Memory, ())) (Rep.prod (Rep.int .u8) (Rep.prod (Rep.raw u5) (Rep.prod (Rep.raw u6) Rep.unit))))) (x' := y1) h134 (.s (.s .z)) PA.z (Chg.id (by rfl)) (Ty.like ty29 (by rfl) (by rfl)) rfl rfl rfl (V.pure (V.at .z) (Pure.iso (Pure.prod Pure.int (Pure.prod Pure.raw (Pure.prod Pure.raw Pure.unit))))) (.inl rfl) (fun w37 h135 => ?_))
        refine RunL.nil ?_
        refine Run.slim [(4, u2)] ⟨rfl, trivial⟩ ?_
        obtain ⟨u18, hu6, h136⟩ := res_box h135 .z (Ty.like ty29 (by rfl) (by rfl))
        have h137 := (h136.pick (.s (.s (.s .z)))).freeze
        have h138 := h137.pick .z
        have h139 := h138.weak
        have h140 := St.boxJ (r' := (Rep.iso (fun s : Responder_ => (s.Own, s.Queue, s.Memory, ())) (Rep.prod (Rep.int .u8) (Rep.prod (Rep.slice Message_.rep) (Rep.prod (Rep.raw u6) Rep.unit))))) (x' := { y1 with Queue := y1.Queue }) h139 (fun _ _ hs_ => (Jn.iso _ (Jn.prod Jn.refl (Jn.prod (Jn.raw ((V.at .z) _ _ hs_) rfl) (Jn.prod Jn.same Jn.refl)))))
        have h141 := h140.pick (.s (.s .z))
        have h142 := St.boxJ (r' := (Rep.iso (fun s : Responder_ => (s.Own, s.Queue, s.Memory, ())) (Rep.prod (Rep.int .u8) (Rep.prod (Rep.slice Message_.rep) (Rep.prod (Rep.raw u6) Rep.unit))))) (x' := { y1 with Queue := y1.Queue }) h141 (fun _ _ hs_ => (Jn.iso _ (Jn.prod Jn.refl (Jn.prod (Jn.raw ((V.at .z) _ _ hs_) rfl) (Jn.prod Jn.same Jn.refl)))))
        have h143 := (h142.pick (.s (.s (.s .z)))).freeze
        have h144 := h143.pick .z
        have h145 := St.boxJ (r' := Responder_.rep) (x' := { { y1 with Queue := y1.Queue } with Memory := y1.Memory }) h144 (fun _ _ hs_ => (Jn.iso _ (Jn.prod Jn.refl (Jn.prod Jn.refl (Jn.prod (Jn.raw ((V.at .z) _ _ hs_) rfl) Jn.refl)))))
        have h146 := h145.pick (.s .z)
        have h147 := St.boxJ (r' := Responder_.rep) (x' := { { y1 with Queue := y1.Queue } with Memory := y1.Memory }) h146 (fun _ _ hs_ => (Jn.iso _ (Jn.prod Jn.refl (Jn.prod Jn.refl (Jn.prod (Jn.raw ((V.at .z) _ _ hs_) rfl) Jn.refl)))))
        have h148 := St.addV (f := false) (r := Responder_.rep) (x := { { y1 with Queue := y1.Queue } with Memory := y1.Memory }) h147 (V.jn (r := (Rep.iso (fun s : Responder_ => (s.Own, s.Queue, s.Memory, ())) (Rep.prod (Rep.int .u8) (Rep.prod (Rep.raw u5) (Rep.prod (Rep.raw u6) Rep.unit))))) (x := y1) (V.weak (V.at (.s (.s .z)))) rfl (fun _ _ hs_ => (Jn.iso _ (Jn.prod Jn.refl (Jn.prod (Jn.raw ((V.at (.s .z)) _ _ hs_) rfl) (Jn.prod (Jn.raw ((V.at .z) _ _ hs_) rfl) Jn.refl))))))
        refine Run.retP rfl (.cell rfl hu6 .nil) ?_
        cases hF
        exact Post.mk' ⟨u18, rfl, rfl, rfl, rfl⟩ (h148.picks (.cons (.s (.s .z)) .nil)) (.val (V.at .z) .nil)
  ·
   refine Run.ite rfl hF (fun e30 hF => ?_) (fun e30 hF => ?_)
   ·
    refine Run.reg ?_
    refine op (OpS.as rfl rfl rfl ?_)
    refine RunL.nil ?_
    refine Run.slim [(5, .int .i64 3), (0, v0), (3, u1), (4, u2)] ⟨rfl, rfl, rfl, rfl, trivial⟩ ?_
    refine Run.slim [(0, v0), (3, u1), (4, u2), (5, .int .i64 3)] ⟨rfl, rfl, rfl, rfl, trivial⟩ ?_
    exact hj2 (3) _ _ ⟨rfl, (h11.facts .nil).picks (.cons .z (.cons .z (.cons .z (.cons .z (.cons .z .nil)))))⟩ hF
   ·
    refine Run.skip ?_
    refine Run.slim [(0, v0), (3, u1), (4, u2), (5, .int .i64 y2.1)] ⟨rfl, rfl, rfl, rfl, trivial⟩ ?_
    exact hj2 (y2.1) _ _ ⟨rfl, (h11.facts .nil).picks (.cons .z (.cons .z (.cons .z (.cons .z (.cons .z .nil)))))⟩ hF
 ·
  refine RunL.caseb hF (fun e31 hF => ?_) (fun e31 hF => ?_)
  ·
   refine op (OpS.fbox (o3 := 2) h10 (.s .z) PA.z fa29_2 rfl rfl rfl rfl ?_)
   refine op (OpS.loadR h10 (.s .z) PA.a (GetS.ok (GetS.iso _ (GetS.there (GetS.there (GetS.here GetS.id))))) ty27 rfl rfl rfl rfl rfl ?_)
   refine op (OpS.lenO h10 (.s (.s (.s .z))) Try.underlying27 rfl rfl rfl ?_)
   refine op (OpS.bin rfl rfl rfl rfl rfl ?_)
   refine op (OpS.pick rfl rfl rfl rfl ?_)
   refine RunL.nil ?_
   refine Run.slim [(17, .bool ((y1.Memory.length : Int) == 0)), (5, .int .i64 y2.1), (4, u2), (3, u1), (0, v0)] ⟨rfl, rfl, rfl, rfl, rfl, trivial⟩ ?_
   refine Run.slim [(0, v0), (3, u1), (4, u2), (5, .int .i64 y2.1), (17, .bool ((y1.Memory.length : Int) == 0))] ⟨rfl, rfl, rfl, rfl, rfl, trivial⟩ ?_
   exact hj1 ((y1.Memory.length : Int) == 0) _ _ ⟨rfl, (h10.facts .nil).picks (.cons .z (.cons .z (.cons (.s (.s .z)) (.cons .z (.cons .z .nil)))))⟩ hF
  ·
   refine op (OpS.pass rfl rfl rfl ?_)
   refine op (OpS.pass rfl rfl rfl ?_)
   refine op (OpS.pass rfl rfl rfl ?_)
   refine op (OpS.pass rfl rfl rfl ?_)
   refine op (OpS.pick rfl rfl rfl rfl ?_)
   refine RunL.nil ?_
   refine Run.slim [(17, .bool false), (5, .int .i64 y2.1), (4, u2), (3, u1), (0, v0)] ⟨rfl, rfl, rfl, rfl, rfl, trivial⟩ ?_
   refine Run.slim [(0, v0), (3, u1), (4, u2), (5, .int .i64 y2.1), (17, .bool false)] ⟨rfl, rfl, rfl, rfl, rfl, trivial⟩ ?_
   exact hj1 (false) _ _ ⟨rfl, (h10.facts .nil).picks (.cons .z (.cons .z (.cons (.s (.s .z)) (.cons .z (.cons .z .nil)))))⟩ hF
theorem field_Codes_Now_ok {fuel : Nat} {a0 : field_Codes} {y : Int × field_Codes} (hF : field_Codes_Now fuel a0 = some y) {w : World} {v0 : Value} :
  Spec Try.prog 25 [v0].toArray w [] [(false, .box 64 field_Codes.rep v0 a0)] (fun v Γr Ωr Ωo => v = .int .i64 y.1 ∧ Γr = [] ∧ Ωr = [] ∧ Ωo = [(false, .box 64 field_Codes.rep v0 y.2)]) := by
 refine Spec.of (L := [(0, v0)]) Try.func25 rfl ⟨rfl, trivial⟩ rfl (fun e h => ?_)
 unfold field_Codes_Now at hF
 refine Run.seq ?_
 refine Run.reg ?_
 refine op (OpS.as rfl rfl rfl ?_)
 refine RunL.nil ?_
 refine Run.slim [(0, v0)] ⟨rfl, trivial⟩ ?_
 refine Run.seq ?_
 refine Run.seq ?_
 refine Run.reg ?_
 refine op (OpS.mv rfl rfl rfl ?_)
 obtain ⟨y1, e1, hF⟩ := bindP_use hF
 have h1 := h.front (.cons .z .nil)
 refine op (OpS.callO h1 Try.func12 rfl rfl rfl rfl (vs := [v0, .int .i64 12]) rfl (field_Codes_Next_ok e1) rfl .nil ?_)
 rintro _ w1 _ _ _ ⟨rfl, rfl, rfl, rfl⟩ h2
 have h3 := h2
 simp only [List.cons_append, List.nil_append] at h3
 refine op (OpS.bin rfl rfl rfl rfl rfl ?_)
 refine RunL.nil ?_
 refine Run.slim [(5, .bool (y1.1 == 11)), (0, v0)] ⟨rfl, rfl, trivial⟩ ?_
 refine Run.ite rfl hF (fun e2 hF => ?_) (fun e2 hF => ?_)
 ·
  refine Run.seq ?_
  refine Run.reg ?_
  refine op (OpS.lit (r := (Rep.int .i64)) (f := true) h3 Try.underlying60 ti2 rfl rfl rfl rfl rfl (.cons rfl V.int (.cons rfl V.int (.cons rfl V.int (.cons rfl V.int (.cons rfl V.int .nil))))) rfl rfl (fun u1 w2 h4 => ?_))
  refine op (OpS.mv rfl rfl rfl ?_)
  obtain ⟨y2, e3, hF⟩ := bindP_use hF
  have h5 := h4.front (.cons .z .nil)
  refine op (OpS.callO h5 Try.func12 rfl rfl rfl rfl (vs := [v0, .int .i64 5]) rfl (field_Codes_Next_ok e3) rfl .nil ?_)
  rintro _ w3 _ _ _ ⟨rfl, rfl, rfl, rfl⟩ h6
  have h7 := h6
  simp only [List.cons_append, List.nil_append] at h7
  obtain ⟨x1, e4, hF⟩ := bindP_use hF
  refine op (OpS.iptr h7 Try.underlying60 ty2 rfl rfl rfl rfl (V.at .z) e4 (fun u2 h8 => ?_))
  refine op (OpS.loadi h8 ty2 rfl rfl rfl .z ?_)
  refine op (OpS.as rfl rfl rfl ?_)
  refine RunL.nil ?_
  refine Run.slim [(2, .int .i64 x1)] ⟨rfl, trivial⟩ ?_
  refine Run.retP rfl (.tmp rfl .nil) ?_
  cases hF
  exact Post.mk' ⟨rfl, rfl, rfl, rfl⟩ (h8.picks (.cons .z .nil)) .nil
 ·
  refine Run.skip ?_
  refine Run.seq ?_
  refine Run.reg ?_
  refine op (OpS.mv rfl rfl rfl ?_)
  obtain ⟨y3, e5, hF⟩ := bindP_use hF
  have h9 := h3.front (.cons .z .nil)
  refine op (OpS.callO h9 Try.func12 rfl rfl rfl rfl (vs := [v0, .int .i64 200]) rfl (field_Codes_Next_ok e5) rfl .nil ?_)
  rintro _ w4 _ _ _ ⟨rfl, rfl, rfl, rfl⟩ h10
  have h11 := h10
  simp only [List.cons_append, List.nil_append] at h11
  refine op (OpS.as rfl rfl rfl ?_)
  refine RunL.nil ?_
  refine Run.slim [(2, .int .i64 y3.1)] ⟨rfl, trivial⟩ ?_
  refine Run.retP rfl (.tmp rfl .nil) ?_
  cases hF
  exact Post.mk' ⟨rfl, rfl, rfl, rfl⟩ (h11.picks (.cons .z .nil)) .nil
theorem responder_Same_ok {fuel : Nat} {a0 : Message_} {a1 : Message_} {y : Bool} (hF : responder_Same fuel a0 a1 = some y) {w : World} {v0 v1 : Value} :
  Spec Try.prog 29 [v0, v1].toArray w [(false, .val Message_.rep v0 a0), (false, .val Message_.rep v1 a1)] [] (fun v Γr Ωr Ωo => v = .bool y ∧ Γr = [] ∧ Ωr = [] ∧ Ωo = []) := by
 refine Spec.of (L := [(0, v0), (1, v1)]) Try.func29 rfl ⟨rfl, rfl, trivial⟩ rfl (fun e h => ?_)
 unfold responder_Same at hF
 refine Run.seq ?_
 refine Run.reg ?_
 refine op (OpS.boxF h rfl rfl rfl (V.at .z) (fun u1 w1 h1 => ?_))
 refine op (OpS.boxF h1 rfl rfl rfl (V.at (.s .z)) (fun u2 w2 h2 => ?_))
 refine op (OpS.as rfl rfl rfl ?_)
 refine RunL.nil ?_
 refine Run.slim [(3, u2), (2, u1)] ⟨rfl, rfl, trivial⟩ ?_
 refine Run.seq ?_
 refine Run.reg ?_
 refine op (OpS.loadB h2 (.s .z) PA.z Get.id ty37 rfl rfl rfl (fun u3 h3 => ?_))
 refine op (OpS.loadB h3 .z PA.z Get.id ty37 rfl rfl rfl (fun u4 h4 => ?_))
 obtain ⟨y1, e1, hF⟩ := bindP_use hF
 refine op (OpS.callP h4 Try.func38 rfl rfl rfl rfl (vs := [u3, u4]) rfl (responder_request_is_ok e1) (.cons (f := false) (V.at (.s .z)) (.cons (f := false) (V.at .z) .nil)) ?_)
 rintro _ w3 _ _ _ ⟨rfl, rfl, rfl, rfl⟩ h5
 have h6 := h5 rfl rfl
 simp only [List.cons_append, List.nil_append] at h6
 refine op (OpS.as rfl rfl rfl ?_)
 refine RunL.nil ?_
 refine Run.slim [(4, .bool y1)] ⟨rfl, trivial⟩ ?_
 refine Run.retP rfl (.tmp rfl .nil) ?_
 cases hF
 exact Post.mk' ⟨rfl, rfl, rfl, rfl⟩ (h6.picks .nil) .nil
theorem ref25_Next_ok {fuel : Nat} {a0 : Responder_} {y : Message_ × Bool} (hF : ref25_Next fuel a0 = some y) {w : World} {v0 : Value} :
  Spec Try.prog 32 [v0].toArray w [(false, .val Responder_.rep v0 a0)] [] (fun v Γr Ωr Ωo => ∃ u0 : Value, v = .tuple #[u0, .bool y.2] ∧ Γr = [(true, .val Message_.rep u0 y.1)] ∧ Ωr = [] ∧ Ωo = []) := by
 refine Spec.of (L := [(0, v0)]) Try.func32 rfl ⟨rfl, trivial⟩ rfl (fun e h => ?_)
 unfold ref25_Next at hF
 refine Run.seq ?_
 refine Run.reg ?_
 refine op (OpS.boxF h rfl rfl rfl (V.at .z) (fun u1 w1 h1 => ?_))
 refine op (OpS.alloc h1 ti37 Message_.zr rfl rfl (fun u2 w2 h2 => ?_))
 refine op (OpS.as rfl rfl rfl ?_)
 refine RunL.nil ?_
 refine Run.slim [(2, u2), (1, u1)] ⟨rfl, rfl, trivial⟩ ?_
 refine Run.seq ?_
 refine Run.seq ?_
 refine Run.reg ?_
 refine op (OpS.loadB h2 (.s .z) PA.z Get.id ty29 rfl rfl rfl (fun u3 h3 => ?_))
 obtain ⟨y1, e1, hF⟩ := bindP_use hF
 refine op (OpS.callP h3 Try.func28 rfl rfl rfl rfl (vs := [u3]) rfl (ref25_Valid_ok e1) (.cons (f := false) (V.at .z) .nil) ?_)
 rintro _ w3 _ _ _ ⟨rfl, rfl, rfl, rfl⟩ h4
 have h5 := h4 rfl rfl
 simp only [List.cons_append, List.nil_append] at h5
 refine op (OpS.not rfl rfl rfl ?_)
 refine op (OpS.mv rfl rfl rfl ?_)
 refine RunL.join (σ := Bool) (fun s_ L_ w_ => L_ = [(1, u1), (2, u2), (13, .bool s_)] ∧ St e w_ [] [(false, .box 29 Responder_.rep u1 a0), (true, .box 37 Message_.rep u2 Message_.z)]) hF (fun s1 _ w4 hI hF => ?_) (fun j1 hj1 hF => ?_)
 ·
  obtain ⟨rfl, h6⟩ := hI
  refine Run.ite rfl hF (fun e2 hF => ?_) (fun e2 hF => ?_)
  ·
   refine Run.seq ?_
   refine Run.reg ?_
   refine op (OpS.build (f := true) (x' := Message_.z) h6 pl37 ti37 Message_.zr rfl rfl rfl .nil (fun u4 h7 => ?_))
   refine op (OpS.storeB (f' := true) h7 (.s .z) PA.z Put.id ty37 rfl rfl rfl (V.at .z) (.inl rfl) (fun w5 h8 => ?_))
   refine op (OpS.as rfl rfl rfl ?_)
   refine RunL.nil ?_
   refine Run.slim [(3, .bool false), (2, u2)] ⟨rfl, rfl, trivial⟩ ?_
   obtain ⟨u5, hu1, h9⟩ := res_box h8 .z ty37
   refine Run.retP rfl (.cell rfl hu1 (.tmp rfl .nil)) ?_
   cases hF
   exact Post.mk' ⟨u5, rfl, rfl, rfl, rfl⟩ (h9.picks .nil) (.val (V.at .z) .nil)
  ·
   refine Run.skip ?_
   refine Run.seq ?_
   refine Run.reg ?_
   refine op (OpS.fbox (o3 := 1) h6 .z PA.z fa29_1 rfl rfl rfl rfl ?_)
   refine op (OpS.loadB h6 .z PA.a (Get.fld Responder_.f1) ty26 rfl rfl rfl (fun u6 h10 => ?_))
   obtain ⟨x1, e3, hF⟩ := bindP_use hF
   refine op (OpS.iptr h10 Try.underlying26 ty37 rfl rfl rfl rfl (V.at .z) e3 (fun u7 h11 => ?_))
   refine op (OpS.load h11 ty37 rfl rfl rfl .z (fun u8 h12 => ?_))
   refine op (OpS.alloc h12 ti37 Message_.zr rfl rfl (fun u9 w6 h13 => ?_))
   have h14 := (h13.pick .z).weak
   refine op (OpS.storeB (f' := false) h14 .z PA.z Put.id ty37 rfl rfl rfl (V.at .z) (.inr rfl) (fun w7 h15 => ?_))
   refine RunL.nil ?_
   refine Run.slim [(4, u9), (2, u2)] ⟨rfl, rfl, trivial⟩ ?_
   refine Run.seq ?_
   refine Run.reg ?_
   refine op (OpS.fbox (o3 := 8) h15 .z PA.z fa37_8 rfl rfl rfl rfl ?_)
   refine op (OpS.loadB h15 .z PA.a (Get.fld Message_.f8) ty22 rfl rfl rfl (fun u10 h16 => ?_))
   have h17 := St.nil 5 (Rep.int .u8) h16
   obtain ⟨x2, e4, hF⟩ := bindP_use hF
   refine op (OpS.app (f' := false) h17 .z Try.underlying22 ti5 rfl rfl rfl rfl rfl rfl rfl (V.at .z) (.inr Pure.int) e4 (fun u11 w8 h18 => ?_))
   refine op (OpS.fbox (o3 := 8) h18 (.s .z) PA.z fa37_8 rfl rfl rfl rfl ?_)
   refine op (OpS.storeC (f' := false) (fr := (Rep.raw u11)) (r' := (Rep.iso (fun s : Message_ => (s.To, s.From, s.Function, s.Command, s.ToUnit, s.FromUnit, s.Sequence, s.Code, s.Data, ())) (Rep.prod (Rep.int .u8) (Rep.prod (Rep.int .u8) (Rep.prod (Rep.int .u8) (Rep.prod (Rep.int .u8) (Rep.prod (Rep.int .i64) (Rep.prod (Rep.int .i64) (Rep.prod (Rep.int .i64) (Rep.prod (Rep.int .u8) (Rep.prod (Rep.raw u11) Rep.unit))))))))))) (x' := x1) h18 (.s .z) PA.a (Chg.iso _ (Chg.there (Chg.there (Chg.there (Chg.there (Chg.there (Chg.there (Chg.there (Chg.there (Chg.here (Chg.id (by rfl)))))))))))) (Ty.like ty22 (by rfl) (by rfl)) rfl rfl rfl (V.raw (f := false) (St.own1 h18 .z) x1.Data) (.inr rfl) (fun w9 h19 => ?_))
   refine RunL.nil ?_
   refine Run.slim [(4, u9), (2, u2)] ⟨rfl, rfl, trivial⟩ ?_
   refine Run.seq ?_
   refine Run.reg ?_
   refine op (OpS.loadB (fr := (Rep.iso (fun s : Message_ => (s.To, s.From, s.Function, s.Command, s.ToUnit, s.FromUnit, s.Sequence, s.Code, s.Data, ())) (Rep.prod (Rep.int .u8) (Rep.prod (Rep.int .u8) (Rep.prod (Rep.int .u8) (Rep.prod (Rep.int .u8) (Rep.prod (Rep.int .i64) (Rep.prod (Rep.int .i64) (Rep.prod (Rep.int .i64) (Rep.prod (Rep.int .u8) (Rep.prod (Rep.raw u11) Rep.unit))))))))))) h19 .z PA.z (GetS.ok GetS.id) (Ty.like ty37 (by rfl) (by rfl)) rfl rfl rfl (fun u12 h20 => ?_))
   refine op (OpS.storeC (f' := true) (fr := (Rep.iso (fun s : Message_ => (s.To, s.From, s.Function, s.Command, s.ToUnit, s.FromUnit, s.Sequence, s.Code, s.Data, ())) (Rep.prod (Rep.int .u8) (Rep.prod (Rep.int .u8) (Rep.prod (Rep.int .u8) (Rep.prod (Rep.int .u8) (Rep.prod (Rep.int .i64) (Rep.prod (Rep.int .i64) (Rep.prod (Rep.int .i64) (Rep.prod (Rep.int .u8) (Rep.prod (Rep.raw u11) Rep.unit))))))))))) (r' := (Rep.iso (fun s : Message_ => (s.To, s.From, s.Function, s.Command, s.ToUnit, s.FromUnit, s.Sequence, s.Code, s.Data, ())) (Rep.prod (Rep.int .u8) (Rep.prod (Rep.int .u8) (Rep.prod (Rep.int .u8) (Rep.prod (Rep.int .u8) (Rep.prod (Rep.int .i64) (Rep.prod (Rep.int .i64) (Rep.prod (Rep.int .i64) (Rep.prod (Rep.int .u8) (Rep.prod (Rep.raw u11) Rep.unit))))))))))) (x' := x1) h20 (.s (.s (.s .z))) PA.z (Chg.id (by rfl)) (Ty.like ty37 (by rfl) (by rfl)) rfl rfl rfl (V.pure (V.at .z) (Pure.iso (Pure.prod Pure.int (Pure.prod Pure.int (Pure.prod Pure.int (Pure.prod Pure.int (Pure.prod Pure.int (Pure.prod Pure.int (Pure.prod Pure.int (Pure.prod Pure.int (Pure.prod Pure.raw Pure.unit))))))))))) (.inl rfl) (fun w10 h21 => ?_))
   refine op (OpS.as rfl rfl rfl ?_)
   refine RunL.nil ?_
   refine Run.slim [(3, .bool true), (2, u2)] ⟨rfl, rfl, trivial⟩ ?_
   obtain ⟨u13, hu2, h22⟩ := res_box h21 .z (Ty.like ty37 (by rfl) (by rfl))
   have h23 := (h22.pick (.s (.s .z))).freeze
   have h24 := h23.pick .z
   have h25 := St.boxJ (r' := Message_.rep) (x' := { x1 with Data := x2 }) h24 (fun _ _ hs_ => (Jn.iso _ (Jn.prod Jn.refl (Jn.prod Jn.refl (Jn.prod Jn.refl (Jn.prod Jn.refl (Jn.prod Jn.refl (Jn.prod Jn.refl (Jn.prod Jn.refl (Jn.prod Jn.refl (Jn.prod (Jn.raw ((V.at .z) _ _ hs_) rfl) Jn.refl)))))))))))
   have h26 := h25.pick (.s .z)
   have h27 := St.boxJ (r' := Message_.rep) (x' := { x1 with Data := x2 }) h26 (fun _ _ hs_ => (Jn.iso _ (Jn.prod Jn.refl (Jn.prod Jn.refl (Jn.prod Jn.refl (Jn.prod Jn.refl (Jn.prod Jn.refl (Jn.prod Jn.refl (Jn.prod Jn.refl (Jn.prod Jn.refl (Jn.prod (Jn.raw ((V.weak (V.at .z)) _ _ hs_) rfl) Jn.refl)))))))))))
   have h28 := St.addV (f := true) (r := Message_.rep) (x := { x1 with Data := x2 }) h27 (V.jn (r := (Rep.iso (fun s : Message_ => (s.To, s.From, s.Function, s.Command, s.ToUnit, s.FromUnit, s.Sequence, s.Code, s.Data, ())) (Rep.prod (Rep.int .u8) (Rep.prod (Rep.int .u8) (Rep.prod (Rep.int .u8) (Rep.prod (Rep.int .u8) (Rep.prod (Rep.int .i64) (Rep.prod (Rep.int .i64) (Rep.prod (Rep.int .i64) (Rep.prod (Rep.int .u8) (Rep.prod (Rep.raw u11) Rep.unit))))))))))) (x := x1) (V.at (.s .z)) rfl (fun _ _ hs_ => (Jn.iso _ (Jn.prod Jn.refl (Jn.prod Jn.refl (Jn.prod Jn.refl (Jn.prod Jn.refl (Jn.prod Jn.refl (Jn.prod Jn.refl (Jn.prod Jn.refl (Jn.prod Jn.refl (Jn.prod (Jn.raw ((V.at .z) _ _ hs_) rfl) Jn.refl))))))))))))
   refine Run.retP rfl (.cell rfl hu2 (.tmp rfl .nil)) ?_
   cases hF
   exact Post.mk' ⟨u13, rfl, rfl, rfl, rfl⟩ (h28.picks .nil) (.val (V.at .z) .nil)
 ·
  refine RunL.caseb hF (fun e5 hF => ?_) (fun e5 hF => ?_)
  ·
   refine op (OpS.pass rfl rfl rfl ?_)
   refine op (OpS.pass rfl rfl rfl ?_)
   refine op (OpS.pass rfl rfl rfl ?_)
   refine op (OpS.pass rfl rfl rfl ?_)
   refine op (OpS.pick rfl rfl rfl rfl ?_)
   refine RunL.nil ?_
   refine Run.slim [(13, .bool true), (2, u2), (1, u1)] ⟨rfl, rfl, rfl, trivial⟩ ?_
   refine Run.slim [(1, u1), (2, u2), (13, .bool true)] ⟨rfl, rfl, rfl, trivial⟩ ?_
   exact hj1 (true) _ _ ⟨rfl, (h5.facts .nil).picks (.cons (.s .z) (.cons .z .nil))⟩ hF
  ·
   refine op (OpS.fbox (o3 := 1) h5 (.s .z) PA.z fa29_1 rfl rfl rfl rfl ?_)
   refine op (OpS.loadB h5 (.s .z) PA.a (Get.fld Responder_.f1) ty26 rfl rfl rfl (fun u14 h29 => ?_))
   refine op (OpS.len h29 Try.underlying26 rfl rfl rfl (V.at .z) ?_)
   refine op (OpS.bin rfl rfl rfl rfl rfl ?_)
   refine op (OpS.pick rfl rfl rfl rfl ?_)
   refine RunL.nil ?_
   refine Run.slim [(13, .bool ((a0.Queue.length : Int) == 0)), (2, u2), (1, u1)] ⟨rfl, rfl, rfl, trivial⟩ ?_
   refine Run.slim [(1, u1), (2, u2), (13, .bool ((a0.Queue.length : Int) == 0))] ⟨rfl, rfl, rfl, trivial⟩ ?_
   exact hj1 ((a0.Queue.length : Int) == 0) _ _ ⟨rfl, (h29.facts .nil).picks (.cons (.s .z) (.cons .z .nil))⟩ hF
end Lift
