/- Each Go function computes its plain function. Written by lift.py. -/
import Derived.Test.YtlfbpnoempdiiaaResponderRefusesWalksA
set_option linter.unusedVariables false
set_option linter.unusedSimpArgs false
namespace Lift
open Go Go.Proofs
open RunL (op)
set_option maxHeartbeats 8000000 in
theorem responder_Accept_ok {fuel : Nat} {a0 : Responder_} {a1 : List Int} {a2 : Int} {y : Responder_ × (List Int) × Int} (hF : responder_Accept fuel a0 a1 a2 = some y) {w : World} {v0 v1 : Value} :
  Spec Try.prog 14 [v0, v1, .int .i64 a2].toArray w [(false, .val Responder_.rep v0 a0), (false, .val (Rep.slice (Rep.int .u8)) v1 a1)] [] (fun v Γr Ωr Ωo => ∃ u0 u1 : Value, v = .tuple #[u0, u1, .int .i64 y.2.2] ∧ Γr = [(false, .val Responder_.rep u0 y.1), (true, .val (Rep.slice (Rep.int .u8)) u1 y.2.1)] ∧ Ωr = [] ∧ Ωo = []) := by
 refine Spec.of (L := [(0, v0), (1, v1), (2, .int .i64 a2)]) Try.func14 rfl ⟨rfl, rfl, rfl, trivial⟩ rfl (fun e h => ?_)
 unfold responder_Accept at hF
 refine Run.seq ?_
 refine Run.reg ?_
 refine op (OpS.boxF h rfl rfl rfl (V.at .z) (fun u1 w1 h1 => ?_))
 refine op (OpS.alloc h1 ti29 Responder_.zr rfl rfl (fun u2 w2 h2 => ?_))
 refine op (OpS.as rfl rfl rfl ?_)
 refine op (OpS.as rfl rfl rfl ?_)
 refine RunL.nil ?_
 refine Run.slim [(6, u2), (3, u1), (1, v1), (2, .int .i64 a2)] ⟨rfl, rfl, rfl, rfl, trivial⟩ ?_
 refine Run.seq ?_
 refine Run.seq ?_
 refine Run.reg ?_
 refine op (OpS.loadB h2 (.s .z) PA.z Get.id ty29 rfl rfl rfl (fun u3 h3 => ?_))
 obtain ⟨y1, e1, hF⟩ := bindP_use hF
 refine op (OpS.callP h3 Try.func20 rfl rfl rfl rfl (vs := [u3]) rfl (responder_Valid_ok e1) (.cons (f := false) (V.at .z) .nil) ?_)
 rintro _ w3 _ _ _ ⟨rfl, rfl, rfl, rfl⟩ h4
 have h5 := h4 rfl rfl
 simp only [List.cons_append, List.nil_append] at h5
 refine op (OpS.not rfl rfl rfl ?_)
 refine RunL.nil ?_
 refine Run.slim [(18, .bool (!y1)), (6, u2), (3, u1), (1, v1), (2, .int .i64 a2)] ⟨rfl, rfl, rfl, rfl, rfl, trivial⟩ ?_
 refine Run.ite rfl hF (fun e2 hF => ?_) (fun e2 hF => ?_)
 ·
  refine Run.seq ?_
  refine Run.reg ?_
  refine op (OpS.build (f := true) (x' := Responder_.z) h5 pl29 ti29 Responder_.zr rfl rfl rfl .nil (fun u4 h6 => ?_))
  refine op (OpS.storeB (f' := true) h6 .z PA.z Put.id ty29 rfl rfl rfl (V.at .z) (.inl rfl) (fun w4 h7 => ?_))
  refine op (OpS.as rfl rfl rfl ?_)
  refine op (OpS.as rfl rfl rfl ?_)
  refine RunL.nil ?_
  refine Run.slim [(8, .int .i64 1), (7, .slice none 0 0), (6, u2)] ⟨rfl, rfl, rfl, trivial⟩ ?_
  obtain ⟨u5, hu1, h8⟩ := res_box h7 .z ty29
  refine Run.retP rfl (.cell rfl hu1 (.tmp rfl (.tmp rfl .nil))) ?_
  cases hF
  exact Post.mk' ⟨u5, .slice none 0 0, rfl, rfl, rfl, rfl⟩ (h8.picks .nil) (.val (V.weak (V.at .z)) (.val V.nil .nil))
 ·
  refine Run.skip ?_
  refine Run.seq ?_
  refine Run.seq ?_
  refine Run.reg ?_
  refine op (OpS.mv rfl rfl rfl ?_)
  refine op (OpS.bin rfl rfl rfl rfl rfl ?_)
  refine op (OpS.mv rfl rfl rfl ?_)
  refine RunL.join (σ := Bool) (fun s_ L_ w_ => L_ = [(1, v1), (2, .int .i64 a2), (3, u1), (6, u2), (25, .bool s_)] ∧ St e w_ [(false, .val (Rep.slice (Rep.int .u8)) v1 a1)] [(false, .box 29 Responder_.rep u1 a0), (true, .box 29 Responder_.rep u2 Responder_.z)]) hF (fun s1 _ w5 hI hF => ?_) (fun j1 hj1 hF => ?_)
  ·
   obtain ⟨rfl, h9⟩ := hI
   refine Run.ite rfl hF (fun e3 hF => ?_) (fun e3 hF => ?_)
   ·
    refine Run.seq ?_
    refine Run.reg ?_
    refine op (OpS.build (f := true) (x' := Responder_.z) h9 pl29 ti29 Responder_.zr rfl rfl rfl .nil (fun u6 h10 => ?_))
    refine op (OpS.storeB (f' := true) h10 (.s .z) PA.z Put.id ty29 rfl rfl rfl (V.at .z) (.inl rfl) (fun w6 h11 => ?_))
    refine op (OpS.as rfl rfl rfl ?_)
    refine op (OpS.as rfl rfl rfl ?_)
    refine RunL.nil ?_
    refine Run.slim [(8, .int .i64 2), (7, .slice none 0 0), (6, u2)] ⟨rfl, rfl, rfl, trivial⟩ ?_
    obtain ⟨u7, hu2, h12⟩ := res_box h11 .z ty29
    refine Run.retP rfl (.cell rfl hu2 (.tmp rfl (.tmp rfl .nil))) ?_
    cases hF
    exact Post.mk' ⟨u7, .slice none 0 0, rfl, rfl, rfl, rfl⟩ (h12.picks .nil) (.val (V.weak (V.at .z)) (.val V.nil .nil))
   ·
    refine Run.skip ?_
    refine Run.seq ?_
    refine Run.reg ?_
    refine op (OpS.mv rfl rfl rfl ?_)
    obtain ⟨y2, e4, hF⟩ := bindP_use hF
    refine op (OpS.callP h9 Try.func18 rfl rfl rfl rfl (vs := [v1]) rfl (message_ParseRequest_ok e4) (.cons (f := false) (V.at .z) .nil) ?_)
    rintro _ w7 _ _ _ ⟨u8, rfl, rfl, rfl, rfl⟩ h13
    have h14 := h13 rfl rfl
    simp only [List.cons_append, List.nil_append] at h14
    refine op (OpS.mv rfl rfl rfl ?_)
    refine op (OpS.ext rfl rfl rfl rfl ?_)
    refine op (OpS.ext rfl rfl rfl rfl ?_)
    refine op (OpS.alloc h14 ti37 Message_.zr rfl rfl (fun u9 w8 h15 => ?_))
    refine op (OpS.storeB (f' := true) h15 .z PA.z Put.id ty37 rfl rfl rfl (V.at .z) (.inl rfl) (fun w9 h16 => ?_))
    refine op (OpS.as rfl rfl rfl ?_)
    refine RunL.nil ?_
    refine Run.slim [(10, .int .i64 y2.2), (9, u9), (2, .int .i64 a2), (3, u1), (6, u2)] ⟨rfl, rfl, rfl, rfl, rfl, trivial⟩ ?_
    refine Run.seq ?_
    refine Run.seq ?_
    refine Run.reg ?_
    refine op (OpS.mv rfl rfl rfl ?_)
    refine op (OpS.bin rfl rfl rfl rfl rfl ?_)
    refine RunL.nil ?_
    refine Run.slim [(33, .bool (y2.2 != 0)), (10, .int .i64 y2.2), (9, u9), (2, .int .i64 a2), (3, u1), (6, u2)] ⟨rfl, rfl, rfl, rfl, rfl, rfl, trivial⟩ ?_
    refine Run.ite rfl hF (fun e5 hF => ?_) (fun e5 hF => ?_)
    ·
     refine Run.seq ?_
     refine Run.reg ?_
     refine op (OpS.build (f := true) (x' := Responder_.z) h16 pl29 ti29 Responder_.zr rfl rfl rfl .nil (fun u10 h17 => ?_))
     refine op (OpS.mv rfl rfl rfl ?_)
     refine op (OpS.storeB (f' := true) h17 (.s (.s .z)) PA.z Put.id ty29 rfl rfl rfl (V.at .z) (.inl rfl) (fun w10 h18 => ?_))
     refine op (OpS.as rfl rfl rfl ?_)
     refine op (OpS.as rfl rfl rfl ?_)
     refine RunL.nil ?_
     refine Run.slim [(8, .int .i64 y2.2), (7, .slice none 0 0), (6, u2)] ⟨rfl, rfl, rfl, trivial⟩ ?_
     obtain ⟨u11, hu3, h19⟩ := res_box h18 .z ty29
     refine Run.retP rfl (.cell rfl hu3 (.tmp rfl (.tmp rfl .nil))) ?_
     cases hF
     exact Post.mk' ⟨u11, .slice none 0 0, rfl, rfl, rfl, rfl⟩ (h19.picks .nil) (.val (V.weak (V.at .z)) (.val V.nil .nil))
    ·
     refine Run.skip ?_
     refine Run.seq ?_
     refine Run.seq ?_
     refine Run.reg ?_
     refine op (OpS.fbox (o3 := 0) h16 .z PA.z fa37_0 rfl rfl rfl rfl ?_)
     refine op (OpS.loadBi h16 .z PA.a (Get.fld Message_.f0) ty5 rfl rfl rfl ?_)
     refine op (OpS.fbox (o3 := 0) h16 (.s .z) PA.z fa29_0 rfl rfl rfl rfl ?_)
     refine op (OpS.loadBi h16 (.s .z) PA.a (Get.fld Responder_.f0) ty5 rfl rfl rfl ?_)
     refine op (OpS.bin rfl rfl rfl rfl rfl ?_)
     refine RunL.nil ?_
     refine Run.slim [(40, .bool (y2.1.To != a0.Own)), (9, u9), (2, .int .i64 a2), (3, u1), (6, u2)] ⟨rfl, rfl, rfl, rfl, rfl, trivial⟩ ?_
     refine Run.ite rfl hF (fun e6 hF => ?_) (fun e6 hF => ?_)
     ·
      refine Run.seq ?_
      refine Run.reg ?_
      refine op (OpS.build (f := true) (x' := Responder_.z) h16 pl29 ti29 Responder_.zr rfl rfl rfl .nil (fun u12 h20 => ?_))
      refine op (OpS.storeB (f' := true) h20 (.s (.s .z)) PA.z Put.id ty29 rfl rfl rfl (V.at .z) (.inl rfl) (fun w11 h21 => ?_))
      refine op (OpS.as rfl rfl rfl ?_)
      refine op (OpS.as rfl rfl rfl ?_)
      refine RunL.nil ?_
      refine Run.slim [(8, .int .i64 13), (7, .slice none 0 0), (6, u2)] ⟨rfl, rfl, rfl, trivial⟩ ?_
      obtain ⟨u13, hu4, h22⟩ := res_box h21 .z ty29
      refine Run.retP rfl (.cell rfl hu4 (.tmp rfl (.tmp rfl .nil))) ?_
      cases hF
      exact Post.mk' ⟨u13, .slice none 0 0, rfl, rfl, rfl, rfl⟩ (h22.picks .nil) (.val (V.weak (V.at .z)) (.val V.nil .nil))
     ·
      refine Run.skip ?_
      refine Run.seq ?_
      refine Run.reg ?_
      refine op (OpS.loadB h16 (.s .z) PA.z Get.id ty29 rfl rfl rfl (fun u14 h23 => ?_))
      refine op (OpS.mv rfl rfl rfl ?_)
      obtain ⟨y3, e7, hF⟩ := bindP_use hF
      have h24 := h23.front .nil
      refine op (OpS.callO h24 Try.func37 rfl rfl rfl rfl (vs := [u14, .int .i64 a2]) rfl (responder_fresh_ok e7) rfl (.cons (f := false) (V.at .z) .nil) ?_)
      rintro u15 w12 _ _ _ ⟨_, u16, u17, rfl, rfl, rfl, rfl⟩ h25
      have h26 := h25
      simp only [List.cons_append, List.nil_append] at h26
      have h27 := St.nil 37 Message_.rep h26
      refine op (OpS.alloc (r := (Rep.iso (fun s : Responder_ => (s.Own, s.Queue, s.Memory, ())) (Rep.prod (Rep.int .u8) (Rep.prod (Rep.raw (.slice none 0 0)) (Rep.prod (Rep.slice Memory_.rep) Rep.unit))))) h27 ti29 (Zr.iso (y := Responder_.z) _ (Zr.of (Zr.prod (Zr.int .u8 0) (Zr.prod (Zr.raw rfl _) (Zr.prod (Zr.slice Memory_.rep) Zr.unit))) (by rfl))) rfl rfl (fun u18 w13 h28 => ?_))
      refine op (OpS.storeC (f' := true) (fr := (Rep.iso (fun s : Responder_ => (s.Own, s.Queue, s.Memory, ())) (Rep.prod (Rep.int .u8) (Rep.prod (Rep.raw u16) (Rep.prod (Rep.raw u17) Rep.unit))))) (r' := (Rep.iso (fun s : Responder_ => (s.Own, s.Queue, s.Memory, ())) (Rep.prod (Rep.int .u8) (Rep.prod (Rep.raw u16) (Rep.prod (Rep.raw u17) Rep.unit))))) (x' := y3) h28 .z PA.z (Chg.id (by rfl)) (Ty.like ty29 (by rfl) (by rfl)) rfl rfl rfl (V.pure (V.at .z) (Pure.iso (Pure.prod Pure.int (Pure.prod Pure.raw (Pure.prod Pure.raw Pure.unit))))) (.inl rfl) (fun w14 h29 => ?_))
      refine RunL.nil ?_
      refine Run.slim [(11, u18), (9, u9), (6, u2)] ⟨rfl, rfl, rfl, trivial⟩ ?_
      refine Run.seq ?_
      refine Run.reg ?_
      refine op (OpS.loadB h29 (.s (.s (.s (.s .z)))) PA.z Get.id ty37 rfl rfl rfl (fun u19 h30 => ?_))
      refine op (OpS.mkf (fl := [u19]) (cl := []) rfl rfl rfl rfl ?_)
      refine op (OpS.alloc (r := Rep.raw (α := Unit) .nilFunc) h30 ti66 (Zr.raw rfl ()) rfl rfl (fun u20 w15 h31 => ?_))
      refine op (OpS.storeC (f' := true) (fr := (Rep.raw (α := Unit) (.func (.func 38) #[u19] #[]))) (r' := (Rep.raw (α := Unit) (.func (.func 38) #[u19] #[]))) (x' := ()) (y := ()) h31 .z PA.z (Chg.id (by rfl)) tyf66 rfl rfl rfl (V.raw (f := true) rfl ()) (.inl rfl) (fun w16 h32 => ?_))
      refine RunL.nil ?_
      refine Run.slim [(12, u20), (11, u18), (9, u9), (6, u2)] ⟨rfl, rfl, rfl, rfl, trivial⟩ ?_
      refine Run.seq ?_
      refine Run.seq ?_
      refine Run.reg ?_
      refine op (OpS.fbox (o3 := 2) h32 (.s .z) PA.z fa29_2 rfl rfl rfl rfl ?_)
      refine op (OpS.loadR h32 (.s .z) PA.a (GetS.ok (GetS.iso _ (GetS.there (GetS.there (GetS.here GetS.id))))) ty27 rfl rfl rfl rfl rfl ?_)
      refine op (OpS.mkf (fl := []) (cl := [u20]) rfl rfl rfl rfl ?_)
      obtain ⟨y4, e8, hF⟩ := bindP_use hF
      refine op (OpS.callP h32 Try.func39 rfl rfl rfl rfl (vs := [u17, .func (.func 40) #[] #[u20]]) rfl (slices_IndexFunc_api_Memory_api_Memory_responder_Accept_1_ok e8) (.own (.s (.s (.s (.s .z)))) (.cons (f := true) (V.at .z) (.box .z .nil))) ?_)
      rintro _ w17 _ _ _ ⟨rfl, rfl, rfl, rfl⟩ h33
      have h34 := h33 rfl rfl
      simp only [List.cons_append, List.nil_append] at h34
      refine op (OpS.as rfl rfl rfl ?_)
      refine RunL.nil ?_
      refine Run.slim [(13, .int .i64 y4), (12, u20), (11, u18), (9, u9), (6, u2)] ⟨rfl, rfl, rfl, rfl, rfl, trivial⟩ ?_
      refine Run.seq ?_
      refine Run.reg ?_
      refine op (OpS.mv rfl rfl rfl ?_)
      refine op (OpS.bin rfl rfl rfl rfl rfl ?_)
      refine RunL.nil ?_
      refine Run.slim [(52, .bool (decide (y4 ≥ 0))), (13, .int .i64 y4), (12, u20), (11, u18), (9, u9), (6, u2)] ⟨rfl, rfl, rfl, rfl, rfl, rfl, trivial⟩ ?_
      refine Run.ite rfl hF (fun e9 hF => ?_) (fun e9 hF => ?_)
      ·
       refine Run.seq ?_
       have h35 := (h34.pick (.s (.s (.s .z)))).freeze
       have h36 := h35.pick (.s .z)
       have h37 := h36.weak
       have h38 := St.boxJ (r' := (Rep.iso (fun s : Responder_ => (s.Own, s.Queue, s.Memory, ())) (Rep.prod (Rep.int .u8) (Rep.prod (Rep.slice Message_.rep) (Rep.prod (Rep.raw u17) Rep.unit))))) (x' := { y3 with Queue := y3.Queue }) h37 (fun _ _ hs_ => (Jn.iso _ (Jn.prod Jn.refl (Jn.prod (Jn.raw ((V.at .z) _ _ hs_) rfl) (Jn.prod Jn.same Jn.refl)))))
       have h39 := (h38.pick (.s (.s (.s .z)))).freeze
       have h40 := h39.pick .z
       have h41 := St.boxJ (r' := Responder_.rep) (x' := { { y3 with Queue := y3.Queue } with Memory := y3.Memory }) h40 (fun _ _ hs_ => (Jn.iso _ (Jn.prod Jn.refl (Jn.prod Jn.refl (Jn.prod (Jn.raw ((V.at .z) _ _ hs_) rfl) Jn.refl)))))
       have h42 := h41.picks (.cons .z (.cons (.s (.s (.s (.s .z)))) (.cons .z (.cons .z (.cons .z (.cons .z .nil))))))
       obtain ⟨x1, e10, hF⟩ := bindP_use hF
       obtain ⟨y5, e11, hF⟩ := bindP_use hF
       obtain ⟨d1, e12, hF⟩ := letP_use hF
       refine Run.drawV (Ωs := [(true, .box 66 (Rep.raw (α := Unit) (.func (.func 38) #[u19] #[])) u20 ()), (true, .slice 37 Message_.rep (.slice none 0 0) ([])), (true, .box 37 Message_.rep u9 y2.1), (false, .box 29 Responder_.rep u1 a0)]) [⟨some 53, none, fun u_ => [(false, .val Responder_.rep u_ ({ { y3 with Queue := y3.Queue } with Memory := y3.Memory }))], fun ds_ u_ => [], [], [(0, [])], none⟩, ⟨some 54, some ((padd u18 2)), fun _ => [], fun ds_ u_ => [], [], [(0, [])], none⟩, ⟨some 55, none, fun u_ => [(false, .val (Rep.slice Memory_.rep) u_ (({ { y3 with Queue := y3.Queue } with Memory := y3.Memory }).Memory))], fun ds_ u_ => [], [], [(0, [])], none⟩, ⟨some 56, some (.int .i64 y4), fun _ => [], fun ds_ u_ => [], [], [], none⟩, ⟨some 57, none, fun u_ => [(false, .ptr Memory_.rep u_ x1)], fun ds_ u_ => [], [], [], none⟩, ⟨some 58, none, fun u_ => [(false, .ptr (Rep.slice (Rep.int .u8)) u_ x1.Reply)], fun ds_ u_ => [], [], [], none⟩, ⟨some 59, none, fun u_ => [(false, .val (Rep.slice (Rep.int .u8)) u_ x1.Reply)], fun ds_ u_ => [], [], [], none⟩, ⟨some 60, none, fun u_ => [(true, .val (Rep.slice (Rep.int .u8)) u_ y5)], fun ds_ u_ => [], [], [], none⟩, ⟨none, some undef, fun _ => [], fun ds_ u_ => [(false, .box 29 Responder_.rep u2 d1)], [1], [], none⟩] [[], [], [1], [], [2, 3], [4], [5], [6], [0]] [[(false, .box 29 Responder_.rep u18 ({ { y3 with Queue := y3.Queue } with Memory := y3.Memory }))], [(true, .box 29 Responder_.rep u2 Responder_.z)]] [0, 2, 3, 4, 5, 6, 7, 8, 9, 10] Try_mixed rfl rfl rfl h42 (.cons ?_ (.cons ?_ (.cons ?_ (.cons ?_ (.cons ?_ (.cons ?_ (.cons ?_ (.cons ?_ (.cons ?_ .nil))))))))) (fun q1 w hq1 h => ?_)
       ·intro q1 w Γx Ωx h
        have h : St e w ([(false, .val (Rep.slice Memory_.rep) u17 y3.Memory), (false, .val (Rep.slice Message_.rep) u16 y3.Queue), (true, .val Message_.rep u19 y2.1), (false, .val (Rep.iso (fun s : Responder_ => (s.Own, s.Queue, s.Memory, ())) (Rep.prod (Rep.int .u8) (Rep.prod (Rep.raw u16) (Rep.prod (Rep.raw u17) Rep.unit)))) u15 y3), (false, .val Responder_.rep u14 a0), (true, .val Message_.rep u8 y2.1), (false, .val (Rep.slice (Rep.int .u8)) v1 a1)] ++ Γx) ([(false, .box 29 Responder_.rep u18 ({ { y3 with Queue := y3.Queue } with Memory := y3.Memory })), (true, .box 66 (Rep.raw (α := Unit) (.func (.func 38) #[u19] #[])) u20 ()), (true, .slice 37 Message_.rep (.slice none 0 0) ([])), (true, .box 37 Message_.rep u9 y2.1), (false, .box 29 Responder_.rep u1 a0)] ++ Ωx) := h
        refine OpS.loadB h .z PA.z Get.id ty29 rfl rfl rfl (fun u h53 => ?_)
        exact ⟨u, rfl, trivial, h53⟩
       ·intro q1 w Γx Ωx h
        have h : St e w ([(false, .val (Rep.slice Memory_.rep) u17 y3.Memory), (false, .val (Rep.slice Message_.rep) u16 y3.Queue), (true, .val Message_.rep u19 y2.1), (false, .val (Rep.iso (fun s : Responder_ => (s.Own, s.Queue, s.Memory, ())) (Rep.prod (Rep.int .u8) (Rep.prod (Rep.raw u16) (Rep.prod (Rep.raw u17) Rep.unit)))) u15 y3), (false, .val Responder_.rep u14 a0), (true, .val Message_.rep u8 y2.1), (false, .val (Rep.slice (Rep.int .u8)) v1 a1)] ++ Γx) ([(false, .box 29 Responder_.rep u18 ({ { y3 with Queue := y3.Queue } with Memory := y3.Memory })), (true, .box 66 (Rep.raw (α := Unit) (.func (.func 38) #[u19] #[])) u20 ()), (true, .slice 37 Message_.rep (.slice none 0 0) ([])), (true, .box 37 Message_.rep u9 y2.1), (false, .box 29 Responder_.rep u1 a0)] ++ Ωx) := h
        refine OpS.fbox (o3 := 2) h .z PA.z fa29_2 rfl rfl rfl rfl ?_
        exact ⟨undef, rfl, trivial, h⟩
       ·intro q1 w Γx Ωx h
        have h : St e w ([(false, .val (Rep.slice Memory_.rep) u17 y3.Memory), (false, .val (Rep.slice Message_.rep) u16 y3.Queue), (true, .val Message_.rep u19 y2.1), (false, .val (Rep.iso (fun s : Responder_ => (s.Own, s.Queue, s.Memory, ())) (Rep.prod (Rep.int .u8) (Rep.prod (Rep.raw u16) (Rep.prod (Rep.raw u17) Rep.unit)))) u15 y3), (false, .val Responder_.rep u14 a0), (true, .val Message_.rep u8 y2.1), (false, .val (Rep.slice (Rep.int .u8)) v1 a1)] ++ Γx) ([(false, .box 29 Responder_.rep u18 ({ { y3 with Queue := y3.Queue } with Memory := y3.Memory })), (true, .box 66 (Rep.raw (α := Unit) (.func (.func 38) #[u19] #[])) u20 ()), (true, .slice 37 Message_.rep (.slice none 0 0) ([])), (true, .box 37 Message_.rep u9 y2.1), (false, .box 29 Responder_.rep u1 a0)] ++ Ωx) := h
        refine OpS.loadB h .z PA.a (Get.fld Responder_.f2) ty27 rfl rfl rfl (fun u h54 => ?_)
        exact ⟨u, rfl, trivial, h54⟩
       ·intro q1 w Γx Ωx h
        refine OpS.mv rfl rfl rfl ?_
        exact ⟨undef, rfl, trivial, h⟩
       ·intro q1 w Γx Ωx h
        refine OpS.iptr h Try.underlying27 ty72 rfl rfl rfl rfl (V.at .z) e10 (fun u h55 => ?_)
        exact ⟨u, rfl, trivial, h55⟩
       ·intro q1 w Γx Ωx h
        refine OpS.fptr h fa72_1 Memory_.f1 rfl rfl rfl .z (fun u h56 => ?_)
        exact ⟨u, rfl, trivial, h56⟩
       ·intro q1 w Γx Ωx h
        refine OpS.load h ty22 rfl rfl rfl .z (fun u h57 => ?_)
        exact ⟨u, rfl, trivial, h57⟩
       ·intro q1 w Γx Ωx h
        refine OpS.callP h Try.func41 rfl rfl rfl rfl (vs := [(q1 6)]) rfl (slices_Clone_byte_byte_ok e11) (.cons (f := false) (V.at .z) .nil) ?_
        rintro u w20 _ _ _ ⟨_, rfl, rfl, rfl, rfl⟩ h58
        have h59 := h58 rfl rfl
        simp only [List.cons_append, List.nil_append] at h59
        have h60 := h59.freeze
        exact ⟨u, rfl, trivial, h60⟩
       ·intro q1 w Γx Ωx h
        have h : St e w ([(false, .val Responder_.rep (q1 0) ({ { y3 with Queue := y3.Queue } with Memory := y3.Memory })), (false, .val (Rep.slice Memory_.rep) u17 y3.Memory), (false, .val (Rep.slice Message_.rep) u16 y3.Queue), (true, .val Message_.rep u19 y2.1), (false, .val (Rep.iso (fun s : Responder_ => (s.Own, s.Queue, s.Memory, ())) (Rep.prod (Rep.int .u8) (Rep.prod (Rep.raw u16) (Rep.prod (Rep.raw u17) Rep.unit)))) u15 y3), (false, .val Responder_.rep u14 a0), (true, .val Message_.rep u8 y2.1), (false, .val (Rep.slice (Rep.int .u8)) v1 a1)] ++ Γx) ([(true, .box 29 Responder_.rep u2 Responder_.z), (true, .box 66 (Rep.raw (α := Unit) (.func (.func 38) #[u19] #[])) u20 ()), (true, .slice 37 Message_.rep (.slice none 0 0) ([])), (true, .box 37 Message_.rep u9 y2.1), (false, .box 29 Responder_.rep u1 a0)] ++ Ωx) := h
        have h61 := (h.pick .z).weak
        refine OpS.storeB (f' := false) h61 .z PA.z (Put.of Put.id e12) ty29 rfl rfl rfl (V.at .z) (.inr rfl) (fun w21 h62 => ?_)
        exact ⟨undef, trivial, trivial, h62⟩
       have h63 : St e w [(false, .val Responder_.rep (q1 0) ({ { y3 with Queue := y3.Queue } with Memory := y3.Memory })), (false, .val (Rep.slice Memory_.rep) (q1 2) (({ { y3 with Queue := y3.Queue } with Memory := y3.Memory }).Memory)), (false, .ptr Memory_.rep (q1 4) x1), (false, .ptr (Rep.slice (Rep.int .u8)) (q1 5) x1.Reply), (false, .val (Rep.slice (Rep.int .u8)) (q1 6) x1.Reply), (true, .val (Rep.slice (Rep.int .u8)) (q1 7) y5), (false, .val (Rep.slice Memory_.rep) u17 y3.Memory), (false, .val (Rep.slice Message_.rep) u16 y3.Queue), (true, .val Message_.rep u19 y2.1), (false, .val (Rep.iso (fun s : Responder_ => (s.Own, s.Queue, s.Memory, ())) (Rep.prod (Rep.int .u8) (Rep.prod (Rep.raw u16) (Rep.prod (Rep.raw u17) Rep.unit)))) u15 y3), (false, .val Responder_.rep u14 a0), (true, .val Message_.rep u8 y2.1), (false, .val (Rep.slice (Rep.int .u8)) v1 a1)] [(false, .box 29 Responder_.rep u18 ({ { y3 with Queue := y3.Queue } with Memory := y3.Memory })), (false, .box 29 Responder_.rep u2 d1), (true, .box 66 (Rep.raw (α := Unit) (.func (.func 38) #[u19] #[])) u20 ()), (true, .slice 37 Message_.rep (.slice none 0 0) ([])), (true, .box 37 Message_.rep u9 y2.1), (false, .box 29 Responder_.rep u1 a0)] := h
       refine op (OpS.as rfl rfl rfl ?_)
       refine op (OpS.as rfl rfl rfl ?_)
       refine RunL.nil ?_
       refine Run.slim [(8, .int .i64 0), (7, (q1 7)), (6, u2)] ⟨rfl, rfl, rfl, trivial⟩ ?_
       obtain ⟨u21, hu5, h64⟩ := res_box h63 (.s .z) ty29
       refine Run.retP rfl (.cell rfl hu5 (.tmp rfl (.tmp rfl .nil))) ?_
       cases hF
       exact Post.mk' ⟨u21, (q1 7), rfl, rfl, rfl, rfl⟩ (h64.picks .nil) (.val (V.at .z) (.val (V.at (.s (.s (.s (.s (.s (.s .z))))))) .nil))
      ·
       refine Run.skip ?_
       refine Run.seq ?_
       refine Run.seq ?_
       refine Run.reg ?_
       refine op (OpS.fbox (o3 := 1) h34 (.s .z) PA.z fa29_1 rfl rfl rfl rfl ?_)
       refine op (OpS.loadR h34 (.s .z) PA.a (GetS.ok (GetS.iso _ (GetS.there (GetS.here GetS.id)))) ty26 rfl rfl rfl rfl rfl ?_)
       refine op (OpS.loadR (rr := (Rep.raw (α := Unit) (.func (.func 38) #[u19] #[]))) h34 .z PA.z Get.id tyf66 rfl rfl rfl rfl rfl ?_)
       obtain ⟨y6, e13, hF⟩ := bindP_use hF
       refine op (OpS.callP h34 Try.func42 rfl rfl rfl rfl (vs := [u16, .func (.func 38) #[u19] #[]]) rfl (slices_ContainsFunc_api_Message_api_Message_responder_request_is_ok e13) (.own (.s (.s (.s .z))) (.cons (f := true) (V.at .z) .nil)) ?_)
       rintro _ w22 _ _ _ ⟨rfl, rfl, rfl, rfl⟩ h65
       have h66 := h65 rfl rfl
       simp only [List.cons_append, List.nil_append] at h66
       refine RunL.nil ?_
       refine Run.slim [(64, .bool y6), (11, u18), (9, u9), (6, u2)] ⟨rfl, rfl, rfl, rfl, trivial⟩ ?_
       refine Run.ite rfl hF (fun e14 hF => ?_) (fun e14 hF => ?_)
       ·
        refine Run.seq ?_
        refine Run.reg ?_
        refine op (OpS.loadB (fr := (Rep.iso (fun s : Responder_ => (s.Own, s.Queue, s.Memory, ())) (Rep.prod (Rep.int .u8) (Rep.prod (Rep.raw u16) (Rep.prod (Rep.raw u17) Rep.unit))))) h66 (.s .z) PA.z (GetS.ok GetS.id) (Ty.like ty29 (by rfl) (by rfl)) rfl rfl rfl (fun u22 h67 => ?_))
        refine op (OpS.storeC (f' := true) (fr := (Rep.iso (fun s : Responder_ => (s.Own, s.Queue, s.Memory, ())) (Rep.prod (Rep.int .u8) (Rep.prod (Rep.raw u16) (Rep.prod (Rep.raw u17) Rep.unit))))) (r' := (Rep.iso (fun s : Responder_ => (s.Own, s.Queue, s.Memory, ())) (Rep.prod (Rep.int .u8) (Rep.prod (Rep.raw u16) (Rep.prod (Rep.raw u17) Rep.unit))))) (x' := y3) h67 (.s (.s (.s (.s (.s (.s (.s .z))))))) PA.z (Chg.id (by rfl)) (Ty.like ty29 (by rfl) (by rfl)) rfl rfl rfl (V.at .z) (.inl rfl) (fun w23 h68 => ?_))
        refine op (OpS.as rfl rfl rfl ?_)
        refine op (OpS.as rfl rfl rfl ?_)
        refine RunL.nil ?_
        refine Run.slim [(8, .int .i64 0), (7, .slice none 0 0), (6, u2)] ⟨rfl, rfl, rfl, trivial⟩ ?_
        obtain ⟨u23, hu6, h69⟩ := res_box h68 .z (Ty.like ty29 (by rfl) (by rfl))
        have h70 := (h69.pick (.s (.s (.s (.s .z))))).freeze
        have h71 := h70.pick .z
        have h72 := h71.weak
        have h73 := St.boxJ (r' := (Rep.iso (fun s : Responder_ => (s.Own, s.Queue, s.Memory, ())) (Rep.prod (Rep.int .u8) (Rep.prod (Rep.slice Message_.rep) (Rep.prod (Rep.raw u17) Rep.unit))))) (x' := { y3 with Queue := y3.Queue }) h72 (fun _ _ hs_ => (Jn.iso _ (Jn.prod Jn.refl (Jn.prod (Jn.raw ((V.at .z) _ _ hs_) rfl) (Jn.prod Jn.same Jn.refl)))))
        have h74 := h73.pick (.s (.s .z))
        have h75 := h74.weak
        have h76 := St.boxJ (r' := (Rep.iso (fun s : Responder_ => (s.Own, s.Queue, s.Memory, ())) (Rep.prod (Rep.int .u8) (Rep.prod (Rep.slice Message_.rep) (Rep.prod (Rep.raw u17) Rep.unit))))) (x' := { y3 with Queue := y3.Queue }) h75 (fun _ _ hs_ => (Jn.iso _ (Jn.prod Jn.refl (Jn.prod (Jn.raw ((V.at .z) _ _ hs_) rfl) (Jn.prod Jn.same Jn.refl)))))
        have h77 := (h76.pick (.s (.s (.s (.s .z))))).freeze
        have h78 := h77.pick .z
        have h79 := St.boxJ (r' := Responder_.rep) (x' := { { y3 with Queue := y3.Queue } with Memory := y3.Memory }) h78 (fun _ _ hs_ => (Jn.iso _ (Jn.prod Jn.refl (Jn.prod Jn.refl (Jn.prod (Jn.raw ((V.at .z) _ _ hs_) rfl) Jn.refl)))))
        have h80 := h79.pick (.s .z)
        have h81 := St.boxJ (r' := Responder_.rep) (x' := { { y3 with Queue := y3.Queue } with Memory := y3.Memory }) h80 (fun _ _ hs_ => (Jn.iso _ (Jn.prod Jn.refl (Jn.prod Jn.refl (Jn.prod (Jn.raw ((V.at .z) _ _ hs_) rfl) Jn.refl)))))
        have h82 := St.addV (f := false) (r := Responder_.rep) (x := { { y3 with Queue := y3.Queue } with Memory := y3.Memory }) h81 (V.jn (r := (Rep.iso (fun s : Responder_ => (s.Own, s.Queue, s.Memory, ())) (Rep.prod (Rep.int .u8) (Rep.prod (Rep.raw u16) (Rep.prod (Rep.raw u17) Rep.unit))))) (x := y3) (V.weak (V.at (.s (.s .z)))) rfl (fun _ _ hs_ => (Jn.iso _ (Jn.prod Jn.refl (Jn.prod (Jn.raw ((V.at (.s .z)) _ _ hs_) rfl) (Jn.prod (Jn.raw ((V.at .z) _ _ hs_) rfl) Jn.refl))))))
        refine Run.retP rfl (.cell rfl hu6 (.tmp rfl (.tmp rfl .nil))) ?_
        cases hF
        exact Post.mk' ⟨u23, .slice none 0 0, rfl, rfl, rfl, rfl⟩ (h82.picks .nil) (.val (V.at .z) (.val V.nil .nil))
       ·
        refine Run.skip ?_
        refine Run.seq ?_
        refine Run.seq ?_
        refine Run.reg ?_
        refine op (OpS.fbox (o3 := 1) h66 (.s .z) PA.z fa29_1 rfl rfl rfl rfl ?_)
        refine op (OpS.loadR h66 (.s .z) PA.a (GetS.ok (GetS.iso _ (GetS.there (GetS.here GetS.id)))) ty26 rfl rfl rfl rfl rfl ?_)
        refine op (OpS.lenO h66 (.s (.s (.s .z))) Try.underlying26 rfl rfl rfl ?_)
        refine op (OpS.bin rfl rfl rfl rfl rfl ?_)
        refine op (OpS.mv rfl rfl rfl ?_)
        refine RunL.join (σ := Bool) (fun s_ L_ w_ => L_ = [(6, u2), (9, u9), (11, u18), (79, .bool s_)] ∧ St e w_ [] [(true, .box 29 Responder_.rep u2 Responder_.z), (true, .box 37 Message_.rep u9 y2.1), (true, .box 29 (Rep.iso (fun s : Responder_ => (s.Own, s.Queue, s.Memory, ())) (Rep.prod (Rep.int .u8) (Rep.prod (Rep.raw u16) (Rep.prod (Rep.raw u17) Rep.unit)))) u18 y3), (false, .slice 37 Message_.rep u16 y3.Queue), (false, .slice 72 Memory_.rep u17 y3.Memory)]) hF (fun s2 _ w24 hI hF => ?_) (fun j2 hj2 hF => ?_)
        ·
         obtain ⟨rfl, h83⟩ := hI
         refine Run.ite rfl hF (fun e15 hF => ?_) (fun e15 hF => ?_)
         ·
          refine Run.seq ?_
          refine Run.reg ?_
          refine op (OpS.loadB h83 (.s .z) PA.z Get.id ty37 rfl rfl rfl (fun u24 h84 => ?_))
          obtain ⟨y7, e16, hF⟩ := bindP_use hF
          refine op (OpS.callP h84 Try.func43 rfl rfl rfl rfl (vs := [u24, .int .u8 192, .slice none 0 0]) rfl (responder_answer_ok e16) (.cons (f := true) (V.at .z) (.cons (f := true) V.nil .nil)) ?_)
          rintro _ w25 _ _ _ ⟨u25, rfl, rfl, rfl, rfl⟩ h85
          have h86 := h85 rfl rfl
          simp only [List.cons_append, List.nil_append] at h86
          refine op (OpS.mv rfl rfl rfl ?_)
          refine op (OpS.ext rfl rfl rfl rfl ?_)
          refine op (OpS.ext rfl rfl rfl rfl ?_)
          refine op (OpS.as rfl rfl rfl ?_)
          have h87 := (h86.pick .z).freeze
          refine op (OpS.as rfl rfl rfl ?_)
          refine RunL.nil ?_
          refine Run.slim [(15, .int .i64 y7.2), (14, u25), (6, u2), (11, u18)] ⟨rfl, rfl, rfl, rfl, trivial⟩ ?_
          refine Run.seq ?_
          refine Run.seq ?_
          refine Run.reg ?_
          refine op (OpS.mv rfl rfl rfl ?_)
          refine op (OpS.bin rfl rfl rfl rfl rfl ?_)
          refine RunL.nil ?_
          refine Run.slim [(86, .bool (y7.2 != 0)), (15, .int .i64 y7.2), (14, u25), (6, u2), (11, u18)] ⟨rfl, rfl, rfl, rfl, rfl, trivial⟩ ?_
          refine Run.ite rfl hF (fun e17 hF => ?_) (fun e17 hF => ?_)
          ·
           refine Run.seq ?_
           refine Run.reg ?_
           refine op (OpS.build (f := true) (x' := Responder_.z) h87 pl29 ti29 Responder_.zr rfl rfl rfl .nil (fun u26 h88 => ?_))
           refine op (OpS.mv rfl rfl rfl ?_)
           refine op (OpS.storeB (f' := true) h88 .z PA.z Put.id ty29 rfl rfl rfl (V.at .z) (.inl rfl) (fun w26 h89 => ?_))
           refine op (OpS.as rfl rfl rfl ?_)
           refine op (OpS.as rfl rfl rfl ?_)
           refine RunL.nil ?_
           refine Run.slim [(8, .int .i64 y7.2), (7, .slice none 0 0), (6, u2)] ⟨rfl, rfl, rfl, trivial⟩ ?_
           obtain ⟨u27, hu7, h90⟩ := res_box h89 .z ty29
           refine Run.retP rfl (.cell rfl hu7 (.tmp rfl (.tmp rfl .nil))) ?_
           cases hF
           exact Post.mk' ⟨u27, .slice none 0 0, rfl, rfl, rfl, rfl⟩ (h90.picks .nil) (.val (V.weak (V.at .z)) (.val V.nil .nil))
          ·
           refine Run.skip ?_
           refine Run.seq ?_
           refine Run.reg ?_
           refine op (OpS.loadB (fr := (Rep.iso (fun s : Responder_ => (s.Own, s.Queue, s.Memory, ())) (Rep.prod (Rep.int .u8) (Rep.prod (Rep.raw u16) (Rep.prod (Rep.raw u17) Rep.unit))))) h87 (.s (.s .z)) PA.z (GetS.ok GetS.id) (Ty.like ty29 (by rfl) (by rfl)) rfl rfl rfl (fun u28 h91 => ?_))
           refine op (OpS.mv rfl rfl rfl ?_)
           refine op (OpS.storeC (f' := true) (fr := (Rep.iso (fun s : Responder_ => (s.Own, s.Queue, s.Memory, ())) (Rep.prod (Rep.int .u8) (Rep.prod (Rep.raw u16) (Rep.prod (Rep.raw u17) Rep.unit))))) (r' := (Rep.iso (fun s : Responder_ => (s.Own, s.Queue, s.Memory, ())) (Rep.prod (Rep.int .u8) (Rep.prod (Rep.raw u16) (Rep.prod (Rep.raw u17) Rep.unit))))) (x' := y3) h91 .z PA.z (Chg.id (by rfl)) (Ty.like ty29 (by rfl) (by rfl)) rfl rfl rfl (V.at .z) (.inl rfl) (fun w27 h92 => ?_))
           refine op (OpS.as rfl rfl rfl ?_)
           refine op (OpS.as rfl rfl rfl ?_)
           refine RunL.nil ?_
           refine Run.slim [(8, .int .i64 0), (7, u25), (6, u2)] ⟨rfl, rfl, rfl, trivial⟩ ?_
           obtain ⟨u29, hu8, h93⟩ := res_box h92 .z (Ty.like ty29 (by rfl) (by rfl))
           have h94 := (h93.pick (.s (.s (.s .z)))).freeze
           have h95 := h94.pick .z
           have h96 := h95.weak
           have h97 := St.boxJ (r' := (Rep.iso (fun s : Responder_ => (s.Own, s.Queue, s.Memory, ())) (Rep.prod (Rep.int .u8) (Rep.prod (Rep.slice Message_.rep) (Rep.prod (Rep.raw u17) Rep.unit))))) (x' := { y3 with Queue := y3.Queue }) h96 (fun _ _ hs_ => (Jn.iso _ (Jn.prod Jn.refl (Jn.prod (Jn.raw ((V.at .z) _ _ hs_) rfl) (Jn.prod Jn.same Jn.refl)))))
           have h98 := h97.pick (.s (.s .z))
           have h99 := h98.weak
           have h100 := St.boxJ (r' := (Rep.iso (fun s : Responder_ => (s.Own, s.Queue, s.Memory, ())) (Rep.prod (Rep.int .u8) (Rep.prod (Rep.slice Message_.rep) (Rep.prod (Rep.raw u17) Rep.unit))))) (x' := { y3 with Queue := y3.Queue }) h99 (fun _ _ hs_ => (Jn.iso _ (Jn.prod Jn.refl (Jn.prod (Jn.raw ((V.at .z) _ _ hs_) rfl) (Jn.prod Jn.same Jn.refl)))))
           have h101 := (h100.pick (.s (.s (.s .z)))).freeze
           have h102 := h101.pick .z
           have h103 := St.boxJ (r' := Responder_.rep) (x' := { { y3 with Queue := y3.Queue } with Memory := y3.Memory }) h102 (fun _ _ hs_ => (Jn.iso _ (Jn.prod Jn.refl (Jn.prod Jn.refl (Jn.prod (Jn.raw ((V.at .z) _ _ hs_) rfl) Jn.refl)))))
           have h104 := h103.pick (.s .z)
           have h105 := St.boxJ (r' := Responder_.rep) (x' := { { y3 with Queue := y3.Queue } with Memory := y3.Memory }) h104 (fun _ _ hs_ => (Jn.iso _ (Jn.prod Jn.refl (Jn.prod Jn.refl (Jn.prod (Jn.raw ((V.at .z) _ _ hs_) rfl) Jn.refl)))))
           have h106 := St.addV (f := false) (r := Responder_.rep) (x := { { y3 with Queue := y3.Queue } with Memory := y3.Memory }) h105 (V.jn (r := (Rep.iso (fun s : Responder_ => (s.Own, s.Queue, s.Memory, ())) (Rep.prod (Rep.int .u8) (Rep.prod (Rep.raw u16) (Rep.prod (Rep.raw u17) Rep.unit))))) (x := y3) (V.weak (V.at (.s (.s .z)))) rfl (fun _ _ hs_ => (Jn.iso _ (Jn.prod Jn.refl (Jn.prod (Jn.raw ((V.at (.s .z)) _ _ hs_) rfl) (Jn.prod (Jn.raw ((V.at .z) _ _ hs_) rfl) Jn.refl))))))
           refine Run.retP rfl (.cell rfl hu8 (.tmp rfl (.tmp rfl .nil))) ?_
           cases hF
           exact Post.mk' ⟨u29, u25, rfl, rfl, rfl, rfl⟩ (h106.picks .nil) (.val (V.at .z) (.val (V.at (.s (.s (.s (.s (.s .z)))))) .nil))
         ·
          refine Run.skip ?_
          refine Run.seq ?_
          have h107 := (h83.pick (.s (.s (.s (.s .z))))).freeze
          have h108 := h107.pick (.s (.s .z))
          have h109 := h108.weak
          have h110 := St.boxJ (r' := (Rep.iso (fun s : Responder_ => (s.Own, s.Queue, s.Memory, ())) (Rep.prod (Rep.int .u8) (Rep.prod (Rep.raw u16) (Rep.prod (Rep.slice Memory_.rep) Rep.unit))))) (x' := { y3 with Memory := y3.Memory }) h109 (fun _ _ hs_ => (Jn.iso _ (Jn.prod Jn.refl (Jn.prod Jn.same (Jn.prod (Jn.raw ((V.at .z) _ _ hs_) rfl) Jn.refl)))))
          have h111 := h110.picks (.cons .z (.cons (.s .z) (.cons (.s .z) (.cons .z .nil))))
          obtain ⟨y8, e18, hF⟩ := bindP_use hF
          obtain ⟨x2, e19, hF⟩ := bindP_use hF
          refine Run.drawV (Ωs := [(true, .box 29 Responder_.rep u2 Responder_.z)]) [⟨some 91, some ((padd u18 1)), fun _ => [], fun ds_ u_ => [], [], [(0, [])], none⟩, ⟨some 92, some (u16), fun _ => [], fun ds_ u_ => [], [], [(2, [5, 1]), (0, [])], none⟩, ⟨some 93, none, fun u_ => [(true, .val Message_.rep u_ y2.1)], fun ds_ u_ => [], [], [(1, [])], none⟩, ⟨some 94, none, fun u_ => [(true, .val Message_.rep u_ y8)], fun ds_ u_ => [], [], [], none⟩, ⟨some 95, none, fun u_ => [(true, .val (Rep.slice Message_.rep) u_ ([y8]))], fun ds_ u_ => [], [], [], none⟩, ⟨some 96, none, fun u_ => [], fun ds_ u_ => [(false, .slice 37 Message_.rep u_ x2)], [2], [], none⟩] [[], [0], [], [2], [3], [1, 4]] [[(false, .box 29 (Rep.iso (fun s : Responder_ => (s.Own, s.Queue, s.Memory, ())) (Rep.prod (Rep.int .u8) (Rep.prod (Rep.raw u16) (Rep.prod (Rep.slice Memory_.rep) Rep.unit)))) u18 ({ y3 with Memory := y3.Memory }))], [(true, .box 37 Message_.rep u9 y2.1)], [(false, .slice 37 Message_.rep u16 y3.Queue)]] [0, 1, 3, 4, 5, 6, 7, 8] Try_mixed rfl rfl rfl h111 (.cons ?_ (.cons ?_ (.cons ?_ (.cons ?_ (.cons ?_ (.cons ?_ .nil)))))) (fun q2 w hq2 h => ?_)
          ·intro q2 w Γx Ωx h
           have h : St e w ([(false, .val (Rep.slice Memory_.rep) u17 y3.Memory)] ++ Γx) ([(false, .box 29 (Rep.iso (fun s : Responder_ => (s.Own, s.Queue, s.Memory, ())) (Rep.prod (Rep.int .u8) (Rep.prod (Rep.raw u16) (Rep.prod (Rep.slice Memory_.rep) Rep.unit)))) u18 ({ y3 with Memory := y3.Memory })), (true, .box 29 Responder_.rep u2 Responder_.z)] ++ Ωx) := h
           refine OpS.fbox (o3 := 1) h .z PA.z fa29_1 rfl rfl rfl rfl ?_
           exact ⟨undef, rfl, trivial, h⟩
          ·intro q2 w Γx Ωx h
           have h : St e w ([(false, .val (Rep.slice Memory_.rep) u17 y3.Memory)] ++ Γx) ([(false, .slice 37 Message_.rep u16 y3.Queue), (false, .box 29 (Rep.iso (fun s : Responder_ => (s.Own, s.Queue, s.Memory, ())) (Rep.prod (Rep.int .u8) (Rep.prod (Rep.raw u16) (Rep.prod (Rep.slice Memory_.rep) Rep.unit)))) u18 ({ y3 with Memory := y3.Memory })), (true, .box 29 Responder_.rep u2 Responder_.z)] ++ Ωx) := h
           refine OpS.loadR h (.s .z) PA.a (GetS.ok (GetS.iso _ (GetS.there (GetS.here GetS.id)))) ty26 rfl rfl rfl rfl rfl ?_
           exact ⟨undef, rfl, trivial, h⟩
          ·intro q2 w Γx Ωx h
           have h : St e w ([(false, .val (Rep.slice Memory_.rep) u17 y3.Memory)] ++ Γx) ([(true, .box 37 Message_.rep u9 y2.1), (true, .box 29 Responder_.rep u2 Responder_.z)] ++ Ωx) := h
           refine OpS.loadB h .z PA.z Get.id ty37 rfl rfl rfl (fun u h117 => ?_)
           exact ⟨u, rfl, trivial, h117⟩
          ·intro q2 w Γx Ωx h
           refine OpS.callP h Try.func44 rfl rfl rfl rfl (vs := [(q2 2)]) rfl (responder_copied_ok e18) (.cons (f := true) (V.at .z) .nil) ?_
           rintro u w31 _ _ _ ⟨_, rfl, rfl, rfl, rfl⟩ h118
           have h119 := h118 rfl rfl
           simp only [List.cons_append, List.nil_append] at h119
           exact ⟨u, rfl, trivial, h119⟩
          ·intro q2 w Γx Ωx h
           refine OpS.lit (r := Message_.rep) (f := true) h Try.underlying26 ti37 rfl rfl rfl rfl rfl (.cons rfl (V.at .z) .nil) rfl rfl (fun u w32 h120 => ?_)
           exact ⟨u, rfl, trivial, h120⟩
          ·intro q2 w Γx Ωx h
           have h : St e w ([(true, .val (Rep.slice Message_.rep) (q2 4) ([y8])), (false, .val (Rep.slice Memory_.rep) u17 y3.Memory)] ++ Γx) ([(false, .slice 37 Message_.rep u16 y3.Queue), (true, .box 29 Responder_.rep u2 Responder_.z)] ++ Ωx) := h
           refine OpS.app (f' := true) h .z Try.underlying26 ti37 rfl rfl rfl rfl rfl rfl rfl (V.at .z) (.inl (.inl rfl)) e19 (fun u w33 h121 => ?_)
           exact ⟨u, rfl, trivial, h121⟩
          have h122 : St e w [(true, .val Message_.rep (q2 2) y2.1), (true, .val Message_.rep (q2 3) y8), (true, .val (Rep.slice Message_.rep) (q2 4) ([y8])), (false, .val (Rep.slice Memory_.rep) u17 y3.Memory)] [(false, .box 29 (Rep.iso (fun s : Responder_ => (s.Own, s.Queue, s.Memory, ())) (Rep.prod (Rep.int .u8) (Rep.prod (Rep.raw u16) (Rep.prod (Rep.slice Memory_.rep) Rep.unit)))) u18 ({ y3 with Memory := y3.Memory })), (true, .box 37 Message_.rep u9 y2.1), (false, .slice 37 Message_.rep (q2 5) x2), (true, .box 29 Responder_.rep u2 Responder_.z)] := h
          refine op (OpS.fbox (o3 := 1) h122 .z PA.z fa29_1 rfl rfl rfl rfl ?_)
          refine op (OpS.storeC (f' := false) (fr := (Rep.raw (q2 5))) (r' := (Rep.iso (fun s : Responder_ => (s.Own, s.Queue, s.Memory, ())) (Rep.prod (Rep.int .u8) (Rep.prod (Rep.raw (q2 5)) (Rep.prod (Rep.slice Memory_.rep) Rep.unit))))) (x' := { y3 with Memory := y3.Memory }) h122 .z PA.a (Chg.iso _ (Chg.there (Chg.here (Chg.id (by rfl))))) (Ty.like ty26 (by rfl) (by rfl)) rfl rfl rfl (V.raw (f := false) (St.own1 h122 (.s (.s .z))) (({ y3 with Memory := y3.Memory }).Queue)) (.inr rfl) (fun w34 h123 => ?_))
          refine RunL.nil ?_
          refine Run.slim [(6, u2), (11, u18)] ⟨rfl, rfl, trivial⟩ ?_
          refine Run.seq ?_
          refine Run.reg ?_
          refine op (OpS.loadB (fr := (Rep.iso (fun s : Responder_ => (s.Own, s.Queue, s.Memory, ())) (Rep.prod (Rep.int .u8) (Rep.prod (Rep.raw (q2 5)) (Rep.prod (Rep.slice Memory_.rep) Rep.unit))))) h123 .z PA.z (GetS.ok GetS.id) (Ty.like ty29 (by rfl) (by rfl)) rfl rfl rfl (fun u30 h124 => ?_))
          have h125 := (h124.pick (.s (.s (.s .z)))).weak
          obtain ⟨d2, e20, hF⟩ := letP_use hF
          refine op (OpS.storeC (f' := false) (fr := (Rep.iso (fun s : Responder_ => (s.Own, s.Queue, s.Memory, ())) (Rep.prod (Rep.int .u8) (Rep.prod (Rep.raw (q2 5)) (Rep.prod (Rep.slice Memory_.rep) Rep.unit))))) (r' := (Rep.iso (fun s : Responder_ => (s.Own, s.Queue, s.Memory, ())) (Rep.prod (Rep.int .u8) (Rep.prod (Rep.raw (q2 5)) (Rep.prod (Rep.slice Memory_.rep) Rep.unit))))) (x' := d2) h125 .z PA.z (Chg.of (x' := { y3 with Memory := y3.Memory }) (Chg.id (by rfl)) e20) (Ty.like ty29 (by rfl) (by rfl)) rfl rfl rfl (V.at .z) (.inr rfl) (fun w35 h126 => ?_))
          refine op (OpS.as rfl rfl rfl ?_)
          refine op (OpS.as rfl rfl rfl ?_)
          refine RunL.nil ?_
          refine Run.slim [(8, .int .i64 0), (7, .slice none 0 0), (6, u2)] ⟨rfl, rfl, rfl, trivial⟩ ?_
          have h128 := (h126.pick (.s (.s (.s .z)))).freeze
          have h129 := h128.pick .z
          have h130 := St.boxJ (r' := Responder_.rep) (x' := { d2 with Queue := x2 }) h129 (fun _ _ hs_ => (Jn.iso _ (Jn.prod Jn.refl (Jn.prod (Jn.raw ((V.at .z) _ _ hs_) rfl) Jn.refl))))
          have h131 := h130.pick (.s .z)
          have h132 := St.boxJ (r' := Responder_.rep) (x' := { { y3 with Memory := y3.Memory } with Queue := x2 }) h131 (fun _ _ hs_ => (Jn.iso _ (Jn.prod Jn.refl (Jn.prod (Jn.raw ((V.at .z) _ _ hs_) rfl) Jn.refl))))
          obtain ⟨u31, hu9, h127⟩ := res_box h132 (.s .z) ty29
          refine Run.retP rfl (.cell rfl hu9 (.tmp rfl (.tmp rfl .nil))) ?_
          cases hF
          exact Post.mk' ⟨u31, .slice none 0 0, rfl, rfl, rfl, rfl⟩ (h127.picks .nil) (.val (V.at .z) (.val V.nil .nil))
        ·
         refine RunL.caseb hF (fun e21 hF => ?_) (fun e21 hF => ?_)
         ·
          refine op (OpS.pass rfl rfl rfl ?_)
          refine op (OpS.pass rfl rfl rfl ?_)
          refine op (OpS.pass rfl rfl rfl ?_)
          refine op (OpS.pass rfl rfl rfl ?_)
          refine op (OpS.pass rfl rfl rfl ?_)
          refine op (OpS.pass rfl rfl rfl ?_)
          refine op (OpS.pass rfl rfl rfl ?_)
          refine op (OpS.pass rfl rfl rfl ?_)
          refine op (OpS.pick rfl rfl rfl rfl ?_)
          refine RunL.nil ?_
          refine Run.slim [(79, .bool true), (11, u18), (9, u9), (6, u2)] ⟨rfl, rfl, rfl, rfl, trivial⟩ ?_
          refine Run.slim [(6, u2), (9, u9), (11, u18), (79, .bool true)] ⟨rfl, rfl, rfl, rfl, trivial⟩ ?_
          exact hj2 (true) _ _ ⟨rfl, (h66.facts .nil).picks (.cons (.s (.s (.s (.s (.s (.s (.s .z))))))) (.cons (.s (.s (.s (.s (.s .z))))) (.cons (.s .z) (.cons (.s (.s .z)) (.cons (.s (.s .z)) .nil)))))⟩ hF
         ·
          refine op (OpS.fbox (o3 := 1) h66 (.s .z) PA.z fa29_1 rfl rfl rfl rfl ?_)
          refine op (OpS.loadR h66 (.s .z) PA.a (GetS.ok (GetS.iso _ (GetS.there (GetS.here GetS.id)))) ty26 rfl rfl rfl rfl rfl ?_)
          refine op (OpS.lenO h66 (.s (.s (.s .z))) Try.underlying26 rfl rfl rfl ?_)
          refine op (OpS.fbox (o3 := 2) h66 (.s .z) PA.z fa29_2 rfl rfl rfl rfl ?_)
          refine op (OpS.loadR h66 (.s .z) PA.a (GetS.ok (GetS.iso _ (GetS.there (GetS.there (GetS.here GetS.id))))) ty27 rfl rfl rfl rfl rfl ?_)
          refine op (OpS.lenO h66 (.s (.s (.s (.s .z)))) Try.underlying27 rfl rfl rfl ?_)
          refine op (OpS.bin rfl rfl rfl rfl rfl ?_)
          refine op (OpS.bin rfl rfl rfl rfl rfl ?_)
          refine op (OpS.pick rfl rfl rfl rfl ?_)
          refine RunL.nil ?_
          refine Run.slim [(79, .bool ((IntKind.i64.wrap ((y3.Queue.length : Int) + (y3.Memory.length : Int))) == 16)), (11, u18), (9, u9), (6, u2)] ⟨rfl, rfl, rfl, rfl, trivial⟩ ?_
          refine Run.slim [(6, u2), (9, u9), (11, u18), (79, .bool ((IntKind.i64.wrap ((y3.Queue.length : Int) + (y3.Memory.length : Int))) == 16))] ⟨rfl, rfl, rfl, rfl, trivial⟩ ?_
          exact hj2 ((IntKind.i64.wrap ((y3.Queue.length : Int) + (y3.Memory.length : Int))) == 16) _ _ ⟨rfl, (h66.facts .nil).picks (.cons (.s (.s (.s (.s (.s (.s (.s .z))))))) (.cons (.s (.s (.s (.s (.s .z))))) (.cons (.s .z) (.cons (.s (.s .z)) (.cons (.s (.s .z)) .nil)))))⟩ hF
  ·
   refine RunL.caseb hF (fun e22 hF => ?_) (fun e22 hF => ?_)
   ·
    refine op (OpS.pass rfl rfl rfl ?_)
    refine op (OpS.pass rfl rfl rfl ?_)
    refine op (OpS.pick rfl rfl rfl rfl ?_)
    refine RunL.nil ?_
    refine Run.slim [(25, .bool true), (6, u2), (3, u1), (1, v1), (2, .int .i64 a2)] ⟨rfl, rfl, rfl, rfl, rfl, trivial⟩ ?_
    refine Run.slim [(1, v1), (2, .int .i64 a2), (3, u1), (6, u2), (25, .bool true)] ⟨rfl, rfl, rfl, rfl, rfl, trivial⟩ ?_
    exact hj1 (true) _ _ ⟨rfl, (h5.facts (.atm (.s (.s .z)) .nil)).picks (.cons (.s .z) (.cons .z .nil))⟩ hF
   ·
    refine op (OpS.mv rfl rfl rfl ?_)
    refine op (OpS.bin rfl rfl rfl rfl rfl ?_)
    refine op (OpS.pick rfl rfl rfl rfl ?_)
    refine RunL.nil ?_
    refine Run.slim [(25, .bool (decide (a2 > 17179869184))), (6, u2), (3, u1), (1, v1), (2, .int .i64 a2)] ⟨rfl, rfl, rfl, rfl, rfl, trivial⟩ ?_
    refine Run.slim [(1, v1), (2, .int .i64 a2), (3, u1), (6, u2), (25, .bool (decide (a2 > 17179869184)))] ⟨rfl, rfl, rfl, rfl, rfl, trivial⟩ ?_
    exact hj1 (decide (a2 > 17179869184)) _ _ ⟨rfl, (h5.facts (.atm (.s (.s .z)) .nil)).picks (.cons (.s .z) (.cons .z .nil))⟩ hF
set_option maxHeartbeats 8000000 in
theorem responder_Done_ok {fuel : Nat} {a0 : Responder_} {a1 : Int} {a2 : List Int} {a3 : Int} {y : Responder_ × (List Int) × Int} (hF : responder_Done fuel a0 a1 a2 a3 = some y) {w : World} {v0 v2 : Value} :
  Spec Try.prog 17 [v0, .int .u8 a1, v2, .int .i64 a3].toArray w [(false, .val Responder_.rep v0 a0), (false, .val (Rep.slice (Rep.int .u8)) v2 a2)] [] (fun v Γr Ωr Ωo => ∃ u0 u1 : Value, v = .tuple #[u0, u1, .int .i64 y.2.2] ∧ Γr = [(false, .val Responder_.rep u0 y.1), (true, .val (Rep.slice (Rep.int .u8)) u1 y.2.1)] ∧ Ωr = [] ∧ Ωo = []) := by
 refine Spec.of (L := [(0, v0), (1, .int .u8 a1), (2, v2), (3, .int .i64 a3)]) Try.func17 rfl ⟨rfl, rfl, rfl, rfl, trivial⟩ rfl (fun e h => ?_)
 unfold responder_Done at hF
 refine Run.seq ?_
 refine Run.reg ?_
 refine op (OpS.boxF h rfl rfl rfl (V.at .z) (fun u1 w1 h1 => ?_))
 refine op (OpS.alloc h1 ti29 Responder_.zr rfl rfl (fun u2 w2 h2 => ?_))
 refine op (OpS.as rfl rfl rfl ?_)
 refine op (OpS.as rfl rfl rfl ?_)
 refine RunL.nil ?_
 refine Run.slim [(8, u2), (4, u1), (1, .int .u8 a1), (2, v2), (3, .int .i64 a3)] ⟨rfl, rfl, rfl, rfl, rfl, trivial⟩ ?_
 refine Run.seq ?_
 refine Run.block ?_
 refine Run.seq ?_
 refine Run.reg ?_
 refine op (OpS.loadB h2 (.s .z) PA.z Get.id ty29 rfl rfl rfl (fun u3 h3 => ?_))
 obtain ⟨y1, e1, hF⟩ := bindP_use hF
 refine op (OpS.callP h3 Try.func20 rfl rfl rfl rfl (vs := [u3]) rfl (responder_Valid_ok e1) (.cons (f := false) (V.at .z) .nil) ?_)
 rintro _ w3 _ _ _ ⟨rfl, rfl, rfl, rfl⟩ h4
 have h5 := h4 rfl rfl
 simp only [List.cons_append, List.nil_append] at h5
 refine op (OpS.not rfl rfl rfl ?_)
 refine op (OpS.as rfl rfl rfl ?_)
 obtain ⟨x1, e2, hF⟩ := letP_use hF
 refine RunL.nameb e2 ?_
 refine RunL.nil ?_
 refine Run.slim [(14, .bool x1), (8, u2), (4, u1), (1, .int .u8 a1), (2, v2), (3, .int .i64 a3)] ⟨rfl, rfl, rfl, rfl, rfl, rfl, trivial⟩ ?_
 refine Run.ite rfl hF (fun e3 hF => ?_) (fun e3 hF => ?_)
 ·
  refine Run.seq ?_
  refine Run.reg ?_
  refine op (OpS.build (f := true) (x' := Responder_.z) h5 pl29 ti29 Responder_.zr rfl rfl rfl .nil (fun u4 h6 => ?_))
  refine op (OpS.storeB (f' := true) h6 .z PA.z Put.id ty29 rfl rfl rfl (V.at .z) (.inl rfl) (fun w4 h7 => ?_))
  refine op (OpS.as rfl rfl rfl ?_)
  refine op (OpS.as rfl rfl rfl ?_)
  refine RunL.nil ?_
  refine Run.slim [(10, .int .i64 1), (9, .slice none 0 0), (8, u2)] ⟨rfl, rfl, rfl, trivial⟩ ?_
  obtain ⟨u5, hu1, h8⟩ := res_box h7 .z ty29
  refine Run.retP rfl (.cell rfl hu1 (.tmp rfl (.tmp rfl .nil))) ?_
  cases hF
  exact Post.mk' ⟨u5, .slice none 0 0, rfl, rfl, rfl, rfl⟩ (h8.picks .nil) (.val (V.weak (V.at .z)) (.val V.nil .nil))
 ·
  refine Run.seq ?_
  refine Run.reg ?_
  refine op (OpS.mv rfl rfl rfl ?_)
  refine op (OpS.bin rfl rfl rfl rfl rfl ?_)
  refine op (OpS.mv rfl rfl rfl ?_)
  refine RunL.join (σ := Bool) (fun s_ L_ w_ => L_ = [(1, .int .u8 a1), (2, v2), (3, .int .i64 a3), (4, u1), (8, u2), (19, .bool s_)] ∧ St e w_ [(false, .val (Rep.slice (Rep.int .u8)) v2 a2)] [(false, .box 29 Responder_.rep u1 a0), (true, .box 29 Responder_.rep u2 Responder_.z)]) hF (fun s1 _ w5 hI hF => ?_) (fun j1 hj1 hF => ?_)
  ·
   obtain ⟨rfl, h9⟩ := hI
   refine Run.ite rfl hF (fun e4 hF => ?_) (fun e4 hF => ?_)
   ·
    refine Run.seq ?_
    refine Run.reg ?_
    refine op (OpS.build (f := true) (x' := Responder_.z) h9 pl29 ti29 Responder_.zr rfl rfl rfl .nil (fun u6 h10 => ?_))
    refine op (OpS.storeB (f' := true) h10 (.s .z) PA.z Put.id ty29 rfl rfl rfl (V.at .z) (.inl rfl) (fun w6 h11 => ?_))
    refine op (OpS.as rfl rfl rfl ?_)
    refine op (OpS.as rfl rfl rfl ?_)
    refine RunL.nil ?_
    refine Run.slim [(10, .int .i64 2), (9, .slice none 0 0), (8, u2)] ⟨rfl, rfl, rfl, trivial⟩ ?_
    obtain ⟨u7, hu2, h12⟩ := res_box h11 .z ty29
    refine Run.retP rfl (.cell rfl hu2 (.tmp rfl (.tmp rfl .nil))) ?_
    cases hF
    exact Post.mk' ⟨u7, .slice none 0 0, rfl, rfl, rfl, rfl⟩ (h12.picks .nil) (.val (V.weak (V.at .z)) (.val V.nil .nil))
   ·
    refine Run.seq ?_
    refine Run.reg ?_
    refine op (OpS.fbox (o3 := 1) h9 .z PA.z fa29_1 rfl rfl rfl rfl ?_)
    refine op (OpS.loadB h9 .z PA.a (Get.fld Responder_.f1) ty26 rfl rfl rfl (fun u8 h13 => ?_))
    refine op (OpS.len h13 Try.underlying26 rfl rfl rfl (V.at .z) ?_)
    refine op (OpS.bin rfl rfl rfl rfl rfl ?_)
    refine op (OpS.as rfl rfl rfl ?_)
    obtain ⟨x2, e5, hF⟩ := letP_use hF
    refine RunL.nameb e5 ?_
    refine RunL.nil ?_
    refine Run.slim [(27, .bool x2), (1, .int .u8 a1), (2, v2), (3, .int .i64 a3), (4, u1), (8, u2)] ⟨rfl, rfl, rfl, rfl, rfl, rfl, trivial⟩ ?_
    refine Run.ite rfl hF (fun e6 hF => ?_) (fun e6 hF => ?_)
    ·
     refine Run.seq ?_
     refine Run.reg ?_
     refine op (OpS.build (f := true) (x' := Responder_.z) h13 pl29 ti29 Responder_.zr rfl rfl rfl .nil (fun u9 h14 => ?_))
     refine op (OpS.storeB (f' := true) h14 (.s .z) PA.z Put.id ty29 rfl rfl rfl (V.at .z) (.inl rfl) (fun w7 h15 => ?_))
     refine op (OpS.as rfl rfl rfl ?_)
     refine op (OpS.as rfl rfl rfl ?_)
     refine RunL.nil ?_
     refine Run.slim [(10, .int .i64 46), (9, .slice none 0 0), (8, u2)] ⟨rfl, rfl, rfl, trivial⟩ ?_
     obtain ⟨u10, hu3, h16⟩ := res_box h15 .z ty29
     refine Run.retP rfl (.cell rfl hu3 (.tmp rfl (.tmp rfl .nil))) ?_
     cases hF
     exact Post.mk' ⟨u10, .slice none 0 0, rfl, rfl, rfl, rfl⟩ (h16.picks .nil) (.val (V.weak (V.at .z)) (.val V.nil .nil))
    ·
     refine Run.skip ?_
     refine Run.endBlock ?_
     refine Run.seq ?_
     refine Run.reg ?_
     refine op (OpS.fbox (o3 := 1) h13 .z PA.z fa29_1 rfl rfl rfl rfl ?_)
     refine op (OpS.loadB h13 .z PA.a (Get.fld Responder_.f1) ty26 rfl rfl rfl (fun u11 h17 => ?_))
     obtain ⟨x3, e7, hF⟩ := bindP_use hF
     refine op (OpS.iptr h17 Try.underlying26 ty37 rfl rfl rfl rfl (V.at .z) e7 (fun u12 h18 => ?_))
     refine op (OpS.load h18 ty37 rfl rfl rfl .z (fun u13 h19 => ?_))
     refine op (OpS.mv rfl rfl rfl ?_)
     refine op (OpS.mv rfl rfl rfl ?_)
     obtain ⟨y2, e8, hF⟩ := bindP_use hF
     refine op (OpS.callP h19 Try.func43 rfl rfl rfl rfl (vs := [u13, .int .u8 a1, v2]) rfl (responder_answer_ok e8) (.cons (f := false) (V.at .z) (.cons (f := false) (V.at (.s (.s (.s (.s .z))))) .nil)) ?_)
     rintro _ w8 _ _ _ ⟨u14, rfl, rfl, rfl, rfl⟩ h20
     have h21 := h20 rfl rfl
     simp only [List.cons_append, List.nil_append] at h21
     refine op (OpS.mv rfl rfl rfl ?_)
     refine op (OpS.ext rfl rfl rfl rfl ?_)
     refine op (OpS.ext rfl rfl rfl rfl ?_)
     refine op (OpS.as rfl rfl rfl ?_)
     have h22 := (h21.pick .z).freeze
     refine op (OpS.as rfl rfl rfl ?_)
     refine RunL.nil ?_
     refine Run.slim [(12, .int .i64 y2.2), (11, u14), (3, .int .i64 a3), (4, u1), (8, u2)] ⟨rfl, rfl, rfl, rfl, rfl, trivial⟩ ?_
     refine Run.seq ?_
     refine Run.seq ?_
     refine Run.reg ?_
     refine op (OpS.mv rfl rfl rfl ?_)
     refine op (OpS.bin rfl rfl rfl rfl rfl ?_)
     refine RunL.nil ?_
     refine Run.slim [(44, .bool (y2.2 != 0)), (12, .int .i64 y2.2), (11, u14), (3, .int .i64 a3), (4, u1), (8, u2)] ⟨rfl, rfl, rfl, rfl, rfl, rfl, trivial⟩ ?_
     refine Run.ite rfl hF (fun e9 hF => ?_) (fun e9 hF => ?_)
     ·
      refine Run.seq ?_
      refine Run.reg ?_
      refine op (OpS.build (f := true) (x' := Responder_.z) h22 pl29 ti29 Responder_.zr rfl rfl rfl .nil (fun u15 h23 => ?_))
      refine op (OpS.mv rfl rfl rfl ?_)
      refine op (OpS.storeB (f' := true) h23 (.s .z) PA.z Put.id ty29 rfl rfl rfl (V.at .z) (.inl rfl) (fun w9 h24 => ?_))
      refine op (OpS.as rfl rfl rfl ?_)
      refine op (OpS.as rfl rfl rfl ?_)
      refine RunL.nil ?_
      refine Run.slim [(10, .int .i64 y2.2), (9, .slice none 0 0), (8, u2)] ⟨rfl, rfl, rfl, trivial⟩ ?_
      obtain ⟨u16, hu4, h25⟩ := res_box h24 .z ty29
      refine Run.retP rfl (.cell rfl hu4 (.tmp rfl (.tmp rfl .nil))) ?_
      cases hF
      exact Post.mk' ⟨u16, .slice none 0 0, rfl, rfl, rfl, rfl⟩ (h25.picks .nil) (.val (V.weak (V.at .z)) (.val V.nil .nil))
     ·
      refine Run.skip ?_
      refine Run.seq ?_
      refine Run.reg ?_
      refine op (OpS.loadB h22 .z PA.z Get.id ty29 rfl rfl rfl (fun u17 h26 => ?_))
      refine op (OpS.mv rfl rfl rfl ?_)
      obtain ⟨y3, e10, hF⟩ := bindP_use hF
      have h27 := h26.front .nil
      refine op (OpS.callO h27 Try.func37 rfl rfl rfl rfl (vs := [u17, .int .i64 a3]) rfl (responder_fresh_ok e10) rfl (.cons (f := false) (V.at .z) .nil) ?_)
      rintro u18 w10 _ _ _ ⟨_, u19, u20, rfl, rfl, rfl, rfl⟩ h28
      have h29 := h28
      simp only [List.cons_append, List.nil_append] at h29
      have h30 := St.nil 72 Memory_.rep h29
      refine op (OpS.alloc (r := (Rep.iso (fun s : Responder_ => (s.Own, s.Queue, s.Memory, ())) (Rep.prod (Rep.int .u8) (Rep.prod (Rep.slice Message_.rep) (Rep.prod (Rep.raw (.slice none 0 0)) Rep.unit))))) h30 ti29 (Zr.iso (y := Responder_.z) _ (Zr.of (Zr.prod (Zr.int .u8 0) (Zr.prod (Zr.slice Message_.rep) (Zr.prod (Zr.raw rfl _) Zr.unit))) (by rfl))) rfl rfl (fun u21 w11 h31 => ?_))
      refine op (OpS.storeC (f' := true) (fr := (Rep.iso (fun s : Responder_ => (s.Own, s.Queue, s.Memory, ())) (Rep.prod (Rep.int .u8) (Rep.prod (Rep.raw u19) (Rep.prod (Rep.raw u20) Rep.unit))))) (r' := (Rep.iso (fun s : Responder_ => (s.Own, s.Queue, s.Memory, ())) (Rep.prod (Rep.int .u8) (Rep.prod (Rep.raw u19) (Rep.prod (Rep.raw u20) Rep.unit))))) (x' := y3) h31 .z PA.z (Chg.id (by rfl)) (Ty.like ty29 (by rfl) (by rfl)) rfl rfl rfl (V.pure (V.at .z) (Pure.iso (Pure.prod Pure.int (Pure.prod Pure.raw (Pure.prod Pure.raw Pure.unit))))) (.inl rfl) (fun w12 h32 => ?_))
      refine RunL.nil ?_
      refine Run.slim [(13, u21), (11, u14), (3, .int .i64 a3), (8, u2)] ⟨rfl, rfl, rfl, rfl, trivial⟩ ?_
      refine Run.seq ?_
      have h33 := (h32.pick (.s (.s .z))).freeze
      have h34 := h33.pick .z
      have h35 := h34.weak
      have h36 := St.boxJ (r' := (Rep.iso (fun s : Responder_ => (s.Own, s.Queue, s.Memory, ())) (Rep.prod (Rep.int .u8) (Rep.prod (Rep.slice Message_.rep) (Rep.prod (Rep.raw u20) Rep.unit))))) (x' := { y3 with Queue := y3.Queue }) h35 (fun _ _ hs_ => (Jn.iso _ (Jn.prod Jn.refl (Jn.prod (Jn.raw ((V.at .z) _ _ hs_) rfl) (Jn.prod Jn.same Jn.refl)))))
      have h37 := h36.picks (.cons .z (.cons (.s .z) (.cons .z (.cons .z (.cons .z .nil)))))
      obtain ⟨x4, e11, hF⟩ := bindP_use hF
      obtain ⟨y4, e12, hF⟩ := bindP_use hF
      obtain ⟨x5, e13, hF⟩ := bindP_use hF
      refine Run.drawV (Ωs := [(true, .slice 72 Memory_.rep (.slice none 0 0) ([])), (false, .box 29 Responder_.rep u1 a0), (true, .box 29 Responder_.rep u2 Responder_.z)]) [⟨some 50, some ((padd u21 2)), fun _ => [], fun ds_ u_ => [], [], [(0, [])], none⟩, ⟨some 51, some (u20), fun _ => [], fun ds_ u_ => [], [], [(1, [12, 1]), (0, [])], none⟩, ⟨some 52, some ((padd u21 1)), fun _ => [], fun ds_ u_ => [], [], [(0, [])], none⟩, ⟨some 53, none, fun u_ => [(false, .val (Rep.slice Message_.rep) u_ (({ y3 with Queue := y3.Queue }).Queue))], fun ds_ u_ => [], [], [(0, [])], none⟩, ⟨some 54, none, fun u_ => [(false, .ptr Message_.rep u_ x4)], fun ds_ u_ => [], [], [], none⟩, ⟨some 55, none, fun u_ => [(false, .val Message_.rep u_ x4)], fun ds_ u_ => [], [], [], none⟩, ⟨some 56, some (u14), fun _ => [], fun ds_ u_ => [], [], [], none⟩, ⟨some 57, none, fun u_ => [(true, .val (Rep.slice (Rep.int .u8)) u_ y4)], fun ds_ u_ => [], [], [], none⟩, ⟨some 58, some (.int .i64 a3), fun _ => [], fun ds_ u_ => [], [], [], none⟩, ⟨some 59, some (.int .i64 (IntKind.i64.wrap (a3 + 100))), fun _ => [], fun ds_ u_ => [], [], [], none⟩, ⟨some 60, none, fun u_ => [(false, .val Memory_.rep u_ (⟨x4, y4, (IntKind.i64.wrap (a3 + 100))⟩ : Memory_))], fun ds_ u_ => [], [], [], none⟩, ⟨some 61, none, fun u_ => [(false, .val (Rep.slice Memory_.rep) u_ ([(⟨x4, y4, (IntKind.i64.wrap (a3 + 100))⟩ : Memory_)]))], fun ds_ u_ => [], [], [], none⟩, ⟨some 62, none, fun u_ => [], fun ds_ u_ => [(false, .slice 72 Memory_.rep u_ x5)], [1], [], none⟩] [[], [0], [], [2], [3], [4], [], [6], [], [8], [5, 7, 9], [10], [1, 11]] [[(false, .box 29 (Rep.iso (fun s : Responder_ => (s.Own, s.Queue, s.Memory, ())) (Rep.prod (Rep.int .u8) (Rep.prod (Rep.slice Message_.rep) (Rep.prod (Rep.raw u20) Rep.unit)))) u21 ({ y3 with Queue := y3.Queue }))], [(false, .slice 72 Memory_.rep u20 y3.Memory)]] [0, 2, 3, 4, 5, 6, 7, 8, 9, 10, 11, 12, 13, 14] Try_mixed rfl rfl rfl h37 (.cons ?_ (.cons ?_ (.cons ?_ (.cons ?_ (.cons ?_ (.cons ?_ (.cons ?_ (.cons ?_ (.cons ?_ (.cons ?_ (.cons ?_ (.cons ?_ (.cons ?_ .nil))))))))))))) (fun q1 w hq1 h => ?_)
      ·intro q1 w Γx Ωx h
       have h : St e w ([(false, .val (Rep.slice Message_.rep) u19 y3.Queue), (false, .val (Rep.iso (fun s : Responder_ => (s.Own, s.Queue, s.Memory, ())) (Rep.prod (Rep.int .u8) (Rep.prod (Rep.raw u19) (Rep.prod (Rep.raw u20) Rep.unit)))) u18 y3), (false, .val Responder_.rep u17 a0), (true, .val (Rep.slice (Rep.int .u8)) u14 y2.1), (false, .val Message_.rep u13 x3), (false, .ptr Message_.rep u12 x3), (false, .val (Rep.slice Message_.rep) u11 a0.Queue), (false, .val (Rep.slice Message_.rep) u8 a0.Queue), (false, .val (Rep.slice (Rep.int .u8)) v2 a2)] ++ Γx) ([(false, .box 29 (Rep.iso (fun s : Responder_ => (s.Own, s.Queue, s.Memory, ())) (Rep.prod (Rep.int .u8) (Rep.prod (Rep.slice Message_.rep) (Rep.prod (Rep.raw u20) Rep.unit)))) u21 ({ y3 with Queue := y3.Queue })), (true, .slice 72 Memory_.rep (.slice none 0 0) ([])), (false, .box 29 Responder_.rep u1 a0), (true, .box 29 Responder_.rep u2 Responder_.z)] ++ Ωx) := h
       refine OpS.fbox (o3 := 2) h .z PA.z fa29_2 rfl rfl rfl rfl ?_
       exact ⟨undef, rfl, trivial, h⟩
      ·intro q1 w Γx Ωx h
       have h : St e w ([(false, .val (Rep.slice Message_.rep) u19 y3.Queue), (false, .val (Rep.iso (fun s : Responder_ => (s.Own, s.Queue, s.Memory, ())) (Rep.prod (Rep.int .u8) (Rep.prod (Rep.raw u19) (Rep.prod (Rep.raw u20) Rep.unit)))) u18 y3), (false, .val Responder_.rep u17 a0), (true, .val (Rep.slice (Rep.int .u8)) u14 y2.1), (false, .val Message_.rep u13 x3), (false, .ptr Message_.rep u12 x3), (false, .val (Rep.slice Message_.rep) u11 a0.Queue), (false, .val (Rep.slice Message_.rep) u8 a0.Queue), (false, .val (Rep.slice (Rep.int .u8)) v2 a2)] ++ Γx) ([(false, .slice 72 Memory_.rep u20 y3.Memory), (false, .box 29 (Rep.iso (fun s : Responder_ => (s.Own, s.Queue, s.Memory, ())) (Rep.prod (Rep.int .u8) (Rep.prod (Rep.slice Message_.rep) (Rep.prod (Rep.raw u20) Rep.unit)))) u21 ({ y3 with Queue := y3.Queue })), (true, .slice 72 Memory_.rep (.slice none 0 0) ([])), (false, .box 29 Responder_.rep u1 a0), (true, .box 29 Responder_.rep u2 Responder_.z)] ++ Ωx) := h
       refine OpS.loadR h (.s .z) PA.a (GetS.ok (GetS.iso _ (GetS.there (GetS.there (GetS.here GetS.id))))) ty27 rfl rfl rfl rfl rfl ?_
       exact ⟨undef, rfl, trivial, h⟩
      ·intro q1 w Γx Ωx h
       have h : St e w ([(false, .val (Rep.slice Message_.rep) u19 y3.Queue), (false, .val (Rep.iso (fun s : Responder_ => (s.Own, s.Queue, s.Memory, ())) (Rep.prod (Rep.int .u8) (Rep.prod (Rep.raw u19) (Rep.prod (Rep.raw u20) Rep.unit)))) u18 y3), (false, .val Responder_.rep u17 a0), (true, .val (Rep.slice (Rep.int .u8)) u14 y2.1), (false, .val Message_.rep u13 x3), (false, .ptr Message_.rep u12 x3), (false, .val (Rep.slice Message_.rep) u11 a0.Queue), (false, .val (Rep.slice Message_.rep) u8 a0.Queue), (false, .val (Rep.slice (Rep.int .u8)) v2 a2)] ++ Γx) ([(false, .box 29 (Rep.iso (fun s : Responder_ => (s.Own, s.Queue, s.Memory, ())) (Rep.prod (Rep.int .u8) (Rep.prod (Rep.slice Message_.rep) (Rep.prod (Rep.raw u20) Rep.unit)))) u21 ({ y3 with Queue := y3.Queue })), (true, .slice 72 Memory_.rep (.slice none 0 0) ([])), (false, .box 29 Responder_.rep u1 a0), (true, .box 29 Responder_.rep u2 Responder_.z)] ++ Ωx) := h
       refine OpS.fbox (o3 := 1) h .z PA.z fa29_1 rfl rfl rfl rfl ?_
       exact ⟨undef, rfl, trivial, h⟩
      ·intro q1 w Γx Ωx h
       have h : St e w ([(false, .val (Rep.slice Message_.rep) u19 y3.Queue), (false, .val (Rep.iso (fun s : Responder_ => (s.Own, s.Queue, s.Memory, ())) (Rep.prod (Rep.int .u8) (Rep.prod (Rep.raw u19) (Rep.prod (Rep.raw u20) Rep.unit)))) u18 y3), (false, .val Responder_.rep u17 a0), (true, .val (Rep.slice (Rep.int .u8)) u14 y2.1), (false, .val Message_.rep u13 x3), (false, .ptr Message_.rep u12 x3), (false, .val (Rep.slice Message_.rep) u11 a0.Queue), (false, .val (Rep.slice Message_.rep) u8 a0.Queue), (false, .val (Rep.slice (Rep.int .u8)) v2 a2)] ++ Γx) ([(false, .box 29 (Rep.iso (fun s : Responder_ => (s.Own, s.Queue, s.Memory, ())) (Rep.prod (Rep.int .u8) (Rep.prod (Rep.slice Message_.rep) (Rep.prod (Rep.raw u20) Rep.unit)))) u21 ({ y3 with Queue := y3.Queue })), (true, .slice 72 Memory_.rep (.slice none 0 0) ([])), (false, .box 29 Responder_.rep u1 a0), (true, .box 29 Responder_.rep u2 Responder_.z)] ++ Ωx) := h
       refine OpS.loadB (fr := (Rep.slice Message_.rep)) h .z PA.a (GetS.ok (GetS.iso _ (GetS.there (GetS.here GetS.id)))) (Ty.like ty26 (by rfl) (by rfl)) rfl rfl rfl (fun u h47 => ?_)
       exact ⟨u, rfl, trivial, h47⟩
      ·intro q1 w Γx Ωx h
       refine OpS.iptr h Try.underlying26 ty37 rfl rfl rfl rfl (V.at .z) e11 (fun u h48 => ?_)
       exact ⟨u, rfl, trivial, h48⟩
      ·intro q1 w Γx Ωx h
       refine OpS.load h ty37 rfl rfl rfl .z (fun u h49 => ?_)
       exact ⟨u, rfl, trivial, h49⟩
      ·intro q1 w Γx Ωx h
       refine OpS.mv rfl rfl rfl ?_
       exact ⟨undef, rfl, trivial, h⟩
      ·intro q1 w Γx Ωx h
       refine OpS.callP h Try.func41 rfl rfl rfl rfl (vs := [u14]) rfl (slices_Clone_byte_byte_ok e12) (.cons (f := true) (V.at (.s (.s (.s .z)))) .nil) ?_
       rintro u w16 _ _ _ ⟨_, rfl, rfl, rfl, rfl⟩ h50
       have h51 := h50 rfl rfl
       simp only [List.cons_append, List.nil_append] at h51
       have h52 := h51.freeze
       exact ⟨u, rfl, trivial, h52⟩
      ·intro q1 w Γx Ωx h
       refine OpS.mv rfl rfl rfl ?_
       exact ⟨undef, rfl, trivial, h⟩
      ·intro q1 w Γx Ωx h
       refine OpS.bin rfl rfl rfl rfl rfl ?_
       exact ⟨undef, rfl, trivial, h⟩
      ·intro q1 w Γx Ωx h
       refine OpS.build (f := false) (x' := (⟨x4, y4, (IntKind.i64.wrap (a3 + 100))⟩ : Memory_)) h pl72 ti72 Memory_.zr rfl rfl rfl (.cons rfl Memory_.f0 rfl (V.at .z) (.cons rfl Memory_.f1 rfl (V.weak (V.at (.s .z))) (.cons rfl Memory_.f2 rfl V.int .nil))) (fun u h53 => ?_)
       exact ⟨u, rfl, trivial, h53⟩
      ·intro q1 w Γx Ωx h
       refine OpS.lit (r := Memory_.rep) (f := false) h Try.underlying27 ti72 rfl rfl rfl rfl rfl (.cons rfl (V.at .z) .nil) rfl rfl (fun u w17 h54 => ?_)
       exact ⟨u, rfl, trivial, h54⟩
      ·intro q1 w Γx Ωx h
       have h : St e w ([(false, .val (Rep.slice Memory_.rep) (q1 11) ([(⟨x4, y4, (IntKind.i64.wrap (a3 + 100))⟩ : Memory_)])), (false, .val (Rep.slice Message_.rep) u19 y3.Queue), (false, .val (Rep.iso (fun s : Responder_ => (s.Own, s.Queue, s.Memory, ())) (Rep.prod (Rep.int .u8) (Rep.prod (Rep.raw u19) (Rep.prod (Rep.raw u20) Rep.unit)))) u18 y3), (false, .val Responder_.rep u17 a0), (true, .val (Rep.slice (Rep.int .u8)) u14 y2.1), (false, .val Message_.rep u13 x3), (false, .ptr Message_.rep u12 x3), (false, .val (Rep.slice Message_.rep) u11 a0.Queue), (false, .val (Rep.slice Message_.rep) u8 a0.Queue), (false, .val (Rep.slice (Rep.int .u8)) v2 a2)] ++ Γx) ([(false, .slice 72 Memory_.rep u20 y3.Memory), (true, .slice 72 Memory_.rep (.slice none 0 0) ([])), (false, .box 29 Responder_.rep u1 a0), (true, .box 29 Responder_.rep u2 Responder_.z)] ++ Ωx) := h
       refine OpS.app (f' := false) h .z Try.underlying27 ti72 rfl rfl rfl rfl rfl rfl rfl (V.at .z) (.inl (.inr rfl)) e13 (fun u w18 h55 => ?_)
       exact ⟨u, rfl, trivial, h55⟩
      have h56 : St e w [(false, .val (Rep.slice Message_.rep) (q1 3) (({ y3 with Queue := y3.Queue }).Queue)), (false, .ptr Message_.rep (q1 4) x4), (false, .val Message_.rep (q1 5) x4), (true, .val (Rep.slice (Rep.int .u8)) (q1 7) y4), (false, .val Memory_.rep (q1 10) (⟨x4, y4, (IntKind.i64.wrap (a3 + 100))⟩ : Memory_)), (false, .val (Rep.slice Memory_.rep) (q1 11) ([(⟨x4, y4, (IntKind.i64.wrap (a3 + 100))⟩ : Memory_)])), (false, .val (Rep.slice Message_.rep) u19 y3.Queue), (false, .val (Rep.iso (fun s : Responder_ => (s.Own, s.Queue, s.Memory, ())) (Rep.prod (Rep.int .u8) (Rep.prod (Rep.raw u19) (Rep.prod (Rep.raw u20) Rep.unit)))) u18 y3), (false, .val Responder_.rep u17 a0), (true, .val (Rep.slice (Rep.int .u8)) u14 y2.1), (false, .val Message_.rep u13 x3), (false, .ptr Message_.rep u12 x3), (false, .val (Rep.slice Message_.rep) u11 a0.Queue), (false, .val (Rep.slice Message_.rep) u8 a0.Queue), (false, .val (Rep.slice (Rep.int .u8)) v2 a2)] [(false, .box 29 (Rep.iso (fun s : Responder_ => (s.Own, s.Queue, s.Memory, ())) (Rep.prod (Rep.int .u8) (Rep.prod (Rep.slice Message_.rep) (Rep.prod (Rep.raw u20) Rep.unit)))) u21 ({ y3 with Queue := y3.Queue })), (false, .slice 72 Memory_.rep (q1 12) x5), (true, .slice 72 Memory_.rep (.slice none 0 0) ([])), (false, .box 29 Responder_.rep u1 a0), (true, .box 29 Responder_.rep u2 Responder_.z)] := h
      refine op (OpS.fbox (o3 := 2) h56 .z PA.z fa29_2 rfl rfl rfl rfl ?_)
      refine op (OpS.storeC (f' := false) (fr := (Rep.raw (q1 12))) (r' := (Rep.iso (fun s : Responder_ => (s.Own, s.Queue, s.Memory, ())) (Rep.prod (Rep.int .u8) (Rep.prod (Rep.slice Message_.rep) (Rep.prod (Rep.raw (q1 12)) Rep.unit))))) (x' := { y3 with Queue := y3.Queue }) h56 .z PA.a (Chg.iso _ (Chg.there (Chg.there (Chg.here (Chg.id (by rfl)))))) (Ty.like ty27 (by rfl) (by rfl)) rfl rfl rfl (V.raw (f := false) (St.own1 h56 (.s .z)) (({ y3 with Queue := y3.Queue }).Memory)) (.inr rfl) (fun w19 h57 => ?_))
      refine RunL.nil ?_
      refine Run.slim [(13, u21), (11, u14), (8, u2)] ⟨rfl, rfl, rfl, trivial⟩ ?_
      refine Run.seq ?_
      refine Run.reg ?_
      refine op (OpS.fbox (o3 := 1) h57 .z PA.z fa29_1 rfl rfl rfl rfl ?_)
      refine op (OpS.loadB (fr := (Rep.slice Message_.rep)) h57 .z PA.a (GetS.ok (GetS.iso _ (GetS.there (GetS.here GetS.id)))) (Ty.like ty26 (by rfl) (by rfl)) rfl rfl rfl (fun u22 h58 => ?_))
      obtain ⟨x6, e14, hF⟩ := bindP_use hF
      refine op (OpS.sub h58 Try.underlying26 ty37 rfl rfl rfl rfl rfl (V.at .z) e14 (fun u23 h59 => ?_))
      refine op (OpS.fbox (o3 := 1) h59 .z PA.z fa29_1 rfl rfl rfl rfl ?_)
      obtain ⟨d1, e15, hF⟩ := letP_use hF
      refine op (OpS.storeC (f' := false) (fr := (Rep.slice Message_.rep)) (r' := (Rep.iso (fun s : Responder_ => (s.Own, s.Queue, s.Memory, ())) (Rep.prod (Rep.int .u8) (Rep.prod (Rep.slice Message_.rep) (Rep.prod (Rep.raw (q1 12)) Rep.unit))))) (x' := d1) h59 .z PA.a (Chg.of (x' := { { y3 with Queue := y3.Queue } with Queue := x6 }) (Chg.iso _ (Chg.there (Chg.here (Chg.id (by rfl))))) e15) ty26 rfl rfl rfl (V.at .z) (.inr rfl) (fun w20 h60 => ?_))
      refine RunL.nil ?_
      refine Run.slim [(13, u21), (11, u14), (8, u2)] ⟨rfl, rfl, rfl, trivial⟩ ?_
      refine Run.seq ?_
      refine Run.reg ?_
      refine op (OpS.loadB (fr := (Rep.iso (fun s : Responder_ => (s.Own, s.Queue, s.Memory, ())) (Rep.prod (Rep.int .u8) (Rep.prod (Rep.slice Message_.rep) (Rep.prod (Rep.raw (q1 12)) Rep.unit))))) h60 .z PA.z (GetS.ok GetS.id) (Ty.like ty29 (by rfl) (by rfl)) rfl rfl rfl (fun u24 h61 => ?_))
      refine op (OpS.mv rfl rfl rfl ?_)
      have h62 := (h61.pick (.s (.s (.s (.s .z))))).weak
      refine op (OpS.storeC (f' := false) (fr := (Rep.iso (fun s : Responder_ => (s.Own, s.Queue, s.Memory, ())) (Rep.prod (Rep.int .u8) (Rep.prod (Rep.slice Message_.rep) (Rep.prod (Rep.raw (q1 12)) Rep.unit))))) (r' := (Rep.iso (fun s : Responder_ => (s.Own, s.Queue, s.Memory, ())) (Rep.prod (Rep.int .u8) (Rep.prod (Rep.slice Message_.rep) (Rep.prod (Rep.raw (q1 12)) Rep.unit))))) (x' := d1) h62 .z PA.z (Chg.id (by rfl)) (Ty.like ty29 (by rfl) (by rfl)) rfl rfl rfl (V.at .z) (.inr rfl) (fun w21 h63 => ?_))
      refine op (OpS.as rfl rfl rfl ?_)
      refine op (OpS.as rfl rfl rfl ?_)
      refine RunL.nil ?_
      refine Run.slim [(10, .int .i64 0), (9, u14), (8, u2)] ⟨rfl, rfl, rfl, trivial⟩ ?_
      have h65 := (h63.pick (.s (.s .z))).freeze
      have h66 := h65.pick .z
      have h67 := St.boxJ (r' := Responder_.rep) (x' := { d1 with Memory := x5 }) h66 (fun _ _ hs_ => (Jn.iso _ (Jn.prod Jn.refl (Jn.prod Jn.refl (Jn.prod (Jn.raw ((V.at .z) _ _ hs_) rfl) Jn.refl)))))
      have h68 := h67.pick (.s .z)
      have h69 := St.boxJ (r' := Responder_.rep) (x' := { d1 with Memory := x5 }) h68 (fun _ _ hs_ => (Jn.iso _ (Jn.prod Jn.refl (Jn.prod Jn.refl (Jn.prod (Jn.raw ((V.at .z) _ _ hs_) rfl) Jn.refl)))))
      obtain ⟨u25, hu5, h64⟩ := res_box h69 (.s .z) ty29
      refine Run.retP rfl (.cell rfl hu5 (.tmp rfl (.tmp rfl .nil))) ?_
      cases hF
      exact Post.mk' ⟨u25, u14, rfl, rfl, rfl, rfl⟩ (h64.picks .nil) (.val (V.at .z) (.val (V.at (.s (.s (.s (.s (.s (.s (.s (.s (.s (.s (.s (.s (.s (.s .z))))))))))))))) .nil))
  ·
   refine RunL.caseb hF (fun e16 hF => ?_) (fun e16 hF => ?_)
   ·
    refine op (OpS.pass rfl rfl rfl ?_)
    refine op (OpS.pass rfl rfl rfl ?_)
    refine op (OpS.pick rfl rfl rfl rfl ?_)
    refine op (OpS.as rfl rfl rfl ?_)
    refine RunL.nil ?_
    refine Run.slim [(19, .bool true), (8, u2), (4, u1), (1, .int .u8 a1), (2, v2), (3, .int .i64 a3)] ⟨rfl, rfl, rfl, rfl, rfl, rfl, trivial⟩ ?_
    refine Run.slim [(1, .int .u8 a1), (2, v2), (3, .int .i64 a3), (4, u1), (8, u2), (19, .bool true)] ⟨rfl, rfl, rfl, rfl, rfl, rfl, trivial⟩ ?_
    exact hj1 (true) _ _ ⟨rfl, (h5.facts (.atm (.s (.s .z)) .nil)).picks (.cons (.s .z) (.cons .z .nil))⟩ hF
   ·
    refine op (OpS.mv rfl rfl rfl ?_)
    refine op (OpS.bin rfl rfl rfl rfl rfl ?_)
    refine op (OpS.pick rfl rfl rfl rfl ?_)
    refine op (OpS.as rfl rfl rfl ?_)
    obtain ⟨x7, e17, hF⟩ := letP_use hF
    refine RunL.nameb e17 ?_
    refine RunL.nil ?_
    refine Run.slim [(19, .bool x7), (8, u2), (4, u1), (1, .int .u8 a1), (2, v2), (3, .int .i64 a3)] ⟨rfl, rfl, rfl, rfl, rfl, rfl, trivial⟩ ?_
    refine Run.slim [(1, .int .u8 a1), (2, v2), (3, .int .i64 a3), (4, u1), (8, u2), (19, .bool x7)] ⟨rfl, rfl, rfl, rfl, rfl, rfl, trivial⟩ ?_
    exact hj1 (x7) _ _ ⟨rfl, (h5.facts (.atm (.s (.s .z)) .nil)).picks (.cons (.s .z) (.cons .z .nil))⟩ hF
set_option maxHeartbeats 8000000 in
theorem law25_awake_ok {fuel : Nat}  {y : Bool} (hF : law25_awake fuel  = some y) {w : World} :
  Spec Try.prog 8 [].toArray w [] [] (fun v Γr Ωr Ωo => v = .bool y ∧ Γr = [] ∧ Ωr = [] ∧ Ωo = []) := by
 refine Spec.of (L := []) Try.func8 rfl trivial rfl (fun e h => ?_)
 unfold law25_awake at hF
 refine Run.seq ?_
 refine Run.reg ?_
 refine op (OpS.as rfl rfl rfl ?_)
 refine RunL.nil ?_
 refine Run.slim [] trivial ?_
 refine Run.seq ?_
 refine Run.reg ?_
 obtain ⟨y1, e1, hF⟩ := bindP_use hF
 refine op (OpS.callP h Try.func10 rfl rfl rfl rfl (vs := [.int .u8 32]) rfl (responder_New_ok e1) .nil ?_)
 rintro _ w1 _ _ _ ⟨u1, rfl, rfl, rfl, rfl⟩ h1
 have h2 := h1 rfl rfl
 simp only [List.cons_append, List.nil_append] at h2
 refine op (OpS.mv rfl rfl rfl ?_)
 refine op (OpS.ext rfl rfl rfl rfl ?_)
 refine op (OpS.ext rfl rfl rfl rfl ?_)
 refine op (OpS.alloc h2 ti29 Responder_.zr rfl rfl (fun u2 w2 h3 => ?_))
 refine op (OpS.storeB (f' := true) h3 .z PA.z Put.id ty29 rfl rfl rfl (V.at .z) (.inl rfl) (fun w3 h4 => ?_))
 refine op (OpS.as rfl rfl rfl ?_)
 refine RunL.nil ?_
 refine Run.slim [(2, .int .i64 y1.2), (1, u2)] ⟨rfl, rfl, trivial⟩ ?_
 refine Run.seq ?_
 refine Run.reg ?_
 refine op (OpS.build (f := true) (x' := (⟨32, 64, 6, 1, 0, 0, 0, 0, []⟩ : Message_)) h4 pl37 ti37 Message_.zr rfl rfl rfl (.cons rfl Message_.f0 rfl V.int (.cons rfl Message_.f1 rfl V.int (.cons rfl Message_.f2 rfl V.int (.cons rfl Message_.f3 rfl V.int .nil)))) (fun u3 h5 => ?_))
 obtain ⟨y2, e2, hF⟩ := bindP_use hF
 refine op (OpS.callP h5 Try.func13 rfl rfl rfl rfl (vs := [u3]) rfl (message_Request_ok e2) (.cons (f := true) (V.at .z) .nil) ?_)
 rintro _ w4 _ _ _ ⟨u4, rfl, rfl, rfl, rfl⟩ h6
 have h7 := h6 rfl rfl
 simp only [List.cons_append, List.nil_append] at h7
 refine op (OpS.mv rfl rfl rfl ?_)
 refine op (OpS.ext rfl rfl rfl rfl ?_)
 refine op (OpS.ext rfl rfl rfl rfl ?_)
 refine op (OpS.as rfl rfl rfl ?_)
 have h8 := (h7.pick .z).freeze
 refine op (OpS.as rfl rfl rfl ?_)
 refine RunL.nil ?_
 refine Run.slim [(4, .int .i64 y2.2), (3, u4), (2, .int .i64 y1.2), (1, u2)] ⟨rfl, rfl, rfl, rfl, trivial⟩ ?_
 refine Run.seq ?_
 refine Run.reg ?_
 refine op (OpS.loadB h8 .z PA.z Get.id ty29 rfl rfl rfl (fun u5 h9 => ?_))
 refine op (OpS.mv rfl rfl rfl ?_)
 obtain ⟨y3, e3, hF⟩ := bindP_use hF
 have h10 := h9.front .nil
 refine op (OpS.callO h10 Try.func14 rfl rfl rfl rfl (vs := [u5, u4, .int .i64 0]) rfl (responder_Accept_ok e3) rfl (.cons (f := true) (V.at .z) (.cons (f := true) (V.at (.s .z)) .nil)) ?_)
 rintro _ w5 _ _ _ ⟨u6, u7, rfl, rfl, rfl, rfl⟩ h11
 have h12 := h11
 simp only [List.cons_append, List.nil_append] at h12
 refine op (OpS.mv rfl rfl rfl ?_)
 refine op (OpS.ext rfl rfl rfl rfl ?_)
 refine op (OpS.ext rfl rfl rfl rfl ?_)
 refine op (OpS.ext rfl rfl rfl rfl ?_)
 have h13 := (h12.pick .z).weak
 refine op (OpS.storeB (f' := false) h13 .z PA.z Put.id ty29 rfl rfl rfl (V.at .z) (.inr rfl) (fun w6 h14 => ?_))
 refine op (OpS.as rfl rfl rfl ?_)
 refine op (OpS.as rfl rfl rfl ?_)
 refine RunL.nil ?_
 refine Run.slim [(6, .int .i64 y3.2.2), (5, u7), (4, .int .i64 y2.2), (3, u4), (2, .int .i64 y1.2), (1, u2)] ⟨rfl, rfl, rfl, rfl, rfl, rfl, trivial⟩ ?_
 refine Run.seq ?_
 refine Run.reg ?_
 refine op (OpS.loadB h14 .z PA.z Get.id ty29 rfl rfl rfl (fun u8 h15 => ?_))
 refine op (OpS.mv rfl rfl rfl ?_)
 obtain ⟨y4, e4, hF⟩ := bindP_use hF
 have h16 := h15.front .nil
 refine op (OpS.callO h16 Try.func14 rfl rfl rfl rfl (vs := [u8, u4, .int .i64 1]) rfl (responder_Accept_ok e4) rfl (.cons (f := false) (V.at .z) (.cons (f := true) (V.at (.s (.s (.s (.s .z))))) .nil)) ?_)
 rintro _ w7 _ _ _ ⟨u9, u10, rfl, rfl, rfl, rfl⟩ h17
 have h18 := h17
 simp only [List.cons_append, List.nil_append] at h18
 refine op (OpS.mv rfl rfl rfl ?_)
 refine op (OpS.ext rfl rfl rfl rfl ?_)
 refine op (OpS.ext rfl rfl rfl rfl ?_)
 refine op (OpS.ext rfl rfl rfl rfl ?_)
 refine op (OpS.storeB (f' := false) h18 .z PA.z Put.id ty29 rfl rfl rfl (V.at .z) (.inr rfl) (fun w8 h19 => ?_))
 refine op (OpS.as rfl rfl rfl ?_)
 refine op (OpS.as rfl rfl rfl ?_)
 refine RunL.nil ?_
 refine Run.slim [(8, .int .i64 y4.2.2), (7, u10), (6, .int .i64 y3.2.2), (5, u7), (4, .int .i64 y2.2), (3, u4), (2, .int .i64 y1.2), (1, u2)] ⟨rfl, rfl, rfl, rfl, rfl, rfl, rfl, rfl, trivial⟩ ?_
 refine Run.seq ?_
 refine Run.reg ?_
 refine op (OpS.loadB h19 .z PA.z Get.id ty29 rfl rfl rfl (fun u11 h20 => ?_))
 refine op (OpS.lit (r := (Rep.int .u8)) (f := true) h20 Try.underlying22 ti5 rfl rfl rfl rfl rfl (.cons rfl V.int .nil) rfl rfl (fun u12 w9 h21 => ?_))
 obtain ⟨y5, e5, hF⟩ := bindP_use hF
 have h22 := h21.front .nil
 refine op (OpS.callO h22 Try.func17 rfl rfl rfl rfl (vs := [u11, .int .u8 0, u12, .int .i64 2]) rfl (responder_Done_ok e5) rfl (.cons (f := false) (V.at (.s .z)) (.cons (f := true) (V.at .z) .nil)) ?_)
 rintro _ w10 _ _ _ ⟨u13, u14, rfl, rfl, rfl, rfl⟩ h23
 have h24 := h23
 simp only [List.cons_append, List.nil_append] at h24
 refine op (OpS.mv rfl rfl rfl ?_)
 refine op (OpS.ext rfl rfl rfl rfl ?_)
 refine op (OpS.ext rfl rfl rfl rfl ?_)
 refine op (OpS.ext rfl rfl rfl rfl ?_)
 refine op (OpS.storeB (f' := false) h24 .z PA.z Put.id ty29 rfl rfl rfl (V.at .z) (.inr rfl) (fun w11 h25 => ?_))
 refine op (OpS.as rfl rfl rfl ?_)
 refine op (OpS.as rfl rfl rfl ?_)
 refine RunL.nil ?_
 refine Run.slim [(10, .int .i64 y5.2.2), (9, u14), (8, .int .i64 y4.2.2), (7, u10), (6, .int .i64 y3.2.2), (5, u7), (4, .int .i64 y2.2), (3, u4), (2, .int .i64 y1.2), (1, u2)] ⟨rfl, rfl, rfl, rfl, rfl, rfl, rfl, rfl, rfl, rfl, trivial⟩ ?_
 refine Run.seq ?_
 refine Run.reg ?_
 refine op (OpS.loadB h25 .z PA.z Get.id ty29 rfl rfl rfl (fun u15 h26 => ?_))
 refine op (OpS.mv rfl rfl rfl ?_)
 obtain ⟨y6, e6, hF⟩ := bindP_use hF
 have h27 := h26.front .nil
 refine op (OpS.callO h27 Try.func14 rfl rfl rfl rfl (vs := [u15, u4, .int .i64 50]) rfl (responder_Accept_ok e6) rfl (.cons (f := false) (V.at .z) (.cons (f := true) (V.at (.s (.s (.s (.s (.s (.s (.s (.s (.s (.s (.s .z)))))))))))) .nil)) ?_)
 rintro _ w12 _ _ _ ⟨u16, u17, rfl, rfl, rfl, rfl⟩ h28
 have h29 := h28
 simp only [List.cons_append, List.nil_append] at h29
 refine op (OpS.mv rfl rfl rfl ?_)
 refine op (OpS.ext rfl rfl rfl rfl ?_)
 refine op (OpS.ext rfl rfl rfl rfl ?_)
 refine op (OpS.ext rfl rfl rfl rfl ?_)
 refine op (OpS.alloc h29 ti29 Responder_.zr rfl rfl (fun u18 w13 h30 => ?_))
 have h31 := (h30.pick .z).weak
 refine op (OpS.storeB (f' := false) h31 .z PA.z Put.id ty29 rfl rfl rfl (V.at .z) (.inr rfl) (fun w14 h32 => ?_))
 refine op (OpS.as rfl rfl rfl ?_)
 refine op (OpS.as rfl rfl rfl ?_)
 refine RunL.nil ?_
 refine Run.slim [(13, .int .i64 y6.2.2), (12, u17), (10, .int .i64 y5.2.2), (9, u14), (8, .int .i64 y4.2.2), (7, u10), (6, .int .i64 y3.2.2), (5, u7), (4, .int .i64 y2.2), (2, .int .i64 y1.2)] ⟨rfl, rfl, rfl, rfl, rfl, rfl, rfl, rfl, rfl, rfl, trivial⟩ ?_
 refine Run.seq ?_
 refine Run.reg ?_
 refine op (OpS.mv rfl rfl rfl ?_)
 refine op (OpS.bin rfl rfl rfl rfl rfl ?_)
 refine op (OpS.mv rfl rfl rfl ?_)
 refine RunL.caseb hF (fun e7 hF => ?_) (fun e7 hF => ?_)
 ·
  refine op (OpS.mv rfl rfl rfl ?_)
  refine op (OpS.bin rfl rfl rfl rfl rfl ?_)
  refine op (OpS.pick rfl rfl rfl rfl ?_)
  refine op (OpS.mv rfl rfl rfl ?_)
  refine RunL.caseb hF (fun e8 hF => ?_) (fun e8 hF => ?_)
  ·
   refine op (OpS.mv rfl rfl rfl ?_)
   refine op (OpS.bin rfl rfl rfl rfl rfl ?_)
   refine op (OpS.pick rfl rfl rfl rfl ?_)
   refine op (OpS.mv rfl rfl rfl ?_)
   refine RunL.caseb hF (fun e9 hF => ?_) (fun e9 hF => ?_)
   ·
    refine op (OpS.mv rfl rfl rfl ?_)
    refine op (OpS.bin rfl rfl rfl rfl rfl ?_)
    refine op (OpS.pick rfl rfl rfl rfl ?_)
    refine op (OpS.mv rfl rfl rfl ?_)
    refine RunL.caseb hF (fun e10 hF => ?_) (fun e10 hF => ?_)
    ·
     refine op (OpS.mv rfl rfl rfl ?_)
     refine op (OpS.bin rfl rfl rfl rfl rfl ?_)
     refine op (OpS.pick rfl rfl rfl rfl ?_)
     refine op (OpS.mv rfl rfl rfl ?_)
     refine RunL.caseb hF (fun e11 hF => ?_) (fun e11 hF => ?_)
     ·
      refine op (OpS.mv rfl rfl rfl ?_)
      refine op (OpS.bin rfl rfl rfl rfl rfl ?_)
      refine op (OpS.pick rfl rfl rfl rfl ?_)
      refine op (OpS.mv rfl rfl rfl ?_)
      refine RunL.caseb hF (fun e12 hF => ?_) (fun e12 hF => ?_)
      ·
       refine op (OpS.mv rfl rfl rfl ?_)
       refine op (OpS.len h32 Try.underlying22 rfl rfl rfl (V.at (.s (.s (.s (.s (.s (.s (.s (.s (.s (.s (.s .z)))))))))))) ?_)
       refine op (OpS.bin rfl rfl rfl rfl rfl ?_)
       refine op (OpS.pick rfl rfl rfl rfl ?_)
       refine op (OpS.mv rfl rfl rfl ?_)
       refine RunL.caseb hF (fun e13 hF => ?_) (fun e13 hF => ?_)
       ·
        refine op (OpS.mv rfl rfl rfl ?_)
        refine op (OpS.len h32 Try.underlying22 rfl rfl rfl (V.at (.s (.s (.s (.s (.s (.s (.s (.s .z))))))))) ?_)
        refine op (OpS.bin rfl rfl rfl rfl rfl ?_)
        refine op (OpS.pick rfl rfl rfl rfl ?_)
        refine op (OpS.mv rfl rfl rfl ?_)
        refine RunL.caseb hF (fun e14 hF => ?_) (fun e14 hF => ?_)
        ·
         refine op (OpS.mv rfl rfl rfl ?_)
         refine op (OpS.len h32 Try.underlying22 rfl rfl rfl (V.at (.s (.s (.s (.s .z))))) ?_)
         refine op (OpS.bin rfl rfl rfl rfl rfl ?_)
         refine op (OpS.pick rfl rfl rfl rfl ?_)
         refine op (OpS.mv rfl rfl rfl ?_)
         refine RunL.caseb hF (fun e15 hF => ?_) (fun e15 hF => ?_)
         ·
          refine op (OpS.mv rfl rfl rfl ?_)
          refine op (OpS.toStr h32 Try.underlying22 Try.underlying5 Try.underlying9 rfl rfl rfl (V.at (.s (.s (.s (.s .z))))) (fun u19 h33 => ?_))
          refine op (OpS.mv rfl rfl rfl ?_)
          refine op (OpS.toStr h33 Try.underlying22 Try.underlying5 Try.underlying9 rfl rfl rfl (V.at (.s (.s .z))) (fun u20 h34 => ?_))
          refine op (OpS.eqs h34 rfl rfl rfl rfl (V.at (.s .z)) (V.at .z) Try.underlying9 ?_)
          refine op (OpS.pick rfl rfl rfl rfl ?_)
          refine op (OpS.as rfl rfl rfl ?_)
          obtain ⟨x1, e16, hF⟩ := letP_use hF
          refine RunL.nameb e16 ?_
          refine RunL.nil ?_
          refine Run.slim [(0, .bool x1)] ⟨rfl, trivial⟩ ?_
          refine Run.retP rfl (.tmp rfl .nil) ?_
          cases hF
          exact Post.mk' ⟨rfl, rfl, rfl, rfl⟩ (h34.picks .nil) .nil
         ·
          refine op (OpS.pass rfl rfl rfl ?_)
          refine op (OpS.pass rfl rfl rfl ?_)
          refine op (OpS.pass rfl rfl rfl ?_)
          refine op (OpS.pass rfl rfl rfl ?_)
          refine op (OpS.pass rfl rfl rfl ?_)
          refine op (OpS.pick rfl rfl rfl rfl ?_)
          refine op (OpS.as rfl rfl rfl ?_)
          refine RunL.nil ?_
          refine Run.slim [(0, .bool false)] ⟨rfl, trivial⟩ ?_
          refine Run.retP rfl (.tmp rfl .nil) ?_
          cases hF
          exact Post.mk' ⟨rfl, rfl, rfl, rfl⟩ (h32.picks .nil) .nil
        ·
         refine op (OpS.pass rfl rfl rfl ?_)
         refine op (OpS.pass rfl rfl rfl ?_)
         refine op (OpS.pass rfl rfl rfl ?_)
         refine op (OpS.pick rfl rfl rfl rfl ?_)
         refine op (OpS.mv rfl rfl rfl ?_)
         refine op (OpS.pass rfl rfl rfl ?_)
         refine op (OpS.pass rfl rfl rfl ?_)
         refine op (OpS.pass rfl rfl rfl ?_)
         refine op (OpS.pass rfl rfl rfl ?_)
         refine op (OpS.pass rfl rfl rfl ?_)
         refine op (OpS.pick rfl rfl rfl rfl ?_)
         refine op (OpS.as rfl rfl rfl ?_)
         refine RunL.nil ?_
         refine Run.slim [(0, .bool false)] ⟨rfl, trivial⟩ ?_
         refine Run.retP rfl (.tmp rfl .nil) ?_
         cases hF
         exact Post.mk' ⟨rfl, rfl, rfl, rfl⟩ (h32.picks .nil) .nil
       ·
        refine op (OpS.pass rfl rfl rfl ?_)
        refine op (OpS.pass rfl rfl rfl ?_)
        refine op (OpS.pass rfl rfl rfl ?_)
        refine op (OpS.pick rfl rfl rfl rfl ?_)
        refine op (OpS.mv rfl rfl rfl ?_)
        refine op (OpS.pass rfl rfl rfl ?_)
        refine op (OpS.pass rfl rfl rfl ?_)
        refine op (OpS.pass rfl rfl rfl ?_)
        refine op (OpS.pick rfl rfl rfl rfl ?_)
        refine op (OpS.mv rfl rfl rfl ?_)
        refine op (OpS.pass rfl rfl rfl ?_)
        refine op (OpS.pass rfl rfl rfl ?_)
        refine op (OpS.pass rfl rfl rfl ?_)
        refine op (OpS.pass rfl rfl rfl ?_)
        refine op (OpS.pass rfl rfl rfl ?_)
        refine op (OpS.pick rfl rfl rfl rfl ?_)
        refine op (OpS.as rfl rfl rfl ?_)
        refine RunL.nil ?_
        refine Run.slim [(0, .bool false)] ⟨rfl, trivial⟩ ?_
        refine Run.retP rfl (.tmp rfl .nil) ?_
        cases hF
        exact Post.mk' ⟨rfl, rfl, rfl, rfl⟩ (h32.picks .nil) .nil
      ·
       refine op (OpS.pass rfl rfl rfl ?_)
       refine op (OpS.pass rfl rfl rfl ?_)
       refine op (OpS.pass rfl rfl rfl ?_)
       refine op (OpS.pick rfl rfl rfl rfl ?_)
       refine op (OpS.mv rfl rfl rfl ?_)
       refine op (OpS.pass rfl rfl rfl ?_)
       refine op (OpS.pass rfl rfl rfl ?_)
       refine op (OpS.pass rfl rfl rfl ?_)
       refine op (OpS.pick rfl rfl rfl rfl ?_)
       refine op (OpS.mv rfl rfl rfl ?_)
       refine op (OpS.pass rfl rfl rfl ?_)
       refine op (OpS.pass rfl rfl rfl ?_)
       refine op (OpS.pass rfl rfl rfl ?_)
       refine op (OpS.pick rfl rfl rfl rfl ?_)
       refine op (OpS.mv rfl rfl rfl ?_)
       refine op (OpS.pass rfl rfl rfl ?_)
       refine op (OpS.pass rfl rfl rfl ?_)
       refine op (OpS.pass rfl rfl rfl ?_)
       refine op (OpS.pass rfl rfl rfl ?_)
       refine op (OpS.pass rfl rfl rfl ?_)
       refine op (OpS.pick rfl rfl rfl rfl ?_)
       refine op (OpS.as rfl rfl rfl ?_)
       refine RunL.nil ?_
       refine Run.slim [(0, .bool false)] ⟨rfl, trivial⟩ ?_
       refine Run.retP rfl (.tmp rfl .nil) ?_
       cases hF
       exact Post.mk' ⟨rfl, rfl, rfl, rfl⟩ (h32.picks .nil) .nil
     ·
      refine op (OpS.pass rfl rfl rfl ?_)
      refine op (OpS.pass rfl rfl rfl ?_)
      refine op (OpS.pick rfl rfl rfl rfl ?_)
      refine op (OpS.mv rfl rfl rfl ?_)
      refine op (OpS.pass rfl rfl rfl ?_)
      refine op (OpS.pass rfl rfl rfl ?_)
      refine op (OpS.pass rfl rfl rfl ?_)
      refine op (OpS.pick rfl rfl rfl rfl ?_)
      refine op (OpS.mv rfl rfl rfl ?_)
      refine op (OpS.pass rfl rfl rfl ?_)
      refine op (OpS.pass rfl rfl rfl ?_)
      refine op (OpS.pass rfl rfl rfl ?_)
      refine op (OpS.pick rfl rfl rfl rfl ?_)
      refine op (OpS.mv rfl rfl rfl ?_)
      refine op (OpS.pass rfl rfl rfl ?_)
      refine op (OpS.pass rfl rfl rfl ?_)
      refine op (OpS.pass rfl rfl rfl ?_)
      refine op (OpS.pick rfl rfl rfl rfl ?_)
      refine op (OpS.mv rfl rfl rfl ?_)
      refine op (OpS.pass rfl rfl rfl ?_)
      refine op (OpS.pass rfl rfl rfl ?_)
      refine op (OpS.pass rfl rfl rfl ?_)
      refine op (OpS.pass rfl rfl rfl ?_)
      refine op (OpS.pass rfl rfl rfl ?_)
      refine op (OpS.pick rfl rfl rfl rfl ?_)
      refine op (OpS.as rfl rfl rfl ?_)
      refine RunL.nil ?_
      refine Run.slim [(0, .bool false)] ⟨rfl, trivial⟩ ?_
      refine Run.retP rfl (.tmp rfl .nil) ?_
      cases hF
      exact Post.mk' ⟨rfl, rfl, rfl, rfl⟩ (h32.picks .nil) .nil
    ·
     refine op (OpS.pass rfl rfl rfl ?_)
     refine op (OpS.pass rfl rfl rfl ?_)
     refine op (OpS.pick rfl rfl rfl rfl ?_)
     refine op (OpS.mv rfl rfl rfl ?_)
     refine op (OpS.pass rfl rfl rfl ?_)
     refine op (OpS.pass rfl rfl rfl ?_)
     refine op (OpS.pick rfl rfl rfl rfl ?_)
     refine op (OpS.mv rfl rfl rfl ?_)
     refine op (OpS.pass rfl rfl rfl ?_)
     refine op (OpS.pass rfl rfl rfl ?_)
     refine op (OpS.pass rfl rfl rfl ?_)
     refine op (OpS.pick rfl rfl rfl rfl ?_)
     refine op (OpS.mv rfl rfl rfl ?_)
     refine op (OpS.pass rfl rfl rfl ?_)
     refine op (OpS.pass rfl rfl rfl ?_)
     refine op (OpS.pass rfl rfl rfl ?_)
     refine op (OpS.pick rfl rfl rfl rfl ?_)
     refine op (OpS.mv rfl rfl rfl ?_)
     refine op (OpS.pass rfl rfl rfl ?_)
     refine op (OpS.pass rfl rfl rfl ?_)
     refine op (OpS.pass rfl rfl rfl ?_)
     refine op (OpS.pick rfl rfl rfl rfl ?_)
     refine op (OpS.mv rfl rfl rfl ?_)
     refine op (OpS.pass rfl rfl rfl ?_)
     refine op (OpS.pass rfl rfl rfl ?_)
     refine op (OpS.pass rfl rfl rfl ?_)
     refine op (OpS.pass rfl rfl rfl ?_)
     refine op (OpS.pass rfl rfl rfl ?_)
     refine op (OpS.pick rfl rfl rfl rfl ?_)
     refine op (OpS.as rfl rfl rfl ?_)
     refine RunL.nil ?_
     refine Run.slim [(0, .bool false)] ⟨rfl, trivial⟩ ?_
     refine Run.retP rfl (.tmp rfl .nil) ?_
     cases hF
     exact Post.mk' ⟨rfl, rfl, rfl, rfl⟩ (h32.picks .nil) .nil
   ·
    refine op (OpS.pass rfl rfl rfl ?_)
    refine op (OpS.pass rfl rfl rfl ?_)
    refine op (OpS.pick rfl rfl rfl rfl ?_)
    refine op (OpS.mv rfl rfl rfl ?_)
    refine op (OpS.pass rfl rfl rfl ?_)
    refine op (OpS.pass rfl rfl rfl ?_)
    refine op (OpS.pick rfl rfl rfl rfl ?_)
    refine op (OpS.mv rfl rfl rfl ?_)
    refine op (OpS.pass rfl rfl rfl ?_)
    refine op (OpS.pass rfl rfl rfl ?_)
    refine op (OpS.pick rfl rfl rfl rfl ?_)
    refine op (OpS.mv rfl rfl rfl ?_)
    refine op (OpS.pass rfl rfl rfl ?_)
    refine op (OpS.pass rfl rfl rfl ?_)
    refine op (OpS.pass rfl rfl rfl ?_)
    refine op (OpS.pick rfl rfl rfl rfl ?_)
    refine op (OpS.mv rfl rfl rfl ?_)
    refine op (OpS.pass rfl rfl rfl ?_)
    refine op (OpS.pass rfl rfl rfl ?_)
    refine op (OpS.pass rfl rfl rfl ?_)
    refine op (OpS.pick rfl rfl rfl rfl ?_)
    refine op (OpS.mv rfl rfl rfl ?_)
    refine op (OpS.pass rfl rfl rfl ?_)
    refine op (OpS.pass rfl rfl rfl ?_)
    refine op (OpS.pass rfl rfl rfl ?_)
    refine op (OpS.pick rfl rfl rfl rfl ?_)
    refine op (OpS.mv rfl rfl rfl ?_)
    refine op (OpS.pass rfl rfl rfl ?_)
    refine op (OpS.pass rfl rfl rfl ?_)
    refine op (OpS.pass rfl rfl rfl ?_)
    refine op (OpS.pass rfl rfl rfl ?_)
    refine op (OpS.pass rfl rfl rfl ?_)
    refine op (OpS.pick rfl rfl rfl rfl ?_)
    refine op (OpS.as rfl rfl rfl ?_)
    refine RunL.nil ?_
    refine Run.slim [(0, .bool false)] ⟨rfl, trivial⟩ ?_
    refine Run.retP rfl (.tmp rfl .nil) ?_
    cases hF
    exact Post.mk' ⟨rfl, rfl, rfl, rfl⟩ (h32.picks .nil) .nil
  ·
   refine op (OpS.pass rfl rfl rfl ?_)
   refine op (OpS.pass rfl rfl rfl ?_)
   refine op (OpS.pick rfl rfl rfl rfl ?_)
   refine op (OpS.mv rfl rfl rfl ?_)
   refine op (OpS.pass rfl rfl rfl ?_)
   refine op (OpS.pass rfl rfl rfl ?_)
   refine op (OpS.pick rfl rfl rfl rfl ?_)
   refine op (OpS.mv rfl rfl rfl ?_)
   refine op (OpS.pass rfl rfl rfl ?_)
   refine op (OpS.pass rfl rfl rfl ?_)
   refine op (OpS.pick rfl rfl rfl rfl ?_)
   refine op (OpS.mv rfl rfl rfl ?_)
   refine op (OpS.pass rfl rfl rfl ?_)
   refine op (OpS.pass rfl rfl rfl ?_)
   refine op (OpS.pick rfl rfl rfl rfl ?_)
   refine op (OpS.mv rfl rfl rfl ?_)
   refine op (OpS.pass rfl rfl rfl ?_)
   refine op (OpS.pass rfl rfl rfl ?_)
   refine op (OpS.pass rfl rfl rfl ?_)
   refine op (OpS.pick rfl rfl rfl rfl ?_)
   refine op (OpS.mv rfl rfl rfl ?_)
   refine op (OpS.pass rfl rfl rfl ?_)
   refine op (OpS.pass rfl rfl rfl ?_)
   refine op (OpS.pass rfl rfl rfl ?_)
   refine op (OpS.pick rfl rfl rfl rfl ?_)
   refine op (OpS.mv rfl rfl rfl ?_)
   refine op (OpS.pass rfl rfl rfl ?_)
   refine op (OpS.pass rfl rfl rfl ?_)
   refine op (OpS.pass rfl rfl rfl ?_)
   refine op (OpS.pick rfl rfl rfl rfl ?_)
   refine op (OpS.mv rfl rfl rfl ?_)
   refine op (OpS.pass rfl rfl rfl ?_)
   refine op (OpS.pass rfl rfl rfl ?_)
   refine op (OpS.pass rfl rfl rfl ?_)
   refine op (OpS.pass rfl rfl rfl ?_)
   refine op (OpS.pass rfl rfl rfl ?_)
   refine op (OpS.pick rfl rfl rfl rfl ?_)
   refine op (OpS.as rfl rfl rfl ?_)
   refine RunL.nil ?_
   refine Run.slim [(0, .bool false)] ⟨rfl, trivial⟩ ?_
   refine Run.retP rfl (.tmp rfl .nil) ?_
   cases hF
   exact Post.mk' ⟨rfl, rfl, rfl, rfl⟩ (h32.picks .nil) .nil
 ·
  refine op (OpS.pass rfl rfl rfl ?_)
  refine op (OpS.pass rfl rfl rfl ?_)
  refine op (OpS.pick rfl rfl rfl rfl ?_)
  refine op (OpS.mv rfl rfl rfl ?_)
  refine op (OpS.pass rfl rfl rfl ?_)
  refine op (OpS.pass rfl rfl rfl ?_)
  refine op (OpS.pick rfl rfl rfl rfl ?_)
  refine op (OpS.mv rfl rfl rfl ?_)
  refine op (OpS.pass rfl rfl rfl ?_)
  refine op (OpS.pass rfl rfl rfl ?_)
  refine op (OpS.pick rfl rfl rfl rfl ?_)
  refine op (OpS.mv rfl rfl rfl ?_)
  refine op (OpS.pass rfl rfl rfl ?_)
  refine op (OpS.pass rfl rfl rfl ?_)
  refine op (OpS.pick rfl rfl rfl rfl ?_)
  refine op (OpS.mv rfl rfl rfl ?_)
  refine op (OpS.pass rfl rfl rfl ?_)
  refine op (OpS.pass rfl rfl rfl ?_)
  refine op (OpS.pick rfl rfl rfl rfl ?_)
  refine op (OpS.mv rfl rfl rfl ?_)
  refine op (OpS.pass rfl rfl rfl ?_)
  refine op (OpS.pass rfl rfl rfl ?_)
  refine op (OpS.pass rfl rfl rfl ?_)
  refine op (OpS.pick rfl rfl rfl rfl ?_)
  refine op (OpS.mv rfl rfl rfl ?_)
  refine op (OpS.pass rfl rfl rfl ?_)
  refine op (OpS.pass rfl rfl rfl ?_)
  refine op (OpS.pass rfl rfl rfl ?_)
  refine op (OpS.pick rfl rfl rfl rfl ?_)
  refine op (OpS.mv rfl rfl rfl ?_)
  refine op (OpS.pass rfl rfl rfl ?_)
  refine op (OpS.pass rfl rfl rfl ?_)
  refine op (OpS.pass rfl rfl rfl ?_)
  refine op (OpS.pick rfl rfl rfl rfl ?_)
  refine op (OpS.mv rfl rfl rfl ?_)
  refine op (OpS.pass rfl rfl rfl ?_)
  refine op (OpS.pass rfl rfl rfl ?_)
  refine op (OpS.pass rfl rfl rfl ?_)
  refine op (OpS.pass rfl rfl rfl ?_)
  refine op (OpS.pass rfl rfl rfl ?_)
  refine op (OpS.pick rfl rfl rfl rfl ?_)
  refine op (OpS.as rfl rfl rfl ?_)
  refine RunL.nil ?_
  refine Run.slim [(0, .bool false)] ⟨rfl, trivial⟩ ?_
  refine Run.retP rfl (.tmp rfl .nil) ?_
  cases hF
  exact Post.mk' ⟨rfl, rfl, rfl, rfl⟩ (h32.picks .nil) .nil
theorem responder_Next_ok {fuel : Nat} {a0 : Responder_} {y : Message_ × Bool} (hF : responder_Next fuel a0 = some y) {w : World} {v0 : Value} :
  Spec Try.prog 16 [v0].toArray w [(false, .val Responder_.rep v0 a0)] [] (fun v Γr Ωr Ωo => ∃ u0 : Value, v = .tuple #[u0, .bool y.2] ∧ Γr = [(true, .val Message_.rep u0 y.1)] ∧ Ωr = [] ∧ Ωo = []) := by
 refine Spec.of (L := [(0, v0)]) Try.func16 rfl ⟨rfl, trivial⟩ rfl (fun e h => ?_)
 unfold responder_Next at hF
 refine Run.seq ?_
 refine Run.reg ?_
 refine op (OpS.boxF h rfl rfl rfl (V.at .z) (fun u1 w1 h1 => ?_))
 refine op (OpS.alloc h1 ti37 Message_.zr rfl rfl (fun u2 w2 h2 => ?_))
 refine op (OpS.as rfl rfl rfl ?_)
 refine RunL.nil ?_
 refine Run.slim [(2, u2), (1, u1)] ⟨rfl, rfl, trivial⟩ ?_
 refine Run.seq ?_
 refine Run.seq ?_
 refine Run.reg ?_
 refine op (OpS.loadB h2 (.s .z) PA.z Get.id ty29 rfl rfl rfl (fun u3 h3 => ?_))
 obtain ⟨y1, e1, hF⟩ := bindP_use hF
 refine op (OpS.callP h3 Try.func20 rfl rfl rfl rfl (vs := [u3]) rfl (responder_Valid_ok e1) (.cons (f := false) (V.at .z) .nil) ?_)
 rintro _ w3 _ _ _ ⟨rfl, rfl, rfl, rfl⟩ h4
 have h5 := h4 rfl rfl
 simp only [List.cons_append, List.nil_append] at h5
 refine op (OpS.not rfl rfl rfl ?_)
 refine op (OpS.mv rfl rfl rfl ?_)
 refine RunL.join (σ := Bool) (fun s_ L_ w_ => L_ = [(1, u1), (2, u2), (12, .bool s_)] ∧ St e w_ [] [(false, .box 29 Responder_.rep u1 a0), (true, .box 37 Message_.rep u2 Message_.z)]) hF (fun s1 _ w4 hI hF => ?_) (fun j1 hj1 hF => ?_)
 ·
  obtain ⟨rfl, h6⟩ := hI
  refine Run.ite rfl hF (fun e2 hF => ?_) (fun e2 hF => ?_)
  ·
   refine Run.seq ?_
   refine Run.reg ?_
   refine op (OpS.build (f := true) (x' := Message_.z) h6 pl37 ti37 Message_.zr rfl rfl rfl .nil (fun u4 h7 => ?_))
   refine op (OpS.storeB (f' := true) h7 (.s .z) PA.z Put.id ty37 rfl rfl rfl (V.at .z) (.inl rfl) (fun w5 h8 => ?_))
   refine op (OpS.as rfl rfl rfl ?_)
   refine RunL.nil ?_
   refine Run.slim [(3, .bool false), (2, u2)] ⟨rfl, rfl, trivial⟩ ?_
   obtain ⟨u5, hu1, h9⟩ := res_box h8 .z ty37
   refine Run.retP rfl (.cell rfl hu1 (.tmp rfl .nil)) ?_
   cases hF
   exact Post.mk' ⟨u5, rfl, rfl, rfl, rfl⟩ (h9.picks .nil) (.val (V.at .z) .nil)
  ·
   refine Run.skip ?_
   refine Run.seq ?_
   refine Run.reg ?_
   refine op (OpS.fbox (o3 := 1) h6 .z PA.z fa29_1 rfl rfl rfl rfl ?_)
   refine op (OpS.loadB h6 .z PA.a (Get.fld Responder_.f1) ty26 rfl rfl rfl (fun u6 h10 => ?_))
   obtain ⟨x1, e3, hF⟩ := bindP_use hF
   refine op (OpS.iptr h10 Try.underlying26 ty37 rfl rfl rfl rfl (V.at .z) e3 (fun u7 h11 => ?_))
   refine op (OpS.load h11 ty37 rfl rfl rfl .z (fun u8 h12 => ?_))
   obtain ⟨y2, e4, hF⟩ := bindP_use hF
   refine op (OpS.callP h12 Try.func44 rfl rfl rfl rfl (vs := [u8]) rfl (responder_copied_ok e4) (.cons (f := false) (V.at .z) .nil) ?_)
   rintro u9 w6 _ _ _ ⟨_, rfl, rfl, rfl, rfl⟩ h13
   have h14 := h13 rfl rfl
   simp only [List.cons_append, List.nil_append] at h14
   refine op (OpS.storeB (f' := true) h14 (.s .z) PA.z Put.id ty37 rfl rfl rfl (V.at .z) (.inl rfl) (fun w7 h15 => ?_))
   refine op (OpS.as rfl rfl rfl ?_)
   refine RunL.nil ?_
   refine Run.slim [(3, .bool true), (2, u2)] ⟨rfl, rfl, trivial⟩ ?_
   obtain ⟨u10, hu2, h16⟩ := res_box h15 .z ty37
   refine Run.retP rfl (.cell rfl hu2 (.tmp rfl .nil)) ?_
   cases hF
   exact Post.mk' ⟨u10, rfl, rfl, rfl, rfl⟩ (h16.picks .nil) (.val (V.at .z) .nil)
 ·
  refine RunL.caseb hF (fun e5 hF => ?_) (fun e5 hF => ?_)
  ·
   refine op (OpS.pass rfl rfl rfl ?_)
   refine op (OpS.pass rfl rfl rfl ?_)
   refine op (OpS.pass rfl rfl rfl ?_)
   refine op (OpS.pass rfl rfl rfl ?_)
   refine op (OpS.pick rfl rfl rfl rfl ?_)
   refine RunL.nil ?_
   refine Run.slim [(12, .bool true), (2, u2), (1, u1)] ⟨rfl, rfl, rfl, trivial⟩ ?_
   refine Run.slim [(1, u1), (2, u2), (12, .bool true)] ⟨rfl, rfl, rfl, trivial⟩ ?_
   exact hj1 (true) _ _ ⟨rfl, (h5.facts .nil).picks (.cons (.s .z) (.cons .z .nil))⟩ hF
  ·
   refine op (OpS.fbox (o3 := 1) h5 (.s .z) PA.z fa29_1 rfl rfl rfl rfl ?_)
   refine op (OpS.loadB h5 (.s .z) PA.a (Get.fld Responder_.f1) ty26 rfl rfl rfl (fun u11 h17 => ?_))
   refine op (OpS.len h17 Try.underlying26 rfl rfl rfl (V.at .z) ?_)
   refine op (OpS.bin rfl rfl rfl rfl rfl ?_)
   refine op (OpS.pick rfl rfl rfl rfl ?_)
   refine RunL.nil ?_
   refine Run.slim [(12, .bool ((a0.Queue.length : Int) == 0)), (2, u2), (1, u1)] ⟨rfl, rfl, rfl, trivial⟩ ?_
   refine Run.slim [(1, u1), (2, u2), (12, .bool ((a0.Queue.length : Int) == 0))] ⟨rfl, rfl, rfl, trivial⟩ ?_
   exact hj1 ((a0.Queue.length : Int) == 0) _ _ ⟨rfl, (h17.facts .nil).picks (.cons (.s .z) (.cons .z .nil))⟩ hF
set_option maxHeartbeats 8000000 in
theorem law25_ResponderRefuses_ok {fuel : Nat} {a0 : Int} {a1 : List Int} {y : Bool} (hF : law25_ResponderRefuses fuel a0 a1 = some y) {w : World} {v1 : Value} :
  Spec Try.prog 5 [.int .u8 a0, v1].toArray w [(false, .val (Rep.slice (Rep.int .u8)) v1 a1)] [] (fun v Γr Ωr Ωo => v = .bool y ∧ Γr = [] ∧ Ωr = [] ∧ Ωo = []) := by
 refine Spec.of (L := [(0, .int .u8 a0), (1, v1)]) Try.func5 rfl ⟨rfl, rfl, trivial⟩ rfl (fun e h => ?_)
 unfold law25_ResponderRefuses at hF
 refine Run.seq ?_
 refine Run.reg ?_
 refine op (OpS.as rfl rfl rfl ?_)
 refine RunL.nil ?_
 refine Run.slim [(0, .int .u8 a0), (1, v1)] ⟨rfl, rfl, trivial⟩ ?_
 refine Run.seq ?_
 refine Run.seq ?_
 refine Run.reg ?_
 obtain ⟨y1, e1, hF⟩ := bindP_use hF
 refine op (OpS.callP h Try.func8 rfl rfl rfl rfl (vs := []) rfl (law25_awake_ok e1) .nil ?_)
 rintro _ w1 _ _ _ ⟨rfl, rfl, rfl, rfl⟩ h1
 have h2 := h1 rfl rfl
 simp only [List.cons_append, List.nil_append] at h2
 refine op (OpS.not rfl rfl rfl ?_)
 refine RunL.nil ?_
 refine Run.slim [(32, .bool (!y1)), (0, .int .u8 a0), (1, v1)] ⟨rfl, rfl, rfl, trivial⟩ ?_
 refine Run.ite rfl hF (fun e2 hF => ?_) (fun e2 hF => ?_)
 ·
  refine Run.seq ?_
  refine Run.reg ?_
  refine op (OpS.as rfl rfl rfl ?_)
  refine RunL.nil ?_
  refine Run.slim [(4, .bool false)] ⟨rfl, trivial⟩ ?_
  refine Run.retP rfl (.tmp rfl .nil) ?_
  cases hF
  exact Post.mk' ⟨rfl, rfl, rfl, rfl⟩ (h2.picks .nil) .nil
 ·
  refine Run.skip ?_
  refine Run.seq ?_
  refine Run.seq ?_
  refine Run.reg ?_
  refine op (OpS.mv rfl rfl rfl ?_)
  refine op (OpS.len h2 Try.underlying22 rfl rfl rfl (V.at .z) ?_)
  refine op (OpS.bin rfl rfl rfl rfl rfl ?_)
  refine RunL.nil ?_
  refine Run.slim [(35, .bool (decide ((a1.length : Int) > 50))), (0, .int .u8 a0), (1, v1)] ⟨rfl, rfl, rfl, trivial⟩ ?_
  refine Run.ite rfl hF (fun e3 hF => ?_) (fun e3 hF => ?_)
  ·
   refine Run.seq ?_
   refine Run.reg ?_
   refine op (OpS.as rfl rfl rfl ?_)
   refine RunL.nil ?_
   refine Run.slim [(4, .bool true)] ⟨rfl, trivial⟩ ?_
   refine Run.retP rfl (.tmp rfl .nil) ?_
   cases hF
   exact Post.mk' ⟨rfl, rfl, rfl, rfl⟩ (h2.picks .nil) .nil
  ·
   refine Run.skip ?_
   refine Run.seq ?_
   refine Run.reg ?_
   obtain ⟨y2, e4, hF⟩ := bindP_use hF
   refine op (OpS.callP h2 Try.func10 rfl rfl rfl rfl (vs := [.int .u8 32]) rfl (responder_New_ok e4) .nil ?_)
   rintro _ w2 _ _ _ ⟨u1, rfl, rfl, rfl, rfl⟩ h3
   have h4 := h3 rfl rfl
   simp only [List.cons_append, List.nil_append] at h4
   refine op (OpS.mv rfl rfl rfl ?_)
   refine op (OpS.ext rfl rfl rfl rfl ?_)
   refine op (OpS.ext rfl rfl rfl rfl ?_)
   refine op (OpS.alloc h4 ti29 Responder_.zr rfl rfl (fun u2 w3 h5 => ?_))
   refine op (OpS.storeB (f' := true) h5 .z PA.z Put.id ty29 rfl rfl rfl (V.at .z) (.inl rfl) (fun w4 h6 => ?_))
   refine op (OpS.as rfl rfl rfl ?_)
   refine RunL.nil ?_
   refine Run.slim [(6, .int .i64 y2.2), (5, u2), (0, .int .u8 a0), (1, v1)] ⟨rfl, rfl, rfl, rfl, trivial⟩ ?_
   refine Run.seq ?_
   refine Run.seq ?_
   refine Run.reg ?_
   refine op (OpS.mv rfl rfl rfl ?_)
   refine op (OpS.bin rfl rfl rfl rfl rfl ?_)
   refine RunL.nil ?_
   refine Run.slim [(41, .bool (y2.2 != 0)), (5, u2), (0, .int .u8 a0), (1, v1)] ⟨rfl, rfl, rfl, rfl, trivial⟩ ?_
   refine Run.ite rfl hF (fun e5 hF => ?_) (fun e5 hF => ?_)
   ·
    refine Run.seq ?_
    refine Run.reg ?_
    refine op (OpS.as rfl rfl rfl ?_)
    refine RunL.nil ?_
    refine Run.slim [(4, .bool false)] ⟨rfl, trivial⟩ ?_
    refine Run.retP rfl (.tmp rfl .nil) ?_
    cases hF
    exact Post.mk' ⟨rfl, rfl, rfl, rfl⟩ (h6.picks .nil) .nil
   ·
    refine Run.skip ?_
    refine Run.seq ?_
    refine Run.reg ?_
    refine op (OpS.as rfl rfl rfl ?_)
    refine RunL.nil ?_
    refine Run.slim [(7, .slice none 0 0), (5, u2), (0, .int .u8 a0), (1, v1)] ⟨rfl, rfl, rfl, rfl, trivial⟩ ?_
    refine Run.seq ?_
    refine Run.seq ?_
    refine Run.reg ?_
    refine op (OpS.as rfl rfl rfl ?_)
    refine RunL.nil ?_
    refine Run.block ?_
    have h7 := St.nil 22 (Rep.slice (Rep.int .u8)) h6
    have h8 := (h7.pick (.s .z)).weak
    refine Run.slim [(0, .int .u8 a0), (1, v1), (5, u2), (7, (.slice none 0 0)), (8, .int .i64 0)] ⟨rfl, rfl, rfl, rfl, rfl, trivial⟩ ?_
    refine Run.loopP (σ := (Int × Responder_ × (List (List Int)))) (fun s_ L_ w_ => ∃ u0_ : Value, L_ = [(0, .int .u8 a0), (1, v1), (5, u2), (7, u0_), (8, .int .i64 s_.1)] ∧ St e w_ [(false, .val (Rep.slice (Rep.int .u8)) v1 a1)] [(false, .box 29 Responder_.rep u2 s_.2.1), (true, .slice 22 (Rep.slice (Rep.int .u8)) u0_ s_.2.2)]) hF ⟨(.slice none 0 0), rfl, (h8.facts (.atm (.s .z) .nil)).picks (.cons .z (.cons .z .nil))⟩ (fun k1 hk1 s1 _ w5 hI hF => ?_)
    obtain ⟨u3, rfl, h9⟩ := hI
    refine Run.seq ?_
    refine Run.seq ?_
    refine Run.reg ?_
    refine op (OpS.mv rfl rfl rfl ?_)
    refine op (OpS.bin rfl rfl rfl rfl rfl ?_)
    refine RunL.nil ?_
    refine Run.slim [(43, .bool (decide (s1.1 < 16))), (0, .int .u8 a0), (1, v1), (5, u2), (7, u3), (8, .int .i64 s1.1)] ⟨rfl, rfl, rfl, rfl, rfl, rfl, trivial⟩ ?_
    refine Run.ite rfl hF (fun e6 hF => ?_) (fun e6 hF => ?_)
    ·
     refine Run.skip ?_
     refine Run.seq ?_
     refine Run.block ?_
     refine Run.seq ?_
     refine Run.reg ?_
     refine op (OpS.mv rfl rfl rfl ?_)
     refine op (OpS.build (f := true) (x' := (⟨32, 64, 6, 1, 0, 0, s1.1, 0, []⟩ : Message_)) h9 pl37 ti37 Message_.zr rfl rfl rfl (.cons rfl Message_.f0 rfl V.int (.cons rfl Message_.f1 rfl V.int (.cons rfl Message_.f2 rfl V.int (.cons rfl Message_.f3 rfl V.int (.cons rfl Message_.f6 rfl V.int .nil))))) (fun u4 h10 => ?_))
     obtain ⟨y3, e7, hF⟩ := bindP_use hF
     refine op (OpS.callP h10 Try.func13 rfl rfl rfl rfl (vs := [u4]) rfl (message_Request_ok e7) (.cons (f := true) (V.at .z) .nil) ?_)
     rintro _ w6 _ _ _ ⟨u5, rfl, rfl, rfl, rfl⟩ h11
     have h12 := h11 rfl rfl
     simp only [List.cons_append, List.nil_append] at h12
     refine op (OpS.mv rfl rfl rfl ?_)
     refine op (OpS.ext rfl rfl rfl rfl ?_)
     refine op (OpS.ext rfl rfl rfl rfl ?_)
     refine op (OpS.as rfl rfl rfl ?_)
     have h13 := (h12.pick .z).freeze
     refine op (OpS.as rfl rfl rfl ?_)
     refine RunL.nil ?_
     refine Run.slim [(10, .int .i64 y3.2), (9, u5), (0, .int .u8 a0), (1, v1), (5, u2), (7, u3), (8, .int .i64 s1.1)] ⟨rfl, rfl, rfl, rfl, rfl, rfl, rfl, trivial⟩ ?_
     refine Run.seq ?_
     refine Run.reg ?_
     refine op (OpS.loadB h13 .z PA.z Get.id ty29 rfl rfl rfl (fun u6 h14 => ?_))
     refine op (OpS.mv rfl rfl rfl ?_)
     refine op (OpS.mv rfl rfl rfl ?_)
     obtain ⟨y4, e8, hF⟩ := bindP_use hF
     have h15 := h14.front .nil
     refine op (OpS.callO h15 Try.func14 rfl rfl rfl rfl (vs := [u6, u5, .int .i64 s1.1]) rfl (responder_Accept_ok e8) rfl (.cons (f := false) (V.at .z) (.cons (f := true) (V.at (.s .z)) .nil)) ?_)
     rintro _ w7 _ _ _ ⟨u7, u8, rfl, rfl, rfl, rfl⟩ h16
     have h17 := h16
     simp only [List.cons_append, List.nil_append] at h17
     refine op (OpS.mv rfl rfl rfl ?_)
     refine op (OpS.ext rfl rfl rfl rfl ?_)
     refine op (OpS.ext rfl rfl rfl rfl ?_)
     refine op (OpS.ext rfl rfl rfl rfl ?_)
     refine op (OpS.alloc h17 ti29 Responder_.zr rfl rfl (fun u9 w8 h18 => ?_))
     have h19 := (h18.pick .z).weak
     refine op (OpS.storeB (f' := false) h19 .z PA.z Put.id ty29 rfl rfl rfl (V.at .z) (.inr rfl) (fun w9 h20 => ?_))
     refine op (OpS.as rfl rfl rfl ?_)
     refine op (OpS.as rfl rfl rfl ?_)
     refine RunL.nil ?_
     refine Run.slim [(13, .int .i64 y4.2.2), (12, u8), (11, u9), (10, .int .i64 y3.2), (9, u5), (0, .int .u8 a0), (1, v1), (5, u2), (7, u3), (8, .int .i64 s1.1)] ⟨rfl, rfl, rfl, rfl, rfl, rfl, rfl, rfl, rfl, rfl, trivial⟩ ?_
     refine Run.seq ?_
     refine Run.reg ?_
     refine op (OpS.loadB h20 .z PA.z Get.id ty29 rfl rfl rfl (fun u10 h21 => ?_))
     refine op (OpS.mv rfl rfl rfl ?_)
     obtain ⟨y5, e9, hF⟩ := bindP_use hF
     have h22 := h21.front .nil
     refine op (OpS.callO h22 Try.func17 rfl rfl rfl rfl (vs := [u10, .int .u8 0, .slice none 0 0, .int .i64 s1.1]) rfl (responder_Done_ok e9) rfl (.cons (f := false) (V.at .z) (.cons (f := true) V.nil .nil)) ?_)
     rintro _ w10 _ _ _ ⟨u11, u12, rfl, rfl, rfl, rfl⟩ h23
     have h24 := h23
     simp only [List.cons_append, List.nil_append] at h24
     refine op (OpS.mv rfl rfl rfl ?_)
     refine op (OpS.ext rfl rfl rfl rfl ?_)
     refine op (OpS.ext rfl rfl rfl rfl ?_)
     refine op (OpS.ext rfl rfl rfl rfl ?_)
     refine op (OpS.storeB (f' := false) h24 .z PA.z Put.id ty29 rfl rfl rfl (V.at .z) (.inr rfl) (fun w11 h25 => ?_))
     refine op (OpS.as rfl rfl rfl ?_)
     refine op (OpS.as rfl rfl rfl ?_)
     refine RunL.nil ?_
     refine Run.slim [(15, .int .i64 y5.2.2), (13, .int .i64 y4.2.2), (12, u8), (11, u9), (10, .int .i64 y3.2), (9, u5), (0, .int .u8 a0), (1, v1), (5, u2), (7, u3), (8, .int .i64 s1.1)] ⟨rfl, rfl, rfl, rfl, rfl, rfl, rfl, rfl, rfl, rfl, rfl, trivial⟩ ?_
     refine Run.seq ?_
     refine Run.seq ?_
     refine Run.reg ?_
     refine op (OpS.mv rfl rfl rfl ?_)
     refine op (OpS.bin rfl rfl rfl rfl rfl ?_)
     refine op (OpS.mv rfl rfl rfl ?_)
     refine RunL.join (σ := Bool) (fun s_ L_ w_ => L_ = [(0, .int .u8 a0), (1, v1), (5, u2), (7, u3), (8, .int .i64 s1.1), (9, u5), (11, u9), (81, .bool s_)] ∧ St e w_ [(false, .val (Rep.slice (Rep.int .u8)) v1 a1), (true, .val (Rep.slice (Rep.int .u8)) u5 y3.1)] [(false, .box 29 Responder_.rep u2 s1.2.1), (false, .box 29 Responder_.rep u9 y5.1), (true, .slice 22 (Rep.slice (Rep.int .u8)) u3 s1.2.2)]) hF (fun s2 _ w12 hI hF => ?_) (fun j1 hj1 hF => ?_)
     ·
      obtain ⟨rfl, h26⟩ := hI
      refine Run.ite rfl hF (fun e10 hF => ?_) (fun e10 hF => ?_)
      ·
       refine Run.seq ?_
       refine Run.reg ?_
       refine op (OpS.as rfl rfl rfl ?_)
       refine RunL.nil ?_
       refine Run.slim [(4, .bool false)] ⟨rfl, trivial⟩ ?_
       refine Run.retP rfl (.tmp rfl .nil) ?_
       cases hF
       exact Post.mk' ⟨rfl, rfl, rfl, rfl⟩ (h26.picks .nil) .nil
      ·
       refine Run.skip ?_
       obtain ⟨x1, e11, hF⟩ := bindP_use hF
       refine Run.drawV (Ωs := []) [⟨some 82, none, fun u_ => [(false, .val Responder_.rep u_ y5.1)], fun ds_ u_ => [], [], [(1, [])], none⟩, ⟨some 83, some (u3), fun _ => [], fun ds_ u_ => [], [], [], none⟩, ⟨some 84, some (u5), fun _ => [], fun ds_ u_ => [], [], [], none⟩, ⟨some 85, none, fun u_ => [(true, .val (Rep.slice (Rep.slice (Rep.int .u8))) u_ ([y3.1]))], fun ds_ u_ => [], [], [], none⟩, ⟨some 86, none, fun u_ => [], fun ds_ u_ => [(true, .slice 22 (Rep.slice (Rep.int .u8)) u_ x1)], [2], [], none⟩, ⟨none, some undef, fun _ => [], fun ds_ u_ => [(false, .box 29 Responder_.rep u2 y5.1)], [0], [], none⟩] [[], [], [], [2], [1, 3], [0]] [[(false, .box 29 Responder_.rep u2 s1.2.1)], [(false, .box 29 Responder_.rep u9 y5.1)], [(true, .slice 22 (Rep.slice (Rep.int .u8)) u3 s1.2.2)]] [1, 3, 4, 5, 6, 7, 8] Try_mixed rfl rfl rfl h26 (.cons ?_ (.cons ?_ (.cons ?_ (.cons ?_ (.cons ?_ (.cons ?_ .nil)))))) (fun q1 w hq1 h => ?_)
       ·intro q1 w Γx Ωx h
        have h : St e w ([(false, .val (Rep.slice (Rep.int .u8)) v1 a1), (true, .val (Rep.slice (Rep.int .u8)) u5 y3.1)] ++ Γx) ([(false, .box 29 Responder_.rep u9 y5.1)] ++ Ωx) := h
        refine OpS.loadB h .z PA.z Get.id ty29 rfl rfl rfl (fun u h31 => ?_)
        exact ⟨u, rfl, trivial, h31⟩
       ·intro q1 w Γx Ωx h
        refine OpS.mv rfl rfl rfl ?_
        exact ⟨undef, rfl, trivial, h⟩
       ·intro q1 w Γx Ωx h
        refine OpS.mv rfl rfl rfl ?_
        exact ⟨undef, rfl, trivial, h⟩
       ·intro q1 w Γx Ωx h
        refine OpS.lit (r := (Rep.slice (Rep.int .u8))) (f := true) h Try.underlying51 ti22 rfl rfl rfl rfl rfl (.cons rfl (V.at (.s .z)) .nil) rfl rfl (fun u w16 h32 => ?_)
        exact ⟨u, rfl, trivial, h32⟩
       ·intro q1 w Γx Ωx h
        have h : St e w ([(true, .val (Rep.slice (Rep.slice (Rep.int .u8))) (q1 3) ([y3.1])), (false, .val (Rep.slice (Rep.int .u8)) v1 a1), (true, .val (Rep.slice (Rep.int .u8)) u5 y3.1)] ++ Γx) ([(true, .slice 22 (Rep.slice (Rep.int .u8)) u3 s1.2.2)] ++ Ωx) := h
        refine OpS.app (f' := true) h .z Try.underlying51 ti22 rfl rfl rfl rfl rfl rfl rfl (V.at .z) (.inl (.inl rfl)) e11 (fun u w17 h33 => ?_)
        exact ⟨u, rfl, trivial, h33⟩
       ·intro q1 w Γx Ωx h
        have h : St e w ([(false, .val Responder_.rep (q1 0) y5.1), (false, .val (Rep.slice (Rep.int .u8)) v1 a1), (true, .val (Rep.slice (Rep.int .u8)) u5 y3.1)] ++ Γx) ([(false, .box 29 Responder_.rep u2 s1.2.1)] ++ Ωx) := h
        refine OpS.storeB (f' := false) h .z PA.z Put.id ty29 rfl rfl rfl (V.at .z) (.inr rfl) (fun w18 h34 => ?_)
        exact ⟨undef, trivial, trivial, h34⟩
       have h35 : St e w [(false, .val Responder_.rep (q1 0) y5.1), (true, .val (Rep.slice (Rep.slice (Rep.int .u8))) (q1 3) ([y3.1])), (false, .val (Rep.slice (Rep.int .u8)) v1 a1), (true, .val (Rep.slice (Rep.int .u8)) u5 y3.1)] [(false, .box 29 Responder_.rep u9 y5.1), (true, .slice 22 (Rep.slice (Rep.int .u8)) (q1 4) x1), (false, .box 29 Responder_.rep u2 y5.1)] := h
       refine op (OpS.as rfl rfl rfl ?_)
       refine RunL.nil ?_
       refine Run.slim [(7, (q1 4)), (0, .int .u8 a0), (1, v1), (5, u2), (8, .int .i64 s1.1)] ⟨rfl, rfl, rfl, rfl, rfl, trivial⟩ ?_
       refine Run.endBlock ?_
       refine Run.reg ?_
       refine op (OpS.mv rfl rfl rfl ?_)
       refine op (OpS.bin rfl rfl rfl rfl rfl ?_)
       refine op (OpS.as rfl rfl rfl ?_)
       obtain ⟨x2, e12, hF⟩ := letP_use hF
       refine RunL.name e12 ?_
       refine RunL.nil ?_
       refine Run.slim [(8, .int .i64 x2), (7, (q1 4)), (0, .int .u8 a0), (1, v1), (5, u2)] ⟨rfl, rfl, rfl, rfl, rfl, trivial⟩ ?_
       refine Run.slim [(0, .int .u8 a0), (1, v1), (5, u2), (7, (q1 4)), (8, .int .i64 x2)] ⟨rfl, rfl, rfl, rfl, rfl, trivial⟩ ?_
       exact hk1 (x2, y5.1, x1) _ _ ⟨(q1 4), rfl, (h35.facts (.atm (.s (.s .z)) .nil)).picks (.cons (.s (.s .z)) (.cons (.s .z) .nil))⟩ hF
     ·
      refine RunL.caseb hF (fun e13 hF => ?_) (fun e13 hF => ?_)
      ·
       refine op (OpS.pass rfl rfl rfl ?_)
       refine op (OpS.pass rfl rfl rfl ?_)
       refine op (OpS.pick rfl rfl rfl rfl ?_)
       refine op (OpS.mv rfl rfl rfl ?_)
       refine op (OpS.pass rfl rfl rfl ?_)
       refine op (OpS.pass rfl rfl rfl ?_)
       refine op (OpS.pick rfl rfl rfl rfl ?_)
       refine op (OpS.mv rfl rfl rfl ?_)
       refine op (OpS.pass rfl rfl rfl ?_)
       refine op (OpS.pass rfl rfl rfl ?_)
       refine op (OpS.pass rfl rfl rfl ?_)
       refine op (OpS.pick rfl rfl rfl rfl ?_)
       refine RunL.nil ?_
       refine Run.slim [(81, .bool true), (11, u9), (9, u5), (0, .int .u8 a0), (1, v1), (5, u2), (7, u3), (8, .int .i64 s1.1)] ⟨rfl, rfl, rfl, rfl, rfl, rfl, rfl, rfl, trivial⟩ ?_
       refine Run.slim [(0, .int .u8 a0), (1, v1), (5, u2), (7, u3), (8, .int .i64 s1.1), (9, u5), (11, u9), (81, .bool true)] ⟨rfl, rfl, rfl, rfl, rfl, rfl, rfl, rfl, trivial⟩ ?_
       exact hj1 (true) _ _ ⟨rfl, (h25.facts (.atm (.s (.s (.s (.s (.s (.s (.s (.s .z)))))))) (.atm (.s (.s (.s (.s (.s (.s .z)))))) .nil))).picks (.cons (.s .z) (.cons .z (.cons .z .nil)))⟩ hF
      ·
       refine op (OpS.mv rfl rfl rfl ?_)
       refine op (OpS.bin rfl rfl rfl rfl rfl ?_)
       refine op (OpS.pick rfl rfl rfl rfl ?_)
       refine op (OpS.mv rfl rfl rfl ?_)
       refine RunL.caseb hF (fun e14 hF => ?_) (fun e14 hF => ?_)
       ·
        refine op (OpS.pass rfl rfl rfl ?_)
        refine op (OpS.pass rfl rfl rfl ?_)
        refine op (OpS.pick rfl rfl rfl rfl ?_)
        refine op (OpS.mv rfl rfl rfl ?_)
        refine op (OpS.pass rfl rfl rfl ?_)
        refine op (OpS.pass rfl rfl rfl ?_)
        refine op (OpS.pass rfl rfl rfl ?_)
        refine op (OpS.pick rfl rfl rfl rfl ?_)
        refine RunL.nil ?_
        refine Run.slim [(81, .bool true), (11, u9), (9, u5), (0, .int .u8 a0), (1, v1), (5, u2), (7, u3), (8, .int .i64 s1.1)] ⟨rfl, rfl, rfl, rfl, rfl, rfl, rfl, rfl, trivial⟩ ?_
        refine Run.slim [(0, .int .u8 a0), (1, v1), (5, u2), (7, u3), (8, .int .i64 s1.1), (9, u5), (11, u9), (81, .bool true)] ⟨rfl, rfl, rfl, rfl, rfl, rfl, rfl, rfl, trivial⟩ ?_
        exact hj1 (true) _ _ ⟨rfl, (h25.facts (.atm (.s (.s (.s (.s (.s (.s (.s (.s .z)))))))) (.atm (.s (.s (.s (.s (.s (.s .z)))))) .nil))).picks (.cons (.s .z) (.cons .z (.cons .z .nil)))⟩ hF
       ·
        refine op (OpS.mv rfl rfl rfl ?_)
        refine op (OpS.bin rfl rfl rfl rfl rfl ?_)
        refine op (OpS.pick rfl rfl rfl rfl ?_)
        refine op (OpS.mv rfl rfl rfl ?_)
        refine RunL.caseb hF (fun e15 hF => ?_) (fun e15 hF => ?_)
        ·
         refine op (OpS.pass rfl rfl rfl ?_)
         refine op (OpS.pass rfl rfl rfl ?_)
         refine op (OpS.pass rfl rfl rfl ?_)
         refine op (OpS.pick rfl rfl rfl rfl ?_)
         refine RunL.nil ?_
         refine Run.slim [(81, .bool true), (11, u9), (9, u5), (0, .int .u8 a0), (1, v1), (5, u2), (7, u3), (8, .int .i64 s1.1)] ⟨rfl, rfl, rfl, rfl, rfl, rfl, rfl, rfl, trivial⟩ ?_
         refine Run.slim [(0, .int .u8 a0), (1, v1), (5, u2), (7, u3), (8, .int .i64 s1.1), (9, u5), (11, u9), (81, .bool true)] ⟨rfl, rfl, rfl, rfl, rfl, rfl, rfl, rfl, trivial⟩ ?_
         exact hj1 (true) _ _ ⟨rfl, (h25.facts (.atm (.s (.s (.s (.s (.s (.s (.s (.s .z)))))))) (.atm (.s (.s (.s (.s (.s (.s .z)))))) .nil))).picks (.cons (.s .z) (.cons .z (.cons .z .nil)))⟩ hF
        ·
         refine op (OpS.mv rfl rfl rfl ?_)
         refine op (OpS.len h25 Try.underlying22 rfl rfl rfl (V.at (.s (.s (.s (.s .z))))) ?_)
         refine op (OpS.bin rfl rfl rfl rfl rfl ?_)
         refine op (OpS.pick rfl rfl rfl rfl ?_)
         refine RunL.nil ?_
         refine Run.slim [(81, .bool ((y4.2.1.length : Int) != 0)), (11, u9), (9, u5), (0, .int .u8 a0), (1, v1), (5, u2), (7, u3), (8, .int .i64 s1.1)] ⟨rfl, rfl, rfl, rfl, rfl, rfl, rfl, rfl, trivial⟩ ?_
         refine Run.slim [(0, .int .u8 a0), (1, v1), (5, u2), (7, u3), (8, .int .i64 s1.1), (9, u5), (11, u9), (81, .bool ((y4.2.1.length : Int) != 0))] ⟨rfl, rfl, rfl, rfl, rfl, rfl, rfl, rfl, trivial⟩ ?_
         exact hj1 ((y4.2.1.length : Int) != 0) _ _ ⟨rfl, (h25.facts (.atm (.s (.s (.s (.s (.s (.s (.s (.s .z)))))))) (.atm (.s (.s (.s (.s (.s (.s .z)))))) .nil))).picks (.cons (.s .z) (.cons .z (.cons .z .nil)))⟩ hF
    ·
     refine Run.exit rfl ?_
     refine Run.seq ?_
     refine Run.reg ?_
     refine op (OpS.mv rfl rfl rfl ?_)
     refine op (OpS.build (f := false) (x' := (⟨32, 66, 6, 2, 0, 0, 0, 0, a1⟩ : Message_)) h9 pl37 ti37 Message_.zr rfl rfl rfl (.cons rfl Message_.f0 rfl V.int (.cons rfl Message_.f1 rfl V.int (.cons rfl Message_.f2 rfl V.int (.cons rfl Message_.f3 rfl V.int (.cons rfl Message_.f8 rfl (V.at .z) .nil))))) (fun u13 h36 => ?_))
     obtain ⟨y6, e16, hF⟩ := bindP_use hF
     refine op (OpS.callP h36 Try.func13 rfl rfl rfl rfl (vs := [u13]) rfl (message_Request_ok e16) (.cons (f := false) (V.at .z) .nil) ?_)
     rintro _ w19 _ _ _ ⟨u14, rfl, rfl, rfl, rfl⟩ h37
     have h38 := h37 rfl rfl
     simp only [List.cons_append, List.nil_append] at h38
     refine op (OpS.mv rfl rfl rfl ?_)
     refine op (OpS.ext rfl rfl rfl rfl ?_)
     refine op (OpS.ext rfl rfl rfl rfl ?_)
     refine op (OpS.as rfl rfl rfl ?_)
     have h39 := (h38.pick .z).freeze
     refine op (OpS.as rfl rfl rfl ?_)
     refine RunL.nil ?_
     refine Run.slim [(17, .int .i64 y6.2), (16, u14), (0, .int .u8 a0), (5, u2), (7, u3)] ⟨rfl, rfl, rfl, rfl, rfl, trivial⟩ ?_
     refine Run.seq ?_
     refine Run.reg ?_
     refine op (OpS.loadB h39 .z PA.z Get.id ty29 rfl rfl rfl (fun u15 h40 => ?_))
     refine op (OpS.mv rfl rfl rfl ?_)
     obtain ⟨y7, e17, hF⟩ := bindP_use hF
     have h41 := h40.front .nil
     refine op (OpS.callO h41 Try.func14 rfl rfl rfl rfl (vs := [u15, u14, .int .i64 16]) rfl (responder_Accept_ok e17) rfl (.cons (f := false) (V.at .z) (.cons (f := true) (V.at (.s .z)) .nil)) ?_)
     rintro _ w20 _ _ _ ⟨u16, u17, rfl, rfl, rfl, rfl⟩ h42
     have h43 := h42
     simp only [List.cons_append, List.nil_append] at h43
     refine op (OpS.mv rfl rfl rfl ?_)
     refine op (OpS.ext rfl rfl rfl rfl ?_)
     refine op (OpS.ext rfl rfl rfl rfl ?_)
     refine op (OpS.ext rfl rfl rfl rfl ?_)
     refine op (OpS.alloc h43 ti29 Responder_.zr rfl rfl (fun u18 w21 h44 => ?_))
     have h45 := (h44.pick .z).weak
     refine op (OpS.storeB (f' := false) h45 .z PA.z Put.id ty29 rfl rfl rfl (V.at .z) (.inr rfl) (fun w22 h46 => ?_))
     refine op (OpS.as rfl rfl rfl ?_)
     refine op (OpS.as rfl rfl rfl ?_)
     refine RunL.nil ?_
     refine Run.slim [(20, .int .i64 y7.2.2), (19, u17), (18, u18), (17, .int .i64 y6.2), (16, u14), (0, .int .u8 a0), (7, u3)] ⟨rfl, rfl, rfl, rfl, rfl, rfl, rfl, trivial⟩ ?_
     refine Run.seq ?_
     refine Run.reg ?_
     refine op (OpS.mv rfl rfl rfl ?_)
     obtain ⟨y8, e18, hF⟩ := bindP_use hF
     refine op (OpS.callP h46 Try.func15 rfl rfl rfl rfl (vs := [u17]) rfl (message_ParseResponse_ok e18) (.cons (f := true) (V.at (.s .z)) .nil) ?_)
     rintro _ w23 _ _ _ ⟨u19, rfl, rfl, rfl, rfl⟩ h47
     have h48 := h47 rfl rfl
     simp only [List.cons_append, List.nil_append] at h48
     refine op (OpS.mv rfl rfl rfl ?_)
     refine op (OpS.ext rfl rfl rfl rfl ?_)
     refine op (OpS.ext rfl rfl rfl rfl ?_)
     refine op (OpS.alloc h48 ti37 Message_.zr rfl rfl (fun u20 w24 h49 => ?_))
     refine op (OpS.storeB (f' := true) h49 .z PA.z Put.id ty37 rfl rfl rfl (V.at .z) (.inl rfl) (fun w25 h50 => ?_))
     refine op (OpS.as rfl rfl rfl ?_)
     refine RunL.nil ?_
     refine Run.slim [(22, .int .i64 y8.2), (21, u20), (20, .int .i64 y7.2.2), (18, u18), (17, .int .i64 y6.2), (16, u14), (0, .int .u8 a0), (7, u3)] ⟨rfl, rfl, rfl, rfl, rfl, rfl, rfl, rfl, trivial⟩ ?_
     refine Run.seq ?_
     have h51 := (h50.pick (.s (.s (.s .z)))).freeze
     have h52 := h51.picks (.cons (.s .z) (.cons .z (.cons .z .nil)))
     obtain ⟨e19, hF⟩ := chk_use hF
     obtain ⟨x3, e20, hF⟩ := bindP_use hF
     obtain ⟨y9, e21, hF⟩ := bindP_use hF
     refine Run.drawV (Ωs := [(true, .box 37 Message_.rep u20 y8.1), (false, .box 29 Responder_.rep u2 s1.2.1)]) [⟨some 106, none, fun u_ => [(false, .val Responder_.rep u_ y7.1)], fun ds_ u_ => [], [], [(0, [])], none⟩, ⟨some 107, some (u3), fun _ => [], fun ds_ u_ => [], [], [], none⟩, ⟨some 108, some (.int .u8 a0), fun _ => [], fun ds_ u_ => [], [], [], none⟩, ⟨some 109, some (.int .i64 (IntKind.i64.wrap a0)), fun _ => [], fun ds_ u_ => [], [], [], none⟩, ⟨some 110, some (u3), fun _ => [], fun ds_ u_ => [], [], [], none⟩, ⟨some 111, some (.int .i64 (s1.2.2.length : Int)), fun _ => [], fun ds_ u_ => [], [], [], none⟩, ⟨some 112, some (.int .i64 (Int.tmod (IntKind.i64.wrap a0) (s1.2.2.length : Int))), fun _ => [], fun ds_ u_ => [], [], [], none⟩, ⟨some 113, none, fun u_ => [(true, .ptr (Rep.slice (Rep.int .u8)) u_ x3)], fun ds_ u_ => [], [], [], none⟩, ⟨some 114, none, fun u_ => [(true, .val (Rep.slice (Rep.int .u8)) u_ x3)], fun ds_ u_ => [], [], [], none⟩, ⟨some 115, none, fun u_ => [(true, .eqv u_ (.tuple #[(tcomp u_ 0), (tcomp u_ 1), .int .i64 y9.2.2])), (false, .val Responder_.rep (tcomp u_ 0) y9.1), (true, .val (Rep.slice (Rep.int .u8)) (tcomp u_ 1) y9.2.1)], fun ds_ u_ => [], [], [], none⟩, ⟨some 105, none, fun u_ => [(true, .eqv u_ (.tuple #[(tcomp u_ 0), (tcomp u_ 1), .int .i64 y9.2.2])), (false, .val Responder_.rep (tcomp u_ 0) y9.1), (true, .val (Rep.slice (Rep.int .u8)) (tcomp u_ 1) y9.2.1)], fun ds_ u_ => [], [], [], none⟩, ⟨some 116, none, fun u_ => [(false, .val Responder_.rep u_ y9.1)], fun ds_ u_ => [], [], [], none⟩, ⟨some 117, none, fun u_ => [(true, .val (Rep.slice (Rep.int .u8)) u_ y9.2.1)], fun ds_ u_ => [], [], [], none⟩, ⟨some 118, some (.int .i64 y9.2.2), fun _ => [], fun ds_ u_ => [], [], [], none⟩, ⟨some 23, none, fun u_ => [], fun ds_ u_ => [(true, .box 29 Responder_.rep u_ Responder_.z)], [], [], none⟩, ⟨none, some undef, fun _ => [], fun ds_ u_ => [(false, .box 29 Responder_.rep (nth ds_ 0) y9.1)], [15], [], none⟩, ⟨some 24, none, fun u_ => [(true, .val (Rep.slice (Rep.int .u8)) u_ y9.2.1)], fun ds_ u_ => [], [], [], none⟩] [[], [], [], [2], [], [4], [3, 5], [1, 6], [7], [0, 8], [9], [10], [10], [10], [], [14, 11], [12]] [[(false, .box 29 Responder_.rep u18 y7.1)]] [0, 1, 2, 3, 4, 5, 6, 7, 8, 9, 10, 11, 12, 13, 14, 16, 17] Try_mixed rfl rfl rfl h52 (.cons ?_ (.cons ?_ (.cons ?_ (.cons ?_ (.cons ?_ (.cons ?_ (.cons ?_ (.cons ?_ (.cons ?_ (.cons ?_ (.cons ?_ (.cons ?_ (.cons ?_ (.cons ?_ (.cons ?_ (.cons ?_ (.cons ?_ .nil))))))))))))))))) (fun q2 w hq2 h => ?_)
     ·intro q2 w Γx Ωx h
      have h : St e w ([(true, .val (Rep.slice (Rep.slice (Rep.int .u8))) u3 s1.2.2), (true, .val Message_.rep u19 y8.1), (false, .val Responder_.rep u16 y7.1), (true, .val (Rep.slice (Rep.int .u8)) u17 y7.2.1), (false, .val Responder_.rep u15 s1.2.1), (true, .val (Rep.slice (Rep.int .u8)) u14 y6.1), (false, .val Message_.rep u13 (⟨32, 66, 6, 2, 0, 0, 0, 0, a1⟩ : Message_)), (false, .val (Rep.slice (Rep.int .u8)) v1 a1)] ++ Γx) ([(false, .box 29 Responder_.rep u18 y7.1), (true, .box 37 Message_.rep u20 y8.1), (false, .box 29 Responder_.rep u2 s1.2.1)] ++ Ωx) := h
      refine OpS.loadB h .z PA.z Get.id ty29 rfl rfl rfl (fun u h62 => ?_)
      exact ⟨u, rfl, trivial, h62⟩
     ·intro q2 w Γx Ωx h
      refine OpS.mv rfl rfl rfl ?_
      exact ⟨undef, rfl, trivial, h⟩
     ·intro q2 w Γx Ωx h
      refine OpS.mv rfl rfl rfl ?_
      exact ⟨undef, rfl, trivial, h⟩
     ·intro q2 w Γx Ωx h
      refine OpS.conv Try.underlying5 Try.underlying3 rfl rfl rfl ?_
      exact ⟨undef, rfl, trivial, h⟩
     ·intro q2 w Γx Ωx h
      refine OpS.mv rfl rfl rfl ?_
      exact ⟨undef, rfl, trivial, h⟩
     ·intro q2 w Γx Ωx h
      refine OpS.len h Try.underlying51 rfl rfl rfl (V.at .z) ?_
      exact ⟨undef, rfl, trivial, h⟩
     ·intro q2 w Γx Ωx h
      refine OpS.rem rfl rfl rfl rfl e19 ?_
      exact ⟨undef, rfl, trivial, h⟩
     ·intro q2 w Γx Ωx h
      refine OpS.iptr h Try.underlying51 ty22 rfl rfl rfl rfl (V.at .z) e20 (fun u h63 => ?_)
      exact ⟨u, rfl, trivial, h63⟩
     ·intro q2 w Γx Ωx h
      refine OpS.load h ty22 rfl rfl rfl .z (fun u h64 => ?_)
      exact ⟨u, rfl, trivial, h64⟩
     ·intro q2 w Γx Ωx h
      have h65 := h.front .nil
      refine OpS.callO h65 Try.func14 rfl rfl rfl rfl (vs := [(q2 0), (q2 8), .int .i64 16]) rfl (responder_Accept_ok e21) rfl (.cons (f := false) (V.at .z) (.cons (f := true) (V.at (.s .z)) .nil)) ?_
      rintro _ w29 _ _ _ ⟨u23, u24, rfl, rfl, rfl, rfl⟩ h66
      have h67 := h66
      simp only [List.cons_append, List.nil_append] at h67
      exact ⟨_, rfl, trivial, St.eqv rfl h67⟩
     ·intro q2 w Γx Ωx h
      refine OpS.mv rfl rfl rfl ?_
      exact ⟨_, rfl, trivial, (((h.dup (.s (.s .z))).dup (.s (.s .z))).dup (.s (.s .z)))⟩
     ·intro q2 w Γx Ωx h
      refine OpS.extT h .z rfl rfl rfl rfl ?_
      exact ⟨_, rfl, trivial, (h.dup (.s .z))⟩
     ·intro q2 w Γx Ωx h
      refine OpS.extT h .z rfl rfl rfl rfl ?_
      exact ⟨_, rfl, trivial, (h.dup (.s (.s .z)))⟩
     ·intro q2 w Γx Ωx h
      refine OpS.extT h .z rfl rfl rfl rfl ?_
      exact ⟨undef, rfl, trivial, h⟩
     ·intro q2 w Γx Ωx h
      refine OpS.alloc h ti29 Responder_.zr rfl rfl (fun u w30 h68 => ?_)
      exact ⟨u, rfl, trivial, h68⟩
     ·intro q2 w Γx Ωx h
      have h : St e w ([(false, .val Responder_.rep (q2 11) y9.1), (true, .val (Rep.slice (Rep.slice (Rep.int .u8))) u3 s1.2.2), (true, .val Message_.rep u19 y8.1), (false, .val Responder_.rep u16 y7.1), (true, .val (Rep.slice (Rep.int .u8)) u17 y7.2.1), (false, .val Responder_.rep u15 s1.2.1), (true, .val (Rep.slice (Rep.int .u8)) u14 y6.1), (false, .val Message_.rep u13 (⟨32, 66, 6, 2, 0, 0, 0, 0, a1⟩ : Message_)), (false, .val (Rep.slice (Rep.int .u8)) v1 a1)] ++ Γx) ([(true, .box 29 Responder_.rep (q2 14) Responder_.z), (true, .box 37 Message_.rep u20 y8.1), (false, .box 29 Responder_.rep u2 s1.2.1)] ++ Ωx) := h
      have h69 := (h.pick .z).weak
      refine OpS.storeB (f' := false) h69 .z PA.z Put.id ty29 rfl rfl rfl (V.at .z) (.inr rfl) (fun w31 h70 => ?_)
      exact ⟨undef, trivial, trivial, h70⟩
     ·intro q2 w Γx Ωx h
      refine OpS.as rfl rfl rfl ?_
      exact ⟨_, rfl, trivial, (h.dup .z)⟩
     have h71 : St e w [(false, .val Responder_.rep (q2 0) y7.1), (true, .ptr (Rep.slice (Rep.int .u8)) (q2 7) x3), (true, .val (Rep.slice (Rep.int .u8)) (q2 8) x3), (true, .eqv (q2 9) (.tuple #[(tcomp (q2 9) 0), (tcomp (q2 9) 1), .int .i64 y9.2.2])), (false, .val Responder_.rep (tcomp (q2 9) 0) y9.1), (true, .val (Rep.slice (Rep.int .u8)) (tcomp (q2 9) 1) y9.2.1), (true, .eqv (q2 10) (.tuple #[(tcomp (q2 10) 0), (tcomp (q2 10) 1), .int .i64 y9.2.2])), (false, .val Responder_.rep (tcomp (q2 10) 0) y9.1), (true, .val (Rep.slice (Rep.int .u8)) (tcomp (q2 10) 1) y9.2.1), (false, .val Responder_.rep (q2 11) y9.1), (true, .val (Rep.slice (Rep.int .u8)) (q2 12) y9.2.1), (true, .val (Rep.slice (Rep.int .u8)) (q2 16) y9.2.1), (true, .val (Rep.slice (Rep.slice (Rep.int .u8))) u3 s1.2.2), (true, .val Message_.rep u19 y8.1), (false, .val Responder_.rep u16 y7.1), (true, .val (Rep.slice (Rep.int .u8)) u17 y7.2.1), (false, .val Responder_.rep u15 s1.2.1), (true, .val (Rep.slice (Rep.int .u8)) u14 y6.1), (false, .val Message_.rep u13 (⟨32, 66, 6, 2, 0, 0, 0, 0, a1⟩ : Message_)), (false, .val (Rep.slice (Rep.int .u8)) v1 a1)] [(false, .box 29 Responder_.rep u18 y7.1), (false, .box 29 Responder_.rep (q2 14) y9.1), (true, .box 37 Message_.rep u20 y8.1), (false, .box 29 Responder_.rep u2 s1.2.1)] := h
     refine op (OpS.as rfl rfl rfl ?_)
     refine RunL.nil ?_
     refine Run.slim [(25, .int .i64 y9.2.2), (24, (q2 16)), (22, .int .i64 y8.2), (21, u20), (20, .int .i64 y7.2.2), (18, u18), (17, .int .i64 y6.2), (16, u14)] ⟨rfl, rfl, rfl, rfl, rfl, rfl, rfl, rfl, trivial⟩ ?_
     refine Run.seq ?_
     refine Run.reg ?_
     refine op (OpS.loadB h71 .z PA.z Get.id ty29 rfl rfl rfl (fun u25 h72 => ?_))
     refine op (OpS.mv rfl rfl rfl ?_)
     obtain ⟨y10, e22, hF⟩ := bindP_use hF
     have h73 := h72.front .nil
     refine op (OpS.callO h73 Try.func14 rfl rfl rfl rfl (vs := [u25, u14, .int .i64 100]) rfl (responder_Accept_ok e22) rfl (.cons (f := false) (V.at .z) (.cons (f := true) (V.at (.s (.s (.s (.s (.s (.s (.s (.s (.s (.s (.s (.s (.s (.s (.s (.s (.s (.s .z))))))))))))))))))) .nil)) ?_)
     rintro _ w32 _ _ _ ⟨u26, u27, rfl, rfl, rfl, rfl⟩ h74
     have h75 := h74
     simp only [List.cons_append, List.nil_append] at h75
     refine op (OpS.mv rfl rfl rfl ?_)
     refine op (OpS.ext rfl rfl rfl rfl ?_)
     refine op (OpS.ext rfl rfl rfl rfl ?_)
     refine op (OpS.ext rfl rfl rfl rfl ?_)
     refine op (OpS.alloc h75 ti29 Responder_.zr rfl rfl (fun u28 w33 h76 => ?_))
     have h77 := (h76.pick .z).weak
     refine op (OpS.storeB (f' := false) h77 .z PA.z Put.id ty29 rfl rfl rfl (V.at .z) (.inr rfl) (fun w34 h78 => ?_))
     refine op (OpS.as rfl rfl rfl ?_)
     refine op (OpS.as rfl rfl rfl ?_)
     refine RunL.nil ?_
     refine Run.slim [(28, .int .i64 y10.2.2), (27, u27), (26, u28), (25, .int .i64 y9.2.2), (24, (q2 16)), (22, .int .i64 y8.2), (21, u20), (20, .int .i64 y7.2.2), (18, u18), (17, .int .i64 y6.2)] ⟨rfl, rfl, rfl, rfl, rfl, rfl, rfl, rfl, rfl, rfl, trivial⟩ ?_
     refine Run.seq ?_
     refine Run.reg ?_
     refine op (OpS.loadB h78 .z PA.z Get.id ty29 rfl rfl rfl (fun u29 h79 => ?_))
     obtain ⟨y11, e23, hF⟩ := bindP_use hF
     refine op (OpS.callP h79 Try.func16 rfl rfl rfl rfl (vs := [u29]) rfl (responder_Next_ok e23) (.cons (f := false) (V.at .z) .nil) ?_)
     rintro _ w35 _ _ _ ⟨u30, rfl, rfl, rfl, rfl⟩ h80
     have h81 := h80 rfl rfl
     simp only [List.cons_append, List.nil_append] at h81
     refine op (OpS.mv rfl rfl rfl ?_)
     refine op (OpS.ext rfl rfl rfl rfl ?_)
     refine op (OpS.ext rfl rfl rfl rfl ?_)
     refine op (OpS.alloc h81 ti37 Message_.zr rfl rfl (fun u31 w36 h82 => ?_))
     refine op (OpS.storeB (f' := true) h82 .z PA.z Put.id ty37 rfl rfl rfl (V.at .z) (.inl rfl) (fun w37 h83 => ?_))
     refine op (OpS.as rfl rfl rfl ?_)
     refine RunL.nil ?_
     refine Run.slim [(30, .bool y11.2), (28, .int .i64 y10.2.2), (27, u27), (25, .int .i64 y9.2.2), (24, (q2 16)), (22, .int .i64 y8.2), (21, u20), (20, .int .i64 y7.2.2), (18, u18), (17, .int .i64 y6.2)] ⟨rfl, rfl, rfl, rfl, rfl, rfl, rfl, rfl, rfl, rfl, trivial⟩ ?_
     refine Run.seq ?_
     refine Run.reg ?_
     refine op (OpS.mv rfl rfl rfl ?_)
     refine op (OpS.bin rfl rfl rfl rfl rfl ?_)
     refine op (OpS.mv rfl rfl rfl ?_)
     refine RunL.caseb hF (fun e24 hF => ?_) (fun e24 hF => ?_)
     ·
      refine op (OpS.mv rfl rfl rfl ?_)
      refine op (OpS.bin rfl rfl rfl rfl rfl ?_)
      refine op (OpS.pick rfl rfl rfl rfl ?_)
      refine op (OpS.mv rfl rfl rfl ?_)
      refine RunL.caseb hF (fun e25 hF => ?_) (fun e25 hF => ?_)
      ·
       refine op (OpS.mv rfl rfl rfl ?_)
       refine op (OpS.bin rfl rfl rfl rfl rfl ?_)
       refine op (OpS.pick rfl rfl rfl rfl ?_)
       refine op (OpS.mv rfl rfl rfl ?_)
       refine RunL.caseb hF (fun e26 hF => ?_) (fun e26 hF => ?_)
       ·
        refine op (OpS.mv rfl rfl rfl ?_)
        refine op (OpS.bin rfl rfl rfl rfl rfl ?_)
        refine op (OpS.pick rfl rfl rfl rfl ?_)
        refine op (OpS.mv rfl rfl rfl ?_)
        refine RunL.caseb hF (fun e27 hF => ?_) (fun e27 hF => ?_)
        ·
         refine op (OpS.mv rfl rfl rfl ?_)
         refine op (OpS.bin rfl rfl rfl rfl rfl ?_)
         refine op (OpS.pick rfl rfl rfl rfl ?_)
         refine op (OpS.mv rfl rfl rfl ?_)
         refine RunL.caseb hF (fun e28 hF => ?_) (fun e28 hF => ?_)
         ·
          refine op (OpS.fbox (o3 := 7) h83 (.s (.s (.s (.s .z)))) PA.z fa37_7 rfl rfl rfl rfl ?_)
          refine op (OpS.loadBi h83 (.s (.s (.s (.s .z)))) PA.a (Get.fld Message_.f7) ty5 rfl rfl rfl ?_)
          refine op (OpS.bin rfl rfl rfl rfl rfl ?_)
          refine op (OpS.pick rfl rfl rfl rfl ?_)
          refine op (OpS.mv rfl rfl rfl ?_)
          refine RunL.caseb hF (fun e29 hF => ?_) (fun e29 hF => ?_)
          ·
           refine op (OpS.mv rfl rfl rfl ?_)
           refine op (OpS.len h83 Try.underlying22 rfl rfl rfl (V.at (.s (.s (.s (.s (.s (.s (.s (.s (.s (.s (.s (.s (.s (.s (.s (.s .z))))))))))))))))) ?_)
           refine op (OpS.bin rfl rfl rfl rfl rfl ?_)
           refine op (OpS.pick rfl rfl rfl rfl ?_)
           refine op (OpS.mv rfl rfl rfl ?_)
           refine RunL.caseb hF (fun e30 hF => ?_) (fun e30 hF => ?_)
           ·
            refine op (OpS.mv rfl rfl rfl ?_)
            refine op (OpS.len h83 Try.underlying22 rfl rfl rfl (V.at (.s (.s (.s .z)))) ?_)
            refine op (OpS.bin rfl rfl rfl rfl rfl ?_)
            refine op (OpS.pick rfl rfl rfl rfl ?_)
            refine op (OpS.mv rfl rfl rfl ?_)
            refine RunL.caseb hF (fun e31 hF => ?_) (fun e31 hF => ?_)
            ·
             refine op (OpS.mv rfl rfl rfl ?_)
             refine op (OpS.pick rfl rfl rfl rfl ?_)
             refine op (OpS.mv rfl rfl rfl ?_)
             refine RunL.caseb hF (fun e32 hF => ?_) (fun e32 hF => ?_)
             ·
              refine op (OpS.loadB h83 (.s (.s .z)) PA.z Get.id ty29 rfl rfl rfl (fun u32 h84 => ?_))
              obtain ⟨y12, e33, hF⟩ := bindP_use hF
              refine op (OpS.callP h84 Try.func20 rfl rfl rfl rfl (vs := [u32]) rfl (responder_Valid_ok e33) (.cons (f := false) (V.at .z) .nil) ?_)
              rintro _ w38 _ _ _ ⟨rfl, rfl, rfl, rfl⟩ h85
              have h86 := h85 rfl rfl
              simp only [List.cons_append, List.nil_append] at h86
              refine op (OpS.pick rfl rfl rfl rfl ?_)
              refine op (OpS.as rfl rfl rfl ?_)
              refine RunL.nil ?_
              refine Run.slim [(4, .bool y12)] ⟨rfl, trivial⟩ ?_
              refine Run.retP rfl (.tmp rfl .nil) ?_
              cases hF
              exact Post.mk' ⟨rfl, rfl, rfl, rfl⟩ (h86.picks .nil) .nil
             ·
              refine op (OpS.pass rfl rfl rfl ?_)
              refine op (OpS.pass rfl rfl rfl ?_)
              refine op (OpS.pick rfl rfl rfl rfl ?_)
              refine op (OpS.as rfl rfl rfl ?_)
              refine RunL.nil ?_
              refine Run.slim [(4, .bool false)] ⟨rfl, trivial⟩ ?_
              refine Run.retP rfl (.tmp rfl .nil) ?_
              cases hF
              exact Post.mk' ⟨rfl, rfl, rfl, rfl⟩ (h83.picks .nil) .nil
            ·
             refine op (OpS.pass rfl rfl rfl ?_)
             refine op (OpS.pick rfl rfl rfl rfl ?_)
             refine op (OpS.mv rfl rfl rfl ?_)
             refine op (OpS.pass rfl rfl rfl ?_)
             refine op (OpS.pass rfl rfl rfl ?_)
             refine op (OpS.pick rfl rfl rfl rfl ?_)
             refine op (OpS.as rfl rfl rfl ?_)
             refine RunL.nil ?_
             refine Run.slim [(4, .bool false)] ⟨rfl, trivial⟩ ?_
             refine Run.retP rfl (.tmp rfl .nil) ?_
             cases hF
             exact Post.mk' ⟨rfl, rfl, rfl, rfl⟩ (h83.picks .nil) .nil
           ·
            refine op (OpS.pass rfl rfl rfl ?_)
            refine op (OpS.pass rfl rfl rfl ?_)
            refine op (OpS.pass rfl rfl rfl ?_)
            refine op (OpS.pick rfl rfl rfl rfl ?_)
            refine op (OpS.mv rfl rfl rfl ?_)
            refine op (OpS.pass rfl rfl rfl ?_)
            refine op (OpS.pick rfl rfl rfl rfl ?_)
            refine op (OpS.mv rfl rfl rfl ?_)
            refine op (OpS.pass rfl rfl rfl ?_)
            refine op (OpS.pass rfl rfl rfl ?_)
            refine op (OpS.pick rfl rfl rfl rfl ?_)
            refine op (OpS.as rfl rfl rfl ?_)
            refine RunL.nil ?_
            refine Run.slim [(4, .bool false)] ⟨rfl, trivial⟩ ?_
            refine Run.retP rfl (.tmp rfl .nil) ?_
            cases hF
            exact Post.mk' ⟨rfl, rfl, rfl, rfl⟩ (h83.picks .nil) .nil
          ·
           refine op (OpS.pass rfl rfl rfl ?_)
           refine op (OpS.pass rfl rfl rfl ?_)
           refine op (OpS.pass rfl rfl rfl ?_)
           refine op (OpS.pick rfl rfl rfl rfl ?_)
           refine op (OpS.mv rfl rfl rfl ?_)
           refine op (OpS.pass rfl rfl rfl ?_)
           refine op (OpS.pass rfl rfl rfl ?_)
           refine op (OpS.pass rfl rfl rfl ?_)
           refine op (OpS.pick rfl rfl rfl rfl ?_)
           refine op (OpS.mv rfl rfl rfl ?_)
           refine op (OpS.pass rfl rfl rfl ?_)
           refine op (OpS.pick rfl rfl rfl rfl ?_)
           refine op (OpS.mv rfl rfl rfl ?_)
           refine op (OpS.pass rfl rfl rfl ?_)
           refine op (OpS.pass rfl rfl rfl ?_)
           refine op (OpS.pick rfl rfl rfl rfl ?_)
           refine op (OpS.as rfl rfl rfl ?_)
           refine RunL.nil ?_
           refine Run.slim [(4, .bool false)] ⟨rfl, trivial⟩ ?_
           refine Run.retP rfl (.tmp rfl .nil) ?_
           cases hF
           exact Post.mk' ⟨rfl, rfl, rfl, rfl⟩ (h83.picks .nil) .nil
         ·
          refine op (OpS.pass rfl rfl rfl ?_)
          refine op (OpS.pass rfl rfl rfl ?_)
          refine op (OpS.pass rfl rfl rfl ?_)
          refine op (OpS.pick rfl rfl rfl rfl ?_)
          refine op (OpS.mv rfl rfl rfl ?_)
          refine op (OpS.pass rfl rfl rfl ?_)
          refine op (OpS.pass rfl rfl rfl ?_)
          refine op (OpS.pass rfl rfl rfl ?_)
          refine op (OpS.pick rfl rfl rfl rfl ?_)
          refine op (OpS.mv rfl rfl rfl ?_)
          refine op (OpS.pass rfl rfl rfl ?_)
          refine op (OpS.pass rfl rfl rfl ?_)
          refine op (OpS.pass rfl rfl rfl ?_)
          refine op (OpS.pick rfl rfl rfl rfl ?_)
          refine op (OpS.mv rfl rfl rfl ?_)
          refine op (OpS.pass rfl rfl rfl ?_)
          refine op (OpS.pick rfl rfl rfl rfl ?_)
          refine op (OpS.mv rfl rfl rfl ?_)
          refine op (OpS.pass rfl rfl rfl ?_)
          refine op (OpS.pass rfl rfl rfl ?_)
          refine op (OpS.pick rfl rfl rfl rfl ?_)
          refine op (OpS.as rfl rfl rfl ?_)
          refine RunL.nil ?_
          refine Run.slim [(4, .bool false)] ⟨rfl, trivial⟩ ?_
          refine Run.retP rfl (.tmp rfl .nil) ?_
          cases hF
          exact Post.mk' ⟨rfl, rfl, rfl, rfl⟩ (h83.picks .nil) .nil
        ·
         refine op (OpS.pass rfl rfl rfl ?_)
         refine op (OpS.pass rfl rfl rfl ?_)
         refine op (OpS.pick rfl rfl rfl rfl ?_)
         refine op (OpS.mv rfl rfl rfl ?_)
         refine op (OpS.pass rfl rfl rfl ?_)
         refine op (OpS.pass rfl rfl rfl ?_)
         refine op (OpS.pass rfl rfl rfl ?_)
         refine op (OpS.pick rfl rfl rfl rfl ?_)
         refine op (OpS.mv rfl rfl rfl ?_)
         refine op (OpS.pass rfl rfl rfl ?_)
         refine op (OpS.pass rfl rfl rfl ?_)
         refine op (OpS.pass rfl rfl rfl ?_)
         refine op (OpS.pick rfl rfl rfl rfl ?_)
         refine op (OpS.mv rfl rfl rfl ?_)
         refine op (OpS.pass rfl rfl rfl ?_)
         refine op (OpS.pass rfl rfl rfl ?_)
         refine op (OpS.pass rfl rfl rfl ?_)
         refine op (OpS.pick rfl rfl rfl rfl ?_)
         refine op (OpS.mv rfl rfl rfl ?_)
         refine op (OpS.pass rfl rfl rfl ?_)
         refine op (OpS.pick rfl rfl rfl rfl ?_)
         refine op (OpS.mv rfl rfl rfl ?_)
         refine op (OpS.pass rfl rfl rfl ?_)
         refine op (OpS.pass rfl rfl rfl ?_)
         refine op (OpS.pick rfl rfl rfl rfl ?_)
         refine op (OpS.as rfl rfl rfl ?_)
         refine RunL.nil ?_
         refine Run.slim [(4, .bool false)] ⟨rfl, trivial⟩ ?_
         refine Run.retP rfl (.tmp rfl .nil) ?_
         cases hF
         exact Post.mk' ⟨rfl, rfl, rfl, rfl⟩ (h83.picks .nil) .nil
       ·
        refine op (OpS.pass rfl rfl rfl ?_)
        refine op (OpS.pass rfl rfl rfl ?_)
        refine op (OpS.pick rfl rfl rfl rfl ?_)
        refine op (OpS.mv rfl rfl rfl ?_)
        refine op (OpS.pass rfl rfl rfl ?_)
        refine op (OpS.pass rfl rfl rfl ?_)
        refine op (OpS.pick rfl rfl rfl rfl ?_)
        refine op (OpS.mv rfl rfl rfl ?_)
        refine op (OpS.pass rfl rfl rfl ?_)
        refine op (OpS.pass rfl rfl rfl ?_)
        refine op (OpS.pass rfl rfl rfl ?_)
        refine op (OpS.pick rfl rfl rfl rfl ?_)
        refine op (OpS.mv rfl rfl rfl ?_)
        refine op (OpS.pass rfl rfl rfl ?_)
        refine op (OpS.pass rfl rfl rfl ?_)
        refine op (OpS.pass rfl rfl rfl ?_)
        refine op (OpS.pick rfl rfl rfl rfl ?_)
        refine op (OpS.mv rfl rfl rfl ?_)
        refine op (OpS.pass rfl rfl rfl ?_)
        refine op (OpS.pass rfl rfl rfl ?_)
        refine op (OpS.pass rfl rfl rfl ?_)
        refine op (OpS.pick rfl rfl rfl rfl ?_)
        refine op (OpS.mv rfl rfl rfl ?_)
        refine op (OpS.pass rfl rfl rfl ?_)
        refine op (OpS.pick rfl rfl rfl rfl ?_)
        refine op (OpS.mv rfl rfl rfl ?_)
        refine op (OpS.pass rfl rfl rfl ?_)
        refine op (OpS.pass rfl rfl rfl ?_)
        refine op (OpS.pick rfl rfl rfl rfl ?_)
        refine op (OpS.as rfl rfl rfl ?_)
        refine RunL.nil ?_
        refine Run.slim [(4, .bool false)] ⟨rfl, trivial⟩ ?_
        refine Run.retP rfl (.tmp rfl .nil) ?_
        cases hF
        exact Post.mk' ⟨rfl, rfl, rfl, rfl⟩ (h83.picks .nil) .nil
      ·
       refine op (OpS.pass rfl rfl rfl ?_)
       refine op (OpS.pass rfl rfl rfl ?_)
       refine op (OpS.pick rfl rfl rfl rfl ?_)
       refine op (OpS.mv rfl rfl rfl ?_)
       refine op (OpS.pass rfl rfl rfl ?_)
       refine op (OpS.pass rfl rfl rfl ?_)
       refine op (OpS.pick rfl rfl rfl rfl ?_)
       refine op (OpS.mv rfl rfl rfl ?_)
       refine op (OpS.pass rfl rfl rfl ?_)
       refine op (OpS.pass rfl rfl rfl ?_)
       refine op (OpS.pick rfl rfl rfl rfl ?_)
       refine op (OpS.mv rfl rfl rfl ?_)
       refine op (OpS.pass rfl rfl rfl ?_)
       refine op (OpS.pass rfl rfl rfl ?_)
       refine op (OpS.pass rfl rfl rfl ?_)
       refine op (OpS.pick rfl rfl rfl rfl ?_)
       refine op (OpS.mv rfl rfl rfl ?_)
       refine op (OpS.pass rfl rfl rfl ?_)
       refine op (OpS.pass rfl rfl rfl ?_)
       refine op (OpS.pass rfl rfl rfl ?_)
       refine op (OpS.pick rfl rfl rfl rfl ?_)
       refine op (OpS.mv rfl rfl rfl ?_)
       refine op (OpS.pass rfl rfl rfl ?_)
       refine op (OpS.pass rfl rfl rfl ?_)
       refine op (OpS.pass rfl rfl rfl ?_)
       refine op (OpS.pick rfl rfl rfl rfl ?_)
       refine op (OpS.mv rfl rfl rfl ?_)
       refine op (OpS.pass rfl rfl rfl ?_)
       refine op (OpS.pick rfl rfl rfl rfl ?_)
       refine op (OpS.mv rfl rfl rfl ?_)
       refine op (OpS.pass rfl rfl rfl ?_)
       refine op (OpS.pass rfl rfl rfl ?_)
       refine op (OpS.pick rfl rfl rfl rfl ?_)
       refine op (OpS.as rfl rfl rfl ?_)
       refine RunL.nil ?_
       refine Run.slim [(4, .bool false)] ⟨rfl, trivial⟩ ?_
       refine Run.retP rfl (.tmp rfl .nil) ?_
       cases hF
       exact Post.mk' ⟨rfl, rfl, rfl, rfl⟩ (h83.picks .nil) .nil
     ·
      refine op (OpS.pass rfl rfl rfl ?_)
      refine op (OpS.pass rfl rfl rfl ?_)
      refine op (OpS.pick rfl rfl rfl rfl ?_)
      refine op (OpS.mv rfl rfl rfl ?_)
      refine op (OpS.pass rfl rfl rfl ?_)
      refine op (OpS.pass rfl rfl rfl ?_)
      refine op (OpS.pick rfl rfl rfl rfl ?_)
      refine op (OpS.mv rfl rfl rfl ?_)
      refine op (OpS.pass rfl rfl rfl ?_)
      refine op (OpS.pass rfl rfl rfl ?_)
      refine op (OpS.pick rfl rfl rfl rfl ?_)
      refine op (OpS.mv rfl rfl rfl ?_)
      refine op (OpS.pass rfl rfl rfl ?_)
      refine op (OpS.pass rfl rfl rfl ?_)
      refine op (OpS.pick rfl rfl rfl rfl ?_)
      refine op (OpS.mv rfl rfl rfl ?_)
      refine op (OpS.pass rfl rfl rfl ?_)
      refine op (OpS.pass rfl rfl rfl ?_)
      refine op (OpS.pass rfl rfl rfl ?_)
      refine op (OpS.pick rfl rfl rfl rfl ?_)
      refine op (OpS.mv rfl rfl rfl ?_)
      refine op (OpS.pass rfl rfl rfl ?_)
      refine op (OpS.pass rfl rfl rfl ?_)
      refine op (OpS.pass rfl rfl rfl ?_)
      refine op (OpS.pick rfl rfl rfl rfl ?_)
      refine op (OpS.mv rfl rfl rfl ?_)
      refine op (OpS.pass rfl rfl rfl ?_)
      refine op (OpS.pass rfl rfl rfl ?_)
      refine op (OpS.pass rfl rfl rfl ?_)
      refine op (OpS.pick rfl rfl rfl rfl ?_)
      refine op (OpS.mv rfl rfl rfl ?_)
      refine op (OpS.pass rfl rfl rfl ?_)
      refine op (OpS.pick rfl rfl rfl rfl ?_)
      refine op (OpS.mv rfl rfl rfl ?_)
      refine op (OpS.pass rfl rfl rfl ?_)
      refine op (OpS.pass rfl rfl rfl ?_)
      refine op (OpS.pick rfl rfl rfl rfl ?_)
      refine op (OpS.as rfl rfl rfl ?_)
      refine RunL.nil ?_
      refine Run.slim [(4, .bool false)] ⟨rfl, trivial⟩ ?_
      refine Run.retP rfl (.tmp rfl .nil) ?_
      cases hF
      exact Post.mk' ⟨rfl, rfl, rfl, rfl⟩ (h83.picks .nil) .nil
end Lift
