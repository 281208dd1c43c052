/- Each Go function computes its plain function. Written by lift.py. -/
import Derived.Test.YtlfbpnoempdiiaaResponderOnceWalksA
set_option linter.unusedVariables false
set_option linter.unusedSimpArgs false
namespace Lift
open Go Go.Proofs
open RunL (op)
set_option maxHeartbeats 8000000 in
theorem responder_Accept_ok {fuel : Nat} {a0 : Responder_} {a1 : List Int} {a2 : Int} {y : Responder_ × (List Int) × Int} (hF : responder_Accept fuel a0 a1 a2 = some y) {w : World} {v0 v1 : Value} :
  Spec Try.prog 14 [v0, v1, .int .i64 a2].toArray w [(false, .val Responder_.rep v0 a0), (false, .val (Rep.slice (Rep.int .u8)) v1 a1)] [] (fun v Γr Ωr Ωo => ∃ u0 u1 : Value, v = .tuple #[u0, u1, .int .i64 y.2.2] ∧ Γr = [(false, .val Responder_.rep u0 y.1), (true, .val (Rep.slice (Rep.int .u8)) u1 y.2.1)] ∧ Ωr = [] ∧ Ωo = []) := by
 refine Spec.of (L := [(0, v0), (1, v1), (2, .int .i64 a2)]) Try.func14 rfl ⟨rfl, rfl, rfl, trivial⟩ rfl (fun e h => ?_)
 unfold responder_Accept at hF
 refine Run.seq ?_
 refine Run.reg ?_
 refine op (OpS.boxF h rfl rfl rfl (V.at .z) (fun u1 w1 h1 => ?_))
 refine op (OpS.alloc h1 ti29 Responder_.zr rfl rfl (fun u2 w2 h2 => ?_))
 refine op (OpS.as rfl rfl rfl ?_)
 refine op (OpS.as rfl rfl rfl ?_)
 refine RunL.nil ?_
 refine Run.slim [(6, u2), (3, u1), (1, v1), (2, .int .i64 a2)] ⟨rfl, rfl, rfl, rfl, trivial⟩ ?_
 refine Run.seq ?_
 refine Run.seq ?_
 refine Run.reg ?_
 refine op (OpS.loadB h2 (.s .z) PA.z Get.id ty29 rfl rfl rfl (fun u3 h3 => ?_))
 obtain ⟨y1, e1, hF⟩ := bindP_use hF
 refine op (OpS.callP h3 Try.func20 rfl rfl rfl rfl (vs := [u3]) rfl (responder_Valid_ok e1) (.cons (f := false) (V.at .z) .nil) ?_)
 rintro _ w3 _ _ _ ⟨rfl, rfl, rfl, rfl⟩ h4
 have h5 := h4 rfl rfl
 simp only [List.cons_append, List.nil_append] at h5
 refine op (OpS.not rfl rfl rfl ?_)
 refine RunL.nil ?_
 refine Run.slim [(18, .bool (!y1)), (6, u2), (3, u1), (1, v1), (2, .int .i64 a2)] ⟨rfl, rfl, rfl, rfl, rfl, trivial⟩ ?_
 refine Run.ite rfl hF (fun e2 hF => ?_) (fun e2 hF => ?_)
 ·
  refine Run.seq ?_
  refine Run.reg ?_
  refine op (OpS.build (f := true) (x' := Responder_.z) h5 pl29 ti29 Responder_.zr rfl rfl rfl .nil (fun u4 h6 => ?_))
  refine op (OpS.storeB (f' := true) h6 .z PA.z Put.id ty29 rfl rfl rfl (V.at .z) (.inl rfl) (fun w4 h7 => ?_))
  refine op (OpS.as rfl rfl rfl ?_)
  refine op (OpS.as rfl rfl rfl ?_)
  refine RunL.nil ?_
  refine Run.slim [(8, .int .i64 1), (7, .slice none 0 0), (6, u2)] ⟨rfl, rfl, rfl, trivial⟩ ?_
  obtain ⟨u5, hu1, h8⟩ := res_box h7 .z ty29
  refine Run.retP rfl (.cell rfl hu1 (.tmp rfl (.tmp rfl .nil))) ?_
  cases hF
  exact Post.mk' ⟨u5, .slice none 0 0, rfl, rfl, rfl, rfl⟩ (h8.picks .nil) (.val (V.weak (V.at .z)) (.val V.nil .nil))
 ·
  refine Run.skip ?_
  refine Run.seq ?_
  refine Run.seq ?_
  refine Run.reg ?_
  refine op (OpS.mv rfl rfl rfl ?_)
  refine op (OpS.bin rfl rfl rfl rfl rfl ?_)
  refine op (OpS.mv rfl rfl rfl ?_)
  refine RunL.join (σ := Bool) (fun s_ L_ w_ => L_ = [(1, v1), (2, .int .i64 a2), (3, u1), (6, u2), (25, .bool s_)] ∧ St e w_ [(false, .val (Rep.slice (Rep.int .u8)) v1 a1)] [(false, .box 29 Responder_.rep u1 a0), (true, .box 29 Responder_.rep u2 Responder_.z)]) hF (fun s1 _ w5 hI hF => ?_) (fun j1 hj1 hF => ?_)
  ·
   obtain ⟨rfl, h9⟩ := hI
   refine Run.ite rfl hF (fun e3 hF => ?_) (fun e3 hF => ?_)
   ·
    refine Run.seq ?_
    refine Run.reg ?_
    refine op (OpS.build (f := true) (x' := Responder_.z) h9 pl29 ti29 Responder_.zr rfl rfl rfl .nil (fun u6 h10 => ?_))
    refine op (OpS.storeB (f' := true) h10 (.s .z) PA.z Put.id ty29 rfl rfl rfl (V.at .z) (.inl rfl) (fun w6 h11 => ?_))
    refine op (OpS.as rfl rfl rfl ?_)
    refine op (OpS.as rfl rfl rfl ?_)
    refine RunL.nil ?_
    refine Run.slim [(8, .int .i64 2), (7, .slice none 0 0), (6, u2)] ⟨rfl, rfl, rfl, trivial⟩ ?_
    obtain ⟨u7, hu2, h12⟩ := res_box h11 .z ty29
    refine Run.retP rfl (.cell rfl hu2 (.tmp rfl (.tmp rfl .nil))) ?_
    cases hF
    exact Post.mk' ⟨u7, .slice none 0 0, rfl, rfl, rfl, rfl⟩ (h12.picks .nil) (.val (V.weak (V.at .z)) (.val V.nil .nil))
   ·
    refine Run.skip ?_
    refine Run.seq ?_
    refine Run.reg ?_
    refine op (OpS.mv rfl rfl rfl ?_)
    obtain ⟨y2, e4, hF⟩ := bindP_use hF
    refine op (OpS.callP h9 Try.func18 rfl rfl rfl rfl (vs := [v1]) rfl (message_ParseRequest_ok e4) (.cons (f := false) (V.at .z) .nil) ?_)
    rintro _ w7 _ _ _ ⟨u8, rfl, rfl, rfl, rfl⟩ h13
    have h14 := h13 rfl rfl
    simp only [List.cons_append, List.nil_append] at h14
    refine op (OpS.mv rfl rfl rfl ?_)
    refine op (OpS.ext rfl rfl rfl rfl ?_)
    refine op (OpS.ext rfl rfl rfl rfl ?_)
    refine op (OpS.alloc h14 ti37 Message_.zr rfl rfl (fun u9 w8 h15 => ?_))
    refine op (OpS.storeB (f' := true) h15 .z PA.z Put.id ty37 rfl rfl rfl (V.at .z) (.inl rfl) (fun w9 h16 => ?_))
    refine op (OpS.as rfl rfl rfl ?_)
    refine RunL.nil ?_
    refine Run.slim [(10, .int .i64 y2.2), (9, u9), (2, .int .i64 a2), (3, u1), (6, u2)] ⟨rfl, rfl, rfl, rfl, rfl, trivial⟩ ?_
    refine Run.seq ?_
    refine Run.seq ?_
    refine Run.reg ?_
    refine op (OpS.mv rfl rfl rfl ?_)
    refine op (OpS.bin rfl rfl rfl rfl rfl ?_)
    refine RunL.nil ?_
    refine Run.slim [(33, .bool (y2.2 != 0)), (10, .int .i64 y2.2), (9, u9), (2, .int .i64 a2), (3, u1), (6, u2)] ⟨rfl, rfl, rfl, rfl, rfl, rfl, trivial⟩ ?_
    refine Run.ite rfl hF (fun e5 hF => ?_) (fun e5 hF => ?_)
    ·
     refine Run.seq ?_
     refine Run.reg ?_
     refine op (OpS.build (f := true) (x' := Responder_.z) h16 pl29 ti29 Responder_.zr rfl rfl rfl .nil (fun u10 h17 => ?_))
     refine op (OpS.mv rfl rfl rfl ?_)
     refine op (OpS.storeB (f' := true) h17 (.s (.s .z)) PA.z Put.id ty29 rfl rfl rfl (V.at .z) (.inl rfl) (fun w10 h18 => ?_))
     refine op (OpS.as rfl rfl rfl ?_)
     refine op (OpS.as rfl rfl rfl ?_)
     refine RunL.nil ?_
     refine Run.slim [(8, .int .i64 y2.2), (7, .slice none 0 0), (6, u2)] ⟨rfl, rfl, rfl, trivial⟩ ?_
     obtain ⟨u11, hu3, h19⟩ := res_box h18 .z ty29
     refine Run.retP rfl (.cell rfl hu3 (.tmp rfl (.tmp rfl .nil))) ?_
     cases hF
     exact Post.mk' ⟨u11, .slice none 0 0, rfl, rfl, rfl, rfl⟩ (h19.picks .nil) (.val (V.weak (V.at .z)) (.val V.nil .nil))
    ·
     refine Run.skip ?_
     refine Run.seq ?_
     refine Run.seq ?_
     refine Run.reg ?_
     refine op (OpS.fbox (o3 := 0) h16 .z PA.z fa37_0 rfl rfl rfl rfl ?_)
     refine op (OpS.loadBi h16 .z PA.a (Get.fld Message_.f0) ty5 rfl rfl rfl ?_)
     refine op (OpS.fbox (o3 := 0) h16 (.s .z) PA.z fa29_0 rfl rfl rfl rfl ?_)
     refine op (OpS.loadBi h16 (.s .z) PA.a (Get.fld Responder_.f0) ty5 rfl rfl rfl ?_)
     refine op (OpS.bin rfl rfl rfl rfl rfl ?_)
     refine RunL.nil ?_
     refine Run.slim [(40, .bool (y2.1.To != a0.Own)), (9, u9), (2, .int .i64 a2), (3, u1), (6, u2)] ⟨rfl, rfl, rfl, rfl, rfl, trivial⟩ ?_
     refine Run.ite rfl hF (fun e6 hF => ?_) (fun e6 hF => ?_)
     ·
      refine Run.seq ?_
      refine Run.reg ?_
      refine op (OpS.build (f := true) (x' := Responder_.z) h16 pl29 ti29 Responder_.zr rfl rfl rfl .nil (fun u12 h20 => ?_))
      refine op (OpS.storeB (f' := true) h20 (.s (.s .z)) PA.z Put.id ty29 rfl rfl rfl (V.at .z) (.inl rfl) (fun w11 h21 => ?_))
      refine op (OpS.as rfl rfl rfl ?_)
      refine op (OpS.as rfl rfl rfl ?_)
      refine RunL.nil ?_
      refine Run.slim [(8, .int .i64 13), (7, .slice none 0 0), (6, u2)] ⟨rfl, rfl, rfl, trivial⟩ ?_
      obtain ⟨u13, hu4, h22⟩ := res_box h21 .z ty29
      refine Run.retP rfl (.cell rfl hu4 (.tmp rfl (.tmp rfl .nil))) ?_
      cases hF
      exact Post.mk' ⟨u13, .slice none 0 0, rfl, rfl, rfl, rfl⟩ (h22.picks .nil) (.val (V.weak (V.at .z)) (.val V.nil .nil))
     ·
      refine Run.skip ?_
      refine Run.seq ?_
      refine Run.reg ?_
      refine op (OpS.loadB h16 (.s .z) PA.z Get.id ty29 rfl rfl rfl (fun u14 h23 => ?_))
      refine op (OpS.mv rfl rfl rfl ?_)
      obtain ⟨y3, e7, hF⟩ := bindP_use hF
      have h24 := h23.front .nil
      refine op (OpS.callO h24 Try.func37 rfl rfl rfl rfl (vs := [u14, .int .i64 a2]) rfl (responder_fresh_ok e7) rfl (.cons (f := false) (V.at .z) .nil) ?_)
      rintro u15 w12 _ _ _ ⟨_, u16, u17, rfl, rfl, rfl, rfl⟩ h25
      have h26 := h25
      simp only [List.cons_append, List.nil_append] at h26
      have h27 := St.nil 37 Message_.rep h26
      refine op (OpS.alloc (r := (Rep.iso (fun s : Responder_ => (s.Own, s.Queue, s.Memory, ())) (Rep.prod (Rep.int .u8) (Rep.prod (Rep.raw (.slice none 0 0)) (Rep.prod (Rep.slice Memory_.rep) Rep.unit))))) h27 ti29 (Zr.iso (y := Responder_.z) _ (Zr.of (Zr.prod (Zr.int .u8 0) (Zr.prod (Zr.raw rfl _) (Zr.prod (Zr.slice Memory_.rep) Zr.unit))) (by rfl))) rfl rfl (fun u18 w13 h28 => ?_))
      refine op (OpS.storeC (f' := true) (fr := (Rep.iso (fun s : Responder_ => (s.Own, s.Queue, s.Memory, ())) (Rep.prod (Rep.int .u8) (Rep.prod (Rep.raw u16) (Rep.prod (Rep.raw u17) Rep.unit))))) (r' := (Rep.iso (fun s : Responder_ => (s.Own, s.Queue, s.Memory, ())) (Rep.prod (Rep.int .u8) (Rep.prod (Rep.raw u16) (Rep.prod (Rep.raw u17) Rep.unit))))) (x' := y3) h28 .z PA.z (Chg.id (by rfl)) (Ty.like ty29 (by rfl) (by rfl)) rfl rfl rfl (V.pure (V.at .z) (Pure.iso (Pure.prod Pure.int (Pure.prod Pure.raw (Pure.prod Pure.raw Pure.unit))))) (.inl rfl) (fun w14 h29 => ?_))
      refine RunL.nil ?_
      refine Run.slim [(11, u18), (9, u9), (6, u2)] ⟨rfl, rfl, rfl, trivial⟩ ?_
      refine Run.seq ?_
      refine Run.reg ?_
      refine op (OpS.loadB h29 (.s (.s (.s (.s .z)))) PA.z Get.id ty37 rfl rfl rfl (fun u19 h30 => ?_))
      refine op (OpS.mkf (fl := [u19]) (cl := []) rfl rfl rfl rfl ?_)
      refine op (OpS.alloc (r := Rep.raw (α := Unit) .nilFunc) h30 ti66 (Zr.raw rfl ()) rfl rfl (fun u20 w15 h31 => ?_))
      refine op (OpS.storeC (f' := true) (fr := (Rep.raw (α := Unit) (.func (.func 38) #[u19] #[]))) (r' := (Rep.raw (α := Unit) (.func (.func 38) #[u19] #[]))) (x' := ()) (y := ()) h31 .z PA.z (Chg.id (by rfl)) tyf66 rfl rfl rfl (V.raw (f := true) rfl ()) (.inl rfl) (fun w16 h32 => ?_))
      refine RunL.nil ?_
      refine Run.slim [(12, u20), (11, u18), (9, u9), (6, u2)] ⟨rfl, rfl, rfl, rfl, trivial⟩ ?_
      refine Run.seq ?_
      refine Run.seq ?_
      refine Run.reg ?_
      refine op (OpS.fbox (o3 := 2) h32 (.s .z) PA.z fa29_2 rfl rfl rfl rfl ?_)
      refine op (OpS.loadR h32 (.s .z) PA.a (GetS.ok (GetS.iso _ (GetS.there (GetS.there (GetS.here GetS.id))))) ty27 rfl rfl rfl rfl rfl ?_)
      refine op (OpS.mkf (fl := []) (cl := [u20]) rfl rfl rfl rfl ?_)
      obtain ⟨y4, e8, hF⟩ := bindP_use hF
      refine op (OpS.callP h32 Try.func39 rfl rfl rfl rfl (vs := [u17, .func (.func 40) #[] #[u20]]) rfl (slices_IndexFunc_api_Memory_api_Memory_responder_Accept_1_ok e8) (.own (.s (.s (.s (.s .z)))) (.cons (f := true) (V.at .z) (.box .z .nil))) ?_)
      rintro _ w17 _ _ _ ⟨rfl, rfl, rfl, rfl⟩ h33
      have h34 := h33 rfl rfl
      simp only [List.cons_append, List.nil_append] at h34
      refine op (OpS.as rfl rfl rfl ?_)
      refine RunL.nil ?_
      refine Run.slim [(13, .int .i64 y4), (12, u20), (11, u18), (9, u9), (6, u2)] ⟨rfl, rfl, rfl, rfl, rfl, trivial⟩ ?_
      refine Run.seq ?_
      refine Run.reg ?_
      refine op (OpS.mv rfl rfl rfl ?_)
      refine op (OpS.bin rfl rfl rfl rfl rfl ?_)
      refine RunL.nil ?_
      refine Run.slim [(52, .bool (decide (y4 ≥ 0))), (13, .int .i64 y4), (12, u20), (11, u18), (9, u9), (6, u2)] ⟨rfl, rfl, rfl, rfl, rfl, rfl, trivial⟩ ?_
      refine Run.ite rfl hF (fun e9 hF => ?_) (fun e9 hF => ?_)
      ·
       refine Run.seq ?_
       have h35 := (h34.pick (.s (.s (.s .z)))).freeze
       have h36 := h35.pick (.s .z)
       have h37 := h36.weak
       have h38 := St.boxJ (r' := (Rep.iso (fun s : Responder_ => (s.Own, s.Queue, s.Memory, ())) (Rep.prod (Rep.int .u8) (Rep.prod (Rep.slice Message_.rep) (Rep.prod (Rep.raw u17) Rep.unit))))) (x' := { y3 with Queue := y3.Queue }) h37 (fun _ _ hs_ => (Jn.iso _ (Jn.prod Jn.refl (Jn.prod (Jn.raw ((V.at .z) _ _ hs_) rfl) (Jn.prod Jn.same Jn.refl)))))
       have h39 := (h38.pick (.s (.s (.s .z)))).freeze
       have h40 := h39.pick .z
       have h41 := St.boxJ (r' := Responder_.rep) (x' := { { y3 with Queue := y3.Queue } with Memory := y3.Memory }) h40 (fun _ _ hs_ => (Jn.iso _ (Jn.prod Jn.refl (Jn.prod Jn.refl (Jn.prod (Jn.raw ((V.at .z) _ _ hs_) rfl) Jn.refl)))))
       have h42 := h41.picks (.cons .z (.cons (.s (.s (.s (.s .z)))) (.cons .z (.cons .z (.cons .z (.cons .z .nil))))))
       obtain ⟨x1, e10, hF⟩ := bindP_use hF
       obtain ⟨y5, e11, hF⟩ := bindP_use hF
       obtain ⟨d1, e12, hF⟩ := letP_use hF
       refine Run.drawV (Ωs := [(true, .box 66 (Rep.raw (α := Unit) (.func (.func 38) #[u19] #[])) u20 ()), (true, .slice 37 Message_.rep (.slice none 0 0) ([])), (true, .box 37 Message_.rep u9 y2.1), (false, .box 29 Responder_.rep u1 a0)]) [⟨some 53, none, fun u_ => [(false, .val Responder_.rep u_ ({ { y3 with Queue := y3.Queue } with Memory := y3.Memory }))], fun ds_ u_ => [], [], [(0, [])], none⟩, ⟨some 54, some ((padd u18 2)), fun _ => [], fun ds_ u_ => [], [], [(0, [])], none⟩, ⟨some 55, none, fun u_ => [(false, .val (Rep.slice Memory_.rep) u_ (({ { y3 with Queue := y3.Queue } with Memory := y3.Memory }).Memory))], fun ds_ u_ => [], [], [(0, [])], none⟩, ⟨some 56, some (.int .i64 y4), fun _ => [], fun ds_ u_ => [], [], [], none⟩, ⟨some 57, none, fun u_ => [(false, .ptr Memory_.rep u_ x1)], fun ds_ u_ => [], [], [], none⟩, ⟨some 58, none, fun u_ => [(false, .ptr (Rep.slice (Rep.int .u8)) u_ x1.Reply)], fun ds_ u_ => [], [], [], none⟩, ⟨some 59, none, fun u_ => [(false, .val (Rep.slice (Rep.int .u8)) u_ x1.Reply)], fun ds_ u_ => [], [], [], none⟩, ⟨some 60, none, fun u_ => [(true, .val (Rep.slice (Rep.int .u8)) u_ y5)], fun ds_ u_ => [], [], [], none⟩, ⟨none, some undef, fun _ => [], fun ds_ u_ => [(false, .box 29 Responder_.rep u2 d1)], [1], [], none⟩] [[], [], [1], [], [2, 3], [4], [5], [6], [0]] [[(false, .box 29 Responder_.rep u18 ({ { y3 with Queue := y3.Queue } with Memory := y3.Memory }))], [(true, .box 29 Responder_.rep u2 Responder_.z)]] [0, 2, 3, 4, 5, 6, 7, 8, 9, 10] Try_mixed rfl rfl rfl h42 (.cons ?_ (.cons ?_ (.cons ?_ (.cons ?_ (.cons ?_ (.cons ?_ (.cons ?_ (.cons ?_ (.cons ?_ .nil))))))))) (fun q1 w hq1 h => ?_)
       ·intro q1 w Γx Ωx h
        have h : St e w ([(false, .val (Rep.slice Memory_.rep) u17 y3.Memory), (false, .val (Rep.slice Message_.rep) u16 y3.Queue), (true, .val Message_.rep u19 y2.1), (false, .val (Rep.iso (fun s : Responder_ => (s.Own, s.Queue, s.Memory, ())) (Rep.prod (Rep.int .u8) (Rep.prod (Rep.raw u16) (Rep.prod (Rep.raw u17) Rep.unit)))) u15 y3), (false, .val Responder_.rep u14 a0), (true, .val Message_.rep u8 y2.1), (false, .val (Rep.slice (Rep.int .u8)) v1 a1)] ++ Γx) ([(false, .box 29 Responder_.rep u18 ({ { y3 with Queue := y3.Queue } with Memory := y3.Memory })), (true, .box 66 (Rep.raw (α := Unit) (.func (.func 38) #[u19] #[])) u20 ()), (true, .slice 37 Message_.rep (.slice none 0 0) ([])), (true, .box 37 Message_.rep u9 y2.1), (false, .box 29 Responder_.rep u1 a0)] ++ Ωx) := h
        refine OpS.loadB h .z PA.z Get.id ty29 rfl rfl rfl (fun u h53 => ?_)
        exact ⟨u, rfl, trivial, h53⟩
       ·intro q1 w Γx Ωx h
        have h : St e w ([(false, .val (Rep.slice Memory_.rep) u17 y3.Memory), (false, .val (Rep.slice Message_.rep) u16 y3.Queue), (true, .val Message_.rep u19 y2.1), (false, .val (Rep.iso (fun s : Responder_ => (s.Own, s.Queue, s.Memory, ())) (Rep.prod (Rep.int .u8) (Rep.prod (Rep.raw u16) (Rep.prod (Rep.raw u17) Rep.unit)))) u15 y3), (false, .val Responder_.rep u14 a0), (true, .val Message_.rep u8 y2.1), (false, .val (Rep.slice (Rep.int .u8)) v1 a1)] ++ Γx) ([(false, .box 29 Responder_.rep u18 ({ { y3 with Queue := y3.Queue } with Memory := y3.Memory })), (true, .box 66 (Rep.raw (α := Unit) (.func (.func 38) #[u19] #[])) u20 ()), (true, .slice 37 Message_.rep (.slice none 0 0) ([])), (true, .box 37 Message_.rep u9 y2.1), (false, .box 29 Responder_.rep u1 a0)] ++ Ωx) := h
        refine OpS.fbox (o3 := 2) h .z PA.z fa29_2 rfl rfl rfl rfl ?_
        exact ⟨undef, rfl, trivial, h⟩
       ·intro q1 w Γx Ωx h
        have h : St e w ([(false, .val (Rep.slice Memory_.rep) u17 y3.Memory), (false, .val (Rep.slice Message_.rep) u16 y3.Queue), (true, .val Message_.rep u19 y2.1), (false, .val (Rep.iso (fun s : Responder_ => (s.Own, s.Queue, s.Memory, ())) (Rep.prod (Rep.int .u8) (Rep.prod (Rep.raw u16) (Rep.prod (Rep.raw u17) Rep.unit)))) u15 y3), (false, .val Responder_.rep u14 a0), (true, .val Message_.rep u8 y2.1), (false, .val (Rep.slice (Rep.int .u8)) v1 a1)] ++ Γx) ([(false, .box 29 Responder_.rep u18 ({ { y3 with Queue := y3.Queue } with Memory := y3.Memory })), (true, .box 66 (Rep.raw (α := Unit) (.func (.func 38) #[u19] #[])) u20 ()), (true, .slice 37 Message_.rep (.slice none 0 0) ([])), (true, .box 37 Message_.rep u9 y2.1), (false, .box 29 Responder_.rep u1 a0)] ++ Ωx) := h
        refine OpS.loadB h .z PA.a (Get.fld Responder_.f2) ty27 rfl rfl rfl (fun u h54 => ?_)
        exact ⟨u, rfl, trivial, h54⟩
       ·intro q1 w Γx Ωx h
        refine OpS.mv rfl rfl rfl ?_
        exact ⟨undef, rfl, trivial, h⟩
       ·intro q1 w Γx Ωx h
        refine OpS.iptr h Try.underlying27 ty72 rfl rfl rfl rfl (V.at .z) e10 (fun u h55 => ?_)
        exact ⟨u, rfl, trivial, h55⟩
       ·intro q1 w Γx Ωx h
        refine OpS.fptr h fa72_1 Memory_.f1 rfl rfl rfl .z (fun u h56 => ?_)
        exact ⟨u, rfl, trivial, h56⟩
       ·intro q1 w Γx Ωx h
        refine OpS.load h ty22 rfl rfl rfl .z (fun u h57 => ?_)
        exact ⟨u, rfl, trivial, h57⟩
       ·intro q1 w Γx Ωx h
        refine OpS.callP h Try.func41 rfl rfl rfl rfl (vs := [(q1 6)]) rfl (slices_Clone_byte_byte_ok e11) (.cons (f := false) (V.at .z) .nil) ?_
        rintro u w20 _ _ _ ⟨_, rfl, rfl, rfl, rfl⟩ h58
        have h59 := h58 rfl rfl
        simp only [List.cons_append, List.nil_append] at h59
        have h60 := h59.freeze
        exact ⟨u, rfl, trivial, h60⟩
       ·intro q1 w Γx Ωx h
        have h : St e w ([(false, .val Responder_.rep (q1 0) ({ { y3 with Queue := y3.Queue } with Memory := y3.Memory })), (false, .val (Rep.slice Memory_.rep) u17 y3.Memory), (false, .val (Rep.slice Message_.rep) u16 y3.Queue), (true, .val Message_.rep u19 y2.1), (false, .val (Rep.iso (fun s : Responder_ => (s.Own, s.Queue, s.Memory, ())) (Rep.prod (Rep.int .u8) (Rep.prod (Rep.raw u16) (Rep.prod (Rep.raw u17) Rep.unit)))) u15 y3), (false, .val Responder_.rep u14 a0), (true, .val Message_.rep u8 y2.1), (false, .val (Rep.slice (Rep.int .u8)) v1 a1)] ++ Γx) ([(true, .box 29 Responder_.rep u2 Responder_.z), (true, .box 66 (Rep.raw (α := Unit) (.func (.func 38) #[u19] #[])) u20 ()), (true, .slice 37 Message_.rep (.slice none 0 0) ([])), (true, .box 37 Message_.rep u9 y2.1), (false, .box 29 Responder_.rep u1 a0)] ++ Ωx) := h
        have h61 := (h.pick .z).weak
        refine OpS.storeB (f' := false) h61 .z PA.z (Put.of Put.id e12) ty29 rfl rfl rfl (V.at .z) (.inr rfl) (fun w21 h62 => ?_)
        exact ⟨undef, trivial, trivial, h62⟩
       have h63 : St e w [(false, .val Responder_.rep (q1 0) ({ { y3 with Queue := y3.Queue } with Memory := y3.Memory })), (false, .val (Rep.slice Memory_.rep) (q1 2) (({ { y3 with Queue := y3.Queue } with Memory := y3.Memory }).Memory)), (false, .ptr Memory_.rep (q1 4) x1), (false, .ptr (Rep.slice (Rep.int .u8)) (q1 5) x1.Reply), (false, .val (Rep.slice (Rep.int .u8)) (q1 6) x1.Reply), (true, .val (Rep.slice (Rep.int .u8)) (q1 7) y5), (false, .val (Rep.slice Memory_.rep) u17 y3.Memory), (false, .val (Rep.slice Message_.rep) u16 y3.Queue), (true, .val Message_.rep u19 y2.1), (false, .val (Rep.iso (fun s : Responder_ => (s.Own, s.Queue, s.Memory, ())) (Rep.prod (Rep.int .u8) (Rep.prod (Rep.raw u16) (Rep.prod (Rep.raw u17) Rep.unit)))) u15 y3), (false, .val Responder_.rep u14 a0), (true, .val Message_.rep u8 y2.1), (false, .val (Rep.slice (Rep.int .u8)) v1 a1)] [(false, .box 29 Responder_.rep u18 ({ { y3 with Queue := y3.Queue } with Memory := y3.Memory })), (false, .box 29 Responder_.rep u2 d1), (true, .box 66 (Rep.raw (α := Unit) (.func (.func 38) #[u19] #[])) u20 ()), (true, .slice 37 Message_.rep (.slice none 0 0) ([])), (true, .box 37 Message_.rep u9 y2.1), (false, .box 29 Responder_.rep u1 a0)] := h
       refine op (OpS.as rfl rfl rfl ?_)
       refine op (OpS.as rfl rfl rfl ?_)
       refine RunL.nil ?_
       refine Run.slim [(8, .int .i64 0), (7, (q1 7)), (6, u2)] ⟨rfl, rfl, rfl, trivial⟩ ?_
       obtain ⟨u21, hu5, h64⟩ := res_box h63 (.s .z) ty29
       refine Run.retP rfl (.cell rfl hu5 (.tmp rfl (.tmp rfl .nil))) ?_
       cases hF
       exact Post.mk' ⟨u21, (q1 7), rfl, rfl, rfl, rfl⟩ (h64.picks .nil) (.val (V.at .z) (.val (V.at (.s (.s (.s (.s (.s (.s .z))))))) .nil))
      ·
       refine Run.skip ?_
       refine Run.seq ?_
       refine Run.seq ?_
       refine Run.reg ?_
       refine op (OpS.fbox (o3 := 1) h34 (.s .z) PA.z fa29_1 rfl rfl rfl rfl ?_)
       refine op (OpS.loadR h34 (.s .z) PA.a (GetS.ok (GetS.iso _ (GetS.there (GetS.here GetS.id)))) ty26 rfl rfl rfl rfl rfl ?_)
       refine op (OpS.loadR (rr := (Rep.raw (α := Unit) (.func (.func 38) #[u19] #[]))) h34 .z PA.z Get.id tyf66 rfl rfl rfl rfl rfl ?_)
       obtain ⟨y6, e13, hF⟩ := bindP_use hF
       refine op (OpS.callP h34 Try.func42 rfl rfl rfl rfl (vs := [u16, .func (.func 38) #[u19] #[]]) rfl (slices_ContainsFunc_api_Message_api_Message_responder_request_is_ok e13) (.own (.s (.s (.s .z))) (.cons (f := true) (V.at .z) .nil)) ?_)
       rintro _ w22 _ _ _ ⟨rfl, rfl, rfl, rfl⟩ h65
       have h66 := h65 rfl rfl
       simp only [List.cons_append, List.nil_append] at h66
       refine RunL.nil ?_
       refine Run.slim [(64, .bool y6), (11, u18), (9, u9), (6, u2)] ⟨rfl, rfl, rfl, rfl, trivial⟩ ?_
       refine Run.ite rfl hF (fun e14 hF => ?_) (fun e14 hF => ?_)
       ·
        refine Run.seq ?_
        refine Run.reg ?_
        refine op (OpS.loadB (fr := (Rep.iso (fun s : Responder_ => (s.Own, s.Queue, s.Memory, ())) (Rep.prod (Rep.int .u8) (Rep.prod (Rep.raw u16) (Rep.prod (Rep.raw u17) Rep.unit))))) h66 (.s .z) PA.z (GetS.ok GetS.id) (Ty.like ty29 (by rfl) (by rfl)) rfl rfl rfl (fun u22 h67 => ?_))
        refine op (OpS.storeC (f' := true) (fr := (Rep.iso (fun s : Responder_ => (s.Own, s.Queue, s.Memory, ())) (Rep.prod (Rep.int .u8) (Rep.prod (Rep.raw u16) (Rep.prod (Rep.raw u17) Rep.unit))))) (r' := (Rep.iso (fun s : Responder_ => (s.Own, s.Queue, s.Memory, ())) (Rep.prod (Rep.int .u8) (Rep.prod (Rep.raw u16) (Rep.prod (Rep.raw u17) Rep.unit))))) (x' := y3) h67 (.s (.s (.s (.s (.s (.s (.s .z))))))) PA.z (Chg.id (by rfl)) (Ty.like ty29 (by rfl) (by rfl)) rfl rfl rfl (V.at .z) (.inl rfl) (fun w23 h68 => ?_))
        refine op (OpS.as rfl rfl rfl ?_)
        refine op (OpS.as rfl rfl rfl ?_)
        refine RunL.nil ?_
        refine Run.slim [(8, .int .i64 0), (7, .slice none 0 0), (6, u2)] ⟨rfl, rfl, rfl, trivial⟩ ?_
        obtain ⟨u23, hu6, h69⟩ := res_box h68 .z (Ty.like ty29 (by rfl) (by rfl))
        have h70 := (h69.pick (.s (.s (.s (.s .z))))).freeze
        have h71 := h70.pick .z
        have h72 := h71.weak
        have h73 := St.boxJ (r' := (Rep.iso (fun s : Responder_ => (s.Own, s.Queue, s.Memory, ())) (Rep.prod (Rep.int .u8) (Rep.prod (Rep.slice Message_.rep) (Rep.prod (Rep.raw u17) Rep.unit))))) (x' := { y3 with Queue := y3.Queue }) h72 (fun _ _ hs_ => (Jn.iso _ (Jn.prod Jn.refl (Jn.prod (Jn.raw ((V.at .z) _ _ hs_) rfl) (Jn.prod Jn.same Jn.refl)))))
        have h74 := h73.pick (.s (.s .z))
        have h75 := h74.weak
        have h76 := St.boxJ (r' := (Rep.iso (fun s : Responder_ => (s.Own, s.Queue, s.Memory, ())) (Rep.prod (Rep.int .u8) (Rep.prod (Rep.slice Message_.rep) (Rep.prod (Rep.raw u17) Rep.unit))))) (x' := { y3 with Queue := y3.Queue }) h75 (fun _ _ hs_ => (Jn.iso _ (Jn.prod Jn.refl (Jn.prod (Jn.raw ((V.at .z) _ _ hs_) rfl) (Jn.prod Jn.same Jn.refl)))))
        have h77 := (h76.pick (.s (.s (.s (.s .z))))).freeze
        have h78 := h77.pick .z
        have h79 := St.boxJ (r' := Responder_.rep) (x' := { { y3 with Queue := y3.Queue } with Memory := y3.Memory }) h78 (fun _ _ hs_ => (Jn.iso _ (Jn.prod Jn.refl (Jn.prod Jn.refl (Jn.prod (Jn.raw ((V.at .z) _ _ hs_) rfl) Jn.refl)))))
        have h80 := h79.pick (.s .z)
        have h81 := St.boxJ (r' := Responder_.rep) (x' := { { y3 with Queue := y3.Queue } with Memory := y3.Memory }) h80 (fun _ _ hs_ => (Jn.iso _ (Jn.prod Jn.refl (Jn.prod Jn.refl (Jn.prod (Jn.raw ((V.at .z) _ _ hs_) rfl) Jn.refl)))))
        have h82 := St.addV (f := false) (r := Responder_.rep) (x := { { y3 with Queue := y3.Queue } with Memory := y3.Memory }) h81 (V.jn (r := (Rep.iso (fun s : Responder_ => (s.Own, s.Queue, s.Memory, ())) (Rep.prod (Rep.int .u8) (Rep.prod (Rep.raw u16) (Rep.prod (Rep.raw u17) Rep.unit))))) (x := y3) (V.weak (V.at (.s (.s .z)))) rfl (fun _ _ hs_ => (Jn.iso _ (Jn.prod Jn.refl (Jn.prod (Jn.raw ((V.at (.s .z)) _ _ hs_) rfl) (Jn.prod (Jn.raw ((V.at .z) _ _ hs_) rfl) Jn.refl))))))
        refine Run.retP rfl (.cell rfl hu6 (.tmp rfl (.tmp rfl .nil))) ?_
        cases hF
        exact Post.mk' ⟨u23, .slice none 0 0, rfl, rfl, rfl, rfl⟩ (h82.picks .nil) (.val (V.at .z) (.val V.nil .nil))
       ·
        refine Run.skip ?_
        refine Run.seq ?_
        refine Run.seq ?_
        refine Run.reg ?_
        refine op (OpS.fbox (o3 := 1) h66 (.s .z) PA.z fa29_1 rfl rfl rfl rfl ?_)
        refine op (OpS.loadR h66 (.s .z) PA.a (GetS.ok (GetS.iso _ (GetS.there (GetS.here GetS.id)))) ty26 rfl rfl rfl rfl rfl ?_)
        refine op (OpS.lenO h66 (.s (.s (.s .z))) Try.underlying26 rfl rfl rfl ?_)
        refine op (OpS.bin rfl rfl rfl rfl rfl ?_)
        refine op (OpS.mv rfl rfl rfl ?_)
        refine RunL.join (σ := Bool) (fun s_ L_ w_ => L_ = [(6, u2), (9, u9), (11, u18), (79, .bool s_)] ∧ St e w_ [] [(true, .box 29 Responder_.rep u2 Responder_.z), (true, .box 37 Message_.rep u9 y2.1), (true, .box 29 (Rep.iso (fun s : Responder_ => (s.Own, s.Queue, s.Memory, ())) (Rep.prod (Rep.int .u8) (Rep.prod (Rep.raw u16) (Rep.prod (Rep.raw u17) Rep.unit)))) u18 y3), (false, .slice 37 Message_.rep u16 y3.Queue), (false, .slice 72 Memory_.rep u17 y3.Memory)]) hF (fun s2 _ w24 hI hF => ?_) (fun j2 hj2 hF => ?_)
        ·
         obtain ⟨rfl, h83⟩ := hI
         refine Run.ite rfl hF (fun e15 hF => ?_) (fun e15 hF => ?_)
         ·
          refine Run.seq ?_
          refine Run.reg ?_
          refine op (OpS.loadB h83 (.s .z) PA.z Get.id ty37 rfl rfl rfl (fun u24 h84 => ?_))
          obtain ⟨y7, e16, hF⟩ := bindP_use hF
          refine op (OpS.callP h84 Try.func43 rfl rfl rfl rfl (vs := [u24, .int .u8 192, .slice none 0 0]) rfl (responder_answer_ok e16) (.cons (f := true) (V.at .z) (.cons (f := true) V.nil .nil)) ?_)
          rintro _ w25 _ _ _ ⟨u25, rfl, rfl, rfl, rfl⟩ h85
          have h86 := h85 rfl rfl
          simp only [List.cons_append, List.nil_append] at h86
          refine op (OpS.mv rfl rfl rfl ?_)
          refine op (OpS.ext rfl rfl rfl rfl ?_)
          refine op (OpS.ext rfl rfl rfl rfl ?_)
          refine op (OpS.as rfl rfl rfl ?_)
          have h87 := (h86.pick .z).freeze
          refine op (OpS.as rfl rfl rfl ?_)
          refine RunL.nil ?_
          refine Run.slim [(15, .int .i64 y7.2), (14, u25), (6, u2), (11, u18)] ⟨rfl, rfl, rfl, rfl, trivial⟩ ?_
          refine Run.seq ?_
          refine Run.seq ?_
          refine Run.reg ?_
          refine op (OpS.mv rfl rfl rfl ?_)
          refine op (OpS.bin rfl rfl rfl rfl rfl ?_)
          refine RunL.nil ?_
          refine Run.slim [(86, .bool (y7.2 != 0)), (15, .int .i64 y7.2), (14, u25), (6, u2), (11, u18)] ⟨rfl, rfl, rfl, rfl, rfl, trivial⟩ ?_
          refine Run.ite rfl hF (fun e17 hF => ?_) (fun e17 hF => ?_)
          ·
           refine Run.seq ?_
           refine Run.reg ?_
           refine op (OpS.build (f := true) (x' := Responder_.z) h87 pl29 ti29 Responder_.zr rfl rfl rfl .nil (fun u26 h88 => ?_))
           refine op (OpS.mv rfl rfl rfl ?_)
           refine op (OpS.storeB (f' := true) h88 .z PA.z Put.id ty29 rfl rfl rfl (V.at .z) (.inl rfl) (fun w26 h89 => ?_))
           refine op (OpS.as rfl rfl rfl ?_)
           refine op (OpS.as rfl rfl rfl ?_)
           refine RunL.nil ?_
           refine Run.slim [(8, .int .i64 y7.2), (7, .slice none 0 0), (6, u2)] ⟨rfl, rfl, rfl, trivial⟩ ?_
           obtain ⟨u27, hu7, h90⟩ := res_box h89 .z ty29
           refine Run.retP rfl (.cell rfl hu7 (.tmp rfl (.tmp rfl .nil))) ?_
           cases hF
           exact Post.mk' ⟨u27, .slice none 0 0, rfl, rfl, rfl, rfl⟩ (h90.picks .nil) (.val (V.weak (V.at .z)) (.val V.nil .nil))
          ·
           refine Run.skip ?_
           refine Run.seq ?_
           refine Run.reg ?_
           refine op (OpS.loadB (fr := (Rep.iso (fun s : Responder_ => (s.Own, s.Queue, s.Memory, ())) (Rep.prod (Rep.int .u8) (Rep.prod (Rep.raw u16) (Rep.prod (Rep.raw u17) Rep.unit))))) h87 (.s (.s .z)) PA.z (GetS.ok GetS.id) (Ty.like ty29 (by rfl) (by rfl)) rfl rfl rfl (fun u28 h91 => ?_))
           refine op (OpS.mv rfl rfl rfl ?_)
           refine op (OpS.storeC (f' := true) (fr := (Rep.iso (fun s : Responder_ => (s.Own, s.Queue, s.Memory, ())) (Rep.prod (Rep.int .u8) (Rep.prod (Rep.raw u16) (Rep.prod (Rep.raw u17) Rep.unit))))) (r' := (Rep.iso (fun s : Responder_ => (s.Own, s.Queue, s.Memory, ())) (Rep.prod (Rep.int .u8) (Rep.prod (Rep.raw u16) (Rep.prod (Rep.raw u17) Rep.unit))))) (x' := y3) h91 .z PA.z (Chg.id (by rfl)) (Ty.like ty29 (by rfl) (by rfl)) rfl rfl rfl (V.at .z) (.inl rfl) (fun w27 h92 => ?_))
           refine op (OpS.as rfl rfl rfl ?_)
           refine op (OpS.as rfl rfl rfl ?_)
           refine RunL.nil ?_
           refine Run.slim [(8, .int .i64 0), (7, u25), (6, u2)] ⟨rfl, rfl, rfl, trivial⟩ ?_
           obtain ⟨u29, hu8, h93⟩ := res_box h92 .z (Ty.like ty29 (by rfl) (by rfl))
           have h94 := (h93.pick (.s (.s (.s .z)))).freeze
           have h95 := h94.pick .z
           have h96 := h95.weak
           have h97 := St.boxJ (r' := (Rep.iso (fun s : Responder_ => (s.Own, s.Queue, s.Memory, ())) (Rep.prod (Rep.int .u8) (Rep.prod (Rep.slice Message_.rep) (Rep.prod (Rep.raw u17) Rep.unit))))) (x' := { y3 with Queue := y3.Queue }) h96 (fun _ _ hs_ => (Jn.iso _ (Jn.prod Jn.refl (Jn.prod (Jn.raw ((V.at .z) _ _ hs_) rfl) (Jn.prod Jn.same Jn.refl)))))
           have h98 := h97.pick (.s (.s .z))
           have h99 := h98.weak
           have h100 := St.boxJ (r' := (Rep.iso (fun s : Responder_ => (s.Own, s.Queue, s.Memory, ())) (Rep.prod (Rep.int .u8) (Rep.prod (Rep.slice Message_.rep) (Rep.prod (Rep.raw u17) Rep.unit))))) (x' := { y3 with Queue := y3.Queue }) h99 (fun _ _ hs_ => (Jn.iso _ (Jn.prod Jn.refl (Jn.prod (Jn.raw ((V.at .z) _ _ hs_) rfl) (Jn.prod Jn.same Jn.refl)))))
           have h101 := (h100.pick (.s (.s (.s .z)))).freeze
           have h102 := h101.pick .z
           have h103 := St.boxJ (r' := Responder_.rep) (x' := { { y3 with Queue := y3.Queue } with Memory := y3.Memory }) h102 (fun _ _ hs_ => (Jn.iso _ (Jn.prod Jn.refl (Jn.prod Jn.refl (Jn.prod (Jn.raw ((V.at .z) _ _ hs_) rfl) Jn.refl)))))
           have h104 := h103.pick (.s .z)
           have h105 := St.boxJ (r' := Responder_.rep) (x' := { { y3 with Queue := y3.Queue } with Memory := y3.Memory }) h104 (fun _ _ hs_ => (Jn.iso _ (Jn.prod Jn.refl (Jn.prod Jn.refl (Jn.prod (Jn.raw ((V.at .z) _ _ hs_) rfl) Jn.refl)))))
           have h106 := St.addV (f := false) (r := Responder_.rep) (x := { { y3 with Queue := y3.Queue } with Memory := y3.Memory }) h105 (V.jn (r := (Rep.iso (fun s : Responder_ => (s.Own, s.Queue, s.Memory, ())) (Rep.prod (Rep.int .u8) (Rep.prod (Rep.raw u16) (Rep.prod (Rep.raw u17) Rep.unit))))) (x := y3) (V.weak (V.at (.s (.s .z)))) rfl (fun _ _ hs_ => (Jn.iso _ (Jn.prod Jn.refl (Jn.prod (Jn.raw ((V.at (.s .z)) _ _ hs_) rfl) (Jn.prod (Jn.raw ((V.at .z) _ _ hs_) rfl) Jn.refl))))))
           refine Run.retP rfl (.cell rfl hu8 (.tmp rfl (.tmp rfl .nil))) ?_
           cases hF
           exact Post.mk' ⟨u29, u25, rfl, rfl, rfl, rfl⟩ (h106.picks .nil) (.val (V.at .z) (.val (V.at (.s (.s (.s (.s (.s .z)))))) .nil))
         ·
          refine Run.skip ?_
          refine Run.seq ?_
          have h107 := (h83.pick (.s (.s (.s (.s .z))))).freeze
          have h108 := h107.pick (.s (.s .z))
          have h109 := h108.weak
          have h110 := St.boxJ (r' := (Rep.iso (fun s : Responder_ => (s.Own, s.Queue, s.Memory, ())) (Rep.prod (Rep.int .u8) (Rep.prod (Rep.raw u16) (Rep.prod (Rep.slice Memory_.rep) Rep.unit))))) (x' := { y3 with Memory := y3.Memory }) h109 (fun _ _ hs_ => (Jn.iso _ (Jn.prod Jn.refl (Jn.prod Jn.same (Jn.prod (Jn.raw ((V.at .z) _ _ hs_) rfl) Jn.refl)))))
          have h111 := h110.picks (.cons .z (.cons (.s .z) (.cons (.s .z) (.cons .z .nil))))
          obtain ⟨y8, e18, hF⟩ := bindP_use hF
          obtain ⟨x2, e19, hF⟩ := bindP_use hF
          refine Run.drawV (Ωs := [(true, .box 29 Responder_.rep u2 Responder_.z)]) [⟨some 91, some ((padd u18 1)), fun _ => [], fun ds_ u_ => [], [], [(0, [])], none⟩, ⟨some 92, some (u16), fun _ => [], fun ds_ u_ => [], [], [(2, [5, 1]), (0, [])], none⟩, ⟨some 93, none, fun u_ => [(true, .val Message_.rep u_ y2.1)], fun ds_ u_ => [], [], [(1, [])], none⟩, ⟨some 94, none, fun u_ => [(true, .val Message_.rep u_ y8)], fun ds_ u_ => [], [], [], none⟩, ⟨some 95, none, fun u_ => [(true, .val (Rep.slice Message_.rep) u_ ([y8]))], fun ds_ u_ => [], [], [], none⟩, ⟨some 96, none, fun u_ => [], fun ds_ u_ => [(false, .slice 37 Message_.rep u_ x2)], [2], [], none⟩] [[], [0], [], [2], [3], [1, 4]] [[(false, .box 29 (Rep.iso (fun s : Responder_ => (s.Own, s.Queue, s.Memory, ())) (Rep.prod (Rep.int .u8) (Rep.prod (Rep.raw u16) (Rep.prod (Rep.slice Memory_.rep) Rep.unit)))) u18 ({ y3 with Memory := y3.Memory }))], [(true, .box 37 Message_.rep u9 y2.1)], [(false, .slice 37 Message_.rep u16 y3.Queue)]] [0, 1, 3, 4, 5, 6, 7, 8] Try_mixed rfl rfl rfl h111 (.cons ?_ (.cons ?_ (.cons ?_ (.cons ?_ (.cons ?_ (.cons ?_ .nil)))))) (fun q2 w hq2 h => ?_)
          ·intro q2 w Γx Ωx h
           have h : St e w ([(false, .val (Rep.slice Memory_.rep) u17 y3.Memory)] ++ Γx) ([(false, .box 29 (Rep.iso (fun s : Responder_ => (s.Own, s.Queue, s.Memory, ())) (Rep.prod (Rep.int .u8) (Rep.prod (Rep.raw u16) (Rep.prod (Rep.slice Memory_.rep) Rep.unit)))) u18 ({ y3 with Memory := y3.Memory })), (true, .box 29 Responder_.rep u2 Responder_.z)] ++ Ωx) := h
           refine OpS.fbox (o3 := 1) h .z PA.z fa29_1 rfl rfl rfl rfl ?_
           exact ⟨undef, rfl, trivial, h⟩
          ·intro q2 w Γx Ωx h
           have h : St e w ([(false, .val (Rep.slice Memory_.rep) u17 y3.Memory)] ++ Γx) ([(false, .slice 37 Message_.rep u16 y3.Queue), (false, .box 29 (Rep.iso (fun s : Responder_ => (s.Own, s.Queue, s.Memory, ())) (Rep.prod (Rep.int .u8) (Rep.prod (Rep.raw u16) (Rep.prod (Rep.slice Memory_.rep) Rep.unit)))) u18 ({ y3 with Memory := y3.Memory })), (true, .box 29 Responder_.rep u2 Responder_.z)] ++ Ωx) := h
           refine OpS.loadR h (.s .z) PA.a (GetS.ok (GetS.iso _ (GetS.there (GetS.here GetS.id)))) ty26 rfl rfl rfl rfl rfl ?_
           exact ⟨undef, rfl, trivial, h⟩
          ·intro q2 w Γx Ωx h
           have h : St e w ([(false, .val (Rep.slice Memory_.rep) u17 y3.Memory)] ++ Γx) ([(true, .box 37 Message_.rep u9 y2.1), (true, .box 29 Responder_.rep u2 Responder_.z)] ++ Ωx) := h
           refine OpS.loadB h .z PA.z Get.id ty37 rfl rfl rfl (fun u h117 => ?_)
           exact ⟨u, rfl, trivial, h117⟩
          ·intro q2 w Γx Ωx h
           refine OpS.callP h Try.func44 rfl rfl rfl rfl (vs := [(q2 2)]) rfl (responder_copied_ok e18) (.cons (f := true) (V.at .z) .nil) ?_
           rintro u w31 _ _ _ ⟨_, rfl, rfl, rfl, rfl⟩ h118
           have h119 := h118 rfl rfl
           simp only [List.cons_append, List.nil_append] at h119
           exact ⟨u, rfl, trivial, h119⟩
          ·intro q2 w Γx Ωx h
           refine OpS.lit (r := Message_.rep) (f := true) h Try.underlying26 ti37 rfl rfl rfl rfl rfl (.cons rfl (V.at .z) .nil) rfl rfl (fun u w32 h120 => ?_)
           exact ⟨u, rfl, trivial, h120⟩
          ·intro q2 w Γx Ωx h
           have h : St e w ([(true, .val (Rep.slice Message_.rep) (q2 4) ([y8])), (false, .val (Rep.slice Memory_.rep) u17 y3.Memory)] ++ Γx) ([(false, .slice 37 Message_.rep u16 y3.Queue), (true, .box 29 Responder_.rep u2 Responder_.z)] ++ Ωx) := h
           refine OpS.app (f' := true) h .z Try.underlying26 ti37 rfl rfl rfl rfl rfl rfl rfl (V.at .z) (.inl (.inl rfl)) e19 (fun u w33 h121 => ?_)
           exact ⟨u, rfl, trivial, h121⟩
          have h122 : St e w [(true, .val Message_.rep (q2 2) y2.1), (true, .val Message_.rep (q2 3) y8), (true, .val (Rep.slice Message_.rep) (q2 4) ([y8])), (false, .val (Rep.slice Memory_.rep) u17 y3.Memory)] [(false, .box 29 (Rep.iso (fun s : Responder_ => (s.Own, s.Queue, s.Memory, ())) (Rep.prod (Rep.int .u8) (Rep.prod (Rep.raw u16) (Rep.prod (Rep.slice Memory_.rep) Rep.unit)))) u18 ({ y3 with Memory := y3.Memory })), (true, .box 37 Message_.rep u9 y2.1), (false, .slice 37 Message_.rep (q2 5) x2), (true, .box 29 Responder_.rep u2 Responder_.z)] := h
          refine op (OpS.fbox (o3 := 1) h122 .z PA.z fa29_1 rfl rfl rfl rfl ?_)
          refine op (OpS.storeC (f' := false) (fr := (Rep.raw (q2 5))) (r' := (Rep.iso (fun s : Responder_ => (s.Own, s.Queue, s.Memory, ())) (Rep.prod (Rep.int .u8) (Rep.prod (Rep.raw (q2 5)) (Rep.prod (Rep.slice Memory_.rep) Rep.unit))))) (x' := { y3 with Memory := y3.Memory }) h122 .z PA.a (Chg.iso _ (Chg.there (Chg.here (Chg.id (by rfl))))) (Ty.like ty26 (by rfl) (by rfl)) rfl rfl rfl (V.raw (f := false) (St.own1 h122 (.s (.s .z))) (({ y3 with Memory := y3.Memory }).Queue)) (.inr rfl) (fun w34 h123 => ?_))
          refine RunL.nil ?_
          refine Run.slim [(6, u2), (11, u18)] ⟨rfl, rfl, trivial⟩ ?_
          refine Run.seq ?_
          refine Run.reg ?_
          refine op (OpS.loadB (fr := (Rep.iso (fun s : Responder_ => (s.Own, s.Queue, s.Memory, ())) (Rep.prod (Rep.int .u8) (Rep.prod (Rep.raw (q2 5)) (Rep.prod (Rep.slice Memory_.rep) Rep.unit))))) h123 .z PA.z (GetS.ok GetS.id) (Ty.like ty29 (by rfl) (by rfl)) rfl rfl rfl (fun u30 h124 => ?_))
          have h125 := (h124.pick (.s (.s (.s .z)))).weak
          obtain ⟨d2, e20, hF⟩ := letP_use hF
          refine op (OpS.storeC (f' := false) (fr := (Rep.iso (fun s : Responder_ => (s.Own, s.Queue, s.Memory, ())) (Rep.prod (Rep.int .u8) (Rep.prod (Rep.raw (q2 5)) (Rep.prod (Rep.slice Memory_.rep) Rep.unit))))) (r' := (Rep.iso (fun s : Responder_ => (s.Own, s.Queue, s.Memory, ())) (Rep.prod (Rep.int .u8) (Rep.prod (Rep.raw (q2 5)) (Rep.prod (Rep.slice Memory_.rep) Rep.unit))))) (x' := d2) h125 .z PA.z (Chg.of (x' := { y3 with Memory := y3.Memory }) (Chg.id (by rfl)) e20) (Ty.like ty29 (by rfl) (by rfl)) rfl rfl rfl (V.at .z) (.inr rfl) (fun w35 h126 => ?_))
          refine op (OpS.as rfl rfl rfl ?_)
          refine op (OpS.as rfl rfl rfl ?_)
          refine RunL.nil ?_
          refine Run.slim [(8, .int .i64 0), (7, .slice none 0 0), (6, u2)] ⟨rfl, rfl, rfl, trivial⟩ ?_
          have h128 := (h126.pick (.s (.s (.s .z)))).freeze
          have h129 := h128.pick .z
          have h130 := St.boxJ (r' := Responder_.rep) (x' := { d2 with Queue := x2 }) h129 (fun _ _ hs_ => (Jn.iso _ (Jn.prod Jn.refl (Jn.prod (Jn.raw ((V.at .z) _ _ hs_) rfl) Jn.refl))))
          have h131 := h130.pick (.s .z)
          have h132 := St.boxJ (r' := Responder_.rep) (x' := { { y3 with Memory := y3.Memory } with Queue := x2 }) h131 (fun _ _ hs_ => (Jn.iso _ (Jn.prod Jn.refl (Jn.prod (Jn.raw ((V.at .z) _ _ hs_) rfl) Jn.refl))))
          obtain ⟨u31, hu9, h127⟩ := res_box h132 (.s .z) ty29
          refine Run.retP rfl (.cell rfl hu9 (.tmp rfl (.tmp rfl .nil))) ?_
          cases hF
          exact Post.mk' ⟨u31, .slice none 0 0, rfl, rfl, rfl, rfl⟩ (h127.picks .nil) (.val (V.at .z) (.val V.nil .nil))
        ·
         refine RunL.caseb hF (fun e21 hF => ?_) (fun e21 hF => ?_)
         ·
          refine op (OpS.pass rfl rfl rfl ?_)
          refine op (OpS.pass rfl rfl rfl ?_)
          refine op (OpS.pass rfl rfl rfl ?_)
          refine op (OpS.pass rfl rfl rfl ?_)
          refine op (OpS.pass rfl rfl rfl ?_)
          refine op (OpS.pass rfl rfl rfl ?_)
          refine op (OpS.pass rfl rfl rfl ?_)
          refine op (OpS.pass rfl rfl rfl ?_)
          refine op (OpS.pick rfl rfl rfl rfl ?_)
          refine RunL.nil ?_
          refine Run.slim [(79, .bool true), (11, u18), (9, u9), (6, u2)] ⟨rfl, rfl, rfl, rfl, trivial⟩ ?_
          refine Run.slim [(6, u2), (9, u9), (11, u18), (79, .bool true)] ⟨rfl, rfl, rfl, rfl, trivial⟩ ?_
          exact hj2 (true) _ _ ⟨rfl, (h66.facts .nil).picks (.cons (.s (.s (.s (.s (.s (.s (.s .z))))))) (.cons (.s (.s (.s (.s (.s .z))))) (.cons (.s .z) (.cons (.s (.s .z)) (.cons (.s (.s .z)) .nil)))))⟩ hF
         ·
          refine op (OpS.fbox (o3 := 1) h66 (.s .z) PA.z fa29_1 rfl rfl rfl rfl ?_)
          refine op (OpS.loadR h66 (.s .z) PA.a (GetS.ok (GetS.iso _ (GetS.there (GetS.here GetS.id)))) ty26 rfl rfl rfl rfl rfl ?_)
          refine op (OpS.lenO h66 (.s (.s (.s .z))) Try.underlying26 rfl rfl rfl ?_)
          refine op (OpS.fbox (o3 := 2) h66 (.s .z) PA.z fa29_2 rfl rfl rfl rfl ?_)
          refine op (OpS.loadR h66 (.s .z) PA.a (GetS.ok (GetS.iso _ (GetS.there (GetS.there (GetS.here GetS.id))))) ty27 rfl rfl rfl rfl rfl ?_)
          refine op (OpS.lenO h66 (.s (.s (.s (.s .z)))) Try.underlying27 rfl rfl rfl ?_)
          refine op (OpS.bin rfl rfl rfl rfl rfl ?_)
          refine op (OpS.bin rfl rfl rfl rfl rfl ?_)
          refine op (OpS.pick rfl rfl rfl rfl ?_)
          refine RunL.nil ?_
          refine Run.slim [(79, .bool ((IntKind.i64.wrap ((y3.Queue.length : Int) + (y3.Memory.length : Int))) == 16)), (11, u18), (9, u9), (6, u2)] ⟨rfl, rfl, rfl, rfl, trivial⟩ ?_
          refine Run.slim [(6, u2), (9, u9), (11, u18), (79, .bool ((IntKind.i64.wrap ((y3.Queue.length : Int) + (y3.Memory.length : Int))) == 16))] ⟨rfl, rfl, rfl, rfl, trivial⟩ ?_
          exact hj2 ((IntKind.i64.wrap ((y3.Queue.length : Int) + (y3.Memory.length : Int))) == 16) _ _ ⟨rfl, (h66.facts .nil).picks (.cons (.s (.s (.s (.s (.s (.s (.s .z))))))) (.cons (.s (.s (.s (.s (.s .z))))) (.cons (.s .z) (.cons (.s (.s .z)) (.cons (.s (.s .z)) .nil)))))⟩ hF
  ·
   refine RunL.caseb hF (fun e22 hF => ?_) (fun e22 hF => ?_)
   ·
    refine op (OpS.pass rfl rfl rfl ?_)
    refine op (OpS.pass rfl rfl rfl ?_)
    refine op (OpS.pick rfl rfl rfl rfl ?_)
    refine RunL.nil ?_
    refine Run.slim [(25, .bool true), (6, u2), (3, u1), (1, v1), (2, .int .i64 a2)] ⟨rfl, rfl, rfl, rfl, rfl, trivial⟩ ?_
    refine Run.slim [(1, v1), (2, .int .i64 a2), (3, u1), (6, u2), (25, .bool true)] ⟨rfl, rfl, rfl, rfl, rfl, trivial⟩ ?_
    exact hj1 (true) _ _ ⟨rfl, (h5.facts (.atm (.s (.s .z)) .nil)).picks (.cons (.s .z) (.cons .z .nil))⟩ hF
   ·
    refine op (OpS.mv rfl rfl rfl ?_)
    refine op (OpS.bin rfl rfl rfl rfl rfl ?_)
    refine op (OpS.pick rfl rfl rfl rfl ?_)
    refine RunL.nil ?_
    refine Run.slim [(25, .bool (decide (a2 > 17179869184))), (6, u2), (3, u1), (1, v1), (2, .int .i64 a2)] ⟨rfl, rfl, rfl, rfl, rfl, trivial⟩ ?_
    refine Run.slim [(1, v1), (2, .int .i64 a2), (3, u1), (6, u2), (25, .bool (decide (a2 > 17179869184)))] ⟨rfl, rfl, rfl, rfl, rfl, trivial⟩ ?_
    exact hj1 (decide (a2 > 17179869184)) _ _ ⟨rfl, (h5.facts (.atm (.s (.s .z)) .nil)).picks (.cons (.s .z) (.cons .z .nil))⟩ hF
set_option maxHeartbeats 8000000 in
theorem responder_Done_ok {fuel : Nat} {a0 : Responder_} {a1 : Int} {a2 : List Int} {a3 : Int} {y : Responder_ × (List Int) × Int} (hF : responder_Done fuel a0 a1 a2 a3 = some y) {w : World} {v0 v2 : Value} :
  Spec Try.prog 17 [v0, .int .u8 a1, v2, .int .i64 a3].toArray w [(false, .val Responder_.rep v0 a0), (false, .val (Rep.slice (Rep.int .u8)) v2 a2)] [] (fun v Γr Ωr Ωo => ∃ u0 u1 : Value, v = .tuple #[u0, u1, .int .i64 y.2.2] ∧ Γr = [(false, .val Responder_.rep u0 y.1), (true, .val (Rep.slice (Rep.int .u8)) u1 y.2.1)] ∧ Ωr = [] ∧ Ωo = []) := by
 refine Spec.of (L := [(0, v0), (1, .int .u8 a1), (2, v2), (3, .int .i64 a3)]) Try.func17 rfl ⟨rfl, rfl, rfl, rfl, trivial⟩ rfl (fun e h => ?_)
 unfold responder_Done at hF
 refine Run.seq ?_
 refine Run.reg ?_
 refine op (OpS.boxF h rfl rfl rfl (V.at .z) (fun u1 w1 h1 => ?_))
 refine op (OpS.alloc h1 ti29 Responder_.zr rfl rfl (fun u2 w2 h2 => ?_))
 refine op (OpS.as rfl rfl rfl ?_)
 refine op (OpS.as rfl rfl rfl ?_)
 refine RunL.nil ?_
 refine Run.slim [(8, u2), (4, u1), (1, .int .u8 a1), (2, v2), (3, .int .i64 a3)] ⟨rfl, rfl, rfl, rfl, rfl, trivial⟩ ?_
 refine Run.seq ?_
 refine Run.block ?_
 refine Run.seq ?_
 refine Run.reg ?_
 refine op (OpS.loadB h2 (.s .z) PA.z Get.id ty29 rfl rfl rfl (fun u3 h3 => ?_))
 obtain ⟨y1, e1, hF⟩ := bindP_use hF
 refine op (OpS.callP h3 Try.func20 rfl rfl rfl rfl (vs := [u3]) rfl (responder_Valid_ok e1) (.cons (f := false) (V.at .z) .nil) ?_)
 rintro _ w3 _ _ _ ⟨rfl, rfl, rfl, rfl⟩ h4
 have h5 := h4 rfl rfl
 simp only [List.cons_append, List.nil_append] at h5
 refine op (OpS.not rfl rfl rfl ?_)
 refine op (OpS.as rfl rfl rfl ?_)
 obtain ⟨x1, e2, hF⟩ := letP_use hF
 refine RunL.nameb e2 ?_
 refine RunL.nil ?_
 refine Run.slim [(14, .bool x1), (8, u2), (4, u1), (1, .int .u8 a1), (2, v2), (3, .int .i64 a3)] ⟨rfl, rfl, rfl, rfl, rfl, rfl, trivial⟩ ?_
 refine Run.ite rfl hF (fun e3 hF => ?_) (fun e3 hF => ?_)
 ·
  refine Run.seq ?_
  refine Run.reg ?_
  refine op (OpS.build (f := true) (x' := Responder_.z) h5 pl29 ti29 Responder_.zr rfl rfl rfl .nil (fun u4 h6 => ?_))
  refine op (OpS.storeB (f' := true) h6 .z PA.z Put.id ty29 rfl rfl rfl (V.at .z) (.inl rfl) (fun w4 h7 => ?_))
  refine op (OpS.as rfl rfl rfl ?_)
  refine op (OpS.as rfl rfl rfl ?_)
  refine RunL.nil ?_
  refine Run.slim [(10, .int .i64 1), (9, .slice none 0 0), (8, u2)] ⟨rfl, rfl, rfl, trivial⟩ ?_
  obtain ⟨u5, hu1, h8⟩ := res_box h7 .z ty29
  refine Run.retP rfl (.cell rfl hu1 (.tmp rfl (.tmp rfl .nil))) ?_
  cases hF
  exact Post.mk' ⟨u5, .slice none 0 0, rfl, rfl, rfl, rfl⟩ (h8.picks .nil) (.val (V.weak (V.at .z)) (.val V.nil .nil))
 ·
  refine Run.seq ?_
  refine Run.reg ?_
  refine op (OpS.mv rfl rfl rfl ?_)
  refine op (OpS.bin rfl rfl rfl rfl rfl ?_)
  refine op (OpS.mv rfl rfl rfl ?_)
  refine RunL.join (σ := Bool) (fun s_ L_ w_ => L_ = [(1, .int .u8 a1), (2, v2), (3, .int .i64 a3), (4, u1), (8, u2), (19, .bool s_)] ∧ St e w_ [(false, .val (Rep.slice (Rep.int .u8)) v2 a2)] [(false, .box 29 Responder_.rep u1 a0), (true, .box 29 Responder_.rep u2 Responder_.z)]) hF (fun s1 _ w5 hI hF => ?_) (fun j1 hj1 hF => ?_)
  ·
   obtain ⟨rfl, h9⟩ := hI
   refine Run.ite rfl hF (fun e4 hF => ?_) (fun e4 hF => ?_)
   ·
    refine Run.seq ?_
    refine Run.reg ?_
    refine op (OpS.build (f := true) (x' := Responder_.z) h9 pl29 ti29 Responder_.zr rfl rfl rfl .nil (fun u6 h10 => ?_))
    refine op (OpS.storeB (f' := true) h10 (.s .z) PA.z Put.id ty29 rfl rfl rfl (V.at .z) (.inl rfl) (fun w6 h11 => ?_))
    refine op (OpS.as rfl rfl rfl ?_)
    refine op (OpS.as rfl rfl rfl ?_)
    refine RunL.nil ?_
    refine Run.slim [(10, .int .i64 2), (9, .slice none 0 0), (8, u2)] ⟨rfl, rfl, rfl, trivial⟩ ?_
    obtain ⟨u7, hu2, h12⟩ := res_box h11 .z ty29
    refine Run.retP rfl (.cell rfl hu2 (.tmp rfl (.tmp rfl .nil))) ?_
    cases hF
    exact Post.mk' ⟨u7, .slice none 0 0, rfl, rfl, rfl, rfl⟩ (h12.picks .nil) (.val (V.weak (V.at .z)) (.val V.nil .nil))
   ·
    refine Run.seq ?_
    refine Run.reg ?_
    refine op (OpS.fbox (o3 := 1) h9 .z PA.z fa29_1 rfl rfl rfl rfl ?_)
    refine op (OpS.loadB h9 .z PA.a (Get.fld Responder_.f1) ty26 rfl rfl rfl (fun u8 h13 => ?_))
    refine op (OpS.len h13 Try.underlying26 rfl rfl rfl (V.at .z) ?_)
    refine op (OpS.bin rfl rfl rfl rfl rfl ?_)
    refine op (OpS.as rfl rfl rfl ?_)
    obtain ⟨x2, e5, hF⟩ := letP_use hF
    refine RunL.nameb e5 ?_
    refine RunL.nil ?_
    refine Run.slim [(27, .bool x2), (1, .int .u8 a1), (2, v2), (3, .int .i64 a3), (4, u1), (8, u2)] ⟨rfl, rfl, rfl, rfl, rfl, rfl, trivial⟩ ?_
    refine Run.ite rfl hF (fun e6 hF => ?_) (fun e6 hF => ?_)
    ·
     refine Run.seq ?_
     refine Run.reg ?_
     refine op (OpS.build (f := true) (x' := Responder_.z) h13 pl29 ti29 Responder_.zr rfl rfl rfl .nil (fun u9 h14 => ?_))
     refine op (OpS.storeB (f' := true) h14 (.s .z) PA.z Put.id ty29 rfl rfl rfl (V.at .z) (.inl rfl) (fun w7 h15 => ?_))
     refine op (OpS.as rfl rfl rfl ?_)
     refine op (OpS.as rfl rfl rfl ?_)
     refine RunL.nil ?_
     refine Run.slim [(10, .int .i64 46), (9, .slice none 0 0), (8, u2)] ⟨rfl, rfl, rfl, trivial⟩ ?_
     obtain ⟨u10, hu3, h16⟩ := res_box h15 .z ty29
     refine Run.retP rfl (.cell rfl hu3 (.tmp rfl (.tmp rfl .nil))) ?_
     cases hF
     exact Post.mk' ⟨u10, .slice none 0 0, rfl, rfl, rfl, rfl⟩ (h16.picks .nil) (.val (V.weak (V.at .z)) (.val V.nil .nil))
    ·
     refine Run.skip ?_
     refine Run.endBlock ?_
     refine Run.seq ?_
     refine Run.reg ?_
     refine op (OpS.fbox (o3 := 1) h13 .z PA.z fa29_1 rfl rfl rfl rfl ?_)
     refine op (OpS.loadB h13 .z PA.a (Get.fld Responder_.f1) ty26 rfl rfl rfl (fun u11 h17 => ?_))
     obtain ⟨x3, e7, hF⟩ := bindP_use hF
     refine op (OpS.iptr h17 Try.underlying26 ty37 rfl rfl rfl rfl (V.at .z) e7 (fun u12 h18 => ?_))
     refine op (OpS.load h18 ty37 rfl rfl rfl .z (fun u13 h19 => ?_))
     refine op (OpS.mv rfl rfl rfl ?_)
     refine op (OpS.mv rfl rfl rfl ?_)
     obtain ⟨y2, e8, hF⟩ := bindP_use hF
     refine op (OpS.callP h19 Try.func43 rfl rfl rfl rfl (vs := [u13, .int .u8 a1, v2]) rfl (responder_answer_ok e8) (.cons (f := false) (V.at .z) (.cons (f := false) (V.at (.s (.s (.s (.s .z))))) .nil)) ?_)
     rintro _ w8 _ _ _ ⟨u14, rfl, rfl, rfl, rfl⟩ h20
     have h21 := h20 rfl rfl
     simp only [List.cons_append, List.nil_append] at h21
     refine op (OpS.mv rfl rfl rfl ?_)
     refine op (OpS.ext rfl rfl rfl rfl ?_)
     refine op (OpS.ext rfl rfl rfl rfl ?_)
     refine op (OpS.as rfl rfl rfl ?_)
     have h22 := (h21.pick .z).freeze
     refine op (OpS.as rfl rfl rfl ?_)
     refine RunL.nil ?_
     refine Run.slim [(12, .int .i64 y2.2), (11, u14), (3, .int .i64 a3), (4, u1), (8, u2)] ⟨rfl, rfl, rfl, rfl, rfl, trivial⟩ ?_
     refine Run.seq ?_
     refine Run.seq ?_
     refine Run.reg ?_
     refine op (OpS.mv rfl rfl rfl ?_)
     refine op (OpS.bin rfl rfl rfl rfl rfl ?_)
     refine RunL.nil ?_
     refine Run.slim [(44, .bool (y2.2 != 0)), (12, .int .i64 y2.2), (11, u14), (3, .int .i64 a3), (4, u1), (8, u2)] ⟨rfl, rfl, rfl, rfl, rfl, rfl, trivial⟩ ?_
     refine Run.ite rfl hF (fun e9 hF => ?_) (fun e9 hF => ?_)
     ·
      refine Run.seq ?_
      refine Run.reg ?_
      refine op (OpS.build (f := true) (x' := Responder_.z) h22 pl29 ti29 Responder_.zr rfl rfl rfl .nil (fun u15 h23 => ?_))
      refine op (OpS.mv rfl rfl rfl ?_)
      refine op (OpS.storeB (f' := true) h23 (.s .z) PA.z Put.id ty29 rfl rfl rfl (V.at .z) (.inl rfl) (fun w9 h24 => ?_))
      refine op (OpS.as rfl rfl rfl ?_)
      refine op (OpS.as rfl rfl rfl ?_)
      refine RunL.nil ?_
      refine Run.slim [(10, .int .i64 y2.2), (9, .slice none 0 0), (8, u2)] ⟨rfl, rfl, rfl, trivial⟩ ?_
      obtain ⟨u16, hu4, h25⟩ := res_box h24 .z ty29
      refine Run.retP rfl (.cell rfl hu4 (.tmp rfl (.tmp rfl .nil))) ?_
      cases hF
      exact Post.mk' ⟨u16, .slice none 0 0, rfl, rfl, rfl, rfl⟩ (h25.picks .nil) (.val (V.weak (V.at .z)) (.val V.nil .nil))
     ·
      refine Run.skip ?_
      refine Run.seq ?_
      refine Run.reg ?_
      refine op (OpS.loadB h22 .z PA.z Get.id ty29 rfl rfl rfl (fun u17 h26 => ?_))
      refine op (OpS.mv rfl rfl rfl ?_)
      obtain ⟨y3, e10, hF⟩ := bindP_use hF
      have h27 := h26.front .nil
      refine op (OpS.callO h27 Try.func37 rfl rfl rfl rfl (vs := [u17, .int .i64 a3]) rfl (responder_fresh_ok e10) rfl (.cons (f := false) (V.at .z) .nil) ?_)
      rintro u18 w10 _ _ _ ⟨_, u19, u20, rfl, rfl, rfl, rfl⟩ h28
      have h29 := h28
      simp only [List.cons_append, List.nil_append] at h29
      have h30 := St.nil 72 Memory_.rep h29
      refine op (OpS.alloc (r := (Rep.iso (fun s : Responder_ => (s.Own, s.Queue, s.Memory, ())) (Rep.prod (Rep.int .u8) (Rep.prod (Rep.slice Message_.rep) (Rep.prod (Rep.raw (.slice none 0 0)) Rep.unit))))) h30 ti29 (Zr.iso (y := Responder_.z) _ (Zr.of (Zr.prod (Zr.int .u8 0) (Zr.prod (Zr.slice Message_.rep) (Zr.prod (Zr.raw rfl _) Zr.unit))) (by rfl))) rfl rfl (fun u21 w11 h31 => ?_))
      refine op (OpS.storeC (f' := true) (fr := (Rep.iso (fun s : Responder_ => (s.Own, s.Queue, s.Memory, ())) (Rep.prod (Rep.int .u8) (Rep.prod (Rep.raw u19) (Rep.prod (Rep.raw u20) Rep.unit))))) (r' := (Rep.iso (fun s : Responder_ => (s.Own, s.Queue, s.Memory, ())) (Rep.prod (Rep.int .u8) (Rep.prod (Rep.raw u19) (Rep.prod (Rep.raw u20) Rep.unit))))) (x' := y3) h31 .z PA.z (Chg.id (by rfl)) (Ty.like ty29 (by rfl) (by rfl)) rfl rfl rfl (V.pure (V.at .z) (Pure.iso (Pure.prod Pure.int (Pure.prod Pure.raw (Pure.prod Pure.raw Pure.unit))))) (.inl rfl) (fun w12 h32 => ?_))
      refine RunL.nil ?_
      refine Run.slim [(13, u21), (11, u14), (3, .int .i64 a3), (8, u2)] ⟨rfl, rfl, rfl, rfl, trivial⟩ ?_
      refine Run.seq ?_
      have h33 := (h32.pick (.s (.s .z))).freeze
      have h34 := h33.pick .z
      have h35 := h34.weak
      have h36 := St.boxJ (r' := (Rep.iso (fun s : Responder_ => (s.Own, s.Queue, s.Memory, ())) (Rep.prod (Rep.int .u8) (Rep.prod (Rep.slice Message_.rep) (Rep.prod (Rep.raw u20) Rep.unit))))) (x' := { y3 with Queue := y3.Queue }) h35 (fun _ _ hs_ => (Jn.iso _ (Jn.prod Jn.refl (Jn.prod (Jn.raw ((V.at .z) _ _ hs_) rfl) (Jn.prod Jn.same Jn.refl)))))
      have h37 := h36.picks (.cons .z (.cons (.s .z) (.cons .z (.cons .z (.cons .z .nil)))))
      obtain ⟨x4, e11, hF⟩ := bindP_use hF
      obtain ⟨y4, e12, hF⟩ := bindP_use hF
      obtain ⟨x5, e13, hF⟩ := bindP_use hF
      refine Run.drawV (Ωs := [(true, .slice 72 Memory_.rep (.slice none 0 0) ([])), (false, .box 29 Responder_.rep u1 a0), (true, .box 29 Responder_.rep u2 Responder_.z)]) [⟨some 50, some ((padd u21 2)), fun _ => [], fun ds_ u_ => [], [], [(0, [])], none⟩, ⟨some 51, some (u20), fun _ => [], fun ds_ u_ => [], [], [(1, [12, 1]), (0, [])], none⟩, ⟨some 52, some ((padd u21 1)), fun _ => [], fun ds_ u_ => [], [], [(0, [])], none⟩, ⟨some 53, none, fun u_ => [(false, .val (Rep.slice Message_.rep) u_ (({ y3 with Queue := y3.Queue }).Queue))], fun ds_ u_ => [], [], [(0, [])], none⟩, ⟨some 54, none, fun u_ => [(false, .ptr Message_.rep u_ x4)], fun ds_ u_ => [], [], [], none⟩, ⟨some 55, none, fun u_ => [(false, .val Message_.rep u_ x4)], fun ds_ u_ => [], [], [], none⟩, ⟨some 56, some (u14), fun _ => [], fun ds_ u_ => [], [], [], none⟩, ⟨some 57, none, fun u_ => [(true, .val (Rep.slice (Rep.int .u8)) u_ y4)], fun ds_ u_ => [], [], [], none⟩, ⟨some 58, some (.int .i64 a3), fun _ => [], fun ds_ u_ => [], [], [], none⟩, ⟨some 59, some (.int .i64 (IntKind.i64.wrap (a3 + 100))), fun _ => [], fun ds_ u_ => [], [], [], none⟩, ⟨some 60, none, fun u_ => [(false, .val Memory_.rep u_ (⟨x4, y4, (IntKind.i64.wrap (a3 + 100))⟩ : Memory_))], fun ds_ u_ => [], [], [], none⟩, ⟨some 61, none, fun u_ => [(false, .val (Rep.slice Memory_.rep) u_ ([(⟨x4, y4, (IntKind.i64.wrap (a3 + 100))⟩ : Memory_)]))], fun ds_ u_ => [], [], [], none⟩, ⟨some 62, none, fun u_ => [], fun ds_ u_ => [(false, .slice 72 Memory_.rep u_ x5)], [1], [], none⟩] [[], [0], [], [2], [3], [4], [], [6], [], [8], [5, 7, 9], [10], [1, 11]] [[(false, .box 29 (Rep.iso (fun s : Responder_ => (s.Own, s.Queue, s.Memory, ())) (Rep.prod (Rep.int .u8) (Rep.prod (Rep.slice Message_.rep) (Rep.prod (Rep.raw u20) Rep.unit)))) u21 ({ y3 with Queue := y3.Queue }))], [(false, .slice 72 Memory_.rep u20 y3.Memory)]] [0, 2, 3, 4, 5, 6, 7, 8, 9, 10, 11, 12, 13, 14] Try_mixed rfl rfl rfl h37 (.cons ?_ (.cons ?_ (.cons ?_ (.cons ?_ (.cons ?_ (.cons ?_ (.cons ?_ (.cons ?_ (.cons ?_ (.cons ?_ (.cons ?_ (.cons ?_ (.cons ?_ .nil))))))))))))) (fun q1 w hq1 h => ?_)
      ·intro q1 w Γx Ωx h
       have h : St e w ([(false, .val (Rep.slice Message_.rep) u19 y3.Queue), (false, .val (Rep.iso (fun s : Responder_ => (s.Own, s.Queue, s.Memory, ())) (Rep.prod (Rep.int .u8) (Rep.prod (Rep.raw u19) (Rep.prod (Rep.raw u20) Rep.unit)))) u18 y3), (false, .val Responder_.rep u17 a0), (true, .val (Rep.slice (Rep.int .u8)) u14 y2.1), (false, .val Message_.rep u13 x3), (false, .ptr Message_.rep u12 x3), (false, .val (Rep.slice Message_.rep) u11 a0.Queue), (false, .val (Rep.slice Message_.rep) u8 a0.Queue), (false, .val (Rep.slice (Rep.int .u8)) v2 a2)] ++ Γx) ([(false, .box 29 (Rep.iso (fun s : Responder_ => (s.Own, s.Queue, s.Memory, ())) (Rep.prod (Rep.int .u8) (Rep.prod (Rep.slice Message_.rep) (Rep.prod (Rep.raw u20) Rep.unit)))) u21 ({ y3 with Queue := y3.Queue })), (true, .slice 72 Memory_.rep (.slice none 0 0) ([])), (false, .box 29 Responder_.rep u1 a0), (true, .box 29 Responder_.rep u2 Responder_.z)] ++ Ωx) := h
       refine OpS.fbox (o3 := 2) h .z PA.z fa29_2 rfl rfl rfl rfl ?_
       exact ⟨undef, rfl, trivial, h⟩
      ·intro q1 w Γx Ωx h
       have h : St e w ([(false, .val (Rep.slice Message_.rep) u19 y3.Queue), (false, .val (Rep.iso (fun s : Responder_ => (s.Own, s.Queue, s.Memory, ())) (Rep.prod (Rep.int .u8) (Rep.prod (Rep.raw u19) (Rep.prod (Rep.raw u20) Rep.unit)))) u18 y3), (false, .val Responder_.rep u17 a0), (true, .val (Rep.slice (Rep.int .u8)) u14 y2.1), (false, .val Message_.rep u13 x3), (false, .ptr Message_.rep u12 x3), (false, .val (Rep.slice Message_.rep) u11 a0.Queue), (false, .val (Rep.slice Message_.rep) u8 a0.Queue), (false, .val (Rep.slice (Rep.int .u8)) v2 a2)] ++ Γx) ([(false, .slice 72 Memory_.rep u20 y3.Memory), (false, .box 29 (Rep.iso (fun s : Responder_ => (s.Own, s.Queue, s.Memory, ())) (Rep.prod (Rep.int .u8) (Rep.prod (Rep.slice Message_.rep) (Rep.prod (Rep.raw u20) Rep.unit)))) u21 ({ y3 with Queue := y3.Queue })), (true, .slice 72 Memory_.rep (.slice none 0 0) ([])), (false, .box 29 Responder_.rep u1 a0), (true, .box 29 Responder_.rep u2 Responder_.z)] ++ Ωx) := h
       refine OpS.loadR h (.s .z) PA.a (GetS.ok (GetS.iso _ (GetS.there (GetS.there (GetS.here GetS.id))))) ty27 rfl rfl rfl rfl rfl ?_
       exact ⟨undef, rfl, trivial, h⟩
      ·intro q1 w Γx Ωx h
       have h : St e w ([(false, .val (Rep.slice Message_.rep) u19 y3.Queue), (false, .val (Rep.iso (fun s : Responder_ => (s.Own, s.Queue, s.Memory, ())) (Rep.prod (Rep.int .u8) (Rep.prod (Rep.raw u19) (Rep.prod (Rep.raw u20) Rep.unit)))) u18 y3), (false, .val Responder_.rep u17 a0), (true, .val (Rep.slice (Rep.int .u8)) u14 y2.1), (false, .val Message_.rep u13 x3), (false, .ptr Message_.rep u12 x3), (false, .val (Rep.slice Message_.rep) u11 a0.Queue), (false, .val (Rep.slice Message_.rep) u8 a0.Queue), (false, .val (Rep.slice (Rep.int .u8)) v2 a2)] ++ Γx) ([(false, .box 29 (Rep.iso (fun s : Responder_ => (s.Own, s.Queue, s.Memory, ())) (Rep.prod (Rep.int .u8) (Rep.prod (Rep.slice Message_.rep) (Rep.prod (Rep.raw u20) Rep.unit)))) u21 ({ y3 with Queue := y3.Queue })), (true, .slice 72 Memory_.rep (.slice none 0 0) ([])), (false, .box 29 Responder_.rep u1 a0), (true, .box 29 Responder_.rep u2 Responder_.z)] ++ Ωx) := h
       refine OpS.fbox (o3 := 1) h .z PA.z fa29_1 rfl rfl rfl rfl ?_
       exact ⟨undef, rfl, trivial, h⟩
      ·intro q1 w Γx Ωx h
       have h : St e w ([(false, .val (Rep.slice Message_.rep) u19 y3.Queue), (false, .val (Rep.iso (fun s : Responder_ => (s.Own, s.Queue, s.Memory, ())) (Rep.prod (Rep.int .u8) (Rep.prod (Rep.raw u19) (Rep.prod (Rep.raw u20) Rep.unit)))) u18 y3), (false, .val Responder_.rep u17 a0), (true, .val (Rep.slice (Rep.int .u8)) u14 y2.1), (false, .val Message_.rep u13 x3), (false, .ptr Message_.rep u12 x3), (false, .val (Rep.slice Message_.rep) u11 a0.Queue), (false, .val (Rep.slice Message_.rep) u8 a0.Queue), (false, .val (Rep.slice (Rep.int .u8)) v2 a2)] ++ Γx) ([(false, .box 29 (Rep.iso (fun s : Responder_ => (s.Own, s.Queue, s.Memory, ())) (Rep.prod (Rep.int .u8) (Rep.prod (Rep.slice Message_.rep) (Rep.prod (Rep.raw u20) Rep.unit)))) u21 ({ y3 with Queue := y3.Queue })), (true, .slice 72 Memory_.rep (.slice none 0 0) ([])), (false, .box 29 Responder_.rep u1 a0), (true, .box 29 Responder_.rep u2 Responder_.z)] ++ Ωx) := h
       refine OpS.loadB (fr := (Rep.slice Message_.rep)) h .z PA.a (GetS.ok (GetS.iso _ (GetS.there (GetS.here GetS.id)))) (Ty.like ty26 (by rfl) (by rfl)) rfl rfl rfl (fun u h47 => ?_)
       exact ⟨u, rfl, trivial, h47⟩
      ·intro q1 w Γx Ωx h
       refine OpS.iptr h Try.underlying26 ty37 rfl rfl rfl rfl (V.at .z) e11 (fun u h48 => ?_)
       exact ⟨u, rfl, trivial, h48⟩
      ·intro q1 w Γx Ωx h
       refine OpS.load h ty37 rfl rfl rfl .z (fun u h49 => ?_)
       exact ⟨u, rfl, trivial, h49⟩
      ·intro q1 w Γx Ωx h
       refine OpS.mv rfl rfl rfl ?_
       exact ⟨undef, rfl, trivial, h⟩
      ·intro q1 w Γx Ωx h
       refine OpS.callP h Try.func41 rfl rfl rfl rfl (vs := [u14]) rfl (slices_Clone_byte_byte_ok e12) (.cons (f := true) (V.at (.s (.s (.s .z)))) .nil) ?_
       rintro u w16 _ _ _ ⟨_, rfl, rfl, rfl, rfl⟩ h50
       have h51 := h50 rfl rfl
       simp only [List.cons_append, List.nil_append] at h51
       have h52 := h51.freeze
       exact ⟨u, rfl, trivial, h52⟩
      ·intro q1 w Γx Ωx h
       refine OpS.mv rfl rfl rfl ?_
       exact ⟨undef, rfl, trivial, h⟩
      ·intro q1 w Γx Ωx h
       refine OpS.bin rfl rfl rfl rfl rfl ?_
       exact ⟨undef, rfl, trivial, h⟩
      ·intro q1 w Γx Ωx h
       refine OpS.build (f := false) (x' := (⟨x4, y4, (IntKind.i64.wrap (a3 + 100))⟩ : Memory_)) h pl72 ti72 Memory_.zr rfl rfl rfl (.cons rfl Memory_.f0 rfl (V.at .z) (.cons rfl Memory_.f1 rfl (V.weak (V.at (.s .z))) (.cons rfl Memory_.f2 rfl V.int .nil))) (fun u h53 => ?_)
       exact ⟨u, rfl, trivial, h53⟩
      ·intro q1 w Γx Ωx h
       refine OpS.lit (r := Memory_.rep) (f := false) h Try.underlying27 ti72 rfl rfl rfl rfl rfl (.cons rfl (V.at .z) .nil) rfl rfl (fun u w17 h54 => ?_)
       exact ⟨u, rfl, trivial, h54⟩
      ·intro q1 w Γx Ωx h
       have h : St e w ([(false, .val (Rep.slice Memory_.rep) (q1 11) ([(⟨x4, y4, (IntKind.i64.wrap (a3 + 100))⟩ : Memory_)])), (false, .val (Rep.slice Message_.rep) u19 y3.Queue), (false, .val (Rep.iso (fun s : Responder_ => (s.Own, s.Queue, s.Memory, ())) (Rep.prod (Rep.int .u8) (Rep.prod (Rep.raw u19) (Rep.prod (Rep.raw u20) Rep.unit)))) u18 y3), (false, .val Responder_.rep u17 a0), (true, .val (Rep.slice (Rep.int .u8)) u14 y2.1), (false, .val Message_.rep u13 x3), (false, .ptr Message_.rep u12 x3), (false, .val (Rep.slice Message_.rep) u11 a0.Queue), (false, .val (Rep.slice Message_.rep) u8 a0.Queue), (false, .val (Rep.slice (Rep.int .u8)) v2 a2)] ++ Γx) ([(false, .slice 72 Memory_.rep u20 y3.Memory), (true, .slice 72 Memory_.rep (.slice none 0 0) ([])), (false, .box 29 Responder_.rep u1 a0), (true, .box 29 Responder_.rep u2 Responder_.z)] ++ Ωx) := h
       refine OpS.app (f' := false) h .z Try.underlying27 ti72 rfl rfl rfl rfl rfl rfl rfl (V.at .z) (.inl (.inr rfl)) e13 (fun u w18 h55 => ?_)
       exact ⟨u, rfl, trivial, h55⟩
      have h56 : St e w [(false, .val (Rep.slice Message_.rep) (q1 3) (({ y3 with Queue := y3.Queue }).Queue)), (false, .ptr Message_.rep (q1 4) x4), (false, .val Message_.rep (q1 5) x4), (true, .val (Rep.slice (Rep.int .u8)) (q1 7) y4), (false, .val Memory_.rep (q1 10) (⟨x4, y4, (IntKind.i64.wrap (a3 + 100))⟩ : Memory_)), (false, .val (Rep.slice Memory_.rep) (q1 11) ([(⟨x4, y4, (IntKind.i64.wrap (a3 + 100))⟩ : Memory_)])), (false, .val (Rep.slice Message_.rep) u19 y3.Queue), (false, .val (Rep.iso (fun s : Responder_ => (s.Own, s.Queue, s.Memory, ())) (Rep.prod (Rep.int .u8) (Rep.prod (Rep.raw u19) (Rep.prod (Rep.raw u20) Rep.unit)))) u18 y3), (false, .val Responder_.rep u17 a0), (true, .val (Rep.slice (Rep.int .u8)) u14 y2.1), (false, .val Message_.rep u13 x3), (false, .ptr Message_.rep u12 x3), (false, .val (Rep.slice Message_.rep) u11 a0.Queue), (false, .val (Rep.slice Message_.rep) u8 a0.Queue), (false, .val (Rep.slice (Rep.int .u8)) v2 a2)] [(false, .box 29 (Rep.iso (fun s : Responder_ => (s.Own, s.Queue, s.Memory, ())) (Rep.prod (Rep.int .u8) (Rep.prod (Rep.slice Message_.rep) (Rep.prod (Rep.raw u20) Rep.unit)))) u21 ({ y3 with Queue := y3.Queue })), (false, .slice 72 Memory_.rep (q1 12) x5), (true, .slice 72 Memory_.rep (.slice none 0 0) ([])), (false, .box 29 Responder_.rep u1 a0), (true, .box 29 Responder_.rep u2 Responder_.z)] := h
      refine op (OpS.fbox (o3 := 2) h56 .z PA.z fa29_2 rfl rfl rfl rfl ?_)
      refine op (OpS.storeC (f' := false) (fr := (Rep.raw (q1 12))) (r' := (Rep.iso (fun s : Responder_ => (s.Own, s.Queue, s.Memory, ())) (Rep.prod (Rep.int .u8) (Rep.prod (Rep.slice Message_.rep) (Rep.prod (Rep.raw (q1 12)) Rep.unit))))) (x' := { y3 with Queue := y3.Queue }) h56 .z PA.a (Chg.iso _ (Chg.there (Chg.there (Chg.here (Chg.id (by rfl)))))) (Ty.like ty27 (by rfl) (by rfl)) rfl rfl rfl (V.raw (f := false) (St.own1 h56 (.s .z)) (({ y3 with Queue := y3.Queue }).Memory)) (.inr rfl) (fun w19 h57 => ?_))
      refine RunL.nil ?_
      refine Run.slim [(13, u21), (11, u14), (8, u2)] ⟨rfl, rfl, rfl, trivial⟩ ?_
      refine Run.seq ?_
      refine Run.reg ?_
      refine op (OpS.fbox (o3 := 1) h57 .z PA.z fa29_1 rfl rfl rfl rfl ?_)
      refine op (OpS.loadB (fr := (Rep.slice Message_.rep)) h57 .z PA.a (GetS.ok (GetS.iso _ (GetS.there (GetS.here GetS.id)))) (Ty.like ty26 (by rfl) (by rfl)) rfl rfl rfl (fun u22 h58 => ?_))
      obtain ⟨x6, e14, hF⟩ := bindP_use hF
      refine op (OpS.sub h58 Try.underlying26 ty37 rfl rfl rfl rfl rfl (V.at .z) e14 (fun u23 h59 => ?_))
      refine op (OpS.fbox (o3 := 1) h59 .z PA.z fa29_1 rfl rfl rfl rfl ?_)
      obtain ⟨d1, e15, hF⟩ := letP_use hF
      refine op (OpS.storeC (f' := false) (fr := (Rep.slice Message_.rep)) (r' := (Rep.iso (fun s : Responder_ => (s.Own, s.Queue, s.Memory, ())) (Rep.prod (Rep.int .u8) (Rep.prod (Rep.slice Message_.rep) (Rep.prod (Rep.raw (q1 12)) Rep.unit))))) (x' := d1) h59 .z PA.a (Chg.of (x' := { { y3 with Queue := y3.Queue } with Queue := x6 }) (Chg.iso _ (Chg.there (Chg.here (Chg.id (by rfl))))) e15) ty26 rfl rfl rfl (V.at .z) (.inr rfl) (fun w20 h60 => ?_))
      refine RunL.nil ?_
      refine Run.slim [(13, u21), (11, u14), (8, u2)] ⟨rfl, rfl, rfl, trivial⟩ ?_
      refine Run.seq ?_
      refine Run.reg ?_
      refine op (OpS.loadB (fr := (Rep.iso (fun s : Responder_ => (s.Own, s.Queue, s.Memory, ())) (Rep.prod (Rep.int .u8) (Rep.prod (Rep.slice Message_.rep) (Rep.prod (Rep.raw (q1 12)) Rep.unit))))) h60 .z PA.z (GetS.ok GetS.id) (Ty.like ty29 (by rfl) (by rfl)) rfl rfl rfl (fun u24 h61 => ?_))
      refine op (OpS.mv rfl rfl rfl ?_)
      have h62 := (h61.pick (.s (.s (.s (.s .z))))).weak
      refine op (OpS.storeC (f' := false) (fr := (Rep.iso (fun s : Responder_ => (s.Own, s.Queue, s.Memory, ())) (Rep.prod (Rep.int .u8) (Rep.prod (Rep.slice Message_.rep) (Rep.prod (Rep.raw (q1 12)) Rep.unit))))) (r' := (Rep.iso (fun s : Responder_ => (s.Own, s.Queue, s.Memory, ())) (Rep.prod (Rep.int .u8) (Rep.prod (Rep.slice Message_.rep) (Rep.prod (Rep.raw (q1 12)) Rep.unit))))) (x' := d1) h62 .z PA.z (Chg.id (by rfl)) (Ty.like ty29 (by rfl) (by rfl)) rfl rfl rfl (V.at .z) (.inr rfl) (fun w21 h63 => ?_))
      refine op (OpS.as rfl rfl rfl ?_)
      refine op (OpS.as rfl rfl rfl ?_)
      refine RunL.nil ?_
      refine Run.slim [(10, .int .i64 0), (9, u14), (8, u2)] ⟨rfl, rfl, rfl, trivial⟩ ?_
      have h65 := (h63.pick (.s (.s .z))).freeze
      have h66 := h65.pick .z
      have h67 := St.boxJ (r' := Responder_.rep) (x' := { d1 with Memory := x5 }) h66 (fun _ _ hs_ => (Jn.iso _ (Jn.prod Jn.refl (Jn.prod Jn.refl (Jn.prod (Jn.raw ((V.at .z) _ _ hs_) rfl) Jn.refl)))))
      have h68 := h67.pick (.s .z)
      have h69 := St.boxJ (r' := Responder_.rep) (x' := { d1 with Memory := x5 }) h68 (fun _ _ hs_ => (Jn.iso _ (Jn.prod Jn.refl (Jn.prod Jn.refl (Jn.prod (Jn.raw ((V.at .z) _ _ hs_) rfl) Jn.refl)))))
      obtain ⟨u25, hu5, h64⟩ := res_box h69 (.s .z) ty29
      refine Run.retP rfl (.cell rfl hu5 (.tmp rfl (.tmp rfl .nil))) ?_
      cases hF
      exact Post.mk' ⟨u25, u14, rfl, rfl, rfl, rfl⟩ (h64.picks .nil) (.val (V.at .z) (.val (V.at (.s (.s (.s (.s (.s (.s (.s (.s (.s (.s (.s (.s (.s (.s .z))))))))))))))) .nil))
  ·
   refine RunL.caseb hF (fun e16 hF => ?_) (fun e16 hF => ?_)
   ·
    refine op (OpS.pass rfl rfl rfl ?_)
    refine op (OpS.pass rfl rfl rfl ?_)
    refine op (OpS.pick rfl rfl rfl rfl ?_)
    refine op (OpS.as rfl rfl rfl ?_)
    refine RunL.nil ?_
    refine Run.slim [(19, .bool true), (8, u2), (4, u1), (1, .int .u8 a1), (2, v2), (3, .int .i64 a3)] ⟨rfl, rfl, rfl, rfl, rfl, rfl, trivial⟩ ?_
    refine Run.slim [(1, .int .u8 a1), (2, v2), (3, .int .i64 a3), (4, u1), (8, u2), (19, .bool true)] ⟨rfl, rfl, rfl, rfl, rfl, rfl, trivial⟩ ?_
    exact hj1 (true) _ _ ⟨rfl, (h5.facts (.atm (.s (.s .z)) .nil)).picks (.cons (.s .z) (.cons .z .nil))⟩ hF
   ·
    refine op (OpS.mv rfl rfl rfl ?_)
    refine op (OpS.bin rfl rfl rfl rfl rfl ?_)
    refine op (OpS.pick rfl rfl rfl rfl ?_)
    refine op (OpS.as rfl rfl rfl ?_)
    obtain ⟨x7, e17, hF⟩ := letP_use hF
    refine RunL.nameb e17 ?_
    refine RunL.nil ?_
    refine Run.slim [(19, .bool x7), (8, u2), (4, u1), (1, .int .u8 a1), (2, v2), (3, .int .i64 a3)] ⟨rfl, rfl, rfl, rfl, rfl, rfl, trivial⟩ ?_
    refine Run.slim [(1, .int .u8 a1), (2, v2), (3, .int .i64 a3), (4, u1), (8, u2), (19, .bool x7)] ⟨rfl, rfl, rfl, rfl, rfl, rfl, trivial⟩ ?_
    exact hj1 (x7) _ _ ⟨rfl, (h5.facts (.atm (.s (.s .z)) .nil)).picks (.cons (.s .z) (.cons .z .nil))⟩ hF
set_option maxHeartbeats 8000000 in
theorem law25_awake_ok {fuel : Nat}  {y : Bool} (hF : law25_awake fuel  = some y) {w : World} :
  Spec Try.prog 8 [].toArray w [] [] (fun v Γr Ωr Ωo => v = .bool y ∧ Γr = [] ∧ Ωr = [] ∧ Ωo = []) := by
 refine Spec.of (L := []) Try.func8 rfl trivial rfl (fun e h => ?_)
 unfold law25_awake at hF
 refine Run.seq ?_
 refine Run.reg ?_
 refine op (OpS.as rfl rfl rfl ?_)
 refine RunL.nil ?_
 refine Run.slim [] trivial ?_
 refine Run.seq ?_
 refine Run.reg ?_
 obtain ⟨y1, e1, hF⟩ := bindP_use hF
 refine op (OpS.callP h Try.func10 rfl rfl rfl rfl (vs := [.int .u8 32]) rfl (responder_New_ok e1) .nil ?_)
 rintro _ w1 _ _ _ ⟨u1, rfl, rfl, rfl, rfl⟩ h1
 have h2 := h1 rfl rfl
 simp only [List.cons_append, List.nil_append] at h2
 refine op (OpS.mv rfl rfl rfl ?_)
 refine op (OpS.ext rfl rfl rfl rfl ?_)
 refine op (OpS.ext rfl rfl rfl rfl ?_)
 refine op (OpS.alloc h2 ti29 Responder_.zr rfl rfl (fun u2 w2 h3 => ?_))
 refine op (OpS.storeB (f' := true) h3 .z PA.z Put.id ty29 rfl rfl rfl (V.at .z) (.inl rfl) (fun w3 h4 => ?_))
 refine op (OpS.as rfl rfl rfl ?_)
 refine RunL.nil ?_
 refine Run.slim [(2, .int .i64 y1.2), (1, u2)] ⟨rfl, rfl, trivial⟩ ?_
 refine Run.seq ?_
 refine Run.reg ?_
 refine op (OpS.build (f := true) (x' := (⟨32, 64, 6, 1, 0, 0, 0, 0, []⟩ : Message_)) h4 pl37 ti37 Message_.zr rfl rfl rfl (.cons rfl Message_.f0 rfl V.int (.cons rfl Message_.f1 rfl V.int (.cons rfl Message_.f2 rfl V.int (.cons rfl Message_.f3 rfl V.int .nil)))) (fun u3 h5 => ?_))
 obtain ⟨y2, e2, hF⟩ := bindP_use hF
 refine op (OpS.callP h5 Try.func13 rfl rfl rfl rfl (vs := [u3]) rfl (message_Request_ok e2) (.cons (f := true) (V.at .z) .nil) ?_)
 rintro _ w4 _ _ _ ⟨u4, rfl, rfl, rfl, rfl⟩ h6
 have h7 := h6 rfl rfl
 simp only [List.cons_append, List.nil_append] at h7
 refine op (OpS.mv rfl rfl rfl ?_)
 refine op (OpS.ext rfl rfl rfl rfl ?_)
 refine op (OpS.ext rfl rfl rfl rfl ?_)
 refine op (OpS.as rfl rfl rfl ?_)
 have h8 := (h7.pick .z).freeze
 refine op (OpS.as rfl rfl rfl ?_)
 refine RunL.nil ?_
 refine Run.slim [(4, .int .i64 y2.2), (3, u4), (2, .int .i64 y1.2), (1, u2)] ⟨rfl, rfl, rfl, rfl, trivial⟩ ?_
 refine Run.seq ?_
 refine Run.reg ?_
 refine op (OpS.loadB h8 .z PA.z Get.id ty29 rfl rfl rfl (fun u5 h9 => ?_))
 refine op (OpS.mv rfl rfl rfl ?_)
 obtain ⟨y3, e3, hF⟩ := bindP_use hF
 have h10 := h9.front .nil
 refine op (OpS.callO h10 Try.func14 rfl rfl rfl rfl (vs := [u5, u4, .int .i64 0]) rfl (responder_Accept_ok e3) rfl (.cons (f := true) (V.at .z) (.cons (f := true) (V.at (.s .z)) .nil)) ?_)
 rintro _ w5 _ _ _ ⟨u6, u7, rfl, rfl, rfl, rfl⟩ h11
 have h12 := h11
 simp only [List.cons_append, List.nil_append] at h12
 refine op (OpS.mv rfl rfl rfl ?_)
 refine op (OpS.ext rfl rfl rfl rfl ?_)
 refine op (OpS.ext rfl rfl rfl rfl ?_)
 refine op (OpS.ext rfl rfl rfl rfl ?_)
 have h13 := (h12.pick .z).weak
 refine op (OpS.storeB (f' := false) h13 .z PA.z Put.id ty29 rfl rfl rfl (V.at .z) (.inr rfl) (fun w6 h14 => ?_))
 refine op (OpS.as rfl rfl rfl ?_)
 refine op (OpS.as rfl rfl rfl ?_)
 refine RunL.nil ?_
 refine Run.slim [(6, .int .i64 y3.2.2), (5, u7), (4, .int .i64 y2.2), (3, u4), (2, .int .i64 y1.2), (1, u2)] ⟨rfl, rfl, rfl, rfl, rfl, rfl, trivial⟩ ?_
 refine Run.seq ?_
 refine Run.reg ?_
 refine op (OpS.loadB h14 .z PA.z Get.id ty29 rfl rfl rfl (fun u8 h15 => ?_))
 refine op (OpS.mv rfl rfl rfl ?_)
 obtain ⟨y4, e4, hF⟩ := bindP_use hF
 have h16 := h15.front .nil
 refine op (OpS.callO h16 Try.func14 rfl rfl rfl rfl (vs := [u8, u4, .int .i64 1]) rfl (responder_Accept_ok e4) rfl (.cons (f := false) (V.at .z) (.cons (f := true) (V.at (.s (.s (.s (.s .z))))) .nil)) ?_)
 rintro _ w7 _ _ _ ⟨u9, u10, rfl, rfl, rfl, rfl⟩ h17
 have h18 := h17
 simp only [List.cons_append, List.nil_append] at h18
 refine op (OpS.mv rfl rfl rfl ?_)
 refine op (OpS.ext rfl rfl rfl rfl ?_)
 refine op (OpS.ext rfl rfl rfl rfl ?_)
 refine op (OpS.ext rfl rfl rfl rfl ?_)
 refine op (OpS.storeB (f' := false) h18 .z PA.z Put.id ty29 rfl rfl rfl (V.at .z) (.inr rfl) (fun w8 h19 => ?_))
 refine op (OpS.as rfl rfl rfl ?_)
 refine op (OpS.as rfl rfl rfl ?_)
 refine RunL.nil ?_
 refine Run.slim [(8, .int .i64 y4.2.2), (7, u10), (6, .int .i64 y3.2.2), (5, u7), (4, .int .i64 y2.2), (3, u4), (2, .int .i64 y1.2), (1, u2)] ⟨rfl, rfl, rfl, rfl, rfl, rfl, rfl, rfl, trivial⟩ ?_
 refine Run.seq ?_
 refine Run.reg ?_
 refine op (OpS.loadB h19 .z PA.z Get.id ty29 rfl rfl rfl (fun u11 h20 => ?_))
 refine op (OpS.lit (r := (Rep.int .u8)) (f := true) h20 Try.underlying22 ti5 rfl rfl rfl rfl rfl (.cons rfl V.int .nil) rfl rfl (fun u12 w9 h21 => ?_))
 obtain ⟨y5, e5, hF⟩ := bindP_use hF
 have h22 := h21.front .nil
 refine op (OpS.callO h22 Try.func17 rfl rfl rfl rfl (vs := [u11, .int .u8 0, u12, .int .i64 2]) rfl (responder_Done_ok e5) rfl (.cons (f := false) (V.at (.s .z)) (.cons (f := true) (V.at .z) .nil)) ?_)
 rintro _ w10 _ _ _ ⟨u13, u14, rfl, rfl, rfl, rfl⟩ h23
 have h24 := h23
 simp only [List.cons_append, List.nil_append] at h24
 refine op (OpS.mv rfl rfl rfl ?_)
 refine op (OpS.ext rfl rfl rfl rfl ?_)
 refine op (OpS.ext rfl rfl rfl rfl ?_)
 refine op (OpS.ext rfl rfl rfl rfl ?_)
 refine op (OpS.storeB (f' := false) h24 .z PA.z Put.id ty29 rfl rfl rfl (V.at .z) (.inr rfl) (fun w11 h25 => ?_))
 refine op (OpS.as rfl rfl rfl ?_)
 refine op (OpS.as rfl rfl rfl ?_)
 refine RunL.nil ?_
 refine Run.slim [(10, .int .i64 y5.2.2), (9, u14), (8, .int .i64 y4.2.2), (7, u10), (6, .int .i64 y3.2.2), (5, u7), (4, .int .i64 y2.2), (3, u4), (2, .int .i64 y1.2), (1, u2)] ⟨rfl, rfl, rfl, rfl, rfl, rfl, rfl, rfl, rfl, rfl, trivial⟩ ?_
 refine Run.seq ?_
 refine Run.reg ?_
 refine op (OpS.loadB h25 .z PA.z Get.id ty29 rfl rfl rfl (fun u15 h26 => ?_))
 refine op (OpS.mv rfl rfl rfl ?_)
 obtain ⟨y6, e6, hF⟩ := bindP_use hF
 have h27 := h26.front .nil
 refine op (OpS.callO h27 Try.func14 rfl rfl rfl rfl (vs := [u15, u4, .int .i64 50]) rfl (responder_Accept_ok e6) rfl (.cons (f := false) (V.at .z) (.cons (f := true) (V.at (.s (.s (.s (.s (.s (.s (.s (.s (.s (.s (.s .z)))))))))))) .nil)) ?_)
 rintro _ w12 _ _ _ ⟨u16, u17, rfl, rfl, rfl, rfl⟩ h28
 have h29 := h28
 simp only [List.cons_append, List.nil_append] at h29
 refine op (OpS.mv rfl rfl rfl ?_)
 refine op (OpS.ext rfl rfl rfl rfl ?_)
 refine op (OpS.ext rfl rfl rfl rfl ?_)
 refine op (OpS.ext rfl rfl rfl rfl ?_)
 refine op (OpS.alloc h29 ti29 Responder_.zr rfl rfl (fun u18 w13 h30 => ?_))
 have h31 := (h30.pick .z).weak
 refine op (OpS.storeB (f' := false) h31 .z PA.z Put.id ty29 rfl rfl rfl (V.at .z) (.inr rfl) (fun w14 h32 => ?_))
 refine op (OpS.as rfl rfl rfl ?_)
 refine op (OpS.as rfl rfl rfl ?_)
 refine RunL.nil ?_
 refine Run.slim [(13, .int .i64 y6.2.2), (12, u17), (10, .int .i64 y5.2.2), (9, u14), (8, .int .i64 y4.2.2), (7, u10), (6, .int .i64 y3.2.2), (5, u7), (4, .int .i64 y2.2), (2, .int .i64 y1.2)] ⟨rfl, rfl, rfl, rfl, rfl, rfl, rfl, rfl, rfl, rfl, trivial⟩ ?_
 refine Run.seq ?_
 refine Run.reg ?_
 refine op (OpS.mv rfl rfl rfl ?_)
 refine op (OpS.bin rfl rfl rfl rfl rfl ?_)
 refine op (OpS.mv rfl rfl rfl ?_)
 refine RunL.caseb hF (fun e7 hF => ?_) (fun e7 hF => ?_)
 ·
  refine op (OpS.mv rfl rfl rfl ?_)
  refine op (OpS.bin rfl rfl rfl rfl rfl ?_)
  refine op (OpS.pick rfl rfl rfl rfl ?_)
  refine op (OpS.mv rfl rfl rfl ?_)
  refine RunL.caseb hF (fun e8 hF => ?_) (fun e8 hF => ?_)
  ·
   refine op (OpS.mv rfl rfl rfl ?_)
   refine op (OpS.bin rfl rfl rfl rfl rfl ?_)
   refine op (OpS.pick rfl rfl rfl rfl ?_)
   refine op (OpS.mv rfl rfl rfl ?_)
   refine RunL.caseb hF (fun e9 hF => ?_) (fun e9 hF => ?_)
   ·
    refine op (OpS.mv rfl rfl rfl ?_)
    refine op (OpS.bin rfl rfl rfl rfl rfl ?_)
    refine op (OpS.pick rfl rfl rfl rfl ?_)
    refine op (OpS.mv rfl rfl rfl ?_)
    refine RunL.caseb hF (fun e10 hF => ?_) (fun e10 hF => ?_)
    ·
     refine op (OpS.mv rfl rfl rfl ?_)
     refine op (OpS.bin rfl rfl rfl rfl rfl ?_)
     refine op (OpS.pick rfl rfl rfl rfl ?_)
     refine op (OpS.mv rfl rfl rfl ?_)
     refine RunL.caseb hF (fun e11 hF => ?_) (fun e11 hF => ?_)
     ·
      refine op (OpS.mv rfl rfl rfl ?_)
      refine op (OpS.bin rfl rfl rfl rfl rfl ?_)
      refine op (OpS.pick rfl rfl rfl rfl ?_)
      refine op (OpS.mv rfl rfl rfl ?_)
      refine RunL.caseb hF (fun e12 hF => ?_) (fun e12 hF => ?_)
      ·
       refine op (OpS.mv rfl rfl rfl ?_)
       refine op (OpS.len h32 Try.underlying22 rfl rfl rfl (V.at (.s (.s (.s (.s (.s (.s (.s (.s (.s (.s (.s .z)))))))))))) ?_)
       refine op (OpS.bin rfl rfl rfl rfl rfl ?_)
       refine op (OpS.pick rfl rfl rfl rfl ?_)
       refine op (OpS.mv rfl rfl rfl ?_)
       refine RunL.caseb hF (fun e13 hF => ?_) (fun e13 hF => ?_)
       ·
        refine op (OpS.mv rfl rfl rfl ?_)
        refine op (OpS.len h32 Try.underlying22 rfl rfl rfl (V.at (.s (.s (.s (.s (.s (.s (.s (.s .z))))))))) ?_)
        refine op (OpS.bin rfl rfl rfl rfl rfl ?_)
        refine op (OpS.pick rfl rfl rfl rfl ?_)
        refine op (OpS.mv rfl rfl rfl ?_)
        refine RunL.caseb hF (fun e14 hF => ?_) (fun e14 hF => ?_)
        ·
         refine op (OpS.mv rfl rfl rfl ?_)
         refine op (OpS.len h32 Try.underlying22 rfl rfl rfl (V.at (.s (.s (.s (.s .z))))) ?_)
         refine op (OpS.bin rfl rfl rfl rfl rfl ?_)
         refine op (OpS.pick rfl rfl rfl rfl ?_)
         refine op (OpS.mv rfl rfl rfl ?_)
         refine RunL.caseb hF (fun e15 hF => ?_) (fun e15 hF => ?_)
         ·
          refine op (OpS.mv rfl rfl rfl ?_)
          refine op (OpS.toStr h32 Try.underlying22 Try.underlying5 Try.underlying9 rfl rfl rfl (V.at (.s (.s (.s (.s .z))))) (fun u19 h33 => ?_))
          refine op (OpS.mv rfl rfl rfl ?_)
          refine op (OpS.toStr h33 Try.underlying22 Try.underlying5 Try.underlying9 rfl rfl rfl (V.at (.s (.s .z))) (fun u20 h34 => ?_))
          refine op (OpS.eqs h34 rfl rfl rfl rfl (V.at (.s .z)) (V.at .z) Try.underlying9 ?_)
          refine op (OpS.pick rfl rfl rfl rfl ?_)
          refine op (OpS.as rfl rfl rfl ?_)
          obtain ⟨x1, e16, hF⟩ := letP_use hF
          refine RunL.nameb e16 ?_
          refine RunL.nil ?_
          refine Run.slim [(0, .bool x1)] ⟨rfl, trivial⟩ ?_
          refine Run.retP rfl (.tmp rfl .nil) ?_
          cases hF
          exact Post.mk' ⟨rfl, rfl, rfl, rfl⟩ (h34.picks .nil) .nil
         ·
          refine op (OpS.pass rfl rfl rfl ?_)
          refine op (OpS.pass rfl rfl rfl ?_)
          refine op (OpS.pass rfl rfl rfl ?_)
          refine op (OpS.pass rfl rfl rfl ?_)
          refine op (OpS.pass rfl rfl rfl ?_)
          refine op (OpS.pick rfl rfl rfl rfl ?_)
          refine op (OpS.as rfl rfl rfl ?_)
          refine RunL.nil ?_
          refine Run.slim [(0, .bool false)] ⟨rfl, trivial⟩ ?_
          refine Run.retP rfl (.tmp rfl .nil) ?_
          cases hF
          exact Post.mk' ⟨rfl, rfl, rfl, rfl⟩ (h32.picks .nil) .nil
        ·
         refine op (OpS.pass rfl rfl rfl ?_)
         refine op (OpS.pass rfl rfl rfl ?_)
         refine op (OpS.pass rfl rfl rfl ?_)
         refine op (OpS.pick rfl rfl rfl rfl ?_)
         refine op (OpS.mv rfl rfl rfl ?_)
         refine op (OpS.pass rfl rfl rfl ?_)
         refine op (OpS.pass rfl rfl rfl ?_)
         refine op (OpS.pass rfl rfl rfl ?_)
         refine op (OpS.pass rfl rfl rfl ?_)
         refine op (OpS.pass rfl rfl rfl ?_)
         refine op (OpS.pick rfl rfl rfl rfl ?_)
         refine op (OpS.as rfl rfl rfl ?_)
         refine RunL.nil ?_
         refine Run.slim [(0, .bool false)] ⟨rfl, trivial⟩ ?_
         refine Run.retP rfl (.tmp rfl .nil) ?_
         cases hF
         exact Post.mk' ⟨rfl, rfl, rfl, rfl⟩ (h32.picks .nil) .nil
       ·
        refine op (OpS.pass rfl rfl rfl ?_)
        refine op (OpS.pass rfl rfl rfl ?_)
        refine op (OpS.pass rfl rfl rfl ?_)
        refine op (OpS.pick rfl rfl rfl rfl ?_)
        refine op (OpS.mv rfl rfl rfl ?_)
        refine op (OpS.pass rfl rfl rfl ?_)
        refine op (OpS.pass rfl rfl rfl ?_)
        refine op (OpS.pass rfl rfl rfl ?_)
        refine op (OpS.pick rfl rfl rfl rfl ?_)
        refine op (OpS.mv rfl rfl rfl ?_)
        refine op (OpS.pass rfl rfl rfl ?_)
        refine op (OpS.pass rfl rfl rfl ?_)
        refine op (OpS.pass rfl rfl rfl ?_)
        refine op (OpS.pass rfl rfl rfl ?_)
        refine op (OpS.pass rfl rfl rfl ?_)
        refine op (OpS.pick rfl rfl rfl rfl ?_)
        refine op (OpS.as rfl rfl rfl ?_)
        refine RunL.nil ?_
        refine Run.slim [(0, .bool false)] ⟨rfl, trivial⟩ ?_
        refine Run.retP rfl (.tmp rfl .nil) ?_
        cases hF
        exact Post.mk' ⟨rfl, rfl, rfl, rfl⟩ (h32.picks .nil) .nil
      ·
       refine op (OpS.pass rfl rfl rfl ?_)
       refine op (OpS.pass rfl rfl rfl ?_)
       refine op (OpS.pass rfl rfl rfl ?_)
       refine op (OpS.pick rfl rfl rfl rfl ?_)
       refine op (OpS.mv rfl rfl rfl ?_)
       refine op (OpS.pass rfl rfl rfl ?_)
       refine op (OpS.pass rfl rfl rfl ?_)
       refine op (OpS.pass rfl rfl rfl ?_)
       refine op (OpS.pick rfl rfl rfl rfl ?_)
       refine op (OpS.mv rfl rfl rfl ?_)
       refine op (OpS.pass rfl rfl rfl ?_)
       refine op (OpS.pass rfl rfl rfl ?_)
       refine op (OpS.pass rfl rfl rfl ?_)
       refine op (OpS.pick rfl rfl rfl rfl ?_)
       refine op (OpS.mv rfl rfl rfl ?_)
       refine op (OpS.pass rfl rfl rfl ?_)
       refine op (OpS.pass rfl rfl rfl ?_)
       refine op (OpS.pass rfl rfl rfl ?_)
       refine op (OpS.pass rfl rfl rfl ?_)
       refine op (OpS.pass rfl rfl rfl ?_)
       refine op (OpS.pick rfl rfl rfl rfl ?_)
       refine op (OpS.as rfl rfl rfl ?_)
       refine RunL.nil ?_
       refine Run.slim [(0, .bool false)] ⟨rfl, trivial⟩ ?_
       refine Run.retP rfl (.tmp rfl .nil) ?_
       cases hF
       exact Post.mk' ⟨rfl, rfl, rfl, rfl⟩ (h32.picks .nil) .nil
     ·
      refine op (OpS.pass rfl rfl rfl ?_)
      refine op (OpS.pass rfl rfl rfl ?_)
      refine op (OpS.pick rfl rfl rfl rfl ?_)
      refine op (OpS.mv rfl rfl rfl ?_)
      refine op (OpS.pass rfl rfl rfl ?_)
      refine op (OpS.pass rfl rfl rfl ?_)
      refine op (OpS.pass rfl rfl rfl ?_)
      refine op (OpS.pick rfl rfl rfl rfl ?_)
      refine op (OpS.mv rfl rfl rfl ?_)
      refine op (OpS.pass rfl rfl rfl ?_)
      refine op (OpS.pass rfl rfl rfl ?_)
      refine op (OpS.pass rfl rfl rfl ?_)
      refine op (OpS.pick rfl rfl rfl rfl ?_)
      refine op (OpS.mv rfl rfl rfl ?_)
      refine op (OpS.pass rfl rfl rfl ?_)
      refine op (OpS.pass rfl rfl rfl ?_)
      refine op (OpS.pass rfl rfl rfl ?_)
      refine op (OpS.pick rfl rfl rfl rfl ?_)
      refine op (OpS.mv rfl rfl rfl ?_)
      refine op (OpS.pass rfl rfl rfl ?_)
      refine op (OpS.pass rfl rfl rfl ?_)
      refine op (OpS.pass rfl rfl rfl ?_)
      refine op (OpS.pass rfl rfl rfl ?_)
      refine op (OpS.pass rfl rfl rfl ?_)
      refine op (OpS.pick rfl rfl rfl rfl ?_)
      refine op (OpS.as rfl rfl rfl ?_)
      refine RunL.nil ?_
      refine Run.slim [(0, .bool false)] ⟨rfl, trivial⟩ ?_
      refine Run.retP rfl (.tmp rfl .nil) ?_
      cases hF
      exact Post.mk' ⟨rfl, rfl, rfl, rfl⟩ (h32.picks .nil) .nil
    ·
     refine op (OpS.pass rfl rfl rfl ?_)
     refine op (OpS.pass rfl rfl rfl ?_)
     refine op (OpS.pick rfl rfl rfl rfl ?_)
     refine op (OpS.mv rfl rfl rfl ?_)
     refine op (OpS.pass rfl rfl rfl ?_)
     refine op (OpS.pass rfl rfl rfl ?_)
     refine op (OpS.pick rfl rfl rfl rfl ?_)
     refine op (OpS.mv rfl rfl rfl ?_)
     refine op (OpS.pass rfl rfl rfl ?_)
     refine op (OpS.pass rfl rfl rfl ?_)
     refine op (OpS.pass rfl rfl rfl ?_)
     refine op (OpS.pick rfl rfl rfl rfl ?_)
     refine op (OpS.mv rfl rfl rfl ?_)
     refine op (OpS.pass rfl rfl rfl ?_)
     refine op (OpS.pass rfl rfl rfl ?_)
     refine op (OpS.pass rfl rfl rfl ?_)
     refine op (OpS.pick rfl rfl rfl rfl ?_)
     refine op (OpS.mv rfl rfl rfl ?_)
     refine op (OpS.pass rfl rfl rfl ?_)
     refine op (OpS.pass rfl rfl rfl ?_)
     refine op (OpS.pass rfl rfl rfl ?_)
     refine op (OpS.pick rfl rfl rfl rfl ?_)
     refine op (OpS.mv rfl rfl rfl ?_)
     refine op (OpS.pass rfl rfl rfl ?_)
     refine op (OpS.pass rfl rfl rfl ?_)
     refine op (OpS.pass rfl rfl rfl ?_)
     refine op (OpS.pass rfl rfl rfl ?_)
     refine op (OpS.pass rfl rfl rfl ?_)
     refine op (OpS.pick rfl rfl rfl rfl ?_)
     refine op (OpS.as rfl rfl rfl ?_)
     refine RunL.nil ?_
     refine Run.slim [(0, .bool false)] ⟨rfl, trivial⟩ ?_
     refine Run.retP rfl (.tmp rfl .nil) ?_
     cases hF
     exact Post.mk' ⟨rfl, rfl, rfl, rfl⟩ (h32.picks .nil) .nil
   ·
    refine op (OpS.pass rfl rfl rfl ?_)
    refine op (OpS.pass rfl rfl rfl ?_)
    refine op (OpS.pick rfl rfl rfl rfl ?_)
    refine op (OpS.mv rfl rfl rfl ?_)
    refine op (OpS.pass rfl rfl rfl ?_)
    refine op (OpS.pass rfl rfl rfl ?_)
    refine op (OpS.pick rfl rfl rfl rfl ?_)
    refine op (OpS.mv rfl rfl rfl ?_)
    refine op (OpS.pass rfl rfl rfl ?_)
    refine op (OpS.pass rfl rfl rfl ?_)
    refine op (OpS.pick rfl rfl rfl rfl ?_)
    refine op (OpS.mv rfl rfl rfl ?_)
    refine op (OpS.pass rfl rfl rfl ?_)
    refine op (OpS.pass rfl rfl rfl ?_)
    refine op (OpS.pass rfl rfl rfl ?_)
    refine op (OpS.pick rfl rfl rfl rfl ?_)
    refine op (OpS.mv rfl rfl rfl ?_)
    refine op (OpS.pass rfl rfl rfl ?_)
    refine op (OpS.pass rfl rfl rfl ?_)
    refine op (OpS.pass rfl rfl rfl ?_)
    refine op (OpS.pick rfl rfl rfl rfl ?_)
    refine op (OpS.mv rfl rfl rfl ?_)
    refine op (OpS.pass rfl rfl rfl ?_)
    refine op (OpS.pass rfl rfl rfl ?_)
    refine op (OpS.pass rfl rfl rfl ?_)
    refine op (OpS.pick rfl rfl rfl rfl ?_)
    refine op (OpS.mv rfl rfl rfl ?_)
    refine op (OpS.pass rfl rfl rfl ?_)
    refine op (OpS.pass rfl rfl rfl ?_)
    refine op (OpS.pass rfl rfl rfl ?_)
    refine op (OpS.pass rfl rfl rfl ?_)
    refine op (OpS.pass rfl rfl rfl ?_)
    refine op (OpS.pick rfl rfl rfl rfl ?_)
    refine op (OpS.as rfl rfl rfl ?_)
    refine RunL.nil ?_
    refine Run.slim [(0, .bool false)] ⟨rfl, trivial⟩ ?_
    refine Run.retP rfl (.tmp rfl .nil) ?_
    cases hF
    exact Post.mk' ⟨rfl, rfl, rfl, rfl⟩ (h32.picks .nil) .nil
  ·
   refine op (OpS.pass rfl rfl rfl ?_)
   refine op (OpS.pass rfl rfl rfl ?_)
   refine op (OpS.pick rfl rfl rfl rfl ?_)
   refine op (OpS.mv rfl rfl rfl ?_)
   refine op (OpS.pass rfl rfl rfl ?_)
   refine op (OpS.pass rfl rfl rfl ?_)
   refine op (OpS.pick rfl rfl rfl rfl ?_)
   refine op (OpS.mv rfl rfl rfl ?_)
   refine op (OpS.pass rfl rfl rfl ?_)
   refine op (OpS.pass rfl rfl rfl ?_)
   refine op (OpS.pick rfl rfl rfl rfl ?_)
   refine op (OpS.mv rfl rfl rfl ?_)
   refine op (OpS.pass rfl rfl rfl ?_)
   refine op (OpS.pass rfl rfl rfl ?_)
   refine op (OpS.pick rfl rfl rfl rfl ?_)
   refine op (OpS.mv rfl rfl rfl ?_)
   refine op (OpS.pass rfl rfl rfl ?_)
   refine op (OpS.pass rfl rfl rfl ?_)
   refine op (OpS.pass rfl rfl rfl ?_)
   refine op (OpS.pick rfl rfl rfl rfl ?_)
   refine op (OpS.mv rfl rfl rfl ?_)
   refine op (OpS.pass rfl rfl rfl ?_)
   refine op (OpS.pass rfl rfl rfl ?_)
   refine op (OpS.pass rfl rfl rfl ?_)
   refine op (OpS.pick rfl rfl rfl rfl ?_)
   refine op (OpS.mv rfl rfl rfl ?_)
   refine op (OpS.pass rfl rfl rfl ?_)
   refine op (OpS.pass rfl rfl rfl ?_)
   refine op (OpS.pass rfl rfl rfl ?_)
   refine op (OpS.pick rfl rfl rfl rfl ?_)
   refine op (OpS.mv rfl rfl rfl ?_)
   refine op (OpS.pass rfl rfl rfl ?_)
   refine op (OpS.pass rfl rfl rfl ?_)
   refine op (OpS.pass rfl rfl rfl ?_)
   refine op (OpS.pass rfl rfl rfl ?_)
   refine op (OpS.pass rfl rfl rfl ?_)
   refine op (OpS.pick rfl rfl rfl rfl ?_)
   refine op (OpS.as rfl rfl rfl ?_)
   refine RunL.nil ?_
   refine Run.slim [(0, .bool false)] ⟨rfl, trivial⟩ ?_
   refine Run.retP rfl (.tmp rfl .nil) ?_
   cases hF
   exact Post.mk' ⟨rfl, rfl, rfl, rfl⟩ (h32.picks .nil) .nil
 ·
  refine op (OpS.pass rfl rfl rfl ?_)
  refine op (OpS.pass rfl rfl rfl ?_)
  refine op (OpS.pick rfl rfl rfl rfl ?_)
  refine op (OpS.mv rfl rfl rfl ?_)
  refine op (OpS.pass rfl rfl rfl ?_)
  refine op (OpS.pass rfl rfl rfl ?_)
  refine op (OpS.pick rfl rfl rfl rfl ?_)
  refine op (OpS.mv rfl rfl rfl ?_)
  refine op (OpS.pass rfl rfl rfl ?_)
  refine op (OpS.pass rfl rfl rfl ?_)
  refine op (OpS.pick rfl rfl rfl rfl ?_)
  refine op (OpS.mv rfl rfl rfl ?_)
  refine op (OpS.pass rfl rfl rfl ?_)
  refine op (OpS.pass rfl rfl rfl ?_)
  refine op (OpS.pick rfl rfl rfl rfl ?_)
  refine op (OpS.mv rfl rfl rfl ?_)
  refine op (OpS.pass rfl rfl rfl ?_)
  refine op (OpS.pass rfl rfl rfl ?_)
  refine op (OpS.pick rfl rfl rfl rfl ?_)
  refine op (OpS.mv rfl rfl rfl ?_)
  refine op (OpS.pass rfl rfl rfl ?_)
  refine op (OpS.pass rfl rfl rfl ?_)
  refine op (OpS.pass rfl rfl rfl ?_)
  refine op (OpS.pick rfl rfl rfl rfl ?_)
  refine op (OpS.mv rfl rfl rfl ?_)
  refine op (OpS.pass rfl rfl rfl ?_)
  refine op (OpS.pass rfl rfl rfl ?_)
  refine op (OpS.pass rfl rfl rfl ?_)
  refine op (OpS.pick rfl rfl rfl rfl ?_)
  refine op (OpS.mv rfl rfl rfl ?_)
  refine op (OpS.pass rfl rfl rfl ?_)
  refine op (OpS.pass rfl rfl rfl ?_)
  refine op (OpS.pass rfl rfl rfl ?_)
  refine op (OpS.pick rfl rfl rfl rfl ?_)
  refine op (OpS.mv rfl rfl rfl ?_)
  refine op (OpS.pass rfl rfl rfl ?_)
  refine op (OpS.pass rfl rfl rfl ?_)
  refine op (OpS.pass rfl rfl rfl ?_)
  refine op (OpS.pass rfl rfl rfl ?_)
  refine op (OpS.pass rfl rfl rfl ?_)
  refine op (OpS.pick rfl rfl rfl rfl ?_)
  refine op (OpS.as rfl rfl rfl ?_)
  refine RunL.nil ?_
  refine Run.slim [(0, .bool false)] ⟨rfl, trivial⟩ ?_
  refine Run.retP rfl (.tmp rfl .nil) ?_
  cases hF
  exact Post.mk' ⟨rfl, rfl, rfl, rfl⟩ (h32.picks .nil) .nil
theorem field_New_ok {fuel : Nat} {a0 : List Int} {a1 : Int} {y : field_Codes} (hF : field_New fuel a0 a1 = some y) {w : World} {v0 : Value} :
  Spec Try.prog 9 [v0, .int .i64 a1].toArray w [(false, .val (Rep.slice (Rep.int .u8)) v0 a0)] [] (fun v Γr Ωr Ωo => ∃ u0 : Value, v = u0 ∧ Γr = [] ∧ Ωr = [(false, .box 64 field_Codes.rep u0 y)] ∧ Ωo = []) := by
 refine Spec.of (L := [(0, v0), (1, .int .i64 a1)]) Try.func9 rfl ⟨rfl, rfl, trivial⟩ rfl (fun e h => ?_)
 unfold field_New at hF
 refine Run.seq ?_
 refine Run.reg ?_
 refine op (OpS.as rfl rfl rfl ?_)
 refine RunL.nil ?_
 refine Run.slim [(0, v0), (1, .int .i64 a1)] ⟨rfl, rfl, trivial⟩ ?_
 refine Run.seq ?_
 refine Run.reg ?_
 refine op (OpS.mv rfl rfl rfl ?_)
 refine op (OpS.mv rfl rfl rfl ?_)
 refine op (OpS.len h Try.underlying22 rfl rfl rfl (V.at .z) ?_)
 refine op (OpS.mv rfl rfl rfl ?_)
 refine op (OpS.mini rfl rfl rfl rfl ?_)
 obtain ⟨x1, e1, hF⟩ := bindP_use hF
 refine op (OpS.sub h Try.underlying22 ty5 rfl rfl rfl rfl rfl (V.at .z) e1 (fun u1 h1 => ?_))
 refine op (OpS.build (f := false) (x' := (⟨x1, 0⟩ : field_Codes)) h1 pl64 ti64 field_Codes.zr rfl rfl rfl (.cons rfl field_Codes.f0 rfl (V.at .z) .nil) (fun u2 h2 => ?_))
 refine op (OpS.boxF h2 rfl rfl rfl (V.at .z) (fun u3 w1 h3 => ?_))
 refine op (OpS.as rfl rfl rfl ?_)
 refine RunL.nil ?_
 refine Run.slim [(4, u3)] ⟨rfl, trivial⟩ ?_
 refine Run.retP rfl (.tmp rfl .nil) ?_
 cases hF
 exact Post.mk' ⟨u3, rfl, rfl, rfl, rfl⟩ (h3.picks (.cons .z .nil)) .nil
theorem field_Codes_Left_ok {fuel : Nat} {a0 : field_Codes} {y : Bool} (hF : field_Codes_Left fuel a0 = some y) {w : World} {v0 : Value} :
  Spec Try.prog 11 [v0].toArray w [(false, .ptr field_Codes.rep v0 a0)] [] (fun v Γr Ωr Ωo => v = .bool y ∧ Γr = [] ∧ Ωr = [] ∧ Ωo = []) := by
 refine Spec.of (L := [(0, v0)]) Try.func11 rfl ⟨rfl, trivial⟩ rfl (fun e h => ?_)
 unfold field_Codes_Left at hF
 refine Run.seq ?_
 refine Run.reg ?_
 refine op (OpS.as rfl rfl rfl ?_)
 refine RunL.nil ?_
 refine Run.slim [(0, v0)] ⟨rfl, trivial⟩ ?_
 refine Run.seq ?_
 refine Run.drawV (Ωs := []) [⟨some 3, some (v0), fun _ => [], fun ds_ u_ => [], [], [], none⟩, ⟨some 4, some (v0), fun _ => [], fun ds_ u_ => [], [], [], none⟩, ⟨some 5, none, fun u_ => [(false, .ptr (Rep.int .i64) u_ a0.At)], fun ds_ u_ => [], [], [], none⟩, ⟨some 6, some (.int .i64 a0.At), fun _ => [], fun ds_ u_ => [], [], [], none⟩, ⟨some 7, some (v0), fun _ => [], fun ds_ u_ => [], [], [], none⟩, ⟨some 8, some (v0), fun _ => [], fun ds_ u_ => [], [], [], none⟩, ⟨some 9, none, fun u_ => [(false, .ptr (Rep.slice (Rep.int .u8)) u_ a0.L)], fun ds_ u_ => [], [], [], none⟩, ⟨some 10, none, fun u_ => [(false, .val (Rep.slice (Rep.int .u8)) u_ a0.L)], fun ds_ u_ => [], [], [], none⟩, ⟨some 11, some (.int .i64 (a0.L.length : Int)), fun _ => [], fun ds_ u_ => [], [], [], none⟩, ⟨some 12, some (.bool (decide (a0.At < (a0.L.length : Int)))), fun _ => [], fun ds_ u_ => [], [], [], none⟩] [[], [0], [1], [2], [], [4], [5], [6], [7], [3, 8]] [] [0, 1, 2, 3, 4, 5, 6, 7, 8, 9] Try_mixed rfl rfl rfl h (.cons ?_ (.cons ?_ (.cons ?_ (.cons ?_ (.cons ?_ (.cons ?_ (.cons ?_ (.cons ?_ (.cons ?_ (.cons ?_ .nil)))))))))) (fun q1 w hq1 h => ?_)
 ·intro q1 w Γx Ωx h
  refine OpS.mv rfl rfl rfl ?_
  exact ⟨undef, rfl, trivial, h⟩
 ·intro q1 w Γx Ωx h
  refine OpS.nchkI h .z rfl rfl rfl ?_
  exact ⟨undef, rfl, trivial, h⟩
 ·intro q1 w Γx Ωx h
  refine OpS.fptr h fa64_1 field_Codes.f1 rfl rfl rfl .z (fun u h4 => ?_)
  exact ⟨u, rfl, trivial, h4⟩
 ·intro q1 w Γx Ωx h
  refine OpS.loadi h ty3 rfl rfl rfl .z ?_
  exact ⟨undef, rfl, trivial, h⟩
 ·intro q1 w Γx Ωx h
  refine OpS.mv rfl rfl rfl ?_
  exact ⟨undef, rfl, trivial, h⟩
 ·intro q1 w Γx Ωx h
  refine OpS.nchkI h .z rfl rfl rfl ?_
  exact ⟨undef, rfl, trivial, h⟩
 ·intro q1 w Γx Ωx h
  refine OpS.fptr h fa64_0 field_Codes.f0 rfl rfl rfl .z (fun u h5 => ?_)
  exact ⟨u, rfl, trivial, h5⟩
 ·intro q1 w Γx Ωx h
  refine OpS.load h ty22 rfl rfl rfl .z (fun u h6 => ?_)
  exact ⟨u, rfl, trivial, h6⟩
 ·intro q1 w Γx Ωx h
  refine OpS.len h Try.underlying22 rfl rfl rfl (V.at .z) ?_
  exact ⟨undef, rfl, trivial, h⟩
 ·intro q1 w Γx Ωx h
  refine OpS.bin rfl rfl rfl rfl rfl ?_
  exact ⟨undef, rfl, trivial, h⟩
 have h7 : St e w [(false, .ptr (Rep.int .i64) (q1 2) a0.At), (false, .ptr (Rep.slice (Rep.int .u8)) (q1 6) a0.L), (false, .val (Rep.slice (Rep.int .u8)) (q1 7) a0.L), (false, .ptr field_Codes.rep v0 a0)] [] := h
 refine op (OpS.as rfl rfl rfl ?_)
 obtain ⟨x1, e1, hF⟩ := letP_use hF
 refine RunL.nameb e1 ?_
 refine RunL.nil ?_
 refine Run.slim [(2, .bool x1)] ⟨rfl, trivial⟩ ?_
 refine Run.retP rfl (.tmp rfl .nil) ?_
 cases hF
 exact Post.mk' ⟨rfl, rfl, rfl, rfl⟩ (h7.picks .nil) .nil
set_option maxHeartbeats 8000000 in
theorem field_Codes_Next_ok {fuel : Nat} {a0 : field_Codes} {a1 : Int} {y : Int × field_Codes} (hF : field_Codes_Next fuel a0 a1 = some y) {w : World} {v0 : Value} :
  Spec Try.prog 12 [v0, .int .i64 a1].toArray w [] [(false, .box 64 field_Codes.rep v0 a0)] (fun v Γr Ωr Ωo => v = .int .i64 y.1 ∧ Γr = [] ∧ Ωr = [] ∧ Ωo = [(false, .box 64 field_Codes.rep v0 y.2)]) := by
 refine Spec.of (L := [(0, v0), (1, .int .i64 a1)]) Try.func12 rfl ⟨rfl, rfl, trivial⟩ rfl (fun e h => ?_)
 unfold field_Codes_Next at hF
 refine Run.seq ?_
 refine Run.reg ?_
 refine op (OpS.as rfl rfl rfl ?_)
 refine RunL.nil ?_
 refine Run.slim [(0, v0), (1, .int .i64 a1)] ⟨rfl, rfl, trivial⟩ ?_
 refine Run.seq ?_
 refine Run.seq ?_
 refine Run.reg ?_
 refine op (OpS.mv rfl rfl rfl ?_)
 obtain ⟨y1, e1, hF⟩ := bindP_use hF
 refine op (OpS.callP h Try.func11 rfl rfl rfl rfl (vs := [v0]) rfl (field_Codes_Left_ok e1) (.box .z .nil) ?_)
 rintro _ w1 _ _ _ ⟨rfl, rfl, rfl, rfl⟩ h1
 have h2 := h1 rfl rfl
 simp only [List.cons_append, List.nil_append] at h2
 refine op (OpS.not rfl rfl rfl ?_)
 refine op (OpS.mv rfl rfl rfl ?_)
 refine RunL.join (σ := Bool) (fun s_ L_ w_ => L_ = [(0, v0), (1, .int .i64 a1), (12, .bool s_)] ∧ St e w_ [] [(false, .box 64 field_Codes.rep v0 a0)]) hF (fun s1 _ w2 hI hF => ?_) (fun j1 hj1 hF => ?_)
 ·
  obtain ⟨rfl, h3⟩ := hI
  refine Run.ite rfl hF (fun e2 hF => ?_) (fun e2 hF => ?_)
  ·
   refine Run.seq ?_
   refine Run.reg ?_
   refine op (OpS.as rfl rfl rfl ?_)
   refine RunL.nil ?_
   refine Run.slim [(4, .int .i64 0)] ⟨rfl, trivial⟩ ?_
   refine Run.retP rfl (.tmp rfl .nil) ?_
   cases hF
   exact Post.mk' ⟨rfl, rfl, rfl, rfl⟩ (h3.picks (.cons .z .nil)) .nil
  ·
   refine Run.skip ?_
   refine Run.seq ?_
   obtain ⟨x1, e3, hF⟩ := bindP_use hF
   refine Run.drawV (Ωs := []) [⟨some 13, some (v0), fun _ => [], fun ds_ u_ => [], [], [], none⟩, ⟨some 14, some (v0), fun _ => [], fun ds_ u_ => [], [], [(0, [])], none⟩, ⟨some 15, some ((padd v0 0)), fun _ => [], fun ds_ u_ => [], [], [(0, [])], none⟩, ⟨some 16, none, fun u_ => [(false, .val (Rep.slice (Rep.int .u8)) u_ a0.L)], fun ds_ u_ => [], [], [(0, [])], none⟩, ⟨some 17, some (v0), fun _ => [], fun ds_ u_ => [], [], [], none⟩, ⟨some 18, some (v0), fun _ => [], fun ds_ u_ => [], [], [(0, [])], none⟩, ⟨some 19, some ((padd v0 1)), fun _ => [], fun ds_ u_ => [], [], [(0, [])], none⟩, ⟨some 20, some (.int .i64 a0.At), fun _ => [], fun ds_ u_ => [], [], [(0, [])], none⟩, ⟨some 21, none, fun u_ => [(false, .ptr (Rep.int .u8) u_ x1)], fun ds_ u_ => [], [], [], none⟩, ⟨some 22, some (.int .u8 x1), fun _ => [], fun ds_ u_ => [], [], [], none⟩, ⟨some 23, some (.int .i64 (IntKind.i64.wrap x1)), fun _ => [], fun ds_ u_ => [], [], [], none⟩] [[], [0], [1], [2], [], [4], [5], [6], [3, 7], [8], [9]] [[(false, .box 64 field_Codes.rep v0 a0)]] [0, 1, 2, 3, 4, 5, 6, 7, 8, 9, 10, 11] Try_mixed rfl rfl rfl h3 (.cons ?_ (.cons ?_ (.cons ?_ (.cons ?_ (.cons ?_ (.cons ?_ (.cons ?_ (.cons ?_ (.cons ?_ (.cons ?_ (.cons ?_ .nil))))))))))) (fun q1 w hq1 h => ?_)
   ·intro q1 w Γx Ωx h
    refine OpS.mv rfl rfl rfl ?_
    exact ⟨undef, rfl, trivial, h⟩
   ·intro q1 w Γx Ωx h
    have h : St e w ([] ++ Γx) ([(false, .box 64 field_Codes.rep v0 a0)] ++ Ωx) := h
    refine OpS.nchk h .z rfl rfl rfl ?_
    exact ⟨undef, rfl, trivial, h⟩
   ·intro q1 w Γx Ωx h
    have h : St e w ([] ++ Γx) ([(false, .box 64 field_Codes.rep v0 a0)] ++ Ωx) := h
    refine OpS.fbox (o3 := 0) h .z PA.z fa64_0 rfl rfl rfl rfl ?_
    exact ⟨undef, rfl, trivial, h⟩
   ·intro q1 w Γx Ωx h
    have h : St e w ([] ++ Γx) ([(false, .box 64 field_Codes.rep v0 a0)] ++ Ωx) := h
    refine OpS.loadB h .z PA.a (Get.fld field_Codes.f0) ty22 rfl rfl rfl (fun u h6 => ?_)
    exact ⟨u, rfl, trivial, h6⟩
   ·intro q1 w Γx Ωx h
    refine OpS.mv rfl rfl rfl ?_
    exact ⟨undef, rfl, trivial, h⟩
   ·intro q1 w Γx Ωx h
    have h : St e w ([] ++ Γx) ([(false, .box 64 field_Codes.rep v0 a0)] ++ Ωx) := h
    refine OpS.nchk h .z rfl rfl rfl ?_
    exact ⟨undef, rfl, trivial, h⟩
   ·intro q1 w Γx Ωx h
    have h : St e w ([] ++ Γx) ([(false, .box 64 field_Codes.rep v0 a0)] ++ Ωx) := h
    refine OpS.fbox (o3 := 1) h .z PA.z fa64_1 rfl rfl rfl rfl ?_
    exact ⟨undef, rfl, trivial, h⟩
   ·intro q1 w Γx Ωx h
    have h : St e w ([] ++ Γx) ([(false, .box 64 field_Codes.rep v0 a0)] ++ Ωx) := h
    refine OpS.loadBi h .z PA.a (Get.fld field_Codes.f1) ty3 rfl rfl rfl ?_
    exact ⟨undef, rfl, trivial, h⟩
   ·intro q1 w Γx Ωx h
    refine OpS.iptr h Try.underlying22 ty5 rfl rfl rfl rfl (V.at .z) e3 (fun u h7 => ?_)
    exact ⟨u, rfl, trivial, h7⟩
   ·intro q1 w Γx Ωx h
    refine OpS.loadi h ty5 rfl rfl rfl .z ?_
    exact ⟨undef, rfl, trivial, h⟩
   ·intro q1 w Γx Ωx h
    refine OpS.conv Try.underlying5 Try.underlying3 rfl rfl rfl ?_
    exact ⟨undef, rfl, trivial, h⟩
   have h8 : St e w [(false, .val (Rep.slice (Rep.int .u8)) (q1 3) a0.L), (false, .ptr (Rep.int .u8) (q1 8) x1)] [(false, .box 64 field_Codes.rep v0 a0)] := h
   refine op (OpS.as rfl rfl rfl ?_)
   refine RunL.nil ?_
   refine Run.slim [(5, .int .i64 (IntKind.i64.wrap x1)), (0, v0), (1, .int .i64 a1)] ⟨rfl, rfl, rfl, trivial⟩ ?_
   refine Run.seq ?_
   refine Run.reg ?_
   refine op (OpS.mv rfl rfl rfl ?_)
   refine op (OpS.nchk h8 .z rfl rfl rfl ?_)
   refine op (OpS.fbox (o3 := 1) h8 .z PA.z fa64_1 rfl rfl rfl rfl ?_)
   refine op (OpS.loadBi h8 .z PA.a (Get.fld field_Codes.f1) ty3 rfl rfl rfl ?_)
   refine op (OpS.bin rfl rfl rfl rfl rfl ?_)
   refine op (OpS.nchk h8 .z rfl rfl rfl ?_)
   refine op (OpS.fbox (o3 := 1) h8 .z PA.z fa64_1 rfl rfl rfl rfl ?_)
   obtain ⟨d1, e4, hF⟩ := letP_use hF
   refine op (OpS.storeB (f' := true) h8 .z PA.a (Put.of (Put.fld field_Codes.f1) e4) ty3 rfl rfl rfl V.int (.inr rfl) (fun w3 h9 => ?_))
   refine RunL.nil ?_
   refine Run.slim [(5, .int .i64 (IntKind.i64.wrap x1)), (0, v0), (1, .int .i64 a1)] ⟨rfl, rfl, rfl, trivial⟩ ?_
   refine Run.seq ?_
   refine Run.seq ?_
   refine Run.reg ?_
   refine op (OpS.mv rfl rfl rfl ?_)
   refine op (OpS.bin rfl rfl rfl rfl rfl ?_)
   refine op (OpS.mv rfl rfl rfl ?_)
   refine RunL.join (σ := Bool) (fun s_ L_ w_ => L_ = [(0, v0), (1, .int .i64 a1), (5, .int .i64 (IntKind.i64.wrap x1)), (36, .bool s_)] ∧ St e w_ [] [(false, .box 64 field_Codes.rep v0 d1)]) hF (fun s2 _ w4 hI hF => ?_) (fun j2 hj2 hF => ?_)
   ·
    obtain ⟨rfl, h10⟩ := hI
    refine Run.ite rfl hF (fun e5 hF => ?_) (fun e5 hF => ?_)
    ·
     refine Run.seq ?_
     obtain ⟨x2, e6, hF⟩ := bindP_use hF
     refine Run.drawV (Ωs := []) [⟨some 37, some (.int .i64 (IntKind.i64.wrap x1)), fun _ => [], fun ds_ u_ => [], [], [], none⟩, ⟨some 38, some (v0), fun _ => [], fun ds_ u_ => [], [], [], none⟩, ⟨some 39, some (v0), fun _ => [], fun ds_ u_ => [], [], [(0, [])], none⟩, ⟨some 40, some ((padd v0 0)), fun _ => [], fun ds_ u_ => [], [], [(0, [])], none⟩, ⟨some 41, none, fun u_ => [(false, .val (Rep.slice (Rep.int .u8)) u_ d1.L)], fun ds_ u_ => [], [], [(0, [])], none⟩, ⟨some 42, some (v0), fun _ => [], fun ds_ u_ => [], [], [], none⟩, ⟨some 43, some (v0), fun _ => [], fun ds_ u_ => [], [], [(0, [])], none⟩, ⟨some 44, some ((padd v0 1)), fun _ => [], fun ds_ u_ => [], [], [(0, [])], none⟩, ⟨some 45, some (.int .i64 d1.At), fun _ => [], fun ds_ u_ => [], [], [(0, [])], none⟩, ⟨some 46, none, fun u_ => [(false, .ptr (Rep.int .u8) u_ x2)], fun ds_ u_ => [], [], [], none⟩, ⟨some 47, some (.int .u8 x2), fun _ => [], fun ds_ u_ => [], [], [], none⟩, ⟨some 48, some (.int .i64 (IntKind.i64.wrap x2)), fun _ => [], fun ds_ u_ => [], [], [], none⟩, ⟨some 49, some (.int .i64 (bShl .i64 (IntKind.i64.wrap x2) 8)), fun _ => [], fun ds_ u_ => [], [], [], none⟩, ⟨some 50, some (.int .i64 (bOr .i64 (IntKind.i64.wrap x1) (bShl .i64 (IntKind.i64.wrap x2) 8))), fun _ => [], fun ds_ u_ => [], [], [], none⟩] [[], [], [1], [2], [3], [], [5], [6], [7], [4, 8], [9], [10], [11], [0, 12]] [[(false, .box 64 field_Codes.rep v0 d1)]] [0, 1, 2, 3, 4, 5, 6, 7, 8, 9, 10, 11, 12, 13, 14] Try_mixed rfl rfl rfl h10 (.cons ?_ (.cons ?_ (.cons ?_ (.cons ?_ (.cons ?_ (.cons ?_ (.cons ?_ (.cons ?_ (.cons ?_ (.cons ?_ (.cons ?_ (.cons ?_ (.cons ?_ (.cons ?_ .nil)))))))))))))) (fun q2 w hq2 h => ?_)
     ·intro q2 w Γx Ωx h
      refine OpS.mv rfl rfl rfl ?_
      exact ⟨undef, rfl, trivial, h⟩
     ·intro q2 w Γx Ωx h
      refine OpS.mv rfl rfl rfl ?_
      exact ⟨undef, rfl, trivial, h⟩
     ·intro q2 w Γx Ωx h
      have h : St e w ([] ++ Γx) ([(false, .box 64 field_Codes.rep v0 d1)] ++ Ωx) := h
      refine OpS.nchk h .z rfl rfl rfl ?_
      exact ⟨undef, rfl, trivial, h⟩
     ·intro q2 w Γx Ωx h
      have h : St e w ([] ++ Γx) ([(false, .box 64 field_Codes.rep v0 d1)] ++ Ωx) := h
      refine OpS.fbox (o3 := 0) h .z PA.z fa64_0 rfl rfl rfl rfl ?_
      exact ⟨undef, rfl, trivial, h⟩
     ·intro q2 w Γx Ωx h
      have h : St e w ([] ++ Γx) ([(false, .box 64 field_Codes.rep v0 d1)] ++ Ωx) := h
      refine OpS.loadB h .z PA.a (Get.fld field_Codes.f0) ty22 rfl rfl rfl (fun u h13 => ?_)
      exact ⟨u, rfl, trivial, h13⟩
     ·intro q2 w Γx Ωx h
      refine OpS.mv rfl rfl rfl ?_
      exact ⟨undef, rfl, trivial, h⟩
     ·intro q2 w Γx Ωx h
      have h : St e w ([] ++ Γx) ([(false, .box 64 field_Codes.rep v0 d1)] ++ Ωx) := h
      refine OpS.nchk h .z rfl rfl rfl ?_
      exact ⟨undef, rfl, trivial, h⟩
     ·intro q2 w Γx Ωx h
      have h : St e w ([] ++ Γx) ([(false, .box 64 field_Codes.rep v0 d1)] ++ Ωx) := h
      refine OpS.fbox (o3 := 1) h .z PA.z fa64_1 rfl rfl rfl rfl ?_
      exact ⟨undef, rfl, trivial, h⟩
     ·intro q2 w Γx Ωx h
      have h : St e w ([] ++ Γx) ([(false, .box 64 field_Codes.rep v0 d1)] ++ Ωx) := h
      refine OpS.loadBi h .z PA.a (Get.fld field_Codes.f1) ty3 rfl rfl rfl ?_
      exact ⟨undef, rfl, trivial, h⟩
     ·intro q2 w Γx Ωx h
      refine OpS.iptr h Try.underlying22 ty5 rfl rfl rfl rfl (V.at .z) e6 (fun u h14 => ?_)
      exact ⟨u, rfl, trivial, h14⟩
     ·intro q2 w Γx Ωx h
      refine OpS.loadi h ty5 rfl rfl rfl .z ?_
      exact ⟨undef, rfl, trivial, h⟩
     ·intro q2 w Γx Ωx h
      refine OpS.conv Try.underlying5 Try.underlying3 rfl rfl rfl ?_
      exact ⟨undef, rfl, trivial, h⟩
     ·intro q2 w Γx Ωx h
      refine OpS.shl rfl rfl rfl rfl (by decide) ?_
      exact ⟨undef, rfl, trivial, h⟩
     ·intro q2 w Γx Ωx h
      refine OpS.bin rfl rfl rfl rfl rfl ?_
      exact ⟨undef, rfl, trivial, h⟩
     have h15 : St e w [(false, .val (Rep.slice (Rep.int .u8)) (q2 4) d1.L), (false, .ptr (Rep.int .u8) (q2 9) x2)] [(false, .box 64 field_Codes.rep v0 d1)] := h
     refine op (OpS.as rfl rfl rfl ?_)
     obtain ⟨x3, e7, hF⟩ := letP_use hF
     refine RunL.name e7 ?_
     refine RunL.nil ?_
     refine Run.slim [(5, .int .i64 x3), (0, v0), (1, .int .i64 a1)] ⟨rfl, rfl, rfl, trivial⟩ ?_
     refine Run.reg ?_
     refine op (OpS.mv rfl rfl rfl ?_)
     refine op (OpS.nchk h15 .z rfl rfl rfl ?_)
     refine op (OpS.fbox (o3 := 1) h15 .z PA.z fa64_1 rfl rfl rfl rfl ?_)
     refine op (OpS.loadBi h15 .z PA.a (Get.fld field_Codes.f1) ty3 rfl rfl rfl ?_)
     refine op (OpS.bin rfl rfl rfl rfl rfl ?_)
     refine op (OpS.nchk h15 .z rfl rfl rfl ?_)
     refine op (OpS.fbox (o3 := 1) h15 .z PA.z fa64_1 rfl rfl rfl rfl ?_)
     obtain ⟨d2, e8, hF⟩ := letP_use hF
     refine op (OpS.storeB (f' := true) h15 .z PA.a (Put.of (Put.fld field_Codes.f1) e8) ty3 rfl rfl rfl V.int (.inr rfl) (fun w5 h16 => ?_))
     refine RunL.nil ?_
     refine Run.slim [(5, .int .i64 x3), (1, .int .i64 a1)] ⟨rfl, rfl, trivial⟩ ?_
     refine Run.seq ?_
     refine Run.reg ?_
     refine op (OpS.mv rfl rfl rfl ?_)
     refine op (OpS.mv rfl rfl rfl ?_)
     obtain ⟨e9, hF⟩ := chk_use hF
     refine op (OpS.rem rfl rfl rfl rfl e9 ?_)
     refine op (OpS.as rfl rfl rfl ?_)
     refine RunL.nil ?_
     refine Run.slim [(4, .int .i64 (Int.tmod x3 a1))] ⟨rfl, trivial⟩ ?_
     refine Run.retP rfl (.tmp rfl .nil) ?_
     cases hF
     exact Post.mk' ⟨rfl, rfl, rfl, rfl⟩ (h16.picks (.cons .z .nil)) .nil
    ·
     refine Run.skip ?_
     refine Run.seq ?_
     refine Run.reg ?_
     refine op (OpS.mv rfl rfl rfl ?_)
     refine op (OpS.mv rfl rfl rfl ?_)
     obtain ⟨e10, hF⟩ := chk_use hF
     refine op (OpS.rem rfl rfl rfl rfl e10 ?_)
     refine op (OpS.as rfl rfl rfl ?_)
     obtain ⟨x4, e11, hF⟩ := letP_use hF
     refine RunL.name e11 ?_
     refine RunL.nil ?_
     refine Run.slim [(4, .int .i64 x4)] ⟨rfl, trivial⟩ ?_
     refine Run.retP rfl (.tmp rfl .nil) ?_
     cases hF
     exact Post.mk' ⟨rfl, rfl, rfl, rfl⟩ (h10.picks (.cons .z .nil)) .nil
   ·
    refine RunL.caseb hF (fun e12 hF => ?_) (fun e12 hF => ?_)
    ·
     refine op (OpS.mv rfl rfl rfl ?_)
     obtain ⟨y2, e13, hF⟩ := bindP_use hF
     refine op (OpS.callP h9 Try.func11 rfl rfl rfl rfl (vs := [v0]) rfl (field_Codes_Left_ok e13) (.box .z .nil) ?_)
     rintro _ w6 _ _ _ ⟨rfl, rfl, rfl, rfl⟩ h17
     have h18 := h17 rfl rfl
     simp only [List.cons_append, List.nil_append] at h18
     refine op (OpS.pick rfl rfl rfl rfl ?_)
     refine RunL.nil ?_
     refine Run.slim [(36, .bool y2), (5, .int .i64 (IntKind.i64.wrap x1)), (0, v0), (1, .int .i64 a1)] ⟨rfl, rfl, rfl, rfl, trivial⟩ ?_
     refine Run.slim [(0, v0), (1, .int .i64 a1), (5, .int .i64 (IntKind.i64.wrap x1)), (36, .bool y2)] ⟨rfl, rfl, rfl, rfl, trivial⟩ ?_
     exact hj2 (y2) _ _ ⟨rfl, (h18.facts .nil).picks (.cons .z .nil)⟩ hF
    ·
     refine op (OpS.pass rfl rfl rfl ?_)
     refine op (OpS.pass rfl rfl rfl ?_)
     refine op (OpS.pick rfl rfl rfl rfl ?_)
     refine RunL.nil ?_
     refine Run.slim [(36, .bool false), (5, .int .i64 (IntKind.i64.wrap x1)), (0, v0), (1, .int .i64 a1)] ⟨rfl, rfl, rfl, rfl, trivial⟩ ?_
     refine Run.slim [(0, v0), (1, .int .i64 a1), (5, .int .i64 (IntKind.i64.wrap x1)), (36, .bool false)] ⟨rfl, rfl, rfl, rfl, trivial⟩ ?_
     exact hj2 (false) _ _ ⟨rfl, (h9.facts .nil).picks (.cons .z .nil)⟩ hF
 ·
  refine RunL.caseb hF (fun e14 hF => ?_) (fun e14 hF => ?_)
  ·
   refine op (OpS.pass rfl rfl rfl ?_)
   refine op (OpS.pass rfl rfl rfl ?_)
   refine op (OpS.pick rfl rfl rfl rfl ?_)
   refine RunL.nil ?_
   refine Run.slim [(12, .bool true), (0, v0), (1, .int .i64 a1)] ⟨rfl, rfl, rfl, trivial⟩ ?_
   refine Run.slim [(0, v0), (1, .int .i64 a1), (12, .bool true)] ⟨rfl, rfl, rfl, trivial⟩ ?_
   exact hj1 (true) _ _ ⟨rfl, (h2.facts .nil).picks (.cons .z .nil)⟩ hF
  ·
   refine op (OpS.mv rfl rfl rfl ?_)
   refine op (OpS.bin rfl rfl rfl rfl rfl ?_)
   refine op (OpS.pick rfl rfl rfl rfl ?_)
   refine RunL.nil ?_
   refine Run.slim [(12, .bool (decide (a1 < 1))), (0, v0), (1, .int .i64 a1)] ⟨rfl, rfl, rfl, trivial⟩ ?_
   refine Run.slim [(0, v0), (1, .int .i64 a1), (12, .bool (decide (a1 < 1)))] ⟨rfl, rfl, rfl, trivial⟩ ?_
   exact hj1 (decide (a1 < 1)) _ _ ⟨rfl, (h2.facts .nil).picks (.cons .z .nil)⟩ hF
theorem responder_Next_ok {fuel : Nat} {a0 : Responder_} {y : Message_ × Bool} (hF : responder_Next fuel a0 = some y) {w : World} {v0 : Value} :
  Spec Try.prog 16 [v0].toArray w [(false, .val Responder_.rep v0 a0)] [] (fun v Γr Ωr Ωo => ∃ u0 : Value, v = .tuple #[u0, .bool y.2] ∧ Γr = [(true, .val Message_.rep u0 y.1)] ∧ Ωr = [] ∧ Ωo = []) := by
 refine Spec.of (L := [(0, v0)]) Try.func16 rfl ⟨rfl, trivial⟩ rfl (fun e h => ?_)
 unfold responder_Next at hF
 refine Run.seq ?_
 refine Run.reg ?_
 refine op (OpS.boxF h rfl rfl rfl (V.at .z) (fun u1 w1 h1 => ?_))
 refine op (OpS.alloc h1 ti37 Message_.zr rfl rfl (fun u2 w2 h2 => ?_))
 refine op (OpS.as rfl rfl rfl ?_)
 refine RunL.nil ?_
 refine Run.slim [(2, u2), (1, u1)] ⟨rfl, rfl, trivial⟩ ?_
 refine Run.seq ?_
 refine Run.seq ?_
 refine Run.reg ?_
 refine op (OpS.loadB h2 (.s .z) PA.z Get.id ty29 rfl rfl rfl (fun u3 h3 => ?_))
 obtain ⟨y1, e1, hF⟩ := bindP_use hF
 refine op (OpS.callP h3 Try.func20 rfl rfl rfl rfl (vs := [u3]) rfl (responder_Valid_ok e1) (.cons (f := false) (V.at .z) .nil) ?_)
 rintro _ w3 _ _ _ ⟨rfl, rfl, rfl, rfl⟩ h4
 have h5 := h4 rfl rfl
 simp only [List.cons_append, List.nil_append] at h5
 refine op (OpS.not rfl rfl rfl ?_)
 refine op (OpS.mv rfl rfl rfl ?_)
 refine RunL.join (σ := Bool) (fun s_ L_ w_ => L_ = [(1, u1), (2, u2), (12, .bool s_)] ∧ St e w_ [] [(false, .box 29 Responder_.rep u1 a0), (true, .box 37 Message_.rep u2 Message_.z)]) hF (fun s1 _ w4 hI hF => ?_) (fun j1 hj1 hF => ?_)
 ·
  obtain ⟨rfl, h6⟩ := hI
  refine Run.ite rfl hF (fun e2 hF => ?_) (fun e2 hF => ?_)
  ·
   refine Run.seq ?_
   refine Run.reg ?_
   refine op (OpS.build (f := true) (x' := Message_.z) h6 pl37 ti37 Message_.zr rfl rfl rfl .nil (fun u4 h7 => ?_))
   refine op (OpS.storeB (f' := true) h7 (.s .z) PA.z Put.id ty37 rfl rfl rfl (V.at .z) (.inl rfl) (fun w5 h8 => ?_))
   refine op (OpS.as rfl rfl rfl ?_)
   refine RunL.nil ?_
   refine Run.slim [(3, .bool false), (2, u2)] ⟨rfl, rfl, trivial⟩ ?_
   obtain ⟨u5, hu1, h9⟩ := res_box h8 .z ty37
   refine Run.retP rfl (.cell rfl hu1 (.tmp rfl .nil)) ?_
   cases hF
   exact Post.mk' ⟨u5, rfl, rfl, rfl, rfl⟩ (h9.picks .nil) (.val (V.at .z) .nil)
  ·
   refine Run.skip ?_
   refine Run.seq ?_
   refine Run.reg ?_
   refine op (OpS.fbox (o3 := 1) h6 .z PA.z fa29_1 rfl rfl rfl rfl ?_)
   refine op (OpS.loadB h6 .z PA.a (Get.fld Responder_.f1) ty26 rfl rfl rfl (fun u6 h10 => ?_))
   obtain ⟨x1, e3, hF⟩ := bindP_use hF
   refine op (OpS.iptr h10 Try.underlying26 ty37 rfl rfl rfl rfl (V.at .z) e3 (fun u7 h11 => ?_))
   refine op (OpS.load h11 ty37 rfl rfl rfl .z (fun u8 h12 => ?_))
   obtain ⟨y2, e4, hF⟩ := bindP_use hF
   refine op (OpS.callP h12 Try.func44 rfl rfl rfl rfl (vs := [u8]) rfl (responder_copied_ok e4) (.cons (f := false) (V.at .z) .nil) ?_)
   rintro u9 w6 _ _ _ ⟨_, rfl, rfl, rfl, rfl⟩ h13
   have h14 := h13 rfl rfl
   simp only [List.cons_append, List.nil_append] at h14
   refine op (OpS.storeB (f' := true) h14 (.s .z) PA.z Put.id ty37 rfl rfl rfl (V.at .z) (.inl rfl) (fun w7 h15 => ?_))
   refine op (OpS.as rfl rfl rfl ?_)
   refine RunL.nil ?_
   refine Run.slim [(3, .bool true), (2, u2)] ⟨rfl, rfl, trivial⟩ ?_
   obtain ⟨u10, hu2, h16⟩ := res_box h15 .z ty37
   refine Run.retP rfl (.cell rfl hu2 (.tmp rfl .nil)) ?_
   cases hF
   exact Post.mk' ⟨u10, rfl, rfl, rfl, rfl⟩ (h16.picks .nil) (.val (V.at .z) .nil)
 ·
  refine RunL.caseb hF (fun e5 hF => ?_) (fun e5 hF => ?_)
  ·
   refine op (OpS.pass rfl rfl rfl ?_)
   refine op (OpS.pass rfl rfl rfl ?_)
   refine op (OpS.pass rfl rfl rfl ?_)
   refine op (OpS.pass rfl rfl rfl ?_)
   refine op (OpS.pick rfl rfl rfl rfl ?_)
   refine RunL.nil ?_
   refine Run.slim [(12, .bool true), (2, u2), (1, u1)] ⟨rfl, rfl, rfl, trivial⟩ ?_
   refine Run.slim [(1, u1), (2, u2), (12, .bool true)] ⟨rfl, rfl, rfl, trivial⟩ ?_
   exact hj1 (true) _ _ ⟨rfl, (h5.facts .nil).picks (.cons (.s .z) (.cons .z .nil))⟩ hF
  ·
   refine op (OpS.fbox (o3 := 1) h5 (.s .z) PA.z fa29_1 rfl rfl rfl rfl ?_)
   refine op (OpS.loadB h5 (.s .z) PA.a (Get.fld Responder_.f1) ty26 rfl rfl rfl (fun u11 h17 => ?_))
   refine op (OpS.len h17 Try.underlying26 rfl rfl rfl (V.at .z) ?_)
   refine op (OpS.bin rfl rfl rfl rfl rfl ?_)
   refine op (OpS.pick rfl rfl rfl rfl ?_)
   refine RunL.nil ?_
   refine Run.slim [(12, .bool ((a0.Queue.length : Int) == 0)), (2, u2), (1, u1)] ⟨rfl, rfl, rfl, trivial⟩ ?_
   refine Run.slim [(1, u1), (2, u2), (12, .bool ((a0.Queue.length : Int) == 0))] ⟨rfl, rfl, rfl, trivial⟩ ?_
   exact hj1 ((a0.Queue.length : Int) == 0) _ _ ⟨rfl, (h17.facts .nil).picks (.cons (.s .z) (.cons .z .nil))⟩ hF
set_option maxHeartbeats 8000000 in
theorem law25_ResponderOnce_ok {fuel : Nat} {a0 : List Int} {y : Bool} (hF : law25_ResponderOnce fuel a0 = some y) {w : World} {v0 : Value} :
  Spec Try.prog 3 [v0].toArray w [(false, .val (Rep.slice (Rep.int .u8)) v0 a0)] [] (fun v Γr Ωr Ωo => v = .bool y ∧ Γr = [] ∧ Ωr = [] ∧ Ωo = []) := by
 refine Spec.of (L := [(0, v0)]) Try.func3 rfl ⟨rfl, trivial⟩ rfl (fun e h => ?_)
 unfold law25_ResponderOnce at hF
 refine Run.seq ?_
 refine Run.reg ?_
 refine op (OpS.as rfl rfl rfl ?_)
 refine RunL.nil ?_
 refine Run.slim [(0, v0)] ⟨rfl, trivial⟩ ?_
 refine Run.seq ?_
 refine Run.seq ?_
 refine Run.reg ?_
 obtain ⟨y1, e1, hF⟩ := bindP_use hF
 refine op (OpS.callP h Try.func8 rfl rfl rfl rfl (vs := []) rfl (law25_awake_ok e1) .nil ?_)
 rintro _ w1 _ _ _ ⟨rfl, rfl, rfl, rfl⟩ h1
 have h2 := h1 rfl rfl
 simp only [List.cons_append, List.nil_append] at h2
 refine op (OpS.not rfl rfl rfl ?_)
 refine RunL.nil ?_
 refine Run.slim [(25, .bool (!y1)), (0, v0)] ⟨rfl, rfl, trivial⟩ ?_
 refine Run.ite rfl hF (fun e2 hF => ?_) (fun e2 hF => ?_)
 ·
  refine Run.seq ?_
  refine Run.reg ?_
  refine op (OpS.as rfl rfl rfl ?_)
  refine RunL.nil ?_
  refine Run.slim [(2, .bool false)] ⟨rfl, trivial⟩ ?_
  refine Run.retP rfl (.tmp rfl .nil) ?_
  cases hF
  exact Post.mk' ⟨rfl, rfl, rfl, rfl⟩ (h2.picks .nil) .nil
 ·
  refine Run.skip ?_
  refine Run.seq ?_
  refine Run.reg ?_
  refine op (OpS.mv rfl rfl rfl ?_)
  obtain ⟨y2, e3, hF⟩ := bindP_use hF
  have h3 := h2.front .nil
  refine op (OpS.callO h3 Try.func9 rfl rfl rfl rfl (vs := [v0, .int .i64 200]) rfl (field_New_ok e3) rfl (.cons (f := false) (V.at .z) .nil) ?_)
  rintro u1 w2 _ _ _ ⟨_, rfl, rfl, rfl, rfl⟩ h4
  have h5 := h4
  simp only [List.cons_append, List.nil_append] at h5
  refine op (OpS.as rfl rfl rfl ?_)
  refine RunL.nil ?_
  refine Run.slim [(3, u1)] ⟨rfl, trivial⟩ ?_
  refine Run.seq ?_
  refine Run.reg ?_
  obtain ⟨y3, e4, hF⟩ := bindP_use hF
  refine op (OpS.callP h5 Try.func10 rfl rfl rfl rfl (vs := [.int .u8 32]) rfl (responder_New_ok e4) .nil ?_)
  rintro _ w3 _ _ _ ⟨u2, rfl, rfl, rfl, rfl⟩ h6
  have h7 := h6 rfl rfl
  simp only [List.cons_append, List.nil_append] at h7
  refine op (OpS.mv rfl rfl rfl ?_)
  refine op (OpS.ext rfl rfl rfl rfl ?_)
  refine op (OpS.ext rfl rfl rfl rfl ?_)
  refine op (OpS.alloc h7 ti29 Responder_.zr rfl rfl (fun u3 w4 h8 => ?_))
  refine op (OpS.storeB (f' := true) h8 .z PA.z Put.id ty29 rfl rfl rfl (V.at .z) (.inl rfl) (fun w5 h9 => ?_))
  refine op (OpS.as rfl rfl rfl ?_)
  refine RunL.nil ?_
  refine Run.slim [(5, .int .i64 y3.2), (4, u3), (3, u1)] ⟨rfl, rfl, rfl, trivial⟩ ?_
  refine Run.seq ?_
  refine Run.seq ?_
  refine Run.reg ?_
  refine op (OpS.mv rfl rfl rfl ?_)
  refine op (OpS.bin rfl rfl rfl rfl rfl ?_)
  refine RunL.nil ?_
  refine Run.slim [(33, .bool (y3.2 != 0)), (4, u3), (3, u1)] ⟨rfl, rfl, rfl, trivial⟩ ?_
  refine Run.ite rfl hF (fun e5 hF => ?_) (fun e5 hF => ?_)
  ·
   refine Run.seq ?_
   refine Run.reg ?_
   refine op (OpS.as rfl rfl rfl ?_)
   refine RunL.nil ?_
   refine Run.slim [(2, .bool false)] ⟨rfl, trivial⟩ ?_
   refine Run.retP rfl (.tmp rfl .nil) ?_
   cases hF
   exact Post.mk' ⟨rfl, rfl, rfl, rfl⟩ (h9.picks .nil) .nil
  ·
   refine Run.skip ?_
   refine Run.seq ?_
   refine Run.reg ?_
   refine op (OpS.mkmap (r := (Rep.int .i64)) h9 rfl rfl (fun u4 w6 h10 => ?_))
   refine op (OpS.mkmap (r := Rep.str) h10 rfl rfl (fun u5 w7 h11 => ?_))
   refine op (OpS.as rfl rfl rfl ?_)
   refine op (OpS.as rfl rfl rfl ?_)
   refine RunL.nil ?_
   refine Run.slim [(7, u5), (6, u4), (4, u3), (3, u1)] ⟨rfl, rfl, rfl, rfl, trivial⟩ ?_
   refine Run.seq ?_
   refine Run.seq ?_
   refine Run.reg ?_
   refine op (OpS.as rfl rfl rfl ?_)
   refine RunL.nil ?_
   refine Run.block ?_
   have h12 := (h11.pick (.s (.s .z))).weak
   refine Run.slim [(3, u1), (4, u3), (6, u4), (7, u5), (8, .int .i64 0)] ⟨rfl, rfl, rfl, rfl, rfl, trivial⟩ ?_
   refine Run.loopP (σ := (Int × field_Codes × Responder_ × (List (List Int × Int)) × (List (List Int × (List Int))))) (fun s_ L_ w_ => L_ = [(3, u1), (4, u3), (6, u4), (7, u5), (8, .int .i64 s_.1)] ∧ St e w_ [] [(false, .box 64 field_Codes.rep u1 s_.2.1), (false, .box 29 Responder_.rep u3 s_.2.2.1), (true, .mp 33 (Rep.int .i64) u4 s_.2.2.2.1), (true, .mp 34 Rep.str u5 s_.2.2.2.2)]) hF ⟨rfl, (h12.facts .nil).picks (.cons (.s (.s (.s .z))) (.cons .z (.cons (.s .z) (.cons .z .nil))))⟩ (fun k1 hk1 s1 _ w8 hI hF => ?_)
   obtain ⟨rfl, h13⟩ := hI
   refine Run.seq ?_
   refine Run.seq ?_
   refine Run.reg ?_
   refine op (OpS.mv rfl rfl rfl ?_)
   refine op (OpS.bin rfl rfl rfl rfl rfl ?_)
   refine RunL.nil ?_
   refine Run.slim [(37, .bool (decide (s1.1 < 99))), (3, u1), (4, u3), (6, u4), (7, u5), (8, .int .i64 s1.1)] ⟨rfl, rfl, rfl, rfl, rfl, rfl, trivial⟩ ?_
   refine Run.ite rfl hF (fun e6 hF => ?_) (fun e6 hF => ?_)
   ·
    refine Run.skip ?_
    refine Run.seq ?_
    refine Run.block ?_
    refine Run.seq ?_
    refine Run.seq ?_
    refine Run.reg ?_
    refine op (OpS.mv rfl rfl rfl ?_)
    obtain ⟨y4, e7, hF⟩ := bindP_use hF
    refine op (OpS.callP h13 Try.func11 rfl rfl rfl rfl (vs := [u1]) rfl (field_Codes_Left_ok e7) (.box .z .nil) ?_)
    rintro _ w9 _ _ _ ⟨rfl, rfl, rfl, rfl⟩ h14
    have h15 := h14 rfl rfl
    simp only [List.cons_append, List.nil_append] at h15
    refine op (OpS.not rfl rfl rfl ?_)
    refine RunL.nil ?_
    refine Run.slim [(42, .bool (!y4)), (3, u1), (4, u3), (6, u4), (7, u5), (8, .int .i64 s1.1)] ⟨rfl, rfl, rfl, rfl, rfl, rfl, trivial⟩ ?_
    refine Run.ite rfl hF (fun e8 hF => ?_) (fun e8 hF => ?_)
    ·
     refine Run.exit rfl ?_
     refine Run.seq ?_
     refine Run.reg ?_
     refine op (OpS.as rfl rfl rfl ?_)
     refine RunL.nil ?_
     refine Run.slim [(2, .bool true)] ⟨rfl, trivial⟩ ?_
     refine Run.retP rfl (.tmp rfl .nil) ?_
     cases hF
     exact Post.mk' ⟨rfl, rfl, rfl, rfl⟩ (h15.picks .nil) .nil
    ·
     refine Run.skip ?_
     refine Run.seq ?_
     obtain ⟨y5, e9, hF⟩ := bindP_use hF
     obtain ⟨x1, e10, hF⟩ := bindP_use hF
     obtain ⟨y6, e11, hF⟩ := bindP_use hF
     obtain ⟨y7, e12, hF⟩ := bindP_use hF
     refine Run.drawV (Ωs := [(false, .box 29 Responder_.rep u3 s1.2.2.1), (true, .mp 33 (Rep.int .i64) u4 s1.2.2.2.1), (true, .mp 34 Rep.str u5 s1.2.2.2.2)]) [⟨some 43, none, fun u_ => [(true, .val (Rep.slice (Rep.int .u8)) u_ ([64, 66]))], fun ds_ u_ => [], [], [], none⟩, ⟨some 44, some (u1), fun _ => [], fun ds_ u_ => [], [], [], none⟩, ⟨some 45, some (.int .i64 y5.1), fun _ => [], fun ds_ u_ => [(false, .box 64 field_Codes.rep u1 y5.2)], [0], [], none⟩, ⟨some 46, none, fun u_ => [(true, .ptr (Rep.int .u8) u_ x1)], fun ds_ u_ => [], [], [], none⟩, ⟨some 47, some (.int .u8 x1), fun _ => [], fun ds_ u_ => [], [], [], none⟩, ⟨some 48, some (u1), fun _ => [], fun ds_ u_ => [], [], [], none⟩, ⟨some 49, some (.int .i64 y6.1), fun _ => [], fun ds_ u_ => [(false, .box 64 field_Codes.rep u1 y6.2)], [3], [], none⟩, ⟨some 50, some (u1), fun _ => [], fun ds_ u_ => [], [], [], none⟩, ⟨some 51, some (.int .i64 y7.1), fun _ => [], fun ds_ u_ => [(false, .box 64 field_Codes.rep u1 y7.2)], [7], [], none⟩, ⟨some 52, some (.int .u8 (IntKind.u8.wrap y7.1)), fun _ => [], fun ds_ u_ => [], [], [], none⟩, ⟨some 53, none, fun u_ => [(true, .val (Rep.slice (Rep.int .u8)) u_ ([(IntKind.u8.wrap y7.1)]))], fun ds_ u_ => [], [], [], none⟩, ⟨some 54, none, fun u_ => [(true, .val Message_.rep u_ (⟨32, x1, 6, 1, 0, 0, y6.1, 0, [(IntKind.u8.wrap y7.1)]⟩ : Message_))], fun ds_ u_ => [], [], [], none⟩, ⟨some 9, none, fun u_ => [], fun ds_ u_ => [(true, .box 37 Message_.rep u_ Message_.z)], [], [], none⟩] [[], [], [1], [0, 2], [3], [], [5], [], [7], [8], [9], [4, 6, 10], []] [[(false, .box 64 field_Codes.rep u1 s1.2.1)]] [1, 2, 4, 5, 6, 8, 9, 10, 11, 12, 13] Try_mixed rfl rfl rfl h15 (.cons ?_ (.cons ?_ (.cons ?_ (.cons ?_ (.cons ?_ (.cons ?_ (.cons ?_ (.cons ?_ (.cons ?_ (.cons ?_ (.cons ?_ (.cons ?_ (.cons ?_ .nil))))))))))))) (fun q1 w hq1 h => ?_)
     ·intro q1 w Γx Ωx h
      refine OpS.lit (r := (Rep.int .u8)) (f := true) h Try.underlying22 ti5 rfl rfl rfl rfl rfl (.cons rfl V.int (.cons rfl V.int .nil)) rfl rfl (fun u w16 h30 => ?_)
      exact ⟨u, rfl, trivial, h30⟩
     ·intro q1 w Γx Ωx h
      refine OpS.mv rfl rfl rfl ?_
      exact ⟨undef, rfl, trivial, h⟩
     ·intro q1 w Γx Ωx h
      have h : St e w ([] ++ Γx) ([(false, .box 64 field_Codes.rep u1 s1.2.1), (false, .box 29 Responder_.rep u3 s1.2.2.1), (true, .mp 33 (Rep.int .i64) u4 s1.2.2.2.1), (true, .mp 34 Rep.str u5 s1.2.2.2.2)] ++ Ωx) := h
      have h31 := h.front (.cons .z .nil)
      refine OpS.callO h31 Try.func12 rfl rfl rfl rfl (vs := [u1, .int .i64 2]) rfl (field_Codes_Next_ok e9) rfl .nil ?_
      rintro _ w17 _ _ _ ⟨rfl, rfl, rfl, rfl⟩ h32
      have h33 := h32
      simp only [List.cons_append, List.nil_append] at h33
      exact ⟨undef, rfl, trivial, h33⟩
     ·intro q1 w Γx Ωx h
      refine OpS.iptr h Try.underlying22 ty5 rfl rfl rfl rfl (V.at .z) e10 (fun u h34 => ?_)
      exact ⟨u, rfl, trivial, h34⟩
     ·intro q1 w Γx Ωx h
      refine OpS.loadi h ty5 rfl rfl rfl .z ?_
      exact ⟨undef, rfl, trivial, h⟩
     ·intro q1 w Γx Ωx h
      refine OpS.mv rfl rfl rfl ?_
      exact ⟨undef, rfl, trivial, h⟩
     ·intro q1 w Γx Ωx h
      have h : St e w ([] ++ Γx) ([(false, .box 64 field_Codes.rep u1 y5.2), (false, .box 29 Responder_.rep u3 s1.2.2.1), (true, .mp 33 (Rep.int .i64) u4 s1.2.2.2.1), (true, .mp 34 Rep.str u5 s1.2.2.2.2)] ++ Ωx) := h
      have h35 := h.front (.cons .z .nil)
      refine OpS.callO h35 Try.func12 rfl rfl rfl rfl (vs := [u1, .int .i64 3]) rfl (field_Codes_Next_ok e11) rfl .nil ?_
      rintro _ w18 _ _ _ ⟨rfl, rfl, rfl, rfl⟩ h36
      have h37 := h36
      simp only [List.cons_append, List.nil_append] at h37
      exact ⟨undef, rfl, trivial, h37⟩
     ·intro q1 w Γx Ωx h
      refine OpS.mv rfl rfl rfl ?_
      exact ⟨undef, rfl, trivial, h⟩
     ·intro q1 w Γx Ωx h
      have h : St e w ([] ++ Γx) ([(false, .box 64 field_Codes.rep u1 y6.2), (false, .box 29 Responder_.rep u3 s1.2.2.1), (true, .mp 33 (Rep.int .i64) u4 s1.2.2.2.1), (true, .mp 34 Rep.str u5 s1.2.2.2.2)] ++ Ωx) := h
      have h38 := h.front (.cons .z .nil)
      refine OpS.callO h38 Try.func12 rfl rfl rfl rfl (vs := [u1, .int .i64 4]) rfl (field_Codes_Next_ok e12) rfl .nil ?_
      rintro _ w19 _ _ _ ⟨rfl, rfl, rfl, rfl⟩ h39
      have h40 := h39
      simp only [List.cons_append, List.nil_append] at h40
      exact ⟨undef, rfl, trivial, h40⟩
     ·intro q1 w Γx Ωx h
      refine OpS.conv Try.underlying3 Try.underlying5 rfl rfl rfl ?_
      exact ⟨undef, rfl, trivial, h⟩
     ·intro q1 w Γx Ωx h
      refine OpS.lit (r := (Rep.int .u8)) (f := true) h Try.underlying22 ti5 rfl rfl rfl rfl rfl (.cons rfl V.int .nil) rfl rfl (fun u w20 h41 => ?_)
      exact ⟨u, rfl, trivial, h41⟩
     ·intro q1 w Γx Ωx h
      refine OpS.build (f := true) (x' := (⟨32, x1, 6, 1, 0, 0, y6.1, 0, [(IntKind.u8.wrap y7.1)]⟩ : Message_)) h pl37 ti37 Message_.zr rfl rfl rfl (.cons rfl Message_.f0 rfl V.int (.cons rfl Message_.f1 rfl V.int (.cons rfl Message_.f2 rfl V.int (.cons rfl Message_.f3 rfl V.int (.cons rfl Message_.f6 rfl V.int (.cons rfl Message_.f8 rfl (V.at .z) .nil)))))) (fun u h42 => ?_)
      exact ⟨u, rfl, trivial, h42⟩
     ·intro q1 w Γx Ωx h
      refine OpS.alloc h ti37 Message_.zr rfl rfl (fun u w21 h43 => ?_)
      exact ⟨u, rfl, trivial, h43⟩
     have h44 : St e w [(true, .val (Rep.slice (Rep.int .u8)) (q1 0) ([64, 66])), (true, .ptr (Rep.int .u8) (q1 3) x1), (true, .val (Rep.slice (Rep.int .u8)) (q1 10) ([(IntKind.u8.wrap y7.1)])), (true, .val Message_.rep (q1 11) (⟨32, x1, 6, 1, 0, 0, y6.1, 0, [(IntKind.u8.wrap y7.1)]⟩ : Message_))] [(false, .box 64 field_Codes.rep u1 y7.2), (true, .box 37 Message_.rep (q1 12) Message_.z), (false, .box 29 Responder_.rep u3 s1.2.2.1), (true, .mp 33 (Rep.int .i64) u4 s1.2.2.2.1), (true, .mp 34 Rep.str u5 s1.2.2.2.2)] := h
     refine op (OpS.storeB (f' := true) h44 (.s .z) PA.z Put.id ty37 rfl rfl rfl (V.at (.s (.s (.s .z)))) (.inl rfl) (fun w22 h45 => ?_))
     refine RunL.nil ?_
     refine Run.slim [(9, (q1 12)), (3, u1), (4, u3), (6, u4), (7, u5), (8, .int .i64 s1.1)] ⟨rfl, rfl, rfl, rfl, rfl, rfl, trivial⟩ ?_
     refine Run.seq ?_
     refine Run.reg ?_
     refine op (OpS.loadB h45 .z PA.z Get.id ty37 rfl rfl rfl (fun u6 h46 => ?_))
     obtain ⟨y8, e13, hF⟩ := bindP_use hF
     refine op (OpS.callP h46 Try.func13 rfl rfl rfl rfl (vs := [u6]) rfl (message_Request_ok e13) (.cons (f := true) (V.at .z) .nil) ?_)
     rintro _ w23 _ _ _ ⟨u7, rfl, rfl, rfl, rfl⟩ h47
     have h48 := h47 rfl rfl
     simp only [List.cons_append, List.nil_append] at h48
     refine op (OpS.mv rfl rfl rfl ?_)
     refine op (OpS.ext rfl rfl rfl rfl ?_)
     refine op (OpS.ext rfl rfl rfl rfl ?_)
     refine op (OpS.as rfl rfl rfl ?_)
     have h49 := (h48.pick .z).freeze
     refine op (OpS.as rfl rfl rfl ?_)
     refine RunL.nil ?_
     refine Run.slim [(11, .int .i64 y8.2), (10, u7), (3, u1), (4, u3), (6, u4), (7, u5), (8, .int .i64 s1.1)] ⟨rfl, rfl, rfl, rfl, rfl, rfl, rfl, trivial⟩ ?_
     refine Run.seq ?_
     refine Run.reg ?_
     refine op (OpS.loadB h49 (.s (.s .z)) PA.z Get.id ty29 rfl rfl rfl (fun u8 h50 => ?_))
     refine op (OpS.mv rfl rfl rfl ?_)
     refine op (OpS.mv rfl rfl rfl ?_)
     obtain ⟨y9, e14, hF⟩ := bindP_use hF
     have h51 := h50.front .nil
     refine op (OpS.callO h51 Try.func14 rfl rfl rfl rfl (vs := [u8, u7, .int .i64 s1.1]) rfl (responder_Accept_ok e14) rfl (.cons (f := false) (V.at .z) (.cons (f := true) (V.at (.s .z)) .nil)) ?_)
     rintro _ w24 _ _ _ ⟨u9, u10, rfl, rfl, rfl, rfl⟩ h52
     have h53 := h52
     simp only [List.cons_append, List.nil_append] at h53
     refine op (OpS.mv rfl rfl rfl ?_)
     refine op (OpS.ext rfl rfl rfl rfl ?_)
     refine op (OpS.ext rfl rfl rfl rfl ?_)
     refine op (OpS.ext rfl rfl rfl rfl ?_)
     refine op (OpS.alloc h53 ti29 Responder_.zr rfl rfl (fun u11 w25 h54 => ?_))
     have h55 := (h54.pick .z).weak
     refine op (OpS.storeB (f' := false) h55 .z PA.z Put.id ty29 rfl rfl rfl (V.at .z) (.inr rfl) (fun w26 h56 => ?_))
     refine op (OpS.as rfl rfl rfl ?_)
     refine op (OpS.as rfl rfl rfl ?_)
     refine RunL.nil ?_
     refine Run.slim [(14, .int .i64 y9.2.2), (13, u10), (12, u11), (11, .int .i64 y8.2), (10, u7), (3, u1), (4, u3), (6, u4), (7, u5), (8, .int .i64 s1.1)] ⟨rfl, rfl, rfl, rfl, rfl, rfl, rfl, rfl, rfl, rfl, trivial⟩ ?_
     refine Run.seq ?_
     refine Run.seq ?_
     refine Run.reg ?_
     refine op (OpS.mv rfl rfl rfl ?_)
     refine op (OpS.bin rfl rfl rfl rfl rfl ?_)
     refine op (OpS.mv rfl rfl rfl ?_)
     refine RunL.join (σ := Bool) (fun s_ L_ w_ => L_ = [(3, u1), (4, u3), (6, u4), (7, u5), (8, .int .i64 s1.1), (10, u7), (12, u11), (13, u10), (73, .bool s_)] ∧ St e w_ [(true, .val (Rep.slice (Rep.int .u8)) u7 y8.1), (true, .val (Rep.slice (Rep.int .u8)) u10 y9.2.1)] [(false, .box 64 field_Codes.rep u1 y7.2), (false, .box 29 Responder_.rep u3 s1.2.2.1), (true, .mp 33 (Rep.int .i64) u4 s1.2.2.2.1), (true, .mp 34 Rep.str u5 s1.2.2.2.2), (false, .box 29 Responder_.rep u11 y9.1)]) hF (fun s2 _ w27 hI hF => ?_) (fun j1 hj1 hF => ?_)
     ·
      obtain ⟨rfl, h57⟩ := hI
      refine Run.ite rfl hF (fun e15 hF => ?_) (fun e15 hF => ?_)
      ·
       refine Run.seq ?_
       refine Run.reg ?_
       refine op (OpS.as rfl rfl rfl ?_)
       refine RunL.nil ?_
       refine Run.slim [(2, .bool false)] ⟨rfl, trivial⟩ ?_
       refine Run.retP rfl (.tmp rfl .nil) ?_
       cases hF
       exact Post.mk' ⟨rfl, rfl, rfl, rfl⟩ (h57.picks .nil) .nil
      ·
       refine Run.skip ?_
       refine Run.seq ?_
       refine Run.reg ?_
       refine op (OpS.loadB h57 (.s (.s (.s (.s .z)))) PA.z Get.id ty29 rfl rfl rfl (fun u12 h58 => ?_))
       refine op (OpS.storeB (f' := false) h58 (.s .z) PA.z Put.id ty29 rfl rfl rfl (V.at .z) (.inr rfl) (fun w28 h59 => ?_))
       refine RunL.nil ?_
       refine Run.slim [(3, u1), (4, u3), (6, u4), (7, u5), (8, .int .i64 s1.1), (10, u7), (13, u10)] ⟨rfl, rfl, rfl, rfl, rfl, rfl, rfl, trivial⟩ ?_
       refine Run.seq ?_
       refine Run.seq ?_
       refine Run.reg ?_
       refine op (OpS.mv rfl rfl rfl ?_)
       refine op (OpS.len h59 Try.underlying22 rfl rfl rfl (V.at (.s (.s .z))) ?_)
       refine op (OpS.bin rfl rfl rfl rfl rfl ?_)
       refine RunL.nil ?_
       refine Run.slim [(77, .bool (decide ((y9.2.1.length : Int) > 0))), (3, u1), (4, u3), (6, u4), (7, u5), (8, .int .i64 s1.1), (10, u7), (13, u10)] ⟨rfl, rfl, rfl, rfl, rfl, rfl, rfl, rfl, trivial⟩ ?_
       refine Run.join (σ := Unit) (fun s_ L_ w_ => L_ = [(3, u1), (4, u3), (6, u4), (7, u5), (8, .int .i64 s1.1)] ∧ St e w_ [] [(false, .box 64 field_Codes.rep u1 y7.2), (false, .box 29 Responder_.rep u3 y9.1), (true, .mp 33 (Rep.int .i64) u4 s1.2.2.2.1), (true, .mp 34 Rep.str u5 s1.2.2.2.2)]) hF (fun s3 _ w29 hI hF => ?_) (fun j2 hj2 hF => ?_)
       ·
        obtain ⟨rfl, h60⟩ := hI
        refine Run.seq ?_
        refine Run.reg ?_
        refine op (OpS.mv rfl rfl rfl ?_)
        obtain ⟨y10, e16, hF⟩ := bindP_use hF
        have h61 := h60.front (.cons .z .nil)
        refine op (OpS.callO h61 Try.func12 rfl rfl rfl rfl (vs := [u1, .int .i64 2]) rfl (field_Codes_Next_ok e16) rfl .nil ?_)
        rintro _ w30 _ _ _ ⟨rfl, rfl, rfl, rfl⟩ h62
        have h63 := h62
        simp only [List.cons_append, List.nil_append] at h63
        refine op (OpS.bin rfl rfl rfl rfl rfl ?_)
        refine RunL.nil ?_
        refine Run.slim [(102, .bool (y10.1 == 0)), (3, u1), (4, u3), (6, u4), (7, u5), (8, .int .i64 s1.1)] ⟨rfl, rfl, rfl, rfl, rfl, rfl, trivial⟩ ?_
        refine Run.ite rfl hF (fun e17 hF => ?_) (fun e17 hF => ?_)
        ·
         refine Run.seq ?_
         refine Run.reg ?_
         refine op (OpS.loadB h63 (.s .z) PA.z Get.id ty29 rfl rfl rfl (fun u13 h64 => ?_))
         obtain ⟨y11, e18, hF⟩ := bindP_use hF
         refine op (OpS.callP h64 Try.func16 rfl rfl rfl rfl (vs := [u13]) rfl (responder_Next_ok e18) (.cons (f := false) (V.at .z) .nil) ?_)
         rintro _ w31 _ _ _ ⟨u14, rfl, rfl, rfl, rfl⟩ h65
         have h66 := h65 rfl rfl
         simp only [List.cons_append, List.nil_append] at h66
         refine op (OpS.mv rfl rfl rfl ?_)
         refine op (OpS.ext rfl rfl rfl rfl ?_)
         refine op (OpS.ext rfl rfl rfl rfl ?_)
         refine op (OpS.alloc h66 ti37 Message_.zr rfl rfl (fun u15 w32 h67 => ?_))
         refine op (OpS.storeB (f' := true) h67 .z PA.z Put.id ty37 rfl rfl rfl (V.at .z) (.inl rfl) (fun w33 h68 => ?_))
         refine op (OpS.as rfl rfl rfl ?_)
         refine RunL.nil ?_
         refine Run.slim [(18, .bool y11.2), (17, u15), (3, u1), (4, u3), (6, u4), (7, u5), (8, .int .i64 s1.1)] ⟨rfl, rfl, rfl, rfl, rfl, rfl, rfl, trivial⟩ ?_
         refine Run.seq ?_
         refine Run.seq ?_
         refine Run.reg ?_
         refine op (OpS.mv rfl rfl rfl ?_)
         refine op (OpS.not rfl rfl rfl ?_)
         refine RunL.nil ?_
         refine Run.slim [(109, .bool (!y11.2)), (17, u15), (3, u1), (4, u3), (6, u4), (7, u5), (8, .int .i64 s1.1)] ⟨rfl, rfl, rfl, rfl, rfl, rfl, rfl, trivial⟩ ?_
         refine Run.ite rfl hF (fun e19 hF => ?_) (fun e19 hF => ?_)
         ·
          refine Run.exit rfl ?_
          refine Run.reg ?_
          refine op (OpS.mv rfl rfl rfl ?_)
          refine op (OpS.bin rfl rfl rfl rfl rfl ?_)
          refine op (OpS.as rfl rfl rfl ?_)
          obtain ⟨x2, e20, hF⟩ := letP_use hF
          refine RunL.name e20 ?_
          refine RunL.nil ?_
          refine Run.slim [(8, .int .i64 x2), (3, u1), (4, u3), (6, u4), (7, u5)] ⟨rfl, rfl, rfl, rfl, rfl, trivial⟩ ?_
          refine Run.slim [(3, u1), (4, u3), (6, u4), (7, u5), (8, .int .i64 x2)] ⟨rfl, rfl, rfl, rfl, rfl, trivial⟩ ?_
          exact hk1 (x2, y10.2, y9.1, s1.2.2.2.1, s1.2.2.2.2) _ _ ⟨rfl, (h68.facts .nil).picks (.cons (.s .z) (.cons (.s .z) (.cons (.s .z) (.cons (.s .z) .nil))))⟩ hF
         ·
          refine Run.skip ?_
          refine Run.seq ?_
          refine Run.reg ?_
          refine op (OpS.loadB h68 .z PA.z Get.id ty37 rfl rfl rfl (fun u16 h69 => ?_))
          obtain ⟨y12, e21, hF⟩ := bindP_use hF
          refine op (OpS.callP h69 Try.func13 rfl rfl rfl rfl (vs := [u16]) rfl (message_Request_ok e21) (.cons (f := true) (V.at .z) .nil) ?_)
          rintro _ w34 _ _ _ ⟨u17, rfl, rfl, rfl, rfl⟩ h70
          have h71 := h70 rfl rfl
          simp only [List.cons_append, List.nil_append] at h71
          refine op (OpS.mv rfl rfl rfl ?_)
          refine op (OpS.ext rfl rfl rfl rfl ?_)
          refine op (OpS.ext rfl rfl rfl rfl ?_)
          refine op (OpS.as rfl rfl rfl ?_)
          have h72 := (h71.pick .z).freeze
          refine op (OpS.as rfl rfl rfl ?_)
          refine RunL.nil ?_
          refine Run.slim [(19, u17), (3, u1), (4, u3), (6, u4), (7, u5), (8, .int .i64 s1.1)] ⟨rfl, rfl, rfl, rfl, rfl, rfl, trivial⟩ ?_
          refine Run.seq ?_
          refine Run.reg ?_
          refine op (OpS.loadB h72 (.s (.s .z)) PA.z Get.id ty29 rfl rfl rfl (fun u18 h73 => ?_))
          refine op (OpS.mv rfl rfl rfl ?_)
          refine op (OpS.conv Try.underlying2 Try.underlying5 rfl rfl rfl ?_)
          refine op (OpS.lit (r := (Rep.int .u8)) (f := true) h73 Try.underlying22 ti5 rfl rfl rfl rfl rfl (.cons rfl V.int .nil) rfl rfl (fun u19 w35 h74 => ?_))
          refine op (OpS.mv rfl rfl rfl ?_)
          obtain ⟨y13, e22, hF⟩ := bindP_use hF
          have h75 := h74.front .nil
          refine op (OpS.callO h75 Try.func17 rfl rfl rfl rfl (vs := [u18, .int .u8 0, u19, .int .i64 s1.1]) rfl (responder_Done_ok e22) rfl (.cons (f := false) (V.at (.s .z)) (.cons (f := true) (V.at .z) .nil)) ?_)
          rintro _ w36 _ _ _ ⟨u20, u21, rfl, rfl, rfl, rfl⟩ h76
          have h77 := h76
          simp only [List.cons_append, List.nil_append] at h77
          refine op (OpS.mv rfl rfl rfl ?_)
          refine op (OpS.ext rfl rfl rfl rfl ?_)
          refine op (OpS.ext rfl rfl rfl rfl ?_)
          refine op (OpS.ext rfl rfl rfl rfl ?_)
          refine op (OpS.alloc h77 ti29 Responder_.zr rfl rfl (fun u22 w37 h78 => ?_))
          have h79 := (h78.pick .z).weak
          refine op (OpS.storeB (f' := false) h79 .z PA.z Put.id ty29 rfl rfl rfl (V.at .z) (.inr rfl) (fun w38 h80 => ?_))
          refine op (OpS.as rfl rfl rfl ?_)
          refine op (OpS.as rfl rfl rfl ?_)
          refine RunL.nil ?_
          refine Run.slim [(23, .int .i64 y13.2.2), (22, u21), (21, u22), (19, u17), (3, u1), (4, u3), (6, u4), (7, u5), (8, .int .i64 s1.1)] ⟨rfl, rfl, rfl, rfl, rfl, rfl, rfl, rfl, rfl, trivial⟩ ?_
          refine Run.seq ?_
          refine Run.reg ?_
          refine op (OpS.mv rfl rfl rfl ?_)
          refine op (OpS.mv rfl rfl rfl ?_)
          refine op (OpS.toStr h80 Try.underlying22 Try.underlying5 Try.underlying9 rfl rfl rfl (V.at (.s (.s (.s (.s .z))))) (fun u23 h81 => ?_))
          refine op (OpS.mlookI h81 (.s (.s (.s (.s .z)))) Try.underlying33 Try.underlying9 ti3 rfl rfl rfl rfl (V.at .z) ?_)
          refine op (OpS.bin rfl rfl rfl rfl rfl ?_)
          obtain ⟨d1, e23, hF⟩ := letP_use hF
          refine op (OpS.mupd (f' := true) h81 (.s (.s (.s (.s .z)))) Try.underlying33 Try.underlying9 rfl rfl rfl rfl (V.at .z) V.int (.inl rfl) e23 (fun w39 h82 => ?_))
          refine RunL.nil ?_
          refine Run.slim [(23, .int .i64 y13.2.2), (22, u21), (21, u22), (19, u17), (3, u1), (4, u3), (6, u4), (7, u5), (8, .int .i64 s1.1)] ⟨rfl, rfl, rfl, rfl, rfl, rfl, rfl, rfl, rfl, trivial⟩ ?_
          refine Run.seq ?_
          refine Run.reg ?_
          refine op (OpS.mv rfl rfl rfl ?_)
          refine op (OpS.mv rfl rfl rfl ?_)
          refine op (OpS.toStr h82 Try.underlying22 Try.underlying5 Try.underlying9 rfl rfl rfl (V.at (.s (.s (.s (.s (.s .z)))))) (fun u24 h83 => ?_))
          refine op (OpS.mv rfl rfl rfl ?_)
          refine op (OpS.toStr h83 Try.underlying22 Try.underlying5 Try.underlying9 rfl rfl rfl (V.at (.s (.s (.s .z)))) (fun u25 h84 => ?_))
          obtain ⟨d2, e24, hF⟩ := letP_use hF
          refine op (OpS.mupd (f' := true) h84 (.s (.s (.s (.s (.s .z))))) Try.underlying34 Try.underlying9 rfl rfl rfl rfl (V.at (.s .z)) (V.at .z) (.inl rfl) e24 (fun w40 h85 => ?_))
          refine RunL.nil ?_
          refine Run.slim [(23, .int .i64 y13.2.2), (21, u22), (19, u17), (3, u1), (4, u3), (6, u4), (7, u5), (8, .int .i64 s1.1)] ⟨rfl, rfl, rfl, rfl, rfl, rfl, rfl, rfl, trivial⟩ ?_
          refine Run.seq ?_
          refine Run.seq ?_
          refine Run.reg ?_
          refine op (OpS.mv rfl rfl rfl ?_)
          refine op (OpS.bin rfl rfl rfl rfl rfl ?_)
          refine op (OpS.mv rfl rfl rfl ?_)
          refine RunL.join (σ := Bool) (fun s_ L_ w_ => L_ = [(3, u1), (4, u3), (6, u4), (7, u5), (8, .int .i64 s1.1), (21, u22), (143, .bool s_)] ∧ St e w_ [] [(false, .box 64 field_Codes.rep u1 y10.2), (false, .box 29 Responder_.rep u3 y9.1), (true, .mp 33 (Rep.int .i64) u4 d1), (true, .mp 34 Rep.str u5 d2), (false, .box 29 Responder_.rep u22 y13.1)]) hF (fun s4 _ w41 hI hF => ?_) (fun j3 hj3 hF => ?_)
          ·
           obtain ⟨rfl, h86⟩ := hI
           refine Run.ite rfl hF (fun e25 hF => ?_) (fun e25 hF => ?_)
           ·
            refine Run.seq ?_
            refine Run.reg ?_
            refine op (OpS.as rfl rfl rfl ?_)
            refine RunL.nil ?_
            refine Run.slim [(2, .bool false)] ⟨rfl, trivial⟩ ?_
            refine Run.retP rfl (.tmp rfl .nil) ?_
            cases hF
            exact Post.mk' ⟨rfl, rfl, rfl, rfl⟩ (h86.picks .nil) .nil
           ·
            refine Run.skip ?_
            refine Run.reg ?_
            refine op (OpS.loadB h86 (.s (.s (.s (.s .z)))) PA.z Get.id ty29 rfl rfl rfl (fun u26 h87 => ?_))
            refine op (OpS.storeB (f' := false) h87 (.s .z) PA.z Put.id ty29 rfl rfl rfl (V.at .z) (.inr rfl) (fun w42 h88 => ?_))
            refine RunL.nil ?_
            refine Run.slim [(3, u1), (4, u3), (6, u4), (7, u5), (8, .int .i64 s1.1)] ⟨rfl, rfl, rfl, rfl, rfl, trivial⟩ ?_
            refine Run.endBlock ?_
            refine Run.reg ?_
            refine op (OpS.mv rfl rfl rfl ?_)
            refine op (OpS.bin rfl rfl rfl rfl rfl ?_)
            refine op (OpS.as rfl rfl rfl ?_)
            obtain ⟨x3, e26, hF⟩ := letP_use hF
            refine RunL.name e26 ?_
            refine RunL.nil ?_
            refine Run.slim [(8, .int .i64 x3), (3, u1), (4, u3), (6, u4), (7, u5)] ⟨rfl, rfl, rfl, rfl, rfl, trivial⟩ ?_
            refine Run.slim [(3, u1), (4, u3), (6, u4), (7, u5), (8, .int .i64 x3)] ⟨rfl, rfl, rfl, rfl, rfl, trivial⟩ ?_
            exact hk1 (x3, y10.2, y13.1, d1, d2) _ _ ⟨rfl, (h88.facts .nil).picks (.cons (.s .z) (.cons .z (.cons .z (.cons .z .nil))))⟩ hF
          ·
           refine RunL.caseb hF (fun e27 hF => ?_) (fun e27 hF => ?_)
           ·
            refine op (OpS.pass rfl rfl rfl ?_)
            refine op (OpS.pass rfl rfl rfl ?_)
            refine op (OpS.pass rfl rfl rfl ?_)
            refine op (OpS.pass rfl rfl rfl ?_)
            refine op (OpS.pass rfl rfl rfl ?_)
            refine op (OpS.pick rfl rfl rfl rfl ?_)
            refine RunL.nil ?_
            refine Run.slim [(143, .bool true), (21, u22), (3, u1), (4, u3), (6, u4), (7, u5), (8, .int .i64 s1.1)] ⟨rfl, rfl, rfl, rfl, rfl, rfl, rfl, trivial⟩ ?_
            refine Run.slim [(3, u1), (4, u3), (6, u4), (7, u5), (8, .int .i64 s1.1), (21, u22), (143, .bool true)] ⟨rfl, rfl, rfl, rfl, rfl, rfl, rfl, trivial⟩ ?_
            exact hj3 (true) _ _ ⟨rfl, (h85.facts .nil).picks (.cons (.s (.s (.s (.s .z)))) (.cons (.s (.s (.s (.s .z)))) (.cons (.s .z) (.cons .z (.cons .z .nil)))))⟩ hF
           ·
            refine op (OpS.mv rfl rfl rfl ?_)
            refine op (OpS.mv rfl rfl rfl ?_)
            refine op (OpS.toStr h85 Try.underlying22 Try.underlying5 Try.underlying9 rfl rfl rfl (V.at (.s (.s (.s (.s (.s (.s (.s .z)))))))) (fun u27 h89 => ?_))
            refine op (OpS.mlookI h89 (.s .z) Try.underlying33 Try.underlying9 ti3 rfl rfl rfl rfl (V.at .z) ?_)
            refine op (OpS.bin rfl rfl rfl rfl rfl ?_)
            refine op (OpS.pick rfl rfl rfl rfl ?_)
            refine RunL.nil ?_
            refine Run.slim [(143, .bool (decide ((mget 0 d1 (toStr y12.1)) > 1))), (21, u22), (3, u1), (4, u3), (6, u4), (7, u5), (8, .int .i64 s1.1)] ⟨rfl, rfl, rfl, rfl, rfl, rfl, rfl, trivial⟩ ?_
            refine Run.slim [(3, u1), (4, u3), (6, u4), (7, u5), (8, .int .i64 s1.1), (21, u22), (143, .bool (decide ((mget 0 d1 (toStr y12.1)) > 1)))] ⟨rfl, rfl, rfl, rfl, rfl, rfl, rfl, trivial⟩ ?_
            exact hj3 (decide ((mget 0 d1 (toStr y12.1)) > 1)) _ _ ⟨rfl, (h89.facts .nil).picks (.cons (.s (.s (.s (.s .z)))) (.cons (.s (.s (.s (.s .z)))) (.cons (.s .z) (.cons .z (.cons .z .nil)))))⟩ hF
        ·
         refine Run.skip ?_
         refine Run.endBlock ?_
         refine Run.reg ?_
         refine op (OpS.mv rfl rfl rfl ?_)
         refine op (OpS.bin rfl rfl rfl rfl rfl ?_)
         refine op (OpS.as rfl rfl rfl ?_)
         obtain ⟨x4, e28, hF⟩ := letP_use hF
         refine RunL.name e28 ?_
         refine RunL.nil ?_
         refine Run.slim [(8, .int .i64 x4), (3, u1), (4, u3), (6, u4), (7, u5)] ⟨rfl, rfl, rfl, rfl, rfl, trivial⟩ ?_
         refine Run.slim [(3, u1), (4, u3), (6, u4), (7, u5), (8, .int .i64 x4)] ⟨rfl, rfl, rfl, rfl, rfl, trivial⟩ ?_
         exact hk1 (x4, y10.2, y9.1, s1.2.2.2.1, s1.2.2.2.2) _ _ ⟨rfl, (h63.facts .nil).picks (.cons .z (.cons .z (.cons .z (.cons .z .nil))))⟩ hF
       ·
        refine Run.ite rfl hF (fun e29 hF => ?_) (fun e29 hF => ?_)
        ·
         refine Run.seq ?_
         refine Run.reg ?_
         refine op (OpS.mv rfl rfl rfl ?_)
         obtain ⟨y14, e30, hF⟩ := bindP_use hF
         refine op (OpS.callP h59 Try.func15 rfl rfl rfl rfl (vs := [u10]) rfl (message_ParseResponse_ok e30) (.cons (f := true) (V.at (.s (.s .z))) .nil) ?_)
         rintro _ w43 _ _ _ ⟨u28, rfl, rfl, rfl, rfl⟩ h90
         have h91 := h90 rfl rfl
         simp only [List.cons_append, List.nil_append] at h91
         refine op (OpS.mv rfl rfl rfl ?_)
         refine op (OpS.ext rfl rfl rfl rfl ?_)
         refine op (OpS.ext rfl rfl rfl rfl ?_)
         refine op (OpS.alloc h91 ti37 Message_.zr rfl rfl (fun u29 w44 h92 => ?_))
         refine op (OpS.storeB (f' := true) h92 .z PA.z Put.id ty37 rfl rfl rfl (V.at .z) (.inl rfl) (fun w45 h93 => ?_))
         refine op (OpS.as rfl rfl rfl ?_)
         refine RunL.nil ?_
         refine Run.slim [(16, .int .i64 y14.2), (15, u29), (3, u1), (4, u3), (6, u4), (7, u5), (8, .int .i64 s1.1), (10, u7), (13, u10)] ⟨rfl, rfl, rfl, rfl, rfl, rfl, rfl, rfl, rfl, trivial⟩ ?_
         refine Run.seq ?_
         refine Run.seq ?_
         refine Run.reg ?_
         refine op (OpS.mv rfl rfl rfl ?_)
         refine op (OpS.bin rfl rfl rfl rfl rfl ?_)
         refine RunL.nil ?_
         refine Run.slim [(84, .bool (y14.2 != 0)), (15, u29), (3, u1), (4, u3), (6, u4), (7, u5), (8, .int .i64 s1.1), (10, u7), (13, u10)] ⟨rfl, rfl, rfl, rfl, rfl, rfl, rfl, rfl, rfl, trivial⟩ ?_
         refine Run.ite rfl hF (fun e31 hF => ?_) (fun e31 hF => ?_)
         ·
          refine Run.seq ?_
          refine Run.reg ?_
          refine op (OpS.as rfl rfl rfl ?_)
          refine RunL.nil ?_
          refine Run.slim [(2, .bool false)] ⟨rfl, trivial⟩ ?_
          refine Run.retP rfl (.tmp rfl .nil) ?_
          cases hF
          exact Post.mk' ⟨rfl, rfl, rfl, rfl⟩ (h93.picks .nil) .nil
         ·
          refine Run.skip ?_
          refine Run.seq ?_
          refine Run.reg ?_
          refine op (OpS.fbox (o3 := 7) h93 .z PA.z fa37_7 rfl rfl rfl rfl ?_)
          refine op (OpS.loadBi h93 .z PA.a (Get.fld Message_.f7) ty5 rfl rfl rfl ?_)
          refine op (OpS.bin rfl rfl rfl rfl rfl ?_)
          refine RunL.nil ?_
          refine Run.slim [(87, .bool (y14.1.Code != 192)), (3, u1), (4, u3), (6, u4), (7, u5), (8, .int .i64 s1.1), (10, u7), (13, u10)] ⟨rfl, rfl, rfl, rfl, rfl, rfl, rfl, rfl, trivial⟩ ?_
          refine Run.ite rfl hF (fun e32 hF => ?_) (fun e32 hF => ?_)
          ·
           refine Run.seq ?_
           refine Run.reg ?_
           refine op (OpS.mv rfl rfl rfl ?_)
           refine op (OpS.mv rfl rfl rfl ?_)
           refine op (OpS.toStr h93 Try.underlying22 Try.underlying5 Try.underlying9 rfl rfl rfl (V.at (.s (.s .z))) (fun u30 h94 => ?_))
           refine op (OpS.mlookS h94 (.s (.s (.s (.s .z)))) Try.underlying34 Try.underlying9 ti9 rfl rfl rfl rfl (V.at .z) (fun u31 h95 => ?_))
           refine op (OpS.mv rfl rfl rfl ?_)
           refine op (OpS.toStr h95 Try.underlying22 Try.underlying5 Try.underlying9 rfl rfl rfl (V.at (.s (.s (.s (.s (.s .z)))))) (fun u32 h96 => ?_))
           refine op (OpS.nes h96 rfl rfl rfl rfl (V.at (.s .z)) (V.at .z) Try.underlying9 ?_)
           refine RunL.nil ?_
           refine Run.slim [(94, .bool ((mget [] s1.2.2.2.2 (toStr y8.1)) != (toStr y9.2.1))), (3, u1), (4, u3), (6, u4), (7, u5), (8, .int .i64 s1.1)] ⟨rfl, rfl, rfl, rfl, rfl, rfl, trivial⟩ ?_
           refine Run.ite rfl hF (fun e33 hF => ?_) (fun e33 hF => ?_)
           ·
            refine Run.seq ?_
            refine Run.reg ?_
            refine op (OpS.as rfl rfl rfl ?_)
            refine RunL.nil ?_
            refine Run.slim [(2, .bool false)] ⟨rfl, trivial⟩ ?_
            refine Run.retP rfl (.tmp rfl .nil) ?_
            cases hF
            exact Post.mk' ⟨rfl, rfl, rfl, rfl⟩ (h96.picks .nil) .nil
           ·
            refine Run.skip ?_
            refine Run.slim [(3, u1), (4, u3), (6, u4), (7, u5), (8, .int .i64 s1.1)] ⟨rfl, rfl, rfl, rfl, rfl, trivial⟩ ?_
            exact hj2 () _ _ ⟨rfl, (h96.facts .nil).picks (.cons (.s (.s .z)) (.cons (.s .z) (.cons (.s .z) (.cons (.s .z) .nil))))⟩ hF
          ·
           refine Run.seq ?_
           refine Run.reg ?_
           refine op (OpS.mv rfl rfl rfl ?_)
           refine op (OpS.mv rfl rfl rfl ?_)
           refine op (OpS.toStr h93 Try.underlying22 Try.underlying5 Try.underlying9 rfl rfl rfl (V.at (.s (.s .z))) (fun u33 h97 => ?_))
           refine op (OpS.mlookI h97 (.s (.s (.s .z))) Try.underlying33 Try.underlying9 ti3 rfl rfl rfl rfl (V.at .z) ?_)
           refine op (OpS.bin rfl rfl rfl rfl rfl ?_)
           refine RunL.nil ?_
           refine Run.slim [(99, .bool (decide ((mget 0 s1.2.2.2.1 (toStr y8.1)) > 0))), (3, u1), (4, u3), (6, u4), (7, u5), (8, .int .i64 s1.1)] ⟨rfl, rfl, rfl, rfl, rfl, rfl, trivial⟩ ?_
           refine Run.ite rfl hF (fun e34 hF => ?_) (fun e34 hF => ?_)
           ·
            refine Run.seq ?_
            refine Run.reg ?_
            refine op (OpS.as rfl rfl rfl ?_)
            refine RunL.nil ?_
            refine Run.slim [(2, .bool false)] ⟨rfl, trivial⟩ ?_
            refine Run.retP rfl (.tmp rfl .nil) ?_
            cases hF
            exact Post.mk' ⟨rfl, rfl, rfl, rfl⟩ (h97.picks .nil) .nil
           ·
            refine Run.skip ?_
            refine Run.slim [(3, u1), (4, u3), (6, u4), (7, u5), (8, .int .i64 s1.1)] ⟨rfl, rfl, rfl, rfl, rfl, trivial⟩ ?_
            exact hj2 () _ _ ⟨rfl, (h97.facts .nil).picks (.cons (.s (.s .z)) (.cons (.s .z) (.cons (.s .z) (.cons (.s .z) .nil))))⟩ hF
        ·
         refine Run.skip ?_
         refine Run.slim [(3, u1), (4, u3), (6, u4), (7, u5), (8, .int .i64 s1.1)] ⟨rfl, rfl, rfl, rfl, rfl, trivial⟩ ?_
         exact hj2 () _ _ ⟨rfl, (h59.facts .nil).picks (.cons (.s .z) (.cons .z (.cons .z (.cons .z .nil))))⟩ hF
     ·
      refine RunL.caseb hF (fun e35 hF => ?_) (fun e35 hF => ?_)
      ·
       refine op (OpS.pass rfl rfl rfl ?_)
       refine op (OpS.pass rfl rfl rfl ?_)
       refine op (OpS.pick rfl rfl rfl rfl ?_)
       refine RunL.nil ?_
       refine Run.slim [(73, .bool true), (13, u10), (12, u11), (10, u7), (3, u1), (4, u3), (6, u4), (7, u5), (8, .int .i64 s1.1)] ⟨rfl, rfl, rfl, rfl, rfl, rfl, rfl, rfl, rfl, trivial⟩ ?_
       refine Run.slim [(3, u1), (4, u3), (6, u4), (7, u5), (8, .int .i64 s1.1), (10, u7), (12, u11), (13, u10), (73, .bool true)] ⟨rfl, rfl, rfl, rfl, rfl, rfl, rfl, rfl, rfl, trivial⟩ ?_
       exact hj1 (true) _ _ ⟨rfl, (h56.facts (.atm (.s (.s (.s .z))) (.atm (.s .z) .nil))).picks (.cons (.s (.s .z)) (.cons (.s (.s .z)) (.cons (.s (.s .z)) (.cons (.s (.s .z)) (.cons .z .nil)))))⟩ hF
      ·
       refine op (OpS.mv rfl rfl rfl ?_)
       refine op (OpS.bin rfl rfl rfl rfl rfl ?_)
       refine op (OpS.pick rfl rfl rfl rfl ?_)
       refine RunL.nil ?_
       refine Run.slim [(73, .bool (y9.2.2 != 0)), (13, u10), (12, u11), (10, u7), (3, u1), (4, u3), (6, u4), (7, u5), (8, .int .i64 s1.1)] ⟨rfl, rfl, rfl, rfl, rfl, rfl, rfl, rfl, rfl, trivial⟩ ?_
       refine Run.slim [(3, u1), (4, u3), (6, u4), (7, u5), (8, .int .i64 s1.1), (10, u7), (12, u11), (13, u10), (73, .bool (y9.2.2 != 0))] ⟨rfl, rfl, rfl, rfl, rfl, rfl, rfl, rfl, rfl, trivial⟩ ?_
       exact hj1 (y9.2.2 != 0) _ _ ⟨rfl, (h56.facts (.atm (.s (.s (.s .z))) (.atm (.s .z) .nil))).picks (.cons (.s (.s .z)) (.cons (.s (.s .z)) (.cons (.s (.s .z)) (.cons (.s (.s .z)) (.cons .z .nil)))))⟩ hF
   ·
    refine Run.exit rfl ?_
    refine Run.seq ?_
    refine Run.reg ?_
    refine op (OpS.as rfl rfl rfl ?_)
    refine RunL.nil ?_
    refine Run.slim [(2, .bool true)] ⟨rfl, trivial⟩ ?_
    refine Run.retP rfl (.tmp rfl .nil) ?_
    cases hF
    exact Post.mk' ⟨rfl, rfl, rfl, rfl⟩ (h13.picks .nil) .nil
end Lift
