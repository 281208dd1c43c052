/- Each Go function computes its plain function. Written by lift.py. -/
import Derived.Test.YtkcogjblkenmgaaExchangeOnceWalksA
set_option linter.unusedVariables false
set_option linter.unusedSimpArgs false
namespace Lift
open Go Go.Proofs
open RunL (op)
set_option maxHeartbeats 8000000 in
theorem message_Matches_ok {fuel : Nat} {a0 : Message_} {a1 : Message_} {y : Bool} (hF : message_Matches fuel a0 a1 = some y) {w : World} {v0 v1 : Value} :
  Spec Try.prog 34 [v0, v1].toArray w [(false, .val Message_.rep v0 a0), (false, .val Message_.rep v1 a1)] [] (fun v Γr Ωr Ωo => v = .bool y ∧ Γr = [] ∧ Ωr = [] ∧ Ωo = []) := by
 refine Spec.of (L := [(0, v0), (1, v1)]) Try.func34 rfl ⟨rfl, rfl, trivial⟩ rfl (fun e h => ?_)
 unfold message_Matches at hF
 refine Run.seq ?_
 refine Run.reg ?_
 refine op (OpS.boxF h rfl rfl rfl (V.at .z) (fun u1 w1 h1 => ?_))
 refine op (OpS.boxF h1 rfl rfl rfl (V.at (.s .z)) (fun u2 w2 h2 => ?_))
 refine op (OpS.as rfl rfl rfl ?_)
 refine RunL.nil ?_
 refine Run.slim [(3, u2), (2, u1)] ⟨rfl, rfl, trivial⟩ ?_
 refine Run.seq ?_
 refine Run.reg ?_
 refine op (OpS.loadB h2 (.s .z) PA.z Get.id ty51 rfl rfl rfl (fun u3 h3 => ?_))
 refine op (OpS.fbox (o3 := 7) h3 .z PA.z fa51_7 rfl rfl rfl rfl ?_)
 refine op (OpS.loadBi h3 .z PA.a (Get.fld Message_.f7) ty5 rfl rfl rfl ?_)
 refine op (OpS.fbox (o3 := 8) h3 .z PA.z fa51_8 rfl rfl rfl rfl ?_)
 refine op (OpS.loadB h3 .z PA.a (Get.fld Message_.f8) ty22 rfl rfl rfl (fun u4 h4 => ?_))
 obtain ⟨y1, e1, hF⟩ := bindP_use hF
 refine op (OpS.callP h4 Try.func31 rfl rfl rfl rfl (vs := [u3, .int .u8 a1.Code, u4]) rfl (message_Reply_ok e1) (.cons (f := false) (V.at (.s .z)) (.cons (f := false) (V.at .z) .nil)) ?_)
 rintro _ w3 _ _ _ ⟨u5, rfl, rfl, rfl, rfl⟩ h5
 have h6 := h5 rfl rfl
 simp only [List.cons_append, List.nil_append] at h6
 refine op (OpS.mv rfl rfl rfl ?_)
 refine op (OpS.ext rfl rfl rfl rfl ?_)
 refine op (OpS.ext rfl rfl rfl rfl ?_)
 refine op (OpS.alloc h6 ti51 Message_.zr rfl rfl (fun u6 w4 h7 => ?_))
 refine op (OpS.storeB (f' := true) h7 .z PA.z Put.id ty51 rfl rfl rfl (V.at .z) (.inl rfl) (fun w5 h8 => ?_))
 refine op (OpS.as rfl rfl rfl ?_)
 refine RunL.nil ?_
 refine Run.slim [(6, .int .i64 y1.2), (5, u6), (3, u2)] ⟨rfl, rfl, rfl, trivial⟩ ?_
 refine Run.seq ?_
 refine Run.seq ?_
 refine Run.reg ?_
 refine op (OpS.mv rfl rfl rfl ?_)
 refine op (OpS.bin rfl rfl rfl rfl rfl ?_)
 refine op (OpS.mv rfl rfl rfl ?_)
 refine RunL.join (σ := Bool) (fun s_ L_ w_ => L_ = [(3, u2), (5, u6), (23, .bool s_)] ∧ St e w_ [] [(false, .box 51 Message_.rep u2 a1), (true, .box 51 Message_.rep u6 y1.1)]) hF (fun s1 _ w6 hI hF => ?_) (fun j1 hj1 hF => ?_)
 ·
  obtain ⟨rfl, h9⟩ := hI
  refine Run.ite rfl hF (fun e2 hF => ?_) (fun e2 hF => ?_)
  ·
   refine Run.seq ?_
   refine Run.reg ?_
   refine op (OpS.as rfl rfl rfl ?_)
   refine RunL.nil ?_
   refine Run.slim [(4, .bool false)] ⟨rfl, trivial⟩ ?_
   refine Run.retP rfl (.tmp rfl .nil) ?_
   cases hF
   exact Post.mk' ⟨rfl, rfl, rfl, rfl⟩ (h9.picks .nil) .nil
  ·
   refine Run.skip ?_
   refine Run.seq ?_
   refine Run.reg ?_
   refine op (OpS.fbox (o3 := 0) h9 (.s .z) PA.z fa51_0 rfl rfl rfl rfl ?_)
   refine op (OpS.loadBi h9 (.s .z) PA.a (Get.fld Message_.f0) ty5 rfl rfl rfl ?_)
   refine op (OpS.fbox (o3 := 0) h9 .z PA.z fa51_0 rfl rfl rfl rfl ?_)
   refine op (OpS.loadBi h9 .z PA.a (Get.fld Message_.f0) ty5 rfl rfl rfl ?_)
   refine op (OpS.bin rfl rfl rfl rfl rfl ?_)
   refine op (OpS.mv rfl rfl rfl ?_)
   refine RunL.join (σ := Bool) (fun s_ L_ w_ => L_ = [(3, u2), (5, u6), (7, .bool s_)] ∧ St e w_ [] [(false, .box 51 Message_.rep u2 a1), (true, .box 51 Message_.rep u6 y1.1)]) hF (fun s2 _ w7 hI hF => ?_) (fun j2 hj2 hF => ?_)
   ·
    obtain ⟨rfl, h10⟩ := hI
    refine Run.seq ?_
    refine Run.reg ?_
    refine op (OpS.mv rfl rfl rfl ?_)
    refine op (OpS.mv rfl rfl rfl ?_)
    refine RunL.caseb hF (fun e3 hF => ?_) (fun e3 hF => ?_)
    ·
     refine op (OpS.fbox (o3 := 4) h10 (.s .z) PA.z fa51_4 rfl rfl rfl rfl ?_)
     refine op (OpS.loadBi h10 (.s .z) PA.a (Get.fld Message_.f4) ty3 rfl rfl rfl ?_)
     refine op (OpS.fbox (o3 := 4) h10 .z PA.z fa51_4 rfl rfl rfl rfl ?_)
     refine op (OpS.loadBi h10 .z PA.a (Get.fld Message_.f4) ty3 rfl rfl rfl ?_)
     refine op (OpS.bin rfl rfl rfl rfl rfl ?_)
     refine op (OpS.pick rfl rfl rfl rfl ?_)
     refine op (OpS.mv rfl rfl rfl ?_)
     refine RunL.caseb hF (fun e4 hF => ?_) (fun e4 hF => ?_)
     ·
      refine op (OpS.fbox (o3 := 5) h10 (.s .z) PA.z fa51_5 rfl rfl rfl rfl ?_)
      refine op (OpS.loadBi h10 (.s .z) PA.a (Get.fld Message_.f5) ty3 rfl rfl rfl ?_)
      refine op (OpS.fbox (o3 := 5) h10 .z PA.z fa51_5 rfl rfl rfl rfl ?_)
      refine op (OpS.loadBi h10 .z PA.a (Get.fld Message_.f5) ty3 rfl rfl rfl ?_)
      refine op (OpS.bin rfl rfl rfl rfl rfl ?_)
      refine op (OpS.pick rfl rfl rfl rfl ?_)
      refine op (OpS.mv rfl rfl rfl ?_)
      refine RunL.caseb hF (fun e5 hF => ?_) (fun e5 hF => ?_)
      ·
       refine op (OpS.fbox (o3 := 6) h10 (.s .z) PA.z fa51_6 rfl rfl rfl rfl ?_)
       refine op (OpS.loadBi h10 (.s .z) PA.a (Get.fld Message_.f6) ty3 rfl rfl rfl ?_)
       refine op (OpS.fbox (o3 := 6) h10 .z PA.z fa51_6 rfl rfl rfl rfl ?_)
       refine op (OpS.loadBi h10 .z PA.a (Get.fld Message_.f6) ty3 rfl rfl rfl ?_)
       refine op (OpS.bin rfl rfl rfl rfl rfl ?_)
       refine op (OpS.pick rfl rfl rfl rfl ?_)
       refine op (OpS.as rfl rfl rfl ?_)
       obtain ⟨x1, e6, hF⟩ := letP_use hF
       refine RunL.nameb e6 ?_
       refine RunL.nil ?_
       refine Run.slim [(4, .bool x1)] ⟨rfl, trivial⟩ ?_
       refine Run.retP rfl (.tmp rfl .nil) ?_
       cases hF
       exact Post.mk' ⟨rfl, rfl, rfl, rfl⟩ (h10.picks .nil) .nil
      ·
       refine op (OpS.pass rfl rfl rfl ?_)
       refine op (OpS.pass rfl rfl rfl ?_)
       refine op (OpS.pass rfl rfl rfl ?_)
       refine op (OpS.pass rfl rfl rfl ?_)
       refine op (OpS.pass rfl rfl rfl ?_)
       refine op (OpS.pick rfl rfl rfl rfl ?_)
       refine op (OpS.as rfl rfl rfl ?_)
       refine RunL.nil ?_
       refine Run.slim [(4, .bool false)] ⟨rfl, trivial⟩ ?_
       refine Run.retP rfl (.tmp rfl .nil) ?_
       cases hF
       exact Post.mk' ⟨rfl, rfl, rfl, rfl⟩ (h10.picks .nil) .nil
     ·
      refine op (OpS.pass rfl rfl rfl ?_)
      refine op (OpS.pass rfl rfl rfl ?_)
      refine op (OpS.pass rfl rfl rfl ?_)
      refine op (OpS.pass rfl rfl rfl ?_)
      refine op (OpS.pass rfl rfl rfl ?_)
      refine op (OpS.pick rfl rfl rfl rfl ?_)
      refine op (OpS.mv rfl rfl rfl ?_)
      refine op (OpS.pass rfl rfl rfl ?_)
      refine op (OpS.pass rfl rfl rfl ?_)
      refine op (OpS.pass rfl rfl rfl ?_)
      refine op (OpS.pass rfl rfl rfl ?_)
      refine op (OpS.pass rfl rfl rfl ?_)
      refine op (OpS.pick rfl rfl rfl rfl ?_)
      refine op (OpS.as rfl rfl rfl ?_)
      refine RunL.nil ?_
      refine Run.slim [(4, .bool false)] ⟨rfl, trivial⟩ ?_
      refine Run.retP rfl (.tmp rfl .nil) ?_
      cases hF
      exact Post.mk' ⟨rfl, rfl, rfl, rfl⟩ (h10.picks .nil) .nil
    ·
     refine op (OpS.pass rfl rfl rfl ?_)
     refine op (OpS.pass rfl rfl rfl ?_)
     refine op (OpS.pass rfl rfl rfl ?_)
     refine op (OpS.pass rfl rfl rfl ?_)
     refine op (OpS.pass rfl rfl rfl ?_)
     refine op (OpS.pick rfl rfl rfl rfl ?_)
     refine op (OpS.mv rfl rfl rfl ?_)
     refine op (OpS.pass rfl rfl rfl ?_)
     refine op (OpS.pass rfl rfl rfl ?_)
     refine op (OpS.pass rfl rfl rfl ?_)
     refine op (OpS.pass rfl rfl rfl ?_)
     refine op (OpS.pass rfl rfl rfl ?_)
     refine op (OpS.pick rfl rfl rfl rfl ?_)
     refine op (OpS.mv rfl rfl rfl ?_)
     refine op (OpS.pass rfl rfl rfl ?_)
     refine op (OpS.pass rfl rfl rfl ?_)
     refine op (OpS.pass rfl rfl rfl ?_)
     refine op (OpS.pass rfl rfl rfl ?_)
     refine op (OpS.pass rfl rfl rfl ?_)
     refine op (OpS.pick rfl rfl rfl rfl ?_)
     refine op (OpS.as rfl rfl rfl ?_)
     refine RunL.nil ?_
     refine Run.slim [(4, .bool false)] ⟨rfl, trivial⟩ ?_
     refine Run.retP rfl (.tmp rfl .nil) ?_
     cases hF
     exact Post.mk' ⟨rfl, rfl, rfl, rfl⟩ (h10.picks .nil) .nil
   ·
    refine RunL.caseb hF (fun e7 hF => ?_) (fun e7 hF => ?_)
    ·
     refine op (OpS.fbox (o3 := 1) h9 (.s .z) PA.z fa51_1 rfl rfl rfl rfl ?_)
     refine op (OpS.loadBi h9 (.s .z) PA.a (Get.fld Message_.f1) ty5 rfl rfl rfl ?_)
     refine op (OpS.fbox (o3 := 1) h9 .z PA.z fa51_1 rfl rfl rfl rfl ?_)
     refine op (OpS.loadBi h9 .z PA.a (Get.fld Message_.f1) ty5 rfl rfl rfl ?_)
     refine op (OpS.bin rfl rfl rfl rfl rfl ?_)
     refine op (OpS.pick rfl rfl rfl rfl ?_)
     refine op (OpS.mv rfl rfl rfl ?_)
     refine RunL.caseb hF (fun e8 hF => ?_) (fun e8 hF => ?_)
     ·
      refine op (OpS.fbox (o3 := 2) h9 (.s .z) PA.z fa51_2 rfl rfl rfl rfl ?_)
      refine op (OpS.loadBi h9 (.s .z) PA.a (Get.fld Message_.f2) ty5 rfl rfl rfl ?_)
      refine op (OpS.fbox (o3 := 2) h9 .z PA.z fa51_2 rfl rfl rfl rfl ?_)
      refine op (OpS.loadBi h9 .z PA.a (Get.fld Message_.f2) ty5 rfl rfl rfl ?_)
      refine op (OpS.bin rfl rfl rfl rfl rfl ?_)
      refine op (OpS.pick rfl rfl rfl rfl ?_)
      refine op (OpS.mv rfl rfl rfl ?_)
      refine RunL.caseb hF (fun e9 hF => ?_) (fun e9 hF => ?_)
      ·
       refine op (OpS.fbox (o3 := 3) h9 (.s .z) PA.z fa51_3 rfl rfl rfl rfl ?_)
       refine op (OpS.loadBi h9 (.s .z) PA.a (Get.fld Message_.f3) ty5 rfl rfl rfl ?_)
       refine op (OpS.fbox (o3 := 3) h9 .z PA.z fa51_3 rfl rfl rfl rfl ?_)
       refine op (OpS.loadBi h9 .z PA.a (Get.fld Message_.f3) ty5 rfl rfl rfl ?_)
       refine op (OpS.bin rfl rfl rfl rfl rfl ?_)
       refine op (OpS.pick rfl rfl rfl rfl ?_)
       refine op (OpS.as rfl rfl rfl ?_)
       obtain ⟨x2, e10, hF⟩ := letP_use hF
       refine RunL.nameb e10 ?_
       refine RunL.nil ?_
       refine Run.slim [(7, .bool x2), (3, u2), (5, u6)] ⟨rfl, rfl, rfl, trivial⟩ ?_
       refine Run.slim [(3, u2), (5, u6), (7, .bool x2)] ⟨rfl, rfl, rfl, trivial⟩ ?_
       exact hj2 (x2) _ _ ⟨rfl, (h9.facts .nil).picks (.cons .z (.cons .z .nil))⟩ hF
      ·
       refine op (OpS.pass rfl rfl rfl ?_)
       refine op (OpS.pass rfl rfl rfl ?_)
       refine op (OpS.pass rfl rfl rfl ?_)
       refine op (OpS.pass rfl rfl rfl ?_)
       refine op (OpS.pass rfl rfl rfl ?_)
       refine op (OpS.pick rfl rfl rfl rfl ?_)
       refine op (OpS.as rfl rfl rfl ?_)
       refine RunL.nil ?_
       refine Run.slim [(7, .bool false), (3, u2), (5, u6)] ⟨rfl, rfl, rfl, trivial⟩ ?_
       refine Run.slim [(3, u2), (5, u6), (7, .bool false)] ⟨rfl, rfl, rfl, trivial⟩ ?_
       exact hj2 (false) _ _ ⟨rfl, (h9.facts .nil).picks (.cons .z (.cons .z .nil))⟩ hF
     ·
      refine op (OpS.pass rfl rfl rfl ?_)
      refine op (OpS.pass rfl rfl rfl ?_)
      refine op (OpS.pass rfl rfl rfl ?_)
      refine op (OpS.pass rfl rfl rfl ?_)
      refine op (OpS.pass rfl rfl rfl ?_)
      refine op (OpS.pick rfl rfl rfl rfl ?_)
      refine op (OpS.mv rfl rfl rfl ?_)
      refine op (OpS.pass rfl rfl rfl ?_)
      refine op (OpS.pass rfl rfl rfl ?_)
      refine op (OpS.pass rfl rfl rfl ?_)
      refine op (OpS.pass rfl rfl rfl ?_)
      refine op (OpS.pass rfl rfl rfl ?_)
      refine op (OpS.pick rfl rfl rfl rfl ?_)
      refine op (OpS.as rfl rfl rfl ?_)
      refine RunL.nil ?_
      refine Run.slim [(7, .bool false), (3, u2), (5, u6)] ⟨rfl, rfl, rfl, trivial⟩ ?_
      refine Run.slim [(3, u2), (5, u6), (7, .bool false)] ⟨rfl, rfl, rfl, trivial⟩ ?_
      exact hj2 (false) _ _ ⟨rfl, (h9.facts .nil).picks (.cons .z (.cons .z .nil))⟩ hF
    ·
     refine op (OpS.pass rfl rfl rfl ?_)
     refine op (OpS.pass rfl rfl rfl ?_)
     refine op (OpS.pass rfl rfl rfl ?_)
     refine op (OpS.pass rfl rfl rfl ?_)
     refine op (OpS.pass rfl rfl rfl ?_)
     refine op (OpS.pick rfl rfl rfl rfl ?_)
     refine op (OpS.mv rfl rfl rfl ?_)
     refine op (OpS.pass rfl rfl rfl ?_)
     refine op (OpS.pass rfl rfl rfl ?_)
     refine op (OpS.pass rfl rfl rfl ?_)
     refine op (OpS.pass rfl rfl rfl ?_)
     refine op (OpS.pass rfl rfl rfl ?_)
     refine op (OpS.pick rfl rfl rfl rfl ?_)
     refine op (OpS.mv rfl rfl rfl ?_)
     refine op (OpS.pass rfl rfl rfl ?_)
     refine op (OpS.pass rfl rfl rfl ?_)
     refine op (OpS.pass rfl rfl rfl ?_)
     refine op (OpS.pass rfl rfl rfl ?_)
     refine op (OpS.pass rfl rfl rfl ?_)
     refine op (OpS.pick rfl rfl rfl rfl ?_)
     refine op (OpS.as rfl rfl rfl ?_)
     refine RunL.nil ?_
     refine Run.slim [(7, .bool false), (3, u2), (5, u6)] ⟨rfl, rfl, rfl, trivial⟩ ?_
     refine Run.slim [(3, u2), (5, u6), (7, .bool false)] ⟨rfl, rfl, rfl, trivial⟩ ?_
     exact hj2 (false) _ _ ⟨rfl, (h9.facts .nil).picks (.cons .z (.cons .z .nil))⟩ hF
 ·
  refine RunL.caseb hF (fun e11 hF => ?_) (fun e11 hF => ?_)
  ·
   refine op (OpS.pass rfl rfl rfl ?_)
   refine op (OpS.pass rfl rfl rfl ?_)
   refine op (OpS.pass rfl rfl rfl ?_)
   refine op (OpS.pick rfl rfl rfl rfl ?_)
   refine RunL.nil ?_
   refine Run.slim [(23, .bool true), (5, u6), (3, u2)] ⟨rfl, rfl, rfl, trivial⟩ ?_
   refine Run.slim [(3, u2), (5, u6), (23, .bool true)] ⟨rfl, rfl, rfl, trivial⟩ ?_
   exact hj1 (true) _ _ ⟨rfl, (h8.facts .nil).picks (.cons (.s .z) (.cons .z .nil))⟩ hF
  ·
   refine op (OpS.loadB h8 (.s .z) PA.z Get.id ty51 rfl rfl rfl (fun u7 h11 => ?_))
   obtain ⟨y2, e12, hF⟩ := bindP_use hF
   refine op (OpS.callP h11 Try.func49 rfl rfl rfl rfl (vs := [u7]) rfl (message_Valid_ok e12) (.cons (f := false) (V.at .z) .nil) ?_)
   rintro _ w8 _ _ _ ⟨rfl, rfl, rfl, rfl⟩ h12
   have h13 := h12 rfl rfl
   simp only [List.cons_append, List.nil_append] at h13
   refine op (OpS.not rfl rfl rfl ?_)
   refine op (OpS.pick rfl rfl rfl rfl ?_)
   refine RunL.nil ?_
   refine Run.slim [(23, .bool (!y2)), (5, u6), (3, u2)] ⟨rfl, rfl, rfl, trivial⟩ ?_
   refine Run.slim [(3, u2), (5, u6), (23, .bool (!y2))] ⟨rfl, rfl, rfl, trivial⟩ ?_
   exact hj1 (!y2) _ _ ⟨rfl, (h13.facts .nil).picks (.cons (.s .z) (.cons .z .nil))⟩ hF
set_option maxHeartbeats 8000000 in
theorem exchange_Receive_ok {fuel : Nat} {a0 : Requester_} {a1 : List Int} {y : Requester_ × Message_ × Message_ × Bool} (hF : exchange_Receive fuel a0 a1 = some y) {w : World} {v0 v1 : Value} :
  Spec Try.prog 28 [v0, v1].toArray w [(false, .val Requester_.rep v0 a0), (false, .val (Rep.slice (Rep.int .u8)) v1 a1)] [] (fun v Γr Ωr Ωo => ∃ u0 u1 u2 : Value, v = .tuple #[u0, u1, u2, .bool y.2.2.2] ∧ Γr = [(false, .val Requester_.rep u0 y.1), (false, .val Message_.rep u1 y.2.1), (true, .val Message_.rep u2 y.2.2.1)] ∧ Ωr = [] ∧ Ωo = []) := by
 refine Spec.of (L := [(0, v0), (1, v1)]) Try.func28 rfl ⟨rfl, rfl, trivial⟩ rfl (fun e h => ?_)
 unfold exchange_Receive at hF
 refine Run.seq ?_
 refine Run.reg ?_
 refine op (OpS.boxF h rfl rfl rfl (V.at .z) (fun u1 w1 h1 => ?_))
 refine op (OpS.alloc h1 ti26 Requester_.zr rfl rfl (fun u2 w2 h2 => ?_))
 refine op (OpS.alloc h2 ti51 Message_.zr rfl rfl (fun u3 w3 h3 => ?_))
 refine op (OpS.alloc h3 ti51 Message_.zr rfl rfl (fun u4 w4 h4 => ?_))
 refine op (OpS.as rfl rfl rfl ?_)
 refine RunL.nil ?_
 refine Run.slim [(6, u4), (5, u3), (4, u2), (2, u1), (1, v1)] ⟨rfl, rfl, rfl, rfl, rfl, trivial⟩ ?_
 refine Run.seq ?_
 refine Run.reg ?_
 refine op (OpS.loadB h4 (.s (.s (.s .z))) PA.z Get.id ty26 rfl rfl rfl (fun u5 h5 => ?_))
 obtain ⟨y1, e1, hF⟩ := bindP_use hF
 have h6 := h5.front .nil
 refine op (OpS.callO h6 Try.func38 rfl rfl rfl rfl (vs := [u5]) rfl (exchange_clone_ok e1) rfl (.cons (f := false) (V.at .z) .nil) ?_)
 rintro u6 w5 _ _ _ ⟨_, u7, rfl, rfl, rfl, rfl⟩ h7
 have h8 := h7
 simp only [List.cons_append, List.nil_append] at h8
 refine op (OpS.storeC (f' := true) (fr := (Rep.iso (fun s : Requester_ => (s.Own, s.Next, s.Pending, ())) (Rep.prod (Rep.int .u8) (Rep.prod (Rep.int .i64) (Rep.prod (Rep.raw u7) Rep.unit))))) (r' := (Rep.iso (fun s : Requester_ => (s.Own, s.Next, s.Pending, ())) (Rep.prod (Rep.int .u8) (Rep.prod (Rep.int .i64) (Rep.prod (Rep.raw u7) Rep.unit))))) (x' := y1) h8 (.s (.s (.s .z))) PA.z (Chg.id (by rfl)) (Ty.like ty26 (by rfl) (by rfl)) rfl rfl rfl (V.pure (V.at .z) (Pure.iso (Pure.prod Pure.int (Pure.prod Pure.int (Pure.prod Pure.raw Pure.unit))))) (.inl rfl) (fun w6 h9 => ?_))
 refine RunL.nil ?_
 refine Run.slim [(6, u4), (5, u3), (4, u2), (2, u1), (1, v1)] ⟨rfl, rfl, rfl, rfl, rfl, trivial⟩ ?_
 refine Run.seq ?_
 refine Run.seq ?_
 refine Run.reg ?_
 refine op (OpS.loadB h9 (.s (.s (.s (.s .z)))) PA.z Get.id ty26 rfl rfl rfl (fun u8 h10 => ?_))
 obtain ⟨y2, e2, hF⟩ := bindP_use hF
 refine op (OpS.callP h10 Try.func19 rfl rfl rfl rfl (vs := [u8]) rfl (exchange_Valid_ok e2) (.cons (f := false) (V.at .z) .nil) ?_)
 rintro _ w7 _ _ _ ⟨rfl, rfl, rfl, rfl⟩ h11
 have h12 := h11 rfl rfl
 simp only [List.cons_append, List.nil_append] at h12
 refine op (OpS.not rfl rfl rfl ?_)
 refine RunL.nil ?_
 refine Run.slim [(16, .bool (!y2)), (6, u4), (5, u3), (4, u2), (1, v1)] ⟨rfl, rfl, rfl, rfl, rfl, trivial⟩ ?_
 refine Run.ite rfl hF (fun e3 hF => ?_) (fun e3 hF => ?_)
 ·
  refine Run.seq ?_
  refine Run.reg ?_
  refine op (OpS.loadB (fr := (Rep.iso (fun s : Requester_ => (s.Own, s.Next, s.Pending, ())) (Rep.prod (Rep.int .u8) (Rep.prod (Rep.int .i64) (Rep.prod (Rep.raw u7) Rep.unit))))) h12 .z PA.z (GetS.ok GetS.id) (Ty.like ty26 (by rfl) (by rfl)) rfl rfl rfl (fun u9 h13 => ?_))
  refine op (OpS.build (f := true) (x' := Message_.z) h13 pl51 ti51 Message_.zr rfl rfl rfl .nil (fun u10 h14 => ?_))
  refine op (OpS.build (f := true) (x' := Message_.z) h14 pl51 ti51 Message_.zr rfl rfl rfl .nil (fun u11 h15 => ?_))
  refine op (OpS.storeC (f' := true) (fr := (Rep.iso (fun s : Requester_ => (s.Own, s.Next, s.Pending, ())) (Rep.prod (Rep.int .u8) (Rep.prod (Rep.int .i64) (Rep.prod (Rep.raw u7) Rep.unit))))) (r' := (Rep.iso (fun s : Requester_ => (s.Own, s.Next, s.Pending, ())) (Rep.prod (Rep.int .u8) (Rep.prod (Rep.int .i64) (Rep.prod (Rep.raw u7) Rep.unit))))) (x' := y1) h15 .z PA.z (Chg.id (by rfl)) (Ty.like ty26 (by rfl) (by rfl)) rfl rfl rfl (V.at (.s (.s .z))) (.inl rfl) (fun w8 h16 => ?_))
  refine op (OpS.storeB (f' := true) h16 (.s (.s (.s .z))) PA.z Put.id ty51 rfl rfl rfl (V.at (.s .z)) (.inl rfl) (fun w9 h17 => ?_))
  refine op (OpS.storeB (f' := true) h17 (.s (.s (.s .z))) PA.z Put.id ty51 rfl rfl rfl (V.at .z) (.inl rfl) (fun w10 h18 => ?_))
  refine op (OpS.as rfl rfl rfl ?_)
  refine RunL.nil ?_
  refine Run.slim [(7, .bool false), (6, u4), (5, u3), (4, u2)] ⟨rfl, rfl, rfl, rfl, trivial⟩ ?_
  obtain ⟨u12, hu1, h19⟩ := res_box h18 (.s (.s .z)) (Ty.like ty26 (by rfl) (by rfl))
  have h20 := (h19.pick (.s (.s (.s .z)))).freeze
  have h21 := h20.pick (.s (.s .z))
  have h22 := h21.weak
  have h23 := St.boxJ (r' := Requester_.rep) (x' := { y1 with Pending := y1.Pending }) h22 (fun _ _ hs_ => (Jn.iso _ (Jn.prod Jn.refl (Jn.prod Jn.refl (Jn.prod (Jn.raw ((V.at .z) _ _ hs_) rfl) Jn.refl)))))
  have h24 := St.addV (f := false) (r := Requester_.rep) (x := { y1 with Pending := y1.Pending }) h23 (V.jn (r := (Rep.iso (fun s : Requester_ => (s.Own, s.Next, s.Pending, ())) (Rep.prod (Rep.int .u8) (Rep.prod (Rep.int .i64) (Rep.prod (Rep.raw u7) Rep.unit))))) (x := y1) (V.weak (V.at (.s .z))) rfl (fun _ _ hs_ => (Jn.iso _ (Jn.prod Jn.refl (Jn.prod Jn.refl (Jn.prod (Jn.raw ((V.at .z) _ _ hs_) rfl) Jn.refl))))))
  obtain ⟨u13, hu2, h25⟩ := res_box h24 (.s (.s .z)) ty51
  obtain ⟨u14, hu3, h26⟩ := res_box h25 (.s .z) ty51
  refine Run.retP rfl (.cell rfl hu1 (.cell rfl hu2 (.cell rfl hu3 (.tmp rfl .nil)))) ?_
  cases hF
  exact Post.mk' ⟨u12, u13, u14, rfl, rfl, rfl, rfl⟩ (h26.picks .nil) (.val (V.at (.s (.s .z))) (.val (V.weak (V.at (.s .z))) (.val (V.at .z) .nil)))
 ·
  refine Run.skip ?_
  refine Run.seq ?_
  refine Run.reg ?_
  refine op (OpS.mv rfl rfl rfl ?_)
  obtain ⟨y3, e4, hF⟩ := bindP_use hF
  refine op (OpS.callP h12 Try.func33 rfl rfl rfl rfl (vs := [v1]) rfl (message_ParseResponse_ok e4) (.cons (f := false) (V.at (.s (.s (.s (.s .z))))) .nil) ?_)
  rintro _ w11 _ _ _ ⟨u15, rfl, rfl, rfl, rfl⟩ h27
  have h28 := h27 rfl rfl
  simp only [List.cons_append, List.nil_append] at h28
  refine op (OpS.mv rfl rfl rfl ?_)
  refine op (OpS.ext rfl rfl rfl rfl ?_)
  refine op (OpS.ext rfl rfl rfl rfl ?_)
  refine op (OpS.alloc h28 ti51 Message_.zr rfl rfl (fun u16 w12 h29 => ?_))
  refine op (OpS.storeB (f' := true) h29 .z PA.z Put.id ty51 rfl rfl rfl (V.at .z) (.inl rfl) (fun w13 h30 => ?_))
  refine op (OpS.as rfl rfl rfl ?_)
  refine RunL.nil ?_
  refine Run.slim [(9, .int .i64 y3.2), (8, u16), (6, u4), (5, u3), (4, u2)] ⟨rfl, rfl, rfl, rfl, rfl, trivial⟩ ?_
  refine Run.seq ?_
  refine Run.seq ?_
  refine Run.reg ?_
  refine op (OpS.mv rfl rfl rfl ?_)
  refine op (OpS.bin rfl rfl rfl rfl rfl ?_)
  refine RunL.nil ?_
  refine Run.slim [(26, .bool (y3.2 != 0)), (8, u16), (6, u4), (5, u3), (4, u2)] ⟨rfl, rfl, rfl, rfl, rfl, trivial⟩ ?_
  refine Run.ite rfl hF (fun e5 hF => ?_) (fun e5 hF => ?_)
  ·
   refine Run.seq ?_
   refine Run.reg ?_
   refine op (OpS.loadB (fr := (Rep.iso (fun s : Requester_ => (s.Own, s.Next, s.Pending, ())) (Rep.prod (Rep.int .u8) (Rep.prod (Rep.int .i64) (Rep.prod (Rep.raw u7) Rep.unit))))) h30 (.s .z) PA.z (GetS.ok GetS.id) (Ty.like ty26 (by rfl) (by rfl)) rfl rfl rfl (fun u17 h31 => ?_))
   refine op (OpS.build (f := true) (x' := Message_.z) h31 pl51 ti51 Message_.zr rfl rfl rfl .nil (fun u18 h32 => ?_))
   refine op (OpS.build (f := true) (x' := Message_.z) h32 pl51 ti51 Message_.zr rfl rfl rfl .nil (fun u19 h33 => ?_))
   refine op (OpS.storeC (f' := true) (fr := (Rep.iso (fun s : Requester_ => (s.Own, s.Next, s.Pending, ())) (Rep.prod (Rep.int .u8) (Rep.prod (Rep.int .i64) (Rep.prod (Rep.raw u7) Rep.unit))))) (r' := (Rep.iso (fun s : Requester_ => (s.Own, s.Next, s.Pending, ())) (Rep.prod (Rep.int .u8) (Rep.prod (Rep.int .i64) (Rep.prod (Rep.raw u7) Rep.unit))))) (x' := y1) h33 (.s .z) PA.z (Chg.id (by rfl)) (Ty.like ty26 (by rfl) (by rfl)) rfl rfl rfl (V.at (.s (.s .z))) (.inl rfl) (fun w14 h34 => ?_))
   refine op (OpS.storeB (f' := true) h34 (.s (.s (.s (.s .z)))) PA.z Put.id ty51 rfl rfl rfl (V.at (.s .z)) (.inl rfl) (fun w15 h35 => ?_))
   refine op (OpS.storeB (f' := true) h35 (.s (.s (.s (.s .z)))) PA.z Put.id ty51 rfl rfl rfl (V.at .z) (.inl rfl) (fun w16 h36 => ?_))
   refine op (OpS.as rfl rfl rfl ?_)
   refine RunL.nil ?_
   refine Run.slim [(7, .bool false), (6, u4), (5, u3), (4, u2)] ⟨rfl, rfl, rfl, rfl, trivial⟩ ?_
   obtain ⟨u20, hu4, h37⟩ := res_box h36 (.s (.s .z)) (Ty.like ty26 (by rfl) (by rfl))
   have h38 := (h37.pick (.s (.s (.s (.s .z))))).freeze
   have h39 := h38.pick (.s (.s .z))
   have h40 := h39.weak
   have h41 := St.boxJ (r' := Requester_.rep) (x' := { y1 with Pending := y1.Pending }) h40 (fun _ _ hs_ => (Jn.iso _ (Jn.prod Jn.refl (Jn.prod Jn.refl (Jn.prod (Jn.raw ((V.at .z) _ _ hs_) rfl) Jn.refl)))))
   have h42 := St.addV (f := false) (r := Requester_.rep) (x := { y1 with Pending := y1.Pending }) h41 (V.jn (r := (Rep.iso (fun s : Requester_ => (s.Own, s.Next, s.Pending, ())) (Rep.prod (Rep.int .u8) (Rep.prod (Rep.int .i64) (Rep.prod (Rep.raw u7) Rep.unit))))) (x := y1) (V.weak (V.at (.s .z))) rfl (fun _ _ hs_ => (Jn.iso _ (Jn.prod Jn.refl (Jn.prod Jn.refl (Jn.prod (Jn.raw ((V.at .z) _ _ hs_) rfl) Jn.refl))))))
   obtain ⟨u21, hu5, h43⟩ := res_box h42 (.s (.s .z)) ty51
   obtain ⟨u22, hu6, h44⟩ := res_box h43 (.s .z) ty51
   refine Run.retP rfl (.cell rfl hu4 (.cell rfl hu5 (.cell rfl hu6 (.tmp rfl .nil)))) ?_
   cases hF
   exact Post.mk' ⟨u20, u21, u22, rfl, rfl, rfl, rfl⟩ (h44.picks .nil) (.val (V.at (.s (.s .z))) (.val (V.weak (V.at (.s .z))) (.val (V.at .z) .nil)))
  ·
   refine Run.skip ?_
   refine Run.seq ?_
   refine Run.seq ?_
   refine Run.reg ?_
   refine op (OpS.fbox (o3 := 2) h30 (.s .z) PA.z fa26_2 rfl rfl rfl rfl ?_)
   refine op (OpS.loadR h30 (.s .z) PA.a (GetS.ok (GetS.iso _ (GetS.there (GetS.there (GetS.here GetS.id))))) ty24 rfl rfl rfl rfl rfl ?_)
   refine op (OpS.lenO h30 (.s (.s .z)) Try.underlying24 rfl rfl rfl ?_)
   refine op (OpS.mv rfl rfl rfl ?_)
   refine RunL.nil ?_
   refine Run.slim [(33, .int .i64 0), (32, .int .i64 (y1.Pending.length : Int)), (31, u7), (8, u16), (6, u4), (5, u3), (4, u2)] ⟨rfl, rfl, rfl, rfl, rfl, rfl, rfl, trivial⟩ ?_
   refine Run.block ?_
   refine Run.slim [(4, u2), (5, u3), (6, u4), (8, u16), (31, u7), (32, .int .i64 (y1.Pending.length : Int)), (33, .int .i64 0)] ⟨rfl, rfl, rfl, rfl, rfl, rfl, rfl, trivial⟩ ?_
   refine Run.loopP (σ := Int) (fun s_ L_ w_ => L_ = [(4, u2), (5, u3), (6, u4), (8, u16), (31, u7), (32, .int .i64 (y1.Pending.length : Int)), (33, .int .i64 s_)] ∧ St e w_ [] [(true, .box 26 (Rep.iso (fun s : Requester_ => (s.Own, s.Next, s.Pending, ())) (Rep.prod (Rep.int .u8) (Rep.prod (Rep.int .i64) (Rep.prod (Rep.raw u7) Rep.unit)))) u2 y1), (true, .box 51 Message_.rep u3 Message_.z), (true, .box 51 Message_.rep u4 Message_.z), (true, .box 51 Message_.rep u16 y3.1), (false, .slice 55 Pending_.rep u7 y1.Pending)]) hF ⟨rfl, (h30.facts .nil).picks (.cons (.s .z) (.cons (.s (.s (.s .z))) (.cons (.s (.s .z)) (.cons .z (.cons .z .nil)))))⟩ (fun k1 hk1 s1 _ w17 hI hF => ?_)
   obtain ⟨rfl, h45⟩ := hI
   refine Run.seq ?_
   refine Run.reg ?_
   refine op (OpS.bin rfl rfl rfl rfl rfl ?_)
   refine RunL.nil ?_
   refine Run.seq ?_
   refine Run.ite rfl hF (fun e6 hF => ?_) (fun e6 hF => ?_)
   ·
    refine Run.skip ?_
    refine Run.seq ?_
    refine Run.block ?_
    refine Run.seq ?_
    refine Run.reg ?_
    refine op (OpS.mv rfl rfl rfl ?_)
    obtain ⟨x1, e7, hF⟩ := bindP_use hF
    refine op (OpS.iown h45 (.s (.s (.s (.s .z)))) Try.underlying24 ty55 rfl rfl rfl rfl e7 ?_)
    refine op (OpS.loadO h45 (.s (.s (.s (.s .z)))) (idx_ne e7) PA.a (Get.arr e7) ty55 rfl rfl rfl (fun u23 h46 => ?_))
    refine op (OpS.alloc h46 ti55 Pending_.zr rfl rfl (fun u24 w18 h47 => ?_))
    refine op (OpS.as rfl rfl rfl ?_)
    have h48 := (h47.pick .z).weak
    refine op (OpS.storeB (f' := false) h48 .z PA.z Put.id ty55 rfl rfl rfl (V.at .z) (.inr rfl) (fun w19 h49 => ?_))
    refine RunL.nil ?_
    refine Run.slim [(10, .int .i64 s1), (11, u24), (4, u2), (5, u3), (6, u4), (8, u16), (31, u7), (32, .int .i64 (y1.Pending.length : Int)), (33, .int .i64 s1)] ⟨rfl, rfl, rfl, rfl, rfl, rfl, rfl, rfl, rfl, trivial⟩ ?_
    refine Run.seq ?_
    refine Run.reg ?_
    refine op (OpS.fbox (o3 := 0) h49 .z PA.z fa55_0 rfl rfl rfl rfl ?_)
    refine op (OpS.loadB h49 .z PA.a (Get.fld Pending_.f0) ty51 rfl rfl rfl (fun u25 h50 => ?_))
    refine op (OpS.loadB h50 (.s (.s (.s (.s .z)))) PA.z Get.id ty51 rfl rfl rfl (fun u26 h51 => ?_))
    obtain ⟨y4, e8, hF⟩ := bindP_use hF
    refine op (OpS.callP h51 Try.func34 rfl rfl rfl rfl (vs := [u25, u26]) rfl (message_Matches_ok e8) (.cons (f := false) (V.at (.s .z)) (.cons (f := true) (V.at .z) .nil)) ?_)
    rintro _ w20 _ _ _ ⟨rfl, rfl, rfl, rfl⟩ h52
    have h53 := h52 rfl rfl
    simp only [List.cons_append, List.nil_append] at h53
    refine RunL.nil ?_
    refine Run.slim [(41, .bool y4), (10, .int .i64 s1), (11, u24), (4, u2), (5, u3), (6, u4), (8, u16), (31, u7), (32, .int .i64 (y1.Pending.length : Int)), (33, .int .i64 s1)] ⟨rfl, rfl, rfl, rfl, rfl, rfl, rfl, rfl, rfl, rfl, trivial⟩ ?_
    refine Run.ite rfl hF (fun e9 hF => ?_) (fun e9 hF => ?_)
    ·
     refine Run.seq ?_
     have h54 := (h53.pick (.s (.s (.s (.s (.s .z)))))).freeze
     have h55 := h54.pick (.s .z)
     have h56 := h55.weak
     have h57 := St.boxJ (r' := Requester_.rep) (x' := { y1 with Pending := y1.Pending }) h56 (fun _ _ hs_ => (Jn.iso _ (Jn.prod Jn.refl (Jn.prod Jn.refl (Jn.prod (Jn.raw ((V.at .z) _ _ hs_) rfl) Jn.refl)))))
     obtain ⟨x2, e10, hF⟩ := bindP_use hF
     obtain ⟨x3, e11, hF⟩ := bindP_use hF
     obtain ⟨x4, e12, hF⟩ := bindP_use hF
     refine Run.drawV (Ωs := [(false, .box 55 Pending_.rep u24 x1), (true, .box 51 Message_.rep u3 Message_.z), (true, .box 51 Message_.rep u4 Message_.z), (true, .box 51 Message_.rep u16 y3.1)]) [⟨some 42, some ((padd u2 2)), fun _ => [], fun ds_ u_ => [], [], [(0, [])], none⟩, ⟨some 43, none, fun u_ => [(false, .val (Rep.slice Pending_.rep) u_ (({ y1 with Pending := y1.Pending }).Pending))], fun ds_ u_ => [], [], [(0, [])], none⟩, ⟨some 44, some (.int .i64 s1), fun _ => [], fun ds_ u_ => [], [], [], none⟩, ⟨some 45, some (.int .i64 s1), fun _ => [], fun ds_ u_ => [], [], [], none⟩, ⟨some 46, none, fun u_ => [(false, .val (Rep.slice Pending_.rep) u_ x2), (true, .full u_)], fun ds_ u_ => [], [], [], none⟩, ⟨some 47, some ((padd u2 2)), fun _ => [], fun ds_ u_ => [], [], [(0, [])], none⟩, ⟨some 48, none, fun u_ => [(false, .val (Rep.slice Pending_.rep) u_ (({ y1 with Pending := y1.Pending }).Pending))], fun ds_ u_ => [], [], [(0, [])], none⟩, ⟨some 49, some (.int .i64 s1), fun _ => [], fun ds_ u_ => [], [], [], none⟩, ⟨some 50, some (.int .i64 (IntKind.i64.wrap (s1 + 1))), fun _ => [], fun ds_ u_ => [], [], [], none⟩, ⟨some 51, none, fun u_ => [(false, .val (Rep.slice Pending_.rep) u_ x3)], fun ds_ u_ => [], [], [], none⟩, ⟨some 52, none, fun u_ => [(false, .val (Rep.slice Pending_.rep) u_ x4)], fun ds_ u_ => [], [], [], none⟩] [[], [0], [], [], [1, 2, 3], [], [5], [], [7], [6, 8], [4, 9]] [[(false, .box 26 Requester_.rep u2 ({ y1 with Pending := y1.Pending }))]] [0, 1, 2, 3, 4, 5, 6, 7, 8, 9, 10, 11] Try_mixed rfl rfl rfl h57 (.cons ?_ (.cons ?_ (.cons ?_ (.cons ?_ (.cons ?_ (.cons ?_ (.cons ?_ (.cons ?_ (.cons ?_ (.cons ?_ (.cons ?_ .nil))))))))))) (fun q1 w hq1 h => ?_)
     ·intro q1 w Γx Ωx h
      have h : St e w ([(false, .val (Rep.slice Pending_.rep) u7 y1.Pending), (true, .val Message_.rep u26 y3.1), (false, .val Message_.rep u25 x1.Request), (false, .val Pending_.rep u23 x1)] ++ Γx) ([(false, .box 26 Requester_.rep u2 ({ y1 with Pending := y1.Pending })), (false, .box 55 Pending_.rep u24 x1), (true, .box 51 Message_.rep u3 Message_.z), (true, .box 51 Message_.rep u4 Message_.z), (true, .box 51 Message_.rep u16 y3.1)] ++ Ωx) := h
      refine OpS.fbox (o3 := 2) h .z PA.z fa26_2 rfl rfl rfl rfl ?_
      exact ⟨undef, rfl, trivial, h⟩
     ·intro q1 w Γx Ωx h
      have h : St e w ([(false, .val (Rep.slice Pending_.rep) u7 y1.Pending), (true, .val Message_.rep u26 y3.1), (false, .val Message_.rep u25 x1.Request), (false, .val Pending_.rep u23 x1)] ++ Γx) ([(false, .box 26 Requester_.rep u2 ({ y1 with Pending := y1.Pending })), (false, .box 55 Pending_.rep u24 x1), (true, .box 51 Message_.rep u3 Message_.z), (true, .box 51 Message_.rep u4 Message_.z), (true, .box 51 Message_.rep u16 y3.1)] ++ Ωx) := h
      refine OpS.loadB h .z PA.a (Get.fld Requester_.f2) ty24 rfl rfl rfl (fun u h63 => ?_)
      exact ⟨u, rfl, trivial, h63⟩
     ·intro q1 w Γx Ωx h
      refine OpS.mv rfl rfl rfl ?_
      exact ⟨undef, rfl, trivial, h⟩
     ·intro q1 w Γx Ωx h
      refine OpS.mv rfl rfl rfl ?_
      exact ⟨undef, rfl, trivial, h⟩
     ·intro q1 w Γx Ωx h
      refine OpS.sub3F h Try.underlying24 ty55 rfl rfl rfl rfl rfl rfl (V.at .z) e10 (fun u h64 => ?_)
      exact ⟨u, rfl, trivial, h64⟩
     ·intro q1 w Γx Ωx h
      have h : St e w ([(false, .val (Rep.slice Pending_.rep) u7 y1.Pending), (true, .val Message_.rep u26 y3.1), (false, .val Message_.rep u25 x1.Request), (false, .val Pending_.rep u23 x1)] ++ Γx) ([(false, .box 26 Requester_.rep u2 ({ y1 with Pending := y1.Pending })), (false, .box 55 Pending_.rep u24 x1), (true, .box 51 Message_.rep u3 Message_.z), (true, .box 51 Message_.rep u4 Message_.z), (true, .box 51 Message_.rep u16 y3.1)] ++ Ωx) := h
      refine OpS.fbox (o3 := 2) h .z PA.z fa26_2 rfl rfl rfl rfl ?_
      exact ⟨undef, rfl, trivial, h⟩
     ·intro q1 w Γx Ωx h
      have h : St e w ([(false, .val (Rep.slice Pending_.rep) u7 y1.Pending), (true, .val Message_.rep u26 y3.1), (false, .val Message_.rep u25 x1.Request), (false, .val Pending_.rep u23 x1)] ++ Γx) ([(false, .box 26 Requester_.rep u2 ({ y1 with Pending := y1.Pending })), (false, .box 55 Pending_.rep u24 x1), (true, .box 51 Message_.rep u3 Message_.z), (true, .box 51 Message_.rep u4 Message_.z), (true, .box 51 Message_.rep u16 y3.1)] ++ Ωx) := h
      refine OpS.loadB h .z PA.a (Get.fld Requester_.f2) ty24 rfl rfl rfl (fun u h65 => ?_)
      exact ⟨u, rfl, trivial, h65⟩
     ·intro q1 w Γx Ωx h
      refine OpS.mv rfl rfl rfl ?_
      exact ⟨undef, rfl, trivial, h⟩
     ·intro q1 w Γx Ωx h
      refine OpS.bin rfl rfl rfl rfl rfl ?_
      exact ⟨undef, rfl, trivial, h⟩
     ·intro q1 w Γx Ωx h
      refine OpS.sub h Try.underlying24 ty55 rfl rfl rfl rfl rfl (V.at .z) e11 (fun u h66 => ?_)
      exact ⟨u, rfl, trivial, h66⟩
     ·intro q1 w Γx Ωx h
      refine OpS.appF (f := false) (f' := false) (f3 := false) h (V.at .z) (.s .z) rfl Try.underlying24 ti55 rfl rfl rfl rfl rfl rfl rfl (V.at (.s (.s .z))) e12 (fun u w22 h67 => ?_)
      exact ⟨u, rfl, trivial, h67⟩
     have h68 : St e w [(false, .val (Rep.slice Pending_.rep) (q1 1) (({ y1 with Pending := y1.Pending }).Pending)), (false, .val (Rep.slice Pending_.rep) (q1 4) x2), (true, .full (q1 4)), (false, .val (Rep.slice Pending_.rep) (q1 6) (({ y1 with Pending := y1.Pending }).Pending)), (false, .val (Rep.slice Pending_.rep) (q1 9) x3), (false, .val (Rep.slice Pending_.rep) (q1 10) x4), (false, .val (Rep.slice Pending_.rep) u7 y1.Pending), (true, .val Message_.rep u26 y3.1), (false, .val Message_.rep u25 x1.Request), (false, .val Pending_.rep u23 x1)] [(false, .box 26 Requester_.rep u2 ({ y1 with Pending := y1.Pending })), (false, .box 55 Pending_.rep u24 x1), (true, .box 51 Message_.rep u3 Message_.z), (true, .box 51 Message_.rep u4 Message_.z), (true, .box 51 Message_.rep u16 y3.1)] := h
     refine op (OpS.fbox (o3 := 2) h68 .z PA.z fa26_2 rfl rfl rfl rfl ?_)
     obtain ⟨d1, e13, hF⟩ := letP_use hF
     refine op (OpS.storeB (f' := false) h68 .z PA.a (Put.of (Put.fld Requester_.f2) e13) ty24 rfl rfl rfl (V.at (.s (.s (.s (.s (.s .z)))))) (.inr rfl) (fun w23 h69 => ?_))
     refine RunL.nil ?_
     refine Run.slim [(11, u24), (4, u2), (5, u3), (6, u4), (8, u16)] ⟨rfl, rfl, rfl, rfl, rfl, trivial⟩ ?_
     refine Run.seq ?_
     have h70 := h69.picks (.cons .z (.cons .z (.cons .z (.cons (.s .z) (.cons .z .nil)))))
     refine Run.drawV (Ωs := [(true, .box 51 Message_.rep u4 Message_.z)]) [⟨some 54, none, fun u_ => [(false, .val Requester_.rep u_ d1)], fun ds_ u_ => [], [], [(0, [])], none⟩, ⟨some 55, some ((padd u24 0)), fun _ => [], fun ds_ u_ => [], [], [(1, [])], none⟩, ⟨some 56, none, fun u_ => [(false, .val Message_.rep u_ x1.Request)], fun ds_ u_ => [], [], [(1, [])], none⟩, ⟨some 57, none, fun u_ => [(true, .val Message_.rep u_ y3.1)], fun ds_ u_ => [], [], [(3, [])], none⟩, ⟨none, some undef, fun _ => [], fun ds_ u_ => [], [], [(0, [])], none⟩, ⟨none, some undef, fun _ => [], fun ds_ u_ => [(false, .box 51 Message_.rep u3 x1.Request)], [2], [], none⟩] [[], [], [1], [], [0], [2]] [[(false, .box 26 Requester_.rep u2 d1)], [(false, .box 55 Pending_.rep u24 x1)], [(true, .box 51 Message_.rep u3 Message_.z)], [(true, .box 51 Message_.rep u16 y3.1)]] [0, 1, 3, 4, 5, 6, 7, 8, 9] Try_mixed rfl rfl rfl h70 (.cons ?_ (.cons ?_ (.cons ?_ (.cons ?_ (.cons ?_ (.cons ?_ .nil)))))) (fun q2 w hq2 h => ?_)
     ·intro q2 w Γx Ωx h
      have h : St e w ([(false, .val (Rep.slice Pending_.rep) (q1 1) (({ y1 with Pending := y1.Pending }).Pending)), (false, .val (Rep.slice Pending_.rep) (q1 4) x2), (true, .full (q1 4)), (false, .val (Rep.slice Pending_.rep) (q1 6) (({ y1 with Pending := y1.Pending }).Pending)), (false, .val (Rep.slice Pending_.rep) (q1 9) x3), (false, .val (Rep.slice Pending_.rep) (q1 10) x4), (false, .val (Rep.slice Pending_.rep) u7 y1.Pending), (true, .val Message_.rep u26 y3.1), (false, .val Message_.rep u25 x1.Request), (false, .val Pending_.rep u23 x1)] ++ Γx) ([(false, .box 26 Requester_.rep u2 d1), (true, .box 51 Message_.rep u4 Message_.z)] ++ Ωx) := h
      refine OpS.loadB h .z PA.z Get.id ty26 rfl rfl rfl (fun u h77 => ?_)
      exact ⟨u, rfl, trivial, h77⟩
     ·intro q2 w Γx Ωx h
      have h : St e w ([(false, .val (Rep.slice Pending_.rep) (q1 1) (({ y1 with Pending := y1.Pending }).Pending)), (false, .val (Rep.slice Pending_.rep) (q1 4) x2), (true, .full (q1 4)), (false, .val (Rep.slice Pending_.rep) (q1 6) (({ y1 with Pending := y1.Pending }).Pending)), (false, .val (Rep.slice Pending_.rep) (q1 9) x3), (false, .val (Rep.slice Pending_.rep) (q1 10) x4), (false, .val (Rep.slice Pending_.rep) u7 y1.Pending), (true, .val Message_.rep u26 y3.1), (false, .val Message_.rep u25 x1.Request), (false, .val Pending_.rep u23 x1)] ++ Γx) ([(false, .box 55 Pending_.rep u24 x1), (true, .box 51 Message_.rep u4 Message_.z)] ++ Ωx) := h
      refine OpS.fbox (o3 := 0) h .z PA.z fa55_0 rfl rfl rfl rfl ?_
      exact ⟨undef, rfl, trivial, h⟩
     ·intro q2 w Γx Ωx h
      have h : St e w ([(false, .val (Rep.slice Pending_.rep) (q1 1) (({ y1 with Pending := y1.Pending }).Pending)), (false, .val (Rep.slice Pending_.rep) (q1 4) x2), (true, .full (q1 4)), (false, .val (Rep.slice Pending_.rep) (q1 6) (({ y1 with Pending := y1.Pending }).Pending)), (false, .val (Rep.slice Pending_.rep) (q1 9) x3), (false, .val (Rep.slice Pending_.rep) (q1 10) x4), (false, .val (Rep.slice Pending_.rep) u7 y1.Pending), (true, .val Message_.rep u26 y3.1), (false, .val Message_.rep u25 x1.Request), (false, .val Pending_.rep u23 x1)] ++ Γx) ([(false, .box 55 Pending_.rep u24 x1), (true, .box 51 Message_.rep u4 Message_.z)] ++ Ωx) := h
      refine OpS.loadB h .z PA.a (Get.fld Pending_.f0) ty51 rfl rfl rfl (fun u h78 => ?_)
      exact ⟨u, rfl, trivial, h78⟩
     ·intro q2 w Γx Ωx h
      have h : St e w ([(false, .val (Rep.slice Pending_.rep) (q1 1) (({ y1 with Pending := y1.Pending }).Pending)), (false, .val (Rep.slice Pending_.rep) (q1 4) x2), (true, .full (q1 4)), (false, .val (Rep.slice Pending_.rep) (q1 6) (({ y1 with Pending := y1.Pending }).Pending)), (false, .val (Rep.slice Pending_.rep) (q1 9) x3), (false, .val (Rep.slice Pending_.rep) (q1 10) x4), (false, .val (Rep.slice Pending_.rep) u7 y1.Pending), (true, .val Message_.rep u26 y3.1), (false, .val Message_.rep u25 x1.Request), (false, .val Pending_.rep u23 x1)] ++ Γx) ([(true, .box 51 Message_.rep u16 y3.1), (true, .box 51 Message_.rep u4 Message_.z)] ++ Ωx) := h
      refine OpS.loadB h .z PA.z Get.id ty51 rfl rfl rfl (fun u h79 => ?_)
      exact ⟨u, rfl, trivial, h79⟩
     ·intro q2 w Γx Ωx h
      have h : St e w ([(false, .val Requester_.rep (q2 0) d1), (false, .val (Rep.slice Pending_.rep) (q1 1) (({ y1 with Pending := y1.Pending }).Pending)), (false, .val (Rep.slice Pending_.rep) (q1 4) x2), (true, .full (q1 4)), (false, .val (Rep.slice Pending_.rep) (q1 6) (({ y1 with Pending := y1.Pending }).Pending)), (false, .val (Rep.slice Pending_.rep) (q1 9) x3), (false, .val (Rep.slice Pending_.rep) (q1 10) x4), (false, .val (Rep.slice Pending_.rep) u7 y1.Pending), (true, .val Message_.rep u26 y3.1), (false, .val Message_.rep u25 x1.Request), (false, .val Pending_.rep u23 x1)] ++ Γx) ([(false, .box 26 Requester_.rep u2 d1), (true, .box 51 Message_.rep u4 Message_.z)] ++ Ωx) := h
      refine OpS.storeB (f' := false) h .z PA.z Put.id ty26 rfl rfl rfl (V.at .z) (.inr rfl) (fun w26 h80 => ?_)
      exact ⟨undef, trivial, trivial, h80⟩
     ·intro q2 w Γx Ωx h
      have h : St e w ([(false, .val Message_.rep (q2 2) x1.Request), (false, .val (Rep.slice Pending_.rep) (q1 1) (({ y1 with Pending := y1.Pending }).Pending)), (false, .val (Rep.slice Pending_.rep) (q1 4) x2), (true, .full (q1 4)), (false, .val (Rep.slice Pending_.rep) (q1 6) (({ y1 with Pending := y1.Pending }).Pending)), (false, .val (Rep.slice Pending_.rep) (q1 9) x3), (false, .val (Rep.slice Pending_.rep) (q1 10) x4), (false, .val (Rep.slice Pending_.rep) u7 y1.Pending), (true, .val Message_.rep u26 y3.1), (false, .val Message_.rep u25 x1.Request), (false, .val Pending_.rep u23 x1)] ++ Γx) ([(true, .box 51 Message_.rep u3 Message_.z), (true, .box 51 Message_.rep u4 Message_.z)] ++ Ωx) := h
      have h81 := (h.pick .z).weak
      refine OpS.storeB (f' := false) h81 .z PA.z Put.id ty51 rfl rfl rfl (V.at .z) (.inr rfl) (fun w27 h82 => ?_)
      exact ⟨undef, trivial, trivial, h82⟩
     have h83 : St e w [(false, .val Requester_.rep (q2 0) d1), (false, .val Message_.rep (q2 2) x1.Request), (true, .val Message_.rep (q2 3) y3.1), (false, .val (Rep.slice Pending_.rep) (q1 1) (({ y1 with Pending := y1.Pending }).Pending)), (false, .val (Rep.slice Pending_.rep) (q1 4) x2), (true, .full (q1 4)), (false, .val (Rep.slice Pending_.rep) (q1 6) (({ y1 with Pending := y1.Pending }).Pending)), (false, .val (Rep.slice Pending_.rep) (q1 9) x3), (false, .val (Rep.slice Pending_.rep) (q1 10) x4), (false, .val (Rep.slice Pending_.rep) u7 y1.Pending), (true, .val Message_.rep u26 y3.1), (false, .val Message_.rep u25 x1.Request), (false, .val Pending_.rep u23 x1)] [(false, .box 26 Requester_.rep u2 d1), (false, .box 55 Pending_.rep u24 x1), (true, .box 51 Message_.rep u16 y3.1), (false, .box 51 Message_.rep u3 x1.Request), (true, .box 51 Message_.rep u4 Message_.z)] := h
     refine op (OpS.storeB (f' := true) h83 (.s (.s (.s (.s .z)))) PA.z Put.id ty51 rfl rfl rfl (V.at (.s (.s .z))) (.inl rfl) (fun w28 h84 => ?_))
     refine op (OpS.as rfl rfl rfl ?_)
     refine RunL.nil ?_
     refine Run.slim [(7, .bool true), (4, u2), (5, u3), (6, u4)] ⟨rfl, rfl, rfl, rfl, trivial⟩ ?_
     obtain ⟨u27, hu7, h85⟩ := res_box h84 (.s .z) ty26
     obtain ⟨u28, hu8, h86⟩ := res_box h85 (.s (.s (.s (.s .z)))) ty51
     obtain ⟨u29, hu9, h87⟩ := res_box h86 .z ty51
     refine Run.retP rfl (.cell rfl hu7 (.cell rfl hu8 (.cell rfl hu9 (.tmp rfl .nil)))) ?_
     cases hF
     exact Post.mk' ⟨u27, u28, u29, rfl, rfl, rfl, rfl⟩ (h87.picks .nil) (.val (V.at (.s (.s .z))) (.val (V.at (.s .z)) (.val (V.at .z) .nil)))
    ·
     refine Run.skip ?_
     refine Run.endBlock ?_
     refine Run.reg ?_
     refine op (OpS.bin rfl rfl rfl rfl rfl ?_)
     refine op (OpS.mv rfl rfl rfl ?_)
     refine RunL.nil ?_
     refine Run.slim [(33, .int .i64 (IntKind.i64.wrap (s1 + 1))), (4, u2), (5, u3), (6, u4), (8, u16), (31, u7), (32, .int .i64 (y1.Pending.length : Int))] ⟨rfl, rfl, rfl, rfl, rfl, rfl, rfl, trivial⟩ ?_
     refine Run.slim [(4, u2), (5, u3), (6, u4), (8, u16), (31, u7), (32, .int .i64 (y1.Pending.length : Int)), (33, .int .i64 (IntKind.i64.wrap (s1 + 1)))] ⟨rfl, rfl, rfl, rfl, rfl, rfl, rfl, trivial⟩ ?_
     exact hk1 ((IntKind.i64.wrap (s1 + 1))) _ _ ⟨rfl, (h53.facts .nil).picks (.cons (.s .z) (.cons (.s .z) (.cons (.s .z) (.cons (.s .z) (.cons (.s .z) .nil)))))⟩ hF
   ·
    refine Run.exit rfl ?_
    refine Run.seq ?_
    refine Run.reg ?_
    refine op (OpS.loadB (fr := (Rep.iso (fun s : Requester_ => (s.Own, s.Next, s.Pending, ())) (Rep.prod (Rep.int .u8) (Rep.prod (Rep.int .i64) (Rep.prod (Rep.raw u7) Rep.unit))))) h45 .z PA.z (GetS.ok GetS.id) (Ty.like ty26 (by rfl) (by rfl)) rfl rfl rfl (fun u30 h88 => ?_))
    refine op (OpS.build (f := true) (x' := Message_.z) h88 pl51 ti51 Message_.zr rfl rfl rfl .nil (fun u31 h89 => ?_))
    refine op (OpS.build (f := true) (x' := Message_.z) h89 pl51 ti51 Message_.zr rfl rfl rfl .nil (fun u32 h90 => ?_))
    refine op (OpS.storeC (f' := true) (fr := (Rep.iso (fun s : Requester_ => (s.Own, s.Next, s.Pending, ())) (Rep.prod (Rep.int .u8) (Rep.prod (Rep.int .i64) (Rep.prod (Rep.raw u7) Rep.unit))))) (r' := (Rep.iso (fun s : Requester_ => (s.Own, s.Next, s.Pending, ())) (Rep.prod (Rep.int .u8) (Rep.prod (Rep.int .i64) (Rep.prod (Rep.raw u7) Rep.unit))))) (x' := y1) h90 .z PA.z (Chg.id (by rfl)) (Ty.like ty26 (by rfl) (by rfl)) rfl rfl rfl (V.at (.s (.s .z))) (.inl rfl) (fun w29 h91 => ?_))
    refine op (OpS.storeB (f' := true) h91 (.s .z) PA.z Put.id ty51 rfl rfl rfl (V.at (.s .z)) (.inl rfl) (fun w30 h92 => ?_))
    refine op (OpS.storeB (f' := true) h92 (.s (.s .z)) PA.z Put.id ty51 rfl rfl rfl (V.at .z) (.inl rfl) (fun w31 h93 => ?_))
    refine op (OpS.as rfl rfl rfl ?_)
    refine RunL.nil ?_
    refine Run.slim [(7, .bool false), (4, u2), (5, u3), (6, u4)] ⟨rfl, rfl, rfl, rfl, trivial⟩ ?_
    obtain ⟨u33, hu10, h94⟩ := res_box h93 (.s (.s .z)) (Ty.like ty26 (by rfl) (by rfl))
    have h95 := (h94.pick (.s (.s (.s (.s .z))))).freeze
    have h96 := h95.pick (.s (.s .z))
    have h97 := h96.weak
    have h98 := St.boxJ (r' := Requester_.rep) (x' := { y1 with Pending := y1.Pending }) h97 (fun _ _ hs_ => (Jn.iso _ (Jn.prod Jn.refl (Jn.prod Jn.refl (Jn.prod (Jn.raw ((V.at .z) _ _ hs_) rfl) Jn.refl)))))
    have h99 := St.addV (f := false) (r := Requester_.rep) (x := { y1 with Pending := y1.Pending }) h98 (V.jn (r := (Rep.iso (fun s : Requester_ => (s.Own, s.Next, s.Pending, ())) (Rep.prod (Rep.int .u8) (Rep.prod (Rep.int .i64) (Rep.prod (Rep.raw u7) Rep.unit))))) (x := y1) (V.weak (V.at (.s .z))) rfl (fun _ _ hs_ => (Jn.iso _ (Jn.prod Jn.refl (Jn.prod Jn.refl (Jn.prod (Jn.raw ((V.at .z) _ _ hs_) rfl) Jn.refl))))))
    obtain ⟨u34, hu11, h100⟩ := res_box h99 (.s (.s .z)) ty51
    obtain ⟨u35, hu12, h101⟩ := res_box h100 (.s .z) ty51
    refine Run.retP rfl (.cell rfl hu10 (.cell rfl hu11 (.cell rfl hu12 (.tmp rfl .nil)))) ?_
    cases hF
    exact Post.mk' ⟨u33, u34, u35, rfl, rfl, rfl, rfl⟩ (h101.picks .nil) (.val (V.at (.s (.s .z))) (.val (V.weak (V.at (.s .z))) (.val (V.at .z) .nil)))
theorem message_Response_ok {fuel : Nat} {a0 : Message_} {y : (List Int) × Int} (hF : message_Response fuel a0 = some y) {w : World} {v0 : Value} :
  Spec Try.prog 32 [v0].toArray w [(false, .val Message_.rep v0 a0)] [] (fun v Γr Ωr Ωo => ∃ u0 : Value, v = .tuple #[u0, .int .i64 y.2] ∧ Γr = [] ∧ Ωr = [(true, .slice 5 (Rep.int .u8) u0 y.1)] ∧ Ωo = []) := by
 refine Spec.of (L := [(0, v0)]) Try.func32 rfl ⟨rfl, trivial⟩ rfl (fun e h => ?_)
 unfold message_Response at hF
 refine Run.seq ?_
 refine Run.reg ?_
 refine op (OpS.boxF h rfl rfl rfl (V.at .z) (fun u1 w1 h1 => ?_))
 refine op (OpS.as rfl rfl rfl ?_)
 refine op (OpS.as rfl rfl rfl ?_)
 refine RunL.nil ?_
 refine Run.slim [(1, u1)] ⟨rfl, trivial⟩ ?_
 refine Run.seq ?_
 refine Run.seq ?_
 refine Run.reg ?_
 refine op (OpS.loadB h1 .z PA.z Get.id ty51 rfl rfl rfl (fun u2 h2 => ?_))
 obtain ⟨y1, e1, hF⟩ := bindP_use hF
 refine op (OpS.callP h2 Try.func49 rfl rfl rfl rfl (vs := [u2]) rfl (message_Valid_ok e1) (.cons (f := false) (V.at .z) .nil) ?_)
 rintro _ w2 _ _ _ ⟨rfl, rfl, rfl, rfl⟩ h3
 have h4 := h3 rfl rfl
 simp only [List.cons_append, List.nil_append] at h4
 refine op (OpS.not rfl rfl rfl ?_)
 refine op (OpS.mv rfl rfl rfl ?_)
 refine RunL.join (σ := Bool) (fun s_ L_ w_ => L_ = [(1, u1), (10, .bool s_)] ∧ St e w_ [] [(false, .box 51 Message_.rep u1 a0)]) hF (fun s1 _ w3 hI hF => ?_) (fun j1 hj1 hF => ?_)
 ·
  obtain ⟨rfl, h5⟩ := hI
  refine Run.ite rfl hF (fun e2 hF => ?_) (fun e2 hF => ?_)
  ·
   refine Run.seq ?_
   refine Run.reg ?_
   refine op (OpS.as rfl rfl rfl ?_)
   refine op (OpS.as rfl rfl rfl ?_)
   refine RunL.nil ?_
   refine Run.slim [(3, .int .i64 1), (2, .slice none 0 0)] ⟨rfl, rfl, trivial⟩ ?_
   have h6 := St.nil 5 (Rep.int .u8) h5
   refine Run.retP rfl (.tmp rfl (.tmp rfl .nil)) ?_
   cases hF
   exact Post.mk' ⟨(.slice none 0 0), rfl, rfl, rfl, rfl⟩ (h6.picks (.cons .z .nil)) .nil
  ·
   refine Run.skip ?_
   refine Run.seq ?_
   refine Run.reg ?_
   refine op (OpS.loadB h5 .z PA.z Get.id ty51 rfl rfl rfl (fun u3 h7 => ?_))
   obtain ⟨y2, e3, hF⟩ := bindP_use hF
   refine op (OpS.callP h7 Try.func52 rfl rfl rfl rfl (vs := [u3]) rfl (message_encode_ok e3) (.cons (f := false) (V.at .z) .nil) ?_)
   rintro u4 w4 _ _ _ ⟨_, rfl, rfl, rfl, rfl⟩ h8
   have h9 := h8 rfl rfl
   simp only [List.cons_append, List.nil_append] at h9
   refine op (OpS.as rfl rfl rfl ?_)
   refine op (OpS.as rfl rfl rfl ?_)
   refine RunL.nil ?_
   refine Run.slim [(3, .int .i64 0), (2, u4)] ⟨rfl, rfl, trivial⟩ ?_
   refine Run.retP rfl (.tmp rfl (.tmp rfl .nil)) ?_
   cases hF
   exact Post.mk' ⟨u4, rfl, rfl, rfl, rfl⟩ (h9.picks (.cons .z .nil)) .nil
 ·
  refine RunL.caseb hF (fun e4 hF => ?_) (fun e4 hF => ?_)
  ·
   refine op (OpS.pass rfl rfl rfl ?_)
   refine op (OpS.pass rfl rfl rfl ?_)
   refine op (OpS.pick rfl rfl rfl rfl ?_)
   refine RunL.nil ?_
   refine Run.slim [(10, .bool true), (1, u1)] ⟨rfl, rfl, trivial⟩ ?_
   refine Run.slim [(1, u1), (10, .bool true)] ⟨rfl, rfl, trivial⟩ ?_
   exact hj1 (true) _ _ ⟨rfl, (h4.facts .nil).picks (.cons .z .nil)⟩ hF
  ·
   refine op (OpS.loadB h4 .z PA.z Get.id ty51 rfl rfl rfl (fun u5 h10 => ?_))
   obtain ⟨y3, e5, hF⟩ := bindP_use hF
   refine op (OpS.callP h10 Try.func50 rfl rfl rfl rfl (vs := [u5]) rfl (message_request_ok e5) (.cons (f := false) (V.at .z) .nil) ?_)
   rintro _ w5 _ _ _ ⟨rfl, rfl, rfl, rfl⟩ h11
   have h12 := h11 rfl rfl
   simp only [List.cons_append, List.nil_append] at h12
   refine op (OpS.pick rfl rfl rfl rfl ?_)
   refine RunL.nil ?_
   refine Run.slim [(10, .bool y3), (1, u1)] ⟨rfl, rfl, trivial⟩ ?_
   refine Run.slim [(1, u1), (10, .bool y3)] ⟨rfl, rfl, trivial⟩ ?_
   exact hj1 (y3) _ _ ⟨rfl, (h12.facts .nil).picks (.cons .z .nil)⟩ hF
set_option maxHeartbeats 8000000 in
theorem law24_ExchangeOnce_ok {fuel : Nat} {a0 : List Int} {y : Bool} (hF : law24_ExchangeOnce fuel a0 = some y) {w : World} {v0 : Value} :
  Spec Try.prog 5 [v0].toArray w [(false, .val (Rep.slice (Rep.int .u8)) v0 a0)] [] (fun v Γr Ωr Ωo => v = .bool y ∧ Γr = [] ∧ Ωr = [] ∧ Ωo = []) := by
 refine Spec.of (L := [(0, v0)]) Try.func5 rfl ⟨rfl, trivial⟩ rfl (fun e h => ?_)
 unfold law24_ExchangeOnce at hF
 refine Run.seq ?_
 refine Run.reg ?_
 refine op (OpS.as rfl rfl rfl ?_)
 refine RunL.nil ?_
 refine Run.slim [(0, v0)] ⟨rfl, trivial⟩ ?_
 refine Run.seq ?_
 refine Run.seq ?_
 refine Run.reg ?_
 obtain ⟨y1, e1, hF⟩ := bindP_use hF
 refine op (OpS.callP h Try.func8 rfl rfl rfl rfl (vs := []) rfl (law24_awake_ok e1) .nil ?_)
 rintro _ w1 _ _ _ ⟨rfl, rfl, rfl, rfl⟩ h1
 have h2 := h1 rfl rfl
 simp only [List.cons_append, List.nil_append] at h2
 refine op (OpS.not rfl rfl rfl ?_)
 refine RunL.nil ?_
 refine Run.slim [(38, .bool (!y1)), (0, v0)] ⟨rfl, rfl, trivial⟩ ?_
 refine Run.ite rfl hF (fun e2 hF => ?_) (fun e2 hF => ?_)
 ·
  refine Run.seq ?_
  refine Run.reg ?_
  refine op (OpS.as rfl rfl rfl ?_)
  refine RunL.nil ?_
  refine Run.slim [(2, .bool false)] ⟨rfl, trivial⟩ ?_
  refine Run.retP rfl (.tmp rfl .nil) ?_
  cases hF
  exact Post.mk' ⟨rfl, rfl, rfl, rfl⟩ (h2.picks .nil) .nil
 ·
  refine Run.skip ?_
  refine Run.seq ?_
  refine Run.reg ?_
  refine op (OpS.mv rfl rfl rfl ?_)
  obtain ⟨y2, e3, hF⟩ := bindP_use hF
  have h3 := h2.front .nil
  refine op (OpS.callO h3 Try.func12 rfl rfl rfl rfl (vs := [v0, .int .i64 200]) rfl (field_New_ok e3) rfl (.cons (f := false) (V.at .z) .nil) ?_)
  rintro u1 w2 _ _ _ ⟨_, rfl, rfl, rfl, rfl⟩ h4
  have h5 := h4
  simp only [List.cons_append, List.nil_append] at h5
  refine op (OpS.as rfl rfl rfl ?_)
  refine RunL.nil ?_
  refine Run.slim [(3, u1)] ⟨rfl, trivial⟩ ?_
  refine Run.seq ?_
  refine Run.reg ?_
  obtain ⟨y3, e4, hF⟩ := bindP_use hF
  refine op (OpS.callP h5 Try.func9 rfl rfl rfl rfl (vs := [.int .u8 32]) rfl (exchange_New_ok e4) .nil ?_)
  rintro _ w3 _ _ _ ⟨u2, rfl, rfl, rfl, rfl⟩ h6
  have h7 := h6 rfl rfl
  simp only [List.cons_append, List.nil_append] at h7
  refine op (OpS.mv rfl rfl rfl ?_)
  refine op (OpS.ext rfl rfl rfl rfl ?_)
  refine op (OpS.ext rfl rfl rfl rfl ?_)
  refine op (OpS.alloc h7 ti26 Requester_.zr rfl rfl (fun u3 w4 h8 => ?_))
  refine op (OpS.storeB (f' := true) h8 .z PA.z Put.id ty26 rfl rfl rfl (V.at .z) (.inl rfl) (fun w5 h9 => ?_))
  refine op (OpS.as rfl rfl rfl ?_)
  refine RunL.nil ?_
  refine Run.slim [(5, .int .i64 y3.2), (4, u3), (3, u1)] ⟨rfl, rfl, rfl, trivial⟩ ?_
  refine Run.seq ?_
  refine Run.seq ?_
  refine Run.reg ?_
  refine op (OpS.mv rfl rfl rfl ?_)
  refine op (OpS.bin rfl rfl rfl rfl rfl ?_)
  refine RunL.nil ?_
  refine Run.slim [(46, .bool (y3.2 != 0)), (4, u3), (3, u1)] ⟨rfl, rfl, rfl, trivial⟩ ?_
  refine Run.ite rfl hF (fun e5 hF => ?_) (fun e5 hF => ?_)
  ·
   refine Run.seq ?_
   refine Run.reg ?_
   refine op (OpS.as rfl rfl rfl ?_)
   refine RunL.nil ?_
   refine Run.slim [(2, .bool false)] ⟨rfl, trivial⟩ ?_
   refine Run.retP rfl (.tmp rfl .nil) ?_
   cases hF
   exact Post.mk' ⟨rfl, rfl, rfl, rfl⟩ (h9.picks .nil) .nil
  ·
   refine Run.skip ?_
   refine Run.seq ?_
   refine Run.reg ?_
   refine op (OpS.mkmap (r := (Rep.int .i64)) h9 rfl rfl (fun u4 w6 h10 => ?_))
   refine op (OpS.as rfl rfl rfl ?_)
   refine op (OpS.as rfl rfl rfl ?_)
   refine RunL.nil ?_
   refine Run.slim [(7, .int .i64 0), (6, u4), (4, u3), (3, u1)] ⟨rfl, rfl, rfl, rfl, trivial⟩ ?_
   refine Run.seq ?_
   refine Run.reg ?_
   refine op (OpS.as rfl rfl rfl ?_)
   refine op (OpS.as rfl rfl rfl ?_)
   refine RunL.nil ?_
   refine Run.seq ?_
   refine Run.seq ?_
   refine Run.reg ?_
   refine op (OpS.as rfl rfl rfl ?_)
   refine RunL.nil ?_
   refine Run.block ?_
   have h11 := (h10.pick (.s .z)).weak
   refine Run.slim [(3, u1), (4, u3), (6, u4), (7, .int .i64 0), (8, .int .i64 0), (9, .int .i64 0), (10, .int .i64 0)] ⟨rfl, rfl, rfl, rfl, rfl, rfl, rfl, trivial⟩ ?_
   refine Run.loopP (σ := (Int × Int × Int × Int × field_Codes × Requester_ × (List (List Int × Int)))) (fun s_ L_ w_ => L_ = [(3, u1), (4, u3), (6, u4), (7, .int .i64 s_.1), (8, .int .i64 s_.2.1), (9, .int .i64 s_.2.2.1), (10, .int .i64 s_.2.2.2.1)] ∧ St e w_ [] [(false, .box 72 field_Codes.rep u1 s_.2.2.2.2.1), (false, .box 26 Requester_.rep u3 s_.2.2.2.2.2.1), (true, .mp 63 (Rep.int .i64) u4 s_.2.2.2.2.2.2)]) hF ⟨rfl, (h11.facts .nil).picks (.cons (.s (.s .z)) (.cons .z (.cons .z .nil)))⟩ (fun k1 hk1 s1 _ w7 hI hF => ?_)
   obtain ⟨rfl, h12⟩ := hI
   refine Run.seq ?_
   refine Run.seq ?_
   refine Run.reg ?_
   refine op (OpS.mv rfl rfl rfl ?_)
   refine op (OpS.bin rfl rfl rfl rfl rfl ?_)
   refine RunL.nil ?_
   refine Run.slim [(49, .bool (decide (s1.2.2.2.1 < 40))), (3, u1), (4, u3), (6, u4), (7, .int .i64 s1.1), (8, .int .i64 s1.2.1), (9, .int .i64 s1.2.2.1), (10, .int .i64 s1.2.2.2.1)] ⟨rfl, rfl, rfl, rfl, rfl, rfl, rfl, rfl, trivial⟩ ?_
   refine Run.ite rfl hF (fun e6 hF => ?_) (fun e6 hF => ?_)
   ·
    refine Run.skip ?_
    refine Run.seq ?_
    refine Run.block ?_
    refine Run.seq ?_
    refine Run.seq ?_
    refine Run.reg ?_
    refine op (OpS.mv rfl rfl rfl ?_)
    obtain ⟨y4, e7, hF⟩ := bindP_use hF
    have h13 := h12.front (.cons .z .nil)
    refine op (OpS.callO h13 Try.func14 rfl rfl rfl rfl (vs := [u1, .int .i64 4]) rfl (field_Codes_Next_ok e7) rfl .nil ?_)
    rintro _ w8 _ _ _ ⟨rfl, rfl, rfl, rfl⟩ h14
    have h15 := h14
    simp only [List.cons_append, List.nil_append] at h15
    refine RunL.nil ?_
    refine Run.slim [(53, .int .i64 y4.1), (3, u1), (4, u3), (6, u4), (7, .int .i64 s1.1), (8, .int .i64 s1.2.1), (9, .int .i64 s1.2.2.1), (10, .int .i64 s1.2.2.2.1)] ⟨rfl, rfl, rfl, rfl, rfl, rfl, rfl, rfl, trivial⟩ ?_
    refine Run.block ?_
    refine Run.seq ?_
    refine Run.seq ?_
    refine Run.reg ?_
    refine op (OpS.bin rfl rfl rfl rfl rfl ?_)
    refine op (OpS.as rfl rfl rfl ?_)
    obtain ⟨x1, e8, hF⟩ := letP_use hF
    refine RunL.nameb e8 ?_
    refine RunL.nil ?_
    refine Run.slim [(54, .bool x1), (53, .int .i64 y4.1), (3, u1), (4, u3), (6, u4), (7, .int .i64 s1.1), (8, .int .i64 s1.2.1), (9, .int .i64 s1.2.2.1), (10, .int .i64 s1.2.2.2.1)] ⟨rfl, rfl, rfl, rfl, rfl, rfl, rfl, rfl, rfl, trivial⟩ ?_
    refine Run.join (σ := Bool) (fun s_ L_ w_ => L_ = [(3, u1), (4, u3), (6, u4), (7, .int .i64 s1.1), (8, .int .i64 s1.2.1), (9, .int .i64 s1.2.2.1), (10, .int .i64 s1.2.2.2.1), (53, .int .i64 y4.1), (54, .bool s_)] ∧ St e w_ [] [(false, .box 72 field_Codes.rep u1 y4.2), (false, .box 26 Requester_.rep u3 s1.2.2.2.2.2.1), (true, .mp 63 (Rep.int .i64) u4 s1.2.2.2.2.2.2)]) hF (fun s2 _ w9 hI hF => ?_) (fun j1 hj1 hF => ?_)
    ·
     obtain ⟨rfl, h16⟩ := hI
     refine Run.join (σ := (Int × Int × Int × field_Codes × Requester_ × (List (List Int × Int)))) (fun s_ L_ w_ => L_ = [(3, u1), (4, u3), (6, u4), (7, .int .i64 s_.1), (8, .int .i64 s_.2.1), (9, .int .i64 s_.2.2.1), (10, .int .i64 s1.2.2.2.1)] ∧ St e w_ [] [(false, .box 72 field_Codes.rep u1 s_.2.2.2.1), (false, .box 26 Requester_.rep u3 s_.2.2.2.2.1), (true, .mp 63 (Rep.int .i64) u4 s_.2.2.2.2.2)]) hF (fun s3 _ w10 hI hF => ?_) (fun j2 hj2 hF => ?_)
     ·
      obtain ⟨rfl, h17⟩ := hI
      refine Run.endBlock ?_
      refine Run.seq ?_
      refine Run.reg ?_
      refine op (OpS.fbox (o3 := 2) h17 (.s .z) PA.z fa26_2 rfl rfl rfl rfl ?_)
      refine op (OpS.loadB h17 (.s .z) PA.a (Get.fld Requester_.f2) ty24 rfl rfl rfl (fun u5 h18 => ?_))
      refine op (OpS.len h18 Try.underlying24 rfl rfl rfl (V.at .z) ?_)
      refine op (OpS.mv rfl rfl rfl ?_)
      refine RunL.nil ?_
      refine Run.slim [(171, .int .i64 0), (170, .int .i64 (s3.2.2.2.2.1.Pending.length : Int)), (3, u1), (4, u3), (6, u4), (7, .int .i64 s3.1), (8, .int .i64 s3.2.1), (9, .int .i64 s3.2.2.1), (10, .int .i64 s1.2.2.2.1)] ⟨rfl, rfl, rfl, rfl, rfl, rfl, rfl, rfl, rfl, trivial⟩ ?_
      refine Run.block ?_
      refine Run.slim [(3, u1), (4, u3), (6, u4), (7, .int .i64 s3.1), (8, .int .i64 s3.2.1), (9, .int .i64 s3.2.2.1), (10, .int .i64 s1.2.2.2.1), (170, .int .i64 (s3.2.2.2.2.1.Pending.length : Int)), (171, .int .i64 0)] ⟨rfl, rfl, rfl, rfl, rfl, rfl, rfl, rfl, rfl, trivial⟩ ?_
      refine Run.loopP (σ := Int) (fun s_ L_ w_ => L_ = [(3, u1), (4, u3), (6, u4), (7, .int .i64 s3.1), (8, .int .i64 s3.2.1), (9, .int .i64 s3.2.2.1), (10, .int .i64 s1.2.2.2.1), (170, .int .i64 (s3.2.2.2.2.1.Pending.length : Int)), (171, .int .i64 s_)] ∧ St e w_ [] [(false, .box 72 field_Codes.rep u1 s3.2.2.2.1), (false, .box 26 Requester_.rep u3 s3.2.2.2.2.1), (true, .mp 63 (Rep.int .i64) u4 s3.2.2.2.2.2)]) hF ⟨rfl, (h18.facts .nil).picks (.cons .z (.cons .z (.cons .z .nil)))⟩ (fun k2 hk2 s4 _ w11 hI hF => ?_)
      obtain ⟨rfl, h19⟩ := hI
      refine Run.seq ?_
      refine Run.reg ?_
      refine op (OpS.bin rfl rfl rfl rfl rfl ?_)
      refine RunL.nil ?_
      refine Run.seq ?_
      refine Run.ite rfl hF (fun e9 hF => ?_) (fun e9 hF => ?_)
      ·
       refine Run.skip ?_
       refine Run.seq ?_
       refine Run.block ?_
       refine Run.seq ?_
       refine Run.reg ?_
       refine op (OpS.mv rfl rfl rfl ?_)
       refine op (OpS.as rfl rfl rfl ?_)
       refine RunL.nil ?_
       refine Run.slim [(31, .int .i64 s4), (3, u1), (4, u3), (6, u4), (7, .int .i64 s3.1), (8, .int .i64 s3.2.1), (9, .int .i64 s3.2.2.1), (10, .int .i64 s1.2.2.2.1), (170, .int .i64 (s3.2.2.2.2.1.Pending.length : Int)), (171, .int .i64 s4)] ⟨rfl, rfl, rfl, rfl, rfl, rfl, rfl, rfl, rfl, rfl, trivial⟩ ?_
       refine Run.seq ?_
       refine Run.reg ?_
       refine op (OpS.as rfl rfl rfl ?_)
       refine RunL.nil ?_
       refine Run.block ?_
       refine Run.slim [(3, u1), (4, u3), (6, u4), (7, .int .i64 s3.1), (8, .int .i64 s3.2.1), (9, .int .i64 s3.2.2.1), (10, .int .i64 s1.2.2.2.1), (31, .int .i64 s4), (32, .int .i64 0), (170, .int .i64 (s3.2.2.2.2.1.Pending.length : Int)), (171, .int .i64 s4)] ⟨rfl, rfl, rfl, rfl, rfl, rfl, rfl, rfl, rfl, rfl, rfl, trivial⟩ ?_
       refine Run.loopP (σ := Int) (fun s_ L_ w_ => L_ = [(3, u1), (4, u3), (6, u4), (7, .int .i64 s3.1), (8, .int .i64 s3.2.1), (9, .int .i64 s3.2.2.1), (10, .int .i64 s1.2.2.2.1), (31, .int .i64 s4), (32, .int .i64 s_), (170, .int .i64 (s3.2.2.2.2.1.Pending.length : Int)), (171, .int .i64 s4)] ∧ St e w_ [] [(false, .box 72 field_Codes.rep u1 s3.2.2.2.1), (false, .box 26 Requester_.rep u3 s3.2.2.2.2.1), (true, .mp 63 (Rep.int .i64) u4 s3.2.2.2.2.2)]) hF ⟨rfl, (h19.facts .nil).picks (.cons .z (.cons .z (.cons .z .nil)))⟩ (fun k3 hk3 s5 _ w12 hI hF => ?_)
       obtain ⟨rfl, h20⟩ := hI
       refine Run.seq ?_
       refine Run.seq ?_
       refine Run.reg ?_
       refine op (OpS.mv rfl rfl rfl ?_)
       refine op (OpS.mv rfl rfl rfl ?_)
       refine op (OpS.bin rfl rfl rfl rfl rfl ?_)
       refine RunL.nil ?_
       refine Run.slim [(176, .bool (decide (s5 < s4))), (3, u1), (4, u3), (6, u4), (7, .int .i64 s3.1), (8, .int .i64 s3.2.1), (9, .int .i64 s3.2.2.1), (10, .int .i64 s1.2.2.2.1), (31, .int .i64 s4), (32, .int .i64 s5), (170, .int .i64 (s3.2.2.2.2.1.Pending.length : Int)), (171, .int .i64 s4)] ⟨rfl, rfl, rfl, rfl, rfl, rfl, rfl, rfl, rfl, rfl, rfl, rfl, trivial⟩ ?_
       refine Run.ite rfl hF (fun e10 hF => ?_) (fun e10 hF => ?_)
       ·
        refine Run.skip ?_
        refine Run.seq ?_
        refine Run.block ?_
        refine Run.seq ?_
        refine Run.join (σ := Bool) (fun s_ L_ w_ => L_ = [(3, u1), (4, u3), (6, u4), (7, .int .i64 s3.1), (8, .int .i64 s3.2.1), (9, .int .i64 s3.2.2.1), (10, .int .i64 s1.2.2.2.1), (31, .int .i64 s4), (32, .int .i64 s5), (170, .int .i64 (s3.2.2.2.2.1.Pending.length : Int)), (171, .int .i64 s4), (210, .bool s_)] ∧ St e w_ [] [(false, .box 72 field_Codes.rep u1 s3.2.2.2.1), (false, .box 26 Requester_.rep u3 s3.2.2.2.2.1), (true, .mp 63 (Rep.int .i64) u4 s3.2.2.2.2.2)]) hF (fun s6 _ w13 hI hF => ?_) (fun j3 hj3 hF => ?_)
        ·
         obtain ⟨rfl, h21⟩ := hI
         refine Run.ite rfl hF (fun e11 hF => ?_) (fun e11 hF => ?_)
         ·
          refine Run.seq ?_
          refine Run.reg ?_
          refine op (OpS.as rfl rfl rfl ?_)
          refine RunL.nil ?_
          refine Run.slim [(2, .bool false)] ⟨rfl, trivial⟩ ?_
          refine Run.retP rfl (.tmp rfl .nil) ?_
          cases hF
          exact Post.mk' ⟨rfl, rfl, rfl, rfl⟩ (h21.picks .nil) .nil
         ·
          refine Run.skip ?_
          refine Run.endBlock ?_
          refine Run.reg ?_
          refine op (OpS.mv rfl rfl rfl ?_)
          refine op (OpS.bin rfl rfl rfl rfl rfl ?_)
          refine op (OpS.as rfl rfl rfl ?_)
          obtain ⟨x2, e12, hF⟩ := letP_use hF
          refine RunL.name e12 ?_
          refine RunL.nil ?_
          refine Run.slim [(32, .int .i64 x2), (3, u1), (4, u3), (6, u4), (7, .int .i64 s3.1), (8, .int .i64 s3.2.1), (9, .int .i64 s3.2.2.1), (10, .int .i64 s1.2.2.2.1), (31, .int .i64 s4), (170, .int .i64 (s3.2.2.2.2.1.Pending.length : Int)), (171, .int .i64 s4)] ⟨rfl, rfl, rfl, rfl, rfl, rfl, rfl, rfl, rfl, rfl, rfl, trivial⟩ ?_
          refine Run.slim [(3, u1), (4, u3), (6, u4), (7, .int .i64 s3.1), (8, .int .i64 s3.2.1), (9, .int .i64 s3.2.2.1), (10, .int .i64 s1.2.2.2.1), (31, .int .i64 s4), (32, .int .i64 x2), (170, .int .i64 (s3.2.2.2.2.1.Pending.length : Int)), (171, .int .i64 s4)] ⟨rfl, rfl, rfl, rfl, rfl, rfl, rfl, rfl, rfl, rfl, rfl, trivial⟩ ?_
          exact hk3 (x2) _ _ ⟨rfl, (h21.facts .nil).picks (.cons .z (.cons .z (.cons .z .nil)))⟩ hF
        ·
         have h22 := h20.picks (.cons (.s .z) (.cons .z (.cons .z .nil)))
         obtain ⟨x3, e13, hF⟩ := bindP_use hF
         obtain ⟨x4, e14, hF⟩ := bindP_use hF
         obtain ⟨x5, e15, hF⟩ := letP_use hF
         refine iteP_use hF (fun e16 hF => ?_) (fun e16 hF => ?_)
         ·
          have hG := hF
          subst e16
          have hF := hG
          obtain ⟨x6, e17, hF⟩ := bindP_use hF
          obtain ⟨x7, e18, hF⟩ := bindP_use hF
          refine Run.drawV (Ωs := [(false, .box 72 field_Codes.rep u1 s3.2.2.2.1), (true, .mp 63 (Rep.int .i64) u4 s3.2.2.2.2.2)]) [⟨some 179, some ((padd u3 2)), fun _ => [], fun ds_ u_ => [], [], [(0, [])], none⟩, ⟨some 180, none, fun u_ => [(false, .val (Rep.slice Pending_.rep) u_ s3.2.2.2.2.1.Pending)], fun ds_ u_ => [], [], [(0, [])], none⟩, ⟨some 181, some (.int .i64 s4), fun _ => [], fun ds_ u_ => [], [], [], none⟩, ⟨some 182, none, fun u_ => [(false, .ptr Pending_.rep u_ x3)], fun ds_ u_ => [], [], [], none⟩, ⟨some 183, none, fun u_ => [(false, .ptr Message_.rep u_ x3.Request)], fun ds_ u_ => [], [], [], none⟩, ⟨some 184, none, fun u_ => [(false, .ptr (Rep.int .u8) u_ x3.Request.To)], fun ds_ u_ => [], [], [], none⟩, ⟨some 185, some (.int .u8 x3.Request.To), fun _ => [], fun ds_ u_ => [], [], [], none⟩, ⟨some 186, some ((padd u3 2)), fun _ => [], fun ds_ u_ => [], [], [(0, [])], none⟩, ⟨some 187, none, fun u_ => [(false, .val (Rep.slice Pending_.rep) u_ s3.2.2.2.2.1.Pending)], fun ds_ u_ => [], [], [(0, [])], none⟩, ⟨some 188, some (.int .i64 s5), fun _ => [], fun ds_ u_ => [], [], [], none⟩, ⟨some 189, none, fun u_ => [(false, .ptr Pending_.rep u_ x4)], fun ds_ u_ => [], [], [], none⟩, ⟨some 190, none, fun u_ => [(false, .ptr Message_.rep u_ x4.Request)], fun ds_ u_ => [], [], [], none⟩, ⟨some 191, none, fun u_ => [(false, .ptr (Rep.int .u8) u_ x4.Request.To)], fun ds_ u_ => [], [], [], none⟩, ⟨some 192, some (.int .u8 x4.Request.To), fun _ => [], fun ds_ u_ => [], [], [], none⟩, ⟨some 193, some (.bool (x3.Request.To == x4.Request.To)), fun _ => [], fun ds_ u_ => [], [], [], none⟩, ⟨some 194, some (.bool true), fun _ => [], fun ds_ u_ => [], [], [], none⟩, ⟨some 195, some ((padd u3 2)), fun _ => [], fun ds_ u_ => [], [], [(0, [])], none⟩, ⟨some 196, none, fun u_ => [(false, .val (Rep.slice Pending_.rep) u_ s3.2.2.2.2.1.Pending)], fun ds_ u_ => [], [], [(0, [])], none⟩, ⟨some 197, some (.int .i64 s4), fun _ => [], fun ds_ u_ => [], [], [], none⟩, ⟨some 198, none, fun u_ => [(false, .ptr Pending_.rep u_ x6)], fun ds_ u_ => [], [], [], none⟩, ⟨some 199, none, fun u_ => [(false, .ptr Message_.rep u_ x6.Request)], fun ds_ u_ => [], [], [], none⟩, ⟨some 200, none, fun u_ => [(false, .ptr (Rep.int .i64) u_ x6.Request.Sequence)], fun ds_ u_ => [], [], [], none⟩, ⟨some 201, some (.int .i64 x6.Request.Sequence), fun _ => [], fun ds_ u_ => [], [], [], none⟩, ⟨some 202, some ((padd u3 2)), fun _ => [], fun ds_ u_ => [], [], [(0, [])], none⟩, ⟨some 203, none, fun u_ => [(false, .val (Rep.slice Pending_.rep) u_ s3.2.2.2.2.1.Pending)], fun ds_ u_ => [], [], [(0, [])], none⟩, ⟨some 204, some (.int .i64 s5), fun _ => [], fun ds_ u_ => [], [], [], none⟩, ⟨some 205, none, fun u_ => [(false, .ptr Pending_.rep u_ x7)], fun ds_ u_ => [], [], [], none⟩, ⟨some 206, none, fun u_ => [(false, .ptr Message_.rep u_ x7.Request)], fun ds_ u_ => [], [], [], none⟩, ⟨some 207, none, fun u_ => [(false, .ptr (Rep.int .i64) u_ x7.Request.Sequence)], fun ds_ u_ => [], [], [], none⟩, ⟨some 208, some (.int .i64 x7.Request.Sequence), fun _ => [], fun ds_ u_ => [], [], [], none⟩, ⟨some 209, some (.bool (x6.Request.Sequence == x7.Request.Sequence)), fun _ => [], fun ds_ u_ => [], [], [], none⟩, ⟨some 210, some (.bool (x6.Request.Sequence == x7.Request.Sequence)), fun _ => [], fun ds_ u_ => [], [], [], none⟩] [[], [0], [], [1, 2], [3], [4], [5], [], [7], [], [8, 9], [10], [11], [12], [6, 13], [14], [15], [16, 15], [15], [17, 18, 15], [19, 15], [20, 15], [21, 15], [15], [23, 15], [15], [24, 25, 15], [26, 15], [27, 15], [28, 15], [22, 29, 15], [15, 30]] [[(false, .box 26 Requester_.rep u3 s3.2.2.2.2.1)]] [0, 1, 2, 3, 4, 5, 6, 7, 8, 9, 10, 11, 12, 13, 14, 15, 16, 17, 18, 19, 20, 21, 22, 23, 24, 25, 26, 27, 28, 29, 30, 31, 32] Try_mixed rfl rfl rfl h22 (.cons ?_ (.cons ?_ (.cons ?_ (.cons ?_ (.cons ?_ (.cons ?_ (.cons ?_ (.cons ?_ (.cons ?_ (.cons ?_ (.cons ?_ (.cons ?_ (.cons ?_ (.cons ?_ (.cons ?_ (.cons ?_ (.cons ?_ (.cons ?_ (.cons ?_ (.cons ?_ (.cons ?_ (.cons ?_ (.cons ?_ (.cons ?_ (.cons ?_ (.cons ?_ (.cons ?_ (.cons ?_ (.cons ?_ (.cons ?_ (.cons ?_ (.cons ?_ .nil)))))))))))))))))))))))))))))))) (fun q1 w hq1 h => ?_)
          ·intro q1 w Γx Ωx h
           have h : St e w ([] ++ Γx) ([(false, .box 26 Requester_.rep u3 s3.2.2.2.2.1), (false, .box 72 field_Codes.rep u1 s3.2.2.2.1), (true, .mp 63 (Rep.int .i64) u4 s3.2.2.2.2.2)] ++ Ωx) := h
           refine OpS.fbox (o3 := 2) h .z PA.z fa26_2 rfl rfl rfl rfl ?_
           exact ⟨undef, rfl, trivial, h⟩
          ·intro q1 w Γx Ωx h
           have h : St e w ([] ++ Γx) ([(false, .box 26 Requester_.rep u3 s3.2.2.2.2.1), (false, .box 72 field_Codes.rep u1 s3.2.2.2.1), (true, .mp 63 (Rep.int .i64) u4 s3.2.2.2.2.2)] ++ Ωx) := h
           refine OpS.loadB h .z PA.a (Get.fld Requester_.f2) ty24 rfl rfl rfl (fun u h39 => ?_)
           exact ⟨u, rfl, trivial, h39⟩
          ·intro q1 w Γx Ωx h
           refine OpS.mv rfl rfl rfl ?_
           exact ⟨undef, rfl, trivial, h⟩
          ·intro q1 w Γx Ωx h
           refine OpS.iptr h Try.underlying24 ty55 rfl rfl rfl rfl (V.at .z) e13 (fun u h40 => ?_)
           exact ⟨u, rfl, trivial, h40⟩
          ·intro q1 w Γx Ωx h
           refine OpS.fptr h fa55_0 Pending_.f0 rfl rfl rfl .z (fun u h41 => ?_)
           exact ⟨u, rfl, trivial, h41⟩
          ·intro q1 w Γx Ωx h
           refine OpS.fptr h fa51_0 Message_.f0 rfl rfl rfl .z (fun u h42 => ?_)
           exact ⟨u, rfl, trivial, h42⟩
          ·intro q1 w Γx Ωx h
           refine OpS.loadi h ty5 rfl rfl rfl .z ?_
           exact ⟨undef, rfl, trivial, h⟩
          ·intro q1 w Γx Ωx h
           have h : St e w ([] ++ Γx) ([(false, .box 26 Requester_.rep u3 s3.2.2.2.2.1), (false, .box 72 field_Codes.rep u1 s3.2.2.2.1), (true, .mp 63 (Rep.int .i64) u4 s3.2.2.2.2.2)] ++ Ωx) := h
           refine OpS.fbox (o3 := 2) h .z PA.z fa26_2 rfl rfl rfl rfl ?_
           exact ⟨undef, rfl, trivial, h⟩
          ·intro q1 w Γx Ωx h
           have h : St e w ([] ++ Γx) ([(false, .box 26 Requester_.rep u3 s3.2.2.2.2.1), (false, .box 72 field_Codes.rep u1 s3.2.2.2.1), (true, .mp 63 (Rep.int .i64) u4 s3.2.2.2.2.2)] ++ Ωx) := h
           refine OpS.loadB h .z PA.a (Get.fld Requester_.f2) ty24 rfl rfl rfl (fun u h43 => ?_)
           exact ⟨u, rfl, trivial, h43⟩
          ·intro q1 w Γx Ωx h
           refine OpS.mv rfl rfl rfl ?_
           exact ⟨undef, rfl, trivial, h⟩
          ·intro q1 w Γx Ωx h
           refine OpS.iptr h Try.underlying24 ty55 rfl rfl rfl rfl (V.at .z) e14 (fun u h44 => ?_)
           exact ⟨u, rfl, trivial, h44⟩
          ·intro q1 w Γx Ωx h
           refine OpS.fptr h fa55_0 Pending_.f0 rfl rfl rfl .z (fun u h45 => ?_)
           exact ⟨u, rfl, trivial, h45⟩
          ·intro q1 w Γx Ωx h
           refine OpS.fptr h fa51_0 Message_.f0 rfl rfl rfl .z (fun u h46 => ?_)
           exact ⟨u, rfl, trivial, h46⟩
          ·intro q1 w Γx Ωx h
           refine OpS.loadi h ty5 rfl rfl rfl .z ?_
           exact ⟨undef, rfl, trivial, h⟩
          ·intro q1 w Γx Ωx h
           refine OpS.bin rfl rfl rfl rfl rfl ?_
           exact ⟨undef, rfl, trivial, h⟩
          ·intro q1 w Γx Ωx h
           refine OpS.mv rfl rfl rfl ?_
           exact ⟨undef, (congrArg (fun z_ => some (Value.bool z_)) e15), trivial, h⟩
          ·intro q1 w Γx Ωx h
           have h : St e w ([] ++ Γx) ([(false, .box 26 Requester_.rep u3 s3.2.2.2.2.1), (false, .box 72 field_Codes.rep u1 s3.2.2.2.1), (true, .mp 63 (Rep.int .i64) u4 s3.2.2.2.2.2)] ++ Ωx) := h
           refine OpS.fbox (o3 := 2) h .z PA.z fa26_2 rfl rfl rfl rfl ?_
           exact ⟨undef, rfl, trivial, h⟩
          ·intro q1 w Γx Ωx h
           have h : St e w ([] ++ Γx) ([(false, .box 26 Requester_.rep u3 s3.2.2.2.2.1), (false, .box 72 field_Codes.rep u1 s3.2.2.2.1), (true, .mp 63 (Rep.int .i64) u4 s3.2.2.2.2.2)] ++ Ωx) := h
           refine OpS.loadB h .z PA.a (Get.fld Requester_.f2) ty24 rfl rfl rfl (fun u h47 => ?_)
           exact ⟨u, rfl, trivial, h47⟩
          ·intro q1 w Γx Ωx h
           refine OpS.mv rfl rfl rfl ?_
           exact ⟨undef, rfl, trivial, h⟩
          ·intro q1 w Γx Ωx h
           refine OpS.iptr h Try.underlying24 ty55 rfl rfl rfl rfl (V.at .z) e17 (fun u h48 => ?_)
           exact ⟨u, rfl, trivial, h48⟩
          ·intro q1 w Γx Ωx h
           refine OpS.fptr h fa55_0 Pending_.f0 rfl rfl rfl .z (fun u h49 => ?_)
           exact ⟨u, rfl, trivial, h49⟩
          ·intro q1 w Γx Ωx h
           refine OpS.fptr h fa51_6 Message_.f6 rfl rfl rfl .z (fun u h50 => ?_)
           exact ⟨u, rfl, trivial, h50⟩
          ·intro q1 w Γx Ωx h
           refine OpS.loadi h ty3 rfl rfl rfl .z ?_
           exact ⟨undef, rfl, trivial, h⟩
          ·intro q1 w Γx Ωx h
           have h : St e w ([] ++ Γx) ([(false, .box 26 Requester_.rep u3 s3.2.2.2.2.1), (false, .box 72 field_Codes.rep u1 s3.2.2.2.1), (true, .mp 63 (Rep.int .i64) u4 s3.2.2.2.2.2)] ++ Ωx) := h
           refine OpS.fbox (o3 := 2) h .z PA.z fa26_2 rfl rfl rfl rfl ?_
           exact ⟨undef, rfl, trivial, h⟩
          ·intro q1 w Γx Ωx h
           have h : St e w ([] ++ Γx) ([(false, .box 26 Requester_.rep u3 s3.2.2.2.2.1), (false, .box 72 field_Codes.rep u1 s3.2.2.2.1), (true, .mp 63 (Rep.int .i64) u4 s3.2.2.2.2.2)] ++ Ωx) := h
           refine OpS.loadB h .z PA.a (Get.fld Requester_.f2) ty24 rfl rfl rfl (fun u h51 => ?_)
           exact ⟨u, rfl, trivial, h51⟩
          ·intro q1 w Γx Ωx h
           refine OpS.mv rfl rfl rfl ?_
           exact ⟨undef, rfl, trivial, h⟩
          ·intro q1 w Γx Ωx h
           refine OpS.iptr h Try.underlying24 ty55 rfl rfl rfl rfl (V.at .z) e18 (fun u h52 => ?_)
           exact ⟨u, rfl, trivial, h52⟩
          ·intro q1 w Γx Ωx h
           refine OpS.fptr h fa55_0 Pending_.f0 rfl rfl rfl .z (fun u h53 => ?_)
           exact ⟨u, rfl, trivial, h53⟩
          ·intro q1 w Γx Ωx h
           refine OpS.fptr h fa51_6 Message_.f6 rfl rfl rfl .z (fun u h54 => ?_)
           exact ⟨u, rfl, trivial, h54⟩
          ·intro q1 w Γx Ωx h
           refine OpS.loadi h ty3 rfl rfl rfl .z ?_
           exact ⟨undef, rfl, trivial, h⟩
          ·intro q1 w Γx Ωx h
           refine OpS.bin rfl rfl rfl rfl rfl ?_
           exact ⟨undef, rfl, trivial, h⟩
          ·intro q1 w Γx Ωx h
           refine OpS.pick rfl rfl rfl rfl ?_
           exact ⟨undef, rfl, trivial, h⟩
          have h55 : St e w [(false, .val (Rep.slice Pending_.rep) (q1 1) s3.2.2.2.2.1.Pending), (false, .ptr Pending_.rep (q1 3) x3), (false, .ptr Message_.rep (q1 4) x3.Request), (false, .ptr (Rep.int .u8) (q1 5) x3.Request.To), (false, .val (Rep.slice Pending_.rep) (q1 8) s3.2.2.2.2.1.Pending), (false, .ptr Pending_.rep (q1 10) x4), (false, .ptr Message_.rep (q1 11) x4.Request), (false, .ptr (Rep.int .u8) (q1 12) x4.Request.To), (false, .val (Rep.slice Pending_.rep) (q1 17) s3.2.2.2.2.1.Pending), (false, .ptr Pending_.rep (q1 19) x6), (false, .ptr Message_.rep (q1 20) x6.Request), (false, .ptr (Rep.int .i64) (q1 21) x6.Request.Sequence), (false, .val (Rep.slice Pending_.rep) (q1 24) s3.2.2.2.2.1.Pending), (false, .ptr Pending_.rep (q1 26) x7), (false, .ptr Message_.rep (q1 27) x7.Request), (false, .ptr (Rep.int .i64) (q1 28) x7.Request.Sequence)] [(false, .box 26 Requester_.rep u3 s3.2.2.2.2.1), (false, .box 72 field_Codes.rep u1 s3.2.2.2.1), (true, .mp 63 (Rep.int .i64) u4 s3.2.2.2.2.2)] := h
          refine RunL.nil ?_
          refine Run.slim [(210, .bool (x6.Request.Sequence == x7.Request.Sequence)), (3, u1), (4, u3), (6, u4), (7, .int .i64 s3.1), (8, .int .i64 s3.2.1), (9, .int .i64 s3.2.2.1), (10, .int .i64 s1.2.2.2.1), (31, .int .i64 s4), (32, .int .i64 s5), (170, .int .i64 (s3.2.2.2.2.1.Pending.length : Int)), (171, .int .i64 s4)] ⟨rfl, rfl, rfl, rfl, rfl, rfl, rfl, rfl, rfl, rfl, rfl, rfl, trivial⟩ ?_
          refine Run.slim [(3, u1), (4, u3), (6, u4), (7, .int .i64 s3.1), (8, .int .i64 s3.2.1), (9, .int .i64 s3.2.2.1), (10, .int .i64 s1.2.2.2.1), (31, .int .i64 s4), (32, .int .i64 s5), (170, .int .i64 (s3.2.2.2.2.1.Pending.length : Int)), (171, .int .i64 s4), (210, .bool (x6.Request.Sequence == x7.Request.Sequence))] ⟨rfl, rfl, rfl, rfl, rfl, rfl, rfl, rfl, rfl, rfl, rfl, rfl, trivial⟩ ?_
          exact hj3 (x6.Request.Sequence == x7.Request.Sequence) _ _ ⟨rfl, (h55.facts .nil).picks (.cons (.s .z) (.cons .z (.cons .z .nil)))⟩ hF
         ·
          have hG := hF
          subst e16
          have hF := hG
          refine Run.drawV (Ωs := [(false, .box 72 field_Codes.rep u1 s3.2.2.2.1), (true, .mp 63 (Rep.int .i64) u4 s3.2.2.2.2.2)]) [⟨some 179, some ((padd u3 2)), fun _ => [], fun ds_ u_ => [], [], [(0, [])], none⟩, ⟨some 180, none, fun u_ => [(false, .val (Rep.slice Pending_.rep) u_ s3.2.2.2.2.1.Pending)], fun ds_ u_ => [], [], [(0, [])], none⟩, ⟨some 181, some (.int .i64 s4), fun _ => [], fun ds_ u_ => [], [], [], none⟩, ⟨some 182, none, fun u_ => [(false, .ptr Pending_.rep u_ x3)], fun ds_ u_ => [], [], [], none⟩, ⟨some 183, none, fun u_ => [(false, .ptr Message_.rep u_ x3.Request)], fun ds_ u_ => [], [], [], none⟩, ⟨some 184, none, fun u_ => [(false, .ptr (Rep.int .u8) u_ x3.Request.To)], fun ds_ u_ => [], [], [], none⟩, ⟨some 185, some (.int .u8 x3.Request.To), fun _ => [], fun ds_ u_ => [], [], [], none⟩, ⟨some 186, some ((padd u3 2)), fun _ => [], fun ds_ u_ => [], [], [(0, [])], none⟩, ⟨some 187, none, fun u_ => [(false, .val (Rep.slice Pending_.rep) u_ s3.2.2.2.2.1.Pending)], fun ds_ u_ => [], [], [(0, [])], none⟩, ⟨some 188, some (.int .i64 s5), fun _ => [], fun ds_ u_ => [], [], [], none⟩, ⟨some 189, none, fun u_ => [(false, .ptr Pending_.rep u_ x4)], fun ds_ u_ => [], [], [], none⟩, ⟨some 190, none, fun u_ => [(false, .ptr Message_.rep u_ x4.Request)], fun ds_ u_ => [], [], [], none⟩, ⟨some 191, none, fun u_ => [(false, .ptr (Rep.int .u8) u_ x4.Request.To)], fun ds_ u_ => [], [], [], none⟩, ⟨some 192, some (.int .u8 x4.Request.To), fun _ => [], fun ds_ u_ => [], [], [], none⟩, ⟨some 193, some (.bool (x3.Request.To == x4.Request.To)), fun _ => [], fun ds_ u_ => [], [], [], none⟩, ⟨some 194, some (.bool false), fun _ => [], fun ds_ u_ => [], [], [], none⟩, ⟨some 195, some undef, fun _ => [], fun _ _ => [], [], [], none⟩, ⟨some 196, some undef, fun _ => [], fun _ _ => [], [], [], none⟩, ⟨some 197, some undef, fun _ => [], fun _ _ => [], [], [], none⟩, ⟨some 198, some undef, fun _ => [], fun _ _ => [], [], [], none⟩, ⟨some 199, some undef, fun _ => [], fun _ _ => [], [], [], none⟩, ⟨some 200, some undef, fun _ => [], fun _ _ => [], [], [], none⟩, ⟨some 201, some undef, fun _ => [], fun _ _ => [], [], [], none⟩, ⟨some 202, some undef, fun _ => [], fun _ _ => [], [], [], none⟩, ⟨some 203, some undef, fun _ => [], fun _ _ => [], [], [], none⟩, ⟨some 204, some undef, fun _ => [], fun _ _ => [], [], [], none⟩, ⟨some 205, some undef, fun _ => [], fun _ _ => [], [], [], none⟩, ⟨some 206, some undef, fun _ => [], fun _ _ => [], [], [], none⟩, ⟨some 207, some undef, fun _ => [], fun _ _ => [], [], [], none⟩, ⟨some 208, some undef, fun _ => [], fun _ _ => [], [], [], none⟩, ⟨some 209, some undef, fun _ => [], fun _ _ => [], [], [], none⟩, ⟨some 210, some (.bool false), fun _ => [], fun ds_ u_ => [], [], [], none⟩] [[], [0], [], [1, 2], [3], [4], [5], [], [7], [], [8, 9], [10], [11], [12], [6, 13], [14], [15], [15], [15], [15], [15], [15], [15], [15], [15], [15], [15], [15], [15], [15], [15], [15, 30]] [[(false, .box 26 Requester_.rep u3 s3.2.2.2.2.1)]] [0, 1, 2, 3, 4, 5, 6, 7, 8, 9, 10, 11, 12, 13, 14, 15, 16, 17, 18, 19, 20, 21, 22, 23, 24, 25, 26, 27, 28, 29, 30, 31, 32] Try_mixed rfl rfl rfl h22 (.cons ?_ (.cons ?_ (.cons ?_ (.cons ?_ (.cons ?_ (.cons ?_ (.cons ?_ (.cons ?_ (.cons ?_ (.cons ?_ (.cons ?_ (.cons ?_ (.cons ?_ (.cons ?_ (.cons ?_ (.cons ?_ (.cons ?_ (.cons ?_ (.cons ?_ (.cons ?_ (.cons ?_ (.cons ?_ (.cons ?_ (.cons ?_ (.cons ?_ (.cons ?_ (.cons ?_ (.cons ?_ (.cons ?_ (.cons ?_ (.cons ?_ (.cons ?_ .nil)))))))))))))))))))))))))))))))) (fun q1 w hq2 h => ?_)
          ·intro q1 w Γx Ωx h
           have h : St e w ([] ++ Γx) ([(false, .box 26 Requester_.rep u3 s3.2.2.2.2.1), (false, .box 72 field_Codes.rep u1 s3.2.2.2.1), (true, .mp 63 (Rep.int .i64) u4 s3.2.2.2.2.2)] ++ Ωx) := h
           refine OpS.fbox (o3 := 2) h .z PA.z fa26_2 rfl rfl rfl rfl ?_
           exact ⟨undef, rfl, trivial, h⟩
          ·intro q1 w Γx Ωx h
           have h : St e w ([] ++ Γx) ([(false, .box 26 Requester_.rep u3 s3.2.2.2.2.1), (false, .box 72 field_Codes.rep u1 s3.2.2.2.1), (true, .mp 63 (Rep.int .i64) u4 s3.2.2.2.2.2)] ++ Ωx) := h
           refine OpS.loadB h .z PA.a (Get.fld Requester_.f2) ty24 rfl rfl rfl (fun u h56 => ?_)
           exact ⟨u, rfl, trivial, h56⟩
          ·intro q1 w Γx Ωx h
           refine OpS.mv rfl rfl rfl ?_
           exact ⟨undef, rfl, trivial, h⟩
          ·intro q1 w Γx Ωx h
           refine OpS.iptr h Try.underlying24 ty55 rfl rfl rfl rfl (V.at .z) e13 (fun u h57 => ?_)
           exact ⟨u, rfl, trivial, h57⟩
          ·intro q1 w Γx Ωx h
           refine OpS.fptr h fa55_0 Pending_.f0 rfl rfl rfl .z (fun u h58 => ?_)
           exact ⟨u, rfl, trivial, h58⟩
          ·intro q1 w Γx Ωx h
           refine OpS.fptr h fa51_0 Message_.f0 rfl rfl rfl .z (fun u h59 => ?_)
           exact ⟨u, rfl, trivial, h59⟩
          ·intro q1 w Γx Ωx h
           refine OpS.loadi h ty5 rfl rfl rfl .z ?_
           exact ⟨undef, rfl, trivial, h⟩
          ·intro q1 w Γx Ωx h
           have h : St e w ([] ++ Γx) ([(false, .box 26 Requester_.rep u3 s3.2.2.2.2.1), (false, .box 72 field_Codes.rep u1 s3.2.2.2.1), (true, .mp 63 (Rep.int .i64) u4 s3.2.2.2.2.2)] ++ Ωx) := h
           refine OpS.fbox (o3 := 2) h .z PA.z fa26_2 rfl rfl rfl rfl ?_
           exact ⟨undef, rfl, trivial, h⟩
          ·intro q1 w Γx Ωx h
           have h : St e w ([] ++ Γx) ([(false, .box 26 Requester_.rep u3 s3.2.2.2.2.1), (false, .box 72 field_Codes.rep u1 s3.2.2.2.1), (true, .mp 63 (Rep.int .i64) u4 s3.2.2.2.2.2)] ++ Ωx) := h
           refine OpS.loadB h .z PA.a (Get.fld Requester_.f2) ty24 rfl rfl rfl (fun u h60 => ?_)
           exact ⟨u, rfl, trivial, h60⟩
          ·intro q1 w Γx Ωx h
           refine OpS.mv rfl rfl rfl ?_
           exact ⟨undef, rfl, trivial, h⟩
          ·intro q1 w Γx Ωx h
           refine OpS.iptr h Try.underlying24 ty55 rfl rfl rfl rfl (V.at .z) e14 (fun u h61 => ?_)
           exact ⟨u, rfl, trivial, h61⟩
          ·intro q1 w Γx Ωx h
           refine OpS.fptr h fa55_0 Pending_.f0 rfl rfl rfl .z (fun u h62 => ?_)
           exact ⟨u, rfl, trivial, h62⟩
          ·intro q1 w Γx Ωx h
           refine OpS.fptr h fa51_0 Message_.f0 rfl rfl rfl .z (fun u h63 => ?_)
           exact ⟨u, rfl, trivial, h63⟩
          ·intro q1 w Γx Ωx h
           refine OpS.loadi h ty5 rfl rfl rfl .z ?_
           exact ⟨undef, rfl, trivial, h⟩
          ·intro q1 w Γx Ωx h
           refine OpS.bin rfl rfl rfl rfl rfl ?_
           exact ⟨undef, rfl, trivial, h⟩
          ·intro q1 w Γx Ωx h
           refine OpS.mv rfl rfl rfl ?_
           exact ⟨undef, (congrArg (fun z_ => some (Value.bool z_)) e15), trivial, h⟩
          ·intro q1 w Γx Ωx h
           exact OpS.pass rfl rfl rfl ⟨undef, rfl, trivial, h⟩
          ·intro q1 w Γx Ωx h
           exact OpS.pass rfl rfl rfl ⟨undef, rfl, trivial, h⟩
          ·intro q1 w Γx Ωx h
           exact OpS.pass rfl rfl rfl ⟨undef, rfl, trivial, h⟩
          ·intro q1 w Γx Ωx h
           exact OpS.pass rfl rfl rfl ⟨undef, rfl, trivial, h⟩
          ·intro q1 w Γx Ωx h
           exact OpS.pass rfl rfl rfl ⟨undef, rfl, trivial, h⟩
          ·intro q1 w Γx Ωx h
           exact OpS.pass rfl rfl rfl ⟨undef, rfl, trivial, h⟩
          ·intro q1 w Γx Ωx h
           exact OpS.pass rfl rfl rfl ⟨undef, rfl, trivial, h⟩
          ·intro q1 w Γx Ωx h
           exact OpS.pass rfl rfl rfl ⟨undef, rfl, trivial, h⟩
          ·intro q1 w Γx Ωx h
           exact OpS.pass rfl rfl rfl ⟨undef, rfl, trivial, h⟩
          ·intro q1 w Γx Ωx h
           exact OpS.pass rfl rfl rfl ⟨undef, rfl, trivial, h⟩
          ·intro q1 w Γx Ωx h
           exact OpS.pass rfl rfl rfl ⟨undef, rfl, trivial, h⟩
          ·intro q1 w Γx Ωx h
           exact OpS.pass rfl rfl rfl ⟨undef, rfl, trivial, h⟩
          ·intro q1 w Γx Ωx h
           exact OpS.pass rfl rfl rfl ⟨undef, rfl, trivial, h⟩
          ·intro q1 w Γx Ωx h
           exact OpS.pass rfl rfl rfl ⟨undef, rfl, trivial, h⟩
          ·intro q1 w Γx Ωx h
           exact OpS.pass rfl rfl rfl ⟨undef, rfl, trivial, h⟩
          ·intro q1 w Γx Ωx h
           refine OpS.pick rfl rfl rfl rfl ?_
           exact ⟨undef, rfl, trivial, h⟩
          have h64 : St e w [(false, .val (Rep.slice Pending_.rep) (q1 1) s3.2.2.2.2.1.Pending), (false, .ptr Pending_.rep (q1 3) x3), (false, .ptr Message_.rep (q1 4) x3.Request), (false, .ptr (Rep.int .u8) (q1 5) x3.Request.To), (false, .val (Rep.slice Pending_.rep) (q1 8) s3.2.2.2.2.1.Pending), (false, .ptr Pending_.rep (q1 10) x4), (false, .ptr Message_.rep (q1 11) x4.Request), (false, .ptr (Rep.int .u8) (q1 12) x4.Request.To)] [(false, .box 26 Requester_.rep u3 s3.2.2.2.2.1), (false, .box 72 field_Codes.rep u1 s3.2.2.2.1), (true, .mp 63 (Rep.int .i64) u4 s3.2.2.2.2.2)] := h
          refine RunL.nil ?_
          refine Run.slim [(210, .bool false), (3, u1), (4, u3), (6, u4), (7, .int .i64 s3.1), (8, .int .i64 s3.2.1), (9, .int .i64 s3.2.2.1), (10, .int .i64 s1.2.2.2.1), (31, .int .i64 s4), (32, .int .i64 s5), (170, .int .i64 (s3.2.2.2.2.1.Pending.length : Int)), (171, .int .i64 s4)] ⟨rfl, rfl, rfl, rfl, rfl, rfl, rfl, rfl, rfl, rfl, rfl, rfl, trivial⟩ ?_
          refine Run.slim [(3, u1), (4, u3), (6, u4), (7, .int .i64 s3.1), (8, .int .i64 s3.2.1), (9, .int .i64 s3.2.2.1), (10, .int .i64 s1.2.2.2.1), (31, .int .i64 s4), (32, .int .i64 s5), (170, .int .i64 (s3.2.2.2.2.1.Pending.length : Int)), (171, .int .i64 s4), (210, .bool false)] ⟨rfl, rfl, rfl, rfl, rfl, rfl, rfl, rfl, rfl, rfl, rfl, rfl, trivial⟩ ?_
          exact hj3 (false) _ _ ⟨rfl, (h64.facts .nil).picks (.cons (.s .z) (.cons .z (.cons .z .nil)))⟩ hF
       ·
        refine Run.exit rfl ?_
        refine Run.endBlock ?_
        refine Run.reg ?_
        refine op (OpS.bin rfl rfl rfl rfl rfl ?_)
        refine op (OpS.mv rfl rfl rfl ?_)
        refine RunL.nil ?_
        refine Run.slim [(171, .int .i64 (IntKind.i64.wrap (s4 + 1))), (3, u1), (4, u3), (6, u4), (7, .int .i64 s3.1), (8, .int .i64 s3.2.1), (9, .int .i64 s3.2.2.1), (10, .int .i64 s1.2.2.2.1), (170, .int .i64 (s3.2.2.2.2.1.Pending.length : Int))] ⟨rfl, rfl, rfl, rfl, rfl, rfl, rfl, rfl, rfl, trivial⟩ ?_
        refine Run.slim [(3, u1), (4, u3), (6, u4), (7, .int .i64 s3.1), (8, .int .i64 s3.2.1), (9, .int .i64 s3.2.2.1), (10, .int .i64 s1.2.2.2.1), (170, .int .i64 (s3.2.2.2.2.1.Pending.length : Int)), (171, .int .i64 (IntKind.i64.wrap (s4 + 1)))] ⟨rfl, rfl, rfl, rfl, rfl, rfl, rfl, rfl, rfl, trivial⟩ ?_
        exact hk2 ((IntKind.i64.wrap (s4 + 1))) _ _ ⟨rfl, (h20.facts .nil).picks (.cons .z (.cons .z (.cons .z .nil)))⟩ hF
      ·
       refine Run.exit rfl ?_
       refine Run.endBlock ?_
       refine Run.reg ?_
       refine op (OpS.mv rfl rfl rfl ?_)
       refine op (OpS.bin rfl rfl rfl rfl rfl ?_)
       refine op (OpS.as rfl rfl rfl ?_)
       obtain ⟨x8, e19, hF⟩ := letP_use hF
       refine RunL.name e19 ?_
       refine RunL.nil ?_
       refine Run.slim [(10, .int .i64 x8), (3, u1), (4, u3), (6, u4), (7, .int .i64 s3.1), (8, .int .i64 s3.2.1), (9, .int .i64 s3.2.2.1)] ⟨rfl, rfl, rfl, rfl, rfl, rfl, rfl, trivial⟩ ?_
       refine Run.slim [(3, u1), (4, u3), (6, u4), (7, .int .i64 s3.1), (8, .int .i64 s3.2.1), (9, .int .i64 s3.2.2.1), (10, .int .i64 x8)] ⟨rfl, rfl, rfl, rfl, rfl, rfl, rfl, trivial⟩ ?_
       exact hk1 (s3.1, s3.2.1, s3.2.2.1, x8, s3.2.2.2.1, s3.2.2.2.2.1, s3.2.2.2.2.2) _ _ ⟨rfl, (h19.facts .nil).picks (.cons .z (.cons .z (.cons .z .nil)))⟩ hF
     ·
      refine Run.ite rfl hF (fun e20 hF => ?_) (fun e20 hF => ?_)
      ·
       refine Run.seq ?_
       obtain ⟨y5, e21, hF⟩ := bindP_use hF
       obtain ⟨x9, e22, hF⟩ := bindP_use hF
       obtain ⟨y6, e23, hF⟩ := bindP_use hF
       refine Run.drawV (Ωs := [(true, .mp 63 (Rep.int .i64) u4 s1.2.2.2.2.2.2)]) [⟨some 58, none, fun u_ => [(false, .val Requester_.rep u_ s1.2.2.2.2.2.1)], fun ds_ u_ => [], [], [(1, [])], none⟩, ⟨some 59, none, fun u_ => [(true, .val (Rep.slice (Rep.int .u8)) u_ ([64, 65]))], fun ds_ u_ => [], [], [], none⟩, ⟨some 60, some (u1), fun _ => [], fun ds_ u_ => [], [], [], none⟩, ⟨some 61, some (.int .i64 y5.1), fun _ => [], fun ds_ u_ => [(false, .box 72 field_Codes.rep u1 y5.2)], [0], [], none⟩, ⟨some 62, none, fun u_ => [(true, .ptr (Rep.int .u8) u_ x9)], fun ds_ u_ => [], [], [], none⟩, ⟨some 63, some (.int .u8 x9), fun _ => [], fun ds_ u_ => [], [], [], none⟩, ⟨some 64, some (.int .i64 s1.2.2.2.1), fun _ => [], fun ds_ u_ => [], [], [], none⟩, ⟨some 65, some (.int .u8 (IntKind.u8.wrap s1.2.2.2.1)), fun _ => [], fun ds_ u_ => [], [], [], none⟩, ⟨some 66, some (.int .i64 s1.2.2.2.1), fun _ => [], fun ds_ u_ => [], [], [], none⟩, ⟨some 67, some (.int .u8 (IntKind.u8.wrap s1.2.2.2.1)), fun _ => [], fun ds_ u_ => [], [], [], none⟩, ⟨some 68, none, fun u_ => [(true, .val (Rep.slice (Rep.int .u8)) u_ ([(IntKind.u8.wrap s1.2.2.2.1), (IntKind.u8.wrap s1.2.2.2.1)]))], fun ds_ u_ => [], [], [], none⟩, ⟨some 69, some (.int .i64 s1.2.2.1), fun _ => [], fun ds_ u_ => [], [], [], none⟩, ⟨some 70, none, fun u_ => [(true, .eqv u_ (.tuple #[(tcomp u_ 0), (tcomp u_ 1), .int .i64 y6.2.2])), (false, .val Requester_.rep (tcomp u_ 0) y6.1), (true, .val (Rep.slice (Rep.int .u8)) (tcomp u_ 1) y6.2.1)], fun ds_ u_ => [], [], [], none⟩, ⟨some 57, none, fun u_ => [(true, .eqv u_ (.tuple #[(tcomp u_ 0), (tcomp u_ 1), .int .i64 y6.2.2])), (false, .val Requester_.rep (tcomp u_ 0) y6.1), (true, .val (Rep.slice (Rep.int .u8)) (tcomp u_ 1) y6.2.1)], fun ds_ u_ => [], [], [], none⟩, ⟨some 71, none, fun u_ => [(false, .val Requester_.rep u_ y6.1)], fun ds_ u_ => [], [], [], none⟩, ⟨some 72, none, fun u_ => [(true, .val (Rep.slice (Rep.int .u8)) u_ y6.2.1)], fun ds_ u_ => [], [], [], none⟩, ⟨some 73, some (.int .i64 y6.2.2), fun _ => [], fun ds_ u_ => [], [], [], none⟩, ⟨some 11, none, fun u_ => [], fun ds_ u_ => [(true, .box 26 Requester_.rep u_ Requester_.z)], [], [], none⟩, ⟨none, some undef, fun _ => [], fun ds_ u_ => [(false, .box 26 Requester_.rep (nth ds_ 0) y6.1)], [19], [], none⟩, ⟨some 12, none, fun u_ => [(true, .val (Rep.slice (Rep.int .u8)) u_ y6.2.1)], fun ds_ u_ => [], [], [], none⟩] [[], [], [], [2], [1, 3], [4], [], [6], [], [8], [7, 9], [], [0, 5, 10, 11], [12], [13], [13], [13], [], [17, 14], [15]] [[(false, .box 72 field_Codes.rep u1 y4.2)], [(false, .box 26 Requester_.rep u3 s1.2.2.2.2.2.1)]] [1, 2, 3, 4, 5, 6, 7, 8, 9, 10, 11, 12, 13, 14, 15, 16, 17, 18, 20, 21] Try_mixed rfl rfl rfl h16 (.cons ?_ (.cons ?_ (.cons ?_ (.cons ?_ (.cons ?_ (.cons ?_ (.cons ?_ (.cons ?_ (.cons ?_ (.cons ?_ (.cons ?_ (.cons ?_ (.cons ?_ (.cons ?_ (.cons ?_ (.cons ?_ (.cons ?_ (.cons ?_ (.cons ?_ (.cons ?_ .nil)))))))))))))))))))) (fun q2 w hq3 h => ?_)
       ·intro q2 w Γx Ωx h
        have h : St e w ([] ++ Γx) ([(false, .box 26 Requester_.rep u3 s1.2.2.2.2.2.1), (true, .mp 63 (Rep.int .i64) u4 s1.2.2.2.2.2.2)] ++ Ωx) := h
        refine OpS.loadB h .z PA.z Get.id ty26 rfl rfl rfl (fun u h78 => ?_)
        exact ⟨u, rfl, trivial, h78⟩
       ·intro q2 w Γx Ωx h
        refine OpS.lit (r := (Rep.int .u8)) (f := true) h Try.underlying22 ti5 rfl rfl rfl rfl rfl (.cons rfl V.int (.cons rfl V.int .nil)) rfl rfl (fun u w20 h79 => ?_)
        exact ⟨u, rfl, trivial, h79⟩
       ·intro q2 w Γx Ωx h
        refine OpS.mv rfl rfl rfl ?_
        exact ⟨undef, rfl, trivial, h⟩
       ·intro q2 w Γx Ωx h
        have h : St e w ([] ++ Γx) ([(false, .box 72 field_Codes.rep u1 y4.2), (true, .mp 63 (Rep.int .i64) u4 s1.2.2.2.2.2.2)] ++ Ωx) := h
        have h80 := h.front (.cons .z .nil)
        refine OpS.callO h80 Try.func14 rfl rfl rfl rfl (vs := [u1, .int .i64 2]) rfl (field_Codes_Next_ok e21) rfl .nil ?_
        rintro _ w21 _ _ _ ⟨rfl, rfl, rfl, rfl⟩ h81
        have h82 := h81
        simp only [List.cons_append, List.nil_append] at h82
        exact ⟨undef, rfl, trivial, h82⟩
       ·intro q2 w Γx Ωx h
        refine OpS.iptr h Try.underlying22 ty5 rfl rfl rfl rfl (V.at .z) e22 (fun u h83 => ?_)
        exact ⟨u, rfl, trivial, h83⟩
       ·intro q2 w Γx Ωx h
        refine OpS.loadi h ty5 rfl rfl rfl .z ?_
        exact ⟨undef, rfl, trivial, h⟩
       ·intro q2 w Γx Ωx h
        refine OpS.mv rfl rfl rfl ?_
        exact ⟨undef, rfl, trivial, h⟩
       ·intro q2 w Γx Ωx h
        refine OpS.conv Try.underlying3 Try.underlying5 rfl rfl rfl ?_
        exact ⟨undef, rfl, trivial, h⟩
       ·intro q2 w Γx Ωx h
        refine OpS.mv rfl rfl rfl ?_
        exact ⟨undef, rfl, trivial, h⟩
       ·intro q2 w Γx Ωx h
        refine OpS.conv Try.underlying3 Try.underlying5 rfl rfl rfl ?_
        exact ⟨undef, rfl, trivial, h⟩
       ·intro q2 w Γx Ωx h
        refine OpS.lit (r := (Rep.int .u8)) (f := true) h Try.underlying22 ti5 rfl rfl rfl rfl rfl (.cons rfl V.int (.cons rfl V.int .nil)) rfl rfl (fun u w22 h84 => ?_)
        exact ⟨u, rfl, trivial, h84⟩
       ·intro q2 w Γx Ωx h
        refine OpS.mv rfl rfl rfl ?_
        exact ⟨undef, rfl, trivial, h⟩
       ·intro q2 w Γx Ωx h
        have h85 := h.front .nil
        refine OpS.callO h85 Try.func10 rfl rfl rfl rfl (vs := [(q2 0), .int .u8 x9, .int .u8 6, .int .u8 1, (q2 10), .int .i64 s1.2.2.1]) rfl (exchange_Send_ok e23) rfl (.cons (f := false) (V.at .z) (.cons (f := true) (V.at (.s .z)) .nil)) ?_
        rintro _ w23 _ _ _ ⟨u8, u9, rfl, rfl, rfl, rfl⟩ h86
        have h87 := h86
        simp only [List.cons_append, List.nil_append] at h87
        exact ⟨_, rfl, trivial, St.eqv rfl h87⟩
       ·intro q2 w Γx Ωx h
        refine OpS.mv rfl rfl rfl ?_
        exact ⟨_, rfl, trivial, (((h.dup (.s (.s .z))).dup (.s (.s .z))).dup (.s (.s .z)))⟩
       ·intro q2 w Γx Ωx h
        refine OpS.extT h .z rfl rfl rfl rfl ?_
        exact ⟨_, rfl, trivial, (h.dup (.s .z))⟩
       ·intro q2 w Γx Ωx h
        refine OpS.extT h .z rfl rfl rfl rfl ?_
        exact ⟨_, rfl, trivial, (h.dup (.s (.s .z)))⟩
       ·intro q2 w Γx Ωx h
        refine OpS.extT h .z rfl rfl rfl rfl ?_
        exact ⟨undef, rfl, trivial, h⟩
       ·intro q2 w Γx Ωx h
        refine OpS.alloc h ti26 Requester_.zr rfl rfl (fun u w24 h88 => ?_)
        exact ⟨u, rfl, trivial, h88⟩
       ·intro q2 w Γx Ωx h
        have h : St e w ([(false, .val Requester_.rep (q2 14) y6.1)] ++ Γx) ([(true, .box 26 Requester_.rep (q2 17) Requester_.z), (true, .mp 63 (Rep.int .i64) u4 s1.2.2.2.2.2.2)] ++ Ωx) := h
        have h89 := (h.pick .z).weak
        refine OpS.storeB (f' := false) h89 .z PA.z Put.id ty26 rfl rfl rfl (V.at .z) (.inr rfl) (fun w25 h90 => ?_)
        exact ⟨undef, trivial, trivial, h90⟩
       ·intro q2 w Γx Ωx h
        refine OpS.as rfl rfl rfl ?_
        exact ⟨_, rfl, trivial, (h.dup .z)⟩
       have h91 : St e w [(false, .val Requester_.rep (q2 0) s1.2.2.2.2.2.1), (true, .val (Rep.slice (Rep.int .u8)) (q2 1) ([64, 65])), (true, .ptr (Rep.int .u8) (q2 4) x9), (true, .val (Rep.slice (Rep.int .u8)) (q2 10) ([(IntKind.u8.wrap s1.2.2.2.1), (IntKind.u8.wrap s1.2.2.2.1)])), (true, .eqv (q2 12) (.tuple #[(tcomp (q2 12) 0), (tcomp (q2 12) 1), .int .i64 y6.2.2])), (false, .val Requester_.rep (tcomp (q2 12) 0) y6.1), (true, .val (Rep.slice (Rep.int .u8)) (tcomp (q2 12) 1) y6.2.1), (true, .eqv (q2 13) (.tuple #[(tcomp (q2 13) 0), (tcomp (q2 13) 1), .int .i64 y6.2.2])), (false, .val Requester_.rep (tcomp (q2 13) 0) y6.1), (true, .val (Rep.slice (Rep.int .u8)) (tcomp (q2 13) 1) y6.2.1), (false, .val Requester_.rep (q2 14) y6.1), (true, .val (Rep.slice (Rep.int .u8)) (q2 15) y6.2.1), (true, .val (Rep.slice (Rep.int .u8)) (q2 19) y6.2.1)] [(false, .box 26 Requester_.rep u3 s1.2.2.2.2.2.1), (false, .box 72 field_Codes.rep u1 y5.2), (false, .box 26 Requester_.rep (q2 17) y6.1), (true, .mp 63 (Rep.int .i64) u4 s1.2.2.2.2.2.2)] := h
       refine op (OpS.as rfl rfl rfl ?_)
       refine RunL.nil ?_
       refine Run.slim [(13, .int .i64 y6.2.2), (11, (q2 17)), (12, (q2 19)), (3, u1), (4, u3), (6, u4), (7, .int .i64 s1.1), (8, .int .i64 s1.2.1), (9, .int .i64 s1.2.2.1), (10, .int .i64 s1.2.2.2.1)] ⟨rfl, rfl, rfl, rfl, rfl, rfl, rfl, rfl, rfl, rfl, trivial⟩ ?_
       refine Run.seq ?_
       refine Run.reg ?_
       refine op (OpS.mv rfl rfl rfl ?_)
       refine op (OpS.bin rfl rfl rfl rfl rfl ?_)
       refine RunL.nil ?_
       refine Run.slim [(75, .bool (y6.2.2 == 0)), (13, .int .i64 y6.2.2), (11, (q2 17)), (12, (q2 19)), (3, u1), (4, u3), (6, u4), (7, .int .i64 s1.1), (8, .int .i64 s1.2.1), (9, .int .i64 s1.2.2.1), (10, .int .i64 s1.2.2.2.1)] ⟨rfl, rfl, rfl, rfl, rfl, rfl, rfl, rfl, rfl, rfl, rfl, trivial⟩ ?_
       refine Run.ite rfl hF (fun e24 hF => ?_) (fun e24 hF => ?_)
       ·
        refine Run.seq ?_
        refine Run.reg ?_
        refine op (OpS.loadB h91 (.s (.s .z)) PA.z Get.id ty26 rfl rfl rfl (fun u10 h92 => ?_))
        refine op (OpS.mv rfl rfl rfl ?_)
        refine op (OpS.bin rfl rfl rfl rfl rfl ?_)
        refine op (OpS.storeB (f' := false) h92 .z PA.z Put.id ty26 rfl rfl rfl (V.at .z) (.inr rfl) (fun w26 h93 => ?_))
        refine op (OpS.as rfl rfl rfl ?_)
        obtain ⟨x10, e25, hF⟩ := letP_use hF
        refine RunL.name e25 ?_
        refine RunL.nil ?_
        refine Run.slim [(8, .int .i64 x10), (12, (q2 19)), (3, u1), (4, u3), (6, u4), (7, .int .i64 s1.1), (9, .int .i64 s1.2.2.1), (10, .int .i64 s1.2.2.2.1)] ⟨rfl, rfl, rfl, rfl, rfl, rfl, rfl, rfl, trivial⟩ ?_
        refine Run.reg ?_
        refine op (OpS.mv rfl rfl rfl ?_)
        refine op (OpS.mv rfl rfl rfl ?_)
        refine op (OpS.toStr h93 Try.underlying22 Try.underlying5 Try.underlying9 rfl rfl rfl (V.at (.s (.s (.s (.s (.s (.s (.s (.s (.s (.s (.s (.s (.s .z)))))))))))))) (fun u11 h94 => ?_))
        refine op (OpS.mlookI h94 (.s (.s (.s .z))) Try.underlying63 Try.underlying9 ti3 rfl rfl rfl rfl (V.at .z) ?_)
        refine op (OpS.bin rfl rfl rfl rfl rfl ?_)
        obtain ⟨d1, e26, hF⟩ := letP_use hF
        refine op (OpS.mupd (f' := true) h94 (.s (.s (.s .z))) Try.underlying63 Try.underlying9 rfl rfl rfl rfl (V.at .z) V.int (.inl rfl) e26 (fun w27 h95 => ?_))
        refine RunL.nil ?_
        refine Run.slim [(8, .int .i64 x10), (3, u1), (4, u3), (6, u4), (7, .int .i64 s1.1), (9, .int .i64 s1.2.2.1), (10, .int .i64 s1.2.2.2.1)] ⟨rfl, rfl, rfl, rfl, rfl, rfl, rfl, trivial⟩ ?_
        refine Run.slim [(3, u1), (4, u3), (6, u4), (7, .int .i64 s1.1), (8, .int .i64 x10), (9, .int .i64 s1.2.2.1), (10, .int .i64 s1.2.2.2.1)] ⟨rfl, rfl, rfl, rfl, rfl, rfl, rfl, trivial⟩ ?_
        exact hj2 (s1.1, x10, s1.2.2.1, y5.2, y6.1, d1) _ _ ⟨rfl, (h95.facts .nil).picks (.cons (.s (.s .z)) (.cons (.s .z) (.cons .z .nil)))⟩ hF
       ·
        refine Run.seq ?_
        refine Run.reg ?_
        refine op (OpS.mv rfl rfl rfl ?_)
        refine op (OpS.bin rfl rfl rfl rfl rfl ?_)
        refine RunL.nil ?_
        refine Run.slim [(85, .bool (y6.2.2 != 9)), (3, u1), (4, u3), (6, u4), (7, .int .i64 s1.1), (8, .int .i64 s1.2.1), (9, .int .i64 s1.2.2.1), (10, .int .i64 s1.2.2.2.1)] ⟨rfl, rfl, rfl, rfl, rfl, rfl, rfl, rfl, trivial⟩ ?_
        refine Run.ite rfl hF (fun e27 hF => ?_) (fun e27 hF => ?_)
        ·
         refine Run.seq ?_
         refine Run.reg ?_
         refine op (OpS.as rfl rfl rfl ?_)
         refine RunL.nil ?_
         refine Run.slim [(2, .bool false)] ⟨rfl, trivial⟩ ?_
         refine Run.retP rfl (.tmp rfl .nil) ?_
         cases hF
         exact Post.mk' ⟨rfl, rfl, rfl, rfl⟩ (h91.picks .nil) .nil
        ·
         refine Run.skip ?_
         refine Run.slim [(3, u1), (4, u3), (6, u4), (7, .int .i64 s1.1), (8, .int .i64 s1.2.1), (9, .int .i64 s1.2.2.1), (10, .int .i64 s1.2.2.2.1)] ⟨rfl, rfl, rfl, rfl, rfl, rfl, rfl, trivial⟩ ?_
         exact hj2 (s1.1, s1.2.1, s1.2.2.1, y5.2, s1.2.2.2.2.2.1, s1.2.2.2.2.2.2) _ _ ⟨rfl, (h91.facts .nil).picks (.cons (.s .z) (.cons .z (.cons (.s .z) .nil)))⟩ hF
      ·
       refine Run.seq ?_
       refine Run.reg ?_
       refine op (OpS.bin rfl rfl rfl rfl rfl ?_)
       refine op (OpS.as rfl rfl rfl ?_)
       obtain ⟨x11, e28, hF⟩ := letP_use hF
       refine RunL.nameb e28 ?_
       refine RunL.nil ?_
       refine Run.slim [(86, .bool x11), (3, u1), (4, u3), (6, u4), (7, .int .i64 s1.1), (8, .int .i64 s1.2.1), (9, .int .i64 s1.2.2.1), (10, .int .i64 s1.2.2.2.1), (53, .int .i64 y4.1)] ⟨rfl, rfl, rfl, rfl, rfl, rfl, rfl, rfl, rfl, trivial⟩ ?_
       refine Run.ite rfl hF (fun e29 hF => ?_) (fun e29 hF => ?_)
       ·
        refine Run.seq ?_
        refine Run.reg ?_
        refine op (OpS.mv rfl rfl rfl ?_)
        refine op (OpS.mv rfl rfl rfl ?_)
        obtain ⟨y7, e30, hF⟩ := bindP_use hF
        have h96 := h16.front (.cons .z .nil)
        refine op (OpS.callO h96 Try.func14 rfl rfl rfl rfl (vs := [u1, .int .i64 30]) rfl (field_Codes_Next_ok e30) rfl .nil ?_)
        rintro _ w28 _ _ _ ⟨rfl, rfl, rfl, rfl⟩ h97
        have h98 := h97
        simp only [List.cons_append, List.nil_append] at h98
        refine op (OpS.bin rfl rfl rfl rfl rfl ?_)
        refine op (OpS.as rfl rfl rfl ?_)
        obtain ⟨x12, e31, hF⟩ := letP_use hF
        refine RunL.name e31 ?_
        refine RunL.nil ?_
        refine Run.slim [(9, .int .i64 x12), (3, u1), (4, u3), (6, u4), (7, .int .i64 s1.1), (8, .int .i64 s1.2.1), (10, .int .i64 s1.2.2.2.1)] ⟨rfl, rfl, rfl, rfl, rfl, rfl, rfl, trivial⟩ ?_
        refine Run.seq ?_
        refine Run.reg ?_
        refine op (OpS.loadB h98 (.s .z) PA.z Get.id ty26 rfl rfl rfl (fun u12 h99 => ?_))
        refine op (OpS.mv rfl rfl rfl ?_)
        obtain ⟨y8, e32, hF⟩ := bindP_use hF
        have h100 := h99.front .nil
        refine op (OpS.callO h100 Try.func11 rfl rfl rfl rfl (vs := [u12, .int .i64 x12]) rfl (exchange_Tick_ok e32) rfl (.cons (f := false) (V.at .z) .nil) ?_)
        rintro _ w29 _ _ _ ⟨u13, u14, u15, rfl, rfl, rfl, rfl⟩ h101
        have h102 := h101
        simp only [List.cons_append, List.nil_append] at h102
        refine op (OpS.mv rfl rfl rfl ?_)
        refine op (OpS.ext rfl rfl rfl rfl ?_)
        refine op (OpS.ext rfl rfl rfl rfl ?_)
        refine op (OpS.ext rfl rfl rfl rfl ?_)
        refine op (OpS.alloc h102 ti26 Requester_.zr rfl rfl (fun u16 w30 h103 => ?_))
        have h104 := (h103.pick .z).weak
        refine op (OpS.storeB (f' := false) h104 .z PA.z Put.id ty26 rfl rfl rfl (V.at .z) (.inr rfl) (fun w31 h105 => ?_))
        refine op (OpS.as rfl rfl rfl ?_)
        have h106 := (h105.pick (.s .z)).freeze
        refine op (OpS.as rfl rfl rfl ?_)
        have h107 := (h106.pick (.s .z)).freeze
        refine RunL.nil ?_
        refine Run.slim [(16, u15), (15, u14), (14, u16), (9, .int .i64 x12), (3, u1), (4, u3), (6, u4), (7, .int .i64 s1.1), (8, .int .i64 s1.2.1), (10, .int .i64 s1.2.2.2.1)] ⟨rfl, rfl, rfl, rfl, rfl, rfl, rfl, rfl, rfl, rfl, trivial⟩ ?_
        refine Run.seq ?_
        refine Run.reg ?_
        refine op (OpS.loadB h107 .z PA.z Get.id ty26 rfl rfl rfl (fun u17 h108 => ?_))
        refine op (OpS.mv rfl rfl rfl ?_)
        refine op (OpS.mv rfl rfl rfl ?_)
        refine op (OpS.len h108 Try.underlying34 rfl rfl rfl (V.at (.s .z)) ?_)
        refine op (OpS.bin rfl rfl rfl rfl rfl ?_)
        refine op (OpS.storeB (f' := false) h108 (.s (.s .z)) PA.z Put.id ty26 rfl rfl rfl (V.at .z) (.inr rfl) (fun w32 h109 => ?_))
        refine op (OpS.as rfl rfl rfl ?_)
        obtain ⟨x13, e33, hF⟩ := letP_use hF
        refine RunL.name e33 ?_
        refine RunL.nil ?_
        refine Run.slim [(7, .int .i64 x13), (15, u14), (9, .int .i64 x12), (3, u1), (4, u3), (6, u4), (8, .int .i64 s1.2.1), (10, .int .i64 s1.2.2.2.1)] ⟨rfl, rfl, rfl, rfl, rfl, rfl, rfl, rfl, trivial⟩ ?_
        refine Run.seq ?_
        refine Run.reg ?_
        refine op (OpS.mv rfl rfl rfl ?_)
        refine op (OpS.len h109 Try.underlying33 rfl rfl rfl (V.at (.s (.s .z))) ?_)
        refine op (OpS.mv rfl rfl rfl ?_)
        refine RunL.nil ?_
        refine Run.slim [(106, .int .i64 0), (105, .int .i64 (y8.2.1.length : Int)), (104, u14), (7, .int .i64 x13), (9, .int .i64 x12), (3, u1), (4, u3), (6, u4), (8, .int .i64 s1.2.1), (10, .int .i64 s1.2.2.2.1)] ⟨rfl, rfl, rfl, rfl, rfl, rfl, rfl, rfl, rfl, rfl, trivial⟩ ?_
        refine Run.block ?_
        refine Run.slim [(3, u1), (4, u3), (6, u4), (7, .int .i64 x13), (8, .int .i64 s1.2.1), (9, .int .i64 x12), (10, .int .i64 s1.2.2.2.1), (104, u14), (105, .int .i64 (y8.2.1.length : Int)), (106, .int .i64 0)] ⟨rfl, rfl, rfl, rfl, rfl, rfl, rfl, rfl, rfl, rfl, trivial⟩ ?_
        refine Run.loopP (σ := (Int × (List (List Int × Int)))) (fun s_ L_ w_ => L_ = [(3, u1), (4, u3), (6, u4), (7, .int .i64 x13), (8, .int .i64 s1.2.1), (9, .int .i64 x12), (10, .int .i64 s1.2.2.2.1), (104, u14), (105, .int .i64 (y8.2.1.length : Int)), (106, .int .i64 s_.1)] ∧ St e w_ [(true, .val (Rep.slice (Rep.slice (Rep.int .u8))) u14 y8.2.1)] [(false, .box 72 field_Codes.rep u1 y7.2), (false, .box 26 Requester_.rep u3 y8.1), (true, .mp 63 (Rep.int .i64) u4 s_.2)]) hF ⟨rfl, (h109.facts (.atm (.s (.s .z)) .nil)).picks (.cons (.s (.s .z)) (.cons .z (.cons (.s .z) .nil)))⟩ (fun k4 hk4 s7 _ w33 hI hF => ?_)
        obtain ⟨rfl, h110⟩ := hI
        refine Run.seq ?_
        refine Run.reg ?_
        refine op (OpS.bin rfl rfl rfl rfl rfl ?_)
        refine RunL.nil ?_
        refine Run.seq ?_
        refine Run.ite rfl hF (fun e34 hF => ?_) (fun e34 hF => ?_)
        ·
         refine Run.skip ?_
         refine Run.seq ?_
         refine Run.block ?_
         refine Run.seq ?_
         refine Run.reg ?_
         obtain ⟨x14, e35, hF⟩ := bindP_use hF
         refine op (OpS.iptr h110 Try.underlying33 ty22 rfl rfl rfl rfl (V.at .z) e35 (fun u18 h111 => ?_))
         refine op (OpS.load h111 ty22 rfl rfl rfl .z (fun u19 h112 => ?_))
         refine op (OpS.as rfl rfl rfl ?_)
         refine RunL.nil ?_
         refine Run.slim [(18, u19), (3, u1), (4, u3), (6, u4), (7, .int .i64 x13), (8, .int .i64 s1.2.1), (9, .int .i64 x12), (10, .int .i64 s1.2.2.2.1), (104, u14), (105, .int .i64 (y8.2.1.length : Int)), (106, .int .i64 s7.1)] ⟨rfl, rfl, rfl, rfl, rfl, rfl, rfl, rfl, rfl, rfl, rfl, trivial⟩ ?_
         refine Run.seq ?_
         refine Run.reg ?_
         refine op (OpS.mv rfl rfl rfl ?_)
         refine op (OpS.mv rfl rfl rfl ?_)
         refine op (OpS.toStr h112 Try.underlying22 Try.underlying5 Try.underlying9 rfl rfl rfl (V.at .z) (fun u20 h113 => ?_))
         refine op (OpS.mlookI h113 (.s (.s .z)) Try.underlying63 Try.underlying9 ti3 rfl rfl rfl rfl (V.at .z) ?_)
         refine op (OpS.bin rfl rfl rfl rfl rfl ?_)
         obtain ⟨d2, e36, hF⟩ := letP_use hF
         refine op (OpS.mupd (f' := true) h113 (.s (.s .z)) Try.underlying63 Try.underlying9 rfl rfl rfl rfl (V.at .z) V.int (.inl rfl) e36 (fun w34 h114 => ?_))
         refine RunL.nil ?_
         refine Run.slim [(18, u19), (3, u1), (4, u3), (6, u4), (7, .int .i64 x13), (8, .int .i64 s1.2.1), (9, .int .i64 x12), (10, .int .i64 s1.2.2.2.1), (104, u14), (105, .int .i64 (y8.2.1.length : Int)), (106, .int .i64 s7.1)] ⟨rfl, rfl, rfl, rfl, rfl, rfl, rfl, rfl, rfl, rfl, rfl, trivial⟩ ?_
         refine Run.seq ?_
         refine Run.reg ?_
         refine op (OpS.mv rfl rfl rfl ?_)
         refine op (OpS.mv rfl rfl rfl ?_)
         refine op (OpS.toStr h114 Try.underlying22 Try.underlying5 Try.underlying9 rfl rfl rfl (V.at (.s .z)) (fun u21 h115 => ?_))
         refine op (OpS.mlookI h115 .z Try.underlying63 Try.underlying9 ti3 rfl rfl rfl rfl (V.at .z) ?_)
         refine op (OpS.bin rfl rfl rfl rfl rfl ?_)
         refine RunL.nil ?_
         refine Run.slim [(119, .bool (decide ((mget 0 d2 (toStr x14)) > 3))), (3, u1), (4, u3), (6, u4), (7, .int .i64 x13), (8, .int .i64 s1.2.1), (9, .int .i64 x12), (10, .int .i64 s1.2.2.2.1), (104, u14), (105, .int .i64 (y8.2.1.length : Int)), (106, .int .i64 s7.1)] ⟨rfl, rfl, rfl, rfl, rfl, rfl, rfl, rfl, rfl, rfl, rfl, trivial⟩ ?_
         refine Run.ite rfl hF (fun e37 hF => ?_) (fun e37 hF => ?_)
         ·
          refine Run.seq ?_
          refine Run.reg ?_
          refine op (OpS.as rfl rfl rfl ?_)
          refine RunL.nil ?_
          refine Run.slim [(2, .bool false)] ⟨rfl, trivial⟩ ?_
          refine Run.retP rfl (.tmp rfl .nil) ?_
          cases hF
          exact Post.mk' ⟨rfl, rfl, rfl, rfl⟩ (h115.picks .nil) .nil
         ·
          refine Run.skip ?_
          refine Run.endBlock ?_
          refine Run.reg ?_
          refine op (OpS.bin rfl rfl rfl rfl rfl ?_)
          refine op (OpS.mv rfl rfl rfl ?_)
          refine RunL.nil ?_
          refine Run.slim [(106, .int .i64 (IntKind.i64.wrap (s7.1 + 1))), (3, u1), (4, u3), (6, u4), (7, .int .i64 x13), (8, .int .i64 s1.2.1), (9, .int .i64 x12), (10, .int .i64 s1.2.2.2.1), (104, u14), (105, .int .i64 (y8.2.1.length : Int))] ⟨rfl, rfl, rfl, rfl, rfl, rfl, rfl, rfl, rfl, rfl, trivial⟩ ?_
          refine Run.slim [(3, u1), (4, u3), (6, u4), (7, .int .i64 x13), (8, .int .i64 s1.2.1), (9, .int .i64 x12), (10, .int .i64 s1.2.2.2.1), (104, u14), (105, .int .i64 (y8.2.1.length : Int)), (106, .int .i64 (IntKind.i64.wrap (s7.1 + 1)))] ⟨rfl, rfl, rfl, rfl, rfl, rfl, rfl, rfl, rfl, rfl, trivial⟩ ?_
          exact hk4 ((IntKind.i64.wrap (s7.1 + 1)), d2) _ _ ⟨rfl, (h115.facts (.atm (.s (.s (.s (.s .z)))) .nil)).picks (.cons (.s .z) (.cons (.s .z) (.cons .z .nil)))⟩ hF
        ·
         refine Run.exit rfl ?_
         refine Run.slim [(3, u1), (4, u3), (6, u4), (7, .int .i64 x13), (8, .int .i64 s1.2.1), (9, .int .i64 x12), (10, .int .i64 s1.2.2.2.1)] ⟨rfl, rfl, rfl, rfl, rfl, rfl, rfl, trivial⟩ ?_
         exact hj2 (x13, s1.2.1, x12, y7.2, y8.1, s7.2) _ _ ⟨rfl, (h110.facts .nil).picks (.cons .z (.cons .z (.cons .z .nil)))⟩ hF
       ·
        refine Run.seq ?_
        refine Run.reg ?_
        refine op (OpS.bin rfl rfl rfl rfl rfl ?_)
        refine op (OpS.as rfl rfl rfl ?_)
        obtain ⟨x15, e38, hF⟩ := letP_use hF
        refine RunL.nameb e38 ?_
        refine RunL.nil ?_
        refine Run.slim [(121, .bool x15), (3, u1), (4, u3), (6, u4), (7, .int .i64 s1.1), (8, .int .i64 s1.2.1), (9, .int .i64 s1.2.2.1), (10, .int .i64 s1.2.2.2.1)] ⟨rfl, rfl, rfl, rfl, rfl, rfl, rfl, rfl, trivial⟩ ?_
        refine Run.ite rfl hF (fun e39 hF => ?_) (fun e39 hF => ?_)
        ·
         refine Run.seq ?_
         refine Run.reg ?_
         refine op (OpS.fbox (o3 := 2) h16 (.s .z) PA.z fa26_2 rfl rfl rfl rfl ?_)
         refine op (OpS.loadB h16 (.s .z) PA.a (Get.fld Requester_.f2) ty24 rfl rfl rfl (fun u22 h116 => ?_))
         refine op (OpS.len h116 Try.underlying24 rfl rfl rfl (V.at .z) ?_)
         refine op (OpS.bin rfl rfl rfl rfl rfl ?_)
         refine RunL.nil ?_
         refine Run.slim [(126, .bool (decide ((s1.2.2.2.2.2.1.Pending.length : Int) > 0))), (3, u1), (4, u3), (6, u4), (7, .int .i64 s1.1), (8, .int .i64 s1.2.1), (9, .int .i64 s1.2.2.1), (10, .int .i64 s1.2.2.2.1)] ⟨rfl, rfl, rfl, rfl, rfl, rfl, rfl, rfl, trivial⟩ ?_
         refine Run.ite rfl hF (fun e40 hF => ?_) (fun e40 hF => ?_)
         ·
          refine Run.seq ?_
          obtain ⟨y9, e41, hF⟩ := bindP_use hF
          obtain ⟨x16, e42, hF⟩ := bindP_use hF
          obtain ⟨y10, e43, hF⟩ := bindP_use hF
          refine Run.drawV (Ωs := [(true, .mp 63 (Rep.int .i64) u4 s1.2.2.2.2.2.2)]) [⟨some 128, some ((padd u3 2)), fun _ => [], fun ds_ u_ => [], [], [(1, [])], none⟩, ⟨some 129, none, fun u_ => [(false, .val (Rep.slice Pending_.rep) u_ s1.2.2.2.2.2.1.Pending)], fun ds_ u_ => [], [], [(1, [])], none⟩, ⟨some 130, some (u1), fun _ => [], fun ds_ u_ => [], [], [], none⟩, ⟨some 131, some ((padd u3 2)), fun _ => [], fun ds_ u_ => [], [], [(1, [])], none⟩, ⟨some 132, none, fun u_ => [(false, .val (Rep.slice Pending_.rep) u_ s1.2.2.2.2.2.1.Pending)], fun ds_ u_ => [], [], [(1, [])], none⟩, ⟨some 133, some (.int .i64 (s1.2.2.2.2.2.1.Pending.length : Int)), fun _ => [], fun ds_ u_ => [], [], [], none⟩, ⟨some 134, some (.int .i64 y9.1), fun _ => [], fun ds_ u_ => [(false, .box 72 field_Codes.rep u1 y9.2)], [0], [], none⟩, ⟨some 135, none, fun u_ => [(false, .ptr Pending_.rep u_ x16)], fun ds_ u_ => [], [], [], none⟩, ⟨some 136, none, fun u_ => [(false, .ptr Message_.rep u_ x16.Request)], fun ds_ u_ => [], [], [], none⟩, ⟨some 137, none, fun u_ => [(false, .val Message_.rep u_ x16.Request)], fun ds_ u_ => [], [], [], none⟩, ⟨some 138, none, fun u_ => [(true, .eqv u_ (.tuple #[(tcomp u_ 0), .int .i64 y10.2])), (true, .val Message_.rep (tcomp u_ 0) y10.1)], fun ds_ u_ => [], [], [], none⟩, ⟨some 127, none, fun u_ => [(true, .eqv u_ (.tuple #[(tcomp u_ 0), .int .i64 y10.2])), (true, .val Message_.rep (tcomp u_ 0) y10.1)], fun ds_ u_ => [], [], [], none⟩, ⟨some 139, none, fun u_ => [(true, .val Message_.rep u_ y10.1)], fun ds_ u_ => [], [], [], none⟩, ⟨some 140, some (.int .i64 y10.2), fun _ => [], fun ds_ u_ => [], [], [], none⟩, ⟨some 19, none, fun u_ => [], fun ds_ u_ => [(true, .box 51 Message_.rep u_ Message_.z)], [], [], none⟩, ⟨none, some undef, fun _ => [], fun ds_ u_ => [(true, .box 51 Message_.rep (nth ds_ 0) y10.1)], [16], [], none⟩] [[], [0], [], [], [3], [4], [2, 5], [1, 6], [7], [8], [9], [10], [11], [11], [], [14, 12]] [[(false, .box 72 field_Codes.rep u1 y4.2)], [(false, .box 26 Requester_.rep u3 s1.2.2.2.2.2.1)]] [1, 2, 3, 4, 5, 6, 7, 8, 9, 10, 11, 12, 13, 14, 15, 17] Try_mixed rfl rfl rfl h116 (.cons ?_ (.cons ?_ (.cons ?_ (.cons ?_ (.cons ?_ (.cons ?_ (.cons ?_ (.cons ?_ (.cons ?_ (.cons ?_ (.cons ?_ (.cons ?_ (.cons ?_ (.cons ?_ (.cons ?_ (.cons ?_ .nil)))))))))))))))) (fun q3 w hq4 h => ?_)
          ·intro q3 w Γx Ωx h
           have h : St e w ([(false, .val (Rep.slice Pending_.rep) u22 s1.2.2.2.2.2.1.Pending)] ++ Γx) ([(false, .box 26 Requester_.rep u3 s1.2.2.2.2.2.1), (true, .mp 63 (Rep.int .i64) u4 s1.2.2.2.2.2.2)] ++ Ωx) := h
           refine OpS.fbox (o3 := 2) h .z PA.z fa26_2 rfl rfl rfl rfl ?_
           exact ⟨undef, rfl, trivial, h⟩
          ·intro q3 w Γx Ωx h
           have h : St e w ([(false, .val (Rep.slice Pending_.rep) u22 s1.2.2.2.2.2.1.Pending)] ++ Γx) ([(false, .box 26 Requester_.rep u3 s1.2.2.2.2.2.1), (true, .mp 63 (Rep.int .i64) u4 s1.2.2.2.2.2.2)] ++ Ωx) := h
           refine OpS.loadB h .z PA.a (Get.fld Requester_.f2) ty24 rfl rfl rfl (fun u h129 => ?_)
           exact ⟨u, rfl, trivial, h129⟩
          ·intro q3 w Γx Ωx h
           refine OpS.mv rfl rfl rfl ?_
           exact ⟨undef, rfl, trivial, h⟩
          ·intro q3 w Γx Ωx h
           have h : St e w ([(false, .val (Rep.slice Pending_.rep) u22 s1.2.2.2.2.2.1.Pending)] ++ Γx) ([(false, .box 26 Requester_.rep u3 s1.2.2.2.2.2.1), (true, .mp 63 (Rep.int .i64) u4 s1.2.2.2.2.2.2)] ++ Ωx) := h
           refine OpS.fbox (o3 := 2) h .z PA.z fa26_2 rfl rfl rfl rfl ?_
           exact ⟨undef, rfl, trivial, h⟩
          ·intro q3 w Γx Ωx h
           have h : St e w ([(false, .val (Rep.slice Pending_.rep) u22 s1.2.2.2.2.2.1.Pending)] ++ Γx) ([(false, .box 26 Requester_.rep u3 s1.2.2.2.2.2.1), (true, .mp 63 (Rep.int .i64) u4 s1.2.2.2.2.2.2)] ++ Ωx) := h
           refine OpS.loadB h .z PA.a (Get.fld Requester_.f2) ty24 rfl rfl rfl (fun u h130 => ?_)
           exact ⟨u, rfl, trivial, h130⟩
          ·intro q3 w Γx Ωx h
           refine OpS.len h Try.underlying24 rfl rfl rfl (V.at .z) ?_
           exact ⟨undef, rfl, trivial, h⟩
          ·intro q3 w Γx Ωx h
           have h : St e w ([(false, .val (Rep.slice Pending_.rep) u22 s1.2.2.2.2.2.1.Pending)] ++ Γx) ([(false, .box 72 field_Codes.rep u1 y4.2), (true, .mp 63 (Rep.int .i64) u4 s1.2.2.2.2.2.2)] ++ Ωx) := h
           have h131 := h.front (.cons .z .nil)
           refine OpS.callO h131 Try.func14 rfl rfl rfl rfl (vs := [u1, .int .i64 (s1.2.2.2.2.2.1.Pending.length : Int)]) rfl (field_Codes_Next_ok e41) rfl .nil ?_
           rintro _ w39 _ _ _ ⟨rfl, rfl, rfl, rfl⟩ h132
           have h133 := h132
           simp only [List.cons_append, List.nil_append] at h133
           exact ⟨undef, rfl, trivial, h133⟩
          ·intro q3 w Γx Ωx h
           refine OpS.iptr h Try.underlying24 ty55 rfl rfl rfl rfl (V.at .z) e42 (fun u h134 => ?_)
           exact ⟨u, rfl, trivial, h134⟩
          ·intro q3 w Γx Ωx h
           refine OpS.fptr h fa55_0 Pending_.f0 rfl rfl rfl .z (fun u h135 => ?_)
           exact ⟨u, rfl, trivial, h135⟩
          ·intro q3 w Γx Ωx h
           refine OpS.load h ty51 rfl rfl rfl .z (fun u h136 => ?_)
           exact ⟨u, rfl, trivial, h136⟩
          ·intro q3 w Γx Ωx h
           refine OpS.callP h Try.func31 rfl rfl rfl rfl (vs := [(q3 9), .int .u8 0, .slice none 0 0]) rfl (message_Reply_ok e43) (.cons (f := false) (V.at .z) (.cons (f := true) V.nil .nil)) ?_
           rintro _ w40 _ _ _ ⟨u24, rfl, rfl, rfl, rfl⟩ h137
           have h138 := h137 rfl rfl
           simp only [List.cons_append, List.nil_append] at h138
           exact ⟨_, rfl, trivial, St.eqv rfl h138⟩
          ·intro q3 w Γx Ωx h
           refine OpS.mv rfl rfl rfl ?_
           exact ⟨_, rfl, trivial, ((h.dup (.s .z)).dup (.s .z))⟩
          ·intro q3 w Γx Ωx h
           refine OpS.extT h .z rfl rfl rfl rfl ?_
           exact ⟨_, rfl, trivial, (h.dup (.s .z))⟩
          ·intro q3 w Γx Ωx h
           refine OpS.extT h .z rfl rfl rfl rfl ?_
           exact ⟨undef, rfl, trivial, h⟩
          ·intro q3 w Γx Ωx h
           refine OpS.alloc h ti51 Message_.zr rfl rfl (fun u w41 h139 => ?_)
           exact ⟨u, rfl, trivial, h139⟩
          ·intro q3 w Γx Ωx h
           have h : St e w ([(true, .val Message_.rep (q3 12) y10.1), (false, .val (Rep.slice Pending_.rep) u22 s1.2.2.2.2.2.1.Pending)] ++ Γx) ([(true, .box 51 Message_.rep (q3 14) Message_.z), (true, .mp 63 (Rep.int .i64) u4 s1.2.2.2.2.2.2)] ++ Ωx) := h
           refine OpS.storeB (f' := true) h .z PA.z Put.id ty51 rfl rfl rfl (V.at .z) (.inl rfl) (fun w42 h140 => ?_)
           exact ⟨undef, trivial, trivial, h140⟩
          have h141 : St e w [(false, .val (Rep.slice Pending_.rep) (q3 1) s1.2.2.2.2.2.1.Pending), (false, .val (Rep.slice Pending_.rep) (q3 4) s1.2.2.2.2.2.1.Pending), (false, .ptr Pending_.rep (q3 7) x16), (false, .ptr Message_.rep (q3 8) x16.Request), (false, .val Message_.rep (q3 9) x16.Request), (true, .eqv (q3 10) (.tuple #[(tcomp (q3 10) 0), .int .i64 y10.2])), (true, .val Message_.rep (tcomp (q3 10) 0) y10.1), (true, .eqv (q3 11) (.tuple #[(tcomp (q3 11) 0), .int .i64 y10.2])), (true, .val Message_.rep (tcomp (q3 11) 0) y10.1), (true, .val Message_.rep (q3 12) y10.1), (false, .val (Rep.slice Pending_.rep) u22 s1.2.2.2.2.2.1.Pending)] [(false, .box 26 Requester_.rep u3 s1.2.2.2.2.2.1), (false, .box 72 field_Codes.rep u1 y9.2), (true, .box 51 Message_.rep (q3 14) y10.1), (true, .mp 63 (Rep.int .i64) u4 s1.2.2.2.2.2.2)] := h
          refine op (OpS.as rfl rfl rfl ?_)
          refine RunL.nil ?_
          refine Run.slim [(19, (q3 14)), (3, u1), (4, u3), (6, u4), (7, .int .i64 s1.1), (8, .int .i64 s1.2.1), (9, .int .i64 s1.2.2.1), (10, .int .i64 s1.2.2.2.1)] ⟨rfl, rfl, rfl, rfl, rfl, rfl, rfl, rfl, trivial⟩ ?_
          refine Run.seq ?_
          refine Run.reg ?_
          refine op (OpS.loadB h141 (.s (.s .z)) PA.z Get.id ty51 rfl rfl rfl (fun u25 h142 => ?_))
          obtain ⟨y11, e44, hF⟩ := bindP_use hF
          refine op (OpS.callP h142 Try.func32 rfl rfl rfl rfl (vs := [u25]) rfl (message_Response_ok e44) (.cons (f := true) (V.at .z) .nil) ?_)
          rintro _ w43 _ _ _ ⟨u26, rfl, rfl, rfl, rfl⟩ h143
          have h144 := h143 rfl rfl
          simp only [List.cons_append, List.nil_append] at h144
          refine op (OpS.mv rfl rfl rfl ?_)
          refine op (OpS.ext rfl rfl rfl rfl ?_)
          refine op (OpS.ext rfl rfl rfl rfl ?_)
          refine op (OpS.as rfl rfl rfl ?_)
          have h145 := (h144.pick .z).freeze
          refine op (OpS.as rfl rfl rfl ?_)
          refine RunL.nil ?_
          refine Run.slim [(21, u26), (3, u1), (4, u3), (6, u4), (7, .int .i64 s1.1), (8, .int .i64 s1.2.1), (9, .int .i64 s1.2.2.1), (10, .int .i64 s1.2.2.2.1)] ⟨rfl, rfl, rfl, rfl, rfl, rfl, rfl, rfl, trivial⟩ ?_
          refine Run.seq ?_
          refine Run.reg ?_
          refine op (OpS.loadB h145 .z PA.z Get.id ty26 rfl rfl rfl (fun u27 h146 => ?_))
          refine op (OpS.mv rfl rfl rfl ?_)
          obtain ⟨y12, e45, hF⟩ := bindP_use hF
          have h147 := h146.front .nil
          refine op (OpS.callO h147 Try.func28 rfl rfl rfl rfl (vs := [u27, u26]) rfl (exchange_Receive_ok e45) rfl (.cons (f := false) (V.at .z) (.cons (f := true) (V.at (.s .z)) .nil)) ?_)
          rintro _ w44 _ _ _ ⟨u28, u29, u30, rfl, rfl, rfl, rfl⟩ h148
          have h149 := h148
          simp only [List.cons_append, List.nil_append] at h149
          refine op (OpS.mv rfl rfl rfl ?_)
          refine op (OpS.ext rfl rfl rfl rfl ?_)
          refine op (OpS.ext rfl rfl rfl rfl ?_)
          refine op (OpS.ext rfl rfl rfl rfl ?_)
          refine op (OpS.ext rfl rfl rfl rfl ?_)
          refine op (OpS.alloc h149 ti26 Requester_.zr rfl rfl (fun u31 w45 h150 => ?_))
          refine op (OpS.alloc h150 ti51 Message_.zr rfl rfl (fun u32 w46 h151 => ?_))
          refine op (OpS.alloc h151 ti51 Message_.zr rfl rfl (fun u33 w47 h152 => ?_))
          have h153 := (h152.pick (.s (.s .z))).weak
          refine op (OpS.storeB (f' := false) h153 .z PA.z Put.id ty26 rfl rfl rfl (V.at .z) (.inr rfl) (fun w48 h154 => ?_))
          have h155 := (h154.pick (.s (.s .z))).weak
          refine op (OpS.storeB (f' := false) h155 .z PA.z Put.id ty51 rfl rfl rfl (V.at (.s .z)) (.inr rfl) (fun w49 h156 => ?_))
          refine op (OpS.storeB (f' := true) h156 (.s (.s .z)) PA.z Put.id ty51 rfl rfl rfl (V.at (.s (.s .z))) (.inl rfl) (fun w50 h157 => ?_))
          refine op (OpS.as rfl rfl rfl ?_)
          refine RunL.nil ?_
          refine Run.slim [(26, .bool y12.2.2.2), (23, u31), (21, u26), (3, u1), (4, u3), (6, u4), (7, .int .i64 s1.1), (8, .int .i64 s1.2.1), (9, .int .i64 s1.2.2.1), (10, .int .i64 s1.2.2.2.1)] ⟨rfl, rfl, rfl, rfl, rfl, rfl, rfl, rfl, rfl, rfl, trivial⟩ ?_
          refine Run.seq ?_
          refine Run.seq ?_
          refine Run.reg ?_
          refine op (OpS.mv rfl rfl rfl ?_)
          refine op (OpS.not rfl rfl rfl ?_)
          refine RunL.nil ?_
          refine Run.slim [(155, .bool (!y12.2.2.2)), (23, u31), (21, u26), (3, u1), (4, u3), (6, u4), (7, .int .i64 s1.1), (8, .int .i64 s1.2.1), (9, .int .i64 s1.2.2.1), (10, .int .i64 s1.2.2.2.1)] ⟨rfl, rfl, rfl, rfl, rfl, rfl, rfl, rfl, rfl, rfl, trivial⟩ ?_
          refine Run.ite rfl hF (fun e46 hF => ?_) (fun e46 hF => ?_)
          ·
           refine Run.seq ?_
           refine Run.reg ?_
           refine op (OpS.as rfl rfl rfl ?_)
           refine RunL.nil ?_
           refine Run.slim [(2, .bool false)] ⟨rfl, trivial⟩ ?_
           refine Run.retP rfl (.tmp rfl .nil) ?_
           cases hF
           exact Post.mk' ⟨rfl, rfl, rfl, rfl⟩ (h157.picks .nil) .nil
          ·
           refine Run.skip ?_
           refine Run.seq ?_
           refine Run.seq ?_
           refine Run.reg ?_
           refine op (OpS.loadB h157 (.s (.s .z)) PA.z Get.id ty26 rfl rfl rfl (fun u34 h158 => ?_))
           refine op (OpS.mv rfl rfl rfl ?_)
           obtain ⟨y13, e47, hF⟩ := bindP_use hF
           have h159 := h158.front .nil
           refine op (OpS.callO h159 Try.func28 rfl rfl rfl rfl (vs := [u34, u26]) rfl (exchange_Receive_ok e47) rfl (.cons (f := false) (V.at .z) (.cons (f := true) (V.at (.s (.s (.s (.s (.s .z)))))) .nil)) ?_)
           rintro _ w51 _ _ _ ⟨u35, u36, u37, rfl, rfl, rfl, rfl⟩ h160
           have h161 := h160
           simp only [List.cons_append, List.nil_append] at h161
           refine op (OpS.mv rfl rfl rfl ?_)
           refine op (OpS.ext rfl rfl rfl rfl ?_)
           refine op (OpS.ext rfl rfl rfl rfl ?_)
           refine op (OpS.ext rfl rfl rfl rfl ?_)
           refine op (OpS.ext rfl rfl rfl rfl ?_)
           refine op (OpS.alloc h161 ti26 Requester_.zr rfl rfl (fun u38 w52 h162 => ?_))
           refine op (OpS.alloc h162 ti51 Message_.zr rfl rfl (fun u39 w53 h163 => ?_))
           refine op (OpS.alloc h163 ti51 Message_.zr rfl rfl (fun u40 w54 h164 => ?_))
           have h165 := (h164.pick (.s (.s .z))).weak
           refine op (OpS.storeB (f' := false) h165 .z PA.z Put.id ty26 rfl rfl rfl (V.at .z) (.inr rfl) (fun w55 h166 => ?_))
           have h167 := (h166.pick (.s (.s .z))).weak
           refine op (OpS.storeB (f' := false) h167 .z PA.z Put.id ty51 rfl rfl rfl (V.at (.s .z)) (.inr rfl) (fun w56 h168 => ?_))
           refine op (OpS.storeB (f' := true) h168 (.s (.s .z)) PA.z Put.id ty51 rfl rfl rfl (V.at (.s (.s .z))) (.inl rfl) (fun w57 h169 => ?_))
           refine op (OpS.as rfl rfl rfl ?_)
           refine RunL.nil ?_
           refine Run.slim [(30, .bool y13.2.2.2), (23, u31), (3, u1), (4, u3), (6, u4), (7, .int .i64 s1.1), (8, .int .i64 s1.2.1), (9, .int .i64 s1.2.2.1), (10, .int .i64 s1.2.2.2.1)] ⟨rfl, rfl, rfl, rfl, rfl, rfl, rfl, rfl, rfl, trivial⟩ ?_
           refine Run.seq ?_
           refine Run.reg ?_
           refine op (OpS.mv rfl rfl rfl ?_)
           refine RunL.nil ?_
           refine Run.slim [(164, .bool y13.2.2.2), (23, u31), (3, u1), (4, u3), (6, u4), (7, .int .i64 s1.1), (8, .int .i64 s1.2.1), (9, .int .i64 s1.2.2.1), (10, .int .i64 s1.2.2.2.1)] ⟨rfl, rfl, rfl, rfl, rfl, rfl, rfl, rfl, rfl, trivial⟩ ?_
           refine Run.ite rfl hF (fun e48 hF => ?_) (fun e48 hF => ?_)
           ·
            refine Run.seq ?_
            refine Run.reg ?_
            refine op (OpS.as rfl rfl rfl ?_)
            refine RunL.nil ?_
            refine Run.slim [(2, .bool false)] ⟨rfl, trivial⟩ ?_
            refine Run.retP rfl (.tmp rfl .nil) ?_
            cases hF
            exact Post.mk' ⟨rfl, rfl, rfl, rfl⟩ (h169.picks .nil) .nil
           ·
            refine Run.skip ?_
            refine Run.reg ?_
            refine op (OpS.loadB h169 (.s (.s (.s (.s (.s .z))))) PA.z Get.id ty26 rfl rfl rfl (fun u41 h170 => ?_))
            refine op (OpS.mv rfl rfl rfl ?_)
            refine op (OpS.bin rfl rfl rfl rfl rfl ?_)
            refine op (OpS.storeB (f' := false) h170 (.s (.s (.s (.s (.s (.s .z)))))) PA.z Put.id ty26 rfl rfl rfl (V.at .z) (.inr rfl) (fun w58 h171 => ?_))
            refine op (OpS.as rfl rfl rfl ?_)
            obtain ⟨x17, e49, hF⟩ := letP_use hF
            refine RunL.name e49 ?_
            refine RunL.nil ?_
            refine Run.slim [(7, .int .i64 x17), (3, u1), (4, u3), (6, u4), (8, .int .i64 s1.2.1), (9, .int .i64 s1.2.2.1), (10, .int .i64 s1.2.2.2.1)] ⟨rfl, rfl, rfl, rfl, rfl, rfl, rfl, trivial⟩ ?_
            refine Run.slim [(3, u1), (4, u3), (6, u4), (7, .int .i64 x17), (8, .int .i64 s1.2.1), (9, .int .i64 s1.2.2.1), (10, .int .i64 s1.2.2.2.1)] ⟨rfl, rfl, rfl, rfl, rfl, rfl, rfl, trivial⟩ ?_
            exact hj2 (x17, s1.2.1, s1.2.2.1, y9.2, y12.1, s1.2.2.2.2.2.2) _ _ ⟨rfl, (h171.facts .nil).picks (.cons (.s (.s (.s (.s (.s (.s (.s .z))))))) (.cons .z (.cons (.s (.s (.s (.s (.s (.s (.s .z))))))) .nil)))⟩ hF
         ·
          refine Run.skip ?_
          refine Run.slim [(3, u1), (4, u3), (6, u4), (7, .int .i64 s1.1), (8, .int .i64 s1.2.1), (9, .int .i64 s1.2.2.1), (10, .int .i64 s1.2.2.2.1)] ⟨rfl, rfl, rfl, rfl, rfl, rfl, rfl, trivial⟩ ?_
          exact hj2 (s1.1, s1.2.1, s1.2.2.1, y4.2, s1.2.2.2.2.2.1, s1.2.2.2.2.2.2) _ _ ⟨rfl, (h116.facts .nil).picks (.cons .z (.cons .z (.cons .z .nil)))⟩ hF
        ·
         refine Run.skip ?_
         refine Run.slim [(3, u1), (4, u3), (6, u4), (7, .int .i64 s1.1), (8, .int .i64 s1.2.1), (9, .int .i64 s1.2.2.1), (10, .int .i64 s1.2.2.2.1)] ⟨rfl, rfl, rfl, rfl, rfl, rfl, rfl, trivial⟩ ?_
         exact hj2 (s1.1, s1.2.1, s1.2.2.1, y4.2, s1.2.2.2.2.2.1, s1.2.2.2.2.2.2) _ _ ⟨rfl, (h16.facts .nil).picks (.cons .z (.cons .z (.cons .z .nil)))⟩ hF
    ·
     refine Run.ite rfl hF (fun e50 hF => ?_) (fun e50 hF => ?_)
     ·
      refine Run.skip ?_
      refine Run.slim [(3, u1), (4, u3), (6, u4), (7, .int .i64 s1.1), (8, .int .i64 s1.2.1), (9, .int .i64 s1.2.2.1), (10, .int .i64 s1.2.2.2.1), (53, .int .i64 y4.1), (54, .bool x1)] ⟨rfl, rfl, rfl, rfl, rfl, rfl, rfl, rfl, rfl, trivial⟩ ?_
      exact hj1 (x1) _ _ ⟨rfl, (h15.facts .nil).picks (.cons .z (.cons .z (.cons .z .nil)))⟩ hF
     ·
      refine Run.reg ?_
      refine op (OpS.bin rfl rfl rfl rfl rfl ?_)
      refine op (OpS.as rfl rfl rfl ?_)
      obtain ⟨x18, e51, hF⟩ := letP_use hF
      refine RunL.nameb e51 ?_
      refine RunL.nil ?_
      refine Run.slim [(54, .bool x18), (53, .int .i64 y4.1), (3, u1), (4, u3), (6, u4), (7, .int .i64 s1.1), (8, .int .i64 s1.2.1), (9, .int .i64 s1.2.2.1), (10, .int .i64 s1.2.2.2.1)] ⟨rfl, rfl, rfl, rfl, rfl, rfl, rfl, rfl, rfl, trivial⟩ ?_
      refine Run.slim [(3, u1), (4, u3), (6, u4), (7, .int .i64 s1.1), (8, .int .i64 s1.2.1), (9, .int .i64 s1.2.2.1), (10, .int .i64 s1.2.2.2.1), (53, .int .i64 y4.1), (54, .bool x18)] ⟨rfl, rfl, rfl, rfl, rfl, rfl, rfl, rfl, rfl, trivial⟩ ?_
      exact hj1 (x18) _ _ ⟨rfl, (h15.facts .nil).picks (.cons .z (.cons .z (.cons .z .nil)))⟩ hF
   ·
    refine Run.exit rfl ?_
    refine Run.seq ?_
    refine Run.seq ?_
    refine Run.reg ?_
    refine op (OpS.as rfl rfl rfl ?_)
    refine RunL.nil ?_
    refine Run.slim [(33, .int .i64 0), (4, u3), (7, .int .i64 s1.1), (8, .int .i64 s1.2.1), (9, .int .i64 s1.2.2.1)] ⟨rfl, rfl, rfl, rfl, rfl, trivial⟩ ?_
    refine Run.block ?_
    refine Run.slim [(4, u3), (7, .int .i64 s1.1), (8, .int .i64 s1.2.1), (9, .int .i64 s1.2.2.1), (33, .int .i64 0)] ⟨rfl, rfl, rfl, rfl, rfl, trivial⟩ ?_
    refine Run.loopP (σ := (Int × Int × Int × Requester_)) (fun s_ L_ w_ => L_ = [(4, u3), (7, .int .i64 s_.1), (8, .int .i64 s1.2.1), (9, .int .i64 s_.2.1), (33, .int .i64 s_.2.2.1)] ∧ St e w_ [] [(false, .box 26 Requester_.rep u3 s_.2.2.2)]) hF ⟨rfl, (h12.facts .nil).picks (.cons (.s .z) .nil)⟩ (fun k5 hk5 s8 _ w59 hI hF => ?_)
    obtain ⟨rfl, h172⟩ := hI
    refine Run.seq ?_
    refine Run.seq ?_
    refine Run.reg ?_
    refine op (OpS.mv rfl rfl rfl ?_)
    refine op (OpS.bin rfl rfl rfl rfl rfl ?_)
    refine RunL.nil ?_
    refine Run.slim [(213, .bool (decide (s8.2.2.1 < 4))), (4, u3), (7, .int .i64 s8.1), (8, .int .i64 s1.2.1), (9, .int .i64 s8.2.1), (33, .int .i64 s8.2.2.1)] ⟨rfl, rfl, rfl, rfl, rfl, rfl, trivial⟩ ?_
    refine Run.ite rfl hF (fun e52 hF => ?_) (fun e52 hF => ?_)
    ·
     refine Run.skip ?_
     refine Run.seq ?_
     refine Run.block ?_
     refine Run.seq ?_
     refine Run.reg ?_
     refine op (OpS.mv rfl rfl rfl ?_)
     refine op (OpS.bin rfl rfl rfl rfl rfl ?_)
     refine op (OpS.as rfl rfl rfl ?_)
     obtain ⟨x19, e53, hF⟩ := letP_use hF
     refine RunL.name e53 ?_
     refine RunL.nil ?_
     refine Run.slim [(9, .int .i64 x19), (4, u3), (7, .int .i64 s8.1), (8, .int .i64 s1.2.1), (33, .int .i64 s8.2.2.1)] ⟨rfl, rfl, rfl, rfl, rfl, trivial⟩ ?_
     refine Run.seq ?_
     refine Run.reg ?_
     refine op (OpS.loadB h172 .z PA.z Get.id ty26 rfl rfl rfl (fun u42 h173 => ?_))
     refine op (OpS.mv rfl rfl rfl ?_)
     obtain ⟨y14, e54, hF⟩ := bindP_use hF
     have h174 := h173.front .nil
     refine op (OpS.callO h174 Try.func11 rfl rfl rfl rfl (vs := [u42, .int .i64 x19]) rfl (exchange_Tick_ok e54) rfl (.cons (f := false) (V.at .z) .nil) ?_)
     rintro _ w60 _ _ _ ⟨u43, u44, u45, rfl, rfl, rfl, rfl⟩ h175
     have h176 := h175
     simp only [List.cons_append, List.nil_append] at h176
     refine op (OpS.mv rfl rfl rfl ?_)
     refine op (OpS.ext rfl rfl rfl rfl ?_)
     refine op (OpS.ext rfl rfl rfl rfl ?_)
     refine op (OpS.ext rfl rfl rfl rfl ?_)
     refine op (OpS.alloc h176 ti26 Requester_.zr rfl rfl (fun u46 w61 h177 => ?_))
     have h178 := (h177.pick .z).weak
     refine op (OpS.storeB (f' := false) h178 .z PA.z Put.id ty26 rfl rfl rfl (V.at .z) (.inr rfl) (fun w62 h179 => ?_))
     refine op (OpS.as rfl rfl rfl ?_)
     have h180 := (h179.pick (.s .z)).freeze
     refine op (OpS.as rfl rfl rfl ?_)
     have h181 := (h180.pick (.s .z)).freeze
     refine RunL.nil ?_
     refine Run.slim [(36, u45), (34, u46), (9, .int .i64 x19), (4, u3), (7, .int .i64 s8.1), (8, .int .i64 s1.2.1), (33, .int .i64 s8.2.2.1)] ⟨rfl, rfl, rfl, rfl, rfl, rfl, rfl, trivial⟩ ?_
     refine Run.reg ?_
     refine op (OpS.loadB h181 .z PA.z Get.id ty26 rfl rfl rfl (fun u47 h182 => ?_))
     refine op (OpS.mv rfl rfl rfl ?_)
     refine op (OpS.mv rfl rfl rfl ?_)
     refine op (OpS.len h182 Try.underlying34 rfl rfl rfl (V.at (.s .z)) ?_)
     refine op (OpS.bin rfl rfl rfl rfl rfl ?_)
     refine op (OpS.storeB (f' := false) h182 (.s .z) PA.z Put.id ty26 rfl rfl rfl (V.at .z) (.inr rfl) (fun w63 h183 => ?_))
     refine op (OpS.as rfl rfl rfl ?_)
     obtain ⟨x20, e55, hF⟩ := letP_use hF
     refine RunL.name e55 ?_
     refine RunL.nil ?_
     refine Run.slim [(7, .int .i64 x20), (9, .int .i64 x19), (4, u3), (8, .int .i64 s1.2.1), (33, .int .i64 s8.2.2.1)] ⟨rfl, rfl, rfl, rfl, rfl, trivial⟩ ?_
     refine Run.endBlock ?_
     refine Run.reg ?_
     refine op (OpS.mv rfl rfl rfl ?_)
     refine op (OpS.bin rfl rfl rfl rfl rfl ?_)
     refine op (OpS.as rfl rfl rfl ?_)
     obtain ⟨x21, e56, hF⟩ := letP_use hF
     refine RunL.name e56 ?_
     refine RunL.nil ?_
     refine Run.slim [(33, .int .i64 x21), (7, .int .i64 x20), (9, .int .i64 x19), (4, u3), (8, .int .i64 s1.2.1)] ⟨rfl, rfl, rfl, rfl, rfl, trivial⟩ ?_
     refine Run.slim [(4, u3), (7, .int .i64 x20), (8, .int .i64 s1.2.1), (9, .int .i64 x19), (33, .int .i64 x21)] ⟨rfl, rfl, rfl, rfl, rfl, trivial⟩ ?_
     exact hk5 (x20, x19, x21, y14.1) _ _ ⟨rfl, (h183.facts .nil).picks (.cons .z .nil)⟩ hF
    ·
     refine Run.exit rfl ?_
     refine Run.seq ?_
     refine Run.reg ?_
     refine op (OpS.fbox (o3 := 2) h172 .z PA.z fa26_2 rfl rfl rfl rfl ?_)
     refine op (OpS.loadB h172 .z PA.a (Get.fld Requester_.f2) ty24 rfl rfl rfl (fun u48 h184 => ?_))
     refine op (OpS.len h184 Try.underlying24 rfl rfl rfl (V.at .z) ?_)
     refine op (OpS.bin rfl rfl rfl rfl rfl ?_)
     refine op (OpS.mv rfl rfl rfl ?_)
     refine RunL.caseb hF (fun e57 hF => ?_) (fun e57 hF => ?_)
     ·
      refine op (OpS.mv rfl rfl rfl ?_)
      refine op (OpS.mv rfl rfl rfl ?_)
      refine op (OpS.bin rfl rfl rfl rfl rfl ?_)
      refine op (OpS.pick rfl rfl rfl rfl ?_)
      refine op (OpS.as rfl rfl rfl ?_)
      obtain ⟨x22, e58, hF⟩ := letP_use hF
      refine RunL.nameb e58 ?_
      refine RunL.nil ?_
      refine Run.slim [(2, .bool x22)] ⟨rfl, trivial⟩ ?_
      refine Run.retP rfl (.tmp rfl .nil) ?_
      cases hF
      exact Post.mk' ⟨rfl, rfl, rfl, rfl⟩ (h184.picks .nil) .nil
     ·
      refine op (OpS.pass rfl rfl rfl ?_)
      refine op (OpS.pass rfl rfl rfl ?_)
      refine op (OpS.pass rfl rfl rfl ?_)
      refine op (OpS.pick rfl rfl rfl rfl ?_)
      refine op (OpS.as rfl rfl rfl ?_)
      refine RunL.nil ?_
      refine Run.slim [(2, .bool false)] ⟨rfl, trivial⟩ ?_
      refine Run.retP rfl (.tmp rfl .nil) ?_
      cases hF
      exact Post.mk' ⟨rfl, rfl, rfl, rfl⟩ (h184.picks .nil) .nil
end Lift
