/- Each Go function computes its plain function. Written by lift.py. -/
import Derived.Test.YtlfbpnoempdiiaaFacts
set_option linter.unusedVariables false
set_option linter.unusedSimpArgs false
namespace Lift
open Go Go.Proofs
open RunL (op)
theorem responder_New_ok {fuel : Nat} {a0 : Int} {y : Responder_ × Int} (hF : responder_New fuel a0 = some y) {w : World} :
  Spec Try.prog 10 [.int .u8 a0].toArray w [] [] (fun v Γr Ωr Ωo => ∃ u0 : Value, v = .tuple #[u0, .int .i64 y.2] ∧ Γr = [(true, .val Responder_.rep u0 y.1)] ∧ Ωr = [] ∧ Ωo = []) := by
 refine Spec.of (L := [(0, .int .u8 a0)]) Try.func10 rfl ⟨rfl, trivial⟩ rfl (fun e h => ?_)
 unfold responder_New at hF
 refine Run.seq ?_
 refine Run.reg ?_
 refine op (OpS.alloc h ti29 Responder_.zr rfl rfl (fun u1 w1 h1 => ?_))
 refine op (OpS.as rfl rfl rfl ?_)
 refine RunL.nil ?_
 refine Run.slim [(2, u1), (0, .int .u8 a0)] ⟨rfl, rfl, trivial⟩ ?_
 refine Run.seq ?_
 refine Run.seq ?_
 refine Run.reg ?_
 refine op (OpS.mv rfl rfl rfl ?_)
 refine op (OpS.bin rfl rfl rfl rfl rfl ?_)
 refine op (OpS.mv rfl rfl rfl ?_)
 refine RunL.join (σ := Bool) (fun s_ L_ w_ => L_ = [(0, .int .u8 a0), (2, u1), (9, .bool s_)] ∧ St e w_ [] [(true, .box 29 Responder_.rep u1 Responder_.z)]) hF (fun s1 _ w2 hI hF => ?_) (fun j1 hj1 hF => ?_)
 ·
  obtain ⟨rfl, h2⟩ := hI
  refine Run.ite rfl hF (fun e1 hF => ?_) (fun e1 hF => ?_)
  ·
   refine Run.seq ?_
   refine Run.reg ?_
   refine op (OpS.build (f := true) (x' := Responder_.z) h2 pl29 ti29 Responder_.zr rfl rfl rfl .nil (fun u2 h3 => ?_))
   refine op (OpS.storeB (f' := true) h3 .z PA.z Put.id ty29 rfl rfl rfl (V.at .z) (.inl rfl) (fun w3 h4 => ?_))
   refine op (OpS.as rfl rfl rfl ?_)
   refine RunL.nil ?_
   refine Run.slim [(3, .int .i64 13), (2, u1)] ⟨rfl, rfl, trivial⟩ ?_
   obtain ⟨u3, hu1, h5⟩ := res_box h4 .z ty29
   refine Run.retP rfl (.cell rfl hu1 (.tmp rfl .nil)) ?_
   cases hF
   exact Post.mk' ⟨u3, rfl, rfl, rfl, rfl⟩ (h5.picks .nil) (.val (V.at .z) .nil)
  ·
   refine Run.skip ?_
   refine Run.seq ?_
   refine Run.reg ?_
   refine op (OpS.mv rfl rfl rfl ?_)
   refine op (OpS.build (f := true) (x' := (⟨a0, [], []⟩ : Responder_)) h2 pl29 ti29 Responder_.zr rfl rfl rfl (.cons rfl Responder_.f0 rfl V.int .nil) (fun u4 h6 => ?_))
   refine op (OpS.storeB (f' := true) h6 .z PA.z Put.id ty29 rfl rfl rfl (V.at .z) (.inl rfl) (fun w4 h7 => ?_))
   refine op (OpS.as rfl rfl rfl ?_)
   refine RunL.nil ?_
   refine Run.slim [(3, .int .i64 0), (2, u1)] ⟨rfl, rfl, trivial⟩ ?_
   obtain ⟨u5, hu2, h8⟩ := res_box h7 .z ty29
   refine Run.retP rfl (.cell rfl hu2 (.tmp rfl .nil)) ?_
   cases hF
   exact Post.mk' ⟨u5, rfl, rfl, rfl, rfl⟩ (h8.picks .nil) (.val (V.at .z) .nil)
 ·
  refine RunL.caseb hF (fun e2 hF => ?_) (fun e2 hF => ?_)
  ·
   refine op (OpS.pass rfl rfl rfl ?_)
   refine op (OpS.pass rfl rfl rfl ?_)
   refine op (OpS.pick rfl rfl rfl rfl ?_)
   refine RunL.nil ?_
   refine Run.slim [(9, .bool true), (2, u1), (0, .int .u8 a0)] ⟨rfl, rfl, rfl, trivial⟩ ?_
   refine Run.slim [(0, .int .u8 a0), (2, u1), (9, .bool true)] ⟨rfl, rfl, rfl, trivial⟩ ?_
   exact hj1 (true) _ _ ⟨rfl, (h1.facts .nil).picks (.cons .z .nil)⟩ hF
  ·
   refine op (OpS.mv rfl rfl rfl ?_)
   refine op (OpS.bin rfl rfl rfl rfl rfl ?_)
   refine op (OpS.pick rfl rfl rfl rfl ?_)
   refine RunL.nil ?_
   refine Run.slim [(9, .bool (decide (a0 > 119))), (2, u1), (0, .int .u8 a0)] ⟨rfl, rfl, rfl, trivial⟩ ?_
   refine Run.slim [(0, .int .u8 a0), (2, u1), (9, .bool (decide (a0 > 119)))] ⟨rfl, rfl, rfl, trivial⟩ ?_
   exact hj1 (decide (a0 > 119)) _ _ ⟨rfl, (h1.facts .nil).picks (.cons .z .nil)⟩ hF
theorem message_address_ok {fuel : Nat} {a0 : Int} {y : Bool} (hF : message_address fuel a0 = some y) {w : World} :
  Spec Try.prog 62 [.int .u8 a0].toArray w [] [] (fun v Γr Ωr Ωo => v = .bool y ∧ Γr = [] ∧ Ωr = [] ∧ Ωo = []) := by
 refine Spec.of (L := [(0, .int .u8 a0)]) Try.func62 rfl ⟨rfl, trivial⟩ rfl (fun e h => ?_)
 unfold message_address at hF
 refine Run.seq ?_
 refine Run.reg ?_
 refine op (OpS.as rfl rfl rfl ?_)
 refine RunL.nil ?_
 refine Run.slim [(0, .int .u8 a0)] ⟨rfl, trivial⟩ ?_
 refine Run.seq ?_
 refine Run.reg ?_
 refine op (OpS.mv rfl rfl rfl ?_)
 refine op (OpS.bin rfl rfl rfl rfl rfl ?_)
 refine op (OpS.mv rfl rfl rfl ?_)
 refine RunL.caseb hF (fun e1 hF => ?_) (fun e1 hF => ?_)
 ·
  refine op (OpS.mv rfl rfl rfl ?_)
  refine op (OpS.bin rfl rfl rfl rfl rfl ?_)
  refine op (OpS.pick rfl rfl rfl rfl ?_)
  refine op (OpS.as rfl rfl rfl ?_)
  obtain ⟨x1, e2, hF⟩ := letP_use hF
  refine RunL.nameb e2 ?_
  refine RunL.nil ?_
  refine Run.slim [(2, .bool x1)] ⟨rfl, trivial⟩ ?_
  refine Run.retP rfl (.tmp rfl .nil) ?_
  cases hF
  exact Post.mk' ⟨rfl, rfl, rfl, rfl⟩ (h.picks .nil) .nil
 ·
  refine op (OpS.pass rfl rfl rfl ?_)
  refine op (OpS.pass rfl rfl rfl ?_)
  refine op (OpS.pick rfl rfl rfl rfl ?_)
  refine op (OpS.as rfl rfl rfl ?_)
  refine RunL.nil ?_
  refine Run.slim [(2, .bool false)] ⟨rfl, trivial⟩ ?_
  refine Run.retP rfl (.tmp rfl .nil) ?_
  cases hF
  exact Post.mk' ⟨rfl, rfl, rfl, rfl⟩ (h.picks .nil) .nil
theorem message_unit_ok {fuel : Nat} {a0 : Int} {y : Bool} (hF : message_unit fuel a0 = some y) {w : World} :
  Spec Try.prog 63 [.int .i64 a0].toArray w [] [] (fun v Γr Ωr Ωo => v = .bool y ∧ Γr = [] ∧ Ωr = [] ∧ Ωo = []) := by
 refine Spec.of (L := [(0, .int .i64 a0)]) Try.func63 rfl ⟨rfl, trivial⟩ rfl (fun e h => ?_)
 unfold message_unit at hF
 refine Run.seq ?_
 refine Run.reg ?_
 refine op (OpS.as rfl rfl rfl ?_)
 refine RunL.nil ?_
 refine Run.slim [(0, .int .i64 a0)] ⟨rfl, trivial⟩ ?_
 refine Run.seq ?_
 refine Run.reg ?_
 refine op (OpS.mv rfl rfl rfl ?_)
 refine op (OpS.bin rfl rfl rfl rfl rfl ?_)
 refine op (OpS.mv rfl rfl rfl ?_)
 refine RunL.caseb hF (fun e1 hF => ?_) (fun e1 hF => ?_)
 ·
  refine op (OpS.mv rfl rfl rfl ?_)
  refine op (OpS.bin rfl rfl rfl rfl rfl ?_)
  refine op (OpS.pick rfl rfl rfl rfl ?_)
  refine op (OpS.as rfl rfl rfl ?_)
  obtain ⟨x1, e2, hF⟩ := letP_use hF
  refine RunL.nameb e2 ?_
  refine RunL.nil ?_
  refine Run.slim [(2, .bool x1)] ⟨rfl, trivial⟩ ?_
  refine Run.retP rfl (.tmp rfl .nil) ?_
  cases hF
  exact Post.mk' ⟨rfl, rfl, rfl, rfl⟩ (h.picks .nil) .nil
 ·
  refine op (OpS.pass rfl rfl rfl ?_)
  refine op (OpS.pass rfl rfl rfl ?_)
  refine op (OpS.pick rfl rfl rfl rfl ?_)
  refine op (OpS.as rfl rfl rfl ?_)
  refine RunL.nil ?_
  refine Run.slim [(2, .bool false)] ⟨rfl, trivial⟩ ?_
  refine Run.retP rfl (.tmp rfl .nil) ?_
  cases hF
  exact Post.mk' ⟨rfl, rfl, rfl, rfl⟩ (h.picks .nil) .nil
theorem message_request_ok {fuel : Nat} {a0 : Message_} {y : Bool} (hF : message_request fuel a0 = some y) {w : World} {v0 : Value} :
  Spec Try.prog 35 [v0].toArray w [(false, .val Message_.rep v0 a0)] [] (fun v Γr Ωr Ωo => v = .bool y ∧ Γr = [] ∧ Ωr = [] ∧ Ωo = []) := by
 refine Spec.of (L := [(0, v0)]) Try.func35 rfl ⟨rfl, trivial⟩ rfl (fun e h => ?_)
 unfold message_request at hF
 refine Run.seq ?_
 refine Run.reg ?_
 refine op (OpS.boxF h rfl rfl rfl (V.at .z) (fun u1 w1 h1 => ?_))
 refine op (OpS.as rfl rfl rfl ?_)
 refine RunL.nil ?_
 refine Run.slim [(1, u1)] ⟨rfl, trivial⟩ ?_
 refine Run.seq ?_
 refine Run.reg ?_
 refine op (OpS.fbox (o3 := 2) h1 .z PA.z fa37_2 rfl rfl rfl rfl ?_)
 refine op (OpS.loadBi h1 .z PA.a (Get.fld Message_.f2) ty5 rfl rfl rfl ?_)
 refine op (OpS.rem rfl rfl rfl rfl (by decide) ?_)
 refine op (OpS.bin rfl rfl rfl rfl rfl ?_)
 refine op (OpS.as rfl rfl rfl ?_)
 obtain ⟨x1, e1, hF⟩ := letP_use hF
 refine RunL.nameb e1 ?_
 refine RunL.nil ?_
 refine Run.slim [(2, .bool x1)] ⟨rfl, trivial⟩ ?_
 refine Run.retP rfl (.tmp rfl .nil) ?_
 cases hF
 exact Post.mk' ⟨rfl, rfl, rfl, rfl⟩ (h1.picks .nil) .nil
theorem message_Valid_ok {fuel : Nat} {a0 : Message_} {y : Bool} (hF : message_Valid fuel a0 = some y) {w : World} {v0 : Value} :
  Spec Try.prog 34 [v0].toArray w [(false, .val Message_.rep v0 a0)] [] (fun v Γr Ωr Ωo => v = .bool y ∧ Γr = [] ∧ Ωr = [] ∧ Ωo = []) := by
 refine Spec.of (L := [(0, v0)]) Try.func34 rfl ⟨rfl, trivial⟩ rfl (fun e h => ?_)
 unfold message_Valid at hF
 refine Run.seq ?_
 refine Run.reg ?_
 refine op (OpS.boxF h rfl rfl rfl (V.at .z) (fun u1 w1 h1 => ?_))
 refine op (OpS.as rfl rfl rfl ?_)
 refine RunL.nil ?_
 refine Run.slim [(1, u1)] ⟨rfl, trivial⟩ ?_
 refine Run.seq ?_
 refine Run.seq ?_
 refine Run.reg ?_
 refine op (OpS.fbox (o3 := 0) h1 .z PA.z fa37_0 rfl rfl rfl rfl ?_)
 refine op (OpS.loadBi h1 .z PA.a (Get.fld Message_.f0) ty5 rfl rfl rfl ?_)
 obtain ⟨y1, e1, hF⟩ := bindP_use hF
 refine op (OpS.callP h1 Try.func62 rfl rfl rfl rfl (vs := [.int .u8 a0.To]) rfl (message_address_ok e1) .nil ?_)
 rintro _ w2 _ _ _ ⟨rfl, rfl, rfl, rfl⟩ h2
 have h3 := h2 rfl rfl
 simp only [List.cons_append, List.nil_append] at h3
 refine op (OpS.not rfl rfl rfl ?_)
 refine op (OpS.mv rfl rfl rfl ?_)
 refine RunL.join (σ := Bool) (fun s_ L_ w_ => L_ = [(1, u1), (29, .bool s_)] ∧ St e w_ [] [(false, .box 37 Message_.rep u1 a0)]) hF (fun s1 _ w3 hI hF => ?_) (fun j1 hj1 hF => ?_)
 ·
  obtain ⟨rfl, h4⟩ := hI
  refine Run.ite rfl hF (fun e2 hF => ?_) (fun e2 hF => ?_)
  ·
   refine Run.seq ?_
   refine Run.reg ?_
   refine op (OpS.as rfl rfl rfl ?_)
   refine RunL.nil ?_
   refine Run.slim [(2, .bool false)] ⟨rfl, trivial⟩ ?_
   refine Run.retP rfl (.tmp rfl .nil) ?_
   cases hF
   exact Post.mk' ⟨rfl, rfl, rfl, rfl⟩ (h4.picks .nil) .nil
  ·
   refine Run.skip ?_
   refine Run.seq ?_
   refine Run.reg ?_
   refine op (OpS.fbox (o3 := 6) h4 .z PA.z fa37_6 rfl rfl rfl rfl ?_)
   refine op (OpS.loadBi h4 .z PA.a (Get.fld Message_.f6) ty3 rfl rfl rfl ?_)
   refine op (OpS.bin rfl rfl rfl rfl rfl ?_)
   refine op (OpS.mv rfl rfl rfl ?_)
   refine RunL.caseb hF (fun e3 hF => ?_) (fun e3 hF => ?_)
   ·
    refine op (OpS.fbox (o3 := 6) h4 .z PA.z fa37_6 rfl rfl rfl rfl ?_)
    refine op (OpS.loadBi h4 .z PA.a (Get.fld Message_.f6) ty3 rfl rfl rfl ?_)
    refine op (OpS.bin rfl rfl rfl rfl rfl ?_)
    refine op (OpS.pick rfl rfl rfl rfl ?_)
    refine op (OpS.mv rfl rfl rfl ?_)
    refine RunL.caseb hF (fun e4 hF => ?_) (fun e4 hF => ?_)
    ·
     refine op (OpS.fbox (o3 := 8) h4 .z PA.z fa37_8 rfl rfl rfl rfl ?_)
     refine op (OpS.loadB h4 .z PA.a (Get.fld Message_.f8) ty22 rfl rfl rfl (fun u2 h5 => ?_))
     refine op (OpS.len h5 Try.underlying22 rfl rfl rfl (V.at .z) ?_)
     refine op (OpS.bin rfl rfl rfl rfl rfl ?_)
     refine op (OpS.pick rfl rfl rfl rfl ?_)
     refine op (OpS.mv rfl rfl rfl ?_)
     refine RunL.caseb hF (fun e5 hF => ?_) (fun e5 hF => ?_)
     ·
      refine op (OpS.loadB h5 .z PA.z Get.id ty37 rfl rfl rfl (fun u3 h6 => ?_))
      obtain ⟨y2, e6, hF⟩ := bindP_use hF
      refine op (OpS.callP h6 Try.func35 rfl rfl rfl rfl (vs := [u3]) rfl (message_request_ok e6) (.cons (f := false) (V.at .z) .nil) ?_)
      rintro _ w4 _ _ _ ⟨rfl, rfl, rfl, rfl⟩ h7
      have h8 := h7 rfl rfl
      simp only [List.cons_append, List.nil_append] at h8
      refine op (OpS.not rfl rfl rfl ?_)
      refine op (OpS.mv rfl rfl rfl ?_)
      refine RunL.caseb hF (fun e7 hF => ?_) (fun e7 hF => ?_)
      ·
       refine op (OpS.pass rfl rfl rfl ?_)
       refine op (OpS.pass rfl rfl rfl ?_)
       refine op (OpS.pass rfl rfl rfl ?_)
       refine op (OpS.pick rfl rfl rfl rfl ?_)
       refine op (OpS.pick rfl rfl rfl rfl ?_)
       refine op (OpS.as rfl rfl rfl ?_)
       refine RunL.nil ?_
       refine Run.slim [(2, .bool true)] ⟨rfl, trivial⟩ ?_
       refine Run.retP rfl (.tmp rfl .nil) ?_
       cases hF
       exact Post.mk' ⟨rfl, rfl, rfl, rfl⟩ (h8.picks .nil) .nil
      ·
       refine op (OpS.fbox (o3 := 7) h8 .z PA.z fa37_7 rfl rfl rfl rfl ?_)
       refine op (OpS.loadBi h8 .z PA.a (Get.fld Message_.f7) ty5 rfl rfl rfl ?_)
       refine op (OpS.bin rfl rfl rfl rfl rfl ?_)
       refine op (OpS.pick rfl rfl rfl rfl ?_)
       refine op (OpS.pick rfl rfl rfl rfl ?_)
       refine op (OpS.as rfl rfl rfl ?_)
       obtain ⟨x1, e8, hF⟩ := letP_use hF
       refine RunL.nameb e8 ?_
       refine RunL.nil ?_
       refine Run.slim [(2, .bool x1)] ⟨rfl, trivial⟩ ?_
       refine Run.retP rfl (.tmp rfl .nil) ?_
       cases hF
       exact Post.mk' ⟨rfl, rfl, rfl, rfl⟩ (h8.picks .nil) .nil
     ·
      refine op (OpS.pass rfl rfl rfl ?_)
      refine op (OpS.pass rfl rfl rfl ?_)
      refine op (OpS.pass rfl rfl rfl ?_)
      refine op (OpS.pass rfl rfl rfl ?_)
      refine op (OpS.pass rfl rfl rfl ?_)
      refine op (OpS.pass rfl rfl rfl ?_)
      refine op (OpS.pass rfl rfl rfl ?_)
      refine op (OpS.pass rfl rfl rfl ?_)
      refine op (OpS.pick rfl rfl rfl rfl ?_)
      refine op (OpS.as rfl rfl rfl ?_)
      refine RunL.nil ?_
      refine Run.slim [(2, .bool false)] ⟨rfl, trivial⟩ ?_
      refine Run.retP rfl (.tmp rfl .nil) ?_
      cases hF
      exact Post.mk' ⟨rfl, rfl, rfl, rfl⟩ (h5.picks .nil) .nil
    ·
     refine op (OpS.pass rfl rfl rfl ?_)
     refine op (OpS.pass rfl rfl rfl ?_)
     refine op (OpS.pass rfl rfl rfl ?_)
     refine op (OpS.pass rfl rfl rfl ?_)
     refine op (OpS.pick rfl rfl rfl rfl ?_)
     refine op (OpS.mv rfl rfl rfl ?_)
     refine op (OpS.pass rfl rfl rfl ?_)
     refine op (OpS.pass rfl rfl rfl ?_)
     refine op (OpS.pass rfl rfl rfl ?_)
     refine op (OpS.pass rfl rfl rfl ?_)
     refine op (OpS.pass rfl rfl rfl ?_)
     refine op (OpS.pass rfl rfl rfl ?_)
     refine op (OpS.pass rfl rfl rfl ?_)
     refine op (OpS.pass rfl rfl rfl ?_)
     refine op (OpS.pick rfl rfl rfl rfl ?_)
     refine op (OpS.as rfl rfl rfl ?_)
     refine RunL.nil ?_
     refine Run.slim [(2, .bool false)] ⟨rfl, trivial⟩ ?_
     refine Run.retP rfl (.tmp rfl .nil) ?_
     cases hF
     exact Post.mk' ⟨rfl, rfl, rfl, rfl⟩ (h4.picks .nil) .nil
   ·
    refine op (OpS.pass rfl rfl rfl ?_)
    refine op (OpS.pass rfl rfl rfl ?_)
    refine op (OpS.pass rfl rfl rfl ?_)
    refine op (OpS.pick rfl rfl rfl rfl ?_)
    refine op (OpS.mv rfl rfl rfl ?_)
    refine op (OpS.pass rfl rfl rfl ?_)
    refine op (OpS.pass rfl rfl rfl ?_)
    refine op (OpS.pass rfl rfl rfl ?_)
    refine op (OpS.pass rfl rfl rfl ?_)
    refine op (OpS.pick rfl rfl rfl rfl ?_)
    refine op (OpS.mv rfl rfl rfl ?_)
    refine op (OpS.pass rfl rfl rfl ?_)
    refine op (OpS.pass rfl rfl rfl ?_)
    refine op (OpS.pass rfl rfl rfl ?_)
    refine op (OpS.pass rfl rfl rfl ?_)
    refine op (OpS.pass rfl rfl rfl ?_)
    refine op (OpS.pass rfl rfl rfl ?_)
    refine op (OpS.pass rfl rfl rfl ?_)
    refine op (OpS.pass rfl rfl rfl ?_)
    refine op (OpS.pick rfl rfl rfl rfl ?_)
    refine op (OpS.as rfl rfl rfl ?_)
    refine RunL.nil ?_
    refine Run.slim [(2, .bool false)] ⟨rfl, trivial⟩ ?_
    refine Run.retP rfl (.tmp rfl .nil) ?_
    cases hF
    exact Post.mk' ⟨rfl, rfl, rfl, rfl⟩ (h4.picks .nil) .nil
 ·
  refine RunL.caseb hF (fun e9 hF => ?_) (fun e9 hF => ?_)
  ·
   refine op (OpS.pass rfl rfl rfl ?_)
   refine op (OpS.pass rfl rfl rfl ?_)
   refine op (OpS.pass rfl rfl rfl ?_)
   refine op (OpS.pass rfl rfl rfl ?_)
   refine op (OpS.pick rfl rfl rfl rfl ?_)
   refine op (OpS.mv rfl rfl rfl ?_)
   refine op (OpS.pass rfl rfl rfl ?_)
   refine op (OpS.pass rfl rfl rfl ?_)
   refine op (OpS.pass rfl rfl rfl ?_)
   refine op (OpS.pick rfl rfl rfl rfl ?_)
   refine op (OpS.mv rfl rfl rfl ?_)
   refine op (OpS.pass rfl rfl rfl ?_)
   refine op (OpS.pass rfl rfl rfl ?_)
   refine op (OpS.pass rfl rfl rfl ?_)
   refine op (OpS.pass rfl rfl rfl ?_)
   refine op (OpS.pick rfl rfl rfl rfl ?_)
   refine op (OpS.mv rfl rfl rfl ?_)
   refine op (OpS.pass rfl rfl rfl ?_)
   refine op (OpS.pass rfl rfl rfl ?_)
   refine op (OpS.pass rfl rfl rfl ?_)
   refine op (OpS.pass rfl rfl rfl ?_)
   refine op (OpS.pick rfl rfl rfl rfl ?_)
   refine RunL.nil ?_
   refine Run.slim [(29, .bool true), (1, u1)] ⟨rfl, rfl, trivial⟩ ?_
   refine Run.slim [(1, u1), (29, .bool true)] ⟨rfl, rfl, trivial⟩ ?_
   exact hj1 (true) _ _ ⟨rfl, (h3.facts .nil).picks (.cons .z .nil)⟩ hF
  ·
   refine op (OpS.fbox (o3 := 1) h3 .z PA.z fa37_1 rfl rfl rfl rfl ?_)
   refine op (OpS.loadBi h3 .z PA.a (Get.fld Message_.f1) ty5 rfl rfl rfl ?_)
   obtain ⟨y3, e10, hF⟩ := bindP_use hF
   refine op (OpS.callP h3 Try.func62 rfl rfl rfl rfl (vs := [.int .u8 a0.From]) rfl (message_address_ok e10) .nil ?_)
   rintro _ w5 _ _ _ ⟨rfl, rfl, rfl, rfl⟩ h9
   have h10 := h9 rfl rfl
   simp only [List.cons_append, List.nil_append] at h10
   refine op (OpS.not rfl rfl rfl ?_)
   refine op (OpS.pick rfl rfl rfl rfl ?_)
   refine op (OpS.mv rfl rfl rfl ?_)
   refine RunL.caseb hF (fun e11 hF => ?_) (fun e11 hF => ?_)
   ·
    refine op (OpS.pass rfl rfl rfl ?_)
    refine op (OpS.pass rfl rfl rfl ?_)
    refine op (OpS.pass rfl rfl rfl ?_)
    refine op (OpS.pick rfl rfl rfl rfl ?_)
    refine op (OpS.mv rfl rfl rfl ?_)
    refine op (OpS.pass rfl rfl rfl ?_)
    refine op (OpS.pass rfl rfl rfl ?_)
    refine op (OpS.pass rfl rfl rfl ?_)
    refine op (OpS.pass rfl rfl rfl ?_)
    refine op (OpS.pick rfl rfl rfl rfl ?_)
    refine op (OpS.mv rfl rfl rfl ?_)
    refine op (OpS.pass rfl rfl rfl ?_)
    refine op (OpS.pass rfl rfl rfl ?_)
    refine op (OpS.pass rfl rfl rfl ?_)
    refine op (OpS.pass rfl rfl rfl ?_)
    refine op (OpS.pick rfl rfl rfl rfl ?_)
    refine RunL.nil ?_
    refine Run.slim [(29, .bool true), (1, u1)] ⟨rfl, rfl, trivial⟩ ?_
    refine Run.slim [(1, u1), (29, .bool true)] ⟨rfl, rfl, trivial⟩ ?_
    exact hj1 (true) _ _ ⟨rfl, (h10.facts .nil).picks (.cons .z .nil)⟩ hF
   ·
    refine op (OpS.fbox (o3 := 2) h10 .z PA.z fa37_2 rfl rfl rfl rfl ?_)
    refine op (OpS.loadBi h10 .z PA.a (Get.fld Message_.f2) ty5 rfl rfl rfl ?_)
    refine op (OpS.bin rfl rfl rfl rfl rfl ?_)
    refine op (OpS.pick rfl rfl rfl rfl ?_)
    refine op (OpS.mv rfl rfl rfl ?_)
    refine RunL.caseb hF (fun e12 hF => ?_) (fun e12 hF => ?_)
    ·
     refine op (OpS.pass rfl rfl rfl ?_)
     refine op (OpS.pass rfl rfl rfl ?_)
     refine op (OpS.pass rfl rfl rfl ?_)
     refine op (OpS.pass rfl rfl rfl ?_)
     refine op (OpS.pick rfl rfl rfl rfl ?_)
     refine op (OpS.mv rfl rfl rfl ?_)
     refine op (OpS.pass rfl rfl rfl ?_)
     refine op (OpS.pass rfl rfl rfl ?_)
     refine op (OpS.pass rfl rfl rfl ?_)
     refine op (OpS.pass rfl rfl rfl ?_)
     refine op (OpS.pick rfl rfl rfl rfl ?_)
     refine RunL.nil ?_
     refine Run.slim [(29, .bool true), (1, u1)] ⟨rfl, rfl, trivial⟩ ?_
     refine Run.slim [(1, u1), (29, .bool true)] ⟨rfl, rfl, trivial⟩ ?_
     exact hj1 (true) _ _ ⟨rfl, (h10.facts .nil).picks (.cons .z .nil)⟩ hF
    ·
     refine op (OpS.fbox (o3 := 4) h10 .z PA.z fa37_4 rfl rfl rfl rfl ?_)
     refine op (OpS.loadBi h10 .z PA.a (Get.fld Message_.f4) ty3 rfl rfl rfl ?_)
     obtain ⟨y4, e13, hF⟩ := bindP_use hF
     refine op (OpS.callP h10 Try.func63 rfl rfl rfl rfl (vs := [.int .i64 a0.ToUnit]) rfl (message_unit_ok e13) .nil ?_)
     rintro _ w6 _ _ _ ⟨rfl, rfl, rfl, rfl⟩ h11
     have h12 := h11 rfl rfl
     simp only [List.cons_append, List.nil_append] at h12
     refine op (OpS.not rfl rfl rfl ?_)
     refine op (OpS.pick rfl rfl rfl rfl ?_)
     refine op (OpS.mv rfl rfl rfl ?_)
     refine RunL.caseb hF (fun e14 hF => ?_) (fun e14 hF => ?_)
     ·
      refine op (OpS.pass rfl rfl rfl ?_)
      refine op (OpS.pass rfl rfl rfl ?_)
      refine op (OpS.pass rfl rfl rfl ?_)
      refine op (OpS.pass rfl rfl rfl ?_)
      refine op (OpS.pick rfl rfl rfl rfl ?_)
      refine RunL.nil ?_
      refine Run.slim [(29, .bool true), (1, u1)] ⟨rfl, rfl, trivial⟩ ?_
      refine Run.slim [(1, u1), (29, .bool true)] ⟨rfl, rfl, trivial⟩ ?_
      exact hj1 (true) _ _ ⟨rfl, (h12.facts .nil).picks (.cons .z .nil)⟩ hF
     ·
      refine op (OpS.fbox (o3 := 5) h12 .z PA.z fa37_5 rfl rfl rfl rfl ?_)
      refine op (OpS.loadBi h12 .z PA.a (Get.fld Message_.f5) ty3 rfl rfl rfl ?_)
      obtain ⟨y5, e15, hF⟩ := bindP_use hF
      refine op (OpS.callP h12 Try.func63 rfl rfl rfl rfl (vs := [.int .i64 a0.FromUnit]) rfl (message_unit_ok e15) .nil ?_)
      rintro _ w7 _ _ _ ⟨rfl, rfl, rfl, rfl⟩ h13
      have h14 := h13 rfl rfl
      simp only [List.cons_append, List.nil_append] at h14
      refine op (OpS.not rfl rfl rfl ?_)
      refine op (OpS.pick rfl rfl rfl rfl ?_)
      refine RunL.nil ?_
      refine Run.slim [(29, .bool (!y5)), (1, u1)] ⟨rfl, rfl, trivial⟩ ?_
      refine Run.slim [(1, u1), (29, .bool (!y5))] ⟨rfl, rfl, trivial⟩ ?_
      exact hj1 (!y5) _ _ ⟨rfl, (h14.facts .nil).picks (.cons .z .nil)⟩ hF
theorem slices_Clone_byte_byte_ok {fuel : Nat} {a0 : List Int} {y : (List Int)} (hF : slices_Clone_byte_byte fuel a0 = some y) {w : World} {v0 : Value} :
  Spec Try.prog 41 [v0].toArray w [(false, .val (Rep.slice (Rep.int .u8)) v0 a0)] [] (fun v Γr Ωr Ωo => ∃ u0 : Value, v = u0 ∧ Γr = [] ∧ Ωr = [(true, .slice 5 (Rep.int .u8) u0 y)] ∧ Ωo = []) := by
 refine Spec.of (L := [(0, v0)]) Try.func41 rfl ⟨rfl, trivial⟩ rfl (fun e h => ?_)
 unfold slices_Clone_byte_byte at hF
 refine Run.seq ?_
 refine Run.reg ?_
 refine op (OpS.as rfl rfl rfl ?_)
 refine RunL.nil ?_
 refine Run.slim [(0, v0)] ⟨rfl, trivial⟩ ?_
 refine Run.seq ?_
 refine Run.seq ?_
 refine Run.reg ?_
 refine op (OpS.mv rfl rfl rfl ?_)
 refine op (OpS.snil h Try.underlying22 rfl rfl rfl (V.at .z) (fun b1 hb1 => ?_))
 refine RunL.nil ?_
 refine Run.slim [(4, .bool b1), (0, v0)] ⟨rfl, rfl, trivial⟩ ?_
 cases b1
 ·
  refine Run.condF rfl ?_
  refine Run.skip ?_
  refine Run.seq ?_
  refine Run.reg ?_
  refine op (OpS.litO (r := (Rep.int .u8)) (f := true) h Try.underlying22 ti5 rfl rfl rfl rfl rfl .nil rfl rfl (fun u1 w1 h1 => ?_))
  refine op (OpS.mv rfl rfl rfl ?_)
  obtain ⟨x1, e1, hF⟩ := bindP_use hF
  refine op (OpS.app (f' := false) h1 .z Try.underlying22 ti5 rfl rfl rfl rfl rfl rfl rfl (V.at .z) (.inr Pure.int) e1 (fun u2 w2 h2 => ?_))
  refine op (OpS.as rfl rfl rfl ?_)
  refine RunL.nil ?_
  refine Run.slim [(2, u2)] ⟨rfl, trivial⟩ ?_
  refine Run.retP rfl (.tmp rfl .nil) ?_
  cases hF
  exact Post.mk' ⟨u2, rfl, rfl, rfl, rfl⟩ (h2.picks (.cons .z .nil)) .nil
 ·
  obtain rfl := hb1 rfl
  have hF : some ([] : List Int) = some y := by simpa [bindP, app] using hF
  refine Run.condT rfl ?_
  refine Run.seq ?_
  refine Run.reg ?_
  refine op (OpS.as rfl rfl rfl ?_)
  refine RunL.nil ?_
  refine Run.slim [(2, .slice none 0 0)] ⟨rfl, trivial⟩ ?_
  have h3 := St.nil 5 (Rep.int .u8) h
  refine Run.retP rfl (.tmp rfl .nil) ?_
  cases hF
  exact Post.mk' ⟨(.slice none 0 0), rfl, rfl, rfl, rfl⟩ (h3.picks (.cons .z .nil)) .nil
theorem checksum_Sum8_ok {fuel : Nat} {a0 : List Int} {y : Int} (hF : checksum_Sum8 fuel a0 = some y) {w : World} {v0 : Value} :
  Spec Try.prog 68 [v0].toArray w [(false, .val (Rep.slice (Rep.int .u8)) v0 a0)] [] (fun v Γr Ωr Ωo => v = .int .u8 y ∧ Γr = [] ∧ Ωr = [] ∧ Ωo = []) := by
 refine Spec.of (L := [(0, v0)]) Try.func68 rfl ⟨rfl, trivial⟩ rfl (fun e h => ?_)
 unfold checksum_Sum8 at hF
 refine Run.seq ?_
 refine Run.reg ?_
 refine op (OpS.as rfl rfl rfl ?_)
 refine RunL.nil ?_
 refine Run.slim [(0, v0)] ⟨rfl, trivial⟩ ?_
 refine Run.seq ?_
 refine Run.reg ?_
 refine op (OpS.as rfl rfl rfl ?_)
 refine RunL.nil ?_
 refine Run.seq ?_
 refine Run.seq ?_
 refine Run.reg ?_
 refine op (OpS.mv rfl rfl rfl ?_)
 refine op (OpS.len h Try.underlying22 rfl rfl rfl (V.at .z) ?_)
 refine op (OpS.mv rfl rfl rfl ?_)
 refine RunL.nil ?_
 refine Run.slim [(8, .int .i64 0), (7, .int .i64 (a0.length : Int)), (6, v0), (3, .int .u8 0)] ⟨rfl, rfl, rfl, rfl, trivial⟩ ?_
 refine Run.block ?_
 refine Run.slim [(3, .int .u8 0), (6, v0), (7, .int .i64 (a0.length : Int)), (8, .int .i64 0)] ⟨rfl, rfl, rfl, rfl, trivial⟩ ?_
 refine Run.loopP (σ := (Int × Int)) (fun s_ L_ w_ => L_ = [(3, .int .u8 s_.1), (6, v0), (7, .int .i64 (a0.length : Int)), (8, .int .i64 s_.2)] ∧ St e w_ [(false, .val (Rep.slice (Rep.int .u8)) v0 a0)] []) hF ⟨rfl, (h.facts (.atm .z .nil)).picks .nil⟩ (fun k1 hk1 s1 _ w1 hI hF => ?_)
 obtain ⟨rfl, h1⟩ := hI
 refine Run.seq ?_
 refine Run.reg ?_
 refine op (OpS.bin rfl rfl rfl rfl rfl ?_)
 refine RunL.nil ?_
 refine Run.seq ?_
 refine Run.ite rfl hF (fun e1 hF => ?_) (fun e1 hF => ?_)
 ·
  refine Run.skip ?_
  refine Run.seq ?_
  refine Run.block ?_
  refine Run.seq ?_
  refine Run.reg ?_
  obtain ⟨x1, e2, hF⟩ := bindP_use hF
  refine op (OpS.iptr h1 Try.underlying22 ty5 rfl rfl rfl rfl (V.at .z) e2 (fun u1 h2 => ?_))
  refine op (OpS.loadi h2 ty5 rfl rfl rfl .z ?_)
  refine op (OpS.as rfl rfl rfl ?_)
  refine RunL.nil ?_
  refine Run.slim [(5, .int .u8 x1), (3, .int .u8 s1.1), (6, v0), (7, .int .i64 (a0.length : Int)), (8, .int .i64 s1.2)] ⟨rfl, rfl, rfl, rfl, rfl, trivial⟩ ?_
  refine Run.reg ?_
  refine op (OpS.mv rfl rfl rfl ?_)
  refine op (OpS.mv rfl rfl rfl ?_)
  refine op (OpS.bin rfl rfl rfl rfl rfl ?_)
  refine op (OpS.as rfl rfl rfl ?_)
  obtain ⟨x2, e3, hF⟩ := letP_use hF
  refine RunL.name e3 ?_
  refine RunL.nil ?_
  refine Run.slim [(3, .int .u8 x2), (6, v0), (7, .int .i64 (a0.length : Int)), (8, .int .i64 s1.2)] ⟨rfl, rfl, rfl, rfl, trivial⟩ ?_
  refine Run.endBlock ?_
  refine Run.reg ?_
  refine op (OpS.bin rfl rfl rfl rfl rfl ?_)
  refine op (OpS.mv rfl rfl rfl ?_)
  refine RunL.nil ?_
  refine Run.slim [(8, .int .i64 (IntKind.i64.wrap (s1.2 + 1))), (3, .int .u8 x2), (6, v0), (7, .int .i64 (a0.length : Int))] ⟨rfl, rfl, rfl, rfl, trivial⟩ ?_
  refine Run.slim [(3, .int .u8 x2), (6, v0), (7, .int .i64 (a0.length : Int)), (8, .int .i64 (IntKind.i64.wrap (s1.2 + 1)))] ⟨rfl, rfl, rfl, rfl, trivial⟩ ?_
  exact hk1 (x2, (IntKind.i64.wrap (s1.2 + 1))) _ _ ⟨rfl, (h2.facts (.atm (.s .z) .nil)).picks .nil⟩ hF
 ·
  refine Run.exit rfl ?_
  refine Run.seq ?_
  refine Run.reg ?_
  refine op (OpS.mv rfl rfl rfl ?_)
  refine op (OpS.neg rfl rfl rfl ?_)
  refine op (OpS.as rfl rfl rfl ?_)
  obtain ⟨x3, e4, hF⟩ := letP_use hF
  refine RunL.name e4 ?_
  refine RunL.nil ?_
  refine Run.slim [(2, .int .u8 x3)] ⟨rfl, trivial⟩ ?_
  refine Run.retP rfl (.tmp rfl .nil) ?_
  cases hF
  exact Post.mk' ⟨rfl, rfl, rfl, rfl⟩ (h1.picks .nil) .nil
theorem checksum_Seal8_ok {fuel : Nat} {a0 : List Int} {y : (List Int)} (hF : checksum_Seal8 fuel a0 = some y) {w : World} {v0 : Value} :
  Spec Try.prog 64 [v0].toArray w [(false, .val (Rep.slice (Rep.int .u8)) v0 a0)] [] (fun v Γr Ωr Ωo => ∃ u0 : Value, v = u0 ∧ Γr = [] ∧ Ωr = [(true, .slice 5 (Rep.int .u8) u0 y)] ∧ Ωo = []) := by
 refine Spec.of (L := [(0, v0)]) Try.func64 rfl ⟨rfl, trivial⟩ rfl (fun e h => ?_)
 unfold checksum_Seal8 at hF
 refine Run.seq ?_
 refine Run.reg ?_
 refine op (OpS.as rfl rfl rfl ?_)
 refine RunL.nil ?_
 refine Run.slim [(0, v0)] ⟨rfl, trivial⟩ ?_
 refine Run.seq ?_
 refine Run.reg ?_
 refine op (OpS.mv rfl rfl rfl ?_)
 obtain ⟨y1, e1, hF⟩ := bindP_use hF
 refine op (OpS.callP h Try.func41 rfl rfl rfl rfl (vs := [v0]) rfl (slices_Clone_byte_byte_ok e1) (.cons (f := false) (V.at .z) .nil) ?_)
 rintro u1 w1 _ _ _ ⟨_, rfl, rfl, rfl, rfl⟩ h1
 have h2 := h1 rfl rfl
 simp only [List.cons_append, List.nil_append] at h2
 refine op (OpS.mv rfl rfl rfl ?_)
 obtain ⟨y2, e2, hF⟩ := bindP_use hF
 refine op (OpS.callP h2 Try.func68 rfl rfl rfl rfl (vs := [v0]) rfl (checksum_Sum8_ok e2) (.cons (f := false) (V.at .z) .nil) ?_)
 rintro _ w2 _ _ _ ⟨rfl, rfl, rfl, rfl⟩ h3
 have h4 := h3 rfl rfl
 simp only [List.cons_append, List.nil_append] at h4
 refine op (OpS.lit (r := (Rep.int .u8)) (f := true) h4 Try.underlying22 ti5 rfl rfl rfl rfl rfl (.cons rfl V.int .nil) rfl rfl (fun u2 w3 h5 => ?_))
 obtain ⟨x1, e3, hF⟩ := bindP_use hF
 refine op (OpS.app (f' := true) h5 .z Try.underlying22 ti5 rfl rfl rfl rfl rfl rfl rfl (V.at .z) (.inr Pure.int) e3 (fun u3 w4 h6 => ?_))
 refine op (OpS.as rfl rfl rfl ?_)
 refine RunL.nil ?_
 refine Run.slim [(2, u3)] ⟨rfl, trivial⟩ ?_
 refine Run.retP rfl (.tmp rfl .nil) ?_
 cases hF
 exact Post.mk' ⟨u3, rfl, rfl, rfl, rfl⟩ (h6.picks (.cons .z .nil)) .nil
theorem message_encode_ok {fuel : Nat} {a0 : Message_} {y : (List Int)} (hF : message_encode fuel a0 = some y) {w : World} {v0 : Value} :
  Spec Try.prog 36 [v0].toArray w [(false, .val Message_.rep v0 a0)] [] (fun v Γr Ωr Ωo => ∃ u0 : Value, v = u0 ∧ Γr = [] ∧ Ωr = [(true, .slice 5 (Rep.int .u8) u0 y)] ∧ Ωo = []) := by
 refine Spec.of (L := [(0, v0)]) Try.func36 rfl ⟨rfl, trivial⟩ rfl (fun e h => ?_)
 unfold message_encode at hF
 refine Run.seq ?_
 refine Run.reg ?_
 refine op (OpS.boxF h rfl rfl rfl (V.at .z) (fun u1 w1 h1 => ?_))
 refine op (OpS.as rfl rfl rfl ?_)
 refine RunL.nil ?_
 refine Run.slim [(1, u1)] ⟨rfl, trivial⟩ ?_
 refine Run.seq ?_
 refine Run.reg ?_
 refine op (OpS.fbox (o3 := 0) h1 .z PA.z fa37_0 rfl rfl rfl rfl ?_)
 refine op (OpS.loadBi h1 .z PA.a (Get.fld Message_.f0) ty5 rfl rfl rfl ?_)
 refine op (OpS.bin rfl rfl rfl rfl rfl ?_)
 refine op (OpS.fbox (o3 := 2) h1 .z PA.z fa37_2 rfl rfl rfl rfl ?_)
 refine op (OpS.loadBi h1 .z PA.a (Get.fld Message_.f2) ty5 rfl rfl rfl ?_)
 refine op (OpS.bin rfl rfl rfl rfl rfl ?_)
 refine op (OpS.fbox (o3 := 4) h1 .z PA.z fa37_4 rfl rfl rfl rfl ?_)
 refine op (OpS.loadBi h1 .z PA.a (Get.fld Message_.f4) ty3 rfl rfl rfl ?_)
 refine op (OpS.conv Try.underlying3 Try.underlying5 rfl rfl rfl ?_)
 refine op (OpS.bin rfl rfl rfl rfl rfl ?_)
 refine op (OpS.lit (r := (Rep.int .u8)) (f := true) h1 Try.underlying22 ti5 rfl rfl rfl rfl rfl (.cons rfl V.int (.cons rfl V.int .nil)) rfl rfl (fun u2 w2 h2 => ?_))
 obtain ⟨y1, e1, hF⟩ := bindP_use hF
 refine op (OpS.callP h2 Try.func64 rfl rfl rfl rfl (vs := [u2]) rfl (checksum_Seal8_ok e1) (.cons (f := true) (V.at .z) .nil) ?_)
 rintro u3 w3 _ _ _ ⟨_, rfl, rfl, rfl, rfl⟩ h3
 have h4 := h3 rfl rfl
 simp only [List.cons_append, List.nil_append] at h4
 refine op (OpS.as rfl rfl rfl ?_)
 refine RunL.nil ?_
 refine Run.slim [(3, u3), (1, u1)] ⟨rfl, rfl, trivial⟩ ?_
 refine Run.seq ?_
 refine Run.reg ?_
 refine op (OpS.fbox (o3 := 1) h4 (.s .z) PA.z fa37_1 rfl rfl rfl rfl ?_)
 refine op (OpS.loadBi h4 (.s .z) PA.a (Get.fld Message_.f1) ty5 rfl rfl rfl ?_)
 refine op (OpS.bin rfl rfl rfl rfl rfl ?_)
 refine op (OpS.fbox (o3 := 6) h4 (.s .z) PA.z fa37_6 rfl rfl rfl rfl ?_)
 refine op (OpS.loadBi h4 (.s .z) PA.a (Get.fld Message_.f6) ty3 rfl rfl rfl ?_)
 refine op (OpS.bin rfl rfl rfl rfl rfl ?_)
 refine op (OpS.fbox (o3 := 5) h4 (.s .z) PA.z fa37_5 rfl rfl rfl rfl ?_)
 refine op (OpS.loadBi h4 (.s .z) PA.a (Get.fld Message_.f5) ty3 rfl rfl rfl ?_)
 refine op (OpS.bin rfl rfl rfl rfl rfl ?_)
 refine op (OpS.conv Try.underlying3 Try.underlying5 rfl rfl rfl ?_)
 refine op (OpS.fbox (o3 := 3) h4 (.s .z) PA.z fa37_3 rfl rfl rfl rfl ?_)
 refine op (OpS.loadBi h4 (.s .z) PA.a (Get.fld Message_.f3) ty5 rfl rfl rfl ?_)
 refine op (OpS.litO (r := (Rep.int .u8)) (f := true) h4 Try.underlying22 ti5 rfl rfl rfl rfl rfl (.cons rfl V.int (.cons rfl V.int (.cons rfl V.int .nil))) rfl rfl (fun u4 w4 h5 => ?_))
 refine op (OpS.as rfl rfl rfl ?_)
 refine RunL.nil ?_
 refine Run.slim [(4, u4), (3, u3), (1, u1)] ⟨rfl, rfl, rfl, trivial⟩ ?_
 refine Run.seq ?_
 refine Run.seq ?_
 refine Run.reg ?_
 refine op (OpS.loadB h5 (.s (.s .z)) PA.z Get.id ty37 rfl rfl rfl (fun u5 h6 => ?_))
 obtain ⟨y2, e2, hF⟩ := bindP_use hF
 refine op (OpS.callP h6 Try.func35 rfl rfl rfl rfl (vs := [u5]) rfl (message_request_ok e2) (.cons (f := false) (V.at .z) .nil) ?_)
 rintro _ w5 _ _ _ ⟨rfl, rfl, rfl, rfl⟩ h7
 have h8 := h7 rfl rfl
 simp only [List.cons_append, List.nil_append] at h8
 refine op (OpS.not rfl rfl rfl ?_)
 refine RunL.nil ?_
 refine Run.slim [(32, .bool (!y2)), (4, u4), (3, u3), (1, u1)] ⟨rfl, rfl, rfl, rfl, trivial⟩ ?_
 refine Run.join (σ := ((List Int))) (fun s_ L_ w_ => ∃ u0_ : Value, L_ = [(1, u1), (3, u3), (4, u0_)] ∧ St e w_ [] [(false, .box 37 Message_.rep u1 a0), (true, .slice 5 (Rep.int .u8) u3 y1), (true, .slice 5 (Rep.int .u8) u0_ s_)]) hF (fun s1 _ w6 hI hF => ?_) (fun j1 hj1 hF => ?_)
 ·
  obtain ⟨u6, rfl, h9⟩ := hI
  refine Run.seq ?_
  refine Run.reg ?_
  refine op (OpS.mv rfl rfl rfl ?_)
  refine op (OpS.mv rfl rfl rfl ?_)
  refine op (OpS.fbox (o3 := 8) h9 .z PA.z fa37_8 rfl rfl rfl rfl ?_)
  refine op (OpS.loadB h9 .z PA.a (Get.fld Message_.f8) ty22 rfl rfl rfl (fun u7 h10 => ?_))
  obtain ⟨x1, e3, hF⟩ := bindP_use hF
  refine op (OpS.app (f' := false) h10 (.s (.s .z)) Try.underlying22 ti5 rfl rfl rfl rfl rfl rfl rfl (V.at .z) (.inr Pure.int) e3 (fun u8 w7 h11 => ?_))
  obtain ⟨y3, e4, hF⟩ := bindP_use hF
  refine op (OpS.callP h11 Try.func64 rfl rfl rfl rfl (vs := [u8]) rfl (checksum_Seal8_ok e4) (.own .z .nil) ?_)
  rintro u9 w8 _ _ _ ⟨_, rfl, rfl, rfl, rfl⟩ h12
  have h13 := h12 rfl rfl
  simp only [List.cons_append, List.nil_append] at h13
  have h14 := (h13.pick .z).freeze
  obtain ⟨x2, e5, hF⟩ := bindP_use hF
  refine op (OpS.app (f' := true) h14 (.s (.s .z)) Try.underlying22 ti5 rfl rfl rfl rfl rfl rfl rfl (V.at .z) (.inr Pure.int) e5 (fun u10 w9 h15 => ?_))
  refine op (OpS.as rfl rfl rfl ?_)
  refine RunL.nil ?_
  refine Run.slim [(2, u10)] ⟨rfl, trivial⟩ ?_
  refine Run.retP rfl (.tmp rfl .nil) ?_
  cases hF
  exact Post.mk' ⟨u10, rfl, rfl, rfl, rfl⟩ (h15.picks (.cons .z .nil)) .nil
 ·
  refine Run.ite rfl hF (fun e6 hF => ?_) (fun e6 hF => ?_)
  ·
   refine Run.reg ?_
   refine op (OpS.mv rfl rfl rfl ?_)
   refine op (OpS.fbox (o3 := 7) h8 (.s (.s .z)) PA.z fa37_7 rfl rfl rfl rfl ?_)
   refine op (OpS.loadBi h8 (.s (.s .z)) PA.a (Get.fld Message_.f7) ty5 rfl rfl rfl ?_)
   refine op (OpS.lit (r := (Rep.int .u8)) (f := true) h8 Try.underlying22 ti5 rfl rfl rfl rfl rfl (.cons rfl V.int .nil) rfl rfl (fun u11 w10 h16 => ?_))
   obtain ⟨x3, e7, hF⟩ := bindP_use hF
   refine op (OpS.app (f' := true) h16 .z Try.underlying22 ti5 rfl rfl rfl rfl rfl rfl rfl (V.at .z) (.inr Pure.int) e7 (fun u12 w11 h17 => ?_))
   refine op (OpS.as rfl rfl rfl ?_)
   refine RunL.nil ?_
   refine Run.slim [(4, u12), (3, u3), (1, u1)] ⟨rfl, rfl, rfl, trivial⟩ ?_
   refine Run.slim [(1, u1), (3, u3), (4, u12)] ⟨rfl, rfl, rfl, trivial⟩ ?_
   exact hj1 (x3) _ _ ⟨u12, rfl, (h17.facts .nil).picks (.cons (.s (.s .z)) (.cons (.s .z) (.cons .z .nil)))⟩ hF
  ·
   refine Run.skip ?_
   refine Run.slim [(1, u1), (3, u3), (4, u4)] ⟨rfl, rfl, rfl, trivial⟩ ?_
   exact hj1 ([(IntKind.u8.wrap (2 * a0.From)), (IntKind.u8.wrap (IntKind.i64.wrap ((IntKind.i64.wrap (4 * a0.Sequence)) + a0.FromUnit))), a0.Command]) _ _ ⟨u4, rfl, (h8.facts .nil).picks (.cons (.s (.s .z)) (.cons (.s .z) (.cons .z .nil)))⟩ hF
theorem message_Request_ok {fuel : Nat} {a0 : Message_} {y : (List Int) × Int} (hF : message_Request fuel a0 = some y) {w : World} {v0 : Value} :
  Spec Try.prog 13 [v0].toArray w [(false, .val Message_.rep v0 a0)] [] (fun v Γr Ωr Ωo => ∃ u0 : Value, v = .tuple #[u0, .int .i64 y.2] ∧ Γr = [] ∧ Ωr = [(true, .slice 5 (Rep.int .u8) u0 y.1)] ∧ Ωo = []) := by
 refine Spec.of (L := [(0, v0)]) Try.func13 rfl ⟨rfl, trivial⟩ rfl (fun e h => ?_)
 unfold message_Request at hF
 refine Run.seq ?_
 refine Run.reg ?_
 refine op (OpS.boxF h rfl rfl rfl (V.at .z) (fun u1 w1 h1 => ?_))
 refine op (OpS.as rfl rfl rfl ?_)
 refine op (OpS.as rfl rfl rfl ?_)
 refine RunL.nil ?_
 refine Run.slim [(1, u1)] ⟨rfl, trivial⟩ ?_
 refine Run.seq ?_
 refine Run.seq ?_
 refine Run.reg ?_
 refine op (OpS.loadB h1 .z PA.z Get.id ty37 rfl rfl rfl (fun u2 h2 => ?_))
 obtain ⟨y1, e1, hF⟩ := bindP_use hF
 refine op (OpS.callP h2 Try.func34 rfl rfl rfl rfl (vs := [u2]) rfl (message_Valid_ok e1) (.cons (f := false) (V.at .z) .nil) ?_)
 rintro _ w2 _ _ _ ⟨rfl, rfl, rfl, rfl⟩ h3
 have h4 := h3 rfl rfl
 simp only [List.cons_append, List.nil_append] at h4
 refine op (OpS.not rfl rfl rfl ?_)
 refine op (OpS.mv rfl rfl rfl ?_)
 refine RunL.join (σ := Bool) (fun s_ L_ w_ => L_ = [(1, u1), (11, .bool s_)] ∧ St e w_ [] [(false, .box 37 Message_.rep u1 a0)]) hF (fun s1 _ w3 hI hF => ?_) (fun j1 hj1 hF => ?_)
 ·
  obtain ⟨rfl, h5⟩ := hI
  refine Run.ite rfl hF (fun e2 hF => ?_) (fun e2 hF => ?_)
  ·
   refine Run.seq ?_
   refine Run.reg ?_
   refine op (OpS.as rfl rfl rfl ?_)
   refine op (OpS.as rfl rfl rfl ?_)
   refine RunL.nil ?_
   refine Run.slim [(3, .int .i64 1), (2, .slice none 0 0)] ⟨rfl, rfl, trivial⟩ ?_
   have h6 := St.nil 5 (Rep.int .u8) h5
   refine Run.retP rfl (.tmp rfl (.tmp rfl .nil)) ?_
   cases hF
   exact Post.mk' ⟨(.slice none 0 0), rfl, rfl, rfl, rfl⟩ (h6.picks (.cons .z .nil)) .nil
  ·
   refine Run.skip ?_
   refine Run.seq ?_
   refine Run.reg ?_
   refine op (OpS.loadB h5 .z PA.z Get.id ty37 rfl rfl rfl (fun u3 h7 => ?_))
   obtain ⟨y2, e3, hF⟩ := bindP_use hF
   refine op (OpS.callP h7 Try.func36 rfl rfl rfl rfl (vs := [u3]) rfl (message_encode_ok e3) (.cons (f := false) (V.at .z) .nil) ?_)
   rintro u4 w4 _ _ _ ⟨_, rfl, rfl, rfl, rfl⟩ h8
   have h9 := h8 rfl rfl
   simp only [List.cons_append, List.nil_append] at h9
   refine op (OpS.as rfl rfl rfl ?_)
   refine op (OpS.as rfl rfl rfl ?_)
   refine RunL.nil ?_
   refine Run.slim [(3, .int .i64 0), (2, u4)] ⟨rfl, rfl, trivial⟩ ?_
   refine Run.retP rfl (.tmp rfl (.tmp rfl .nil)) ?_
   cases hF
   exact Post.mk' ⟨u4, rfl, rfl, rfl, rfl⟩ (h9.picks (.cons .z .nil)) .nil
 ·
  refine RunL.caseb hF (fun e4 hF => ?_) (fun e4 hF => ?_)
  ·
   refine op (OpS.pass rfl rfl rfl ?_)
   refine op (OpS.pass rfl rfl rfl ?_)
   refine op (OpS.pass rfl rfl rfl ?_)
   refine op (OpS.pick rfl rfl rfl rfl ?_)
   refine RunL.nil ?_
   refine Run.slim [(11, .bool true), (1, u1)] ⟨rfl, rfl, trivial⟩ ?_
   refine Run.slim [(1, u1), (11, .bool true)] ⟨rfl, rfl, trivial⟩ ?_
   exact hj1 (true) _ _ ⟨rfl, (h4.facts .nil).picks (.cons .z .nil)⟩ hF
  ·
   refine op (OpS.loadB h4 .z PA.z Get.id ty37 rfl rfl rfl (fun u5 h10 => ?_))
   obtain ⟨y3, e5, hF⟩ := bindP_use hF
   refine op (OpS.callP h10 Try.func35 rfl rfl rfl rfl (vs := [u5]) rfl (message_request_ok e5) (.cons (f := false) (V.at .z) .nil) ?_)
   rintro _ w5 _ _ _ ⟨rfl, rfl, rfl, rfl⟩ h11
   have h12 := h11 rfl rfl
   simp only [List.cons_append, List.nil_append] at h12
   refine op (OpS.not rfl rfl rfl ?_)
   refine op (OpS.pick rfl rfl rfl rfl ?_)
   refine RunL.nil ?_
   refine Run.slim [(11, .bool (!y3)), (1, u1)] ⟨rfl, rfl, trivial⟩ ?_
   refine Run.slim [(1, u1), (11, .bool (!y3))] ⟨rfl, rfl, trivial⟩ ?_
   exact hj1 (!y3) _ _ ⟨rfl, (h12.facts .nil).picks (.cons .z .nil)⟩ hF
theorem slices_Clone_api_Message_api_Message_ok {fuel : Nat} {a0 : List Message_} {y : (List Message_)} (hF : slices_Clone_api_Message_api_Message fuel a0 = some y) {w : World} {v0 : Value} :
  Spec Try.prog 46 [v0].toArray w [(false, .val (Rep.slice Message_.rep) v0 a0)] [] (fun v Γr Ωr Ωo => ∃ u0 : Value, v = u0 ∧ Γr = [] ∧ Ωr = [(false, .slice 37 Message_.rep u0 y)] ∧ Ωo = []) := by
 refine Spec.of (L := [(0, v0)]) Try.func46 rfl ⟨rfl, trivial⟩ rfl (fun e h => ?_)
 unfold slices_Clone_api_Message_api_Message at hF
 refine Run.seq ?_
 refine Run.reg ?_
 refine op (OpS.as rfl rfl rfl ?_)
 refine RunL.nil ?_
 refine Run.slim [(0, v0)] ⟨rfl, trivial⟩ ?_
 refine Run.seq ?_
 refine Run.seq ?_
 refine Run.reg ?_
 refine op (OpS.mv rfl rfl rfl ?_)
 refine op (OpS.snil h Try.underlying26 rfl rfl rfl (V.at .z) (fun b1 hb1 => ?_))
 refine RunL.nil ?_
 refine Run.slim [(4, .bool b1), (0, v0)] ⟨rfl, rfl, trivial⟩ ?_
 cases b1
 ·
  refine Run.condF rfl ?_
  refine Run.skip ?_
  refine Run.seq ?_
  refine Run.reg ?_
  refine op (OpS.litO (r := Message_.rep) (f := true) h Try.underlying26 ti37 rfl rfl rfl rfl rfl .nil rfl rfl (fun u1 w1 h1 => ?_))
  refine op (OpS.mv rfl rfl rfl ?_)
  obtain ⟨x1, e1, hF⟩ := bindP_use hF
  have h2 := (h1.pick .z).weak
  refine op (OpS.app (f' := false) h2 .z Try.underlying26 ti37 rfl rfl rfl rfl rfl rfl rfl (V.at .z) (.inl (.inr rfl)) e1 (fun u2 w2 h3 => ?_))
  refine op (OpS.as rfl rfl rfl ?_)
  refine RunL.nil ?_
  refine Run.slim [(2, u2)] ⟨rfl, trivial⟩ ?_
  refine Run.retP rfl (.tmp rfl .nil) ?_
  cases hF
  exact Post.mk' ⟨u2, rfl, rfl, rfl, rfl⟩ (h3.picks (.cons .z .nil)) .nil
 ·
  obtain rfl := hb1 rfl
  have hF : some ([] : List Message_) = some y := by simpa [bindP, app] using hF
  refine Run.condT rfl ?_
  refine Run.seq ?_
  refine Run.reg ?_
  refine op (OpS.as rfl rfl rfl ?_)
  refine RunL.nil ?_
  refine Run.slim [(2, .slice none 0 0)] ⟨rfl, trivial⟩ ?_
  have h4 := St.nil 37 Message_.rep h
  have h5 := (h4.pick .z).weak
  refine Run.retP rfl (.tmp rfl .nil) ?_
  cases hF
  exact Post.mk' ⟨(.slice none 0 0), rfl, rfl, rfl, rfl⟩ (h5.picks (.cons .z .nil)) .nil
set_option maxHeartbeats 8000000 in
theorem message_parse_ok {fuel : Nat} {a0 : List Int} {a1 : Int} {y : Message_ × Int} (hF : message_parse fuel a0 a1 = some y) {w : World} {v0 : Value} :
  Spec Try.prog 45 [v0, .int .i64 a1].toArray w [(false, .val (Rep.slice (Rep.int .u8)) v0 a0)] [] (fun v Γr Ωr Ωo => ∃ u0 : Value, v = .tuple #[u0, .int .i64 y.2] ∧ Γr = [(true, .val Message_.rep u0 y.1)] ∧ Ωr = [] ∧ Ωo = []) := by
 refine Spec.of (L := [(0, v0), (1, .int .i64 a1)]) Try.func45 rfl ⟨rfl, rfl, trivial⟩ rfl (fun e h => ?_)
 unfold message_parse at hF
 refine Run.seq ?_
 refine Run.reg ?_
 refine op (OpS.alloc h ti37 Message_.zr rfl rfl (fun u1 w1 h1 => ?_))
 refine op (OpS.as rfl rfl rfl ?_)
 refine RunL.nil ?_
 refine Run.slim [(4, u1), (0, v0), (1, .int .i64 a1)] ⟨rfl, rfl, rfl, trivial⟩ ?_
 refine Run.seq ?_
 refine Run.seq ?_
 refine Run.reg ?_
 refine op (OpS.mv rfl rfl rfl ?_)
 obtain ⟨x1, e1, hF⟩ := bindP_use hF
 refine op (OpS.sub h1 Try.underlying22 ty5 rfl rfl rfl rfl rfl (V.at .z) e1 (fun u2 h2 => ?_))
 obtain ⟨y1, e2, hF⟩ := bindP_use hF
 refine op (OpS.callP h2 Try.func68 rfl rfl rfl rfl (vs := [u2]) rfl (checksum_Sum8_ok e2) (.cons (f := false) (V.at .z) .nil) ?_)
 rintro _ w2 _ _ _ ⟨rfl, rfl, rfl, rfl⟩ h3
 have h4 := h3 rfl rfl
 simp only [List.cons_append, List.nil_append] at h4
 refine op (OpS.bin rfl rfl rfl rfl rfl ?_)
 refine op (OpS.mv rfl rfl rfl ?_)
 refine RunL.join (σ := Bool) (fun s_ L_ w_ => L_ = [(0, v0), (1, .int .i64 a1), (4, u1), (16, .bool s_)] ∧ St e w_ [(false, .val (Rep.slice (Rep.int .u8)) v0 a0)] [(true, .box 37 Message_.rep u1 Message_.z)]) hF (fun s1 _ w3 hI hF => ?_) (fun j1 hj1 hF => ?_)
 ·
  obtain ⟨rfl, h5⟩ := hI
  refine Run.ite rfl hF (fun e3 hF => ?_) (fun e3 hF => ?_)
  ·
   refine Run.seq ?_
   refine Run.reg ?_
   refine op (OpS.build (f := true) (x' := Message_.z) h5 pl37 ti37 Message_.zr rfl rfl rfl .nil (fun u3 h6 => ?_))
   refine op (OpS.storeB (f' := true) h6 .z PA.z Put.id ty37 rfl rfl rfl (V.at .z) (.inl rfl) (fun w4 h7 => ?_))
   refine op (OpS.as rfl rfl rfl ?_)
   refine RunL.nil ?_
   refine Run.slim [(5, .int .i64 5), (4, u1)] ⟨rfl, rfl, trivial⟩ ?_
   obtain ⟨u4, hu1, h8⟩ := res_box h7 .z ty37
   refine Run.retP rfl (.cell rfl hu1 (.tmp rfl .nil)) ?_
   cases hF
   exact Post.mk' ⟨u4, rfl, rfl, rfl, rfl⟩ (h8.picks .nil) (.val (V.at .z) .nil)
  ·
   refine Run.skip ?_
   refine Run.seq ?_
   obtain ⟨x2, e4, hF⟩ := bindP_use hF
   obtain ⟨x3, e5, hF⟩ := bindP_use hF
   obtain ⟨x4, e6, hF⟩ := bindP_use hF
   obtain ⟨x5, e7, hF⟩ := bindP_use hF
   obtain ⟨x6, e8, hF⟩ := bindP_use hF
   obtain ⟨x7, e9, hF⟩ := bindP_use hF
   obtain ⟨x8, e10, hF⟩ := bindP_use hF
   obtain ⟨x9, e11, hF⟩ := bindP_use hF
   obtain ⟨y2, e12, hF⟩ := bindP_use hF
   refine Run.drawV (Ωs := [(true, .box 37 Message_.rep u1 Message_.z)]) [⟨some 18, some (v0), fun _ => [], fun ds_ u_ => [], [], [], none⟩, ⟨some 19, none, fun u_ => [(false, .ptr (Rep.int .u8) u_ x2)], fun ds_ u_ => [], [], [], none⟩, ⟨some 20, some (.int .u8 x2), fun _ => [], fun ds_ u_ => [], [], [], none⟩, ⟨some 21, some (.int .u8 (IntKind.u8.wrap (Int.tdiv x2 2))), fun _ => [], fun ds_ u_ => [], [], [], none⟩, ⟨some 22, some (v0), fun _ => [], fun ds_ u_ => [], [], [], none⟩, ⟨some 23, none, fun u_ => [(false, .ptr (Rep.int .u8) u_ x3)], fun ds_ u_ => [], [], [], none⟩, ⟨some 24, some (.int .u8 x3), fun _ => [], fun ds_ u_ => [], [], [], none⟩, ⟨some 25, some (.int .u8 (IntKind.u8.wrap (Int.tdiv x3 2))), fun _ => [], fun ds_ u_ => [], [], [], none⟩, ⟨some 26, some (v0), fun _ => [], fun ds_ u_ => [], [], [], none⟩, ⟨some 27, none, fun u_ => [(false, .ptr (Rep.int .u8) u_ x4)], fun ds_ u_ => [], [], [], none⟩, ⟨some 28, some (.int .u8 x4), fun _ => [], fun ds_ u_ => [], [], [], none⟩, ⟨some 29, some (.int .u8 (IntKind.u8.wrap (Int.tdiv x4 4))), fun _ => [], fun ds_ u_ => [], [], [], none⟩, ⟨some 30, some (v0), fun _ => [], fun ds_ u_ => [], [], [], none⟩, ⟨some 31, none, fun u_ => [(false, .ptr (Rep.int .u8) u_ x5)], fun ds_ u_ => [], [], [], none⟩, ⟨some 32, some (.int .u8 x5), fun _ => [], fun ds_ u_ => [], [], [], none⟩, ⟨some 33, some (v0), fun _ => [], fun ds_ u_ => [], [], [], none⟩, ⟨some 34, none, fun u_ => [(false, .ptr (Rep.int .u8) u_ x6)], fun ds_ u_ => [], [], [], none⟩, ⟨some 35, some (.int .u8 x6), fun _ => [], fun ds_ u_ => [], [], [], none⟩, ⟨some 36, some (.int .u8 (Int.tmod x6 4)), fun _ => [], fun ds_ u_ => [], [], [], none⟩, ⟨some 37, some (.int .i64 (IntKind.i64.wrap (Int.tmod x6 4))), fun _ => [], fun ds_ u_ => [], [], [], none⟩, ⟨some 38, some (v0), fun _ => [], fun ds_ u_ => [], [], [], none⟩, ⟨some 39, none, fun u_ => [(false, .ptr (Rep.int .u8) u_ x7)], fun ds_ u_ => [], [], [], none⟩, ⟨some 40, some (.int .u8 x7), fun _ => [], fun ds_ u_ => [], [], [], none⟩, ⟨some 41, some (.int .u8 (Int.tmod x7 4)), fun _ => [], fun ds_ u_ => [], [], [], none⟩, ⟨some 42, some (.int .i64 (IntKind.i64.wrap (Int.tmod x7 4))), fun _ => [], fun ds_ u_ => [], [], [], none⟩, ⟨some 43, some (v0), fun _ => [], fun ds_ u_ => [], [], [], none⟩, ⟨some 44, none, fun u_ => [(false, .ptr (Rep.int .u8) u_ x8)], fun ds_ u_ => [], [], [], none⟩, ⟨some 45, some (.int .u8 x8), fun _ => [], fun ds_ u_ => [], [], [], none⟩, ⟨some 46, some (.int .u8 (IntKind.u8.wrap (Int.tdiv x8 4))), fun _ => [], fun ds_ u_ => [], [], [], none⟩, ⟨some 47, some (.int .i64 (IntKind.i64.wrap (IntKind.u8.wrap (Int.tdiv x8 4)))), fun _ => [], fun ds_ u_ => [], [], [], none⟩, ⟨some 48, some (v0), fun _ => [], fun ds_ u_ => [], [], [], none⟩, ⟨some 49, some (.int .i64 a1), fun _ => [], fun ds_ u_ => [], [], [], none⟩, ⟨some 50, some (v0), fun _ => [], fun ds_ u_ => [], [], [], none⟩, ⟨some 51, some (.int .i64 (a0.length : Int)), fun _ => [], fun ds_ u_ => [], [], [], none⟩, ⟨some 52, some (.int .i64 (IntKind.i64.wrap ((a0.length : Int) - 1))), fun _ => [], fun ds_ u_ => [], [], [], none⟩, ⟨some 53, none, fun u_ => [(false, .val (Rep.slice (Rep.int .u8)) u_ x9)], fun ds_ u_ => [], [], [], none⟩, ⟨some 54, none, fun u_ => [(true, .val (Rep.slice (Rep.int .u8)) u_ y2)], fun ds_ u_ => [], [], [], none⟩, ⟨some 55, none, fun u_ => [(true, .val Message_.rep u_ (⟨(IntKind.u8.wrap (Int.tdiv x2 2)), (IntKind.u8.wrap (Int.tdiv x3 2)), (IntKind.u8.wrap (Int.tdiv x4 4)), x5, (IntKind.i64.wrap (Int.tmod x6 4)), (IntKind.i64.wrap (Int.tmod x7 4)), (IntKind.i64.wrap (IntKind.u8.wrap (Int.tdiv x8 4))), 0, y2⟩ : Message_))], fun ds_ u_ => [], [], [], none⟩, ⟨some 6, none, fun u_ => [], fun ds_ u_ => [(true, .box 37 Message_.rep u_ Message_.z)], [], [], none⟩] [[], [0], [1], [2], [], [4], [5], [6], [], [8], [9], [10], [], [12], [13], [], [15], [16], [17], [18], [], [20], [21], [22], [23], [], [25], [26], [27], [28], [], [], [], [32], [33], [30, 31, 34], [35], [3, 7, 11, 14, 19, 24, 29, 36], []] [] [0, 1, 2, 3, 4, 5, 6, 7, 8, 9, 10, 11, 12, 13, 14, 15, 16, 17, 18, 19, 20, 21, 22, 23, 24, 25, 26, 27, 28, 29, 30, 31, 32, 33, 34, 35, 36, 37, 38] Try_mixed rfl rfl rfl h5 (.cons ?_ (.cons ?_ (.cons ?_ (.cons ?_ (.cons ?_ (.cons ?_ (.cons ?_ (.cons ?_ (.cons ?_ (.cons ?_ (.cons ?_ (.cons ?_ (.cons ?_ (.cons ?_ (.cons ?_ (.cons ?_ (.cons ?_ (.cons ?_ (.cons ?_ (.cons ?_ (.cons ?_ (.cons ?_ (.cons ?_ (.cons ?_ (.cons ?_ (.cons ?_ (.cons ?_ (.cons ?_ (.cons ?_ (.cons ?_ (.cons ?_ (.cons ?_ (.cons ?_ (.cons ?_ (.cons ?_ (.cons ?_ (.cons ?_ (.cons ?_ (.cons ?_ .nil))))))))))))))))))))))))))))))))))))))) (fun q1 w hq1 h => ?_)
   ·intro q1 w Γx Ωx h
    refine OpS.mv rfl rfl rfl ?_
    exact ⟨undef, rfl, trivial, h⟩
   ·intro q1 w Γx Ωx h
    refine OpS.iptr h Try.underlying22 ty5 rfl rfl rfl rfl (V.at .z) e4 (fun u h22 => ?_)
    exact ⟨u, rfl, trivial, h22⟩
   ·intro q1 w Γx Ωx h
    refine OpS.loadi h ty5 rfl rfl rfl .z ?_
    exact ⟨undef, rfl, trivial, h⟩
   ·intro q1 w Γx Ωx h
    refine OpS.quo rfl rfl rfl rfl (by decide) ?_
    exact ⟨undef, rfl, trivial, h⟩
   ·intro q1 w Γx Ωx h
    refine OpS.mv rfl rfl rfl ?_
    exact ⟨undef, rfl, trivial, h⟩
   ·intro q1 w Γx Ωx h
    refine OpS.iptr h Try.underlying22 ty5 rfl rfl rfl rfl (V.at .z) e5 (fun u h23 => ?_)
    exact ⟨u, rfl, trivial, h23⟩
   ·intro q1 w Γx Ωx h
    refine OpS.loadi h ty5 rfl rfl rfl .z ?_
    exact ⟨undef, rfl, trivial, h⟩
   ·intro q1 w Γx Ωx h
    refine OpS.quo rfl rfl rfl rfl (by decide) ?_
    exact ⟨undef, rfl, trivial, h⟩
   ·intro q1 w Γx Ωx h
    refine OpS.mv rfl rfl rfl ?_
    exact ⟨undef, rfl, trivial, h⟩
   ·intro q1 w Γx Ωx h
    refine OpS.iptr h Try.underlying22 ty5 rfl rfl rfl rfl (V.at .z) e6 (fun u h24 => ?_)
    exact ⟨u, rfl, trivial, h24⟩
   ·intro q1 w Γx Ωx h
    refine OpS.loadi h ty5 rfl rfl rfl .z ?_
    exact ⟨undef, rfl, trivial, h⟩
   ·intro q1 w Γx Ωx h
    refine OpS.quo rfl rfl rfl rfl (by decide) ?_
    exact ⟨undef, rfl, trivial, h⟩
   ·intro q1 w Γx Ωx h
    refine OpS.mv rfl rfl rfl ?_
    exact ⟨undef, rfl, trivial, h⟩
   ·intro q1 w Γx Ωx h
    refine OpS.iptr h Try.underlying22 ty5 rfl rfl rfl rfl (V.at .z) e7 (fun u h25 => ?_)
    exact ⟨u, rfl, trivial, h25⟩
   ·intro q1 w Γx Ωx h
    refine OpS.loadi h ty5 rfl rfl rfl .z ?_
    exact ⟨undef, rfl, trivial, h⟩
   ·intro q1 w Γx Ωx h
    refine OpS.mv rfl rfl rfl ?_
    exact ⟨undef, rfl, trivial, h⟩
   ·intro q1 w Γx Ωx h
    refine OpS.iptr h Try.underlying22 ty5 rfl rfl rfl rfl (V.at .z) e8 (fun u h26 => ?_)
    exact ⟨u, rfl, trivial, h26⟩
   ·intro q1 w Γx Ωx h
    refine OpS.loadi h ty5 rfl rfl rfl .z ?_
    exact ⟨undef, rfl, trivial, h⟩
   ·intro q1 w Γx Ωx h
    refine OpS.rem rfl rfl rfl rfl (by decide) ?_
    exact ⟨undef, rfl, trivial, h⟩
   ·intro q1 w Γx Ωx h
    refine OpS.conv Try.underlying5 Try.underlying3 rfl rfl rfl ?_
    exact ⟨undef, rfl, trivial, h⟩
   ·intro q1 w Γx Ωx h
    refine OpS.mv rfl rfl rfl ?_
    exact ⟨undef, rfl, trivial, h⟩
   ·intro q1 w Γx Ωx h
    refine OpS.iptr h Try.underlying22 ty5 rfl rfl rfl rfl (V.at .z) e9 (fun u h27 => ?_)
    exact ⟨u, rfl, trivial, h27⟩
   ·intro q1 w Γx Ωx h
    refine OpS.loadi h ty5 rfl rfl rfl .z ?_
    exact ⟨undef, rfl, trivial, h⟩
   ·intro q1 w Γx Ωx h
    refine OpS.rem rfl rfl rfl rfl (by decide) ?_
    exact ⟨undef, rfl, trivial, h⟩
   ·intro q1 w Γx Ωx h
    refine OpS.conv Try.underlying5 Try.underlying3 rfl rfl rfl ?_
    exact ⟨undef, rfl, trivial, h⟩
   ·intro q1 w Γx Ωx h
    refine OpS.mv rfl rfl rfl ?_
    exact ⟨undef, rfl, trivial, h⟩
   ·intro q1 w Γx Ωx h
    refine OpS.iptr h Try.underlying22 ty5 rfl rfl rfl rfl (V.at .z) e10 (fun u h28 => ?_)
    exact ⟨u, rfl, trivial, h28⟩
   ·intro q1 w Γx Ωx h
    refine OpS.loadi h ty5 rfl rfl rfl .z ?_
    exact ⟨undef, rfl, trivial, h⟩
   ·intro q1 w Γx Ωx h
    refine OpS.quo rfl rfl rfl rfl (by decide) ?_
    exact ⟨undef, rfl, trivial, h⟩
   ·intro q1 w Γx Ωx h
    refine OpS.conv Try.underlying5 Try.underlying3 rfl rfl rfl ?_
    exact ⟨undef, rfl, trivial, h⟩
   ·intro q1 w Γx Ωx h
    refine OpS.mv rfl rfl rfl ?_
    exact ⟨undef, rfl, trivial, h⟩
   ·intro q1 w Γx Ωx h
    refine OpS.mv rfl rfl rfl ?_
    exact ⟨undef, rfl, trivial, h⟩
   ·intro q1 w Γx Ωx h
    refine OpS.mv rfl rfl rfl ?_
    exact ⟨undef, rfl, trivial, h⟩
   ·intro q1 w Γx Ωx h
    refine OpS.len h Try.underlying22 rfl rfl rfl (V.at .z) ?_
    exact ⟨undef, rfl, trivial, h⟩
   ·intro q1 w Γx Ωx h
    refine OpS.bin rfl rfl rfl rfl rfl ?_
    exact ⟨undef, rfl, trivial, h⟩
   ·intro q1 w Γx Ωx h
    refine OpS.sub h Try.underlying22 ty5 rfl rfl rfl rfl rfl (V.at .z) e11 (fun u h29 => ?_)
    exact ⟨u, rfl, trivial, h29⟩
   ·intro q1 w Γx Ωx h
    refine OpS.callP h Try.func41 rfl rfl rfl rfl (vs := [(q1 35)]) rfl (slices_Clone_byte_byte_ok e12) (.cons (f := false) (V.at .z) .nil) ?_
    rintro u w7 _ _ _ ⟨_, rfl, rfl, rfl, rfl⟩ h30
    have h31 := h30 rfl rfl
    simp only [List.cons_append, List.nil_append] at h31
    have h32 := h31.freeze
    exact ⟨u, rfl, trivial, h32⟩
   ·intro q1 w Γx Ωx h
    refine OpS.build (f := true) (x' := (⟨(IntKind.u8.wrap (Int.tdiv x2 2)), (IntKind.u8.wrap (Int.tdiv x3 2)), (IntKind.u8.wrap (Int.tdiv x4 4)), x5, (IntKind.i64.wrap (Int.tmod x6 4)), (IntKind.i64.wrap (Int.tmod x7 4)), (IntKind.i64.wrap (IntKind.u8.wrap (Int.tdiv x8 4))), 0, y2⟩ : Message_)) h pl37 ti37 Message_.zr rfl rfl rfl (.cons rfl Message_.f0 rfl V.int (.cons rfl Message_.f1 rfl V.int (.cons rfl Message_.f2 rfl V.int (.cons rfl Message_.f3 rfl V.int (.cons rfl Message_.f4 rfl V.int (.cons rfl Message_.f5 rfl V.int (.cons rfl Message_.f6 rfl V.int (.cons rfl Message_.f8 rfl (V.at .z) .nil)))))))) (fun u h33 => ?_)
    exact ⟨u, rfl, trivial, h33⟩
   ·intro q1 w Γx Ωx h
    refine OpS.alloc h ti37 Message_.zr rfl rfl (fun u w8 h34 => ?_)
    exact ⟨u, rfl, trivial, h34⟩
   have h35 : St e w [(false, .ptr (Rep.int .u8) (q1 1) x2), (false, .ptr (Rep.int .u8) (q1 5) x3), (false, .ptr (Rep.int .u8) (q1 9) x4), (false, .ptr (Rep.int .u8) (q1 13) x5), (false, .ptr (Rep.int .u8) (q1 16) x6), (false, .ptr (Rep.int .u8) (q1 21) x7), (false, .ptr (Rep.int .u8) (q1 26) x8), (false, .val (Rep.slice (Rep.int .u8)) (q1 35) x9), (true, .val (Rep.slice (Rep.int .u8)) (q1 36) y2), (true, .val Message_.rep (q1 37) (⟨(IntKind.u8.wrap (Int.tdiv x2 2)), (IntKind.u8.wrap (Int.tdiv x3 2)), (IntKind.u8.wrap (Int.tdiv x4 4)), x5, (IntKind.i64.wrap (Int.tmod x6 4)), (IntKind.i64.wrap (Int.tmod x7 4)), (IntKind.i64.wrap (IntKind.u8.wrap (Int.tdiv x8 4))), 0, y2⟩ : Message_)), (false, .val (Rep.slice (Rep.int .u8)) v0 a0)] [(true, .box 37 Message_.rep (q1 38) Message_.z), (true, .box 37 Message_.rep u1 Message_.z)] := h
   refine op (OpS.storeB (f' := true) h35 .z PA.z Put.id ty37 rfl rfl rfl (V.at (.s (.s (.s (.s (.s (.s (.s (.s (.s .z)))))))))) (.inl rfl) (fun w9 h36 => ?_))
   refine RunL.nil ?_
   refine Run.slim [(6, (q1 38)), (0, v0), (1, .int .i64 a1), (4, u1)] ⟨rfl, rfl, rfl, rfl, trivial⟩ ?_
   refine Run.seq ?_
   refine Run.seq ?_
   refine Run.reg ?_
   refine op (OpS.mv rfl rfl rfl ?_)
   refine op (OpS.bin rfl rfl rfl rfl rfl ?_)
   refine RunL.nil ?_
   refine Run.slim [(57, .bool (a1 == 7)), (6, (q1 38)), (0, v0), (1, .int .i64 a1), (4, u1)] ⟨rfl, rfl, rfl, rfl, rfl, trivial⟩ ?_
   refine Run.join (σ := Message_) (fun s_ L_ w_ => L_ = [(0, v0), (1, .int .i64 a1), (4, u1), (6, (q1 38))] ∧ St e w_ [(false, .val (Rep.slice (Rep.int .u8)) v0 a0)] [(true, .box 37 Message_.rep u1 Message_.z), (true, .box 37 Message_.rep (q1 38) s_)]) hF (fun s2 _ w10 hI hF => ?_) (fun j2 hj2 hF => ?_)
   ·
    obtain ⟨rfl, h37⟩ := hI
    refine Run.seq ?_
    refine Run.block ?_
    refine Run.seq ?_
    refine Run.reg ?_
    refine op (OpS.mv rfl rfl rfl ?_)
    obtain ⟨x10, e13, hF⟩ := bindP_use hF
    refine op (OpS.iptr h37 Try.underlying22 ty5 rfl rfl rfl rfl (V.at .z) e13 (fun u5 h38 => ?_))
    refine op (OpS.loadi h38 ty5 rfl rfl rfl .z ?_)
    refine op (OpS.rem rfl rfl rfl rfl (by decide) ?_)
    refine op (OpS.bin rfl rfl rfl rfl rfl ?_)
    refine op (OpS.mv rfl rfl rfl ?_)
    refine RunL.join (σ := Bool) (fun s_ L_ w_ => L_ = [(4, u1), (6, (q1 38)), (64, .bool s_)] ∧ St e w_ [] [(true, .box 37 Message_.rep u1 Message_.z), (true, .box 37 Message_.rep (q1 38) s2)]) hF (fun s3 _ w11 hI hF => ?_) (fun j3 hj3 hF => ?_)
    ·
     obtain ⟨rfl, h39⟩ := hI
     refine Run.ite rfl hF (fun e14 hF => ?_) (fun e14 hF => ?_)
     ·
      refine Run.seq ?_
      refine Run.reg ?_
      refine op (OpS.build (f := true) (x' := Message_.z) h39 pl37 ti37 Message_.zr rfl rfl rfl .nil (fun u6 h40 => ?_))
      refine op (OpS.storeB (f' := true) h40 .z PA.z Put.id ty37 rfl rfl rfl (V.at .z) (.inl rfl) (fun w12 h41 => ?_))
      refine op (OpS.as rfl rfl rfl ?_)
      refine RunL.nil ?_
      refine Run.slim [(5, .int .i64 6), (4, u1)] ⟨rfl, rfl, trivial⟩ ?_
      obtain ⟨u7, hu2, h42⟩ := res_box h41 .z ty37
      refine Run.retP rfl (.cell rfl hu2 (.tmp rfl .nil)) ?_
      cases hF
      exact Post.mk' ⟨u7, rfl, rfl, rfl, rfl⟩ (h42.picks .nil) (.val (V.at .z) .nil)
     ·
      refine Run.seq ?_
      refine Run.reg ?_
      refine op (OpS.fbox (o3 := 0) h39 (.s .z) PA.z fa37_0 rfl rfl rfl rfl ?_)
      refine op (OpS.loadBi h39 (.s .z) PA.a (Get.fld Message_.f0) ty5 rfl rfl rfl ?_)
      obtain ⟨y3, e15, hF⟩ := bindP_use hF
      refine op (OpS.callP h39 Try.func62 rfl rfl rfl rfl (vs := [.int .u8 s2.To]) rfl (message_address_ok e15) .nil ?_)
      rintro _ w13 _ _ _ ⟨rfl, rfl, rfl, rfl⟩ h43
      have h44 := h43 rfl rfl
      simp only [List.cons_append, List.nil_append] at h44
      refine op (OpS.not rfl rfl rfl ?_)
      refine op (OpS.mv rfl rfl rfl ?_)
      refine RunL.join (σ := Bool) (fun s_ L_ w_ => L_ = [(4, u1), (6, (q1 38)), (85, .bool s_)] ∧ St e w_ [] [(true, .box 37 Message_.rep u1 Message_.z), (true, .box 37 Message_.rep (q1 38) s2)]) hF (fun s4 _ w14 hI hF => ?_) (fun j4 hj4 hF => ?_)
      ·
       obtain ⟨rfl, h45⟩ := hI
       refine Run.ite rfl hF (fun e16 hF => ?_) (fun e16 hF => ?_)
       ·
        refine Run.seq ?_
        refine Run.reg ?_
        refine op (OpS.build (f := true) (x' := Message_.z) h45 pl37 ti37 Message_.zr rfl rfl rfl .nil (fun u8 h46 => ?_))
        refine op (OpS.storeB (f' := true) h46 .z PA.z Put.id ty37 rfl rfl rfl (V.at .z) (.inl rfl) (fun w15 h47 => ?_))
        refine op (OpS.as rfl rfl rfl ?_)
        refine RunL.nil ?_
        refine Run.slim [(5, .int .i64 13), (4, u1)] ⟨rfl, rfl, trivial⟩ ?_
        obtain ⟨u9, hu3, h48⟩ := res_box h47 .z ty37
        refine Run.retP rfl (.cell rfl hu3 (.tmp rfl .nil)) ?_
        cases hF
        exact Post.mk' ⟨u9, rfl, rfl, rfl, rfl⟩ (h48.picks .nil) (.val (V.at .z) .nil)
       ·
        refine Run.seq ?_
        refine Run.reg ?_
        refine op (OpS.fbox (o3 := 8) h45 (.s .z) PA.z fa37_8 rfl rfl rfl rfl ?_)
        refine op (OpS.loadB h45 (.s .z) PA.a (Get.fld Message_.f8) ty22 rfl rfl rfl (fun u10 h49 => ?_))
        refine op (OpS.len h49 Try.underlying22 rfl rfl rfl (V.at .z) ?_)
        refine op (OpS.bin rfl rfl rfl rfl rfl ?_)
        refine op (OpS.as rfl rfl rfl ?_)
        obtain ⟨x11, e17, hF⟩ := letP_use hF
        refine RunL.nameb e17 ?_
        refine RunL.nil ?_
        refine Run.slim [(97, .bool x11), (4, u1), (6, (q1 38))] ⟨rfl, rfl, rfl, trivial⟩ ?_
        refine Run.ite rfl hF (fun e18 hF => ?_) (fun e18 hF => ?_)
        ·
         refine Run.seq ?_
         refine Run.reg ?_
         refine op (OpS.build (f := true) (x' := Message_.z) h49 pl37 ti37 Message_.zr rfl rfl rfl .nil (fun u11 h50 => ?_))
         refine op (OpS.storeB (f' := true) h50 .z PA.z Put.id ty37 rfl rfl rfl (V.at .z) (.inl rfl) (fun w16 h51 => ?_))
         refine op (OpS.as rfl rfl rfl ?_)
         refine RunL.nil ?_
         refine Run.slim [(5, .int .i64 3), (4, u1)] ⟨rfl, rfl, trivial⟩ ?_
         obtain ⟨u12, hu4, h52⟩ := res_box h51 .z ty37
         refine Run.retP rfl (.cell rfl hu4 (.tmp rfl .nil)) ?_
         cases hF
         exact Post.mk' ⟨u12, rfl, rfl, rfl, rfl⟩ (h52.picks .nil) (.val (V.at .z) .nil)
        ·
         refine Run.skip ?_
         refine Run.endBlock ?_
         refine Run.seq ?_
         refine Run.reg ?_
         refine op (OpS.loadB h49 (.s .z) PA.z Get.id ty37 rfl rfl rfl (fun u13 h53 => ?_))
         refine op (OpS.storeB (f' := true) h53 .z PA.z Put.id ty37 rfl rfl rfl (V.at .z) (.inl rfl) (fun w17 h54 => ?_))
         refine op (OpS.as rfl rfl rfl ?_)
         refine RunL.nil ?_
         refine Run.slim [(5, .int .i64 0), (4, u1)] ⟨rfl, rfl, trivial⟩ ?_
         obtain ⟨u14, hu5, h55⟩ := res_box h54 .z ty37
         refine Run.retP rfl (.cell rfl hu5 (.tmp rfl .nil)) ?_
         cases hF
         exact Post.mk' ⟨u14, rfl, rfl, rfl, rfl⟩ (h55.picks .nil) (.val (V.at .z) .nil)
      ·
       refine RunL.caseb hF (fun e19 hF => ?_) (fun e19 hF => ?_)
       ·
        refine op (OpS.pass rfl rfl rfl ?_)
        refine op (OpS.pass rfl rfl rfl ?_)
        refine op (OpS.pass rfl rfl rfl ?_)
        refine op (OpS.pass rfl rfl rfl ?_)
        refine op (OpS.pick rfl rfl rfl rfl ?_)
        refine op (OpS.as rfl rfl rfl ?_)
        refine RunL.nil ?_
        refine Run.slim [(85, .bool true), (4, u1), (6, (q1 38))] ⟨rfl, rfl, rfl, trivial⟩ ?_
        refine Run.slim [(4, u1), (6, (q1 38)), (85, .bool true)] ⟨rfl, rfl, rfl, trivial⟩ ?_
        exact hj4 (true) _ _ ⟨rfl, (h44.facts .nil).picks (.cons .z (.cons .z .nil))⟩ hF
       ·
        refine op (OpS.fbox (o3 := 1) h44 (.s .z) PA.z fa37_1 rfl rfl rfl rfl ?_)
        refine op (OpS.loadBi h44 (.s .z) PA.a (Get.fld Message_.f1) ty5 rfl rfl rfl ?_)
        obtain ⟨y4, e20, hF⟩ := bindP_use hF
        refine op (OpS.callP h44 Try.func62 rfl rfl rfl rfl (vs := [.int .u8 s2.From]) rfl (message_address_ok e20) .nil ?_)
        rintro _ w18 _ _ _ ⟨rfl, rfl, rfl, rfl⟩ h56
        have h57 := h56 rfl rfl
        simp only [List.cons_append, List.nil_append] at h57
        refine op (OpS.not rfl rfl rfl ?_)
        refine op (OpS.pick rfl rfl rfl rfl ?_)
        refine op (OpS.as rfl rfl rfl ?_)
        obtain ⟨x12, e21, hF⟩ := letP_use hF
        refine RunL.nameb e21 ?_
        refine RunL.nil ?_
        refine Run.slim [(85, .bool x12), (4, u1), (6, (q1 38))] ⟨rfl, rfl, rfl, trivial⟩ ?_
        refine Run.slim [(4, u1), (6, (q1 38)), (85, .bool x12)] ⟨rfl, rfl, rfl, trivial⟩ ?_
        exact hj4 (x12) _ _ ⟨rfl, (h57.facts .nil).picks (.cons .z (.cons .z .nil))⟩ hF
    ·
     refine RunL.caseb hF (fun e22 hF => ?_) (fun e22 hF => ?_)
     ·
      refine op (OpS.pass rfl rfl rfl ?_)
      refine op (OpS.pass rfl rfl rfl ?_)
      refine op (OpS.pass rfl rfl rfl ?_)
      refine op (OpS.pass rfl rfl rfl ?_)
      refine op (OpS.pass rfl rfl rfl ?_)
      refine op (OpS.pick rfl rfl rfl rfl ?_)
      refine op (OpS.mv rfl rfl rfl ?_)
      refine op (OpS.pass rfl rfl rfl ?_)
      refine op (OpS.pass rfl rfl rfl ?_)
      refine op (OpS.pass rfl rfl rfl ?_)
      refine op (OpS.pass rfl rfl rfl ?_)
      refine op (OpS.pass rfl rfl rfl ?_)
      refine op (OpS.pick rfl rfl rfl rfl ?_)
      refine op (OpS.as rfl rfl rfl ?_)
      refine RunL.nil ?_
      refine Run.slim [(64, .bool true), (4, u1), (6, (q1 38))] ⟨rfl, rfl, rfl, trivial⟩ ?_
      refine Run.slim [(4, u1), (6, (q1 38)), (64, .bool true)] ⟨rfl, rfl, rfl, trivial⟩ ?_
      exact hj3 (true) _ _ ⟨rfl, (h38.facts .nil).picks (.cons .z (.cons .z .nil))⟩ hF
     ·
      refine op (OpS.mv rfl rfl rfl ?_)
      obtain ⟨x13, e23, hF⟩ := bindP_use hF
      refine op (OpS.iptr h38 Try.underlying22 ty5 rfl rfl rfl rfl (V.at (.s .z)) e23 (fun u15 h58 => ?_))
      refine op (OpS.loadi h58 ty5 rfl rfl rfl .z ?_)
      refine op (OpS.rem rfl rfl rfl rfl (by decide) ?_)
      refine op (OpS.bin rfl rfl rfl rfl rfl ?_)
      refine op (OpS.pick rfl rfl rfl rfl ?_)
      refine op (OpS.mv rfl rfl rfl ?_)
      refine RunL.caseb hF (fun e24 hF => ?_) (fun e24 hF => ?_)
      ·
       refine op (OpS.pass rfl rfl rfl ?_)
       refine op (OpS.pass rfl rfl rfl ?_)
       refine op (OpS.pass rfl rfl rfl ?_)
       refine op (OpS.pass rfl rfl rfl ?_)
       refine op (OpS.pass rfl rfl rfl ?_)
       refine op (OpS.pick rfl rfl rfl rfl ?_)
       refine op (OpS.as rfl rfl rfl ?_)
       refine RunL.nil ?_
       refine Run.slim [(64, .bool true), (4, u1), (6, (q1 38))] ⟨rfl, rfl, rfl, trivial⟩ ?_
       refine Run.slim [(4, u1), (6, (q1 38)), (64, .bool true)] ⟨rfl, rfl, rfl, trivial⟩ ?_
       exact hj3 (true) _ _ ⟨rfl, (h58.facts .nil).picks (.cons .z (.cons .z .nil))⟩ hF
      ·
       refine op (OpS.loadB h58 (.s .z) PA.z Get.id ty37 rfl rfl rfl (fun u16 h59 => ?_))
       obtain ⟨y5, e25, hF⟩ := bindP_use hF
       refine op (OpS.callP h59 Try.func35 rfl rfl rfl rfl (vs := [u16]) rfl (message_request_ok e25) (.cons (f := true) (V.at .z) .nil) ?_)
       rintro _ w19 _ _ _ ⟨rfl, rfl, rfl, rfl⟩ h60
       have h61 := h60 rfl rfl
       simp only [List.cons_append, List.nil_append] at h61
       refine op (OpS.mv rfl rfl rfl ?_)
       refine op (OpS.bin rfl rfl rfl rfl rfl ?_)
       refine op (OpS.neb Try.underlying4 rfl rfl rfl rfl ?_)
       refine op (OpS.pick rfl rfl rfl rfl ?_)
       refine op (OpS.as rfl rfl rfl ?_)
       obtain ⟨x14, e26, hF⟩ := letP_use hF
       refine RunL.nameb e26 ?_
       refine RunL.nil ?_
       refine Run.slim [(64, .bool x14), (4, u1), (6, (q1 38))] ⟨rfl, rfl, rfl, trivial⟩ ?_
       refine Run.slim [(4, u1), (6, (q1 38)), (64, .bool x14)] ⟨rfl, rfl, rfl, trivial⟩ ?_
       exact hj3 (x14) _ _ ⟨rfl, (h61.facts .nil).picks (.cons .z (.cons .z .nil))⟩ hF
   ·
    refine Run.ite rfl hF (fun e27 hF => ?_) (fun e27 hF => ?_)
    ·
     refine Run.reg ?_
     refine op (OpS.mv rfl rfl rfl ?_)
     refine op (OpS.mv rfl rfl rfl ?_)
     refine op (OpS.bin rfl rfl rfl rfl rfl ?_)
     obtain ⟨x15, e28, hF⟩ := bindP_use hF
     refine op (OpS.iptr h36 Try.underlying22 ty5 rfl rfl rfl rfl (V.at (.s (.s (.s (.s (.s (.s (.s (.s (.s (.s .z))))))))))) e28 (fun u17 h62 => ?_))
     refine op (OpS.loadi h62 ty5 rfl rfl rfl .z ?_)
     refine op (OpS.fbox (o3 := 7) h62 .z PA.z fa37_7 rfl rfl rfl rfl ?_)
     obtain ⟨d1, e29, hF⟩ := letP_use hF
     refine op (OpS.storeB (f' := true) h62 .z PA.a (Put.of (Put.fld Message_.f7) e29) ty5 rfl rfl rfl V.int (.inl rfl) (fun w20 h63 => ?_))
     refine RunL.nil ?_
     refine Run.slim [(6, (q1 38)), (0, v0), (1, .int .i64 a1), (4, u1)] ⟨rfl, rfl, rfl, rfl, trivial⟩ ?_
     refine Run.slim [(0, v0), (1, .int .i64 a1), (4, u1), (6, (q1 38))] ⟨rfl, rfl, rfl, rfl, trivial⟩ ?_
     exact hj2 (d1) _ _ ⟨rfl, (h63.facts (.atm (.s (.s (.s (.s (.s (.s (.s (.s (.s (.s (.s .z))))))))))) .nil)).picks (.cons (.s .z) (.cons .z .nil))⟩ hF
    ·
     refine Run.skip ?_
     refine Run.slim [(0, v0), (1, .int .i64 a1), (4, u1), (6, (q1 38))] ⟨rfl, rfl, rfl, rfl, trivial⟩ ?_
     exact hj2 ((⟨(IntKind.u8.wrap (Int.tdiv x2 2)), (IntKind.u8.wrap (Int.tdiv x3 2)), (IntKind.u8.wrap (Int.tdiv x4 4)), x5, (IntKind.i64.wrap (Int.tmod x6 4)), (IntKind.i64.wrap (Int.tmod x7 4)), (IntKind.i64.wrap (IntKind.u8.wrap (Int.tdiv x8 4))), 0, y2⟩ : Message_)) _ _ ⟨rfl, (h36.facts (.atm (.s (.s (.s (.s (.s (.s (.s (.s (.s (.s .z)))))))))) .nil)).picks (.cons (.s .z) (.cons .z .nil))⟩ hF
 ·
  refine RunL.caseb hF (fun e30 hF => ?_) (fun e30 hF => ?_)
  ·
   refine op (OpS.pass rfl rfl rfl ?_)
   refine op (OpS.pass rfl rfl rfl ?_)
   refine op (OpS.pass rfl rfl rfl ?_)
   refine op (OpS.pass rfl rfl rfl ?_)
   refine op (OpS.pick rfl rfl rfl rfl ?_)
   refine RunL.nil ?_
   refine Run.slim [(16, .bool true), (4, u1), (0, v0), (1, .int .i64 a1)] ⟨rfl, rfl, rfl, rfl, trivial⟩ ?_
   refine Run.slim [(0, v0), (1, .int .i64 a1), (4, u1), (16, .bool true)] ⟨rfl, rfl, rfl, rfl, trivial⟩ ?_
   exact hj1 (true) _ _ ⟨rfl, (h4.facts (.atm (.s .z) .nil)).picks (.cons .z .nil)⟩ hF
  ·
   refine op (OpS.mv rfl rfl rfl ?_)
   obtain ⟨x16, e31, hF⟩ := bindP_use hF
   refine op (OpS.sub h4 Try.underlying22 ty5 rfl rfl rfl rfl rfl (V.at (.s .z)) e31 (fun u18 h64 => ?_))
   obtain ⟨y6, e32, hF⟩ := bindP_use hF
   refine op (OpS.callP h64 Try.func68 rfl rfl rfl rfl (vs := [u18]) rfl (checksum_Sum8_ok e32) (.cons (f := false) (V.at .z) .nil) ?_)
   rintro _ w21 _ _ _ ⟨rfl, rfl, rfl, rfl⟩ h65
   have h66 := h65 rfl rfl
   simp only [List.cons_append, List.nil_append] at h66
   refine op (OpS.bin rfl rfl rfl rfl rfl ?_)
   refine op (OpS.pick rfl rfl rfl rfl ?_)
   refine RunL.nil ?_
   refine Run.slim [(16, .bool (y6 != 0)), (4, u1), (0, v0), (1, .int .i64 a1)] ⟨rfl, rfl, rfl, rfl, trivial⟩ ?_
   refine Run.slim [(0, v0), (1, .int .i64 a1), (4, u1), (16, .bool (y6 != 0))] ⟨rfl, rfl, rfl, rfl, trivial⟩ ?_
   exact hj1 (y6 != 0) _ _ ⟨rfl, (h66.facts (.atm (.s (.s .z)) .nil)).picks (.cons .z .nil)⟩ hF
theorem message_ParseResponse_ok {fuel : Nat} {a0 : List Int} {y : Message_ × Int} (hF : message_ParseResponse fuel a0 = some y) {w : World} {v0 : Value} :
  Spec Try.prog 15 [v0].toArray w [(false, .val (Rep.slice (Rep.int .u8)) v0 a0)] [] (fun v Γr Ωr Ωo => ∃ u0 : Value, v = .tuple #[u0, .int .i64 y.2] ∧ Γr = [(true, .val Message_.rep u0 y.1)] ∧ Ωr = [] ∧ Ωo = []) := by
 refine Spec.of (L := [(0, v0)]) Try.func15 rfl ⟨rfl, trivial⟩ rfl (fun e h => ?_)
 unfold message_ParseResponse at hF
 refine Run.seq ?_
 refine Run.reg ?_
 refine op (OpS.alloc h ti37 Message_.zr rfl rfl (fun u1 w1 h1 => ?_))
 refine op (OpS.as rfl rfl rfl ?_)
 refine RunL.nil ?_
 refine Run.slim [(2, u1), (0, v0)] ⟨rfl, rfl, trivial⟩ ?_
 refine Run.seq ?_
 refine Run.seq ?_
 refine Run.reg ?_
 refine op (OpS.mv rfl rfl rfl ?_)
 refine op (OpS.len h1 Try.underlying22 rfl rfl rfl (V.at .z) ?_)
 refine op (OpS.bin rfl rfl rfl rfl rfl ?_)
 refine RunL.nil ?_
 refine Run.slim [(6, .bool (decide ((a0.length : Int) < 8))), (2, u1), (0, v0)] ⟨rfl, rfl, rfl, trivial⟩ ?_
 refine Run.ite rfl hF (fun e1 hF => ?_) (fun e1 hF => ?_)
 ·
  refine Run.seq ?_
  refine Run.reg ?_
  refine op (OpS.build (f := true) (x' := Message_.z) h1 pl37 ti37 Message_.zr rfl rfl rfl .nil (fun u2 h2 => ?_))
  refine op (OpS.storeB (f' := true) h2 .z PA.z Put.id ty37 rfl rfl rfl (V.at .z) (.inl rfl) (fun w2 h3 => ?_))
  refine op (OpS.as rfl rfl rfl ?_)
  refine RunL.nil ?_
  refine Run.slim [(3, .int .i64 4), (2, u1)] ⟨rfl, rfl, trivial⟩ ?_
  obtain ⟨u3, hu1, h4⟩ := res_box h3 .z ty37
  refine Run.retP rfl (.cell rfl hu1 (.tmp rfl .nil)) ?_
  cases hF
  exact Post.mk' ⟨u3, rfl, rfl, rfl, rfl⟩ (h4.picks .nil) (.val (V.at .z) .nil)
 ·
  refine Run.skip ?_
  refine Run.seq ?_
  refine Run.reg ?_
  refine op (OpS.mv rfl rfl rfl ?_)
  obtain ⟨y1, e2, hF⟩ := bindP_use hF
  refine op (OpS.callP h1 Try.func45 rfl rfl rfl rfl (vs := [v0, .int .i64 7]) rfl (message_parse_ok e2) (.cons (f := false) (V.at .z) .nil) ?_)
  rintro _ w3 _ _ _ ⟨u4, rfl, rfl, rfl, rfl⟩ h5
  have h6 := h5 rfl rfl
  simp only [List.cons_append, List.nil_append] at h6
  refine op (OpS.ext rfl rfl rfl rfl ?_)
  refine op (OpS.ext rfl rfl rfl rfl ?_)
  refine op (OpS.storeB (f' := true) h6 .z PA.z Put.id ty37 rfl rfl rfl (V.at .z) (.inl rfl) (fun w4 h7 => ?_))
  refine op (OpS.as rfl rfl rfl ?_)
  refine RunL.nil ?_
  refine Run.slim [(3, .int .i64 y1.2), (2, u1)] ⟨rfl, rfl, trivial⟩ ?_
  obtain ⟨u5, hu2, h8⟩ := res_box h7 .z ty37
  refine Run.retP rfl (.cell rfl hu2 (.tmp rfl .nil)) ?_
  cases hF
  exact Post.mk' ⟨u5, rfl, rfl, rfl, rfl⟩ (h8.picks .nil) (.val (V.at .z) .nil)
theorem message_Reply_ok {fuel : Nat} {a0 : Message_} {a1 : Int} {a2 : List Int} {y : Message_ × Int} (hF : message_Reply fuel a0 a1 a2 = some y) {w : World} {v0 v2 : Value} :
  Spec Try.prog 67 [v0, .int .u8 a1, v2].toArray w [(false, .val Message_.rep v0 a0), (false, .val (Rep.slice (Rep.int .u8)) v2 a2)] [] (fun v Γr Ωr Ωo => ∃ u0 : Value, v = .tuple #[u0, .int .i64 y.2] ∧ Γr = [(true, .val Message_.rep u0 y.1)] ∧ Ωr = [] ∧ Ωo = []) := by
 refine Spec.of (L := [(0, v0), (1, .int .u8 a1), (2, v2)]) Try.func67 rfl ⟨rfl, rfl, rfl, trivial⟩ rfl (fun e h => ?_)
 unfold message_Reply at hF
 refine Run.seq ?_
 refine Run.reg ?_
 refine op (OpS.boxF h rfl rfl rfl (V.at .z) (fun u1 w1 h1 => ?_))
 refine op (OpS.alloc h1 ti37 Message_.zr rfl rfl (fun u2 w2 h2 => ?_))
 refine op (OpS.as rfl rfl rfl ?_)
 refine RunL.nil ?_
 refine Run.slim [(6, u2), (3, u1), (1, .int .u8 a1), (2, v2)] ⟨rfl, rfl, rfl, rfl, trivial⟩ ?_
 refine Run.seq ?_
 refine Run.seq ?_
 refine Run.reg ?_
 refine op (OpS.loadB h2 (.s .z) PA.z Get.id ty37 rfl rfl rfl (fun u3 h3 => ?_))
 obtain ⟨y1, e1, hF⟩ := bindP_use hF
 refine op (OpS.callP h3 Try.func34 rfl rfl rfl rfl (vs := [u3]) rfl (message_Valid_ok e1) (.cons (f := false) (V.at .z) .nil) ?_)
 rintro _ w3 _ _ _ ⟨rfl, rfl, rfl, rfl⟩ h4
 have h5 := h4 rfl rfl
 simp only [List.cons_append, List.nil_append] at h5
 refine op (OpS.not rfl rfl rfl ?_)
 refine op (OpS.mv rfl rfl rfl ?_)
 refine RunL.join (σ := Bool) (fun s_ L_ w_ => L_ = [(1, .int .u8 a1), (2, v2), (3, u1), (6, u2), (20, .bool s_)] ∧ St e w_ [(false, .val (Rep.slice (Rep.int .u8)) v2 a2)] [(false, .box 37 Message_.rep u1 a0), (true, .box 37 Message_.rep u2 Message_.z)]) hF (fun s1 _ w4 hI hF => ?_) (fun j1 hj1 hF => ?_)
 ·
  obtain ⟨rfl, h6⟩ := hI
  refine Run.ite rfl hF (fun e2 hF => ?_) (fun e2 hF => ?_)
  ·
   refine Run.seq ?_
   refine Run.reg ?_
   refine op (OpS.build (f := true) (x' := Message_.z) h6 pl37 ti37 Message_.zr rfl rfl rfl .nil (fun u4 h7 => ?_))
   refine op (OpS.storeB (f' := true) h7 (.s .z) PA.z Put.id ty37 rfl rfl rfl (V.at .z) (.inl rfl) (fun w5 h8 => ?_))
   refine op (OpS.as rfl rfl rfl ?_)
   refine RunL.nil ?_
   refine Run.slim [(7, .int .i64 1), (6, u2)] ⟨rfl, rfl, trivial⟩ ?_
   obtain ⟨u5, hu1, h9⟩ := res_box h8 .z ty37
   refine Run.retP rfl (.cell rfl hu1 (.tmp rfl .nil)) ?_
   cases hF
   exact Post.mk' ⟨u5, rfl, rfl, rfl, rfl⟩ (h9.picks .nil) (.val (V.at .z) .nil)
  ·
   refine Run.skip ?_
   refine Run.seq ?_
   obtain ⟨y2, e3, hF⟩ := bindP_use hF
   refine Run.drawV (Ωs := [(true, .box 37 Message_.rep u2 Message_.z)]) [⟨some 22, some ((padd u1 1)), fun _ => [], fun ds_ u_ => [], [], [(0, [])], none⟩, ⟨some 23, some (.int .u8 a0.From), fun _ => [], fun ds_ u_ => [], [], [(0, [])], none⟩, ⟨some 24, some ((padd u1 0)), fun _ => [], fun ds_ u_ => [], [], [(0, [])], none⟩, ⟨some 25, some (.int .u8 a0.To), fun _ => [], fun ds_ u_ => [], [], [(0, [])], none⟩, ⟨some 26, some ((padd u1 2)), fun _ => [], fun ds_ u_ => [], [], [(0, [])], none⟩, ⟨some 27, some (.int .u8 a0.Function), fun _ => [], fun ds_ u_ => [], [], [(0, [])], none⟩, ⟨some 28, some (.int .u8 (IntKind.u8.wrap (a0.Function + 1))), fun _ => [], fun ds_ u_ => [], [], [], none⟩, ⟨some 29, some ((padd u1 3)), fun _ => [], fun ds_ u_ => [], [], [(0, [])], none⟩, ⟨some 30, some (.int .u8 a0.Command), fun _ => [], fun ds_ u_ => [], [], [(0, [])], none⟩, ⟨some 31, some ((padd u1 5)), fun _ => [], fun ds_ u_ => [], [], [(0, [])], none⟩, ⟨some 32, some (.int .i64 a0.FromUnit), fun _ => [], fun ds_ u_ => [], [], [(0, [])], none⟩, ⟨some 33, some ((padd u1 4)), fun _ => [], fun ds_ u_ => [], [], [(0, [])], none⟩, ⟨some 34, some (.int .i64 a0.ToUnit), fun _ => [], fun ds_ u_ => [], [], [(0, [])], none⟩, ⟨some 35, some ((padd u1 6)), fun _ => [], fun ds_ u_ => [], [], [(0, [])], none⟩, ⟨some 36, some (.int .i64 a0.Sequence), fun _ => [], fun ds_ u_ => [], [], [(0, [])], none⟩, ⟨some 37, some (.int .u8 a1), fun _ => [], fun ds_ u_ => [], [], [], none⟩, ⟨some 38, some (v2), fun _ => [], fun ds_ u_ => [], [], [], none⟩, ⟨some 39, none, fun u_ => [(true, .val (Rep.slice (Rep.int .u8)) u_ y2)], fun ds_ u_ => [], [], [], none⟩, ⟨some 40, none, fun u_ => [(true, .val Message_.rep u_ (⟨a0.From, a0.To, (IntKind.u8.wrap (a0.Function + 1)), a0.Command, a0.FromUnit, a0.ToUnit, a0.Sequence, a1, y2⟩ : Message_))], fun ds_ u_ => [], [], [], none⟩] [[], [0], [], [2], [], [4], [5], [], [7], [], [9], [], [11], [], [13], [], [], [16], [1, 3, 6, 8, 10, 12, 14, 15, 17]] [[(false, .box 37 Message_.rep u1 a0)]] [0, 1, 2, 3, 4, 5, 6, 7, 8, 9, 10, 11, 12, 13, 14, 15, 16, 17, 18, 19] Try_mixed rfl rfl rfl h6 (.cons ?_ (.cons ?_ (.cons ?_ (.cons ?_ (.cons ?_ (.cons ?_ (.cons ?_ (.cons ?_ (.cons ?_ (.cons ?_ (.cons ?_ (.cons ?_ (.cons ?_ (.cons ?_ (.cons ?_ (.cons ?_ (.cons ?_ (.cons ?_ (.cons ?_ .nil))))))))))))))))))) (fun q1 w hq1 h => ?_)
   ·intro q1 w Γx Ωx h
    have h : St e w ([(false, .val (Rep.slice (Rep.int .u8)) v2 a2)] ++ Γx) ([(false, .box 37 Message_.rep u1 a0), (true, .box 37 Message_.rep u2 Message_.z)] ++ Ωx) := h
    refine OpS.fbox (o3 := 1) h .z PA.z fa37_1 rfl rfl rfl rfl ?_
    exact ⟨undef, rfl, trivial, h⟩
   ·intro q1 w Γx Ωx h
    have h : St e w ([(false, .val (Rep.slice (Rep.int .u8)) v2 a2)] ++ Γx) ([(false, .box 37 Message_.rep u1 a0), (true, .box 37 Message_.rep u2 Message_.z)] ++ Ωx) := h
    refine OpS.loadBi h .z PA.a (Get.fld Message_.f1) ty5 rfl rfl rfl ?_
    exact ⟨undef, rfl, trivial, h⟩
   ·intro q1 w Γx Ωx h
    have h : St e w ([(false, .val (Rep.slice (Rep.int .u8)) v2 a2)] ++ Γx) ([(false, .box 37 Message_.rep u1 a0), (true, .box 37 Message_.rep u2 Message_.z)] ++ Ωx) := h
    refine OpS.fbox (o3 := 0) h .z PA.z fa37_0 rfl rfl rfl rfl ?_
    exact ⟨undef, rfl, trivial, h⟩
   ·intro q1 w Γx Ωx h
    have h : St e w ([(false, .val (Rep.slice (Rep.int .u8)) v2 a2)] ++ Γx) ([(false, .box 37 Message_.rep u1 a0), (true, .box 37 Message_.rep u2 Message_.z)] ++ Ωx) := h
    refine OpS.loadBi h .z PA.a (Get.fld Message_.f0) ty5 rfl rfl rfl ?_
    exact ⟨undef, rfl, trivial, h⟩
   ·intro q1 w Γx Ωx h
    have h : St e w ([(false, .val (Rep.slice (Rep.int .u8)) v2 a2)] ++ Γx) ([(false, .box 37 Message_.rep u1 a0), (true, .box 37 Message_.rep u2 Message_.z)] ++ Ωx) := h
    refine OpS.fbox (o3 := 2) h .z PA.z fa37_2 rfl rfl rfl rfl ?_
    exact ⟨undef, rfl, trivial, h⟩
   ·intro q1 w Γx Ωx h
    have h : St e w ([(false, .val (Rep.slice (Rep.int .u8)) v2 a2)] ++ Γx) ([(false, .box 37 Message_.rep u1 a0), (true, .box 37 Message_.rep u2 Message_.z)] ++ Ωx) := h
    refine OpS.loadBi h .z PA.a (Get.fld Message_.f2) ty5 rfl rfl rfl ?_
    exact ⟨undef, rfl, trivial, h⟩
   ·intro q1 w Γx Ωx h
    refine OpS.bin rfl rfl rfl rfl rfl ?_
    exact ⟨undef, rfl, trivial, h⟩
   ·intro q1 w Γx Ωx h
    have h : St e w ([(false, .val (Rep.slice (Rep.int .u8)) v2 a2)] ++ Γx) ([(false, .box 37 Message_.rep u1 a0), (true, .box 37 Message_.rep u2 Message_.z)] ++ Ωx) := h
    refine OpS.fbox (o3 := 3) h .z PA.z fa37_3 rfl rfl rfl rfl ?_
    exact ⟨undef, rfl, trivial, h⟩
   ·intro q1 w Γx Ωx h
    have h : St e w ([(false, .val (Rep.slice (Rep.int .u8)) v2 a2)] ++ Γx) ([(false, .box 37 Message_.rep u1 a0), (true, .box 37 Message_.rep u2 Message_.z)] ++ Ωx) := h
    refine OpS.loadBi h .z PA.a (Get.fld Message_.f3) ty5 rfl rfl rfl ?_
    exact ⟨undef, rfl, trivial, h⟩
   ·intro q1 w Γx Ωx h
    have h : St e w ([(false, .val (Rep.slice (Rep.int .u8)) v2 a2)] ++ Γx) ([(false, .box 37 Message_.rep u1 a0), (true, .box 37 Message_.rep u2 Message_.z)] ++ Ωx) := h
    refine OpS.fbox (o3 := 5) h .z PA.z fa37_5 rfl rfl rfl rfl ?_
    exact ⟨undef, rfl, trivial, h⟩
   ·intro q1 w Γx Ωx h
    have h : St e w ([(false, .val (Rep.slice (Rep.int .u8)) v2 a2)] ++ Γx) ([(false, .box 37 Message_.rep u1 a0), (true, .box 37 Message_.rep u2 Message_.z)] ++ Ωx) := h
    refine OpS.loadBi h .z PA.a (Get.fld Message_.f5) ty3 rfl rfl rfl ?_
    exact ⟨undef, rfl, trivial, h⟩
   ·intro q1 w Γx Ωx h
    have h : St e w ([(false, .val (Rep.slice (Rep.int .u8)) v2 a2)] ++ Γx) ([(false, .box 37 Message_.rep u1 a0), (true, .box 37 Message_.rep u2 Message_.z)] ++ Ωx) := h
    refine OpS.fbox (o3 := 4) h .z PA.z fa37_4 rfl rfl rfl rfl ?_
    exact ⟨undef, rfl, trivial, h⟩
   ·intro q1 w Γx Ωx h
    have h : St e w ([(false, .val (Rep.slice (Rep.int .u8)) v2 a2)] ++ Γx) ([(false, .box 37 Message_.rep u1 a0), (true, .box 37 Message_.rep u2 Message_.z)] ++ Ωx) := h
    refine OpS.loadBi h .z PA.a (Get.fld Message_.f4) ty3 rfl rfl rfl ?_
    exact ⟨undef, rfl, trivial, h⟩
   ·intro q1 w Γx Ωx h
    have h : St e w ([(false, .val (Rep.slice (Rep.int .u8)) v2 a2)] ++ Γx) ([(false, .box 37 Message_.rep u1 a0), (true, .box 37 Message_.rep u2 Message_.z)] ++ Ωx) := h
    refine OpS.fbox (o3 := 6) h .z PA.z fa37_6 rfl rfl rfl rfl ?_
    exact ⟨undef, rfl, trivial, h⟩
   ·intro q1 w Γx Ωx h
    have h : St e w ([(false, .val (Rep.slice (Rep.int .u8)) v2 a2)] ++ Γx) ([(false, .box 37 Message_.rep u1 a0), (true, .box 37 Message_.rep u2 Message_.z)] ++ Ωx) := h
    refine OpS.loadBi h .z PA.a (Get.fld Message_.f6) ty3 rfl rfl rfl ?_
    exact ⟨undef, rfl, trivial, h⟩
   ·intro q1 w Γx Ωx h
    refine OpS.mv rfl rfl rfl ?_
    exact ⟨undef, rfl, trivial, h⟩
   ·intro q1 w Γx Ωx h
    refine OpS.mv rfl rfl rfl ?_
    exact ⟨undef, rfl, trivial, h⟩
   ·intro q1 w Γx Ωx h
    refine OpS.callP h Try.func41 rfl rfl rfl rfl (vs := [v2]) rfl (slices_Clone_byte_byte_ok e3) (.cons (f := false) (V.at .z) .nil) ?_
    rintro u w7 _ _ _ ⟨_, rfl, rfl, rfl, rfl⟩ h14
    have h15 := h14 rfl rfl
    simp only [List.cons_append, List.nil_append] at h15
    have h16 := h15.freeze
    exact ⟨u, rfl, trivial, h16⟩
   ·intro q1 w Γx Ωx h
    refine OpS.build (f := true) (x' := (⟨a0.From, a0.To, (IntKind.u8.wrap (a0.Function + 1)), a0.Command, a0.FromUnit, a0.ToUnit, a0.Sequence, a1, y2⟩ : Message_)) h pl37 ti37 Message_.zr rfl rfl rfl (.cons rfl Message_.f0 rfl V.int (.cons rfl Message_.f1 rfl V.int (.cons rfl Message_.f2 rfl V.int (.cons rfl Message_.f3 rfl V.int (.cons rfl Message_.f4 rfl V.int (.cons rfl Message_.f5 rfl V.int (.cons rfl Message_.f6 rfl V.int (.cons rfl Message_.f7 rfl V.int (.cons rfl Message_.f8 rfl (V.at .z) .nil))))))))) (fun u h17 => ?_)
    exact ⟨u, rfl, trivial, h17⟩
   have h18 : St e w [(true, .val (Rep.slice (Rep.int .u8)) (q1 17) y2), (true, .val Message_.rep (q1 18) (⟨a0.From, a0.To, (IntKind.u8.wrap (a0.Function + 1)), a0.Command, a0.FromUnit, a0.ToUnit, a0.Sequence, a1, y2⟩ : Message_)), (false, .val (Rep.slice (Rep.int .u8)) v2 a2)] [(false, .box 37 Message_.rep u1 a0), (true, .box 37 Message_.rep u2 Message_.z)] := h
   refine op (OpS.storeB (f' := true) h18 (.s .z) PA.z Put.id ty37 rfl rfl rfl (V.at (.s .z)) (.inl rfl) (fun w8 h19 => ?_))
   refine op (OpS.as rfl rfl rfl ?_)
   refine RunL.nil ?_
   refine Run.slim [(7, .int .i64 0), (6, u2)] ⟨rfl, rfl, trivial⟩ ?_
   obtain ⟨u6, hu2, h20⟩ := res_box h19 .z ty37
   refine Run.retP rfl (.cell rfl hu2 (.tmp rfl .nil)) ?_
   cases hF
   exact Post.mk' ⟨u6, rfl, rfl, rfl, rfl⟩ (h20.picks .nil) (.val (V.at .z) .nil)
 ·
  refine RunL.caseb hF (fun e4 hF => ?_) (fun e4 hF => ?_)
  ·
   refine op (OpS.pass rfl rfl rfl ?_)
   refine op (OpS.pass rfl rfl rfl ?_)
   refine op (OpS.pass rfl rfl rfl ?_)
   refine op (OpS.pick rfl rfl rfl rfl ?_)
   refine op (OpS.mv rfl rfl rfl ?_)
   refine op (OpS.pass rfl rfl rfl ?_)
   refine op (OpS.pass rfl rfl rfl ?_)
   refine op (OpS.pass rfl rfl rfl ?_)
   refine op (OpS.pick rfl rfl rfl rfl ?_)
   refine RunL.nil ?_
   refine Run.slim [(20, .bool true), (6, u2), (3, u1), (1, .int .u8 a1), (2, v2)] ⟨rfl, rfl, rfl, rfl, rfl, trivial⟩ ?_
   refine Run.slim [(1, .int .u8 a1), (2, v2), (3, u1), (6, u2), (20, .bool true)] ⟨rfl, rfl, rfl, rfl, rfl, trivial⟩ ?_
   exact hj1 (true) _ _ ⟨rfl, (h5.facts (.atm (.s (.s .z)) .nil)).picks (.cons (.s .z) (.cons .z .nil))⟩ hF
  ·
   refine op (OpS.loadB h5 (.s .z) PA.z Get.id ty37 rfl rfl rfl (fun u7 h21 => ?_))
   obtain ⟨y3, e5, hF⟩ := bindP_use hF
   refine op (OpS.callP h21 Try.func35 rfl rfl rfl rfl (vs := [u7]) rfl (message_request_ok e5) (.cons (f := false) (V.at .z) .nil) ?_)
   rintro _ w9 _ _ _ ⟨rfl, rfl, rfl, rfl⟩ h22
   have h23 := h22 rfl rfl
   simp only [List.cons_append, List.nil_append] at h23
   refine op (OpS.not rfl rfl rfl ?_)
   refine op (OpS.pick rfl rfl rfl rfl ?_)
   refine op (OpS.mv rfl rfl rfl ?_)
   refine RunL.caseb hF (fun e6 hF => ?_) (fun e6 hF => ?_)
   ·
    refine op (OpS.pass rfl rfl rfl ?_)
    refine op (OpS.pass rfl rfl rfl ?_)
    refine op (OpS.pass rfl rfl rfl ?_)
    refine op (OpS.pick rfl rfl rfl rfl ?_)
    refine RunL.nil ?_
    refine Run.slim [(20, .bool true), (6, u2), (3, u1), (1, .int .u8 a1), (2, v2)] ⟨rfl, rfl, rfl, rfl, rfl, trivial⟩ ?_
    refine Run.slim [(1, .int .u8 a1), (2, v2), (3, u1), (6, u2), (20, .bool true)] ⟨rfl, rfl, rfl, rfl, rfl, trivial⟩ ?_
    exact hj1 (true) _ _ ⟨rfl, (h23.facts (.atm (.s (.s (.s .z))) .nil)).picks (.cons (.s .z) (.cons .z .nil))⟩ hF
   ·
    refine op (OpS.mv rfl rfl rfl ?_)
    refine op (OpS.len h23 Try.underlying22 rfl rfl rfl (V.at (.s (.s (.s .z)))) ?_)
    refine op (OpS.bin rfl rfl rfl rfl rfl ?_)
    refine op (OpS.pick rfl rfl rfl rfl ?_)
    refine RunL.nil ?_
    refine Run.slim [(20, .bool (decide ((a2.length : Int) > 240))), (6, u2), (3, u1), (1, .int .u8 a1), (2, v2)] ⟨rfl, rfl, rfl, rfl, rfl, trivial⟩ ?_
    refine Run.slim [(1, .int .u8 a1), (2, v2), (3, u1), (6, u2), (20, .bool (decide ((a2.length : Int) > 240)))] ⟨rfl, rfl, rfl, rfl, rfl, trivial⟩ ?_
    exact hj1 (decide ((a2.length : Int) > 240)) _ _ ⟨rfl, (h23.facts (.atm (.s (.s (.s .z))) .nil)).picks (.cons (.s .z) (.cons .z .nil))⟩ hF
set_option maxHeartbeats 8000000 in
theorem message_Matches_ok {fuel : Nat} {a0 : Message_} {a1 : Message_} {y : Bool} (hF : message_Matches fuel a0 a1 = some y) {w : World} {v0 v1 : Value} :
  Spec Try.prog 47 [v0, v1].toArray w [(false, .val Message_.rep v0 a0), (false, .val Message_.rep v1 a1)] [] (fun v Γr Ωr Ωo => v = .bool y ∧ Γr = [] ∧ Ωr = [] ∧ Ωo = []) := by
 refine Spec.of (L := [(0, v0), (1, v1)]) Try.func47 rfl ⟨rfl, rfl, trivial⟩ rfl (fun e h => ?_)
 unfold message_Matches at hF
 refine Run.seq ?_
 refine Run.reg ?_
 refine op (OpS.boxF h rfl rfl rfl (V.at .z) (fun u1 w1 h1 => ?_))
 refine op (OpS.boxF h1 rfl rfl rfl (V.at (.s .z)) (fun u2 w2 h2 => ?_))
 refine op (OpS.as rfl rfl rfl ?_)
 refine RunL.nil ?_
 refine Run.slim [(3, u2), (2, u1)] ⟨rfl, rfl, trivial⟩ ?_
 refine Run.seq ?_
 refine Run.reg ?_
 refine op (OpS.loadB h2 (.s .z) PA.z Get.id ty37 rfl rfl rfl (fun u3 h3 => ?_))
 refine op (OpS.fbox (o3 := 7) h3 .z PA.z fa37_7 rfl rfl rfl rfl ?_)
 refine op (OpS.loadBi h3 .z PA.a (Get.fld Message_.f7) ty5 rfl rfl rfl ?_)
 refine op (OpS.fbox (o3 := 8) h3 .z PA.z fa37_8 rfl rfl rfl rfl ?_)
 refine op (OpS.loadB h3 .z PA.a (Get.fld Message_.f8) ty22 rfl rfl rfl (fun u4 h4 => ?_))
 obtain ⟨y1, e1, hF⟩ := bindP_use hF
 refine op (OpS.callP h4 Try.func67 rfl rfl rfl rfl (vs := [u3, .int .u8 a1.Code, u4]) rfl (message_Reply_ok e1) (.cons (f := false) (V.at (.s .z)) (.cons (f := false) (V.at .z) .nil)) ?_)
 rintro _ w3 _ _ _ ⟨u5, rfl, rfl, rfl, rfl⟩ h5
 have h6 := h5 rfl rfl
 simp only [List.cons_append, List.nil_append] at h6
 refine op (OpS.mv rfl rfl rfl ?_)
 refine op (OpS.ext rfl rfl rfl rfl ?_)
 refine op (OpS.ext rfl rfl rfl rfl ?_)
 refine op (OpS.alloc h6 ti37 Message_.zr rfl rfl (fun u6 w4 h7 => ?_))
 refine op (OpS.storeB (f' := true) h7 .z PA.z Put.id ty37 rfl rfl rfl (V.at .z) (.inl rfl) (fun w5 h8 => ?_))
 refine op (OpS.as rfl rfl rfl ?_)
 refine RunL.nil ?_
 refine Run.slim [(6, .int .i64 y1.2), (5, u6), (3, u2)] ⟨rfl, rfl, rfl, trivial⟩ ?_
 refine Run.seq ?_
 refine Run.seq ?_
 refine Run.reg ?_
 refine op (OpS.mv rfl rfl rfl ?_)
 refine op (OpS.bin rfl rfl rfl rfl rfl ?_)
 refine op (OpS.mv rfl rfl rfl ?_)
 refine RunL.join (σ := Bool) (fun s_ L_ w_ => L_ = [(3, u2), (5, u6), (23, .bool s_)] ∧ St e w_ [] [(false, .box 37 Message_.rep u2 a1), (true, .box 37 Message_.rep u6 y1.1)]) hF (fun s1 _ w6 hI hF => ?_) (fun j1 hj1 hF => ?_)
 ·
  obtain ⟨rfl, h9⟩ := hI
  refine Run.ite rfl hF (fun e2 hF => ?_) (fun e2 hF => ?_)
  ·
   refine Run.seq ?_
   refine Run.reg ?_
   refine op (OpS.as rfl rfl rfl ?_)
   refine RunL.nil ?_
   refine Run.slim [(4, .bool false)] ⟨rfl, trivial⟩ ?_
   refine Run.retP rfl (.tmp rfl .nil) ?_
   cases hF
   exact Post.mk' ⟨rfl, rfl, rfl, rfl⟩ (h9.picks .nil) .nil
  ·
   refine Run.skip ?_
   refine Run.seq ?_
   refine Run.reg ?_
   refine op (OpS.fbox (o3 := 0) h9 (.s .z) PA.z fa37_0 rfl rfl rfl rfl ?_)
   refine op (OpS.loadBi h9 (.s .z) PA.a (Get.fld Message_.f0) ty5 rfl rfl rfl ?_)
   refine op (OpS.fbox (o3 := 0) h9 .z PA.z fa37_0 rfl rfl rfl rfl ?_)
   refine op (OpS.loadBi h9 .z PA.a (Get.fld Message_.f0) ty5 rfl rfl rfl ?_)
   refine op (OpS.bin rfl rfl rfl rfl rfl ?_)
   refine op (OpS.mv rfl rfl rfl ?_)
   refine RunL.join (σ := Bool) (fun s_ L_ w_ => L_ = [(3, u2), (5, u6), (7, .bool s_)] ∧ St e w_ [] [(false, .box 37 Message_.rep u2 a1), (true, .box 37 Message_.rep u6 y1.1)]) hF (fun s2 _ w7 hI hF => ?_) (fun j2 hj2 hF => ?_)
   ·
    obtain ⟨rfl, h10⟩ := hI
    refine Run.seq ?_
    refine Run.reg ?_
    refine op (OpS.mv rfl rfl rfl ?_)
    refine op (OpS.mv rfl rfl rfl ?_)
    refine RunL.caseb hF (fun e3 hF => ?_) (fun e3 hF => ?_)
    ·
     refine op (OpS.fbox (o3 := 4) h10 (.s .z) PA.z fa37_4 rfl rfl rfl rfl ?_)
     refine op (OpS.loadBi h10 (.s .z) PA.a (Get.fld Message_.f4) ty3 rfl rfl rfl ?_)
     refine op (OpS.fbox (o3 := 4) h10 .z PA.z fa37_4 rfl rfl rfl rfl ?_)
     refine op (OpS.loadBi h10 .z PA.a (Get.fld Message_.f4) ty3 rfl rfl rfl ?_)
     refine op (OpS.bin rfl rfl rfl rfl rfl ?_)
     refine op (OpS.pick rfl rfl rfl rfl ?_)
     refine op (OpS.mv rfl rfl rfl ?_)
     refine RunL.caseb hF (fun e4 hF => ?_) (fun e4 hF => ?_)
     ·
      refine op (OpS.fbox (o3 := 5) h10 (.s .z) PA.z fa37_5 rfl rfl rfl rfl ?_)
      refine op (OpS.loadBi h10 (.s .z) PA.a (Get.fld Message_.f5) ty3 rfl rfl rfl ?_)
      refine op (OpS.fbox (o3 := 5) h10 .z PA.z fa37_5 rfl rfl rfl rfl ?_)
      refine op (OpS.loadBi h10 .z PA.a (Get.fld Message_.f5) ty3 rfl rfl rfl ?_)
      refine op (OpS.bin rfl rfl rfl rfl rfl ?_)
      refine op (OpS.pick rfl rfl rfl rfl ?_)
      refine op (OpS.mv rfl rfl rfl ?_)
      refine RunL.caseb hF (fun e5 hF => ?_) (fun e5 hF => ?_)
      ·
       refine op (OpS.fbox (o3 := 6) h10 (.s .z) PA.z fa37_6 rfl rfl rfl rfl ?_)
       refine op (OpS.loadBi h10 (.s .z) PA.a (Get.fld Message_.f6) ty3 rfl rfl rfl ?_)
       refine op (OpS.fbox (o3 := 6) h10 .z PA.z fa37_6 rfl rfl rfl rfl ?_)
       refine op (OpS.loadBi h10 .z PA.a (Get.fld Message_.f6) ty3 rfl rfl rfl ?_)
       refine op (OpS.bin rfl rfl rfl rfl rfl ?_)
       refine op (OpS.pick rfl rfl rfl rfl ?_)
       refine op (OpS.as rfl rfl rfl ?_)
       obtain ⟨x1, e6, hF⟩ := letP_use hF
       refine RunL.nameb e6 ?_
       refine RunL.nil ?_
       refine Run.slim [(4, .bool x1)] ⟨rfl, trivial⟩ ?_
       refine Run.retP rfl (.tmp rfl .nil) ?_
       cases hF
       exact Post.mk' ⟨rfl, rfl, rfl, rfl⟩ (h10.picks .nil) .nil
      ·
       refine op (OpS.pass rfl rfl rfl ?_)
       refine op (OpS.pass rfl rfl rfl ?_)
       refine op (OpS.pass rfl rfl rfl ?_)
       refine op (OpS.pass rfl rfl rfl ?_)
       refine op (OpS.pass rfl rfl rfl ?_)
       refine op (OpS.pick rfl rfl rfl rfl ?_)
       refine op (OpS.as rfl rfl rfl ?_)
       refine RunL.nil ?_
       refine Run.slim [(4, .bool false)] ⟨rfl, trivial⟩ ?_
       refine Run.retP rfl (.tmp rfl .nil) ?_
       cases hF
       exact Post.mk' ⟨rfl, rfl, rfl, rfl⟩ (h10.picks .nil) .nil
     ·
      refine op (OpS.pass rfl rfl rfl ?_)
      refine op (OpS.pass rfl rfl rfl ?_)
      refine op (OpS.pass rfl rfl rfl ?_)
      refine op (OpS.pass rfl rfl rfl ?_)
      refine op (OpS.pass rfl rfl rfl ?_)
      refine op (OpS.pick rfl rfl rfl rfl ?_)
      refine op (OpS.mv rfl rfl rfl ?_)
      refine op (OpS.pass rfl rfl rfl ?_)
      refine op (OpS.pass rfl rfl rfl ?_)
      refine op (OpS.pass rfl rfl rfl ?_)
      refine op (OpS.pass rfl rfl rfl ?_)
      refine op (OpS.pass rfl rfl rfl ?_)
      refine op (OpS.pick rfl rfl rfl rfl ?_)
      refine op (OpS.as rfl rfl rfl ?_)
      refine RunL.nil ?_
      refine Run.slim [(4, .bool false)] ⟨rfl, trivial⟩ ?_
      refine Run.retP rfl (.tmp rfl .nil) ?_
      cases hF
      exact Post.mk' ⟨rfl, rfl, rfl, rfl⟩ (h10.picks .nil) .nil
    ·
     refine op (OpS.pass rfl rfl rfl ?_)
     refine op (OpS.pass rfl rfl rfl ?_)
     refine op (OpS.pass rfl rfl rfl ?_)
     refine op (OpS.pass rfl rfl rfl ?_)
     refine op (OpS.pass rfl rfl rfl ?_)
     refine op (OpS.pick rfl rfl rfl rfl ?_)
     refine op (OpS.mv rfl rfl rfl ?_)
     refine op (OpS.pass rfl rfl rfl ?_)
     refine op (OpS.pass rfl rfl rfl ?_)
     refine op (OpS.pass rfl rfl rfl ?_)
     refine op (OpS.pass rfl rfl rfl ?_)
     refine op (OpS.pass rfl rfl rfl ?_)
     refine op (OpS.pick rfl rfl rfl rfl ?_)
     refine op (OpS.mv rfl rfl rfl ?_)
     refine op (OpS.pass rfl rfl rfl ?_)
     refine op (OpS.pass rfl rfl rfl ?_)
     refine op (OpS.pass rfl rfl rfl ?_)
     refine op (OpS.pass rfl rfl rfl ?_)
     refine op (OpS.pass rfl rfl rfl ?_)
     refine op (OpS.pick rfl rfl rfl rfl ?_)
     refine op (OpS.as rfl rfl rfl ?_)
     refine RunL.nil ?_
     refine Run.slim [(4, .bool false)] ⟨rfl, trivial⟩ ?_
     refine Run.retP rfl (.tmp rfl .nil) ?_
     cases hF
     exact Post.mk' ⟨rfl, rfl, rfl, rfl⟩ (h10.picks .nil) .nil
   ·
    refine RunL.caseb hF (fun e7 hF => ?_) (fun e7 hF => ?_)
    ·
     refine op (OpS.fbox (o3 := 1) h9 (.s .z) PA.z fa37_1 rfl rfl rfl rfl ?_)
     refine op (OpS.loadBi h9 (.s .z) PA.a (Get.fld Message_.f1) ty5 rfl rfl rfl ?_)
     refine op (OpS.fbox (o3 := 1) h9 .z PA.z fa37_1 rfl rfl rfl rfl ?_)
     refine op (OpS.loadBi h9 .z PA.a (Get.fld Message_.f1) ty5 rfl rfl rfl ?_)
     refine op (OpS.bin rfl rfl rfl rfl rfl ?_)
     refine op (OpS.pick rfl rfl rfl rfl ?_)
     refine op (OpS.mv rfl rfl rfl ?_)
     refine RunL.caseb hF (fun e8 hF => ?_) (fun e8 hF => ?_)
     ·
      refine op (OpS.fbox (o3 := 2) h9 (.s .z) PA.z fa37_2 rfl rfl rfl rfl ?_)
      refine op (OpS.loadBi h9 (.s .z) PA.a (Get.fld Message_.f2) ty5 rfl rfl rfl ?_)
      refine op (OpS.fbox (o3 := 2) h9 .z PA.z fa37_2 rfl rfl rfl rfl ?_)
      refine op (OpS.loadBi h9 .z PA.a (Get.fld Message_.f2) ty5 rfl rfl rfl ?_)
      refine op (OpS.bin rfl rfl rfl rfl rfl ?_)
      refine op (OpS.pick rfl rfl rfl rfl ?_)
      refine op (OpS.mv rfl rfl rfl ?_)
      refine RunL.caseb hF (fun e9 hF => ?_) (fun e9 hF => ?_)
      ·
       refine op (OpS.fbox (o3 := 3) h9 (.s .z) PA.z fa37_3 rfl rfl rfl rfl ?_)
       refine op (OpS.loadBi h9 (.s .z) PA.a (Get.fld Message_.f3) ty5 rfl rfl rfl ?_)
       refine op (OpS.fbox (o3 := 3) h9 .z PA.z fa37_3 rfl rfl rfl rfl ?_)
       refine op (OpS.loadBi h9 .z PA.a (Get.fld Message_.f3) ty5 rfl rfl rfl ?_)
       refine op (OpS.bin rfl rfl rfl rfl rfl ?_)
       refine op (OpS.pick rfl rfl rfl rfl ?_)
       refine op (OpS.as rfl rfl rfl ?_)
       obtain ⟨x2, e10, hF⟩ := letP_use hF
       refine RunL.nameb e10 ?_
       refine RunL.nil ?_
       refine Run.slim [(7, .bool x2), (3, u2), (5, u6)] ⟨rfl, rfl, rfl, trivial⟩ ?_
       refine Run.slim [(3, u2), (5, u6), (7, .bool x2)] ⟨rfl, rfl, rfl, trivial⟩ ?_
       exact hj2 (x2) _ _ ⟨rfl, (h9.facts .nil).picks (.cons .z (.cons .z .nil))⟩ hF
      ·
       refine op (OpS.pass rfl rfl rfl ?_)
       refine op (OpS.pass rfl rfl rfl ?_)
       refine op (OpS.pass rfl rfl rfl ?_)
       refine op (OpS.pass rfl rfl rfl ?_)
       refine op (OpS.pass rfl rfl rfl ?_)
       refine op (OpS.pick rfl rfl rfl rfl ?_)
       refine op (OpS.as rfl rfl rfl ?_)
       refine RunL.nil ?_
       refine Run.slim [(7, .bool false), (3, u2), (5, u6)] ⟨rfl, rfl, rfl, trivial⟩ ?_
       refine Run.slim [(3, u2), (5, u6), (7, .bool false)] ⟨rfl, rfl, rfl, trivial⟩ ?_
       exact hj2 (false) _ _ ⟨rfl, (h9.facts .nil).picks (.cons .z (.cons .z .nil))⟩ hF
     ·
      refine op (OpS.pass rfl rfl rfl ?_)
      refine op (OpS.pass rfl rfl rfl ?_)
      refine op (OpS.pass rfl rfl rfl ?_)
      refine op (OpS.pass rfl rfl rfl ?_)
      refine op (OpS.pass rfl rfl rfl ?_)
      refine op (OpS.pick rfl rfl rfl rfl ?_)
      refine op (OpS.mv rfl rfl rfl ?_)
      refine op (OpS.pass rfl rfl rfl ?_)
      refine op (OpS.pass rfl rfl rfl ?_)
      refine op (OpS.pass rfl rfl rfl ?_)
      refine op (OpS.pass rfl rfl rfl ?_)
      refine op (OpS.pass rfl rfl rfl ?_)
      refine op (OpS.pick rfl rfl rfl rfl ?_)
      refine op (OpS.as rfl rfl rfl ?_)
      refine RunL.nil ?_
      refine Run.slim [(7, .bool false), (3, u2), (5, u6)] ⟨rfl, rfl, rfl, trivial⟩ ?_
      refine Run.slim [(3, u2), (5, u6), (7, .bool false)] ⟨rfl, rfl, rfl, trivial⟩ ?_
      exact hj2 (false) _ _ ⟨rfl, (h9.facts .nil).picks (.cons .z (.cons .z .nil))⟩ hF
    ·
     refine op (OpS.pass rfl rfl rfl ?_)
     refine op (OpS.pass rfl rfl rfl ?_)
     refine op (OpS.pass rfl rfl rfl ?_)
     refine op (OpS.pass rfl rfl rfl ?_)
     refine op (OpS.pass rfl rfl rfl ?_)
     refine op (OpS.pick rfl rfl rfl rfl ?_)
     refine op (OpS.mv rfl rfl rfl ?_)
     refine op (OpS.pass rfl rfl rfl ?_)
     refine op (OpS.pass rfl rfl rfl ?_)
     refine op (OpS.pass rfl rfl rfl ?_)
     refine op (OpS.pass rfl rfl rfl ?_)
     refine op (OpS.pass rfl rfl rfl ?_)
     refine op (OpS.pick rfl rfl rfl rfl ?_)
     refine op (OpS.mv rfl rfl rfl ?_)
     refine op (OpS.pass rfl rfl rfl ?_)
     refine op (OpS.pass rfl rfl rfl ?_)
     refine op (OpS.pass rfl rfl rfl ?_)
     refine op (OpS.pass rfl rfl rfl ?_)
     refine op (OpS.pass rfl rfl rfl ?_)
     refine op (OpS.pick rfl rfl rfl rfl ?_)
     refine op (OpS.as rfl rfl rfl ?_)
     refine RunL.nil ?_
     refine Run.slim [(7, .bool false), (3, u2), (5, u6)] ⟨rfl, rfl, rfl, trivial⟩ ?_
     refine Run.slim [(3, u2), (5, u6), (7, .bool false)] ⟨rfl, rfl, rfl, trivial⟩ ?_
     exact hj2 (false) _ _ ⟨rfl, (h9.facts .nil).picks (.cons .z (.cons .z .nil))⟩ hF
 ·
  refine RunL.caseb hF (fun e11 hF => ?_) (fun e11 hF => ?_)
  ·
   refine op (OpS.pass rfl rfl rfl ?_)
   refine op (OpS.pass rfl rfl rfl ?_)
   refine op (OpS.pass rfl rfl rfl ?_)
   refine op (OpS.pick rfl rfl rfl rfl ?_)
   refine RunL.nil ?_
   refine Run.slim [(23, .bool true), (5, u6), (3, u2)] ⟨rfl, rfl, rfl, trivial⟩ ?_
   refine Run.slim [(3, u2), (5, u6), (23, .bool true)] ⟨rfl, rfl, rfl, trivial⟩ ?_
   exact hj1 (true) _ _ ⟨rfl, (h8.facts .nil).picks (.cons (.s .z) (.cons .z .nil))⟩ hF
  ·
   refine op (OpS.loadB h8 (.s .z) PA.z Get.id ty37 rfl rfl rfl (fun u7 h11 => ?_))
   obtain ⟨y2, e12, hF⟩ := bindP_use hF
   refine op (OpS.callP h11 Try.func34 rfl rfl rfl rfl (vs := [u7]) rfl (message_Valid_ok e12) (.cons (f := false) (V.at .z) .nil) ?_)
   rintro _ w8 _ _ _ ⟨rfl, rfl, rfl, rfl⟩ h12
   have h13 := h12 rfl rfl
   simp only [List.cons_append, List.nil_append] at h13
   refine op (OpS.not rfl rfl rfl ?_)
   refine op (OpS.pick rfl rfl rfl rfl ?_)
   refine RunL.nil ?_
   refine Run.slim [(23, .bool (!y2)), (5, u6), (3, u2)] ⟨rfl, rfl, rfl, trivial⟩ ?_
   refine Run.slim [(3, u2), (5, u6), (23, .bool (!y2))] ⟨rfl, rfl, rfl, trivial⟩ ?_
   exact hj1 (!y2) _ _ ⟨rfl, (h13.facts .nil).picks (.cons (.s .z) (.cons .z .nil))⟩ hF
theorem message_Response_ok {fuel : Nat} {a0 : Message_} {y : (List Int) × Int} (hF : message_Response fuel a0 = some y) {w : World} {v0 : Value} :
  Spec Try.prog 48 [v0].toArray w [(false, .val Message_.rep v0 a0)] [] (fun v Γr Ωr Ωo => ∃ u0 : Value, v = .tuple #[u0, .int .i64 y.2] ∧ Γr = [] ∧ Ωr = [(true, .slice 5 (Rep.int .u8) u0 y.1)] ∧ Ωo = []) := by
 refine Spec.of (L := [(0, v0)]) Try.func48 rfl ⟨rfl, trivial⟩ rfl (fun e h => ?_)
 unfold message_Response at hF
 refine Run.seq ?_
 refine Run.reg ?_
 refine op (OpS.boxF h rfl rfl rfl (V.at .z) (fun u1 w1 h1 => ?_))
 refine op (OpS.as rfl rfl rfl ?_)
 refine op (OpS.as rfl rfl rfl ?_)
 refine RunL.nil ?_
 refine Run.slim [(1, u1)] ⟨rfl, trivial⟩ ?_
 refine Run.seq ?_
 refine Run.seq ?_
 refine Run.reg ?_
 refine op (OpS.loadB h1 .z PA.z Get.id ty37 rfl rfl rfl (fun u2 h2 => ?_))
 obtain ⟨y1, e1, hF⟩ := bindP_use hF
 refine op (OpS.callP h2 Try.func34 rfl rfl rfl rfl (vs := [u2]) rfl (message_Valid_ok e1) (.cons (f := false) (V.at .z) .nil) ?_)
 rintro _ w2 _ _ _ ⟨rfl, rfl, rfl, rfl⟩ h3
 have h4 := h3 rfl rfl
 simp only [List.cons_append, List.nil_append] at h4
 refine op (OpS.not rfl rfl rfl ?_)
 refine op (OpS.mv rfl rfl rfl ?_)
 refine RunL.join (σ := Bool) (fun s_ L_ w_ => L_ = [(1, u1), (10, .bool s_)] ∧ St e w_ [] [(false, .box 37 Message_.rep u1 a0)]) hF (fun s1 _ w3 hI hF => ?_) (fun j1 hj1 hF => ?_)
 ·
  obtain ⟨rfl, h5⟩ := hI
  refine Run.ite rfl hF (fun e2 hF => ?_) (fun e2 hF => ?_)
  ·
   refine Run.seq ?_
   refine Run.reg ?_
   refine op (OpS.as rfl rfl rfl ?_)
   refine op (OpS.as rfl rfl rfl ?_)
   refine RunL.nil ?_
   refine Run.slim [(3, .int .i64 1), (2, .slice none 0 0)] ⟨rfl, rfl, trivial⟩ ?_
   have h6 := St.nil 5 (Rep.int .u8) h5
   refine Run.retP rfl (.tmp rfl (.tmp rfl .nil)) ?_
   cases hF
   exact Post.mk' ⟨(.slice none 0 0), rfl, rfl, rfl, rfl⟩ (h6.picks (.cons .z .nil)) .nil
  ·
   refine Run.skip ?_
   refine Run.seq ?_
   refine Run.reg ?_
   refine op (OpS.loadB h5 .z PA.z Get.id ty37 rfl rfl rfl (fun u3 h7 => ?_))
   obtain ⟨y2, e3, hF⟩ := bindP_use hF
   refine op (OpS.callP h7 Try.func36 rfl rfl rfl rfl (vs := [u3]) rfl (message_encode_ok e3) (.cons (f := false) (V.at .z) .nil) ?_)
   rintro u4 w4 _ _ _ ⟨_, rfl, rfl, rfl, rfl⟩ h8
   have h9 := h8 rfl rfl
   simp only [List.cons_append, List.nil_append] at h9
   refine op (OpS.as rfl rfl rfl ?_)
   refine op (OpS.as rfl rfl rfl ?_)
   refine RunL.nil ?_
   refine Run.slim [(3, .int .i64 0), (2, u4)] ⟨rfl, rfl, trivial⟩ ?_
   refine Run.retP rfl (.tmp rfl (.tmp rfl .nil)) ?_
   cases hF
   exact Post.mk' ⟨u4, rfl, rfl, rfl, rfl⟩ (h9.picks (.cons .z .nil)) .nil
 ·
  refine RunL.caseb hF (fun e4 hF => ?_) (fun e4 hF => ?_)
  ·
   refine op (OpS.pass rfl rfl rfl ?_)
   refine op (OpS.pass rfl rfl rfl ?_)
   refine op (OpS.pick rfl rfl rfl rfl ?_)
   refine RunL.nil ?_
   refine Run.slim [(10, .bool true), (1, u1)] ⟨rfl, rfl, trivial⟩ ?_
   refine Run.slim [(1, u1), (10, .bool true)] ⟨rfl, rfl, trivial⟩ ?_
   exact hj1 (true) _ _ ⟨rfl, (h4.facts .nil).picks (.cons .z .nil)⟩ hF
  ·
   refine op (OpS.loadB h4 .z PA.z Get.id ty37 rfl rfl rfl (fun u5 h10 => ?_))
   obtain ⟨y3, e5, hF⟩ := bindP_use hF
   refine op (OpS.callP h10 Try.func35 rfl rfl rfl rfl (vs := [u5]) rfl (message_request_ok e5) (.cons (f := false) (V.at .z) .nil) ?_)
   rintro _ w5 _ _ _ ⟨rfl, rfl, rfl, rfl⟩ h11
   have h12 := h11 rfl rfl
   simp only [List.cons_append, List.nil_append] at h12
   refine op (OpS.pick rfl rfl rfl rfl ?_)
   refine RunL.nil ?_
   refine Run.slim [(10, .bool y3), (1, u1)] ⟨rfl, rfl, trivial⟩ ?_
   refine Run.slim [(1, u1), (10, .bool y3)] ⟨rfl, rfl, trivial⟩ ?_
   exact hj1 (y3) _ _ ⟨rfl, (h12.facts .nil).picks (.cons .z .nil)⟩ hF
theorem slices_Equal_byte_byte_ok {fuel : Nat} {a0 : List Int} {a1 : List Int} {y : Bool} (hF : slices_Equal_byte_byte fuel a0 a1 = some y) {w : World} {v0 v1 : Value} :
  Spec Try.prog 49 [v0, v1].toArray w [(false, .val (Rep.slice (Rep.int .u8)) v0 a0), (false, .val (Rep.slice (Rep.int .u8)) v1 a1)] [] (fun v Γr Ωr Ωo => v = .bool y ∧ Γr = [] ∧ Ωr = [] ∧ Ωo = []) := by
 refine Spec.of (L := [(0, v0), (1, v1)]) Try.func49 rfl ⟨rfl, rfl, trivial⟩ rfl (fun e h => ?_)
 unfold slices_Equal_byte_byte at hF
 refine Run.seq ?_
 refine Run.reg ?_
 refine op (OpS.as rfl rfl rfl ?_)
 refine RunL.nil ?_
 refine Run.slim [(0, v0), (1, v1)] ⟨rfl, rfl, trivial⟩ ?_
 refine Run.seq ?_
 refine Run.seq ?_
 refine Run.reg ?_
 refine op (OpS.mv rfl rfl rfl ?_)
 refine op (OpS.len h Try.underlying22 rfl rfl rfl (V.at .z) ?_)
 refine op (OpS.mv rfl rfl rfl ?_)
 refine op (OpS.len h Try.underlying22 rfl rfl rfl (V.at (.s .z)) ?_)
 refine op (OpS.bin rfl rfl rfl rfl rfl ?_)
 refine RunL.nil ?_
 refine Run.slim [(10, .bool ((a0.length : Int) != (a1.length : Int))), (0, v0), (1, v1)] ⟨rfl, rfl, rfl, trivial⟩ ?_
 refine Run.ite rfl hF (fun e1 hF => ?_) (fun e1 hF => ?_)
 ·
  refine Run.seq ?_
  refine Run.reg ?_
  refine op (OpS.as rfl rfl rfl ?_)
  refine RunL.nil ?_
  refine Run.slim [(4, .bool false)] ⟨rfl, trivial⟩ ?_
  refine Run.retP rfl (.tmp rfl .nil) ?_
  cases hF
  exact Post.mk' ⟨rfl, rfl, rfl, rfl⟩ (h.picks .nil) .nil
 ·
  refine Run.skip ?_
  refine Run.seq ?_
  refine Run.seq ?_
  refine Run.reg ?_
  refine op (OpS.mv rfl rfl rfl ?_)
  refine op (OpS.len h Try.underlying22 rfl rfl rfl (V.at .z) ?_)
  refine op (OpS.mv rfl rfl rfl ?_)
  refine RunL.nil ?_
  refine Run.slim [(13, .int .i64 0), (12, .int .i64 (a0.length : Int)), (0, v0), (1, v1)] ⟨rfl, rfl, rfl, rfl, trivial⟩ ?_
  refine Run.block ?_
  refine Run.slim [(0, v0), (1, v1), (12, .int .i64 (a0.length : Int)), (13, .int .i64 0)] ⟨rfl, rfl, rfl, rfl, trivial⟩ ?_
  refine Run.loopP (σ := Int) (fun s_ L_ w_ => L_ = [(0, v0), (1, v1), (12, .int .i64 (a0.length : Int)), (13, .int .i64 s_)] ∧ St e w_ [(false, .val (Rep.slice (Rep.int .u8)) v0 a0), (false, .val (Rep.slice (Rep.int .u8)) v1 a1)] []) hF ⟨rfl, (h.facts (.atm .z (.atm (.s .z) .nil))).picks .nil⟩ (fun k1 hk1 s1 _ w1 hI hF => ?_)
  obtain ⟨rfl, h1⟩ := hI
  refine Run.seq ?_
  refine Run.reg ?_
  refine op (OpS.bin rfl rfl rfl rfl rfl ?_)
  refine RunL.nil ?_
  refine Run.seq ?_
  refine Run.ite rfl hF (fun e2 hF => ?_) (fun e2 hF => ?_)
  ·
   refine Run.skip ?_
   refine Run.seq ?_
   refine Run.block ?_
   refine Run.seq ?_
   refine Run.reg ?_
   refine op (OpS.mv rfl rfl rfl ?_)
   refine op (OpS.as rfl rfl rfl ?_)
   refine RunL.nil ?_
   refine Run.slim [(5, .int .i64 s1), (0, v0), (1, v1), (12, .int .i64 (a0.length : Int)), (13, .int .i64 s1)] ⟨rfl, rfl, rfl, rfl, rfl, trivial⟩ ?_
   refine Run.seq ?_
   obtain ⟨x1, e3, hF⟩ := bindP_use hF
   obtain ⟨x2, e4, hF⟩ := bindP_use hF
   refine Run.drawV (Ωs := []) [⟨some 16, some (v0), fun _ => [], fun ds_ u_ => [], [], [], none⟩, ⟨some 17, some (.int .i64 s1), fun _ => [], fun ds_ u_ => [], [], [], none⟩, ⟨some 18, none, fun u_ => [(false, .ptr (Rep.int .u8) u_ x1)], fun ds_ u_ => [], [], [], none⟩, ⟨some 19, some (.int .u8 x1), fun _ => [], fun ds_ u_ => [], [], [], none⟩, ⟨some 20, some (v1), fun _ => [], fun ds_ u_ => [], [], [], none⟩, ⟨some 21, some (.int .i64 s1), fun _ => [], fun ds_ u_ => [], [], [], none⟩, ⟨some 22, none, fun u_ => [(false, .ptr (Rep.int .u8) u_ x2)], fun ds_ u_ => [], [], [], none⟩, ⟨some 23, some (.int .u8 x2), fun _ => [], fun ds_ u_ => [], [], [], none⟩, ⟨some 24, some (.bool (x1 != x2)), fun _ => [], fun ds_ u_ => [], [], [], none⟩] [[], [], [0, 1], [2], [], [], [4, 5], [6], [3, 7]] [] [0, 1, 2, 3, 4, 5, 6, 7, 8] Try_mixed rfl rfl rfl h1 (.cons ?_ (.cons ?_ (.cons ?_ (.cons ?_ (.cons ?_ (.cons ?_ (.cons ?_ (.cons ?_ (.cons ?_ .nil))))))))) (fun q1 w hq1 h => ?_)
   ·intro q1 w Γx Ωx h
    refine OpS.mv rfl rfl rfl ?_
    exact ⟨undef, rfl, trivial, h⟩
   ·intro q1 w Γx Ωx h
    refine OpS.mv rfl rfl rfl ?_
    exact ⟨undef, rfl, trivial, h⟩
   ·intro q1 w Γx Ωx h
    refine OpS.iptr h Try.underlying22 ty5 rfl rfl rfl rfl (V.at .z) e3 (fun u h4 => ?_)
    exact ⟨u, rfl, trivial, h4⟩
   ·intro q1 w Γx Ωx h
    refine OpS.loadi h ty5 rfl rfl rfl .z ?_
    exact ⟨undef, rfl, trivial, h⟩
   ·intro q1 w Γx Ωx h
    refine OpS.mv rfl rfl rfl ?_
    exact ⟨undef, rfl, trivial, h⟩
   ·intro q1 w Γx Ωx h
    refine OpS.mv rfl rfl rfl ?_
    exact ⟨undef, rfl, trivial, h⟩
   ·intro q1 w Γx Ωx h
    refine OpS.iptr h Try.underlying22 ty5 rfl rfl rfl rfl (V.at (.s .z)) e4 (fun u h5 => ?_)
    exact ⟨u, rfl, trivial, h5⟩
   ·intro q1 w Γx Ωx h
    refine OpS.loadi h ty5 rfl rfl rfl .z ?_
    exact ⟨undef, rfl, trivial, h⟩
   ·intro q1 w Γx Ωx h
    refine OpS.bin rfl rfl rfl rfl rfl ?_
    exact ⟨undef, rfl, trivial, h⟩
   have h6 : St e w [(false, .ptr (Rep.int .u8) (q1 2) x1), (false, .ptr (Rep.int .u8) (q1 6) x2), (false, .val (Rep.slice (Rep.int .u8)) v0 a0), (false, .val (Rep.slice (Rep.int .u8)) v1 a1)] [] := h
   refine RunL.nil ?_
   refine Run.slim [(24, .bool (x1 != x2)), (0, v0), (1, v1), (12, .int .i64 (a0.length : Int)), (13, .int .i64 s1)] ⟨rfl, rfl, rfl, rfl, rfl, trivial⟩ ?_
   refine Run.ite rfl hF (fun e5 hF => ?_) (fun e5 hF => ?_)
   ·
    refine Run.seq ?_
    refine Run.reg ?_
    refine op (OpS.as rfl rfl rfl ?_)
    refine RunL.nil ?_
    refine Run.slim [(4, .bool false)] ⟨rfl, trivial⟩ ?_
    refine Run.retP rfl (.tmp rfl .nil) ?_
    cases hF
    exact Post.mk' ⟨rfl, rfl, rfl, rfl⟩ (h6.picks .nil) .nil
   ·
    refine Run.skip ?_
    refine Run.endBlock ?_
    refine Run.reg ?_
    refine op (OpS.bin rfl rfl rfl rfl rfl ?_)
    refine op (OpS.mv rfl rfl rfl ?_)
    refine RunL.nil ?_
    refine Run.slim [(13, .int .i64 (IntKind.i64.wrap (s1 + 1))), (0, v0), (1, v1), (12, .int .i64 (a0.length : Int))] ⟨rfl, rfl, rfl, rfl, trivial⟩ ?_
    refine Run.slim [(0, v0), (1, v1), (12, .int .i64 (a0.length : Int)), (13, .int .i64 (IntKind.i64.wrap (s1 + 1)))] ⟨rfl, rfl, rfl, rfl, trivial⟩ ?_
    exact hk1 ((IntKind.i64.wrap (s1 + 1))) _ _ ⟨rfl, (h6.facts (.atm (.s (.s .z)) (.atm (.s (.s (.s .z))) .nil))).picks .nil⟩ hF
  ·
   refine Run.exit rfl ?_
   refine Run.seq ?_
   refine Run.reg ?_
   refine op (OpS.as rfl rfl rfl ?_)
   refine RunL.nil ?_
   refine Run.slim [(4, .bool true)] ⟨rfl, trivial⟩ ?_
   refine Run.retP rfl (.tmp rfl .nil) ?_
   cases hF
   exact Post.mk' ⟨rfl, rfl, rfl, rfl⟩ (h1.picks .nil) .nil
set_option maxHeartbeats 8000000 in
theorem responder_request_is_ok {fuel : Nat} {a0 : Message_} {a1 : Message_} {y : Bool} (hF : responder_request_is fuel a0 a1 = some y) {w : World} {v0 v1 : Value} :
  Spec Try.prog 38 [v0, v1].toArray w [(false, .val Message_.rep v0 a0), (false, .val Message_.rep v1 a1)] [] (fun v Γr Ωr Ωo => v = .bool y ∧ Γr = [] ∧ Ωr = [] ∧ Ωo = []) := by
 refine Spec.of (L := [(0, v0), (1, v1)]) Try.func38 rfl ⟨rfl, rfl, trivial⟩ rfl (fun e h => ?_)
 unfold responder_request_is at hF
 refine Run.seq ?_
 refine Run.reg ?_
 refine op (OpS.boxF h rfl rfl rfl (V.at .z) (fun u1 w1 h1 => ?_))
 refine op (OpS.boxF h1 rfl rfl rfl (V.at (.s .z)) (fun u2 w2 h2 => ?_))
 refine op (OpS.as rfl rfl rfl ?_)
 refine RunL.nil ?_
 refine Run.slim [(3, u2), (2, u1)] ⟨rfl, rfl, trivial⟩ ?_
 refine Run.seq ?_
 refine Run.reg ?_
 refine op (OpS.fbox (o3 := 0) h2 (.s .z) PA.z fa69_0 rfl rfl rfl rfl ?_)
 refine op (OpS.loadBi h2 (.s .z) PA.a (Get.fld Message_.f0) ty5 rfl rfl rfl ?_)
 refine op (OpS.fbox (o3 := 0) h2 .z PA.z fa37_0 rfl rfl rfl rfl ?_)
 refine op (OpS.loadBi h2 .z PA.a (Get.fld Message_.f0) ty5 rfl rfl rfl ?_)
 refine op (OpS.bin rfl rfl rfl rfl rfl ?_)
 refine op (OpS.mv rfl rfl rfl ?_)
 refine RunL.caseb hF (fun e1 hF => ?_) (fun e1 hF => ?_)
 ·
  refine op (OpS.fbox (o3 := 1) h2 (.s .z) PA.z fa69_1 rfl rfl rfl rfl ?_)
  refine op (OpS.loadBi h2 (.s .z) PA.a (Get.fld Message_.f1) ty5 rfl rfl rfl ?_)
  refine op (OpS.fbox (o3 := 1) h2 .z PA.z fa37_1 rfl rfl rfl rfl ?_)
  refine op (OpS.loadBi h2 .z PA.a (Get.fld Message_.f1) ty5 rfl rfl rfl ?_)
  refine op (OpS.bin rfl rfl rfl rfl rfl ?_)
  refine op (OpS.pick rfl rfl rfl rfl ?_)
  refine op (OpS.mv rfl rfl rfl ?_)
  refine RunL.caseb hF (fun e2 hF => ?_) (fun e2 hF => ?_)
  ·
   refine op (OpS.fbox (o3 := 2) h2 (.s .z) PA.z fa69_2 rfl rfl rfl rfl ?_)
   refine op (OpS.loadBi h2 (.s .z) PA.a (Get.fld Message_.f2) ty5 rfl rfl rfl ?_)
   refine op (OpS.fbox (o3 := 2) h2 .z PA.z fa37_2 rfl rfl rfl rfl ?_)
   refine op (OpS.loadBi h2 .z PA.a (Get.fld Message_.f2) ty5 rfl rfl rfl ?_)
   refine op (OpS.bin rfl rfl rfl rfl rfl ?_)
   refine op (OpS.pick rfl rfl rfl rfl ?_)
   refine op (OpS.mv rfl rfl rfl ?_)
   refine RunL.caseb hF (fun e3 hF => ?_) (fun e3 hF => ?_)
   ·
    refine op (OpS.fbox (o3 := 3) h2 (.s .z) PA.z fa69_3 rfl rfl rfl rfl ?_)
    refine op (OpS.loadBi h2 (.s .z) PA.a (Get.fld Message_.f3) ty5 rfl rfl rfl ?_)
    refine op (OpS.fbox (o3 := 3) h2 .z PA.z fa37_3 rfl rfl rfl rfl ?_)
    refine op (OpS.loadBi h2 .z PA.a (Get.fld Message_.f3) ty5 rfl rfl rfl ?_)
    refine op (OpS.bin rfl rfl rfl rfl rfl ?_)
    refine op (OpS.pick rfl rfl rfl rfl ?_)
    refine op (OpS.mv rfl rfl rfl ?_)
    refine RunL.caseb hF (fun e4 hF => ?_) (fun e4 hF => ?_)
    ·
     refine op (OpS.fbox (o3 := 4) h2 (.s .z) PA.z fa69_4 rfl rfl rfl rfl ?_)
     refine op (OpS.loadBi h2 (.s .z) PA.a (Get.fld Message_.f4) ty3 rfl rfl rfl ?_)
     refine op (OpS.fbox (o3 := 4) h2 .z PA.z fa37_4 rfl rfl rfl rfl ?_)
     refine op (OpS.loadBi h2 .z PA.a (Get.fld Message_.f4) ty3 rfl rfl rfl ?_)
     refine op (OpS.bin rfl rfl rfl rfl rfl ?_)
     refine op (OpS.pick rfl rfl rfl rfl ?_)
     refine op (OpS.mv rfl rfl rfl ?_)
     refine RunL.caseb hF (fun e5 hF => ?_) (fun e5 hF => ?_)
     ·
      refine op (OpS.fbox (o3 := 5) h2 (.s .z) PA.z fa69_5 rfl rfl rfl rfl ?_)
      refine op (OpS.loadBi h2 (.s .z) PA.a (Get.fld Message_.f5) ty3 rfl rfl rfl ?_)
      refine op (OpS.fbox (o3 := 5) h2 .z PA.z fa37_5 rfl rfl rfl rfl ?_)
      refine op (OpS.loadBi h2 .z PA.a (Get.fld Message_.f5) ty3 rfl rfl rfl ?_)
      refine op (OpS.bin rfl rfl rfl rfl rfl ?_)
      refine op (OpS.pick rfl rfl rfl rfl ?_)
      refine op (OpS.mv rfl rfl rfl ?_)
      refine RunL.caseb hF (fun e6 hF => ?_) (fun e6 hF => ?_)
      ·
       refine op (OpS.fbox (o3 := 6) h2 (.s .z) PA.z fa69_6 rfl rfl rfl rfl ?_)
       refine op (OpS.loadBi h2 (.s .z) PA.a (Get.fld Message_.f6) ty3 rfl rfl rfl ?_)
       refine op (OpS.fbox (o3 := 6) h2 .z PA.z fa37_6 rfl rfl rfl rfl ?_)
       refine op (OpS.loadBi h2 .z PA.a (Get.fld Message_.f6) ty3 rfl rfl rfl ?_)
       refine op (OpS.bin rfl rfl rfl rfl rfl ?_)
       refine op (OpS.pick rfl rfl rfl rfl ?_)
       refine op (OpS.mv rfl rfl rfl ?_)
       refine RunL.caseb hF (fun e7 hF => ?_) (fun e7 hF => ?_)
       ·
        refine op (OpS.fbox (o3 := 8) h2 (.s .z) PA.z fa69_8 rfl rfl rfl rfl ?_)
        refine op (OpS.loadB h2 (.s .z) PA.a (Get.fld Message_.f8) ty22 rfl rfl rfl (fun u3 h3 => ?_))
        refine op (OpS.fbox (o3 := 8) h3 .z PA.z fa37_8 rfl rfl rfl rfl ?_)
        refine op (OpS.loadB h3 .z PA.a (Get.fld Message_.f8) ty22 rfl rfl rfl (fun u4 h4 => ?_))
        obtain ⟨y1, e8, hF⟩ := bindP_use hF
        refine op (OpS.callP h4 Try.func49 rfl rfl rfl rfl (vs := [u3, u4]) rfl (slices_Equal_byte_byte_ok e8) (.cons (f := false) (V.at (.s .z)) (.cons (f := false) (V.at .z) .nil)) ?_)
        rintro _ w3 _ _ _ ⟨rfl, rfl, rfl, rfl⟩ h5
        have h6 := h5 rfl rfl
        simp only [List.cons_append, List.nil_append] at h6
        refine op (OpS.pick rfl rfl rfl rfl ?_)
        refine op (OpS.as rfl rfl rfl ?_)
        refine RunL.nil ?_
        refine Run.slim [(4, .bool y1)] ⟨rfl, trivial⟩ ?_
        refine Run.retP rfl (.tmp rfl .nil) ?_
        cases hF
        exact Post.mk' ⟨rfl, rfl, rfl, rfl⟩ (h6.picks .nil) .nil
       ·
        refine op (OpS.pass rfl rfl rfl ?_)
        refine op (OpS.pass rfl rfl rfl ?_)
        refine op (OpS.pass rfl rfl rfl ?_)
        refine op (OpS.pass rfl rfl rfl ?_)
        refine op (OpS.pass rfl rfl rfl ?_)
        refine op (OpS.pick rfl rfl rfl rfl ?_)
        refine op (OpS.as rfl rfl rfl ?_)
        refine RunL.nil ?_
        refine Run.slim [(4, .bool false)] ⟨rfl, trivial⟩ ?_
        refine Run.retP rfl (.tmp rfl .nil) ?_
        cases hF
        exact Post.mk' ⟨rfl, rfl, rfl, rfl⟩ (h2.picks .nil) .nil
      ·
       refine op (OpS.pass rfl rfl rfl ?_)
       refine op (OpS.pass rfl rfl rfl ?_)
       refine op (OpS.pass rfl rfl rfl ?_)
       refine op (OpS.pass rfl rfl rfl ?_)
       refine op (OpS.pass rfl rfl rfl ?_)
       refine op (OpS.pick rfl rfl rfl rfl ?_)
       refine op (OpS.mv rfl rfl rfl ?_)
       refine op (OpS.pass rfl rfl rfl ?_)
       refine op (OpS.pass rfl rfl rfl ?_)
       refine op (OpS.pass rfl rfl rfl ?_)
       refine op (OpS.pass rfl rfl rfl ?_)
       refine op (OpS.pass rfl rfl rfl ?_)
       refine op (OpS.pick rfl rfl rfl rfl ?_)
       refine op (OpS.as rfl rfl rfl ?_)
       refine RunL.nil ?_
       refine Run.slim [(4, .bool false)] ⟨rfl, trivial⟩ ?_
       refine Run.retP rfl (.tmp rfl .nil) ?_
       cases hF
       exact Post.mk' ⟨rfl, rfl, rfl, rfl⟩ (h2.picks .nil) .nil
     ·
      refine op (OpS.pass rfl rfl rfl ?_)
      refine op (OpS.pass rfl rfl rfl ?_)
      refine op (OpS.pass rfl rfl rfl ?_)
      refine op (OpS.pass rfl rfl rfl ?_)
      refine op (OpS.pass rfl rfl rfl ?_)
      refine op (OpS.pick rfl rfl rfl rfl ?_)
      refine op (OpS.mv rfl rfl rfl ?_)
      refine op (OpS.pass rfl rfl rfl ?_)
      refine op (OpS.pass rfl rfl rfl ?_)
      refine op (OpS.pass rfl rfl rfl ?_)
      refine op (OpS.pass rfl rfl rfl ?_)
      refine op (OpS.pass rfl rfl rfl ?_)
      refine op (OpS.pick rfl rfl rfl rfl ?_)
      refine op (OpS.mv rfl rfl rfl ?_)
      refine op (OpS.pass rfl rfl rfl ?_)
      refine op (OpS.pass rfl rfl rfl ?_)
      refine op (OpS.pass rfl rfl rfl ?_)
      refine op (OpS.pass rfl rfl rfl ?_)
      refine op (OpS.pass rfl rfl rfl ?_)
      refine op (OpS.pick rfl rfl rfl rfl ?_)
      refine op (OpS.as rfl rfl rfl ?_)
      refine RunL.nil ?_
      refine Run.slim [(4, .bool false)] ⟨rfl, trivial⟩ ?_
      refine Run.retP rfl (.tmp rfl .nil) ?_
      cases hF
      exact Post.mk' ⟨rfl, rfl, rfl, rfl⟩ (h2.picks .nil) .nil
    ·
     refine op (OpS.pass rfl rfl rfl ?_)
     refine op (OpS.pass rfl rfl rfl ?_)
     refine op (OpS.pass rfl rfl rfl ?_)
     refine op (OpS.pass rfl rfl rfl ?_)
     refine op (OpS.pass rfl rfl rfl ?_)
     refine op (OpS.pick rfl rfl rfl rfl ?_)
     refine op (OpS.mv rfl rfl rfl ?_)
     refine op (OpS.pass rfl rfl rfl ?_)
     refine op (OpS.pass rfl rfl rfl ?_)
     refine op (OpS.pass rfl rfl rfl ?_)
     refine op (OpS.pass rfl rfl rfl ?_)
     refine op (OpS.pass rfl rfl rfl ?_)
     refine op (OpS.pick rfl rfl rfl rfl ?_)
     refine op (OpS.mv rfl rfl rfl ?_)
     refine op (OpS.pass rfl rfl rfl ?_)
     refine op (OpS.pass rfl rfl rfl ?_)
     refine op (OpS.pass rfl rfl rfl ?_)
     refine op (OpS.pass rfl rfl rfl ?_)
     refine op (OpS.pass rfl rfl rfl ?_)
     refine op (OpS.pick rfl rfl rfl rfl ?_)
     refine op (OpS.mv rfl rfl rfl ?_)
     refine op (OpS.pass rfl rfl rfl ?_)
     refine op (OpS.pass rfl rfl rfl ?_)
     refine op (OpS.pass rfl rfl rfl ?_)
     refine op (OpS.pass rfl rfl rfl ?_)
     refine op (OpS.pass rfl rfl rfl ?_)
     refine op (OpS.pick rfl rfl rfl rfl ?_)
     refine op (OpS.as rfl rfl rfl ?_)
     refine RunL.nil ?_
     refine Run.slim [(4, .bool false)] ⟨rfl, trivial⟩ ?_
     refine Run.retP rfl (.tmp rfl .nil) ?_
     cases hF
     exact Post.mk' ⟨rfl, rfl, rfl, rfl⟩ (h2.picks .nil) .nil
   ·
    refine op (OpS.pass rfl rfl rfl ?_)
    refine op (OpS.pass rfl rfl rfl ?_)
    refine op (OpS.pass rfl rfl rfl ?_)
    refine op (OpS.pass rfl rfl rfl ?_)
    refine op (OpS.pass rfl rfl rfl ?_)
    refine op (OpS.pick rfl rfl rfl rfl ?_)
    refine op (OpS.mv rfl rfl rfl ?_)
    refine op (OpS.pass rfl rfl rfl ?_)
    refine op (OpS.pass rfl rfl rfl ?_)
    refine op (OpS.pass rfl rfl rfl ?_)
    refine op (OpS.pass rfl rfl rfl ?_)
    refine op (OpS.pass rfl rfl rfl ?_)
    refine op (OpS.pick rfl rfl rfl rfl ?_)
    refine op (OpS.mv rfl rfl rfl ?_)
    refine op (OpS.pass rfl rfl rfl ?_)
    refine op (OpS.pass rfl rfl rfl ?_)
    refine op (OpS.pass rfl rfl rfl ?_)
    refine op (OpS.pass rfl rfl rfl ?_)
    refine op (OpS.pass rfl rfl rfl ?_)
    refine op (OpS.pick rfl rfl rfl rfl ?_)
    refine op (OpS.mv rfl rfl rfl ?_)
    refine op (OpS.pass rfl rfl rfl ?_)
    refine op (OpS.pass rfl rfl rfl ?_)
    refine op (OpS.pass rfl rfl rfl ?_)
    refine op (OpS.pass rfl rfl rfl ?_)
    refine op (OpS.pass rfl rfl rfl ?_)
    refine op (OpS.pick rfl rfl rfl rfl ?_)
    refine op (OpS.mv rfl rfl rfl ?_)
    refine op (OpS.pass rfl rfl rfl ?_)
    refine op (OpS.pass rfl rfl rfl ?_)
    refine op (OpS.pass rfl rfl rfl ?_)
    refine op (OpS.pass rfl rfl rfl ?_)
    refine op (OpS.pass rfl rfl rfl ?_)
    refine op (OpS.pick rfl rfl rfl rfl ?_)
    refine op (OpS.as rfl rfl rfl ?_)
    refine RunL.nil ?_
    refine Run.slim [(4, .bool false)] ⟨rfl, trivial⟩ ?_
    refine Run.retP rfl (.tmp rfl .nil) ?_
    cases hF
    exact Post.mk' ⟨rfl, rfl, rfl, rfl⟩ (h2.picks .nil) .nil
  ·
   refine op (OpS.pass rfl rfl rfl ?_)
   refine op (OpS.pass rfl rfl rfl ?_)
   refine op (OpS.pass rfl rfl rfl ?_)
   refine op (OpS.pass rfl rfl rfl ?_)
   refine op (OpS.pass rfl rfl rfl ?_)
   refine op (OpS.pick rfl rfl rfl rfl ?_)
   refine op (OpS.mv rfl rfl rfl ?_)
   refine op (OpS.pass rfl rfl rfl ?_)
   refine op (OpS.pass rfl rfl rfl ?_)
   refine op (OpS.pass rfl rfl rfl ?_)
   refine op (OpS.pass rfl rfl rfl ?_)
   refine op (OpS.pass rfl rfl rfl ?_)
   refine op (OpS.pick rfl rfl rfl rfl ?_)
   refine op (OpS.mv rfl rfl rfl ?_)
   refine op (OpS.pass rfl rfl rfl ?_)
   refine op (OpS.pass rfl rfl rfl ?_)
   refine op (OpS.pass rfl rfl rfl ?_)
   refine op (OpS.pass rfl rfl rfl ?_)
   refine op (OpS.pass rfl rfl rfl ?_)
   refine op (OpS.pick rfl rfl rfl rfl ?_)
   refine op (OpS.mv rfl rfl rfl ?_)
   refine op (OpS.pass rfl rfl rfl ?_)
   refine op (OpS.pass rfl rfl rfl ?_)
   refine op (OpS.pass rfl rfl rfl ?_)
   refine op (OpS.pass rfl rfl rfl ?_)
   refine op (OpS.pass rfl rfl rfl ?_)
   refine op (OpS.pick rfl rfl rfl rfl ?_)
   refine op (OpS.mv rfl rfl rfl ?_)
   refine op (OpS.pass rfl rfl rfl ?_)
   refine op (OpS.pass rfl rfl rfl ?_)
   refine op (OpS.pass rfl rfl rfl ?_)
   refine op (OpS.pass rfl rfl rfl ?_)
   refine op (OpS.pass rfl rfl rfl ?_)
   refine op (OpS.pick rfl rfl rfl rfl ?_)
   refine op (OpS.mv rfl rfl rfl ?_)
   refine op (OpS.pass rfl rfl rfl ?_)
   refine op (OpS.pass rfl rfl rfl ?_)
   refine op (OpS.pass rfl rfl rfl ?_)
   refine op (OpS.pass rfl rfl rfl ?_)
   refine op (OpS.pass rfl rfl rfl ?_)
   refine op (OpS.pick rfl rfl rfl rfl ?_)
   refine op (OpS.as rfl rfl rfl ?_)
   refine RunL.nil ?_
   refine Run.slim [(4, .bool false)] ⟨rfl, trivial⟩ ?_
   refine Run.retP rfl (.tmp rfl .nil) ?_
   cases hF
   exact Post.mk' ⟨rfl, rfl, rfl, rfl⟩ (h2.picks .nil) .nil
 ·
  refine op (OpS.pass rfl rfl rfl ?_)
  refine op (OpS.pass rfl rfl rfl ?_)
  refine op (OpS.pass rfl rfl rfl ?_)
  refine op (OpS.pass rfl rfl rfl ?_)
  refine op (OpS.pass rfl rfl rfl ?_)
  refine op (OpS.pick rfl rfl rfl rfl ?_)
  refine op (OpS.mv rfl rfl rfl ?_)
  refine op (OpS.pass rfl rfl rfl ?_)
  refine op (OpS.pass rfl rfl rfl ?_)
  refine op (OpS.pass rfl rfl rfl ?_)
  refine op (OpS.pass rfl rfl rfl ?_)
  refine op (OpS.pass rfl rfl rfl ?_)
  refine op (OpS.pick rfl rfl rfl rfl ?_)
  refine op (OpS.mv rfl rfl rfl ?_)
  refine op (OpS.pass rfl rfl rfl ?_)
  refine op (OpS.pass rfl rfl rfl ?_)
  refine op (OpS.pass rfl rfl rfl ?_)
  refine op (OpS.pass rfl rfl rfl ?_)
  refine op (OpS.pass rfl rfl rfl ?_)
  refine op (OpS.pick rfl rfl rfl rfl ?_)
  refine op (OpS.mv rfl rfl rfl ?_)
  refine op (OpS.pass rfl rfl rfl ?_)
  refine op (OpS.pass rfl rfl rfl ?_)
  refine op (OpS.pass rfl rfl rfl ?_)
  refine op (OpS.pass rfl rfl rfl ?_)
  refine op (OpS.pass rfl rfl rfl ?_)
  refine op (OpS.pick rfl rfl rfl rfl ?_)
  refine op (OpS.mv rfl rfl rfl ?_)
  refine op (OpS.pass rfl rfl rfl ?_)
  refine op (OpS.pass rfl rfl rfl ?_)
  refine op (OpS.pass rfl rfl rfl ?_)
  refine op (OpS.pass rfl rfl rfl ?_)
  refine op (OpS.pass rfl rfl rfl ?_)
  refine op (OpS.pick rfl rfl rfl rfl ?_)
  refine op (OpS.mv rfl rfl rfl ?_)
  refine op (OpS.pass rfl rfl rfl ?_)
  refine op (OpS.pass rfl rfl rfl ?_)
  refine op (OpS.pass rfl rfl rfl ?_)
  refine op (OpS.pass rfl rfl rfl ?_)
  refine op (OpS.pass rfl rfl rfl ?_)
  refine op (OpS.pick rfl rfl rfl rfl ?_)
  refine op (OpS.mv rfl rfl rfl ?_)
  refine op (OpS.pass rfl rfl rfl ?_)
  refine op (OpS.pass rfl rfl rfl ?_)
  refine op (OpS.pass rfl rfl rfl ?_)
  refine op (OpS.pass rfl rfl rfl ?_)
  refine op (OpS.pass rfl rfl rfl ?_)
  refine op (OpS.pick rfl rfl rfl rfl ?_)
  refine op (OpS.as rfl rfl rfl ?_)
  refine RunL.nil ?_
  refine Run.slim [(4, .bool false)] ⟨rfl, trivial⟩ ?_
  refine Run.retP rfl (.tmp rfl .nil) ?_
  cases hF
  exact Post.mk' ⟨rfl, rfl, rfl, rfl⟩ (h2.picks .nil) .nil
theorem slices_IndexFunc_api_Message_api_Message_responder_request_is_ok {fuel : Nat} {a0 : List Message_} {a1_0 : Message_} {y : Int} (hF : slices_IndexFunc_api_Message_api_Message_responder_request_is fuel a0 a1_0 = some y) {w : World} {v0 v1_0 : Value} :
  Spec Try.prog 66 [v0, .func (.func 38) #[v1_0] #[]].toArray w [(false, .val (Rep.slice Message_.rep) v0 a0), (false, .val Message_.rep v1_0 a1_0)] [] (fun v Γr Ωr Ωo => v = .int .i64 y ∧ Γr = [] ∧ Ωr = [] ∧ Ωo = []) := by
 refine Spec.of (L := [(0, v0), (1, .func (.func 38) #[v1_0] #[])]) Try.func66 rfl ⟨rfl, rfl, trivial⟩ rfl (fun e h => ?_)
 unfold slices_IndexFunc_api_Message_api_Message_responder_request_is at hF
 refine Run.seq ?_
 refine Run.reg ?_
 refine op (OpS.as rfl rfl rfl ?_)
 refine RunL.nil ?_
 refine Run.slim [(0, v0), (1, .func (.func 38) #[v1_0] #[])] ⟨rfl, rfl, trivial⟩ ?_
 refine Run.seq ?_
 refine Run.seq ?_
 refine Run.reg ?_
 refine op (OpS.mv rfl rfl rfl ?_)
 refine op (OpS.len h Try.underlying26 rfl rfl rfl (V.at .z) ?_)
 refine op (OpS.mv rfl rfl rfl ?_)
 refine RunL.nil ?_
 refine Run.slim [(8, .int .i64 0), (7, .int .i64 (a0.length : Int)), (0, v0), (1, .func (.func 38) #[v1_0] #[])] ⟨rfl, rfl, rfl, rfl, trivial⟩ ?_
 refine Run.block ?_
 refine Run.slim [(0, v0), (1, .func (.func 38) #[v1_0] #[]), (7, .int .i64 (a0.length : Int)), (8, .int .i64 0)] ⟨rfl, rfl, rfl, rfl, trivial⟩ ?_
 refine Run.loopP (σ := Int) (fun s_ L_ w_ => L_ = [(0, v0), (1, .func (.func 38) #[v1_0] #[]), (7, .int .i64 (a0.length : Int)), (8, .int .i64 s_)] ∧ St e w_ [(false, .val (Rep.slice Message_.rep) v0 a0), (false, .val Message_.rep v1_0 a1_0)] []) hF ⟨rfl, (h.facts (.atm .z (.atm (.s .z) .nil))).picks .nil⟩ (fun k1 hk1 s1 _ w1 hI hF => ?_)
 obtain ⟨rfl, h1⟩ := hI
 refine Run.seq ?_
 refine Run.reg ?_
 refine op (OpS.bin rfl rfl rfl rfl rfl ?_)
 refine RunL.nil ?_
 refine Run.seq ?_
 refine Run.ite rfl hF (fun e1 hF => ?_) (fun e1 hF => ?_)
 ·
  refine Run.skip ?_
  refine Run.seq ?_
  refine Run.block ?_
  refine Run.seq ?_
  refine Run.reg ?_
  refine op (OpS.mv rfl rfl rfl ?_)
  refine op (OpS.as rfl rfl rfl ?_)
  refine RunL.nil ?_
  refine Run.slim [(5, .int .i64 s1), (0, v0), (1, .func (.func 38) #[v1_0] #[]), (7, .int .i64 (a0.length : Int)), (8, .int .i64 s1)] ⟨rfl, rfl, rfl, rfl, rfl, trivial⟩ ?_
  refine Run.seq ?_
  refine Run.reg ?_
  refine op (OpS.mv rfl rfl rfl ?_)
  refine op (OpS.mv rfl rfl rfl ?_)
  refine op (OpS.mv rfl rfl rfl ?_)
  obtain ⟨x1, e2, hF⟩ := bindP_use hF
  refine op (OpS.iptr h1 Try.underlying26 ty37 rfl rfl rfl rfl (V.at .z) e2 (fun u1 h2 => ?_))
  refine op (OpS.load h2 ty37 rfl rfl rfl .z (fun u2 h3 => ?_))
  obtain ⟨y1, e3, hF⟩ := bindP_use hF
  refine op (OpS.callPF (fl := [v1_0]) (cl := []) h3 Try.func38 rfl rfl rfl rfl rfl (vs := [u2]) rfl (responder_request_is_ok e3) (.cons (f := false) (V.at (.s (.s (.s .z)))) (.cons (f := false) (V.at .z) .nil)) ?_)
  rintro _ w2 _ _ _ ⟨rfl, rfl, rfl, rfl⟩ h4
  have h5 := h4 rfl rfl
  simp only [List.cons_append, List.nil_append] at h5
  refine RunL.nil ?_
  refine Run.slim [(16, .bool y1), (5, .int .i64 s1), (0, v0), (1, .func (.func 38) #[v1_0] #[]), (7, .int .i64 (a0.length : Int)), (8, .int .i64 s1)] ⟨rfl, rfl, rfl, rfl, rfl, rfl, trivial⟩ ?_
  refine Run.ite rfl hF (fun e4 hF => ?_) (fun e4 hF => ?_)
  ·
   refine Run.seq ?_
   refine Run.reg ?_
   refine op (OpS.mv rfl rfl rfl ?_)
   refine op (OpS.as rfl rfl rfl ?_)
   refine RunL.nil ?_
   refine Run.slim [(4, .int .i64 s1)] ⟨rfl, trivial⟩ ?_
   refine Run.retP rfl (.tmp rfl .nil) ?_
   cases hF
   exact Post.mk' ⟨rfl, rfl, rfl, rfl⟩ (h5.picks .nil) .nil
  ·
   refine Run.skip ?_
   refine Run.endBlock ?_
   refine Run.reg ?_
   refine op (OpS.bin rfl rfl rfl rfl rfl ?_)
   refine op (OpS.mv rfl rfl rfl ?_)
   refine RunL.nil ?_
   refine Run.slim [(8, .int .i64 (IntKind.i64.wrap (s1 + 1))), (0, v0), (1, .func (.func 38) #[v1_0] #[]), (7, .int .i64 (a0.length : Int))] ⟨rfl, rfl, rfl, rfl, trivial⟩ ?_
   refine Run.slim [(0, v0), (1, .func (.func 38) #[v1_0] #[]), (7, .int .i64 (a0.length : Int)), (8, .int .i64 (IntKind.i64.wrap (s1 + 1)))] ⟨rfl, rfl, rfl, rfl, trivial⟩ ?_
   exact hk1 ((IntKind.i64.wrap (s1 + 1))) _ _ ⟨rfl, (h5.facts (.atm (.s (.s .z)) (.atm (.s (.s (.s .z))) .nil))).picks .nil⟩ hF
 ·
  refine Run.exit rfl ?_
  refine Run.seq ?_
  refine Run.reg ?_
  refine op (OpS.as rfl rfl rfl ?_)
  refine RunL.nil ?_
  refine Run.slim [(4, .int .i64 (-1))] ⟨rfl, trivial⟩ ?_
  refine Run.retP rfl (.tmp rfl .nil) ?_
  cases hF
  exact Post.mk' ⟨rfl, rfl, rfl, rfl⟩ (h1.picks .nil) .nil
theorem slices_ContainsFunc_api_Message_api_Message_responder_request_is_ok {fuel : Nat} {a0 : List Message_} {a1_0 : Message_} {y : Bool} (hF : slices_ContainsFunc_api_Message_api_Message_responder_request_is fuel a0 a1_0 = some y) {w : World} {v0 v1_0 : Value} :
  Spec Try.prog 42 [v0, .func (.func 38) #[v1_0] #[]].toArray w [(false, .val (Rep.slice Message_.rep) v0 a0), (false, .val Message_.rep v1_0 a1_0)] [] (fun v Γr Ωr Ωo => v = .bool y ∧ Γr = [] ∧ Ωr = [] ∧ Ωo = []) := by
 refine Spec.of (L := [(0, v0), (1, .func (.func 38) #[v1_0] #[])]) Try.func42 rfl ⟨rfl, rfl, trivial⟩ rfl (fun e h => ?_)
 unfold slices_ContainsFunc_api_Message_api_Message_responder_request_is at hF
 refine Run.seq ?_
 refine Run.reg ?_
 refine op (OpS.as rfl rfl rfl ?_)
 refine RunL.nil ?_
 refine Run.slim [(0, v0), (1, .func (.func 38) #[v1_0] #[])] ⟨rfl, rfl, trivial⟩ ?_
 refine Run.seq ?_
 refine Run.reg ?_
 refine op (OpS.mv rfl rfl rfl ?_)
 refine op (OpS.mv rfl rfl rfl ?_)
 obtain ⟨y1, e1, hF⟩ := bindP_use hF
 refine op (OpS.callP h Try.func66 rfl rfl rfl rfl (vs := [v0, .func (.func 38) #[v1_0] #[]]) rfl (slices_IndexFunc_api_Message_api_Message_responder_request_is_ok e1) (.cons (f := false) (V.at .z) (.cons (f := false) (V.at (.s .z)) .nil)) ?_)
 rintro _ w1 _ _ _ ⟨rfl, rfl, rfl, rfl⟩ h1
 have h2 := h1 rfl rfl
 simp only [List.cons_append, List.nil_append] at h2
 refine op (OpS.bin rfl rfl rfl rfl rfl ?_)
 refine op (OpS.as rfl rfl rfl ?_)
 obtain ⟨x1, e2, hF⟩ := letP_use hF
 refine RunL.nameb e2 ?_
 refine RunL.nil ?_
 refine Run.slim [(4, .bool x1)] ⟨rfl, trivial⟩ ?_
 refine Run.retP rfl (.tmp rfl .nil) ?_
 cases hF
 exact Post.mk' ⟨rfl, rfl, rfl, rfl⟩ (h2.picks .nil) .nil
set_option maxHeartbeats 8000000 in
theorem responder_Valid_ok {fuel : Nat} {a0 : Responder_} {y : Bool} (hF : responder_Valid fuel a0 = some y) {w : World} {v0 : Value} :
  Spec Try.prog 20 [v0].toArray w [(false, .val Responder_.rep v0 a0)] [] (fun v Γr Ωr Ωo => v = .bool y ∧ Γr = [] ∧ Ωr = [] ∧ Ωo = []) := by
 refine Spec.of (L := [(0, v0)]) Try.func20 rfl ⟨rfl, trivial⟩ rfl (fun e h => ?_)
 unfold responder_Valid at hF
 refine Run.seq ?_
 refine Run.reg ?_
 refine op (OpS.boxF h rfl rfl rfl (V.at .z) (fun u1 w1 h1 => ?_))
 refine op (OpS.as rfl rfl rfl ?_)
 refine RunL.nil ?_
 refine Run.slim [(1, u1)] ⟨rfl, trivial⟩ ?_
 refine Run.seq ?_
 refine Run.seq ?_
 refine Run.reg ?_
 refine op (OpS.fbox (o3 := 0) h1 .z PA.z fa29_0 rfl rfl rfl rfl ?_)
 refine op (OpS.loadBi h1 .z PA.a (Get.fld Responder_.f0) ty5 rfl rfl rfl ?_)
 refine op (OpS.bin rfl rfl rfl rfl rfl ?_)
 refine op (OpS.mv rfl rfl rfl ?_)
 refine RunL.join (σ := Bool) (fun s_ L_ w_ => L_ = [(1, u1), (37, .bool s_)] ∧ St e w_ [] [(false, .box 29 Responder_.rep u1 a0)]) hF (fun s1 _ w2 hI hF => ?_) (fun j1 hj1 hF => ?_)
 ·
  obtain ⟨rfl, h2⟩ := hI
  refine Run.ite rfl hF (fun e1 hF => ?_) (fun e1 hF => ?_)
  ·
   refine Run.seq ?_
   refine Run.reg ?_
   refine op (OpS.as rfl rfl rfl ?_)
   refine RunL.nil ?_
   refine Run.slim [(2, .bool false)] ⟨rfl, trivial⟩ ?_
   refine Run.retP rfl (.tmp rfl .nil) ?_
   cases hF
   exact Post.mk' ⟨rfl, rfl, rfl, rfl⟩ (h2.picks .nil) .nil
  ·
   refine Run.skip ?_
   refine Run.seq ?_
   refine Run.reg ?_
   refine op (OpS.fbox (o3 := 1) h2 .z PA.z fa29_1 rfl rfl rfl rfl ?_)
   refine op (OpS.loadB h2 .z PA.a (Get.fld Responder_.f1) ty26 rfl rfl rfl (fun u2 h3 => ?_))
   obtain ⟨y1, e2, hF⟩ := bindP_use hF
   have h4 := h3.front .nil
   refine op (OpS.callO h4 Try.func46 rfl rfl rfl rfl (vs := [u2]) rfl (slices_Clone_api_Message_api_Message_ok e2) rfl (.cons (f := false) (V.at .z) .nil) ?_)
   rintro u3 w3 _ _ _ ⟨_, rfl, rfl, rfl, rfl⟩ h5
   have h6 := h5
   simp only [List.cons_append, List.nil_append] at h6
   refine op (OpS.as rfl rfl rfl ?_)
   refine RunL.nil ?_
   refine Run.slim [(3, u3), (1, u1)] ⟨rfl, rfl, trivial⟩ ?_
   refine Run.seq ?_
   refine Run.seq ?_
   refine Run.reg ?_
   refine op (OpS.fbox (o3 := 2) h6 (.s .z) PA.z fa29_2 rfl rfl rfl rfl ?_)
   refine op (OpS.loadB h6 (.s .z) PA.a (Get.fld Responder_.f2) ty27 rfl rfl rfl (fun u4 h7 => ?_))
   refine op (OpS.len h7 Try.underlying27 rfl rfl rfl (V.at .z) ?_)
   refine op (OpS.mv rfl rfl rfl ?_)
   refine RunL.nil ?_
   refine Run.slim [(44, .int .i64 0), (43, .int .i64 (a0.Memory.length : Int)), (42, u4), (3, u3), (1, u1)] ⟨rfl, rfl, rfl, rfl, rfl, trivial⟩ ?_
   refine Run.block ?_
   refine Run.slim [(1, u1), (3, u3), (42, u4), (43, .int .i64 (a0.Memory.length : Int)), (44, .int .i64 0)] ⟨rfl, rfl, rfl, rfl, rfl, trivial⟩ ?_
   refine Run.loopP (σ := (Int × (List Message_))) (fun s_ L_ w_ => ∃ u0_ : Value, L_ = [(1, u1), (3, u0_), (42, u4), (43, .int .i64 (a0.Memory.length : Int)), (44, .int .i64 s_.1)] ∧ St e w_ [(false, .val (Rep.slice Memory_.rep) u4 a0.Memory)] [(false, .box 29 Responder_.rep u1 a0), (false, .slice 37 Message_.rep u0_ s_.2)]) hF ⟨u3, rfl, (h7.facts (.atm .z .nil)).picks (.cons (.s .z) (.cons .z .nil))⟩ (fun k1 hk1 s2 _ w4 hI hF => ?_)
   obtain ⟨u5, rfl, h8⟩ := hI
   refine Run.seq ?_
   refine Run.reg ?_
   refine op (OpS.bin rfl rfl rfl rfl rfl ?_)
   refine RunL.nil ?_
   refine Run.seq ?_
   refine Run.ite rfl hF (fun e3 hF => ?_) (fun e3 hF => ?_)
   ·
    refine Run.skip ?_
    refine Run.seq ?_
    refine Run.block ?_
    refine Run.seq ?_
    refine Run.reg ?_
    obtain ⟨x1, e4, hF⟩ := bindP_use hF
    refine op (OpS.iptr h8 Try.underlying27 ty72 rfl rfl rfl rfl (V.at .z) e4 (fun u6 h9 => ?_))
    refine op (OpS.load h9 ty72 rfl rfl rfl .z (fun u7 h10 => ?_))
    refine op (OpS.alloc h10 ti72 Memory_.zr rfl rfl (fun u8 w5 h11 => ?_))
    have h12 := (h11.pick .z).weak
    refine op (OpS.storeB (f' := false) h12 .z PA.z Put.id ty72 rfl rfl rfl (V.at .z) (.inr rfl) (fun w6 h13 => ?_))
    refine RunL.nil ?_
    refine Run.slim [(5, u8), (1, u1), (3, u5), (42, u4), (43, .int .i64 (a0.Memory.length : Int)), (44, .int .i64 s2.1)] ⟨rfl, rfl, rfl, rfl, rfl, rfl, trivial⟩ ?_
    refine Run.seq ?_
    refine Run.reg ?_
    refine op (OpS.fbox (o3 := 9) h13 .z PA.z fa72_1 rfl rfl rfl rfl ?_)
    refine op (OpS.loadB h13 .z PA.a (Get.fld Memory_.f1) ty22 rfl rfl rfl (fun u9 h14 => ?_))
    obtain ⟨y2, e5, hF⟩ := bindP_use hF
    refine op (OpS.callP h14 Try.func15 rfl rfl rfl rfl (vs := [u9]) rfl (message_ParseResponse_ok e5) (.cons (f := false) (V.at .z) .nil) ?_)
    rintro _ w7 _ _ _ ⟨u10, rfl, rfl, rfl, rfl⟩ h15
    have h16 := h15 rfl rfl
    simp only [List.cons_append, List.nil_append] at h16
    refine op (OpS.mv rfl rfl rfl ?_)
    refine op (OpS.ext rfl rfl rfl rfl ?_)
    refine op (OpS.ext rfl rfl rfl rfl ?_)
    refine op (OpS.alloc h16 ti37 Message_.zr rfl rfl (fun u11 w8 h17 => ?_))
    refine op (OpS.storeB (f' := true) h17 .z PA.z Put.id ty37 rfl rfl rfl (V.at .z) (.inl rfl) (fun w9 h18 => ?_))
    refine op (OpS.as rfl rfl rfl ?_)
    refine RunL.nil ?_
    refine Run.slim [(7, .int .i64 y2.2), (6, u11), (5, u8), (1, u1), (3, u5), (42, u4), (43, .int .i64 (a0.Memory.length : Int)), (44, .int .i64 s2.1)] ⟨rfl, rfl, rfl, rfl, rfl, rfl, rfl, rfl, trivial⟩ ?_
    refine Run.seq ?_
    refine Run.seq ?_
    refine Run.reg ?_
    refine op (OpS.mv rfl rfl rfl ?_)
    refine op (OpS.bin rfl rfl rfl rfl rfl ?_)
    refine op (OpS.mv rfl rfl rfl ?_)
    refine RunL.join (σ := Bool) (fun s_ L_ w_ => L_ = [(1, u1), (3, u5), (5, u8), (6, u11), (42, u4), (43, .int .i64 (a0.Memory.length : Int)), (44, .int .i64 s2.1), (67, .bool s_)] ∧ St e w_ [(false, .val (Rep.slice Memory_.rep) u4 a0.Memory)] [(false, .box 29 Responder_.rep u1 a0), (false, .box 72 Memory_.rep u8 x1), (true, .box 37 Message_.rep u11 y2.1), (false, .slice 37 Message_.rep u5 s2.2)]) hF (fun s3 _ w10 hI hF => ?_) (fun j2 hj2 hF => ?_)
    ·
     obtain ⟨rfl, h19⟩ := hI
     refine Run.ite rfl hF (fun e6 hF => ?_) (fun e6 hF => ?_)
     ·
      refine Run.seq ?_
      refine Run.reg ?_
      refine op (OpS.as rfl rfl rfl ?_)
      refine RunL.nil ?_
      refine Run.slim [(2, .bool false)] ⟨rfl, trivial⟩ ?_
      refine Run.retP rfl (.tmp rfl .nil) ?_
      cases hF
      exact Post.mk' ⟨rfl, rfl, rfl, rfl⟩ (h19.picks .nil) .nil
     ·
      refine Run.skip ?_
      refine Run.seq ?_
      refine Run.seq ?_
      refine Run.reg ?_
      refine op (OpS.loadB h19 (.s (.s .z)) PA.z Get.id ty37 rfl rfl rfl (fun u12 h20 => ?_))
      obtain ⟨y3, e7, hF⟩ := bindP_use hF
      refine op (OpS.callP h20 Try.func48 rfl rfl rfl rfl (vs := [u12]) rfl (message_Response_ok e7) (.cons (f := true) (V.at .z) .nil) ?_)
      rintro _ w11 _ _ _ ⟨u13, rfl, rfl, rfl, rfl⟩ h21
      have h22 := h21 rfl rfl
      simp only [List.cons_append, List.nil_append] at h22
      refine op (OpS.mv rfl rfl rfl ?_)
      refine op (OpS.ext rfl rfl rfl rfl ?_)
      refine op (OpS.ext rfl rfl rfl rfl ?_)
      refine op (OpS.as rfl rfl rfl ?_)
      have h23 := (h22.pick .z).freeze
      refine op (OpS.as rfl rfl rfl ?_)
      refine RunL.nil ?_
      refine Run.slim [(9, .int .i64 y3.2), (8, u13), (1, u1), (3, u5), (5, u8), (42, u4), (43, .int .i64 (a0.Memory.length : Int)), (44, .int .i64 s2.1)] ⟨rfl, rfl, rfl, rfl, rfl, rfl, rfl, rfl, trivial⟩ ?_
      refine Run.seq ?_
      refine Run.reg ?_
      refine op (OpS.mv rfl rfl rfl ?_)
      refine op (OpS.bin rfl rfl rfl rfl rfl ?_)
      refine op (OpS.mv rfl rfl rfl ?_)
      refine RunL.join (σ := Bool) (fun s_ L_ w_ => L_ = [(1, u1), (3, u5), (5, u8), (42, u4), (43, .int .i64 (a0.Memory.length : Int)), (44, .int .i64 s2.1), (81, .bool s_)] ∧ St e w_ [(false, .val (Rep.slice Memory_.rep) u4 a0.Memory)] [(false, .box 29 Responder_.rep u1 a0), (false, .box 72 Memory_.rep u8 x1), (false, .slice 37 Message_.rep u5 s2.2)]) hF (fun s4 _ w12 hI hF => ?_) (fun j3 hj3 hF => ?_)
      ·
       obtain ⟨rfl, h24⟩ := hI
       refine Run.ite rfl hF (fun e8 hF => ?_) (fun e8 hF => ?_)
       ·
        refine Run.seq ?_
        refine Run.reg ?_
        refine op (OpS.as rfl rfl rfl ?_)
        refine RunL.nil ?_
        refine Run.slim [(2, .bool false)] ⟨rfl, trivial⟩ ?_
        refine Run.retP rfl (.tmp rfl .nil) ?_
        cases hF
        exact Post.mk' ⟨rfl, rfl, rfl, rfl⟩ (h24.picks .nil) .nil
       ·
        refine Run.skip ?_
        refine Run.reg ?_
        refine op (OpS.mv rfl rfl rfl ?_)
        refine op (OpS.fbox (o3 := 0) h24 (.s .z) PA.z fa72_0 rfl rfl rfl rfl ?_)
        refine op (OpS.loadB h24 (.s .z) PA.a (Get.fld Memory_.f0) ty37 rfl rfl rfl (fun u14 h25 => ?_))
        refine op (OpS.lit (r := Message_.rep) (f := false) h25 Try.underlying26 ti37 rfl rfl rfl rfl rfl (.cons rfl (V.at .z) .nil) rfl rfl (fun u15 w13 h26 => ?_))
        obtain ⟨x2, e9, hF⟩ := bindP_use hF
        refine op (OpS.app (f' := false) h26 (.s (.s .z)) Try.underlying26 ti37 rfl rfl rfl rfl rfl rfl rfl (V.at .z) (.inl (.inr rfl)) e9 (fun u16 w14 h27 => ?_))
        refine op (OpS.as rfl rfl rfl ?_)
        refine RunL.nil ?_
        refine Run.slim [(3, u16), (1, u1), (42, u4), (43, .int .i64 (a0.Memory.length : Int)), (44, .int .i64 s2.1)] ⟨rfl, rfl, rfl, rfl, rfl, trivial⟩ ?_
        refine Run.endBlock ?_
        refine Run.reg ?_
        refine op (OpS.bin rfl rfl rfl rfl rfl ?_)
        refine op (OpS.mv rfl rfl rfl ?_)
        refine RunL.nil ?_
        refine Run.slim [(44, .int .i64 (IntKind.i64.wrap (s2.1 + 1))), (3, u16), (1, u1), (42, u4), (43, .int .i64 (a0.Memory.length : Int))] ⟨rfl, rfl, rfl, rfl, rfl, trivial⟩ ?_
        refine Run.slim [(1, u1), (3, u16), (42, u4), (43, .int .i64 (a0.Memory.length : Int)), (44, .int .i64 (IntKind.i64.wrap (s2.1 + 1)))] ⟨rfl, rfl, rfl, rfl, rfl, trivial⟩ ?_
        exact hk1 ((IntKind.i64.wrap (s2.1 + 1)), x2) _ _ ⟨u16, rfl, (h27.facts (.atm (.s (.s .z)) .nil)).picks (.cons (.s .z) (.cons .z .nil))⟩ hF
      ·
       refine RunL.caseb hF (fun e10 hF => ?_) (fun e10 hF => ?_)
       ·
        refine op (OpS.pass rfl rfl rfl ?_)
        refine op (OpS.pass rfl rfl rfl ?_)
        refine op (OpS.pass rfl rfl rfl ?_)
        refine op (OpS.pass rfl rfl rfl ?_)
        refine op (OpS.pass rfl rfl rfl ?_)
        refine op (OpS.pick rfl rfl rfl rfl ?_)
        refine RunL.nil ?_
        refine Run.slim [(81, .bool true), (1, u1), (3, u5), (5, u8), (42, u4), (43, .int .i64 (a0.Memory.length : Int)), (44, .int .i64 s2.1)] ⟨rfl, rfl, rfl, rfl, rfl, rfl, rfl, trivial⟩ ?_
        refine Run.slim [(1, u1), (3, u5), (5, u8), (42, u4), (43, .int .i64 (a0.Memory.length : Int)), (44, .int .i64 s2.1), (81, .bool true)] ⟨rfl, rfl, rfl, rfl, rfl, rfl, rfl, trivial⟩ ?_
        exact hj3 (true) _ _ ⟨rfl, (h23.facts (.atm (.s (.s .z)) .nil)).picks (.cons .z (.cons .z (.cons (.s .z) .nil)))⟩ hF
       ·
        refine op (OpS.mv rfl rfl rfl ?_)
        refine op (OpS.fbox (o3 := 9) h23 (.s .z) PA.z fa72_1 rfl rfl rfl rfl ?_)
        refine op (OpS.loadB h23 (.s .z) PA.a (Get.fld Memory_.f1) ty22 rfl rfl rfl (fun u17 h28 => ?_))
        obtain ⟨y4, e11, hF⟩ := bindP_use hF
        refine op (OpS.callP h28 Try.func49 rfl rfl rfl rfl (vs := [u13, u17]) rfl (slices_Equal_byte_byte_ok e11) (.cons (f := true) (V.at (.s .z)) (.cons (f := false) (V.at .z) .nil)) ?_)
        rintro _ w15 _ _ _ ⟨rfl, rfl, rfl, rfl⟩ h29
        have h30 := h29 rfl rfl
        simp only [List.cons_append, List.nil_append] at h30
        refine op (OpS.not rfl rfl rfl ?_)
        refine op (OpS.pick rfl rfl rfl rfl ?_)
        refine RunL.nil ?_
        refine Run.slim [(81, .bool (!y4)), (1, u1), (3, u5), (5, u8), (42, u4), (43, .int .i64 (a0.Memory.length : Int)), (44, .int .i64 s2.1)] ⟨rfl, rfl, rfl, rfl, rfl, rfl, rfl, trivial⟩ ?_
        refine Run.slim [(1, u1), (3, u5), (5, u8), (42, u4), (43, .int .i64 (a0.Memory.length : Int)), (44, .int .i64 s2.1), (81, .bool (!y4))] ⟨rfl, rfl, rfl, rfl, rfl, rfl, rfl, trivial⟩ ?_
        exact hj3 (!y4) _ _ ⟨rfl, (h30.facts (.atm (.s (.s (.s .z))) .nil)).picks (.cons .z (.cons .z (.cons (.s .z) .nil)))⟩ hF
    ·
     refine RunL.caseb hF (fun e12 hF => ?_) (fun e12 hF => ?_)
     ·
      refine op (OpS.pass rfl rfl rfl ?_)
      refine op (OpS.pass rfl rfl rfl ?_)
      refine op (OpS.pass rfl rfl rfl ?_)
      refine op (OpS.pick rfl rfl rfl rfl ?_)
      refine op (OpS.mv rfl rfl rfl ?_)
      refine op (OpS.pass rfl rfl rfl ?_)
      refine op (OpS.pass rfl rfl rfl ?_)
      refine op (OpS.pass rfl rfl rfl ?_)
      refine op (OpS.pass rfl rfl rfl ?_)
      refine op (OpS.pass rfl rfl rfl ?_)
      refine op (OpS.pick rfl rfl rfl rfl ?_)
      refine RunL.nil ?_
      refine Run.slim [(67, .bool true), (6, u11), (5, u8), (1, u1), (3, u5), (42, u4), (43, .int .i64 (a0.Memory.length : Int)), (44, .int .i64 s2.1)] ⟨rfl, rfl, rfl, rfl, rfl, rfl, rfl, rfl, trivial⟩ ?_
      refine Run.slim [(1, u1), (3, u5), (5, u8), (6, u11), (42, u4), (43, .int .i64 (a0.Memory.length : Int)), (44, .int .i64 s2.1), (67, .bool true)] ⟨rfl, rfl, rfl, rfl, rfl, rfl, rfl, rfl, trivial⟩ ?_
      exact hj2 (true) _ _ ⟨rfl, (h18.facts (.atm (.s (.s (.s (.s .z)))) .nil)).picks (.cons (.s (.s .z)) (.cons (.s .z) (.cons .z (.cons .z .nil))))⟩ hF
     ·
      refine op (OpS.fbox (o3 := 10) h18 (.s .z) PA.z fa72_2 rfl rfl rfl rfl ?_)
      refine op (OpS.loadBi h18 (.s .z) PA.a (Get.fld Memory_.f2) ty2 rfl rfl rfl ?_)
      refine op (OpS.bin rfl rfl rfl rfl rfl ?_)
      refine op (OpS.pick rfl rfl rfl rfl ?_)
      refine op (OpS.mv rfl rfl rfl ?_)
      refine RunL.caseb hF (fun e13 hF => ?_) (fun e13 hF => ?_)
      ·
       refine op (OpS.pass rfl rfl rfl ?_)
       refine op (OpS.pass rfl rfl rfl ?_)
       refine op (OpS.pass rfl rfl rfl ?_)
       refine op (OpS.pass rfl rfl rfl ?_)
       refine op (OpS.pass rfl rfl rfl ?_)
       refine op (OpS.pick rfl rfl rfl rfl ?_)
       refine RunL.nil ?_
       refine Run.slim [(67, .bool true), (6, u11), (5, u8), (1, u1), (3, u5), (42, u4), (43, .int .i64 (a0.Memory.length : Int)), (44, .int .i64 s2.1)] ⟨rfl, rfl, rfl, rfl, rfl, rfl, rfl, rfl, trivial⟩ ?_
       refine Run.slim [(1, u1), (3, u5), (5, u8), (6, u11), (42, u4), (43, .int .i64 (a0.Memory.length : Int)), (44, .int .i64 s2.1), (67, .bool true)] ⟨rfl, rfl, rfl, rfl, rfl, rfl, rfl, rfl, trivial⟩ ?_
       exact hj2 (true) _ _ ⟨rfl, (h18.facts (.atm (.s (.s (.s (.s .z)))) .nil)).picks (.cons (.s (.s .z)) (.cons (.s .z) (.cons .z (.cons .z .nil))))⟩ hF
      ·
       refine op (OpS.fbox (o3 := 0) h18 (.s .z) PA.z fa72_0 rfl rfl rfl rfl ?_)
       refine op (OpS.loadB h18 (.s .z) PA.a (Get.fld Memory_.f0) ty37 rfl rfl rfl (fun u18 h31 => ?_))
       refine op (OpS.loadB h31 .z PA.z Get.id ty37 rfl rfl rfl (fun u19 h32 => ?_))
       obtain ⟨y5, e14, hF⟩ := bindP_use hF
       refine op (OpS.callP h32 Try.func47 rfl rfl rfl rfl (vs := [u18, u19]) rfl (message_Matches_ok e14) (.cons (f := false) (V.at (.s .z)) (.cons (f := true) (V.at .z) .nil)) ?_)
       rintro _ w16 _ _ _ ⟨rfl, rfl, rfl, rfl⟩ h33
       have h34 := h33 rfl rfl
       simp only [List.cons_append, List.nil_append] at h34
       refine op (OpS.not rfl rfl rfl ?_)
       refine op (OpS.pick rfl rfl rfl rfl ?_)
       refine RunL.nil ?_
       refine Run.slim [(67, .bool (!y5)), (6, u11), (5, u8), (1, u1), (3, u5), (42, u4), (43, .int .i64 (a0.Memory.length : Int)), (44, .int .i64 s2.1)] ⟨rfl, rfl, rfl, rfl, rfl, rfl, rfl, rfl, trivial⟩ ?_
       refine Run.slim [(1, u1), (3, u5), (5, u8), (6, u11), (42, u4), (43, .int .i64 (a0.Memory.length : Int)), (44, .int .i64 s2.1), (67, .bool (!y5))] ⟨rfl, rfl, rfl, rfl, rfl, rfl, rfl, rfl, trivial⟩ ?_
       exact hj2 (!y5) _ _ ⟨rfl, (h34.facts (.atm (.s (.s (.s (.s (.s (.s .z)))))) .nil)).picks (.cons (.s (.s .z)) (.cons (.s .z) (.cons .z (.cons .z .nil))))⟩ hF
   ·
    refine Run.exit rfl ?_
    refine Run.seq ?_
    refine Run.seq ?_
    refine Run.reg ?_
    refine op (OpS.mv rfl rfl rfl ?_)
    refine op (OpS.lenO h8 (.s .z) Try.underlying26 rfl rfl rfl ?_)
    refine op (OpS.mv rfl rfl rfl ?_)
    refine RunL.nil ?_
    refine Run.slim [(90, .int .i64 0), (89, .int .i64 (s2.2.length : Int)), (88, u5), (1, u1), (3, u5)] ⟨rfl, rfl, rfl, rfl, rfl, trivial⟩ ?_
    refine Run.block ?_
    have h35 := (h8.pick (.s .z)).freeze
    refine Run.slim [(1, u1), (3, u5), (88, u5), (89, .int .i64 (s2.2.length : Int)), (90, .int .i64 0)] ⟨rfl, rfl, rfl, rfl, rfl, trivial⟩ ?_
    refine Run.loopP (σ := ((List Message_) × (List Message_) × Int)) (fun s_ L_ w_ => ∃ u0_ u1_ : Value, L_ = [(1, u1), (3, u0_), (88, u1_), (89, .int .i64 (s2.2.length : Int)), (90, .int .i64 s_.2.2)] ∧ St e w_ [(false, .val (Rep.slice Message_.rep) u0_ s_.1), (false, .val (Rep.slice Message_.rep) u1_ s_.2.1)] [(false, .box 29 Responder_.rep u1 a0)]) hF ⟨u5, u5, rfl, (h35.facts (.val (V.at .z) (.val (V.at .z) .nil))).picks (.cons .z .nil)⟩ (fun k2 hk2 s5 _ w17 hI hF => ?_)
    obtain ⟨u20, u21, rfl, h36⟩ := hI
    refine Run.seq ?_
    refine Run.reg ?_
    refine op (OpS.bin rfl rfl rfl rfl rfl ?_)
    refine RunL.nil ?_
    refine Run.seq ?_
    refine Run.ite rfl hF (fun e15 hF => ?_) (fun e15 hF => ?_)
    ·
     refine Run.skip ?_
     refine Run.seq ?_
     refine Run.block ?_
     refine Run.seq ?_
     refine Run.reg ?_
     refine op (OpS.mv rfl rfl rfl ?_)
     obtain ⟨x3, e16, hF⟩ := bindP_use hF
     refine op (OpS.iptr h36 Try.underlying26 ty37 rfl rfl rfl rfl (V.at (.s .z)) e16 (fun u22 h37 => ?_))
     refine op (OpS.load h37 ty37 rfl rfl rfl .z (fun u23 h38 => ?_))
     refine op (OpS.alloc h38 ti37 Message_.zr rfl rfl (fun u24 w18 h39 => ?_))
     refine op (OpS.as rfl rfl rfl ?_)
     have h40 := (h39.pick .z).weak
     refine op (OpS.storeB (f' := false) h40 .z PA.z Put.id ty37 rfl rfl rfl (V.at .z) (.inr rfl) (fun w19 h41 => ?_))
     refine RunL.nil ?_
     refine Run.slim [(10, .int .i64 s5.2.2), (11, u24), (1, u1), (3, u20), (88, u21), (89, .int .i64 (s2.2.length : Int)), (90, .int .i64 s5.2.2)] ⟨rfl, rfl, rfl, rfl, rfl, rfl, rfl, trivial⟩ ?_
     refine Run.seq ?_
     refine Run.reg ?_
     refine op (OpS.loadB h41 .z PA.z Get.id ty37 rfl rfl rfl (fun u25 h42 => ?_))
     obtain ⟨y6, e17, hF⟩ := bindP_use hF
     refine op (OpS.callP h42 Try.func13 rfl rfl rfl rfl (vs := [u25]) rfl (message_Request_ok e17) (.cons (f := false) (V.at .z) .nil) ?_)
     rintro _ w20 _ _ _ ⟨u26, rfl, rfl, rfl, rfl⟩ h43
     have h44 := h43 rfl rfl
     simp only [List.cons_append, List.nil_append] at h44
     refine op (OpS.mv rfl rfl rfl ?_)
     refine op (OpS.ext rfl rfl rfl rfl ?_)
     refine op (OpS.ext rfl rfl rfl rfl ?_)
     refine op (OpS.as rfl rfl rfl ?_)
     have h45 := (h44.pick .z).freeze
     refine op (OpS.as rfl rfl rfl ?_)
     refine RunL.nil ?_
     refine Run.slim [(13, .int .i64 y6.2), (10, .int .i64 s5.2.2), (11, u24), (1, u1), (3, u20), (88, u21), (89, .int .i64 (s2.2.length : Int)), (90, .int .i64 s5.2.2)] ⟨rfl, rfl, rfl, rfl, rfl, rfl, rfl, rfl, trivial⟩ ?_
     refine Run.seq ?_
     refine Run.join (σ := Bool) (fun s_ L_ w_ => L_ = [(1, u1), (3, u20), (88, u21), (89, .int .i64 (s2.2.length : Int)), (90, .int .i64 s5.2.2), (116, .bool s_)] ∧ St e w_ [(false, .val (Rep.slice Message_.rep) u20 s5.1), (false, .val (Rep.slice Message_.rep) u21 s5.2.1)] [(false, .box 29 Responder_.rep u1 a0)]) hF (fun s6 _ w21 hI hF => ?_) (fun j4 hj4 hF => ?_)
     ·
      obtain ⟨rfl, h46⟩ := hI
      refine Run.ite rfl hF (fun e18 hF => ?_) (fun e18 hF => ?_)
      ·
       refine Run.seq ?_
       refine Run.reg ?_
       refine op (OpS.as rfl rfl rfl ?_)
       refine RunL.nil ?_
       refine Run.slim [(2, .bool false)] ⟨rfl, trivial⟩ ?_
       refine Run.retP rfl (.tmp rfl .nil) ?_
       cases hF
       exact Post.mk' ⟨rfl, rfl, rfl, rfl⟩ (h46.picks .nil) .nil
      ·
       refine Run.skip ?_
       refine Run.endBlock ?_
       refine Run.reg ?_
       refine op (OpS.bin rfl rfl rfl rfl rfl ?_)
       refine op (OpS.mv rfl rfl rfl ?_)
       refine RunL.nil ?_
       refine Run.slim [(90, .int .i64 (IntKind.i64.wrap (s5.2.2 + 1))), (1, u1), (3, u20), (88, u21), (89, .int .i64 (s2.2.length : Int))] ⟨rfl, rfl, rfl, rfl, rfl, trivial⟩ ?_
       refine Run.slim [(1, u1), (3, u20), (88, u21), (89, .int .i64 (s2.2.length : Int)), (90, .int .i64 (IntKind.i64.wrap (s5.2.2 + 1)))] ⟨rfl, rfl, rfl, rfl, rfl, trivial⟩ ?_
       exact hk2 (s5.1, s5.2.1, (IntKind.i64.wrap (s5.2.2 + 1))) _ _ ⟨u20, u21, rfl, (h46.facts (.val (V.at .z) (.val (V.at (.s .z)) .nil))).picks (.cons .z .nil)⟩ hF
     ·
      obtain ⟨x4, e19, hF⟩ := letP_use hF
      refine iteP_use hF (fun e20 hF => ?_) (fun e20 hF => ?_)
      ·
       have hG := hF
       subst e20
       have hF := hG
       refine Run.drawV (Ωs := []) [⟨some 100, some (.int .i64 y6.2), fun _ => [], fun ds_ u_ => [], [], [], none⟩, ⟨some 101, some (.bool (y6.2 != 0)), fun _ => [], fun ds_ u_ => [], [], [], none⟩, ⟨some 102, some (.bool true), fun _ => [], fun ds_ u_ => [], [], [], none⟩, ⟨some 103, some undef, fun _ => [], fun _ _ => [], [], [], none⟩, ⟨some 104, some undef, fun _ => [], fun _ _ => [], [], [], none⟩, ⟨some 105, some undef, fun _ => [], fun _ _ => [], [], [], none⟩, ⟨some 106, some undef, fun _ => [], fun _ _ => [], [], [], none⟩, ⟨some 107, some undef, fun _ => [], fun _ _ => [], [], [], none⟩, ⟨some 108, some (.bool true), fun _ => [], fun ds_ u_ => [], [], [], none⟩, ⟨some 109, some (.bool true), fun _ => [], fun ds_ u_ => [], [], [], none⟩, ⟨some 110, some undef, fun _ => [], fun _ _ => [], [], [], none⟩, ⟨some 111, some undef, fun _ => [], fun _ _ => [], [], [], none⟩, ⟨some 112, some undef, fun _ => [], fun _ _ => [], [], [], none⟩, ⟨some 113, some undef, fun _ => [], fun _ _ => [], [], [], none⟩, ⟨some 114, some undef, fun _ => [], fun _ _ => [], [], [], none⟩, ⟨some 115, some undef, fun _ => [], fun _ _ => [], [], [], none⟩, ⟨some 116, some (.bool true), fun _ => [], fun ds_ u_ => [], [], [], none⟩] [[], [0], [1], [2], [2], [2], [2], [2], [2, 7], [8], [9], [9], [9], [9], [9], [9], [9, 15]] [[(false, .box 37 Message_.rep u24 x3)], [(false, .box 29 Responder_.rep u1 a0)]] [0, 1, 2, 3, 4, 5, 6, 7, 8, 9, 10, 11, 12, 13, 14, 15, 16, 17, 18] Try_mixed rfl rfl rfl h45 (.cons ?_ (.cons ?_ (.cons ?_ (.cons ?_ (.cons ?_ (.cons ?_ (.cons ?_ (.cons ?_ (.cons ?_ (.cons ?_ (.cons ?_ (.cons ?_ (.cons ?_ (.cons ?_ (.cons ?_ (.cons ?_ (.cons ?_ .nil))))))))))))))))) (fun q1 w hq1 h => ?_)
       ·intro q1 w Γx Ωx h
        refine OpS.mv rfl rfl rfl ?_
        exact ⟨undef, rfl, trivial, h⟩
       ·intro q1 w Γx Ωx h
        refine OpS.bin rfl rfl rfl rfl rfl ?_
        exact ⟨undef, rfl, trivial, h⟩
       ·intro q1 w Γx Ωx h
        refine OpS.mv rfl rfl rfl ?_
        exact ⟨undef, (congrArg (fun z_ => some (Value.bool z_)) e19), trivial, h⟩
       ·intro q1 w Γx Ωx h
        exact OpS.pass rfl rfl rfl ⟨undef, rfl, trivial, h⟩
       ·intro q1 w Γx Ωx h
        exact OpS.pass rfl rfl rfl ⟨undef, rfl, trivial, h⟩
       ·intro q1 w Γx Ωx h
        exact OpS.pass rfl rfl rfl ⟨undef, rfl, trivial, h⟩
       ·intro q1 w Γx Ωx h
        exact OpS.pass rfl rfl rfl ⟨undef, rfl, trivial, h⟩
       ·intro q1 w Γx Ωx h
        exact OpS.pass rfl rfl rfl ⟨undef, rfl, trivial, h⟩
       ·intro q1 w Γx Ωx h
        refine OpS.pick rfl rfl rfl rfl ?_
        exact ⟨undef, rfl, trivial, h⟩
       ·intro q1 w Γx Ωx h
        refine OpS.mv rfl rfl rfl ?_
        exact ⟨undef, rfl, trivial, h⟩
       ·intro q1 w Γx Ωx h
        exact OpS.pass rfl rfl rfl ⟨undef, rfl, trivial, h⟩
       ·intro q1 w Γx Ωx h
        exact OpS.pass rfl rfl rfl ⟨undef, rfl, trivial, h⟩
       ·intro q1 w Γx Ωx h
        exact OpS.pass rfl rfl rfl ⟨undef, rfl, trivial, h⟩
       ·intro q1 w Γx Ωx h
        exact OpS.pass rfl rfl rfl ⟨undef, rfl, trivial, h⟩
       ·intro q1 w Γx Ωx h
        exact OpS.pass rfl rfl rfl ⟨undef, rfl, trivial, h⟩
       ·intro q1 w Γx Ωx h
        exact OpS.pass rfl rfl rfl ⟨undef, rfl, trivial, h⟩
       ·intro q1 w Γx Ωx h
        refine OpS.pick rfl rfl rfl rfl ?_
        exact ⟨undef, rfl, trivial, h⟩
       have h47 : St e w [(true, .val (Rep.slice (Rep.int .u8)) u26 y6.1), (false, .val Message_.rep u25 x3), (false, .val Message_.rep u23 x3), (false, .ptr Message_.rep u22 x3), (false, .val (Rep.slice Message_.rep) u20 s5.1), (false, .val (Rep.slice Message_.rep) u21 s5.2.1)] [(false, .box 37 Message_.rep u24 x3), (false, .box 29 Responder_.rep u1 a0)] := h
       refine RunL.nil ?_
       refine Run.slim [(116, .bool true), (1, u1), (3, u20), (88, u21), (89, .int .i64 (s2.2.length : Int)), (90, .int .i64 s5.2.2)] ⟨rfl, rfl, rfl, rfl, rfl, rfl, trivial⟩ ?_
       refine Run.slim [(1, u1), (3, u20), (88, u21), (89, .int .i64 (s2.2.length : Int)), (90, .int .i64 s5.2.2), (116, .bool true)] ⟨rfl, rfl, rfl, rfl, rfl, rfl, trivial⟩ ?_
       exact hj4 (true) _ _ ⟨rfl, (h47.facts (.atm (.s (.s (.s (.s .z)))) (.atm (.s (.s (.s (.s (.s .z))))) .nil))).picks (.cons (.s .z) .nil)⟩ hF
      ·
       have hG := hF
       subst e20
       have hF := hG
       obtain ⟨x5, e21, hF⟩ := letP_use hF
       refine iteP_use hF (fun e22 hF => ?_) (fun e22 hF => ?_)
       ·
        have hG := hF
        subst e22
        have hF := hG
        refine Run.drawV (Ωs := []) [⟨some 100, some (.int .i64 y6.2), fun _ => [], fun ds_ u_ => [], [], [], none⟩, ⟨some 101, some (.bool (y6.2 != 0)), fun _ => [], fun ds_ u_ => [], [], [], none⟩, ⟨some 102, some (.bool false), fun _ => [], fun ds_ u_ => [], [], [], none⟩, ⟨some 103, some ((padd u24 0)), fun _ => [], fun ds_ u_ => [], [], [(0, [])], none⟩, ⟨some 104, some (.int .u8 x3.To), fun _ => [], fun ds_ u_ => [], [], [(0, [])], none⟩, ⟨some 105, some ((padd u1 0)), fun _ => [], fun ds_ u_ => [], [], [(1, [])], none⟩, ⟨some 106, some (.int .u8 a0.Own), fun _ => [], fun ds_ u_ => [], [], [(1, [])], none⟩, ⟨some 107, some (.bool (x3.To != a0.Own)), fun _ => [], fun ds_ u_ => [], [], [], none⟩, ⟨some 108, some (.bool (x3.To != a0.Own)), fun _ => [], fun ds_ u_ => [], [], [], none⟩, ⟨some 109, some (.bool true), fun _ => [], fun ds_ u_ => [], [], [], none⟩, ⟨some 110, some undef, fun _ => [], fun _ _ => [], [], [], none⟩, ⟨some 111, some undef, fun _ => [], fun _ _ => [], [], [], none⟩, ⟨some 112, some undef, fun _ => [], fun _ _ => [], [], [], none⟩, ⟨some 113, some undef, fun _ => [], fun _ _ => [], [], [], none⟩, ⟨some 114, some undef, fun _ => [], fun _ _ => [], [], [], none⟩, ⟨some 115, some undef, fun _ => [], fun _ _ => [], [], [], none⟩, ⟨some 116, some (.bool true), fun _ => [], fun ds_ u_ => [], [], [], none⟩] [[], [0], [1], [2], [3, 2], [2], [5, 2], [4, 6, 2], [2, 7], [8], [9], [9], [9], [9], [9], [9], [9, 15]] [[(false, .box 37 Message_.rep u24 x3)], [(false, .box 29 Responder_.rep u1 a0)]] [0, 1, 2, 3, 4, 5, 6, 7, 8, 9, 10, 11, 12, 13, 14, 15, 16, 17, 18] Try_mixed rfl rfl rfl h45 (.cons ?_ (.cons ?_ (.cons ?_ (.cons ?_ (.cons ?_ (.cons ?_ (.cons ?_ (.cons ?_ (.cons ?_ (.cons ?_ (.cons ?_ (.cons ?_ (.cons ?_ (.cons ?_ (.cons ?_ (.cons ?_ (.cons ?_ .nil))))))))))))))))) (fun q1 w hq2 h => ?_)
        ·intro q1 w Γx Ωx h
         refine OpS.mv rfl rfl rfl ?_
         exact ⟨undef, rfl, trivial, h⟩
        ·intro q1 w Γx Ωx h
         refine OpS.bin rfl rfl rfl rfl rfl ?_
         exact ⟨undef, rfl, trivial, h⟩
        ·intro q1 w Γx Ωx h
         refine OpS.mv rfl rfl rfl ?_
         exact ⟨undef, (congrArg (fun z_ => some (Value.bool z_)) e19), trivial, h⟩
        ·intro q1 w Γx Ωx h
         have h : St e w ([(true, .val (Rep.slice (Rep.int .u8)) u26 y6.1), (false, .val Message_.rep u25 x3), (false, .val Message_.rep u23 x3), (false, .ptr Message_.rep u22 x3), (false, .val (Rep.slice Message_.rep) u20 s5.1), (false, .val (Rep.slice Message_.rep) u21 s5.2.1)] ++ Γx) ([(false, .box 37 Message_.rep u24 x3)] ++ Ωx) := h
         refine OpS.fbox (o3 := 0) h .z PA.z fa37_0 rfl rfl rfl rfl ?_
         exact ⟨undef, rfl, trivial, h⟩
        ·intro q1 w Γx Ωx h
         have h : St e w ([(true, .val (Rep.slice (Rep.int .u8)) u26 y6.1), (false, .val Message_.rep u25 x3), (false, .val Message_.rep u23 x3), (false, .ptr Message_.rep u22 x3), (false, .val (Rep.slice Message_.rep) u20 s5.1), (false, .val (Rep.slice Message_.rep) u21 s5.2.1)] ++ Γx) ([(false, .box 37 Message_.rep u24 x3)] ++ Ωx) := h
         refine OpS.loadBi h .z PA.a (Get.fld Message_.f0) ty5 rfl rfl rfl ?_
         exact ⟨undef, rfl, trivial, h⟩
        ·intro q1 w Γx Ωx h
         have h : St e w ([(true, .val (Rep.slice (Rep.int .u8)) u26 y6.1), (false, .val Message_.rep u25 x3), (false, .val Message_.rep u23 x3), (false, .ptr Message_.rep u22 x3), (false, .val (Rep.slice Message_.rep) u20 s5.1), (false, .val (Rep.slice Message_.rep) u21 s5.2.1)] ++ Γx) ([(false, .box 29 Responder_.rep u1 a0)] ++ Ωx) := h
         refine OpS.fbox (o3 := 0) h .z PA.z fa29_0 rfl rfl rfl rfl ?_
         exact ⟨undef, rfl, trivial, h⟩
        ·intro q1 w Γx Ωx h
         have h : St e w ([(true, .val (Rep.slice (Rep.int .u8)) u26 y6.1), (false, .val Message_.rep u25 x3), (false, .val Message_.rep u23 x3), (false, .ptr Message_.rep u22 x3), (false, .val (Rep.slice Message_.rep) u20 s5.1), (false, .val (Rep.slice Message_.rep) u21 s5.2.1)] ++ Γx) ([(false, .box 29 Responder_.rep u1 a0)] ++ Ωx) := h
         refine OpS.loadBi h .z PA.a (Get.fld Responder_.f0) ty5 rfl rfl rfl ?_
         exact ⟨undef, rfl, trivial, h⟩
        ·intro q1 w Γx Ωx h
         refine OpS.bin rfl rfl rfl rfl rfl ?_
         exact ⟨undef, rfl, trivial, h⟩
        ·intro q1 w Γx Ωx h
         refine OpS.pick rfl rfl rfl rfl ?_
         exact ⟨undef, rfl, trivial, h⟩
        ·intro q1 w Γx Ωx h
         refine OpS.mv rfl rfl rfl ?_
         exact ⟨undef, (congrArg (fun z_ => some (Value.bool z_)) e21), trivial, h⟩
        ·intro q1 w Γx Ωx h
         exact OpS.pass rfl rfl rfl ⟨undef, rfl, trivial, h⟩
        ·intro q1 w Γx Ωx h
         exact OpS.pass rfl rfl rfl ⟨undef, rfl, trivial, h⟩
        ·intro q1 w Γx Ωx h
         exact OpS.pass rfl rfl rfl ⟨undef, rfl, trivial, h⟩
        ·intro q1 w Γx Ωx h
         exact OpS.pass rfl rfl rfl ⟨undef, rfl, trivial, h⟩
        ·intro q1 w Γx Ωx h
         exact OpS.pass rfl rfl rfl ⟨undef, rfl, trivial, h⟩
        ·intro q1 w Γx Ωx h
         exact OpS.pass rfl rfl rfl ⟨undef, rfl, trivial, h⟩
        ·intro q1 w Γx Ωx h
         refine OpS.pick rfl rfl rfl rfl ?_
         exact ⟨undef, rfl, trivial, h⟩
        have h48 : St e w [(true, .val (Rep.slice (Rep.int .u8)) u26 y6.1), (false, .val Message_.rep u25 x3), (false, .val Message_.rep u23 x3), (false, .ptr Message_.rep u22 x3), (false, .val (Rep.slice Message_.rep) u20 s5.1), (false, .val (Rep.slice Message_.rep) u21 s5.2.1)] [(false, .box 37 Message_.rep u24 x3), (false, .box 29 Responder_.rep u1 a0)] := h
        refine RunL.nil ?_
        refine Run.slim [(116, .bool true), (1, u1), (3, u20), (88, u21), (89, .int .i64 (s2.2.length : Int)), (90, .int .i64 s5.2.2)] ⟨rfl, rfl, rfl, rfl, rfl, rfl, trivial⟩ ?_
        refine Run.slim [(1, u1), (3, u20), (88, u21), (89, .int .i64 (s2.2.length : Int)), (90, .int .i64 s5.2.2), (116, .bool true)] ⟨rfl, rfl, rfl, rfl, rfl, rfl, trivial⟩ ?_
        exact hj4 (true) _ _ ⟨rfl, (h48.facts (.atm (.s (.s (.s (.s .z)))) (.atm (.s (.s (.s (.s (.s .z))))) .nil))).picks (.cons (.s .z) .nil)⟩ hF
       ·
        have hG := hF
        subst e22
        have hF := hG
        obtain ⟨x6, e23, hF⟩ := bindP_use hF
        obtain ⟨y7, e24, hF⟩ := bindP_use hF
        refine Run.drawV (Ωs := []) [⟨some 100, some (.int .i64 y6.2), fun _ => [], fun ds_ u_ => [], [], [], none⟩, ⟨some 101, some (.bool (y6.2 != 0)), fun _ => [], fun ds_ u_ => [], [], [], none⟩, ⟨some 102, some (.bool false), fun _ => [], fun ds_ u_ => [], [], [], none⟩, ⟨some 103, some ((padd u24 0)), fun _ => [], fun ds_ u_ => [], [], [(0, [])], none⟩, ⟨some 104, some (.int .u8 x3.To), fun _ => [], fun ds_ u_ => [], [], [(0, [])], none⟩, ⟨some 105, some ((padd u1 0)), fun _ => [], fun ds_ u_ => [], [], [(1, [])], none⟩, ⟨some 106, some (.int .u8 a0.Own), fun _ => [], fun ds_ u_ => [], [], [(1, [])], none⟩, ⟨some 107, some (.bool (x3.To != a0.Own)), fun _ => [], fun ds_ u_ => [], [], [], none⟩, ⟨some 108, some (.bool (x3.To != a0.Own)), fun _ => [], fun ds_ u_ => [], [], [], none⟩, ⟨some 109, some (.bool false), fun _ => [], fun ds_ u_ => [], [], [], none⟩, ⟨some 110, some (u20), fun _ => [], fun ds_ u_ => [], [], [], none⟩, ⟨some 111, some (.int .i64 s5.2.2), fun _ => [], fun ds_ u_ => [], [], [], none⟩, ⟨some 112, none, fun u_ => [(false, .val (Rep.slice Message_.rep) u_ x6)], fun ds_ u_ => [], [], [], none⟩, ⟨some 113, none, fun u_ => [(false, .val Message_.rep u_ x3)], fun ds_ u_ => [], [], [(0, [])], none⟩, ⟨some 114, none, fun u_ => [(false, .cloF 38 Message_.rep u_ x3)], fun ds_ u_ => [], [], [], none⟩, ⟨some 115, some (.bool y7), fun _ => [], fun ds_ u_ => [], [], [], none⟩, ⟨some 116, some (.bool y7), fun _ => [], fun ds_ u_ => [], [], [], none⟩] [[], [0], [1], [2], [3, 2], [2], [5, 2], [4, 6, 2], [2, 7], [8], [9], [9], [10, 11, 9], [9], [13, 9], [12, 14, 9], [9, 15]] [[(false, .box 37 Message_.rep u24 x3)], [(false, .box 29 Responder_.rep u1 a0)]] [0, 1, 2, 3, 4, 5, 6, 7, 8, 9, 10, 11, 12, 13, 14, 15, 16, 17, 18] Try_mixed rfl rfl rfl h45 (.cons ?_ (.cons ?_ (.cons ?_ (.cons ?_ (.cons ?_ (.cons ?_ (.cons ?_ (.cons ?_ (.cons ?_ (.cons ?_ (.cons ?_ (.cons ?_ (.cons ?_ (.cons ?_ (.cons ?_ (.cons ?_ (.cons ?_ .nil))))))))))))))))) (fun q1 w hq3 h => ?_)
        ·intro q1 w Γx Ωx h
         refine OpS.mv rfl rfl rfl ?_
         exact ⟨undef, rfl, trivial, h⟩
        ·intro q1 w Γx Ωx h
         refine OpS.bin rfl rfl rfl rfl rfl ?_
         exact ⟨undef, rfl, trivial, h⟩
        ·intro q1 w Γx Ωx h
         refine OpS.mv rfl rfl rfl ?_
         exact ⟨undef, (congrArg (fun z_ => some (Value.bool z_)) e19), trivial, h⟩
        ·intro q1 w Γx Ωx h
         have h : St e w ([(true, .val (Rep.slice (Rep.int .u8)) u26 y6.1), (false, .val Message_.rep u25 x3), (false, .val Message_.rep u23 x3), (false, .ptr Message_.rep u22 x3), (false, .val (Rep.slice Message_.rep) u20 s5.1), (false, .val (Rep.slice Message_.rep) u21 s5.2.1)] ++ Γx) ([(false, .box 37 Message_.rep u24 x3)] ++ Ωx) := h
         refine OpS.fbox (o3 := 0) h .z PA.z fa37_0 rfl rfl rfl rfl ?_
         exact ⟨undef, rfl, trivial, h⟩
        ·intro q1 w Γx Ωx h
         have h : St e w ([(true, .val (Rep.slice (Rep.int .u8)) u26 y6.1), (false, .val Message_.rep u25 x3), (false, .val Message_.rep u23 x3), (false, .ptr Message_.rep u22 x3), (false, .val (Rep.slice Message_.rep) u20 s5.1), (false, .val (Rep.slice Message_.rep) u21 s5.2.1)] ++ Γx) ([(false, .box 37 Message_.rep u24 x3)] ++ Ωx) := h
         refine OpS.loadBi h .z PA.a (Get.fld Message_.f0) ty5 rfl rfl rfl ?_
         exact ⟨undef, rfl, trivial, h⟩
        ·intro q1 w Γx Ωx h
         have h : St e w ([(true, .val (Rep.slice (Rep.int .u8)) u26 y6.1), (false, .val Message_.rep u25 x3), (false, .val Message_.rep u23 x3), (false, .ptr Message_.rep u22 x3), (false, .val (Rep.slice Message_.rep) u20 s5.1), (false, .val (Rep.slice Message_.rep) u21 s5.2.1)] ++ Γx) ([(false, .box 29 Responder_.rep u1 a0)] ++ Ωx) := h
         refine OpS.fbox (o3 := 0) h .z PA.z fa29_0 rfl rfl rfl rfl ?_
         exact ⟨undef, rfl, trivial, h⟩
        ·intro q1 w Γx Ωx h
         have h : St e w ([(true, .val (Rep.slice (Rep.int .u8)) u26 y6.1), (false, .val Message_.rep u25 x3), (false, .val Message_.rep u23 x3), (false, .ptr Message_.rep u22 x3), (false, .val (Rep.slice Message_.rep) u20 s5.1), (false, .val (Rep.slice Message_.rep) u21 s5.2.1)] ++ Γx) ([(false, .box 29 Responder_.rep u1 a0)] ++ Ωx) := h
         refine OpS.loadBi h .z PA.a (Get.fld Responder_.f0) ty5 rfl rfl rfl ?_
         exact ⟨undef, rfl, trivial, h⟩
        ·intro q1 w Γx Ωx h
         refine OpS.bin rfl rfl rfl rfl rfl ?_
         exact ⟨undef, rfl, trivial, h⟩
        ·intro q1 w Γx Ωx h
         refine OpS.pick rfl rfl rfl rfl ?_
         exact ⟨undef, rfl, trivial, h⟩
        ·intro q1 w Γx Ωx h
         refine OpS.mv rfl rfl rfl ?_
         exact ⟨undef, (congrArg (fun z_ => some (Value.bool z_)) e21), trivial, h⟩
        ·intro q1 w Γx Ωx h
         refine OpS.mv rfl rfl rfl ?_
         exact ⟨undef, rfl, trivial, h⟩
        ·intro q1 w Γx Ωx h
         refine OpS.mv rfl rfl rfl ?_
         exact ⟨undef, rfl, trivial, h⟩
        ·intro q1 w Γx Ωx h
         refine OpS.sub h Try.underlying26 ty37 rfl rfl rfl rfl rfl (V.at (.s (.s (.s (.s .z))))) e23 (fun u h55 => ?_)
         exact ⟨u, rfl, trivial, h55⟩
        ·intro q1 w Γx Ωx h
         have h : St e w ([(true, .val (Rep.slice (Rep.int .u8)) u26 y6.1), (false, .val Message_.rep u25 x3), (false, .val Message_.rep u23 x3), (false, .ptr Message_.rep u22 x3), (false, .val (Rep.slice Message_.rep) u20 s5.1), (false, .val (Rep.slice Message_.rep) u21 s5.2.1)] ++ Γx) ([(false, .box 37 Message_.rep u24 x3)] ++ Ωx) := h
         refine OpS.loadB h .z PA.z Get.id ty37 rfl rfl rfl (fun u h56 => ?_)
         exact ⟨u, rfl, trivial, h56⟩
        ·intro q1 w Γx Ωx h
         refine OpS.mkfF h rfl rfl rfl (V.at .z) (fun u h57 => ?_)
         exact ⟨u, rfl, trivial, h57⟩
        ·intro q1 w Γx Ωx h
         obtain ⟨cv2, hu2, h58⟩ := St.cloF h (.s .z)
         refine OpS.callP h58 Try.func42 rfl rfl rfl rfl (vs := [(q1 12), .func (.func 38) #[cv2] #[]]) (congrArg (fun z_ => [some (q1 12), some z_]) hu2) (slices_ContainsFunc_api_Message_api_Message_responder_request_is_ok e24) (.cons (f := false) (V.at (.s .z)) (.cons (f := false) (V.at .z) .nil)) ?_
         rintro _ w23 _ _ _ ⟨rfl, rfl, rfl, rfl⟩ h59
         have h60 := h59 rfl rfl
         simp only [List.cons_append, List.nil_append] at h60
         have h61 := St.unfact h60 .z
         exact ⟨undef, rfl, trivial, h61⟩
        ·intro q1 w Γx Ωx h
         refine OpS.pick rfl rfl rfl rfl ?_
         exact ⟨undef, rfl, trivial, h⟩
        have h62 : St e w [(false, .val (Rep.slice Message_.rep) (q1 12) x6), (false, .val Message_.rep (q1 13) x3), (false, .cloF 38 Message_.rep (q1 14) x3), (true, .val (Rep.slice (Rep.int .u8)) u26 y6.1), (false, .val Message_.rep u25 x3), (false, .val Message_.rep u23 x3), (false, .ptr Message_.rep u22 x3), (false, .val (Rep.slice Message_.rep) u20 s5.1), (false, .val (Rep.slice Message_.rep) u21 s5.2.1)] [(false, .box 37 Message_.rep u24 x3), (false, .box 29 Responder_.rep u1 a0)] := h
        refine RunL.nil ?_
        refine Run.slim [(116, .bool y7), (1, u1), (3, u20), (88, u21), (89, .int .i64 (s2.2.length : Int)), (90, .int .i64 s5.2.2)] ⟨rfl, rfl, rfl, rfl, rfl, rfl, trivial⟩ ?_
        refine Run.slim [(1, u1), (3, u20), (88, u21), (89, .int .i64 (s2.2.length : Int)), (90, .int .i64 s5.2.2), (116, .bool y7)] ⟨rfl, rfl, rfl, rfl, rfl, rfl, trivial⟩ ?_
        exact hj4 (y7) _ _ ⟨rfl, (h62.facts (.atm (.s (.s (.s (.s (.s (.s (.s .z))))))) (.atm (.s (.s (.s (.s (.s (.s (.s (.s .z)))))))) .nil))).picks (.cons (.s .z) .nil)⟩ hF
    ·
     refine Run.exit rfl ?_
     refine Run.seq ?_
     refine Run.reg ?_
     refine op (OpS.as rfl rfl rfl ?_)
     refine RunL.nil ?_
     refine Run.slim [(2, .bool true)] ⟨rfl, trivial⟩ ?_
     refine Run.retP rfl (.tmp rfl .nil) ?_
     cases hF
     exact Post.mk' ⟨rfl, rfl, rfl, rfl⟩ (h36.picks .nil) .nil
 ·
  refine RunL.caseb hF (fun e25 hF => ?_) (fun e25 hF => ?_)
  ·
   refine op (OpS.pass rfl rfl rfl ?_)
   refine op (OpS.pass rfl rfl rfl ?_)
   refine op (OpS.pass rfl rfl rfl ?_)
   refine op (OpS.pick rfl rfl rfl rfl ?_)
   refine op (OpS.mv rfl rfl rfl ?_)
   refine op (OpS.pass rfl rfl rfl ?_)
   refine op (OpS.pass rfl rfl rfl ?_)
   refine op (OpS.pass rfl rfl rfl ?_)
   refine op (OpS.pass rfl rfl rfl ?_)
   refine op (OpS.pick rfl rfl rfl rfl ?_)
   refine op (OpS.mv rfl rfl rfl ?_)
   refine op (OpS.pass rfl rfl rfl ?_)
   refine op (OpS.pass rfl rfl rfl ?_)
   refine op (OpS.pass rfl rfl rfl ?_)
   refine op (OpS.pass rfl rfl rfl ?_)
   refine op (OpS.pass rfl rfl rfl ?_)
   refine op (OpS.pass rfl rfl rfl ?_)
   refine op (OpS.pass rfl rfl rfl ?_)
   refine op (OpS.pass rfl rfl rfl ?_)
   refine op (OpS.pick rfl rfl rfl rfl ?_)
   refine RunL.nil ?_
   refine Run.slim [(37, .bool true), (1, u1)] ⟨rfl, rfl, trivial⟩ ?_
   refine Run.slim [(1, u1), (37, .bool true)] ⟨rfl, rfl, trivial⟩ ?_
   exact hj1 (true) _ _ ⟨rfl, (h1.facts .nil).picks (.cons .z .nil)⟩ hF
  ·
   refine op (OpS.fbox (o3 := 0) h1 .z PA.z fa29_0 rfl rfl rfl rfl ?_)
   refine op (OpS.loadBi h1 .z PA.a (Get.fld Responder_.f0) ty5 rfl rfl rfl ?_)
   refine op (OpS.bin rfl rfl rfl rfl rfl ?_)
   refine op (OpS.pick rfl rfl rfl rfl ?_)
   refine op (OpS.mv rfl rfl rfl ?_)
   refine RunL.caseb hF (fun e26 hF => ?_) (fun e26 hF => ?_)
   ·
    refine op (OpS.pass rfl rfl rfl ?_)
    refine op (OpS.pass rfl rfl rfl ?_)
    refine op (OpS.pass rfl rfl rfl ?_)
    refine op (OpS.pass rfl rfl rfl ?_)
    refine op (OpS.pick rfl rfl rfl rfl ?_)
    refine op (OpS.mv rfl rfl rfl ?_)
    refine op (OpS.pass rfl rfl rfl ?_)
    refine op (OpS.pass rfl rfl rfl ?_)
    refine op (OpS.pass rfl rfl rfl ?_)
    refine op (OpS.pass rfl rfl rfl ?_)
    refine op (OpS.pass rfl rfl rfl ?_)
    refine op (OpS.pass rfl rfl rfl ?_)
    refine op (OpS.pass rfl rfl rfl ?_)
    refine op (OpS.pass rfl rfl rfl ?_)
    refine op (OpS.pick rfl rfl rfl rfl ?_)
    refine RunL.nil ?_
    refine Run.slim [(37, .bool true), (1, u1)] ⟨rfl, rfl, trivial⟩ ?_
    refine Run.slim [(1, u1), (37, .bool true)] ⟨rfl, rfl, trivial⟩ ?_
    exact hj1 (true) _ _ ⟨rfl, (h1.facts .nil).picks (.cons .z .nil)⟩ hF
   ·
    refine op (OpS.fbox (o3 := 1) h1 .z PA.z fa29_1 rfl rfl rfl rfl ?_)
    refine op (OpS.loadB h1 .z PA.a (Get.fld Responder_.f1) ty26 rfl rfl rfl (fun u27 h63 => ?_))
    refine op (OpS.len h63 Try.underlying26 rfl rfl rfl (V.at .z) ?_)
    refine op (OpS.bin rfl rfl rfl rfl rfl ?_)
    refine op (OpS.pick rfl rfl rfl rfl ?_)
    refine op (OpS.mv rfl rfl rfl ?_)
    refine RunL.caseb hF (fun e27 hF => ?_) (fun e27 hF => ?_)
    ·
     refine op (OpS.pass rfl rfl rfl ?_)
     refine op (OpS.pass rfl rfl rfl ?_)
     refine op (OpS.pass rfl rfl rfl ?_)
     refine op (OpS.pass rfl rfl rfl ?_)
     refine op (OpS.pass rfl rfl rfl ?_)
     refine op (OpS.pass rfl rfl rfl ?_)
     refine op (OpS.pass rfl rfl rfl ?_)
     refine op (OpS.pass rfl rfl rfl ?_)
     refine op (OpS.pick rfl rfl rfl rfl ?_)
     refine RunL.nil ?_
     refine Run.slim [(37, .bool true), (1, u1)] ⟨rfl, rfl, trivial⟩ ?_
     refine Run.slim [(1, u1), (37, .bool true)] ⟨rfl, rfl, trivial⟩ ?_
     exact hj1 (true) _ _ ⟨rfl, (h63.facts .nil).picks (.cons .z .nil)⟩ hF
    ·
     refine op (OpS.fbox (o3 := 1) h63 .z PA.z fa29_1 rfl rfl rfl rfl ?_)
     refine op (OpS.loadB h63 .z PA.a (Get.fld Responder_.f1) ty26 rfl rfl rfl (fun u28 h64 => ?_))
     refine op (OpS.len h64 Try.underlying26 rfl rfl rfl (V.at .z) ?_)
     refine op (OpS.fbox (o3 := 2) h64 .z PA.z fa29_2 rfl rfl rfl rfl ?_)
     refine op (OpS.loadB h64 .z PA.a (Get.fld Responder_.f2) ty27 rfl rfl rfl (fun u29 h65 => ?_))
     refine op (OpS.len h65 Try.underlying27 rfl rfl rfl (V.at .z) ?_)
     refine op (OpS.bin rfl rfl rfl rfl rfl ?_)
     refine op (OpS.bin rfl rfl rfl rfl rfl ?_)
     refine op (OpS.pick rfl rfl rfl rfl ?_)
     refine RunL.nil ?_
     refine Run.slim [(37, .bool (decide ((IntKind.i64.wrap ((a0.Queue.length : Int) + (a0.Memory.length : Int))) > 16))), (1, u1)] ⟨rfl, rfl, trivial⟩ ?_
     refine Run.slim [(1, u1), (37, .bool (decide ((IntKind.i64.wrap ((a0.Queue.length : Int) + (a0.Memory.length : Int))) > 16)))] ⟨rfl, rfl, trivial⟩ ?_
     exact hj1 (decide ((IntKind.i64.wrap ((a0.Queue.length : Int) + (a0.Memory.length : Int))) > 16)) _ _ ⟨rfl, (h65.facts .nil).picks (.cons .z .nil)⟩ hF
theorem message_ParseRequest_ok {fuel : Nat} {a0 : List Int} {y : Message_ × Int} (hF : message_ParseRequest fuel a0 = some y) {w : World} {v0 : Value} :
  Spec Try.prog 18 [v0].toArray w [(false, .val (Rep.slice (Rep.int .u8)) v0 a0)] [] (fun v Γr Ωr Ωo => ∃ u0 : Value, v = .tuple #[u0, .int .i64 y.2] ∧ Γr = [(true, .val Message_.rep u0 y.1)] ∧ Ωr = [] ∧ Ωo = []) := by
 refine Spec.of (L := [(0, v0)]) Try.func18 rfl ⟨rfl, trivial⟩ rfl (fun e h => ?_)
 unfold message_ParseRequest at hF
 refine Run.seq ?_
 refine Run.reg ?_
 refine op (OpS.alloc h ti37 Message_.zr rfl rfl (fun u1 w1 h1 => ?_))
 refine op (OpS.as rfl rfl rfl ?_)
 refine RunL.nil ?_
 refine Run.slim [(2, u1), (0, v0)] ⟨rfl, rfl, trivial⟩ ?_
 refine Run.seq ?_
 refine Run.seq ?_
 refine Run.reg ?_
 refine op (OpS.mv rfl rfl rfl ?_)
 refine op (OpS.len h1 Try.underlying22 rfl rfl rfl (V.at .z) ?_)
 refine op (OpS.bin rfl rfl rfl rfl rfl ?_)
 refine RunL.nil ?_
 refine Run.slim [(6, .bool (decide ((a0.length : Int) < 7))), (2, u1), (0, v0)] ⟨rfl, rfl, rfl, trivial⟩ ?_
 refine Run.ite rfl hF (fun e1 hF => ?_) (fun e1 hF => ?_)
 ·
  refine Run.seq ?_
  refine Run.reg ?_
  refine op (OpS.build (f := true) (x' := Message_.z) h1 pl37 ti37 Message_.zr rfl rfl rfl .nil (fun u2 h2 => ?_))
  refine op (OpS.storeB (f' := true) h2 .z PA.z Put.id ty37 rfl rfl rfl (V.at .z) (.inl rfl) (fun w2 h3 => ?_))
  refine op (OpS.as rfl rfl rfl ?_)
  refine RunL.nil ?_
  refine Run.slim [(3, .int .i64 4), (2, u1)] ⟨rfl, rfl, trivial⟩ ?_
  obtain ⟨u3, hu1, h4⟩ := res_box h3 .z ty37
  refine Run.retP rfl (.cell rfl hu1 (.tmp rfl .nil)) ?_
  cases hF
  exact Post.mk' ⟨u3, rfl, rfl, rfl, rfl⟩ (h4.picks .nil) (.val (V.at .z) .nil)
 ·
  refine Run.skip ?_
  refine Run.seq ?_
  refine Run.reg ?_
  refine op (OpS.mv rfl rfl rfl ?_)
  obtain ⟨y1, e2, hF⟩ := bindP_use hF
  refine op (OpS.callP h1 Try.func45 rfl rfl rfl rfl (vs := [v0, .int .i64 6]) rfl (message_parse_ok e2) (.cons (f := false) (V.at .z) .nil) ?_)
  rintro _ w3 _ _ _ ⟨u4, rfl, rfl, rfl, rfl⟩ h5
  have h6 := h5 rfl rfl
  simp only [List.cons_append, List.nil_append] at h6
  refine op (OpS.ext rfl rfl rfl rfl ?_)
  refine op (OpS.ext rfl rfl rfl rfl ?_)
  refine op (OpS.storeB (f' := true) h6 .z PA.z Put.id ty37 rfl rfl rfl (V.at .z) (.inl rfl) (fun w4 h7 => ?_))
  refine op (OpS.as rfl rfl rfl ?_)
  refine RunL.nil ?_
  refine Run.slim [(3, .int .i64 y1.2), (2, u1)] ⟨rfl, rfl, trivial⟩ ?_
  obtain ⟨u5, hu2, h8⟩ := res_box h7 .z ty37
  refine Run.retP rfl (.cell rfl hu2 (.tmp rfl .nil)) ?_
  cases hF
  exact Post.mk' ⟨u5, rfl, rfl, rfl, rfl⟩ (h8.picks .nil) (.val (V.at .z) .nil)
theorem responder_copied_ok {fuel : Nat} {a0 : Message_} {y : Message_} (hF : responder_copied fuel a0 = some y) {w : World} {v0 : Value} :
  Spec Try.prog 44 [v0].toArray w [(false, .val Message_.rep v0 a0)] [] (fun v Γr Ωr Ωo => ∃ u0 : Value, v = u0 ∧ Γr = [(true, .val Message_.rep u0 y)] ∧ Ωr = [] ∧ Ωo = []) := by
 refine Spec.of (L := [(0, v0)]) Try.func44 rfl ⟨rfl, trivial⟩ rfl (fun e h => ?_)
 unfold responder_copied at hF
 refine Run.seq ?_
 refine Run.reg ?_
 refine op (OpS.boxF h rfl rfl rfl (V.at .z) (fun u1 w1 h1 => ?_))
 refine op (OpS.alloc h1 ti37 Message_.zr rfl rfl (fun u2 w2 h2 => ?_))
 refine RunL.nil ?_
 refine Run.slim [(2, u2), (1, u1)] ⟨rfl, rfl, trivial⟩ ?_
 refine Run.seq ?_
 refine Run.reg ?_
 refine op (OpS.fbox (o3 := 8) h2 (.s .z) PA.z fa37_8 rfl rfl rfl rfl ?_)
 refine op (OpS.loadB h2 (.s .z) PA.a (Get.fld Message_.f8) ty22 rfl rfl rfl (fun u3 h3 => ?_))
 obtain ⟨y1, e1, hF⟩ := bindP_use hF
 refine op (OpS.callP h3 Try.func41 rfl rfl rfl rfl (vs := [u3]) rfl (slices_Clone_byte_byte_ok e1) (.cons (f := false) (V.at .z) .nil) ?_)
 rintro u4 w3 _ _ _ ⟨_, rfl, rfl, rfl, rfl⟩ h4
 have h5 := h4 rfl rfl
 simp only [List.cons_append, List.nil_append] at h5
 refine op (OpS.fbox (o3 := 8) h5 (.s (.s .z)) PA.z fa37_8 rfl rfl rfl rfl ?_)
 refine op (OpS.storeC (f' := false) (fr := (Rep.raw u4)) (r' := (Rep.iso (fun s : Message_ => (s.To, s.From, s.Function, s.Command, s.ToUnit, s.FromUnit, s.Sequence, s.Code, s.Data, ())) (Rep.prod (Rep.int .u8) (Rep.prod (Rep.int .u8) (Rep.prod (Rep.int .u8) (Rep.prod (Rep.int .u8) (Rep.prod (Rep.int .i64) (Rep.prod (Rep.int .i64) (Rep.prod (Rep.int .i64) (Rep.prod (Rep.int .u8) (Rep.prod (Rep.raw u4) Rep.unit))))))))))) (x' := a0) h5 (.s (.s .z)) PA.a (Chg.iso _ (Chg.there (Chg.there (Chg.there (Chg.there (Chg.there (Chg.there (Chg.there (Chg.there (Chg.here (Chg.id (by rfl)))))))))))) (Ty.like ty22 (by rfl) (by rfl)) rfl rfl rfl (V.raw (f := false) (St.own1 h5 .z) a0.Data) (.inr rfl) (fun w4 h6 => ?_))
 refine RunL.nil ?_
 refine Run.slim [(2, u2), (1, u1)] ⟨rfl, rfl, trivial⟩ ?_
 refine Run.seq ?_
 refine Run.reg ?_
 refine op (OpS.loadB (fr := (Rep.iso (fun s : Message_ => (s.To, s.From, s.Function, s.Command, s.ToUnit, s.FromUnit, s.Sequence, s.Code, s.Data, ())) (Rep.prod (Rep.int .u8) (Rep.prod (Rep.int .u8) (Rep.prod (Rep.int .u8) (Rep.prod (Rep.int .u8) (Rep.prod (Rep.int .i64) (Rep.prod (Rep.int .i64) (Rep.prod (Rep.int .i64) (Rep.prod (Rep.int .u8) (Rep.prod (Rep.raw u4) Rep.unit))))))))))) h6 .z PA.z (GetS.ok GetS.id) (Ty.like ty37 (by rfl) (by rfl)) rfl rfl rfl (fun u5 h7 => ?_))
 refine op (OpS.storeC (f' := true) (fr := (Rep.iso (fun s : Message_ => (s.To, s.From, s.Function, s.Command, s.ToUnit, s.FromUnit, s.Sequence, s.Code, s.Data, ())) (Rep.prod (Rep.int .u8) (Rep.prod (Rep.int .u8) (Rep.prod (Rep.int .u8) (Rep.prod (Rep.int .u8) (Rep.prod (Rep.int .i64) (Rep.prod (Rep.int .i64) (Rep.prod (Rep.int .i64) (Rep.prod (Rep.int .u8) (Rep.prod (Rep.raw u4) Rep.unit))))))))))) (r' := (Rep.iso (fun s : Message_ => (s.To, s.From, s.Function, s.Command, s.ToUnit, s.FromUnit, s.Sequence, s.Code, s.Data, ())) (Rep.prod (Rep.int .u8) (Rep.prod (Rep.int .u8) (Rep.prod (Rep.int .u8) (Rep.prod (Rep.int .u8) (Rep.prod (Rep.int .i64) (Rep.prod (Rep.int .i64) (Rep.prod (Rep.int .i64) (Rep.prod (Rep.int .u8) (Rep.prod (Rep.raw u4) Rep.unit))))))))))) (x' := a0) h7 (.s (.s .z)) PA.z (Chg.id (by rfl)) (Ty.like ty37 (by rfl) (by rfl)) rfl rfl rfl (V.pure (V.at .z) (Pure.iso (Pure.prod Pure.int (Pure.prod Pure.int (Pure.prod Pure.int (Pure.prod Pure.int (Pure.prod Pure.int (Pure.prod Pure.int (Pure.prod Pure.int (Pure.prod Pure.int (Pure.prod Pure.raw Pure.unit))))))))))) (.inl rfl) (fun w5 h8 => ?_))
 refine RunL.nil ?_
 refine Run.slim [(2, u2)] ⟨rfl, trivial⟩ ?_
 obtain ⟨u6, hu1, h9⟩ := res_box h8 .z (Ty.like ty37 (by rfl) (by rfl))
 have h10 := (h9.pick (.s (.s .z))).freeze
 have h11 := h10.pick .z
 have h12 := St.boxJ (r' := Message_.rep) (x' := { a0 with Data := y1 }) h11 (fun _ _ hs_ => (Jn.iso _ (Jn.prod Jn.refl (Jn.prod Jn.refl (Jn.prod Jn.refl (Jn.prod Jn.refl (Jn.prod Jn.refl (Jn.prod Jn.refl (Jn.prod Jn.refl (Jn.prod Jn.refl (Jn.prod (Jn.raw ((V.at .z) _ _ hs_) rfl) Jn.refl)))))))))))
 have h13 := h12.pick (.s .z)
 have h14 := St.boxJ (r' := Message_.rep) (x' := { a0 with Data := y1 }) h13 (fun _ _ hs_ => (Jn.iso _ (Jn.prod Jn.refl (Jn.prod Jn.refl (Jn.prod Jn.refl (Jn.prod Jn.refl (Jn.prod Jn.refl (Jn.prod Jn.refl (Jn.prod Jn.refl (Jn.prod Jn.refl (Jn.prod (Jn.raw ((V.weak (V.at .z)) _ _ hs_) rfl) Jn.refl)))))))))))
 have h15 := St.addV (f := true) (r := Message_.rep) (x := { a0 with Data := y1 }) h14 (V.jn (r := (Rep.iso (fun s : Message_ => (s.To, s.From, s.Function, s.Command, s.ToUnit, s.FromUnit, s.Sequence, s.Code, s.Data, ())) (Rep.prod (Rep.int .u8) (Rep.prod (Rep.int .u8) (Rep.prod (Rep.int .u8) (Rep.prod (Rep.int .u8) (Rep.prod (Rep.int .i64) (Rep.prod (Rep.int .i64) (Rep.prod (Rep.int .i64) (Rep.prod (Rep.int .u8) (Rep.prod (Rep.raw u4) Rep.unit))))))))))) (x := a0) (V.at (.s .z)) rfl (fun _ _ hs_ => (Jn.iso _ (Jn.prod Jn.refl (Jn.prod Jn.refl (Jn.prod Jn.refl (Jn.prod Jn.refl (Jn.prod Jn.refl (Jn.prod Jn.refl (Jn.prod Jn.refl (Jn.prod Jn.refl (Jn.prod (Jn.raw ((V.at .z) _ _ hs_) rfl) Jn.refl))))))))))))
 refine Run.retP rfl (.cell rfl hu1 .nil) ?_
 cases hF
 exact Post.mk' ⟨u6, rfl, rfl, rfl, rfl⟩ (h15.picks .nil) (.val (V.at .z) .nil)
theorem slices_Clone_api_Memory_api_Memory_ok {fuel : Nat} {a0 : List Memory_} {y : (List Memory_)} (hF : slices_Clone_api_Memory_api_Memory fuel a0 = some y) {w : World} {v0 : Value} :
  Spec Try.prog 65 [v0].toArray w [(false, .val (Rep.slice Memory_.rep) v0 a0)] [] (fun v Γr Ωr Ωo => ∃ u0 : Value, v = u0 ∧ Γr = [] ∧ Ωr = [(false, .slice 72 Memory_.rep u0 y)] ∧ Ωo = []) := by
 refine Spec.of (L := [(0, v0)]) Try.func65 rfl ⟨rfl, trivial⟩ rfl (fun e h => ?_)
 unfold slices_Clone_api_Memory_api_Memory at hF
 refine Run.seq ?_
 refine Run.reg ?_
 refine op (OpS.as rfl rfl rfl ?_)
 refine RunL.nil ?_
 refine Run.slim [(0, v0)] ⟨rfl, trivial⟩ ?_
 refine Run.seq ?_
 refine Run.seq ?_
 refine Run.reg ?_
 refine op (OpS.mv rfl rfl rfl ?_)
 refine op (OpS.snil h Try.underlying27 rfl rfl rfl (V.at .z) (fun b1 hb1 => ?_))
 refine RunL.nil ?_
 refine Run.slim [(4, .bool b1), (0, v0)] ⟨rfl, rfl, trivial⟩ ?_
 cases b1
 ·
  refine Run.condF rfl ?_
  refine Run.skip ?_
  refine Run.seq ?_
  refine Run.reg ?_
  refine op (OpS.litO (r := Memory_.rep) (f := true) h Try.underlying27 ti72 rfl rfl rfl rfl rfl .nil rfl rfl (fun u1 w1 h1 => ?_))
  refine op (OpS.mv rfl rfl rfl ?_)
  obtain ⟨x1, e1, hF⟩ := bindP_use hF
  have h2 := (h1.pick .z).weak
  refine op (OpS.app (f' := false) h2 .z Try.underlying27 ti72 rfl rfl rfl rfl rfl rfl rfl (V.at .z) (.inl (.inr rfl)) e1 (fun u2 w2 h3 => ?_))
  refine op (OpS.as rfl rfl rfl ?_)
  refine RunL.nil ?_
  refine Run.slim [(2, u2)] ⟨rfl, trivial⟩ ?_
  refine Run.retP rfl (.tmp rfl .nil) ?_
  cases hF
  exact Post.mk' ⟨u2, rfl, rfl, rfl, rfl⟩ (h3.picks (.cons .z .nil)) .nil
 ·
  obtain rfl := hb1 rfl
  have hF : some ([] : List Memory_) = some y := by simpa [bindP, app] using hF
  refine Run.condT rfl ?_
  refine Run.seq ?_
  refine Run.reg ?_
  refine op (OpS.as rfl rfl rfl ?_)
  refine RunL.nil ?_
  refine Run.slim [(2, .slice none 0 0)] ⟨rfl, trivial⟩ ?_
  have h4 := St.nil 72 Memory_.rep h
  have h5 := (h4.pick .z).weak
  refine Run.retP rfl (.tmp rfl .nil) ?_
  cases hF
  exact Post.mk' ⟨(.slice none 0 0), rfl, rfl, rfl, rfl⟩ (h5.picks (.cons .z .nil)) .nil
set_option maxHeartbeats 8000000 in
theorem responder_fresh_ok {fuel : Nat} {a0 : Responder_} {a1 : Int} {y : Responder_} (hF : responder_fresh fuel a0 a1 = some y) {w : World} {v0 : Value} :
  Spec Try.prog 37 [v0, .int .i64 a1].toArray w [(false, .val Responder_.rep v0 a0)] [] (fun v Γr Ωr Ωo => ∃ u0 u0_0 u0_1 : Value, v = u0 ∧ Γr = [(false, .val (Rep.iso (fun s : Responder_ => (s.Own, s.Queue, s.Memory, ())) (Rep.prod (Rep.int .u8) (Rep.prod (Rep.raw u0_0) (Rep.prod (Rep.raw u0_1) Rep.unit)))) u0 y)] ∧ Ωr = [(false, .slice 37 Message_.rep u0_0 y.Queue), (false, .slice 72 Memory_.rep u0_1 y.Memory)] ∧ Ωo = []) := by
 refine Spec.of (L := [(0, v0), (1, .int .i64 a1)]) Try.func37 rfl ⟨rfl, rfl, trivial⟩ rfl (fun e h => ?_)
 unfold responder_fresh at hF
 refine Run.seq ?_
 refine Run.reg ?_
 refine op (OpS.boxF h rfl rfl rfl (V.at .z) (fun u1 w1 h1 => ?_))
 refine op (OpS.alloc h1 ti29 Responder_.zr rfl rfl (fun u2 w2 h2 => ?_))
 refine RunL.nil ?_
 refine Run.slim [(4, u2), (2, u1), (1, .int .i64 a1)] ⟨rfl, rfl, rfl, trivial⟩ ?_
 refine Run.seq ?_
 refine Run.reg ?_
 refine op (OpS.fbox (o3 := 1) h2 (.s .z) PA.z fa29_1 rfl rfl rfl rfl ?_)
 refine op (OpS.loadB h2 (.s .z) PA.a (Get.fld Responder_.f1) ty26 rfl rfl rfl (fun u3 h3 => ?_))
 refine op (OpS.len h3 Try.underlying26 rfl rfl rfl (V.at .z) ?_)
 refine op (OpS.bin rfl rfl rfl rfl rfl ?_)
 obtain ⟨x1, e1, hF⟩ := bindP_use hF
 obtain ⟨e2, hF⟩ := chk_use hF
 obtain ⟨e3, hF⟩ := chk_use hF
 refine op (OpS.make h3 Try.underlying26 ti37 rfl rfl Message_.zr rfl rfl rfl rfl e1 e2 e3 rfl (fun u4 w3 h4 => ?_))
 refine op (OpS.as rfl rfl rfl ?_)
 refine RunL.nil ?_
 refine Run.slim [(5, u4), (4, u2), (2, u1), (1, .int .i64 a1)] ⟨rfl, rfl, rfl, rfl, trivial⟩ ?_
 refine Run.seq ?_
 refine Run.seq ?_
 refine Run.reg ?_
 refine op (OpS.fbox (o3 := 1) h4 (.s (.s .z)) PA.z fa29_1 rfl rfl rfl rfl ?_)
 refine op (OpS.loadB h4 (.s (.s .z)) PA.a (Get.fld Responder_.f1) ty26 rfl rfl rfl (fun u5 h5 => ?_))
 refine op (OpS.len h5 Try.underlying26 rfl rfl rfl (V.at .z) ?_)
 refine op (OpS.mv rfl rfl rfl ?_)
 refine RunL.nil ?_
 refine Run.slim [(20, .int .i64 0), (19, .int .i64 (a0.Queue.length : Int)), (18, u5), (5, u4), (4, u2), (2, u1), (1, .int .i64 a1)] ⟨rfl, rfl, rfl, rfl, rfl, rfl, rfl, trivial⟩ ?_
 refine Run.block ?_
 refine Run.slim [(1, .int .i64 a1), (2, u1), (4, u2), (5, u4), (18, u5), (19, .int .i64 (a0.Queue.length : Int)), (20, .int .i64 0)] ⟨rfl, rfl, rfl, rfl, rfl, rfl, rfl, trivial⟩ ?_
 refine Run.loopP (σ := (Int × (List Message_))) (fun s_ L_ w_ => ∃ u0_ : Value, L_ = [(1, .int .i64 a1), (2, u1), (4, u2), (5, u0_), (18, u5), (19, .int .i64 (a0.Queue.length : Int)), (20, .int .i64 s_.1)] ∧ St e w_ [(false, .val (Rep.slice Message_.rep) u5 a0.Queue)] [(false, .box 29 Responder_.rep u1 a0), (true, .box 29 Responder_.rep u2 Responder_.z), (true, .slice 37 Message_.rep u0_ s_.2)]) hF ⟨u4, rfl, (h5.facts (.atm .z .nil)).picks (.cons (.s (.s .z)) (.cons (.s .z) (.cons .z .nil)))⟩ (fun k1 hk1 s1 _ w4 hI hF => ?_)
 obtain ⟨u6, rfl, h6⟩ := hI
 refine Run.seq ?_
 refine Run.reg ?_
 refine op (OpS.bin rfl rfl rfl rfl rfl ?_)
 refine RunL.nil ?_
 refine Run.seq ?_
 refine Run.ite rfl hF (fun e4 hF => ?_) (fun e4 hF => ?_)
 ·
  refine Run.skip ?_
  refine Run.seq ?_
  refine Run.block ?_
  refine Run.seq ?_
  refine Run.reg ?_
  obtain ⟨x2, e5, hF⟩ := bindP_use hF
  refine op (OpS.iptr h6 Try.underlying26 ty37 rfl rfl rfl rfl (V.at .z) e5 (fun u7 h7 => ?_))
  refine op (OpS.load h7 ty37 rfl rfl rfl .z (fun u8 h8 => ?_))
  refine op (OpS.alloc h8 ti37 Message_.zr rfl rfl (fun u9 w5 h9 => ?_))
  have h10 := (h9.pick .z).weak
  refine op (OpS.storeB (f' := false) h10 .z PA.z Put.id ty37 rfl rfl rfl (V.at .z) (.inr rfl) (fun w6 h11 => ?_))
  refine RunL.nil ?_
  refine Run.slim [(7, u9), (1, .int .i64 a1), (2, u1), (4, u2), (5, u6), (18, u5), (19, .int .i64 (a0.Queue.length : Int)), (20, .int .i64 s1.1)] ⟨rfl, rfl, rfl, rfl, rfl, rfl, rfl, rfl, trivial⟩ ?_
  refine Run.reg ?_
  refine op (OpS.mv rfl rfl rfl ?_)
  refine op (OpS.loadB h11 .z PA.z Get.id ty37 rfl rfl rfl (fun u10 h12 => ?_))
  obtain ⟨y1, e6, hF⟩ := bindP_use hF
  refine op (OpS.callP h12 Try.func44 rfl rfl rfl rfl (vs := [u10]) rfl (responder_copied_ok e6) (.cons (f := false) (V.at .z) .nil) ?_)
  rintro u11 w7 _ _ _ ⟨_, rfl, rfl, rfl, rfl⟩ h13
  have h14 := h13 rfl rfl
  simp only [List.cons_append, List.nil_append] at h14
  refine op (OpS.lit (r := Message_.rep) (f := true) h14 Try.underlying26 ti37 rfl rfl rfl rfl rfl (.cons rfl (V.at .z) .nil) rfl rfl (fun u12 w8 h15 => ?_))
  obtain ⟨x3, e7, hF⟩ := bindP_use hF
  refine op (OpS.app (f' := true) h15 (.s (.s (.s .z))) Try.underlying26 ti37 rfl rfl rfl rfl rfl rfl rfl (V.at .z) (.inl (.inl rfl)) e7 (fun u13 w9 h16 => ?_))
  refine op (OpS.as rfl rfl rfl ?_)
  refine RunL.nil ?_
  refine Run.slim [(5, u13), (1, .int .i64 a1), (2, u1), (4, u2), (18, u5), (19, .int .i64 (a0.Queue.length : Int)), (20, .int .i64 s1.1)] ⟨rfl, rfl, rfl, rfl, rfl, rfl, rfl, trivial⟩ ?_
  refine Run.endBlock ?_
  refine Run.reg ?_
  refine op (OpS.bin rfl rfl rfl rfl rfl ?_)
  refine op (OpS.mv rfl rfl rfl ?_)
  refine RunL.nil ?_
  refine Run.slim [(20, .int .i64 (IntKind.i64.wrap (s1.1 + 1))), (5, u13), (1, .int .i64 a1), (2, u1), (4, u2), (18, u5), (19, .int .i64 (a0.Queue.length : Int))] ⟨rfl, rfl, rfl, rfl, rfl, rfl, rfl, trivial⟩ ?_
  refine Run.slim [(1, .int .i64 a1), (2, u1), (4, u2), (5, u13), (18, u5), (19, .int .i64 (a0.Queue.length : Int)), (20, .int .i64 (IntKind.i64.wrap (s1.1 + 1)))] ⟨rfl, rfl, rfl, rfl, rfl, rfl, rfl, trivial⟩ ?_
  exact hk1 ((IntKind.i64.wrap (s1.1 + 1)), x3) _ _ ⟨u13, rfl, (h16.facts (.atm (.s (.s (.s (.s (.s .z))))) .nil)).picks (.cons (.s (.s .z)) (.cons (.s (.s .z)) (.cons .z .nil)))⟩ hF
 ·
  refine Run.exit rfl ?_
  refine Run.seq ?_
  refine Run.reg ?_
  refine op (OpS.fbox (o3 := 2) h6 .z PA.z fa29_2 rfl rfl rfl rfl ?_)
  refine op (OpS.loadB h6 .z PA.a (Get.fld Responder_.f2) ty27 rfl rfl rfl (fun u14 h17 => ?_))
  obtain ⟨y2, e8, hF⟩ := bindP_use hF
  have h18 := h17.front .nil
  refine op (OpS.callO h18 Try.func65 rfl rfl rfl rfl (vs := [u14]) rfl (slices_Clone_api_Memory_api_Memory_ok e8) rfl (.cons (f := false) (V.at .z) .nil) ?_)
  rintro u15 w10 _ _ _ ⟨_, rfl, rfl, rfl, rfl⟩ h19
  have h20 := h19
  simp only [List.cons_append, List.nil_append] at h20
  refine op (OpS.as rfl rfl rfl ?_)
  refine RunL.nil ?_
  refine Run.slim [(8, u15), (1, .int .i64 a1), (2, u1), (4, u2), (5, u6)] ⟨rfl, rfl, rfl, rfl, rfl, trivial⟩ ?_
  refine Run.seq ?_
  refine Run.reg ?_
  refine op (OpS.mv rfl rfl rfl ?_)
  refine op (OpS.preS h20 .z Try.underlying27 ty72 rfl rfl rfl rfl rfl (by decide) (Int.natCast_nonneg _) ?_)
  refine op (OpS.as rfl rfl rfl ?_)
  refine RunL.nil ?_
  refine Run.slim [(9, (pre u15 0)), (8, u15), (1, .int .i64 a1), (2, u1), (4, u2), (5, u6)] ⟨rfl, rfl, rfl, rfl, rfl, rfl, trivial⟩ ?_
  refine Run.seq ?_
  refine Run.seq ?_
  refine Run.reg ?_
  refine op (OpS.mv rfl rfl rfl ?_)
  refine op (OpS.lenO h20 .z Try.underlying27 rfl rfl rfl ?_)
  refine op (OpS.mv rfl rfl rfl ?_)
  refine RunL.nil ?_
  refine Run.slim [(37, .int .i64 0), (36, .int .i64 (y2.length : Int)), (35, u15), (9, (pre u15 0)), (1, .int .i64 a1), (2, u1), (4, u2), (5, u6)] ⟨rfl, rfl, rfl, rfl, rfl, rfl, rfl, rfl, trivial⟩ ?_
  refine Run.block ?_
  refine Run.slim [(1, .int .i64 a1), (2, u1), (4, u2), (5, u6), (9, (pre u15 0)), (35, u15), (36, .int .i64 (y2.length : Int)), (37, .int .i64 0)] ⟨rfl, rfl, rfl, rfl, rfl, rfl, rfl, rfl, trivial⟩ ?_
  refine Run.loopP (σ := (Nat × Int × (List Memory_))) (fun s_ L_ w_ => L_ = [(1, .int .i64 a1), (2, u1), (4, u2), (5, u6), (9, (pre u15 s_.1)), (35, u15), (36, .int .i64 (y2.length : Int)), (37, .int .i64 s_.2.1)] ∧ St e w_ [] [(false, .box 29 Responder_.rep u1 a0), (true, .box 29 Responder_.rep u2 Responder_.z), (true, .slice 37 Message_.rep u6 s1.2), (false, .slice 72 Memory_.rep u15 s_.2.2)]) hF ⟨rfl, (h20.facts .nil).picks (.cons (.s .z) (.cons (.s .z) (.cons (.s .z) (.cons .z .nil))))⟩ (fun k2 hk2 s2 _ w11 hI hF => ?_)
  obtain ⟨rfl, h21⟩ := hI
  refine Run.seq ?_
  refine Run.reg ?_
  refine op (OpS.bin rfl rfl rfl rfl rfl ?_)
  refine RunL.nil ?_
  refine Run.seq ?_
  refine Run.ite rfl hF (fun e9 hF => ?_) (fun e9 hF => ?_)
  ·
   refine Run.skip ?_
   refine Run.seq ?_
   refine Run.block ?_
   refine Run.seq ?_
   refine Run.reg ?_
   obtain ⟨x4, e10, hF⟩ := bindP_use hF
   refine op (OpS.iown h21 (.s (.s (.s .z))) Try.underlying27 ty72 rfl rfl rfl rfl e10 ?_)
   refine op (OpS.loadO h21 (.s (.s (.s .z))) (idx_ne e10) PA.a (Get.arr e10) ty72 rfl rfl rfl (fun u16 h22 => ?_))
   refine op (OpS.alloc h22 ti72 Memory_.zr rfl rfl (fun u17 w12 h23 => ?_))
   have h24 := (h23.pick .z).weak
   refine op (OpS.storeB (f' := false) h24 .z PA.z Put.id ty72 rfl rfl rfl (V.at .z) (.inr rfl) (fun w13 h25 => ?_))
   refine RunL.nil ?_
   refine Run.slim [(11, u17), (1, .int .i64 a1), (2, u1), (4, u2), (5, u6), (9, (pre u15 s2.1)), (35, u15), (36, .int .i64 (y2.length : Int)), (37, .int .i64 s2.2.1)] ⟨rfl, rfl, rfl, rfl, rfl, rfl, rfl, rfl, rfl, trivial⟩ ?_
   refine Run.seq ?_
   refine Run.reg ?_
   refine op (OpS.fbox (o3 := 10) h25 .z PA.z fa72_2 rfl rfl rfl rfl ?_)
   refine op (OpS.loadBi h25 .z PA.a (Get.fld Memory_.f2) ty2 rfl rfl rfl ?_)
   refine op (OpS.mv rfl rfl rfl ?_)
   refine op (OpS.bin rfl rfl rfl rfl rfl ?_)
   refine RunL.nil ?_
   refine Run.slim [(44, .bool (decide (x4.Until > a1))), (11, u17), (1, .int .i64 a1), (2, u1), (4, u2), (5, u6), (9, (pre u15 s2.1)), (35, u15), (36, .int .i64 (y2.length : Int)), (37, .int .i64 s2.2.1)] ⟨rfl, rfl, rfl, rfl, rfl, rfl, rfl, rfl, rfl, rfl, trivial⟩ ?_
   refine Run.ite rfl hF (fun e11 hF => ?_) (fun e11 hF => ?_)
   ·
    refine Run.seq ?_
    obtain ⟨y3, e12, hF⟩ := bindP_use hF
    obtain ⟨y4, e13, hF⟩ := bindP_use hF
    refine Run.drawV (Ωs := [(false, .box 29 Responder_.rep u1 a0), (true, .box 29 Responder_.rep u2 Responder_.z), (true, .slice 37 Message_.rep u6 s1.2), (false, .slice 72 Memory_.rep u15 s2.2.2)]) [⟨some 45, some ((padd u17 0)), fun _ => [], fun ds_ u_ => [], [], [(0, [])], none⟩, ⟨some 46, none, fun u_ => [(false, .val Message_.rep u_ x4.Request)], fun ds_ u_ => [], [], [(0, [])], none⟩, ⟨some 47, none, fun u_ => [(true, .val Message_.rep u_ y3)], fun ds_ u_ => [], [], [], none⟩, ⟨some 48, some ((padd u17 9)), fun _ => [], fun ds_ u_ => [], [], [(0, [])], none⟩, ⟨some 49, none, fun u_ => [(false, .val (Rep.slice (Rep.int .u8)) u_ x4.Reply)], fun ds_ u_ => [], [], [(0, [])], none⟩, ⟨some 50, none, fun u_ => [(true, .val (Rep.slice (Rep.int .u8)) u_ y4)], fun ds_ u_ => [], [], [], none⟩, ⟨some 51, some ((padd u17 0)), fun _ => [], fun ds_ u_ => [], [], [(0, [])], none⟩] [[], [0], [1], [], [3], [4], []] [[(false, .box 72 Memory_.rep u17 x4)]] [0, 1, 2, 3, 4, 5, 6, 7] Try_mixed rfl rfl rfl h25 (.cons ?_ (.cons ?_ (.cons ?_ (.cons ?_ (.cons ?_ (.cons ?_ (.cons ?_ .nil))))))) (fun q1 w hq1 h => ?_)
    ·intro q1 w Γx Ωx h
     have h : St e w ([(false, .val Memory_.rep u16 x4)] ++ Γx) ([(false, .box 72 Memory_.rep u17 x4), (false, .box 29 Responder_.rep u1 a0), (true, .box 29 Responder_.rep u2 Responder_.z), (true, .slice 37 Message_.rep u6 s1.2), (false, .slice 72 Memory_.rep u15 s2.2.2)] ++ Ωx) := h
     refine OpS.fbox (o3 := 0) h .z PA.z fa72_0 rfl rfl rfl rfl ?_
     exact ⟨undef, rfl, trivial, h⟩
    ·intro q1 w Γx Ωx h
     have h : St e w ([(false, .val Memory_.rep u16 x4)] ++ Γx) ([(false, .box 72 Memory_.rep u17 x4), (false, .box 29 Responder_.rep u1 a0), (true, .box 29 Responder_.rep u2 Responder_.z), (true, .slice 37 Message_.rep u6 s1.2), (false, .slice 72 Memory_.rep u15 s2.2.2)] ++ Ωx) := h
     refine OpS.loadB h .z PA.a (Get.fld Memory_.f0) ty37 rfl rfl rfl (fun u h33 => ?_)
     exact ⟨u, rfl, trivial, h33⟩
    ·intro q1 w Γx Ωx h
     refine OpS.callP h Try.func44 rfl rfl rfl rfl (vs := [(q1 1)]) rfl (responder_copied_ok e12) (.cons (f := false) (V.at .z) .nil) ?_
     rintro u w16 _ _ _ ⟨_, rfl, rfl, rfl, rfl⟩ h34
     have h35 := h34 rfl rfl
     simp only [List.cons_append, List.nil_append] at h35
     exact ⟨u, rfl, trivial, h35⟩
    ·intro q1 w Γx Ωx h
     have h : St e w ([(false, .val Memory_.rep u16 x4)] ++ Γx) ([(false, .box 72 Memory_.rep u17 x4), (false, .box 29 Responder_.rep u1 a0), (true, .box 29 Responder_.rep u2 Responder_.z), (true, .slice 37 Message_.rep u6 s1.2), (false, .slice 72 Memory_.rep u15 s2.2.2)] ++ Ωx) := h
     refine OpS.fbox (o3 := 9) h .z PA.z fa72_1 rfl rfl rfl rfl ?_
     exact ⟨undef, rfl, trivial, h⟩
    ·intro q1 w Γx Ωx h
     have h : St e w ([(false, .val Memory_.rep u16 x4)] ++ Γx) ([(false, .box 72 Memory_.rep u17 x4), (false, .box 29 Responder_.rep u1 a0), (true, .box 29 Responder_.rep u2 Responder_.z), (true, .slice 37 Message_.rep u6 s1.2), (false, .slice 72 Memory_.rep u15 s2.2.2)] ++ Ωx) := h
     refine OpS.loadB h .z PA.a (Get.fld Memory_.f1) ty22 rfl rfl rfl (fun u h36 => ?_)
     exact ⟨u, rfl, trivial, h36⟩
    ·intro q1 w Γx Ωx h
     refine OpS.callP h Try.func41 rfl rfl rfl rfl (vs := [(q1 4)]) rfl (slices_Clone_byte_byte_ok e13) (.cons (f := false) (V.at .z) .nil) ?_
     rintro u w17 _ _ _ ⟨_, rfl, rfl, rfl, rfl⟩ h37
     have h38 := h37 rfl rfl
     simp only [List.cons_append, List.nil_append] at h38
     have h39 := h38.freeze
     exact ⟨u, rfl, trivial, h39⟩
    ·intro q1 w Γx Ωx h
     have h : St e w ([(false, .val Memory_.rep u16 x4)] ++ Γx) ([(false, .box 72 Memory_.rep u17 x4), (false, .box 29 Responder_.rep u1 a0), (true, .box 29 Responder_.rep u2 Responder_.z), (true, .slice 37 Message_.rep u6 s1.2), (false, .slice 72 Memory_.rep u15 s2.2.2)] ++ Ωx) := h
     refine OpS.fbox (o3 := 0) h .z PA.z fa72_0 rfl rfl rfl rfl ?_
     exact ⟨undef, rfl, trivial, h⟩
    have h40 : St e w [(false, .val Message_.rep (q1 1) x4.Request), (true, .val Message_.rep (q1 2) y3), (false, .val (Rep.slice (Rep.int .u8)) (q1 4) x4.Reply), (true, .val (Rep.slice (Rep.int .u8)) (q1 5) y4), (false, .val Memory_.rep u16 x4)] [(false, .box 72 Memory_.rep u17 x4), (false, .box 29 Responder_.rep u1 a0), (true, .box 29 Responder_.rep u2 Responder_.z), (true, .slice 37 Message_.rep u6 s1.2), (false, .slice 72 Memory_.rep u15 s2.2.2)] := h
    obtain ⟨d1, e14, hF⟩ := letP_use hF
    refine op (OpS.storeB (f' := false) h40 .z PA.a (Put.of (Put.fld Memory_.f0) e14) ty37 rfl rfl rfl (V.weak (V.at (.s .z))) (.inr rfl) (fun w18 h41 => ?_))
    refine op (OpS.fbox (o3 := 9) h41 .z PA.z fa72_1 rfl rfl rfl rfl ?_)
    obtain ⟨d2, e15, hF⟩ := letP_use hF
    refine op (OpS.storeB (f' := false) h41 .z PA.a (Put.of (Put.fld Memory_.f1) e15) ty22 rfl rfl rfl (V.weak (V.at (.s (.s (.s .z))))) (.inr rfl) (fun w19 h42 => ?_))
    refine RunL.nil ?_
    refine Run.slim [(11, u17), (1, .int .i64 a1), (2, u1), (4, u2), (5, u6), (9, (pre u15 s2.1)), (35, u15), (36, .int .i64 (y2.length : Int)), (37, .int .i64 s2.2.1)] ⟨rfl, rfl, rfl, rfl, rfl, rfl, rfl, rfl, rfl, trivial⟩ ?_
    refine Run.reg ?_
    refine op (OpS.mv rfl rfl rfl ?_)
    refine op (OpS.loadB h42 .z PA.z Get.id ty72 rfl rfl rfl (fun u18 h43 => ?_))
    refine op (OpS.lit (r := Memory_.rep) (f := false) h43 Try.underlying27 ti72 rfl rfl rfl rfl rfl (.cons rfl (V.at .z) .nil) rfl rfl (fun u19 w20 h44 => ?_))
    obtain ⟨e16, hF⟩ := chk_use hF
    obtain ⟨d3, e17, hF⟩ := letP_use hF
    refine op (OpS.appPe (f' := false) h44 (.s (.s (.s (.s .z)))) Try.underlying27 ti72 rfl rfl rfl rfl (V.at .z) (.inl (.inr rfl)) (of_decide_eq_true e16) e17 (fun w21 h45 => ?_))
    refine op (OpS.as rfl rfl rfl ?_)
    refine RunL.nil ?_
    refine Run.slim [(9, (pre u15 (s2.1 + ([d2]).length))), (1, .int .i64 a1), (2, u1), (4, u2), (5, u6), (35, u15), (36, .int .i64 (y2.length : Int)), (37, .int .i64 s2.2.1)] ⟨rfl, rfl, rfl, rfl, rfl, rfl, rfl, rfl, trivial⟩ ?_
    refine Run.endBlock ?_
    refine Run.reg ?_
    refine op (OpS.bin rfl rfl rfl rfl rfl ?_)
    refine op (OpS.mv rfl rfl rfl ?_)
    refine RunL.nil ?_
    refine Run.slim [(37, .int .i64 (IntKind.i64.wrap (s2.2.1 + 1))), (9, (pre u15 (s2.1 + ([d2]).length))), (1, .int .i64 a1), (2, u1), (4, u2), (5, u6), (35, u15), (36, .int .i64 (y2.length : Int))] ⟨rfl, rfl, rfl, rfl, rfl, rfl, rfl, rfl, trivial⟩ ?_
    refine Run.slim [(1, .int .i64 a1), (2, u1), (4, u2), (5, u6), (9, (pre u15 (s2.1 + ([d2]).length))), (35, u15), (36, .int .i64 (y2.length : Int)), (37, .int .i64 (IntKind.i64.wrap (s2.2.1 + 1)))] ⟨rfl, rfl, rfl, rfl, rfl, rfl, rfl, rfl, trivial⟩ ?_
    exact hk2 ((s2.1 + ([d2]).length), (IntKind.i64.wrap (s2.2.1 + 1)), d3) _ _ ⟨rfl, (h45.facts .nil).picks (.cons (.s (.s .z)) (.cons (.s (.s .z)) (.cons (.s (.s .z)) (.cons .z .nil))))⟩ hF
   ·
    refine Run.skip ?_
    refine Run.endBlock ?_
    refine Run.reg ?_
    refine op (OpS.bin rfl rfl rfl rfl rfl ?_)
    refine op (OpS.mv rfl rfl rfl ?_)
    refine RunL.nil ?_
    refine Run.slim [(37, .int .i64 (IntKind.i64.wrap (s2.2.1 + 1))), (1, .int .i64 a1), (2, u1), (4, u2), (5, u6), (9, (pre u15 s2.1)), (35, u15), (36, .int .i64 (y2.length : Int))] ⟨rfl, rfl, rfl, rfl, rfl, rfl, rfl, rfl, trivial⟩ ?_
    refine Run.slim [(1, .int .i64 a1), (2, u1), (4, u2), (5, u6), (9, (pre u15 s2.1)), (35, u15), (36, .int .i64 (y2.length : Int)), (37, .int .i64 (IntKind.i64.wrap (s2.2.1 + 1)))] ⟨rfl, rfl, rfl, rfl, rfl, rfl, rfl, rfl, trivial⟩ ?_
    exact hk2 (s2.1, (IntKind.i64.wrap (s2.2.1 + 1)), s2.2.2) _ _ ⟨rfl, (h25.facts .nil).picks (.cons (.s .z) (.cons (.s .z) (.cons (.s .z) (.cons (.s .z) .nil))))⟩ hF
  ·
   refine Run.exit rfl ?_
   refine Run.seq ?_
   refine Run.reg ?_
   refine op (OpS.mv rfl rfl rfl ?_)
   refine op (OpS.mv rfl rfl rfl ?_)
   refine op (OpS.fbox (o3 := 1) h21 .z PA.z fa29_1 rfl rfl rfl rfl ?_)
   refine op (OpS.storeC (f' := false) (fr := (Rep.raw u6)) (r' := (Rep.iso (fun s : Responder_ => (s.Own, s.Queue, s.Memory, ())) (Rep.prod (Rep.int .u8) (Rep.prod (Rep.raw u6) (Rep.prod (Rep.slice Memory_.rep) Rep.unit))))) (x' := a0) h21 .z PA.a (Chg.iso _ (Chg.there (Chg.here (Chg.id (by rfl))))) (Ty.like ty26 (by rfl) (by rfl)) rfl rfl rfl (V.raw (f := false) (St.own1 h21 (.s (.s .z))) a0.Queue) (.inr rfl) (fun w22 h46 => ?_))
   refine op (OpS.fbox (o3 := 2) h46 .z PA.z fa29_2 rfl rfl rfl rfl ?_)
   obtain ⟨e18, hF⟩ := chk_use hF
   have h47 := St.shrink (h46.pick (.s (.s (.s .z)))) (of_decide_eq_true e18)
   refine op (OpS.storeC (f' := false) (fr := (Rep.raw (pre u15 s2.1))) (r' := (Rep.iso (fun s : Responder_ => (s.Own, s.Queue, s.Memory, ())) (Rep.prod (Rep.int .u8) (Rep.prod (Rep.raw u6) (Rep.prod (Rep.raw (pre u15 s2.1)) Rep.unit))))) (x' := a0) h47 (.s .z) PA.a (Chg.iso _ (Chg.there (Chg.there (Chg.here (Chg.id (by rfl)))))) (Ty.like ty27 (by rfl) (by rfl)) rfl rfl rfl (V.raw (f := false) (St.own1 h47 .z) a0.Memory) (.inr rfl) (fun w23 h48 => ?_))
   refine RunL.nil ?_
   refine Run.slim [(2, u1), (4, u2)] ⟨rfl, rfl, trivial⟩ ?_
   refine Run.seq ?_
   refine Run.reg ?_
   refine op (OpS.loadB (fr := (Rep.iso (fun s : Responder_ => (s.Own, s.Queue, s.Memory, ())) (Rep.prod (Rep.int .u8) (Rep.prod (Rep.raw u6) (Rep.prod (Rep.raw (pre u15 s2.1)) Rep.unit))))) h48 .z PA.z (GetS.ok GetS.id) (Ty.like ty29 (by rfl) (by rfl)) rfl rfl rfl (fun u20 h49 => ?_))
   refine op (OpS.storeC (f' := true) (fr := (Rep.iso (fun s : Responder_ => (s.Own, s.Queue, s.Memory, ())) (Rep.prod (Rep.int .u8) (Rep.prod (Rep.raw u6) (Rep.prod (Rep.raw (pre u15 s2.1)) Rep.unit))))) (r' := (Rep.iso (fun s : Responder_ => (s.Own, s.Queue, s.Memory, ())) (Rep.prod (Rep.int .u8) (Rep.prod (Rep.raw u6) (Rep.prod (Rep.raw (pre u15 s2.1)) Rep.unit))))) (x' := a0) h49 (.s (.s .z)) PA.z (Chg.id (by rfl)) (Ty.like ty29 (by rfl) (by rfl)) rfl rfl rfl (V.pure (V.at .z) (Pure.iso (Pure.prod Pure.int (Pure.prod Pure.raw (Pure.prod Pure.raw Pure.unit))))) (.inl rfl) (fun w24 h50 => ?_))
   refine RunL.nil ?_
   refine Run.slim [(4, u2)] ⟨rfl, trivial⟩ ?_
   obtain ⟨u21, hu1, h51⟩ := res_box h50 .z (Ty.like ty29 (by rfl) (by rfl))
   have h52 := (h51.pick (.s (.s (.s .z)))).weak
   refine Run.retP rfl (.cell rfl hu1 .nil) ?_
   cases hF
   exact Post.mk' ⟨u21, u6, (pre u15 s2.1), rfl, rfl, rfl, rfl⟩ (h52.picks (.cons .z (.cons (.s (.s .z)) .nil))) (.val (V.jn (r := (Rep.iso (fun s : Responder_ => (s.Own, s.Queue, s.Memory, ())) (Rep.prod (Rep.int .u8) (Rep.prod (Rep.raw u6) (Rep.prod (Rep.raw (pre u15 s2.1)) Rep.unit))))) (x := a0) (x' := { { a0 with Queue := s1.2 } with Memory := (s2.2.2.take s2.1) }) (V.weak (V.at .z)) rfl (fun _ _ _ => (Jn.iso _ (Jn.prod Jn.refl (Jn.prod Jn.same (Jn.prod Jn.same Jn.refl)))))) .nil)
theorem responder_answer_ok {fuel : Nat} {a0 : Message_} {a1 : Int} {a2 : List Int} {y : (List Int) × Int} (hF : responder_answer fuel a0 a1 a2 = some y) {w : World} {v0 v2 : Value} :
  Spec Try.prog 43 [v0, .int .u8 a1, v2].toArray w [(false, .val Message_.rep v0 a0), (false, .val (Rep.slice (Rep.int .u8)) v2 a2)] [] (fun v Γr Ωr Ωo => ∃ u0 : Value, v = .tuple #[u0, .int .i64 y.2] ∧ Γr = [] ∧ Ωr = [(true, .slice 5 (Rep.int .u8) u0 y.1)] ∧ Ωo = []) := by
 refine Spec.of (L := [(0, v0), (1, .int .u8 a1), (2, v2)]) Try.func43 rfl ⟨rfl, rfl, rfl, trivial⟩ rfl (fun e h => ?_)
 unfold responder_answer at hF
 refine Run.seq ?_
 refine Run.reg ?_
 refine op (OpS.boxF h rfl rfl rfl (V.at .z) (fun u1 w1 h1 => ?_))
 refine op (OpS.as rfl rfl rfl ?_)
 refine op (OpS.as rfl rfl rfl ?_)
 refine RunL.nil ?_
 refine Run.slim [(3, u1), (1, .int .u8 a1), (2, v2)] ⟨rfl, rfl, rfl, trivial⟩ ?_
 refine Run.seq ?_
 refine Run.reg ?_
 refine op (OpS.loadB h1 .z PA.z Get.id ty37 rfl rfl rfl (fun u2 h2 => ?_))
 refine op (OpS.mv rfl rfl rfl ?_)
 refine op (OpS.mv rfl rfl rfl ?_)
 obtain ⟨y1, e1, hF⟩ := bindP_use hF
 refine op (OpS.callP h2 Try.func67 rfl rfl rfl rfl (vs := [u2, .int .u8 a1, v2]) rfl (message_Reply_ok e1) (.cons (f := false) (V.at .z) (.cons (f := false) (V.at (.s (.s .z))) .nil)) ?_)
 rintro _ w2 _ _ _ ⟨u3, rfl, rfl, rfl, rfl⟩ h3
 have h4 := h3 rfl rfl
 simp only [List.cons_append, List.nil_append] at h4
 refine op (OpS.mv rfl rfl rfl ?_)
 refine op (OpS.ext rfl rfl rfl rfl ?_)
 refine op (OpS.ext rfl rfl rfl rfl ?_)
 refine op (OpS.alloc h4 ti37 Message_.zr rfl rfl (fun u4 w3 h5 => ?_))
 refine op (OpS.storeB (f' := true) h5 .z PA.z Put.id ty37 rfl rfl rfl (V.at .z) (.inl rfl) (fun w4 h6 => ?_))
 refine op (OpS.as rfl rfl rfl ?_)
 refine RunL.nil ?_
 refine Run.slim [(9, .int .i64 y1.2), (8, u4)] ⟨rfl, rfl, trivial⟩ ?_
 refine Run.seq ?_
 refine Run.seq ?_
 refine Run.reg ?_
 refine op (OpS.mv rfl rfl rfl ?_)
 refine op (OpS.bin rfl rfl rfl rfl rfl ?_)
 refine RunL.nil ?_
 refine Run.slim [(18, .bool (y1.2 != 0)), (9, .int .i64 y1.2), (8, u4)] ⟨rfl, rfl, rfl, trivial⟩ ?_
 refine Run.ite rfl hF (fun e2 hF => ?_) (fun e2 hF => ?_)
 ·
  refine Run.seq ?_
  refine Run.reg ?_
  refine op (OpS.mv rfl rfl rfl ?_)
  refine op (OpS.as rfl rfl rfl ?_)
  refine op (OpS.as rfl rfl rfl ?_)
  refine RunL.nil ?_
  refine Run.slim [(7, .int .i64 y1.2), (6, .slice none 0 0)] ⟨rfl, rfl, trivial⟩ ?_
  have h7 := St.nil 5 (Rep.int .u8) h6
  refine Run.retP rfl (.tmp rfl (.tmp rfl .nil)) ?_
  cases hF
  exact Post.mk' ⟨(.slice none 0 0), rfl, rfl, rfl, rfl⟩ (h7.picks (.cons .z .nil)) .nil
 ·
  refine Run.skip ?_
  refine Run.seq ?_
  refine Run.reg ?_
  refine op (OpS.loadB h6 .z PA.z Get.id ty37 rfl rfl rfl (fun u5 h8 => ?_))
  obtain ⟨y2, e3, hF⟩ := bindP_use hF
  refine op (OpS.callP h8 Try.func48 rfl rfl rfl rfl (vs := [u5]) rfl (message_Response_ok e3) (.cons (f := true) (V.at .z) .nil) ?_)
  rintro _ w5 _ _ _ ⟨u6, rfl, rfl, rfl, rfl⟩ h9
  have h10 := h9 rfl rfl
  simp only [List.cons_append, List.nil_append] at h10
  refine op (OpS.ext rfl rfl rfl rfl ?_)
  refine op (OpS.ext rfl rfl rfl rfl ?_)
  refine op (OpS.as rfl rfl rfl ?_)
  refine op (OpS.as rfl rfl rfl ?_)
  refine RunL.nil ?_
  refine Run.slim [(7, .int .i64 y2.2), (6, u6)] ⟨rfl, rfl, trivial⟩ ?_
  refine Run.retP rfl (.tmp rfl (.tmp rfl .nil)) ?_
  cases hF
  exact Post.mk' ⟨u6, rfl, rfl, rfl, rfl⟩ (h10.picks (.cons .z .nil)) .nil
theorem responder_Accept_1_2_ok {fuel : Nat} {a0 : Memory_} {a1_0 : Message_} {y : Bool} (hF : responder_Accept_1_2 fuel a0 a1_0 = some y) {w : World} {v0 v1c_0 v1 : Value} :
  Spec Try.prog 40 [v0, v1].toArray w [(false, .val Memory_.rep v0 a0), (false, .val Message_.rep v1c_0 a1_0), (false, .ptr (Rep.raw (α := Unit) (.func (.func 38) #[v1c_0] #[])) v1 ())] [] (fun v Γr Ωr Ωo => v = .bool y ∧ Γr = [] ∧ Ωr = [] ∧ Ωo = []) := by
 refine Spec.of (L := [(0, v0), (1, v1)]) Try.func40 rfl ⟨rfl, rfl, trivial⟩ rfl (fun e h => ?_)
 unfold responder_Accept_1_2 at hF
 refine Run.seq ?_
 refine Run.reg ?_
 refine op (OpS.boxF h rfl rfl rfl (V.at .z) (fun u1 w1 h1 => ?_))
 refine op (OpS.as rfl rfl rfl ?_)
 refine RunL.nil ?_
 refine Run.slim [(2, u1), (1, v1)] ⟨rfl, rfl, trivial⟩ ?_
 refine Run.seq ?_
 refine Run.reg ?_
 refine op (OpS.loadPR h1 tyf66 rfl rfl rfl (.s (.s .z)) ?_)
 refine op (OpS.fbox (o3 := 0) h1 .z PA.z fa72_0 rfl rfl rfl rfl ?_)
 refine op (OpS.loadB h1 .z PA.a (Get.fld Memory_.f0) ty37 rfl rfl rfl (fun u2 h2 => ?_))
 obtain ⟨y1, e1, hF⟩ := bindP_use hF
 refine op (OpS.callPF (fl := [v1c_0]) (cl := []) h2 Try.func38 rfl rfl rfl rfl rfl (vs := [u2]) rfl (responder_request_is_ok e1) (.cons (f := false) (V.at (.s (.s .z))) (.cons (f := false) (V.at .z) .nil)) ?_)
 rintro _ w2 _ _ _ ⟨rfl, rfl, rfl, rfl⟩ h3
 have h4 := h3 rfl rfl
 simp only [List.cons_append, List.nil_append] at h4
 refine op (OpS.as rfl rfl rfl ?_)
 refine RunL.nil ?_
 refine Run.slim [(3, .bool y1)] ⟨rfl, trivial⟩ ?_
 refine Run.retP rfl (.tmp rfl .nil) ?_
 cases hF
 exact Post.mk' ⟨rfl, rfl, rfl, rfl⟩ (h4.picks .nil) .nil
theorem slices_IndexFunc_api_Memory_api_Memory_responder_Accept_1_ok {fuel : Nat} {a0 : List Memory_} {a1_0_0 : Message_} {y : Int} (hF : slices_IndexFunc_api_Memory_api_Memory_responder_Accept_1 fuel a0 a1_0_0 = some y) {w : World} {v0 v1_0c_0 v1_0 : Value} :
  Spec Try.prog 39 [v0, .func (.func 40) #[] #[v1_0]].toArray w [(false, .val (Rep.slice Memory_.rep) v0 a0), (false, .val Message_.rep v1_0c_0 a1_0_0), (false, .ptr (Rep.raw (α := Unit) (.func (.func 38) #[v1_0c_0] #[])) v1_0 ())] [] (fun v Γr Ωr Ωo => v = .int .i64 y ∧ Γr = [] ∧ Ωr = [] ∧ Ωo = []) := by
 refine Spec.of (L := [(0, v0), (1, .func (.func 40) #[] #[v1_0])]) Try.func39 rfl ⟨rfl, rfl, trivial⟩ rfl (fun e h => ?_)
 unfold slices_IndexFunc_api_Memory_api_Memory_responder_Accept_1 at hF
 refine Run.seq ?_
 refine Run.reg ?_
 refine op (OpS.as rfl rfl rfl ?_)
 refine RunL.nil ?_
 refine Run.slim [(0, v0), (1, .func (.func 40) #[] #[v1_0])] ⟨rfl, rfl, trivial⟩ ?_
 refine Run.seq ?_
 refine Run.seq ?_
 refine Run.reg ?_
 refine op (OpS.mv rfl rfl rfl ?_)
 refine op (OpS.len h Try.underlying27 rfl rfl rfl (V.at .z) ?_)
 refine op (OpS.mv rfl rfl rfl ?_)
 refine RunL.nil ?_
 refine Run.slim [(8, .int .i64 0), (7, .int .i64 (a0.length : Int)), (0, v0), (1, .func (.func 40) #[] #[v1_0])] ⟨rfl, rfl, rfl, rfl, trivial⟩ ?_
 refine Run.block ?_
 refine Run.slim [(0, v0), (1, .func (.func 40) #[] #[v1_0]), (7, .int .i64 (a0.length : Int)), (8, .int .i64 0)] ⟨rfl, rfl, rfl, rfl, trivial⟩ ?_
 refine Run.loopP (σ := Int) (fun s_ L_ w_ => L_ = [(0, v0), (1, .func (.func 40) #[] #[v1_0]), (7, .int .i64 (a0.length : Int)), (8, .int .i64 s_)] ∧ St e w_ [(false, .val (Rep.slice Memory_.rep) v0 a0), (false, .val Message_.rep v1_0c_0 a1_0_0), (false, .ptr (Rep.raw (α := Unit) (.func (.func 38) #[v1_0c_0] #[])) v1_0 ())] []) hF ⟨rfl, (h.facts (.atm .z (.atm (.s .z) (.atm (.s (.s .z)) .nil)))).picks .nil⟩ (fun k1 hk1 s1 _ w1 hI hF => ?_)
 obtain ⟨rfl, h1⟩ := hI
 refine Run.seq ?_
 refine Run.reg ?_
 refine op (OpS.bin rfl rfl rfl rfl rfl ?_)
 refine RunL.nil ?_
 refine Run.seq ?_
 refine Run.ite rfl hF (fun e1 hF => ?_) (fun e1 hF => ?_)
 ·
  refine Run.skip ?_
  refine Run.seq ?_
  refine Run.block ?_
  refine Run.seq ?_
  refine Run.reg ?_
  refine op (OpS.mv rfl rfl rfl ?_)
  refine op (OpS.as rfl rfl rfl ?_)
  refine RunL.nil ?_
  refine Run.slim [(5, .int .i64 s1), (0, v0), (1, .func (.func 40) #[] #[v1_0]), (7, .int .i64 (a0.length : Int)), (8, .int .i64 s1)] ⟨rfl, rfl, rfl, rfl, rfl, trivial⟩ ?_
  refine Run.seq ?_
  refine Run.reg ?_
  refine op (OpS.mv rfl rfl rfl ?_)
  refine op (OpS.mv rfl rfl rfl ?_)
  refine op (OpS.mv rfl rfl rfl ?_)
  obtain ⟨x1, e2, hF⟩ := bindP_use hF
  refine op (OpS.iptr h1 Try.underlying27 ty72 rfl rfl rfl rfl (V.at .z) e2 (fun u1 h2 => ?_))
  refine op (OpS.load h2 ty72 rfl rfl rfl .z (fun u2 h3 => ?_))
  obtain ⟨y1, e3, hF⟩ := bindP_use hF
  refine op (OpS.callPF (fl := []) (cl := [v1_0]) h3 Try.func40 rfl rfl rfl rfl rfl (vs := [u2]) rfl (responder_Accept_1_2_ok e3) (.cons (f := false) (V.at .z) (.cons (f := false) (V.at (.s (.s (.s .z)))) (.ptr (.s (.s (.s (.s .z)))) .nil))) ?_)
  rintro _ w2 _ _ _ ⟨rfl, rfl, rfl, rfl⟩ h4
  have h5 := h4 rfl rfl
  simp only [List.cons_append, List.nil_append] at h5
  refine RunL.nil ?_
  refine Run.slim [(16, .bool y1), (5, .int .i64 s1), (0, v0), (1, .func (.func 40) #[] #[v1_0]), (7, .int .i64 (a0.length : Int)), (8, .int .i64 s1)] ⟨rfl, rfl, rfl, rfl, rfl, rfl, trivial⟩ ?_
  refine Run.ite rfl hF (fun e4 hF => ?_) (fun e4 hF => ?_)
  ·
   refine Run.seq ?_
   refine Run.reg ?_
   refine op (OpS.mv rfl rfl rfl ?_)
   refine op (OpS.as rfl rfl rfl ?_)
   refine RunL.nil ?_
   refine Run.slim [(4, .int .i64 s1)] ⟨rfl, trivial⟩ ?_
   refine Run.retP rfl (.tmp rfl .nil) ?_
   cases hF
   exact Post.mk' ⟨rfl, rfl, rfl, rfl⟩ (h5.picks .nil) .nil
  ·
   refine Run.skip ?_
   refine Run.endBlock ?_
   refine Run.reg ?_
   refine op (OpS.bin rfl rfl rfl rfl rfl ?_)
   refine op (OpS.mv rfl rfl rfl ?_)
   refine RunL.nil ?_
   refine Run.slim [(8, .int .i64 (IntKind.i64.wrap (s1 + 1))), (0, v0), (1, .func (.func 40) #[] #[v1_0]), (7, .int .i64 (a0.length : Int))] ⟨rfl, rfl, rfl, rfl, trivial⟩ ?_
   refine Run.slim [(0, v0), (1, .func (.func 40) #[] #[v1_0]), (7, .int .i64 (a0.length : Int)), (8, .int .i64 (IntKind.i64.wrap (s1 + 1)))] ⟨rfl, rfl, rfl, rfl, trivial⟩ ?_
   exact hk1 ((IntKind.i64.wrap (s1 + 1))) _ _ ⟨rfl, (h5.facts (.atm (.s (.s .z)) (.atm (.s (.s (.s .z))) (.atm (.s (.s (.s (.s .z)))) .nil)))).picks .nil⟩ hF
 ·
  refine Run.exit rfl ?_
  refine Run.seq ?_
  refine Run.reg ?_
  refine op (OpS.as rfl rfl rfl ?_)
  refine RunL.nil ?_
  refine Run.slim [(4, .int .i64 (-1))] ⟨rfl, trivial⟩ ?_
  refine Run.retP rfl (.tmp rfl .nil) ?_
  cases hF
  exact Post.mk' ⟨rfl, rfl, rfl, rfl⟩ (h1.picks .nil) .nil
end Lift
