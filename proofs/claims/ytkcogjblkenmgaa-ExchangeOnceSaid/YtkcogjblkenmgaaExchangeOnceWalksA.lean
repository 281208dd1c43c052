/- Each Go function computes its plain function. Written by lift.py. -/
import Derived.Test.YtkcogjblkenmgaaFacts
set_option linter.unusedVariables false
set_option linter.unusedSimpArgs false
namespace Lift
open Go Go.Proofs
open RunL (op)
theorem exchange_New_ok {fuel : Nat} {a0 : Int} {y : Requester_ × Int} (hF : exchange_New fuel a0 = some y) {w : World} :
  Spec Try.prog 9 [.int .u8 a0].toArray w [] [] (fun v Γr Ωr Ωo => ∃ u0 : Value, v = .tuple #[u0, .int .i64 y.2] ∧ Γr = [(true, .val Requester_.rep u0 y.1)] ∧ Ωr = [] ∧ Ωo = []) := by
 refine Spec.of (L := [(0, .int .u8 a0)]) Try.func9 rfl ⟨rfl, trivial⟩ rfl (fun e h => ?_)
 unfold exchange_New at hF
 refine Run.seq ?_
 refine Run.reg ?_
 refine op (OpS.alloc h ti26 Requester_.zr rfl rfl (fun u1 w1 h1 => ?_))
 refine op (OpS.as rfl rfl rfl ?_)
 refine RunL.nil ?_
 refine Run.slim [(2, u1), (0, .int .u8 a0)] ⟨rfl, rfl, trivial⟩ ?_
 refine Run.seq ?_
 refine Run.seq ?_
 refine Run.reg ?_
 refine op (OpS.mv rfl rfl rfl ?_)
 refine op (OpS.bin rfl rfl rfl rfl rfl ?_)
 refine op (OpS.mv rfl rfl rfl ?_)
 refine RunL.join (σ := Bool) (fun s_ L_ w_ => L_ = [(0, .int .u8 a0), (2, u1), (9, .bool s_)] ∧ St e w_ [] [(true, .box 26 Requester_.rep u1 Requester_.z)]) hF (fun s1 _ w2 hI hF => ?_) (fun j1 hj1 hF => ?_)
 ·
  obtain ⟨rfl, h2⟩ := hI
  refine Run.ite rfl hF (fun e1 hF => ?_) (fun e1 hF => ?_)
  ·
   refine Run.seq ?_
   refine Run.reg ?_
   refine op (OpS.build (f := true) (x' := Requester_.z) h2 pl26 ti26 Requester_.zr rfl rfl rfl .nil (fun u2 h3 => ?_))
   refine op (OpS.storeB (f' := true) h3 .z PA.z Put.id ty26 rfl rfl rfl (V.at .z) (.inl rfl) (fun w3 h4 => ?_))
   refine op (OpS.as rfl rfl rfl ?_)
   refine RunL.nil ?_
   refine Run.slim [(3, .int .i64 13), (2, u1)] ⟨rfl, rfl, trivial⟩ ?_
   obtain ⟨u3, hu1, h5⟩ := res_box h4 .z ty26
   refine Run.retP rfl (.cell rfl hu1 (.tmp rfl .nil)) ?_
   cases hF
   exact Post.mk' ⟨u3, rfl, rfl, rfl, rfl⟩ (h5.picks .nil) (.val (V.at .z) .nil)
  ·
   refine Run.skip ?_
   refine Run.seq ?_
   refine Run.reg ?_
   refine op (OpS.mv rfl rfl rfl ?_)
   refine op (OpS.build (f := true) (x' := (⟨a0, 0, []⟩ : Requester_)) h2 pl26 ti26 Requester_.zr rfl rfl rfl (.cons rfl Requester_.f0 rfl V.int .nil) (fun u4 h6 => ?_))
   refine op (OpS.storeB (f' := true) h6 .z PA.z Put.id ty26 rfl rfl rfl (V.at .z) (.inl rfl) (fun w4 h7 => ?_))
   refine op (OpS.as rfl rfl rfl ?_)
   refine RunL.nil ?_
   refine Run.slim [(3, .int .i64 0), (2, u1)] ⟨rfl, rfl, trivial⟩ ?_
   obtain ⟨u5, hu2, h8⟩ := res_box h7 .z ty26
   refine Run.retP rfl (.cell rfl hu2 (.tmp rfl .nil)) ?_
   cases hF
   exact Post.mk' ⟨u5, rfl, rfl, rfl, rfl⟩ (h8.picks .nil) (.val (V.at .z) .nil)
 ·
  refine RunL.caseb hF (fun e2 hF => ?_) (fun e2 hF => ?_)
  ·
   refine op (OpS.pass rfl rfl rfl ?_)
   refine op (OpS.pass rfl rfl rfl ?_)
   refine op (OpS.pick rfl rfl rfl rfl ?_)
   refine RunL.nil ?_
   refine Run.slim [(9, .bool true), (2, u1), (0, .int .u8 a0)] ⟨rfl, rfl, rfl, trivial⟩ ?_
   refine Run.slim [(0, .int .u8 a0), (2, u1), (9, .bool true)] ⟨rfl, rfl, rfl, trivial⟩ ?_
   exact hj1 (true) _ _ ⟨rfl, (h1.facts .nil).picks (.cons .z .nil)⟩ hF
  ·
   refine op (OpS.mv rfl rfl rfl ?_)
   refine op (OpS.bin rfl rfl rfl rfl rfl ?_)
   refine op (OpS.pick rfl rfl rfl rfl ?_)
   refine RunL.nil ?_
   refine Run.slim [(9, .bool (decide (a0 > 119))), (2, u1), (0, .int .u8 a0)] ⟨rfl, rfl, rfl, trivial⟩ ?_
   refine Run.slim [(0, .int .u8 a0), (2, u1), (9, .bool (decide (a0 > 119)))] ⟨rfl, rfl, rfl, trivial⟩ ?_
   exact hj1 (decide (a0 > 119)) _ _ ⟨rfl, (h1.facts .nil).picks (.cons .z .nil)⟩ hF
theorem message_address_ok {fuel : Nat} {a0 : Int} {y : Bool} (hF : message_address fuel a0 = some y) {w : World} :
  Spec Try.prog 58 [.int .u8 a0].toArray w [] [] (fun v Γr Ωr Ωo => v = .bool y ∧ Γr = [] ∧ Ωr = [] ∧ Ωo = []) := by
 refine Spec.of (L := [(0, .int .u8 a0)]) Try.func58 rfl ⟨rfl, trivial⟩ rfl (fun e h => ?_)
 unfold message_address at hF
 refine Run.seq ?_
 refine Run.reg ?_
 refine op (OpS.as rfl rfl rfl ?_)
 refine RunL.nil ?_
 refine Run.slim [(0, .int .u8 a0)] ⟨rfl, trivial⟩ ?_
 refine Run.seq ?_
 refine Run.reg ?_
 refine op (OpS.mv rfl rfl rfl ?_)
 refine op (OpS.bin rfl rfl rfl rfl rfl ?_)
 refine op (OpS.mv rfl rfl rfl ?_)
 refine RunL.caseb hF (fun e1 hF => ?_) (fun e1 hF => ?_)
 ·
  refine op (OpS.mv rfl rfl rfl ?_)
  refine op (OpS.bin rfl rfl rfl rfl rfl ?_)
  refine op (OpS.pick rfl rfl rfl rfl ?_)
  refine op (OpS.as rfl rfl rfl ?_)
  obtain ⟨x1, e2, hF⟩ := letP_use hF
  refine RunL.nameb e2 ?_
  refine RunL.nil ?_
  refine Run.slim [(2, .bool x1)] ⟨rfl, trivial⟩ ?_
  refine Run.retP rfl (.tmp rfl .nil) ?_
  cases hF
  exact Post.mk' ⟨rfl, rfl, rfl, rfl⟩ (h.picks .nil) .nil
 ·
  refine op (OpS.pass rfl rfl rfl ?_)
  refine op (OpS.pass rfl rfl rfl ?_)
  refine op (OpS.pick rfl rfl rfl rfl ?_)
  refine op (OpS.as rfl rfl rfl ?_)
  refine RunL.nil ?_
  refine Run.slim [(2, .bool false)] ⟨rfl, trivial⟩ ?_
  refine Run.retP rfl (.tmp rfl .nil) ?_
  cases hF
  exact Post.mk' ⟨rfl, rfl, rfl, rfl⟩ (h.picks .nil) .nil
theorem message_unit_ok {fuel : Nat} {a0 : Int} {y : Bool} (hF : message_unit fuel a0 = some y) {w : World} :
  Spec Try.prog 59 [.int .i64 a0].toArray w [] [] (fun v Γr Ωr Ωo => v = .bool y ∧ Γr = [] ∧ Ωr = [] ∧ Ωo = []) := by
 refine Spec.of (L := [(0, .int .i64 a0)]) Try.func59 rfl ⟨rfl, trivial⟩ rfl (fun e h => ?_)
 unfold message_unit at hF
 refine Run.seq ?_
 refine Run.reg ?_
 refine op (OpS.as rfl rfl rfl ?_)
 refine RunL.nil ?_
 refine Run.slim [(0, .int .i64 a0)] ⟨rfl, trivial⟩ ?_
 refine Run.seq ?_
 refine Run.reg ?_
 refine op (OpS.mv rfl rfl rfl ?_)
 refine op (OpS.bin rfl rfl rfl rfl rfl ?_)
 refine op (OpS.mv rfl rfl rfl ?_)
 refine RunL.caseb hF (fun e1 hF => ?_) (fun e1 hF => ?_)
 ·
  refine op (OpS.mv rfl rfl rfl ?_)
  refine op (OpS.bin rfl rfl rfl rfl rfl ?_)
  refine op (OpS.pick rfl rfl rfl rfl ?_)
  refine op (OpS.as rfl rfl rfl ?_)
  obtain ⟨x1, e2, hF⟩ := letP_use hF
  refine RunL.nameb e2 ?_
  refine RunL.nil ?_
  refine Run.slim [(2, .bool x1)] ⟨rfl, trivial⟩ ?_
  refine Run.retP rfl (.tmp rfl .nil) ?_
  cases hF
  exact Post.mk' ⟨rfl, rfl, rfl, rfl⟩ (h.picks .nil) .nil
 ·
  refine op (OpS.pass rfl rfl rfl ?_)
  refine op (OpS.pass rfl rfl rfl ?_)
  refine op (OpS.pick rfl rfl rfl rfl ?_)
  refine op (OpS.as rfl rfl rfl ?_)
  refine RunL.nil ?_
  refine Run.slim [(2, .bool false)] ⟨rfl, trivial⟩ ?_
  refine Run.retP rfl (.tmp rfl .nil) ?_
  cases hF
  exact Post.mk' ⟨rfl, rfl, rfl, rfl⟩ (h.picks .nil) .nil
theorem message_request_ok {fuel : Nat} {a0 : Message_} {y : Bool} (hF : message_request fuel a0 = some y) {w : World} {v0 : Value} :
  Spec Try.prog 50 [v0].toArray w [(false, .val Message_.rep v0 a0)] [] (fun v Γr Ωr Ωo => v = .bool y ∧ Γr = [] ∧ Ωr = [] ∧ Ωo = []) := by
 refine Spec.of (L := [(0, v0)]) Try.func50 rfl ⟨rfl, trivial⟩ rfl (fun e h => ?_)
 unfold message_request at hF
 refine Run.seq ?_
 refine Run.reg ?_
 refine op (OpS.boxF h rfl rfl rfl (V.at .z) (fun u1 w1 h1 => ?_))
 refine op (OpS.as rfl rfl rfl ?_)
 refine RunL.nil ?_
 refine Run.slim [(1, u1)] ⟨rfl, trivial⟩ ?_
 refine Run.seq ?_
 refine Run.reg ?_
 refine op (OpS.fbox (o3 := 2) h1 .z PA.z fa51_2 rfl rfl rfl rfl ?_)
 refine op (OpS.loadBi h1 .z PA.a (Get.fld Message_.f2) ty5 rfl rfl rfl ?_)
 refine op (OpS.rem rfl rfl rfl rfl (by decide) ?_)
 refine op (OpS.bin rfl rfl rfl rfl rfl ?_)
 refine op (OpS.as rfl rfl rfl ?_)
 obtain ⟨x1, e1, hF⟩ := letP_use hF
 refine RunL.nameb e1 ?_
 refine RunL.nil ?_
 refine Run.slim [(2, .bool x1)] ⟨rfl, trivial⟩ ?_
 refine Run.retP rfl (.tmp rfl .nil) ?_
 cases hF
 exact Post.mk' ⟨rfl, rfl, rfl, rfl⟩ (h1.picks .nil) .nil
theorem message_Valid_ok {fuel : Nat} {a0 : Message_} {y : Bool} (hF : message_Valid fuel a0 = some y) {w : World} {v0 : Value} :
  Spec Try.prog 49 [v0].toArray w [(false, .val Message_.rep v0 a0)] [] (fun v Γr Ωr Ωo => v = .bool y ∧ Γr = [] ∧ Ωr = [] ∧ Ωo = []) := by
 refine Spec.of (L := [(0, v0)]) Try.func49 rfl ⟨rfl, trivial⟩ rfl (fun e h => ?_)
 unfold message_Valid at hF
 refine Run.seq ?_
 refine Run.reg ?_
 refine op (OpS.boxF h rfl rfl rfl (V.at .z) (fun u1 w1 h1 => ?_))
 refine op (OpS.as rfl rfl rfl ?_)
 refine RunL.nil ?_
 refine Run.slim [(1, u1)] ⟨rfl, trivial⟩ ?_
 refine Run.seq ?_
 refine Run.seq ?_
 refine Run.reg ?_
 refine op (OpS.fbox (o3 := 0) h1 .z PA.z fa51_0 rfl rfl rfl rfl ?_)
 refine op (OpS.loadBi h1 .z PA.a (Get.fld Message_.f0) ty5 rfl rfl rfl ?_)
 obtain ⟨y1, e1, hF⟩ := bindP_use hF
 refine op (OpS.callP h1 Try.func58 rfl rfl rfl rfl (vs := [.int .u8 a0.To]) rfl (message_address_ok e1) .nil ?_)
 rintro _ w2 _ _ _ ⟨rfl, rfl, rfl, rfl⟩ h2
 have h3 := h2 rfl rfl
 simp only [List.cons_append, List.nil_append] at h3
 refine op (OpS.not rfl rfl rfl ?_)
 refine op (OpS.mv rfl rfl rfl ?_)
 refine RunL.join (σ := Bool) (fun s_ L_ w_ => L_ = [(1, u1), (29, .bool s_)] ∧ St e w_ [] [(false, .box 51 Message_.rep u1 a0)]) hF (fun s1 _ w3 hI hF => ?_) (fun j1 hj1 hF => ?_)
 ·
  obtain ⟨rfl, h4⟩ := hI
  refine Run.ite rfl hF (fun e2 hF => ?_) (fun e2 hF => ?_)
  ·
   refine Run.seq ?_
   refine Run.reg ?_
   refine op (OpS.as rfl rfl rfl ?_)
   refine RunL.nil ?_
   refine Run.slim [(2, .bool false)] ⟨rfl, trivial⟩ ?_
   refine Run.retP rfl (.tmp rfl .nil) ?_
   cases hF
   exact Post.mk' ⟨rfl, rfl, rfl, rfl⟩ (h4.picks .nil) .nil
  ·
   refine Run.skip ?_
   refine Run.seq ?_
   refine Run.reg ?_
   refine op (OpS.fbox (o3 := 6) h4 .z PA.z fa51_6 rfl rfl rfl rfl ?_)
   refine op (OpS.loadBi h4 .z PA.a (Get.fld Message_.f6) ty3 rfl rfl rfl ?_)
   refine op (OpS.bin rfl rfl rfl rfl rfl ?_)
   refine op (OpS.mv rfl rfl rfl ?_)
   refine RunL.caseb hF (fun e3 hF => ?_) (fun e3 hF => ?_)
   ·
    refine op (OpS.fbox (o3 := 6) h4 .z PA.z fa51_6 rfl rfl rfl rfl ?_)
    refine op (OpS.loadBi h4 .z PA.a (Get.fld Message_.f6) ty3 rfl rfl rfl ?_)
    refine op (OpS.bin rfl rfl rfl rfl rfl ?_)
    refine op (OpS.pick rfl rfl rfl rfl ?_)
    refine op (OpS.mv rfl rfl rfl ?_)
    refine RunL.caseb hF (fun e4 hF => ?_) (fun e4 hF => ?_)
    ·
     refine op (OpS.fbox (o3 := 8) h4 .z PA.z fa51_8 rfl rfl rfl rfl ?_)
     refine op (OpS.loadB h4 .z PA.a (Get.fld Message_.f8) ty22 rfl rfl rfl (fun u2 h5 => ?_))
     refine op (OpS.len h5 Try.underlying22 rfl rfl rfl (V.at .z) ?_)
     refine op (OpS.bin rfl rfl rfl rfl rfl ?_)
     refine op (OpS.pick rfl rfl rfl rfl ?_)
     refine op (OpS.mv rfl rfl rfl ?_)
     refine RunL.caseb hF (fun e5 hF => ?_) (fun e5 hF => ?_)
     ·
      refine op (OpS.loadB h5 .z PA.z Get.id ty51 rfl rfl rfl (fun u3 h6 => ?_))
      obtain ⟨y2, e6, hF⟩ := bindP_use hF
      refine op (OpS.callP h6 Try.func50 rfl rfl rfl rfl (vs := [u3]) rfl (message_request_ok e6) (.cons (f := false) (V.at .z) .nil) ?_)
      rintro _ w4 _ _ _ ⟨rfl, rfl, rfl, rfl⟩ h7
      have h8 := h7 rfl rfl
      simp only [List.cons_append, List.nil_append] at h8
      refine op (OpS.not rfl rfl rfl ?_)
      refine op (OpS.mv rfl rfl rfl ?_)
      refine RunL.caseb hF (fun e7 hF => ?_) (fun e7 hF => ?_)
      ·
       refine op (OpS.pass rfl rfl rfl ?_)
       refine op (OpS.pass rfl rfl rfl ?_)
       refine op (OpS.pass rfl rfl rfl ?_)
       refine op (OpS.pick rfl rfl rfl rfl ?_)
       refine op (OpS.pick rfl rfl rfl rfl ?_)
       refine op (OpS.as rfl rfl rfl ?_)
       refine RunL.nil ?_
       refine Run.slim [(2, .bool true)] ⟨rfl, trivial⟩ ?_
       refine Run.retP rfl (.tmp rfl .nil) ?_
       cases hF
       exact Post.mk' ⟨rfl, rfl, rfl, rfl⟩ (h8.picks .nil) .nil
      ·
       refine op (OpS.fbox (o3 := 7) h8 .z PA.z fa51_7 rfl rfl rfl rfl ?_)
       refine op (OpS.loadBi h8 .z PA.a (Get.fld Message_.f7) ty5 rfl rfl rfl ?_)
       refine op (OpS.bin rfl rfl rfl rfl rfl ?_)
       refine op (OpS.pick rfl rfl rfl rfl ?_)
       refine op (OpS.pick rfl rfl rfl rfl ?_)
       refine op (OpS.as rfl rfl rfl ?_)
       obtain ⟨x1, e8, hF⟩ := letP_use hF
       refine RunL.nameb e8 ?_
       refine RunL.nil ?_
       refine Run.slim [(2, .bool x1)] ⟨rfl, trivial⟩ ?_
       refine Run.retP rfl (.tmp rfl .nil) ?_
       cases hF
       exact Post.mk' ⟨rfl, rfl, rfl, rfl⟩ (h8.picks .nil) .nil
     ·
      refine op (OpS.pass rfl rfl rfl ?_)
      refine op (OpS.pass rfl rfl rfl ?_)
      refine op (OpS.pass rfl rfl rfl ?_)
      refine op (OpS.pass rfl rfl rfl ?_)
      refine op (OpS.pass rfl rfl rfl ?_)
      refine op (OpS.pass rfl rfl rfl ?_)
      refine op (OpS.pass rfl rfl rfl ?_)
      refine op (OpS.pass rfl rfl rfl ?_)
      refine op (OpS.pick rfl rfl rfl rfl ?_)
      refine op (OpS.as rfl rfl rfl ?_)
      refine RunL.nil ?_
      refine Run.slim [(2, .bool false)] ⟨rfl, trivial⟩ ?_
      refine Run.retP rfl (.tmp rfl .nil) ?_
      cases hF
      exact Post.mk' ⟨rfl, rfl, rfl, rfl⟩ (h5.picks .nil) .nil
    ·
     refine op (OpS.pass rfl rfl rfl ?_)
     refine op (OpS.pass rfl rfl rfl ?_)
     refine op (OpS.pass rfl rfl rfl ?_)
     refine op (OpS.pass rfl rfl rfl ?_)
     refine op (OpS.pick rfl rfl rfl rfl ?_)
     refine op (OpS.mv rfl rfl rfl ?_)
     refine op (OpS.pass rfl rfl rfl ?_)
     refine op (OpS.pass rfl rfl rfl ?_)
     refine op (OpS.pass rfl rfl rfl ?_)
     refine op (OpS.pass rfl rfl rfl ?_)
     refine op (OpS.pass rfl rfl rfl ?_)
     refine op (OpS.pass rfl rfl rfl ?_)
     refine op (OpS.pass rfl rfl rfl ?_)
     refine op (OpS.pass rfl rfl rfl ?_)
     refine op (OpS.pick rfl rfl rfl rfl ?_)
     refine op (OpS.as rfl rfl rfl ?_)
     refine RunL.nil ?_
     refine Run.slim [(2, .bool false)] ⟨rfl, trivial⟩ ?_
     refine Run.retP rfl (.tmp rfl .nil) ?_
     cases hF
     exact Post.mk' ⟨rfl, rfl, rfl, rfl⟩ (h4.picks .nil) .nil
   ·
    refine op (OpS.pass rfl rfl rfl ?_)
    refine op (OpS.pass rfl rfl rfl ?_)
    refine op (OpS.pass rfl rfl rfl ?_)
    refine op (OpS.pick rfl rfl rfl rfl ?_)
    refine op (OpS.mv rfl rfl rfl ?_)
    refine op (OpS.pass rfl rfl rfl ?_)
    refine op (OpS.pass rfl rfl rfl ?_)
    refine op (OpS.pass rfl rfl rfl ?_)
    refine op (OpS.pass rfl rfl rfl ?_)
    refine op (OpS.pick rfl rfl rfl rfl ?_)
    refine op (OpS.mv rfl rfl rfl ?_)
    refine op (OpS.pass rfl rfl rfl ?_)
    refine op (OpS.pass rfl rfl rfl ?_)
    refine op (OpS.pass rfl rfl rfl ?_)
    refine op (OpS.pass rfl rfl rfl ?_)
    refine op (OpS.pass rfl rfl rfl ?_)
    refine op (OpS.pass rfl rfl rfl ?_)
    refine op (OpS.pass rfl rfl rfl ?_)
    refine op (OpS.pass rfl rfl rfl ?_)
    refine op (OpS.pick rfl rfl rfl rfl ?_)
    refine op (OpS.as rfl rfl rfl ?_)
    refine RunL.nil ?_
    refine Run.slim [(2, .bool false)] ⟨rfl, trivial⟩ ?_
    refine Run.retP rfl (.tmp rfl .nil) ?_
    cases hF
    exact Post.mk' ⟨rfl, rfl, rfl, rfl⟩ (h4.picks .nil) .nil
 ·
  refine RunL.caseb hF (fun e9 hF => ?_) (fun e9 hF => ?_)
  ·
   refine op (OpS.pass rfl rfl rfl ?_)
   refine op (OpS.pass rfl rfl rfl ?_)
   refine op (OpS.pass rfl rfl rfl ?_)
   refine op (OpS.pass rfl rfl rfl ?_)
   refine op (OpS.pick rfl rfl rfl rfl ?_)
   refine op (OpS.mv rfl rfl rfl ?_)
   refine op (OpS.pass rfl rfl rfl ?_)
   refine op (OpS.pass rfl rfl rfl ?_)
   refine op (OpS.pass rfl rfl rfl ?_)
   refine op (OpS.pick rfl rfl rfl rfl ?_)
   refine op (OpS.mv rfl rfl rfl ?_)
   refine op (OpS.pass rfl rfl rfl ?_)
   refine op (OpS.pass rfl rfl rfl ?_)
   refine op (OpS.pass rfl rfl rfl ?_)
   refine op (OpS.pass rfl rfl rfl ?_)
   refine op (OpS.pick rfl rfl rfl rfl ?_)
   refine op (OpS.mv rfl rfl rfl ?_)
   refine op (OpS.pass rfl rfl rfl ?_)
   refine op (OpS.pass rfl rfl rfl ?_)
   refine op (OpS.pass rfl rfl rfl ?_)
   refine op (OpS.pass rfl rfl rfl ?_)
   refine op (OpS.pick rfl rfl rfl rfl ?_)
   refine RunL.nil ?_
   refine Run.slim [(29, .bool true), (1, u1)] ⟨rfl, rfl, trivial⟩ ?_
   refine Run.slim [(1, u1), (29, .bool true)] ⟨rfl, rfl, trivial⟩ ?_
   exact hj1 (true) _ _ ⟨rfl, (h3.facts .nil).picks (.cons .z .nil)⟩ hF
  ·
   refine op (OpS.fbox (o3 := 1) h3 .z PA.z fa51_1 rfl rfl rfl rfl ?_)
   refine op (OpS.loadBi h3 .z PA.a (Get.fld Message_.f1) ty5 rfl rfl rfl ?_)
   obtain ⟨y3, e10, hF⟩ := bindP_use hF
   refine op (OpS.callP h3 Try.func58 rfl rfl rfl rfl (vs := [.int .u8 a0.From]) rfl (message_address_ok e10) .nil ?_)
   rintro _ w5 _ _ _ ⟨rfl, rfl, rfl, rfl⟩ h9
   have h10 := h9 rfl rfl
   simp only [List.cons_append, List.nil_append] at h10
   refine op (OpS.not rfl rfl rfl ?_)
   refine op (OpS.pick rfl rfl rfl rfl ?_)
   refine op (OpS.mv rfl rfl rfl ?_)
   refine RunL.caseb hF (fun e11 hF => ?_) (fun e11 hF => ?_)
   ·
    refine op (OpS.pass rfl rfl rfl ?_)
    refine op (OpS.pass rfl rfl rfl ?_)
    refine op (OpS.pass rfl rfl rfl ?_)
    refine op (OpS.pick rfl rfl rfl rfl ?_)
    refine op (OpS.mv rfl rfl rfl ?_)
    refine op (OpS.pass rfl rfl rfl ?_)
    refine op (OpS.pass rfl rfl rfl ?_)
    refine op (OpS.pass rfl rfl rfl ?_)
    refine op (OpS.pass rfl rfl rfl ?_)
    refine op (OpS.pick rfl rfl rfl rfl ?_)
    refine op (OpS.mv rfl rfl rfl ?_)
    refine op (OpS.pass rfl rfl rfl ?_)
    refine op (OpS.pass rfl rfl rfl ?_)
    refine op (OpS.pass rfl rfl rfl ?_)
    refine op (OpS.pass rfl rfl rfl ?_)
    refine op (OpS.pick rfl rfl rfl rfl ?_)
    refine RunL.nil ?_
    refine Run.slim [(29, .bool true), (1, u1)] ⟨rfl, rfl, trivial⟩ ?_
    refine Run.slim [(1, u1), (29, .bool true)] ⟨rfl, rfl, trivial⟩ ?_
    exact hj1 (true) _ _ ⟨rfl, (h10.facts .nil).picks (.cons .z .nil)⟩ hF
   ·
    refine op (OpS.fbox (o3 := 2) h10 .z PA.z fa51_2 rfl rfl rfl rfl ?_)
    refine op (OpS.loadBi h10 .z PA.a (Get.fld Message_.f2) ty5 rfl rfl rfl ?_)
    refine op (OpS.bin rfl rfl rfl rfl rfl ?_)
    refine op (OpS.pick rfl rfl rfl rfl ?_)
    refine op (OpS.mv rfl rfl rfl ?_)
    refine RunL.caseb hF (fun e12 hF => ?_) (fun e12 hF => ?_)
    ·
     refine op (OpS.pass rfl rfl rfl ?_)
     refine op (OpS.pass rfl rfl rfl ?_)
     refine op (OpS.pass rfl rfl rfl ?_)
     refine op (OpS.pass rfl rfl rfl ?_)
     refine op (OpS.pick rfl rfl rfl rfl ?_)
     refine op (OpS.mv rfl rfl rfl ?_)
     refine op (OpS.pass rfl rfl rfl ?_)
     refine op (OpS.pass rfl rfl rfl ?_)
     refine op (OpS.pass rfl rfl rfl ?_)
     refine op (OpS.pass rfl rfl rfl ?_)
     refine op (OpS.pick rfl rfl rfl rfl ?_)
     refine RunL.nil ?_
     refine Run.slim [(29, .bool true), (1, u1)] ⟨rfl, rfl, trivial⟩ ?_
     refine Run.slim [(1, u1), (29, .bool true)] ⟨rfl, rfl, trivial⟩ ?_
     exact hj1 (true) _ _ ⟨rfl, (h10.facts .nil).picks (.cons .z .nil)⟩ hF
    ·
     refine op (OpS.fbox (o3 := 4) h10 .z PA.z fa51_4 rfl rfl rfl rfl ?_)
     refine op (OpS.loadBi h10 .z PA.a (Get.fld Message_.f4) ty3 rfl rfl rfl ?_)
     obtain ⟨y4, e13, hF⟩ := bindP_use hF
     refine op (OpS.callP h10 Try.func59 rfl rfl rfl rfl (vs := [.int .i64 a0.ToUnit]) rfl (message_unit_ok e13) .nil ?_)
     rintro _ w6 _ _ _ ⟨rfl, rfl, rfl, rfl⟩ h11
     have h12 := h11 rfl rfl
     simp only [List.cons_append, List.nil_append] at h12
     refine op (OpS.not rfl rfl rfl ?_)
     refine op (OpS.pick rfl rfl rfl rfl ?_)
     refine op (OpS.mv rfl rfl rfl ?_)
     refine RunL.caseb hF (fun e14 hF => ?_) (fun e14 hF => ?_)
     ·
      refine op (OpS.pass rfl rfl rfl ?_)
      refine op (OpS.pass rfl rfl rfl ?_)
      refine op (OpS.pass rfl rfl rfl ?_)
      refine op (OpS.pass rfl rfl rfl ?_)
      refine op (OpS.pick rfl rfl rfl rfl ?_)
      refine RunL.nil ?_
      refine Run.slim [(29, .bool true), (1, u1)] ⟨rfl, rfl, trivial⟩ ?_
      refine Run.slim [(1, u1), (29, .bool true)] ⟨rfl, rfl, trivial⟩ ?_
      exact hj1 (true) _ _ ⟨rfl, (h12.facts .nil).picks (.cons .z .nil)⟩ hF
     ·
      refine op (OpS.fbox (o3 := 5) h12 .z PA.z fa51_5 rfl rfl rfl rfl ?_)
      refine op (OpS.loadBi h12 .z PA.a (Get.fld Message_.f5) ty3 rfl rfl rfl ?_)
      obtain ⟨y5, e15, hF⟩ := bindP_use hF
      refine op (OpS.callP h12 Try.func59 rfl rfl rfl rfl (vs := [.int .i64 a0.FromUnit]) rfl (message_unit_ok e15) .nil ?_)
      rintro _ w7 _ _ _ ⟨rfl, rfl, rfl, rfl⟩ h13
      have h14 := h13 rfl rfl
      simp only [List.cons_append, List.nil_append] at h14
      refine op (OpS.not rfl rfl rfl ?_)
      refine op (OpS.pick rfl rfl rfl rfl ?_)
      refine RunL.nil ?_
      refine Run.slim [(29, .bool (!y5)), (1, u1)] ⟨rfl, rfl, trivial⟩ ?_
      refine Run.slim [(1, u1), (29, .bool (!y5))] ⟨rfl, rfl, trivial⟩ ?_
      exact hj1 (!y5) _ _ ⟨rfl, (h14.facts .nil).picks (.cons .z .nil)⟩ hF
theorem slices_Clone_byte_byte_ok {fuel : Nat} {a0 : List Int} {y : (List Int)} (hF : slices_Clone_byte_byte fuel a0 = some y) {w : World} {v0 : Value} :
  Spec Try.prog 51 [v0].toArray w [(false, .val (Rep.slice (Rep.int .u8)) v0 a0)] [] (fun v Γr Ωr Ωo => ∃ u0 : Value, v = u0 ∧ Γr = [] ∧ Ωr = [(true, .slice 5 (Rep.int .u8) u0 y)] ∧ Ωo = []) := by
 refine Spec.of (L := [(0, v0)]) Try.func51 rfl ⟨rfl, trivial⟩ rfl (fun e h => ?_)
 unfold slices_Clone_byte_byte at hF
 refine Run.seq ?_
 refine Run.reg ?_
 refine op (OpS.as rfl rfl rfl ?_)
 refine RunL.nil ?_
 refine Run.slim [(0, v0)] ⟨rfl, trivial⟩ ?_
 refine Run.seq ?_
 refine Run.seq ?_
 refine Run.reg ?_
 refine op (OpS.mv rfl rfl rfl ?_)
 refine op (OpS.snil h Try.underlying22 rfl rfl rfl (V.at .z) (fun b1 hb1 => ?_))
 refine RunL.nil ?_
 refine Run.slim [(4, .bool b1), (0, v0)] ⟨rfl, rfl, trivial⟩ ?_
 cases b1
 ·
  refine Run.condF rfl ?_
  refine Run.skip ?_
  refine Run.seq ?_
  refine Run.reg ?_
  refine op (OpS.litO (r := (Rep.int .u8)) (f := true) h Try.underlying22 ti5 rfl rfl rfl rfl rfl .nil rfl rfl (fun u1 w1 h1 => ?_))
  refine op (OpS.mv rfl rfl rfl ?_)
  obtain ⟨x1, e1, hF⟩ := bindP_use hF
  refine op (OpS.app (f' := false) h1 .z Try.underlying22 ti5 rfl rfl rfl rfl rfl rfl rfl (V.at .z) (.inr Pure.int) e1 (fun u2 w2 h2 => ?_))
  refine op (OpS.as rfl rfl rfl ?_)
  refine RunL.nil ?_
  refine Run.slim [(2, u2)] ⟨rfl, trivial⟩ ?_
  refine Run.retP rfl (.tmp rfl .nil) ?_
  cases hF
  exact Post.mk' ⟨u2, rfl, rfl, rfl, rfl⟩ (h2.picks (.cons .z .nil)) .nil
 ·
  obtain rfl := hb1 rfl
  have hF : some ([] : List Int) = some y := by simpa [bindP, app] using hF
  refine Run.condT rfl ?_
  refine Run.seq ?_
  refine Run.reg ?_
  refine op (OpS.as rfl rfl rfl ?_)
  refine RunL.nil ?_
  refine Run.slim [(2, .slice none 0 0)] ⟨rfl, trivial⟩ ?_
  have h3 := St.nil 5 (Rep.int .u8) h
  refine Run.retP rfl (.tmp rfl .nil) ?_
  cases hF
  exact Post.mk' ⟨(.slice none 0 0), rfl, rfl, rfl, rfl⟩ (h3.picks (.cons .z .nil)) .nil
theorem checksum_Sum8_ok {fuel : Nat} {a0 : List Int} {y : Int} (hF : checksum_Sum8 fuel a0 = some y) {w : World} {v0 : Value} :
  Spec Try.prog 61 [v0].toArray w [(false, .val (Rep.slice (Rep.int .u8)) v0 a0)] [] (fun v Γr Ωr Ωo => v = .int .u8 y ∧ Γr = [] ∧ Ωr = [] ∧ Ωo = []) := by
 refine Spec.of (L := [(0, v0)]) Try.func61 rfl ⟨rfl, trivial⟩ rfl (fun e h => ?_)
 unfold checksum_Sum8 at hF
 refine Run.seq ?_
 refine Run.reg ?_
 refine op (OpS.as rfl rfl rfl ?_)
 refine RunL.nil ?_
 refine Run.slim [(0, v0)] ⟨rfl, trivial⟩ ?_
 refine Run.seq ?_
 refine Run.reg ?_
 refine op (OpS.as rfl rfl rfl ?_)
 refine RunL.nil ?_
 refine Run.seq ?_
 refine Run.seq ?_
 refine Run.reg ?_
 refine op (OpS.mv rfl rfl rfl ?_)
 refine op (OpS.len h Try.underlying22 rfl rfl rfl (V.at .z) ?_)
 refine op (OpS.mv rfl rfl rfl ?_)
 refine RunL.nil ?_
 refine Run.slim [(8, .int .i64 0), (7, .int .i64 (a0.length : Int)), (6, v0), (3, .int .u8 0)] ⟨rfl, rfl, rfl, rfl, trivial⟩ ?_
 refine Run.block ?_
 refine Run.slim [(3, .int .u8 0), (6, v0), (7, .int .i64 (a0.length : Int)), (8, .int .i64 0)] ⟨rfl, rfl, rfl, rfl, trivial⟩ ?_
 refine Run.loopP (σ := (Int × Int)) (fun s_ L_ w_ => L_ = [(3, .int .u8 s_.1), (6, v0), (7, .int .i64 (a0.length : Int)), (8, .int .i64 s_.2)] ∧ St e w_ [(false, .val (Rep.slice (Rep.int .u8)) v0 a0)] []) hF ⟨rfl, (h.facts (.atm .z .nil)).picks .nil⟩ (fun k1 hk1 s1 _ w1 hI hF => ?_)
 obtain ⟨rfl, h1⟩ := hI
 refine Run.seq ?_
 refine Run.reg ?_
 refine op (OpS.bin rfl rfl rfl rfl rfl ?_)
 refine RunL.nil ?_
 refine Run.seq ?_
 refine Run.ite rfl hF (fun e1 hF => ?_) (fun e1 hF => ?_)
 ·
  refine Run.skip ?_
  refine Run.seq ?_
  refine Run.block ?_
  refine Run.seq ?_
  refine Run.reg ?_
  obtain ⟨x1, e2, hF⟩ := bindP_use hF
  refine op (OpS.iptr h1 Try.underlying22 ty5 rfl rfl rfl rfl (V.at .z) e2 (fun u1 h2 => ?_))
  refine op (OpS.loadi h2 ty5 rfl rfl rfl .z ?_)
  refine op (OpS.as rfl rfl rfl ?_)
  refine RunL.nil ?_
  refine Run.slim [(5, .int .u8 x1), (3, .int .u8 s1.1), (6, v0), (7, .int .i64 (a0.length : Int)), (8, .int .i64 s1.2)] ⟨rfl, rfl, rfl, rfl, rfl, trivial⟩ ?_
  refine Run.reg ?_
  refine op (OpS.mv rfl rfl rfl ?_)
  refine op (OpS.mv rfl rfl rfl ?_)
  refine op (OpS.bin rfl rfl rfl rfl rfl ?_)
  refine op (OpS.as rfl rfl rfl ?_)
  obtain ⟨x2, e3, hF⟩ := letP_use hF
  refine RunL.name e3 ?_
  refine RunL.nil ?_
  refine Run.slim [(3, .int .u8 x2), (6, v0), (7, .int .i64 (a0.length : Int)), (8, .int .i64 s1.2)] ⟨rfl, rfl, rfl, rfl, trivial⟩ ?_
  refine Run.endBlock ?_
  refine Run.reg ?_
  refine op (OpS.bin rfl rfl rfl rfl rfl ?_)
  refine op (OpS.mv rfl rfl rfl ?_)
  refine RunL.nil ?_
  refine Run.slim [(8, .int .i64 (IntKind.i64.wrap (s1.2 + 1))), (3, .int .u8 x2), (6, v0), (7, .int .i64 (a0.length : Int))] ⟨rfl, rfl, rfl, rfl, trivial⟩ ?_
  refine Run.slim [(3, .int .u8 x2), (6, v0), (7, .int .i64 (a0.length : Int)), (8, .int .i64 (IntKind.i64.wrap (s1.2 + 1)))] ⟨rfl, rfl, rfl, rfl, trivial⟩ ?_
  exact hk1 (x2, (IntKind.i64.wrap (s1.2 + 1))) _ _ ⟨rfl, (h2.facts (.atm (.s .z) .nil)).picks .nil⟩ hF
 ·
  refine Run.exit rfl ?_
  refine Run.seq ?_
  refine Run.reg ?_
  refine op (OpS.mv rfl rfl rfl ?_)
  refine op (OpS.neg rfl rfl rfl ?_)
  refine op (OpS.as rfl rfl rfl ?_)
  obtain ⟨x3, e4, hF⟩ := letP_use hF
  refine RunL.name e4 ?_
  refine RunL.nil ?_
  refine Run.slim [(2, .int .u8 x3)] ⟨rfl, trivial⟩ ?_
  refine Run.retP rfl (.tmp rfl .nil) ?_
  cases hF
  exact Post.mk' ⟨rfl, rfl, rfl, rfl⟩ (h1.picks .nil) .nil
theorem checksum_Seal8_ok {fuel : Nat} {a0 : List Int} {y : (List Int)} (hF : checksum_Seal8 fuel a0 = some y) {w : World} {v0 : Value} :
  Spec Try.prog 60 [v0].toArray w [(false, .val (Rep.slice (Rep.int .u8)) v0 a0)] [] (fun v Γr Ωr Ωo => ∃ u0 : Value, v = u0 ∧ Γr = [] ∧ Ωr = [(true, .slice 5 (Rep.int .u8) u0 y)] ∧ Ωo = []) := by
 refine Spec.of (L := [(0, v0)]) Try.func60 rfl ⟨rfl, trivial⟩ rfl (fun e h => ?_)
 unfold checksum_Seal8 at hF
 refine Run.seq ?_
 refine Run.reg ?_
 refine op (OpS.as rfl rfl rfl ?_)
 refine RunL.nil ?_
 refine Run.slim [(0, v0)] ⟨rfl, trivial⟩ ?_
 refine Run.seq ?_
 refine Run.reg ?_
 refine op (OpS.mv rfl rfl rfl ?_)
 obtain ⟨y1, e1, hF⟩ := bindP_use hF
 refine op (OpS.callP h Try.func51 rfl rfl rfl rfl (vs := [v0]) rfl (slices_Clone_byte_byte_ok e1) (.cons (f := false) (V.at .z) .nil) ?_)
 rintro u1 w1 _ _ _ ⟨_, rfl, rfl, rfl, rfl⟩ h1
 have h2 := h1 rfl rfl
 simp only [List.cons_append, List.nil_append] at h2
 refine op (OpS.mv rfl rfl rfl ?_)
 obtain ⟨y2, e2, hF⟩ := bindP_use hF
 refine op (OpS.callP h2 Try.func61 rfl rfl rfl rfl (vs := [v0]) rfl (checksum_Sum8_ok e2) (.cons (f := false) (V.at .z) .nil) ?_)
 rintro _ w2 _ _ _ ⟨rfl, rfl, rfl, rfl⟩ h3
 have h4 := h3 rfl rfl
 simp only [List.cons_append, List.nil_append] at h4
 refine op (OpS.lit (r := (Rep.int .u8)) (f := true) h4 Try.underlying22 ti5 rfl rfl rfl rfl rfl (.cons rfl V.int .nil) rfl rfl (fun u2 w3 h5 => ?_))
 obtain ⟨x1, e3, hF⟩ := bindP_use hF
 refine op (OpS.app (f' := true) h5 .z Try.underlying22 ti5 rfl rfl rfl rfl rfl rfl rfl (V.at .z) (.inr Pure.int) e3 (fun u3 w4 h6 => ?_))
 refine op (OpS.as rfl rfl rfl ?_)
 refine RunL.nil ?_
 refine Run.slim [(2, u3)] ⟨rfl, trivial⟩ ?_
 refine Run.retP rfl (.tmp rfl .nil) ?_
 cases hF
 exact Post.mk' ⟨u3, rfl, rfl, rfl, rfl⟩ (h6.picks (.cons .z .nil)) .nil
theorem message_encode_ok {fuel : Nat} {a0 : Message_} {y : (List Int)} (hF : message_encode fuel a0 = some y) {w : World} {v0 : Value} :
  Spec Try.prog 52 [v0].toArray w [(false, .val Message_.rep v0 a0)] [] (fun v Γr Ωr Ωo => ∃ u0 : Value, v = u0 ∧ Γr = [] ∧ Ωr = [(true, .slice 5 (Rep.int .u8) u0 y)] ∧ Ωo = []) := by
 refine Spec.of (L := [(0, v0)]) Try.func52 rfl ⟨rfl, trivial⟩ rfl (fun e h => ?_)
 unfold message_encode at hF
 refine Run.seq ?_
 refine Run.reg ?_
 refine op (OpS.boxF h rfl rfl rfl (V.at .z) (fun u1 w1 h1 => ?_))
 refine op (OpS.as rfl rfl rfl ?_)
 refine RunL.nil ?_
 refine Run.slim [(1, u1)] ⟨rfl, trivial⟩ ?_
 refine Run.seq ?_
 refine Run.reg ?_
 refine op (OpS.fbox (o3 := 0) h1 .z PA.z fa51_0 rfl rfl rfl rfl ?_)
 refine op (OpS.loadBi h1 .z PA.a (Get.fld Message_.f0) ty5 rfl rfl rfl ?_)
 refine op (OpS.bin rfl rfl rfl rfl rfl ?_)
 refine op (OpS.fbox (o3 := 2) h1 .z PA.z fa51_2 rfl rfl rfl rfl ?_)
 refine op (OpS.loadBi h1 .z PA.a (Get.fld Message_.f2) ty5 rfl rfl rfl ?_)
 refine op (OpS.bin rfl rfl rfl rfl rfl ?_)
 refine op (OpS.fbox (o3 := 4) h1 .z PA.z fa51_4 rfl rfl rfl rfl ?_)
 refine op (OpS.loadBi h1 .z PA.a (Get.fld Message_.f4) ty3 rfl rfl rfl ?_)
 refine op (OpS.conv Try.underlying3 Try.underlying5 rfl rfl rfl ?_)
 refine op (OpS.bin rfl rfl rfl rfl rfl ?_)
 refine op (OpS.lit (r := (Rep.int .u8)) (f := true) h1 Try.underlying22 ti5 rfl rfl rfl rfl rfl (.cons rfl V.int (.cons rfl V.int .nil)) rfl rfl (fun u2 w2 h2 => ?_))
 obtain ⟨y1, e1, hF⟩ := bindP_use hF
 refine op (OpS.callP h2 Try.func60 rfl rfl rfl rfl (vs := [u2]) rfl (checksum_Seal8_ok e1) (.cons (f := true) (V.at .z) .nil) ?_)
 rintro u3 w3 _ _ _ ⟨_, rfl, rfl, rfl, rfl⟩ h3
 have h4 := h3 rfl rfl
 simp only [List.cons_append, List.nil_append] at h4
 refine op (OpS.as rfl rfl rfl ?_)
 refine RunL.nil ?_
 refine Run.slim [(3, u3), (1, u1)] ⟨rfl, rfl, trivial⟩ ?_
 refine Run.seq ?_
 refine Run.reg ?_
 refine op (OpS.fbox (o3 := 1) h4 (.s .z) PA.z fa51_1 rfl rfl rfl rfl ?_)
 refine op (OpS.loadBi h4 (.s .z) PA.a (Get.fld Message_.f1) ty5 rfl rfl rfl ?_)
 refine op (OpS.bin rfl rfl rfl rfl rfl ?_)
 refine op (OpS.fbox (o3 := 6) h4 (.s .z) PA.z fa51_6 rfl rfl rfl rfl ?_)
 refine op (OpS.loadBi h4 (.s .z) PA.a (Get.fld Message_.f6) ty3 rfl rfl rfl ?_)
 refine op (OpS.bin rfl rfl rfl rfl rfl ?_)
 refine op (OpS.fbox (o3 := 5) h4 (.s .z) PA.z fa51_5 rfl rfl rfl rfl ?_)
 refine op (OpS.loadBi h4 (.s .z) PA.a (Get.fld Message_.f5) ty3 rfl rfl rfl ?_)
 refine op (OpS.bin rfl rfl rfl rfl rfl ?_)
 refine op (OpS.conv Try.underlying3 Try.underlying5 rfl rfl rfl ?_)
 refine op (OpS.fbox (o3 := 3) h4 (.s .z) PA.z fa51_3 rfl rfl rfl rfl ?_)
 refine op (OpS.loadBi h4 (.s .z) PA.a (Get.fld Message_.f3) ty5 rfl rfl rfl ?_)
 refine op (OpS.litO (r := (Rep.int .u8)) (f := true) h4 Try.underlying22 ti5 rfl rfl rfl rfl rfl (.cons rfl V.int (.cons rfl V.int (.cons rfl V.int .nil))) rfl rfl (fun u4 w4 h5 => ?_))
 refine op (OpS.as rfl rfl rfl ?_)
 refine RunL.nil ?_
 refine Run.slim [(4, u4), (3, u3), (1, u1)] ⟨rfl, rfl, rfl, trivial⟩ ?_
 refine Run.seq ?_
 refine Run.seq ?_
 refine Run.reg ?_
 refine op (OpS.loadB h5 (.s (.s .z)) PA.z Get.id ty51 rfl rfl rfl (fun u5 h6 => ?_))
 obtain ⟨y2, e2, hF⟩ := bindP_use hF
 refine op (OpS.callP h6 Try.func50 rfl rfl rfl rfl (vs := [u5]) rfl (message_request_ok e2) (.cons (f := false) (V.at .z) .nil) ?_)
 rintro _ w5 _ _ _ ⟨rfl, rfl, rfl, rfl⟩ h7
 have h8 := h7 rfl rfl
 simp only [List.cons_append, List.nil_append] at h8
 refine op (OpS.not rfl rfl rfl ?_)
 refine RunL.nil ?_
 refine Run.slim [(32, .bool (!y2)), (4, u4), (3, u3), (1, u1)] ⟨rfl, rfl, rfl, rfl, trivial⟩ ?_
 refine Run.join (σ := ((List Int))) (fun s_ L_ w_ => ∃ u0_ : Value, L_ = [(1, u1), (3, u3), (4, u0_)] ∧ St e w_ [] [(false, .box 51 Message_.rep u1 a0), (true, .slice 5 (Rep.int .u8) u3 y1), (true, .slice 5 (Rep.int .u8) u0_ s_)]) hF (fun s1 _ w6 hI hF => ?_) (fun j1 hj1 hF => ?_)
 ·
  obtain ⟨u6, rfl, h9⟩ := hI
  refine Run.seq ?_
  refine Run.reg ?_
  refine op (OpS.mv rfl rfl rfl ?_)
  refine op (OpS.mv rfl rfl rfl ?_)
  refine op (OpS.fbox (o3 := 8) h9 .z PA.z fa51_8 rfl rfl rfl rfl ?_)
  refine op (OpS.loadB h9 .z PA.a (Get.fld Message_.f8) ty22 rfl rfl rfl (fun u7 h10 => ?_))
  obtain ⟨x1, e3, hF⟩ := bindP_use hF
  refine op (OpS.app (f' := false) h10 (.s (.s .z)) Try.underlying22 ti5 rfl rfl rfl rfl rfl rfl rfl (V.at .z) (.inr Pure.int) e3 (fun u8 w7 h11 => ?_))
  obtain ⟨y3, e4, hF⟩ := bindP_use hF
  refine op (OpS.callP h11 Try.func60 rfl rfl rfl rfl (vs := [u8]) rfl (checksum_Seal8_ok e4) (.own .z .nil) ?_)
  rintro u9 w8 _ _ _ ⟨_, rfl, rfl, rfl, rfl⟩ h12
  have h13 := h12 rfl rfl
  simp only [List.cons_append, List.nil_append] at h13
  have h14 := (h13.pick .z).freeze
  obtain ⟨x2, e5, hF⟩ := bindP_use hF
  refine op (OpS.app (f' := true) h14 (.s (.s .z)) Try.underlying22 ti5 rfl rfl rfl rfl rfl rfl rfl (V.at .z) (.inr Pure.int) e5 (fun u10 w9 h15 => ?_))
  refine op (OpS.as rfl rfl rfl ?_)
  refine RunL.nil ?_
  refine Run.slim [(2, u10)] ⟨rfl, trivial⟩ ?_
  refine Run.retP rfl (.tmp rfl .nil) ?_
  cases hF
  exact Post.mk' ⟨u10, rfl, rfl, rfl, rfl⟩ (h15.picks (.cons .z .nil)) .nil
 ·
  refine Run.ite rfl hF (fun e6 hF => ?_) (fun e6 hF => ?_)
  ·
   refine Run.reg ?_
   refine op (OpS.mv rfl rfl rfl ?_)
   refine op (OpS.fbox (o3 := 7) h8 (.s (.s .z)) PA.z fa51_7 rfl rfl rfl rfl ?_)
   refine op (OpS.loadBi h8 (.s (.s .z)) PA.a (Get.fld Message_.f7) ty5 rfl rfl rfl ?_)
   refine op (OpS.lit (r := (Rep.int .u8)) (f := true) h8 Try.underlying22 ti5 rfl rfl rfl rfl rfl (.cons rfl V.int .nil) rfl rfl (fun u11 w10 h16 => ?_))
   obtain ⟨x3, e7, hF⟩ := bindP_use hF
   refine op (OpS.app (f' := true) h16 .z Try.underlying22 ti5 rfl rfl rfl rfl rfl rfl rfl (V.at .z) (.inr Pure.int) e7 (fun u12 w11 h17 => ?_))
   refine op (OpS.as rfl rfl rfl ?_)
   refine RunL.nil ?_
   refine Run.slim [(4, u12), (3, u3), (1, u1)] ⟨rfl, rfl, rfl, trivial⟩ ?_
   refine Run.slim [(1, u1), (3, u3), (4, u12)] ⟨rfl, rfl, rfl, trivial⟩ ?_
   exact hj1 (x3) _ _ ⟨u12, rfl, (h17.facts .nil).picks (.cons (.s (.s .z)) (.cons (.s .z) (.cons .z .nil)))⟩ hF
  ·
   refine Run.skip ?_
   refine Run.slim [(1, u1), (3, u3), (4, u4)] ⟨rfl, rfl, rfl, trivial⟩ ?_
   exact hj1 ([(IntKind.u8.wrap (2 * a0.From)), (IntKind.u8.wrap (IntKind.i64.wrap ((IntKind.i64.wrap (4 * a0.Sequence)) + a0.FromUnit))), a0.Command]) _ _ ⟨u4, rfl, (h8.facts .nil).picks (.cons (.s (.s .z)) (.cons (.s .z) (.cons .z .nil)))⟩ hF
theorem message_Request_ok {fuel : Nat} {a0 : Message_} {y : (List Int) × Int} (hF : message_Request fuel a0 = some y) {w : World} {v0 : Value} :
  Spec Try.prog 37 [v0].toArray w [(false, .val Message_.rep v0 a0)] [] (fun v Γr Ωr Ωo => ∃ u0 : Value, v = .tuple #[u0, .int .i64 y.2] ∧ Γr = [] ∧ Ωr = [(true, .slice 5 (Rep.int .u8) u0 y.1)] ∧ Ωo = []) := by
 refine Spec.of (L := [(0, v0)]) Try.func37 rfl ⟨rfl, trivial⟩ rfl (fun e h => ?_)
 unfold message_Request at hF
 refine Run.seq ?_
 refine Run.reg ?_
 refine op (OpS.boxF h rfl rfl rfl (V.at .z) (fun u1 w1 h1 => ?_))
 refine op (OpS.as rfl rfl rfl ?_)
 refine op (OpS.as rfl rfl rfl ?_)
 refine RunL.nil ?_
 refine Run.slim [(1, u1)] ⟨rfl, trivial⟩ ?_
 refine Run.seq ?_
 refine Run.seq ?_
 refine Run.reg ?_
 refine op (OpS.loadB h1 .z PA.z Get.id ty51 rfl rfl rfl (fun u2 h2 => ?_))
 obtain ⟨y1, e1, hF⟩ := bindP_use hF
 refine op (OpS.callP h2 Try.func49 rfl rfl rfl rfl (vs := [u2]) rfl (message_Valid_ok e1) (.cons (f := false) (V.at .z) .nil) ?_)
 rintro _ w2 _ _ _ ⟨rfl, rfl, rfl, rfl⟩ h3
 have h4 := h3 rfl rfl
 simp only [List.cons_append, List.nil_append] at h4
 refine op (OpS.not rfl rfl rfl ?_)
 refine op (OpS.mv rfl rfl rfl ?_)
 refine RunL.join (σ := Bool) (fun s_ L_ w_ => L_ = [(1, u1), (11, .bool s_)] ∧ St e w_ [] [(false, .box 51 Message_.rep u1 a0)]) hF (fun s1 _ w3 hI hF => ?_) (fun j1 hj1 hF => ?_)
 ·
  obtain ⟨rfl, h5⟩ := hI
  refine Run.ite rfl hF (fun e2 hF => ?_) (fun e2 hF => ?_)
  ·
   refine Run.seq ?_
   refine Run.reg ?_
   refine op (OpS.as rfl rfl rfl ?_)
   refine op (OpS.as rfl rfl rfl ?_)
   refine RunL.nil ?_
   refine Run.slim [(3, .int .i64 1), (2, .slice none 0 0)] ⟨rfl, rfl, trivial⟩ ?_
   have h6 := St.nil 5 (Rep.int .u8) h5
   refine Run.retP rfl (.tmp rfl (.tmp rfl .nil)) ?_
   cases hF
   exact Post.mk' ⟨(.slice none 0 0), rfl, rfl, rfl, rfl⟩ (h6.picks (.cons .z .nil)) .nil
  ·
   refine Run.skip ?_
   refine Run.seq ?_
   refine Run.reg ?_
   refine op (OpS.loadB h5 .z PA.z Get.id ty51 rfl rfl rfl (fun u3 h7 => ?_))
   obtain ⟨y2, e3, hF⟩ := bindP_use hF
   refine op (OpS.callP h7 Try.func52 rfl rfl rfl rfl (vs := [u3]) rfl (message_encode_ok e3) (.cons (f := false) (V.at .z) .nil) ?_)
   rintro u4 w4 _ _ _ ⟨_, rfl, rfl, rfl, rfl⟩ h8
   have h9 := h8 rfl rfl
   simp only [List.cons_append, List.nil_append] at h9
   refine op (OpS.as rfl rfl rfl ?_)
   refine op (OpS.as rfl rfl rfl ?_)
   refine RunL.nil ?_
   refine Run.slim [(3, .int .i64 0), (2, u4)] ⟨rfl, rfl, trivial⟩ ?_
   refine Run.retP rfl (.tmp rfl (.tmp rfl .nil)) ?_
   cases hF
   exact Post.mk' ⟨u4, rfl, rfl, rfl, rfl⟩ (h9.picks (.cons .z .nil)) .nil
 ·
  refine RunL.caseb hF (fun e4 hF => ?_) (fun e4 hF => ?_)
  ·
   refine op (OpS.pass rfl rfl rfl ?_)
   refine op (OpS.pass rfl rfl rfl ?_)
   refine op (OpS.pass rfl rfl rfl ?_)
   refine op (OpS.pick rfl rfl rfl rfl ?_)
   refine RunL.nil ?_
   refine Run.slim [(11, .bool true), (1, u1)] ⟨rfl, rfl, trivial⟩ ?_
   refine Run.slim [(1, u1), (11, .bool true)] ⟨rfl, rfl, trivial⟩ ?_
   exact hj1 (true) _ _ ⟨rfl, (h4.facts .nil).picks (.cons .z .nil)⟩ hF
  ·
   refine op (OpS.loadB h4 .z PA.z Get.id ty51 rfl rfl rfl (fun u5 h10 => ?_))
   obtain ⟨y3, e5, hF⟩ := bindP_use hF
   refine op (OpS.callP h10 Try.func50 rfl rfl rfl rfl (vs := [u5]) rfl (message_request_ok e5) (.cons (f := false) (V.at .z) .nil) ?_)
   rintro _ w5 _ _ _ ⟨rfl, rfl, rfl, rfl⟩ h11
   have h12 := h11 rfl rfl
   simp only [List.cons_append, List.nil_append] at h12
   refine op (OpS.not rfl rfl rfl ?_)
   refine op (OpS.pick rfl rfl rfl rfl ?_)
   refine RunL.nil ?_
   refine Run.slim [(11, .bool (!y3)), (1, u1)] ⟨rfl, rfl, trivial⟩ ?_
   refine Run.slim [(1, u1), (11, .bool (!y3))] ⟨rfl, rfl, trivial⟩ ?_
   exact hj1 (!y3) _ _ ⟨rfl, (h12.facts .nil).picks (.cons .z .nil)⟩ hF
set_option maxHeartbeats 8000000 in
theorem exchange_Valid_ok {fuel : Nat} {a0 : Requester_} {y : Bool} (hF : exchange_Valid fuel a0 = some y) {w : World} {v0 : Value} :
  Spec Try.prog 19 [v0].toArray w [(false, .val Requester_.rep v0 a0)] [] (fun v Γr Ωr Ωo => v = .bool y ∧ Γr = [] ∧ Ωr = [] ∧ Ωo = []) := by
 refine Spec.of (L := [(0, v0)]) Try.func19 rfl ⟨rfl, trivial⟩ rfl (fun e h => ?_)
 unfold exchange_Valid at hF
 refine Run.seq ?_
 refine Run.reg ?_
 refine op (OpS.boxF h rfl rfl rfl (V.at .z) (fun u1 w1 h1 => ?_))
 refine op (OpS.as rfl rfl rfl ?_)
 refine RunL.nil ?_
 refine Run.slim [(1, u1)] ⟨rfl, trivial⟩ ?_
 refine Run.seq ?_
 refine Run.seq ?_
 refine Run.reg ?_
 refine op (OpS.fbox (o3 := 0) h1 .z PA.z fa26_0 rfl rfl rfl rfl ?_)
 refine op (OpS.loadBi h1 .z PA.a (Get.fld Requester_.f0) ty5 rfl rfl rfl ?_)
 refine op (OpS.bin rfl rfl rfl rfl rfl ?_)
 refine op (OpS.mv rfl rfl rfl ?_)
 refine RunL.join (σ := Bool) (fun s_ L_ w_ => L_ = [(1, u1), (32, .bool s_)] ∧ St e w_ [] [(false, .box 26 Requester_.rep u1 a0)]) hF (fun s1 _ w2 hI hF => ?_) (fun j1 hj1 hF => ?_)
 ·
  obtain ⟨rfl, h2⟩ := hI
  refine Run.ite rfl hF (fun e1 hF => ?_) (fun e1 hF => ?_)
  ·
   refine Run.seq ?_
   refine Run.reg ?_
   refine op (OpS.as rfl rfl rfl ?_)
   refine RunL.nil ?_
   refine Run.slim [(2, .bool false)] ⟨rfl, trivial⟩ ?_
   refine Run.retP rfl (.tmp rfl .nil) ?_
   cases hF
   exact Post.mk' ⟨rfl, rfl, rfl, rfl⟩ (h2.picks .nil) .nil
  ·
   refine Run.skip ?_
   refine Run.seq ?_
   refine Run.seq ?_
   refine Run.reg ?_
   refine op (OpS.fbox (o3 := 2) h2 .z PA.z fa26_2 rfl rfl rfl rfl ?_)
   refine op (OpS.loadB h2 .z PA.a (Get.fld Requester_.f2) ty24 rfl rfl rfl (fun u2 h3 => ?_))
   refine op (OpS.len h3 Try.underlying24 rfl rfl rfl (V.at .z) ?_)
   refine op (OpS.mv rfl rfl rfl ?_)
   refine RunL.nil ?_
   refine Run.slim [(36, .int .i64 0), (35, .int .i64 (a0.Pending.length : Int)), (34, u2), (1, u1)] ⟨rfl, rfl, rfl, rfl, trivial⟩ ?_
   refine Run.block ?_
   refine Run.slim [(1, u1), (34, u2), (35, .int .i64 (a0.Pending.length : Int)), (36, .int .i64 0)] ⟨rfl, rfl, rfl, rfl, trivial⟩ ?_
   refine Run.loopP (σ := Int) (fun s_ L_ w_ => L_ = [(1, u1), (34, u2), (35, .int .i64 (a0.Pending.length : Int)), (36, .int .i64 s_)] ∧ St e w_ [(false, .val (Rep.slice Pending_.rep) u2 a0.Pending)] [(false, .box 26 Requester_.rep u1 a0)]) hF ⟨rfl, (h3.facts (.atm .z .nil)).picks (.cons .z .nil)⟩ (fun k1 hk1 s2 _ w3 hI hF => ?_)
   obtain ⟨rfl, h4⟩ := hI
   refine Run.seq ?_
   refine Run.reg ?_
   refine op (OpS.bin rfl rfl rfl rfl rfl ?_)
   refine RunL.nil ?_
   refine Run.seq ?_
   refine Run.ite rfl hF (fun e2 hF => ?_) (fun e2 hF => ?_)
   ·
    refine Run.skip ?_
    refine Run.seq ?_
    refine Run.block ?_
    refine Run.seq ?_
    refine Run.reg ?_
    refine op (OpS.mv rfl rfl rfl ?_)
    obtain ⟨x1, e3, hF⟩ := bindP_use hF
    refine op (OpS.iptr h4 Try.underlying24 ty55 rfl rfl rfl rfl (V.at .z) e3 (fun u3 h5 => ?_))
    refine op (OpS.load h5 ty55 rfl rfl rfl .z (fun u4 h6 => ?_))
    refine op (OpS.alloc h6 ti55 Pending_.zr rfl rfl (fun u5 w4 h7 => ?_))
    refine op (OpS.as rfl rfl rfl ?_)
    have h8 := (h7.pick .z).weak
    refine op (OpS.storeB (f' := false) h8 .z PA.z Put.id ty55 rfl rfl rfl (V.at .z) (.inr rfl) (fun w5 h9 => ?_))
    refine RunL.nil ?_
    refine Run.slim [(3, .int .i64 s2), (4, u5), (1, u1), (34, u2), (35, .int .i64 (a0.Pending.length : Int)), (36, .int .i64 s2)] ⟨rfl, rfl, rfl, rfl, rfl, rfl, trivial⟩ ?_
    refine Run.seq ?_
    refine Run.seq ?_
    refine Run.reg ?_
    refine op (OpS.fbox (o3 := 10) h9 .z PA.z fa55_2 rfl rfl rfl rfl ?_)
    refine op (OpS.loadBi h9 .z PA.a (Get.fld Pending_.f2) ty3 rfl rfl rfl ?_)
    refine op (OpS.bin rfl rfl rfl rfl rfl ?_)
    refine op (OpS.mv rfl rfl rfl ?_)
    refine RunL.join (σ := Bool) (fun s_ L_ w_ => L_ = [(1, u1), (3, .int .i64 s2), (4, u5), (34, u2), (35, .int .i64 (a0.Pending.length : Int)), (36, .int .i64 s2), (61, .bool s_)] ∧ St e w_ [(false, .val (Rep.slice Pending_.rep) u2 a0.Pending)] [(false, .box 26 Requester_.rep u1 a0), (false, .box 55 Pending_.rep u5 x1)]) hF (fun s3 _ w6 hI hF => ?_) (fun j2 hj2 hF => ?_)
    ·
     obtain ⟨rfl, h10⟩ := hI
     refine Run.ite rfl hF (fun e4 hF => ?_) (fun e4 hF => ?_)
     ·
      refine Run.seq ?_
      refine Run.reg ?_
      refine op (OpS.as rfl rfl rfl ?_)
      refine RunL.nil ?_
      refine Run.slim [(2, .bool false)] ⟨rfl, trivial⟩ ?_
      refine Run.retP rfl (.tmp rfl .nil) ?_
      cases hF
      exact Post.mk' ⟨rfl, rfl, rfl, rfl⟩ (h10.picks .nil) .nil
     ·
      refine Run.skip ?_
      refine Run.seq ?_
      refine Run.seq ?_
      refine Run.reg ?_
      refine op (OpS.fbox (o3 := 0) h10 (.s .z) PA.z fa55_0 rfl rfl rfl rfl ?_)
      refine op (OpS.loadB h10 (.s .z) PA.a (Get.fld Pending_.f0) ty51 rfl rfl rfl (fun u6 h11 => ?_))
      obtain ⟨y1, e5, hF⟩ := bindP_use hF
      refine op (OpS.callP h11 Try.func37 rfl rfl rfl rfl (vs := [u6]) rfl (message_Request_ok e5) (.cons (f := false) (V.at .z) .nil) ?_)
      rintro _ w7 _ _ _ ⟨u7, rfl, rfl, rfl, rfl⟩ h12
      have h13 := h12 rfl rfl
      simp only [List.cons_append, List.nil_append] at h13
      refine op (OpS.mv rfl rfl rfl ?_)
      refine op (OpS.ext rfl rfl rfl rfl ?_)
      refine op (OpS.ext rfl rfl rfl rfl ?_)
      refine op (OpS.as rfl rfl rfl ?_)
      have h14 := (h13.pick .z).freeze
      refine op (OpS.as rfl rfl rfl ?_)
      refine RunL.nil ?_
      refine Run.slim [(6, .int .i64 y1.2), (1, u1), (3, .int .i64 s2), (4, u5), (34, u2), (35, .int .i64 (a0.Pending.length : Int)), (36, .int .i64 s2)] ⟨rfl, rfl, rfl, rfl, rfl, rfl, rfl, trivial⟩ ?_
      refine Run.seq ?_
      refine Run.reg ?_
      refine op (OpS.mv rfl rfl rfl ?_)
      refine op (OpS.bin rfl rfl rfl rfl rfl ?_)
      refine RunL.nil ?_
      refine Run.slim [(69, .bool (y1.2 != 0)), (1, u1), (3, .int .i64 s2), (4, u5), (34, u2), (35, .int .i64 (a0.Pending.length : Int)), (36, .int .i64 s2)] ⟨rfl, rfl, rfl, rfl, rfl, rfl, rfl, trivial⟩ ?_
      refine Run.ite rfl hF (fun e6 hF => ?_) (fun e6 hF => ?_)
      ·
       refine Run.seq ?_
       refine Run.reg ?_
       refine op (OpS.as rfl rfl rfl ?_)
       refine RunL.nil ?_
       refine Run.slim [(2, .bool false)] ⟨rfl, trivial⟩ ?_
       refine Run.retP rfl (.tmp rfl .nil) ?_
       cases hF
       exact Post.mk' ⟨rfl, rfl, rfl, rfl⟩ (h14.picks .nil) .nil
      ·
       refine Run.skip ?_
       refine Run.seq ?_
       refine Run.reg ?_
       refine op (OpS.fbox (o3 := 2) h14 .z PA.z fa26_2 rfl rfl rfl rfl ?_)
       refine op (OpS.loadB h14 .z PA.a (Get.fld Requester_.f2) ty24 rfl rfl rfl (fun u8 h15 => ?_))
       refine op (OpS.mv rfl rfl rfl ?_)
       obtain ⟨x2, e7, hF⟩ := bindP_use hF
       refine op (OpS.sub h15 Try.underlying24 ty55 rfl rfl rfl rfl rfl (V.at .z) e7 (fun u9 h16 => ?_))
       refine op (OpS.len h16 Try.underlying24 rfl rfl rfl (V.at .z) ?_)
       refine op (OpS.mv rfl rfl rfl ?_)
       refine RunL.nil ?_
       refine Run.slim [(75, .int .i64 0), (74, .int .i64 (x2.length : Int)), (73, u9), (1, u1), (4, u5), (34, u2), (35, .int .i64 (a0.Pending.length : Int)), (36, .int .i64 s2)] ⟨rfl, rfl, rfl, rfl, rfl, rfl, rfl, rfl, trivial⟩ ?_
       refine Run.block ?_
       refine Run.slim [(1, u1), (4, u5), (34, u2), (35, .int .i64 (a0.Pending.length : Int)), (36, .int .i64 s2), (73, u9), (74, .int .i64 (x2.length : Int)), (75, .int .i64 0)] ⟨rfl, rfl, rfl, rfl, rfl, rfl, rfl, rfl, trivial⟩ ?_
       refine Run.loopP (σ := Int) (fun s_ L_ w_ => L_ = [(1, u1), (4, u5), (34, u2), (35, .int .i64 (a0.Pending.length : Int)), (36, .int .i64 s2), (73, u9), (74, .int .i64 (x2.length : Int)), (75, .int .i64 s_)] ∧ St e w_ [(false, .val (Rep.slice Pending_.rep) u2 a0.Pending), (false, .val (Rep.slice Pending_.rep) u9 x2)] [(false, .box 26 Requester_.rep u1 a0), (false, .box 55 Pending_.rep u5 x1)]) hF ⟨rfl, (h16.facts (.atm (.s (.s (.s (.s .z)))) (.atm .z .nil))).picks (.cons .z (.cons .z .nil))⟩ (fun k2 hk2 s4 _ w8 hI hF => ?_)
       obtain ⟨rfl, h17⟩ := hI
       refine Run.seq ?_
       refine Run.reg ?_
       refine op (OpS.bin rfl rfl rfl rfl rfl ?_)
       refine RunL.nil ?_
       refine Run.seq ?_
       refine Run.ite rfl hF (fun e8 hF => ?_) (fun e8 hF => ?_)
       ·
        refine Run.skip ?_
        refine Run.seq ?_
        refine Run.block ?_
        refine Run.seq ?_
        refine Run.reg ?_
        obtain ⟨x3, e9, hF⟩ := bindP_use hF
        refine op (OpS.iptr h17 Try.underlying24 ty55 rfl rfl rfl rfl (V.at (.s .z)) e9 (fun u10 h18 => ?_))
        refine op (OpS.load h18 ty55 rfl rfl rfl .z (fun u11 h19 => ?_))
        refine op (OpS.alloc h19 ti55 Pending_.zr rfl rfl (fun u12 w9 h20 => ?_))
        have h21 := (h20.pick .z).weak
        refine op (OpS.storeB (f' := false) h21 .z PA.z Put.id ty55 rfl rfl rfl (V.at .z) (.inr rfl) (fun w10 h22 => ?_))
        refine RunL.nil ?_
        refine Run.slim [(8, u12), (1, u1), (4, u5), (34, u2), (35, .int .i64 (a0.Pending.length : Int)), (36, .int .i64 s2), (73, u9), (74, .int .i64 (x2.length : Int)), (75, .int .i64 s4)] ⟨rfl, rfl, rfl, rfl, rfl, rfl, rfl, rfl, rfl, trivial⟩ ?_
        refine Run.seq ?_
        refine Run.reg ?_
        refine op (OpS.fbox (o3 := 0) h22 .z PA.z fa55_0 rfl rfl rfl rfl ?_)
        refine op (OpS.fbox (o3 := 0) h22 .z PA.a fa51_0 rfl rfl rfl rfl ?_)
        refine op (OpS.loadBi h22 .z PA.a (Get.comp (Get.fld Pending_.f0) (Get.fld Message_.f0)) ty5 rfl rfl rfl ?_)
        refine op (OpS.fbox (o3 := 0) h22 (.s (.s .z)) PA.z fa55_0 rfl rfl rfl rfl ?_)
        refine op (OpS.fbox (o3 := 0) h22 (.s (.s .z)) PA.a fa51_0 rfl rfl rfl rfl ?_)
        refine op (OpS.loadBi h22 (.s (.s .z)) PA.a (Get.comp (Get.fld Pending_.f0) (Get.fld Message_.f0)) ty5 rfl rfl rfl ?_)
        refine op (OpS.bin rfl rfl rfl rfl rfl ?_)
        refine op (OpS.mv rfl rfl rfl ?_)
        refine RunL.join (σ := Bool) (fun s_ L_ w_ => L_ = [(1, u1), (4, u5), (34, u2), (35, .int .i64 (a0.Pending.length : Int)), (36, .int .i64 s2), (73, u9), (74, .int .i64 (x2.length : Int)), (75, .int .i64 s4), (94, .bool s_)] ∧ St e w_ [(false, .val (Rep.slice Pending_.rep) u2 a0.Pending), (false, .val (Rep.slice Pending_.rep) u9 x2)] [(false, .box 26 Requester_.rep u1 a0), (false, .box 55 Pending_.rep u5 x1)]) hF (fun s5 _ w11 hI hF => ?_) (fun j3 hj3 hF => ?_)
        ·
         obtain ⟨rfl, h23⟩ := hI
         refine Run.ite rfl hF (fun e10 hF => ?_) (fun e10 hF => ?_)
         ·
          refine Run.seq ?_
          refine Run.reg ?_
          refine op (OpS.as rfl rfl rfl ?_)
          refine RunL.nil ?_
          refine Run.slim [(2, .bool false)] ⟨rfl, trivial⟩ ?_
          refine Run.retP rfl (.tmp rfl .nil) ?_
          cases hF
          exact Post.mk' ⟨rfl, rfl, rfl, rfl⟩ (h23.picks .nil) .nil
         ·
          refine Run.skip ?_
          refine Run.endBlock ?_
          refine Run.reg ?_
          refine op (OpS.bin rfl rfl rfl rfl rfl ?_)
          refine op (OpS.mv rfl rfl rfl ?_)
          refine RunL.nil ?_
          refine Run.slim [(75, .int .i64 (IntKind.i64.wrap (s4 + 1))), (1, u1), (4, u5), (34, u2), (35, .int .i64 (a0.Pending.length : Int)), (36, .int .i64 s2), (73, u9), (74, .int .i64 (x2.length : Int))] ⟨rfl, rfl, rfl, rfl, rfl, rfl, rfl, rfl, trivial⟩ ?_
          refine Run.slim [(1, u1), (4, u5), (34, u2), (35, .int .i64 (a0.Pending.length : Int)), (36, .int .i64 s2), (73, u9), (74, .int .i64 (x2.length : Int)), (75, .int .i64 (IntKind.i64.wrap (s4 + 1)))] ⟨rfl, rfl, rfl, rfl, rfl, rfl, rfl, rfl, trivial⟩ ?_
          exact hk2 ((IntKind.i64.wrap (s4 + 1))) _ _ ⟨rfl, (h23.facts (.atm .z (.atm (.s .z) .nil))).picks (.cons .z (.cons .z .nil))⟩ hF
        ·
         refine RunL.caseb hF (fun e11 hF => ?_) (fun e11 hF => ?_)
         ·
          refine op (OpS.fbox (o3 := 0) h22 .z PA.z fa55_0 rfl rfl rfl rfl ?_)
          refine op (OpS.fbox (o3 := 6) h22 .z PA.a fa51_6 rfl rfl rfl rfl ?_)
          refine op (OpS.loadBi h22 .z PA.a (Get.comp (Get.fld Pending_.f0) (Get.fld Message_.f6)) ty3 rfl rfl rfl ?_)
          refine op (OpS.fbox (o3 := 0) h22 (.s (.s .z)) PA.z fa55_0 rfl rfl rfl rfl ?_)
          refine op (OpS.fbox (o3 := 6) h22 (.s (.s .z)) PA.a fa51_6 rfl rfl rfl rfl ?_)
          refine op (OpS.loadBi h22 (.s (.s .z)) PA.a (Get.comp (Get.fld Pending_.f0) (Get.fld Message_.f6)) ty3 rfl rfl rfl ?_)
          refine op (OpS.bin rfl rfl rfl rfl rfl ?_)
          refine op (OpS.pick rfl rfl rfl rfl ?_)
          refine RunL.nil ?_
          refine Run.slim [(94, .bool (x3.Request.Sequence == x1.Request.Sequence)), (1, u1), (4, u5), (34, u2), (35, .int .i64 (a0.Pending.length : Int)), (36, .int .i64 s2), (73, u9), (74, .int .i64 (x2.length : Int)), (75, .int .i64 s4)] ⟨rfl, rfl, rfl, rfl, rfl, rfl, rfl, rfl, rfl, trivial⟩ ?_
          refine Run.slim [(1, u1), (4, u5), (34, u2), (35, .int .i64 (a0.Pending.length : Int)), (36, .int .i64 s2), (73, u9), (74, .int .i64 (x2.length : Int)), (75, .int .i64 s4), (94, .bool (x3.Request.Sequence == x1.Request.Sequence))] ⟨rfl, rfl, rfl, rfl, rfl, rfl, rfl, rfl, rfl, trivial⟩ ?_
          exact hj3 (x3.Request.Sequence == x1.Request.Sequence) _ _ ⟨rfl, (h22.facts (.atm (.s (.s .z)) (.atm (.s (.s (.s .z))) .nil))).picks (.cons (.s .z) (.cons (.s .z) .nil))⟩ hF
         ·
          refine op (OpS.pass rfl rfl rfl ?_)
          refine op (OpS.pass rfl rfl rfl ?_)
          refine op (OpS.pass rfl rfl rfl ?_)
          refine op (OpS.pass rfl rfl rfl ?_)
          refine op (OpS.pass rfl rfl rfl ?_)
          refine op (OpS.pass rfl rfl rfl ?_)
          refine op (OpS.pass rfl rfl rfl ?_)
          refine op (OpS.pick rfl rfl rfl rfl ?_)
          refine RunL.nil ?_
          refine Run.slim [(94, .bool false), (1, u1), (4, u5), (34, u2), (35, .int .i64 (a0.Pending.length : Int)), (36, .int .i64 s2), (73, u9), (74, .int .i64 (x2.length : Int)), (75, .int .i64 s4)] ⟨rfl, rfl, rfl, rfl, rfl, rfl, rfl, rfl, rfl, trivial⟩ ?_
          refine Run.slim [(1, u1), (4, u5), (34, u2), (35, .int .i64 (a0.Pending.length : Int)), (36, .int .i64 s2), (73, u9), (74, .int .i64 (x2.length : Int)), (75, .int .i64 s4), (94, .bool false)] ⟨rfl, rfl, rfl, rfl, rfl, rfl, rfl, rfl, rfl, trivial⟩ ?_
          exact hj3 (false) _ _ ⟨rfl, (h22.facts (.atm (.s (.s .z)) (.atm (.s (.s (.s .z))) .nil))).picks (.cons (.s .z) (.cons (.s .z) .nil))⟩ hF
       ·
        refine Run.exit rfl ?_
        refine Run.endBlock ?_
        refine Run.reg ?_
        refine op (OpS.bin rfl rfl rfl rfl rfl ?_)
        refine op (OpS.mv rfl rfl rfl ?_)
        refine RunL.nil ?_
        refine Run.slim [(36, .int .i64 (IntKind.i64.wrap (s2 + 1))), (1, u1), (34, u2), (35, .int .i64 (a0.Pending.length : Int))] ⟨rfl, rfl, rfl, rfl, trivial⟩ ?_
        refine Run.slim [(1, u1), (34, u2), (35, .int .i64 (a0.Pending.length : Int)), (36, .int .i64 (IntKind.i64.wrap (s2 + 1)))] ⟨rfl, rfl, rfl, rfl, trivial⟩ ?_
        exact hk1 ((IntKind.i64.wrap (s2 + 1))) _ _ ⟨rfl, (h17.facts (.atm .z .nil)).picks (.cons .z .nil)⟩ hF
    ·
     refine RunL.caseb hF (fun e12 hF => ?_) (fun e12 hF => ?_)
     ·
      refine op (OpS.pass rfl rfl rfl ?_)
      refine op (OpS.pass rfl rfl rfl ?_)
      refine op (OpS.pass rfl rfl rfl ?_)
      refine op (OpS.pick rfl rfl rfl rfl ?_)
      refine op (OpS.mv rfl rfl rfl ?_)
      refine op (OpS.pass rfl rfl rfl ?_)
      refine op (OpS.pass rfl rfl rfl ?_)
      refine op (OpS.pass rfl rfl rfl ?_)
      refine op (OpS.pick rfl rfl rfl rfl ?_)
      refine op (OpS.mv rfl rfl rfl ?_)
      refine op (OpS.pass rfl rfl rfl ?_)
      refine op (OpS.pass rfl rfl rfl ?_)
      refine op (OpS.pass rfl rfl rfl ?_)
      refine op (OpS.pass rfl rfl rfl ?_)
      refine op (OpS.pass rfl rfl rfl ?_)
      refine op (OpS.pass rfl rfl rfl ?_)
      refine op (OpS.pick rfl rfl rfl rfl ?_)
      refine RunL.nil ?_
      refine Run.slim [(61, .bool true), (3, .int .i64 s2), (4, u5), (1, u1), (34, u2), (35, .int .i64 (a0.Pending.length : Int)), (36, .int .i64 s2)] ⟨rfl, rfl, rfl, rfl, rfl, rfl, rfl, trivial⟩ ?_
      refine Run.slim [(1, u1), (3, .int .i64 s2), (4, u5), (34, u2), (35, .int .i64 (a0.Pending.length : Int)), (36, .int .i64 s2), (61, .bool true)] ⟨rfl, rfl, rfl, rfl, rfl, rfl, rfl, trivial⟩ ?_
      exact hj2 (true) _ _ ⟨rfl, (h9.facts (.atm (.s (.s .z)) .nil)).picks (.cons (.s .z) (.cons .z .nil))⟩ hF
     ·
      refine op (OpS.fbox (o3 := 10) h9 .z PA.z fa55_2 rfl rfl rfl rfl ?_)
      refine op (OpS.loadBi h9 .z PA.a (Get.fld Pending_.f2) ty3 rfl rfl rfl ?_)
      refine op (OpS.bin rfl rfl rfl rfl rfl ?_)
      refine op (OpS.pick rfl rfl rfl rfl ?_)
      refine op (OpS.mv rfl rfl rfl ?_)
      refine RunL.caseb hF (fun e13 hF => ?_) (fun e13 hF => ?_)
      ·
       refine op (OpS.pass rfl rfl rfl ?_)
       refine op (OpS.pass rfl rfl rfl ?_)
       refine op (OpS.pass rfl rfl rfl ?_)
       refine op (OpS.pick rfl rfl rfl rfl ?_)
       refine op (OpS.mv rfl rfl rfl ?_)
       refine op (OpS.pass rfl rfl rfl ?_)
       refine op (OpS.pass rfl rfl rfl ?_)
       refine op (OpS.pass rfl rfl rfl ?_)
       refine op (OpS.pass rfl rfl rfl ?_)
       refine op (OpS.pass rfl rfl rfl ?_)
       refine op (OpS.pass rfl rfl rfl ?_)
       refine op (OpS.pick rfl rfl rfl rfl ?_)
       refine RunL.nil ?_
       refine Run.slim [(61, .bool true), (3, .int .i64 s2), (4, u5), (1, u1), (34, u2), (35, .int .i64 (a0.Pending.length : Int)), (36, .int .i64 s2)] ⟨rfl, rfl, rfl, rfl, rfl, rfl, rfl, trivial⟩ ?_
       refine Run.slim [(1, u1), (3, .int .i64 s2), (4, u5), (34, u2), (35, .int .i64 (a0.Pending.length : Int)), (36, .int .i64 s2), (61, .bool true)] ⟨rfl, rfl, rfl, rfl, rfl, rfl, rfl, trivial⟩ ?_
       exact hj2 (true) _ _ ⟨rfl, (h9.facts (.atm (.s (.s .z)) .nil)).picks (.cons (.s .z) (.cons .z .nil))⟩ hF
      ·
       refine op (OpS.fbox (o3 := 9) h9 .z PA.z fa55_1 rfl rfl rfl rfl ?_)
       refine op (OpS.loadBi h9 .z PA.a (Get.fld Pending_.f1) ty2 rfl rfl rfl ?_)
       refine op (OpS.bin rfl rfl rfl rfl rfl ?_)
       refine op (OpS.pick rfl rfl rfl rfl ?_)
       refine op (OpS.mv rfl rfl rfl ?_)
       refine RunL.caseb hF (fun e14 hF => ?_) (fun e14 hF => ?_)
       ·
        refine op (OpS.pass rfl rfl rfl ?_)
        refine op (OpS.pass rfl rfl rfl ?_)
        refine op (OpS.pass rfl rfl rfl ?_)
        refine op (OpS.pass rfl rfl rfl ?_)
        refine op (OpS.pass rfl rfl rfl ?_)
        refine op (OpS.pass rfl rfl rfl ?_)
        refine op (OpS.pick rfl rfl rfl rfl ?_)
        refine RunL.nil ?_
        refine Run.slim [(61, .bool true), (3, .int .i64 s2), (4, u5), (1, u1), (34, u2), (35, .int .i64 (a0.Pending.length : Int)), (36, .int .i64 s2)] ⟨rfl, rfl, rfl, rfl, rfl, rfl, rfl, trivial⟩ ?_
        refine Run.slim [(1, u1), (3, .int .i64 s2), (4, u5), (34, u2), (35, .int .i64 (a0.Pending.length : Int)), (36, .int .i64 s2), (61, .bool true)] ⟨rfl, rfl, rfl, rfl, rfl, rfl, rfl, trivial⟩ ?_
        exact hj2 (true) _ _ ⟨rfl, (h9.facts (.atm (.s (.s .z)) .nil)).picks (.cons (.s .z) (.cons .z .nil))⟩ hF
       ·
        refine op (OpS.fbox (o3 := 0) h9 .z PA.z fa55_0 rfl rfl rfl rfl ?_)
        refine op (OpS.fbox (o3 := 1) h9 .z PA.a fa51_1 rfl rfl rfl rfl ?_)
        refine op (OpS.loadBi h9 .z PA.a (Get.comp (Get.fld Pending_.f0) (Get.fld Message_.f1)) ty5 rfl rfl rfl ?_)
        refine op (OpS.fbox (o3 := 0) h9 (.s .z) PA.z fa26_0 rfl rfl rfl rfl ?_)
        refine op (OpS.loadBi h9 (.s .z) PA.a (Get.fld Requester_.f0) ty5 rfl rfl rfl ?_)
        refine op (OpS.bin rfl rfl rfl rfl rfl ?_)
        refine op (OpS.pick rfl rfl rfl rfl ?_)
        refine RunL.nil ?_
        refine Run.slim [(61, .bool (x1.Request.From != a0.Own)), (3, .int .i64 s2), (4, u5), (1, u1), (34, u2), (35, .int .i64 (a0.Pending.length : Int)), (36, .int .i64 s2)] ⟨rfl, rfl, rfl, rfl, rfl, rfl, rfl, trivial⟩ ?_
        refine Run.slim [(1, u1), (3, .int .i64 s2), (4, u5), (34, u2), (35, .int .i64 (a0.Pending.length : Int)), (36, .int .i64 s2), (61, .bool (x1.Request.From != a0.Own))] ⟨rfl, rfl, rfl, rfl, rfl, rfl, rfl, trivial⟩ ?_
        exact hj2 (x1.Request.From != a0.Own) _ _ ⟨rfl, (h9.facts (.atm (.s (.s .z)) .nil)).picks (.cons (.s .z) (.cons .z .nil))⟩ hF
   ·
    refine Run.exit rfl ?_
    refine Run.seq ?_
    refine Run.reg ?_
    refine op (OpS.as rfl rfl rfl ?_)
    refine RunL.nil ?_
    refine Run.slim [(2, .bool true)] ⟨rfl, trivial⟩ ?_
    refine Run.retP rfl (.tmp rfl .nil) ?_
    cases hF
    exact Post.mk' ⟨rfl, rfl, rfl, rfl⟩ (h4.picks .nil) .nil
 ·
  refine RunL.caseb hF (fun e15 hF => ?_) (fun e15 hF => ?_)
  ·
   refine op (OpS.pass rfl rfl rfl ?_)
   refine op (OpS.pass rfl rfl rfl ?_)
   refine op (OpS.pass rfl rfl rfl ?_)
   refine op (OpS.pick rfl rfl rfl rfl ?_)
   refine op (OpS.mv rfl rfl rfl ?_)
   refine op (OpS.pass rfl rfl rfl ?_)
   refine op (OpS.pass rfl rfl rfl ?_)
   refine op (OpS.pass rfl rfl rfl ?_)
   refine op (OpS.pick rfl rfl rfl rfl ?_)
   refine op (OpS.mv rfl rfl rfl ?_)
   refine op (OpS.pass rfl rfl rfl ?_)
   refine op (OpS.pass rfl rfl rfl ?_)
   refine op (OpS.pass rfl rfl rfl ?_)
   refine op (OpS.pick rfl rfl rfl rfl ?_)
   refine op (OpS.mv rfl rfl rfl ?_)
   refine op (OpS.pass rfl rfl rfl ?_)
   refine op (OpS.pass rfl rfl rfl ?_)
   refine op (OpS.pass rfl rfl rfl ?_)
   refine op (OpS.pass rfl rfl rfl ?_)
   refine op (OpS.pick rfl rfl rfl rfl ?_)
   refine RunL.nil ?_
   refine Run.slim [(32, .bool true), (1, u1)] ⟨rfl, rfl, trivial⟩ ?_
   refine Run.slim [(1, u1), (32, .bool true)] ⟨rfl, rfl, trivial⟩ ?_
   exact hj1 (true) _ _ ⟨rfl, (h1.facts .nil).picks (.cons .z .nil)⟩ hF
  ·
   refine op (OpS.fbox (o3 := 0) h1 .z PA.z fa26_0 rfl rfl rfl rfl ?_)
   refine op (OpS.loadBi h1 .z PA.a (Get.fld Requester_.f0) ty5 rfl rfl rfl ?_)
   refine op (OpS.bin rfl rfl rfl rfl rfl ?_)
   refine op (OpS.pick rfl rfl rfl rfl ?_)
   refine op (OpS.mv rfl rfl rfl ?_)
   refine RunL.caseb hF (fun e16 hF => ?_) (fun e16 hF => ?_)
   ·
    refine op (OpS.pass rfl rfl rfl ?_)
    refine op (OpS.pass rfl rfl rfl ?_)
    refine op (OpS.pass rfl rfl rfl ?_)
    refine op (OpS.pick rfl rfl rfl rfl ?_)
    refine op (OpS.mv rfl rfl rfl ?_)
    refine op (OpS.pass rfl rfl rfl ?_)
    refine op (OpS.pass rfl rfl rfl ?_)
    refine op (OpS.pass rfl rfl rfl ?_)
    refine op (OpS.pick rfl rfl rfl rfl ?_)
    refine op (OpS.mv rfl rfl rfl ?_)
    refine op (OpS.pass rfl rfl rfl ?_)
    refine op (OpS.pass rfl rfl rfl ?_)
    refine op (OpS.pass rfl rfl rfl ?_)
    refine op (OpS.pass rfl rfl rfl ?_)
    refine op (OpS.pick rfl rfl rfl rfl ?_)
    refine RunL.nil ?_
    refine Run.slim [(32, .bool true), (1, u1)] ⟨rfl, rfl, trivial⟩ ?_
    refine Run.slim [(1, u1), (32, .bool true)] ⟨rfl, rfl, trivial⟩ ?_
    exact hj1 (true) _ _ ⟨rfl, (h1.facts .nil).picks (.cons .z .nil)⟩ hF
   ·
    refine op (OpS.fbox (o3 := 1) h1 .z PA.z fa26_1 rfl rfl rfl rfl ?_)
    refine op (OpS.loadBi h1 .z PA.a (Get.fld Requester_.f1) ty3 rfl rfl rfl ?_)
    refine op (OpS.bin rfl rfl rfl rfl rfl ?_)
    refine op (OpS.pick rfl rfl rfl rfl ?_)
    refine op (OpS.mv rfl rfl rfl ?_)
    refine RunL.caseb hF (fun e17 hF => ?_) (fun e17 hF => ?_)
    ·
     refine op (OpS.pass rfl rfl rfl ?_)
     refine op (OpS.pass rfl rfl rfl ?_)
     refine op (OpS.pass rfl rfl rfl ?_)
     refine op (OpS.pick rfl rfl rfl rfl ?_)
     refine op (OpS.mv rfl rfl rfl ?_)
     refine op (OpS.pass rfl rfl rfl ?_)
     refine op (OpS.pass rfl rfl rfl ?_)
     refine op (OpS.pass rfl rfl rfl ?_)
     refine op (OpS.pass rfl rfl rfl ?_)
     refine op (OpS.pick rfl rfl rfl rfl ?_)
     refine RunL.nil ?_
     refine Run.slim [(32, .bool true), (1, u1)] ⟨rfl, rfl, trivial⟩ ?_
     refine Run.slim [(1, u1), (32, .bool true)] ⟨rfl, rfl, trivial⟩ ?_
     exact hj1 (true) _ _ ⟨rfl, (h1.facts .nil).picks (.cons .z .nil)⟩ hF
    ·
     refine op (OpS.fbox (o3 := 1) h1 .z PA.z fa26_1 rfl rfl rfl rfl ?_)
     refine op (OpS.loadBi h1 .z PA.a (Get.fld Requester_.f1) ty3 rfl rfl rfl ?_)
     refine op (OpS.bin rfl rfl rfl rfl rfl ?_)
     refine op (OpS.pick rfl rfl rfl rfl ?_)
     refine op (OpS.mv rfl rfl rfl ?_)
     refine RunL.caseb hF (fun e18 hF => ?_) (fun e18 hF => ?_)
     ·
      refine op (OpS.pass rfl rfl rfl ?_)
      refine op (OpS.pass rfl rfl rfl ?_)
      refine op (OpS.pass rfl rfl rfl ?_)
      refine op (OpS.pass rfl rfl rfl ?_)
      refine op (OpS.pick rfl rfl rfl rfl ?_)
      refine RunL.nil ?_
      refine Run.slim [(32, .bool true), (1, u1)] ⟨rfl, rfl, trivial⟩ ?_
      refine Run.slim [(1, u1), (32, .bool true)] ⟨rfl, rfl, trivial⟩ ?_
      exact hj1 (true) _ _ ⟨rfl, (h1.facts .nil).picks (.cons .z .nil)⟩ hF
     ·
      refine op (OpS.fbox (o3 := 2) h1 .z PA.z fa26_2 rfl rfl rfl rfl ?_)
      refine op (OpS.loadB h1 .z PA.a (Get.fld Requester_.f2) ty24 rfl rfl rfl (fun u13 h24 => ?_))
      refine op (OpS.len h24 Try.underlying24 rfl rfl rfl (V.at .z) ?_)
      refine op (OpS.bin rfl rfl rfl rfl rfl ?_)
      refine op (OpS.pick rfl rfl rfl rfl ?_)
      refine RunL.nil ?_
      refine Run.slim [(32, .bool (decide ((a0.Pending.length : Int) > 8))), (1, u1)] ⟨rfl, rfl, trivial⟩ ?_
      refine Run.slim [(1, u1), (32, .bool (decide ((a0.Pending.length : Int) > 8)))] ⟨rfl, rfl, trivial⟩ ?_
      exact hj1 (decide ((a0.Pending.length : Int) > 8)) _ _ ⟨rfl, (h24.facts .nil).picks (.cons .z .nil)⟩ hF
theorem exchange_copied_ok {fuel : Nat} {a0 : Message_} {y : Message_} (hF : exchange_copied fuel a0 = some y) {w : World} {v0 : Value} :
  Spec Try.prog 36 [v0].toArray w [(false, .val Message_.rep v0 a0)] [] (fun v Γr Ωr Ωo => ∃ u0 : Value, v = u0 ∧ Γr = [(true, .val Message_.rep u0 y)] ∧ Ωr = [] ∧ Ωo = []) := by
 refine Spec.of (L := [(0, v0)]) Try.func36 rfl ⟨rfl, trivial⟩ rfl (fun e h => ?_)
 unfold exchange_copied at hF
 refine Run.seq ?_
 refine Run.reg ?_
 refine op (OpS.boxF h rfl rfl rfl (V.at .z) (fun u1 w1 h1 => ?_))
 refine op (OpS.alloc h1 ti51 Message_.zr rfl rfl (fun u2 w2 h2 => ?_))
 refine RunL.nil ?_
 refine Run.slim [(2, u2), (1, u1)] ⟨rfl, rfl, trivial⟩ ?_
 refine Run.seq ?_
 refine Run.reg ?_
 refine op (OpS.fbox (o3 := 8) h2 (.s .z) PA.z fa51_8 rfl rfl rfl rfl ?_)
 refine op (OpS.loadB h2 (.s .z) PA.a (Get.fld Message_.f8) ty22 rfl rfl rfl (fun u3 h3 => ?_))
 have h4 := St.nil 5 (Rep.int .u8) h3
 obtain ⟨x1, e1, hF⟩ := bindP_use hF
 refine op (OpS.app (f' := false) h4 .z Try.underlying22 ti5 rfl rfl rfl rfl rfl rfl rfl (V.at .z) (.inr Pure.int) e1 (fun u4 w3 h5 => ?_))
 refine op (OpS.fbox (o3 := 8) h5 (.s (.s .z)) PA.z fa51_8 rfl rfl rfl rfl ?_)
 refine op (OpS.storeC (f' := false) (fr := (Rep.raw u4)) (r' := (Rep.iso (fun s : Message_ => (s.To, s.From, s.Function, s.Command, s.ToUnit, s.FromUnit, s.Sequence, s.Code, s.Data, ())) (Rep.prod (Rep.int .u8) (Rep.prod (Rep.int .u8) (Rep.prod (Rep.int .u8) (Rep.prod (Rep.int .u8) (Rep.prod (Rep.int .i64) (Rep.prod (Rep.int .i64) (Rep.prod (Rep.int .i64) (Rep.prod (Rep.int .u8) (Rep.prod (Rep.raw u4) Rep.unit))))))))))) (x' := a0) h5 (.s (.s .z)) PA.a (Chg.iso _ (Chg.there (Chg.there (Chg.there (Chg.there (Chg.there (Chg.there (Chg.there (Chg.there (Chg.here (Chg.id (by rfl)))))))))))) (Ty.like ty22 (by rfl) (by rfl)) rfl rfl rfl (V.raw (f := false) (St.own1 h5 .z) a0.Data) (.inr rfl) (fun w4 h6 => ?_))
 refine RunL.nil ?_
 refine Run.slim [(2, u2), (1, u1)] ⟨rfl, rfl, trivial⟩ ?_
 refine Run.seq ?_
 refine Run.reg ?_
 refine op (OpS.loadB (fr := (Rep.iso (fun s : Message_ => (s.To, s.From, s.Function, s.Command, s.ToUnit, s.FromUnit, s.Sequence, s.Code, s.Data, ())) (Rep.prod (Rep.int .u8) (Rep.prod (Rep.int .u8) (Rep.prod (Rep.int .u8) (Rep.prod (Rep.int .u8) (Rep.prod (Rep.int .i64) (Rep.prod (Rep.int .i64) (Rep.prod (Rep.int .i64) (Rep.prod (Rep.int .u8) (Rep.prod (Rep.raw u4) Rep.unit))))))))))) h6 .z PA.z (GetS.ok GetS.id) (Ty.like ty51 (by rfl) (by rfl)) rfl rfl rfl (fun u5 h7 => ?_))
 refine op (OpS.storeC (f' := true) (fr := (Rep.iso (fun s : Message_ => (s.To, s.From, s.Function, s.Command, s.ToUnit, s.FromUnit, s.Sequence, s.Code, s.Data, ())) (Rep.prod (Rep.int .u8) (Rep.prod (Rep.int .u8) (Rep.prod (Rep.int .u8) (Rep.prod (Rep.int .u8) (Rep.prod (Rep.int .i64) (Rep.prod (Rep.int .i64) (Rep.prod (Rep.int .i64) (Rep.prod (Rep.int .u8) (Rep.prod (Rep.raw u4) Rep.unit))))))))))) (r' := (Rep.iso (fun s : Message_ => (s.To, s.From, s.Function, s.Command, s.ToUnit, s.FromUnit, s.Sequence, s.Code, s.Data, ())) (Rep.prod (Rep.int .u8) (Rep.prod (Rep.int .u8) (Rep.prod (Rep.int .u8) (Rep.prod (Rep.int .u8) (Rep.prod (Rep.int .i64) (Rep.prod (Rep.int .i64) (Rep.prod (Rep.int .i64) (Rep.prod (Rep.int .u8) (Rep.prod (Rep.raw u4) Rep.unit))))))))))) (x' := a0) h7 (.s (.s .z)) PA.z (Chg.id (by rfl)) (Ty.like ty51 (by rfl) (by rfl)) rfl rfl rfl (V.pure (V.at .z) (Pure.iso (Pure.prod Pure.int (Pure.prod Pure.int (Pure.prod Pure.int (Pure.prod Pure.int (Pure.prod Pure.int (Pure.prod Pure.int (Pure.prod Pure.int (Pure.prod Pure.int (Pure.prod Pure.raw Pure.unit))))))))))) (.inl rfl) (fun w5 h8 => ?_))
 refine RunL.nil ?_
 refine Run.slim [(2, u2)] ⟨rfl, trivial⟩ ?_
 obtain ⟨u6, hu1, h9⟩ := res_box h8 .z (Ty.like ty51 (by rfl) (by rfl))
 have h10 := (h9.pick (.s (.s .z))).freeze
 have h11 := h10.pick .z
 have h12 := St.boxJ (r' := Message_.rep) (x' := { a0 with Data := x1 }) h11 (fun _ _ hs_ => (Jn.iso _ (Jn.prod Jn.refl (Jn.prod Jn.refl (Jn.prod Jn.refl (Jn.prod Jn.refl (Jn.prod Jn.refl (Jn.prod Jn.refl (Jn.prod Jn.refl (Jn.prod Jn.refl (Jn.prod (Jn.raw ((V.at .z) _ _ hs_) rfl) Jn.refl)))))))))))
 have h13 := h12.pick (.s .z)
 have h14 := St.boxJ (r' := Message_.rep) (x' := { a0 with Data := x1 }) h13 (fun _ _ hs_ => (Jn.iso _ (Jn.prod Jn.refl (Jn.prod Jn.refl (Jn.prod Jn.refl (Jn.prod Jn.refl (Jn.prod Jn.refl (Jn.prod Jn.refl (Jn.prod Jn.refl (Jn.prod Jn.refl (Jn.prod (Jn.raw ((V.weak (V.at .z)) _ _ hs_) rfl) Jn.refl)))))))))))
 have h15 := St.addV (f := true) (r := Message_.rep) (x := { a0 with Data := x1 }) h14 (V.jn (r := (Rep.iso (fun s : Message_ => (s.To, s.From, s.Function, s.Command, s.ToUnit, s.FromUnit, s.Sequence, s.Code, s.Data, ())) (Rep.prod (Rep.int .u8) (Rep.prod (Rep.int .u8) (Rep.prod (Rep.int .u8) (Rep.prod (Rep.int .u8) (Rep.prod (Rep.int .i64) (Rep.prod (Rep.int .i64) (Rep.prod (Rep.int .i64) (Rep.prod (Rep.int .u8) (Rep.prod (Rep.raw u4) Rep.unit))))))))))) (x := a0) (V.at (.s .z)) rfl (fun _ _ hs_ => (Jn.iso _ (Jn.prod Jn.refl (Jn.prod Jn.refl (Jn.prod Jn.refl (Jn.prod Jn.refl (Jn.prod Jn.refl (Jn.prod Jn.refl (Jn.prod Jn.refl (Jn.prod Jn.refl (Jn.prod (Jn.raw ((V.at .z) _ _ hs_) rfl) Jn.refl))))))))))))
 refine Run.retP rfl (.cell rfl hu1 .nil) ?_
 cases hF
 exact Post.mk' ⟨u6, rfl, rfl, rfl, rfl⟩ (h15.picks .nil) (.val (V.at .z) .nil)
theorem exchange_clone_ok {fuel : Nat} {a0 : Requester_} {y : Requester_} (hF : exchange_clone fuel a0 = some y) {w : World} {v0 : Value} :
  Spec Try.prog 38 [v0].toArray w [(false, .val Requester_.rep v0 a0)] [] (fun v Γr Ωr Ωo => ∃ u0 u0_0 : Value, v = u0 ∧ Γr = [(false, .val (Rep.iso (fun s : Requester_ => (s.Own, s.Next, s.Pending, ())) (Rep.prod (Rep.int .u8) (Rep.prod (Rep.int .i64) (Rep.prod (Rep.raw u0_0) Rep.unit)))) u0 y)] ∧ Ωr = [(false, .slice 55 Pending_.rep u0_0 y.Pending)] ∧ Ωo = []) := by
 refine Spec.of (L := [(0, v0)]) Try.func38 rfl ⟨rfl, trivial⟩ rfl (fun e h => ?_)
 unfold exchange_clone at hF
 refine Run.seq ?_
 refine Run.reg ?_
 refine op (OpS.boxF h rfl rfl rfl (V.at .z) (fun u1 w1 h1 => ?_))
 refine op (OpS.alloc h1 ti26 Requester_.zr rfl rfl (fun u2 w2 h2 => ?_))
 refine RunL.nil ?_
 refine Run.slim [(2, u2), (1, u1)] ⟨rfl, rfl, trivial⟩ ?_
 refine Run.seq ?_
 refine Run.reg ?_
 refine op (OpS.fbox (o3 := 2) h2 (.s .z) PA.z fa26_2 rfl rfl rfl rfl ?_)
 refine op (OpS.loadB h2 (.s .z) PA.a (Get.fld Requester_.f2) ty24 rfl rfl rfl (fun u3 h3 => ?_))
 refine op (OpS.len h3 Try.underlying24 rfl rfl rfl (V.at .z) ?_)
 refine op (OpS.bin rfl rfl rfl rfl rfl ?_)
 obtain ⟨x1, e1, hF⟩ := bindP_use hF
 obtain ⟨e2, hF⟩ := chk_use hF
 obtain ⟨e3, hF⟩ := chk_use hF
 refine op (OpS.make h3 Try.underlying24 ti55 rfl rfl Pending_.zr rfl rfl rfl rfl e1 e2 e3 rfl (fun u4 w3 h4 => ?_))
 refine op (OpS.as rfl rfl rfl ?_)
 refine RunL.nil ?_
 refine Run.slim [(3, u4), (2, u2), (1, u1)] ⟨rfl, rfl, rfl, trivial⟩ ?_
 refine Run.seq ?_
 refine Run.seq ?_
 refine Run.reg ?_
 refine op (OpS.fbox (o3 := 2) h4 (.s (.s .z)) PA.z fa26_2 rfl rfl rfl rfl ?_)
 refine op (OpS.loadB h4 (.s (.s .z)) PA.a (Get.fld Requester_.f2) ty24 rfl rfl rfl (fun u5 h5 => ?_))
 refine op (OpS.len h5 Try.underlying24 rfl rfl rfl (V.at .z) ?_)
 refine op (OpS.mv rfl rfl rfl ?_)
 refine RunL.nil ?_
 refine Run.slim [(14, .int .i64 0), (13, .int .i64 (a0.Pending.length : Int)), (12, u5), (3, u4), (2, u2), (1, u1)] ⟨rfl, rfl, rfl, rfl, rfl, rfl, trivial⟩ ?_
 refine Run.block ?_
 have h6 := (h5.pick .z).weak
 refine Run.slim [(1, u1), (2, u2), (3, u4), (12, u5), (13, .int .i64 (a0.Pending.length : Int)), (14, .int .i64 0)] ⟨rfl, rfl, rfl, rfl, rfl, rfl, trivial⟩ ?_
 refine Run.loopP (σ := (Int × (List Pending_))) (fun s_ L_ w_ => ∃ u0_ : Value, L_ = [(1, u1), (2, u2), (3, u0_), (12, u5), (13, .int .i64 (a0.Pending.length : Int)), (14, .int .i64 s_.1)] ∧ St e w_ [(false, .val (Rep.slice Pending_.rep) u5 a0.Pending)] [(false, .box 26 Requester_.rep u1 a0), (true, .box 26 Requester_.rep u2 Requester_.z), (false, .slice 55 Pending_.rep u0_ s_.2)]) hF ⟨u4, rfl, (h6.facts (.atm .z .nil)).picks (.cons (.s (.s .z)) (.cons (.s .z) (.cons .z .nil)))⟩ (fun k1 hk1 s1 _ w4 hI hF => ?_)
 obtain ⟨u6, rfl, h7⟩ := hI
 refine Run.seq ?_
 refine Run.reg ?_
 refine op (OpS.bin rfl rfl rfl rfl rfl ?_)
 refine RunL.nil ?_
 refine Run.seq ?_
 refine Run.ite rfl hF (fun e4 hF => ?_) (fun e4 hF => ?_)
 ·
  refine Run.skip ?_
  refine Run.seq ?_
  refine Run.block ?_
  refine Run.seq ?_
  refine Run.reg ?_
  obtain ⟨x2, e5, hF⟩ := bindP_use hF
  refine op (OpS.iptr h7 Try.underlying24 ty55 rfl rfl rfl rfl (V.at .z) e5 (fun u7 h8 => ?_))
  refine op (OpS.load h8 ty55 rfl rfl rfl .z (fun u8 h9 => ?_))
  refine op (OpS.alloc h9 ti55 Pending_.zr rfl rfl (fun u9 w5 h10 => ?_))
  have h11 := (h10.pick .z).weak
  refine op (OpS.storeB (f' := false) h11 .z PA.z Put.id ty55 rfl rfl rfl (V.at .z) (.inr rfl) (fun w6 h12 => ?_))
  refine RunL.nil ?_
  refine Run.slim [(5, u9), (1, u1), (2, u2), (3, u6), (12, u5), (13, .int .i64 (a0.Pending.length : Int)), (14, .int .i64 s1.1)] ⟨rfl, rfl, rfl, rfl, rfl, rfl, rfl, trivial⟩ ?_
  refine Run.seq ?_
  refine Run.reg ?_
  refine op (OpS.fbox (o3 := 0) h12 .z PA.z fa55_0 rfl rfl rfl rfl ?_)
  refine op (OpS.loadB h12 .z PA.a (Get.fld Pending_.f0) ty51 rfl rfl rfl (fun u10 h13 => ?_))
  obtain ⟨y1, e6, hF⟩ := bindP_use hF
  refine op (OpS.callP h13 Try.func36 rfl rfl rfl rfl (vs := [u10]) rfl (exchange_copied_ok e6) (.cons (f := false) (V.at .z) .nil) ?_)
  rintro u11 w7 _ _ _ ⟨_, rfl, rfl, rfl, rfl⟩ h14
  have h15 := h14 rfl rfl
  simp only [List.cons_append, List.nil_append] at h15
  refine op (OpS.fbox (o3 := 0) h15 .z PA.z fa55_0 rfl rfl rfl rfl ?_)
  obtain ⟨d1, e7, hF⟩ := letP_use hF
  refine op (OpS.storeB (f' := false) h15 .z PA.a (Put.of (Put.fld Pending_.f0) e7) ty51 rfl rfl rfl (V.weak (V.at .z)) (.inr rfl) (fun w8 h16 => ?_))
  refine RunL.nil ?_
  refine Run.slim [(5, u9), (1, u1), (2, u2), (3, u6), (12, u5), (13, .int .i64 (a0.Pending.length : Int)), (14, .int .i64 s1.1)] ⟨rfl, rfl, rfl, rfl, rfl, rfl, rfl, trivial⟩ ?_
  refine Run.reg ?_
  refine op (OpS.mv rfl rfl rfl ?_)
  refine op (OpS.loadB h16 .z PA.z Get.id ty55 rfl rfl rfl (fun u12 h17 => ?_))
  refine op (OpS.lit (r := Pending_.rep) (f := false) h17 Try.underlying24 ti55 rfl rfl rfl rfl rfl (.cons rfl (V.at .z) .nil) rfl rfl (fun u13 w9 h18 => ?_))
  obtain ⟨x3, e8, hF⟩ := bindP_use hF
  refine op (OpS.app (f' := false) h18 (.s (.s (.s .z))) Try.underlying24 ti55 rfl rfl rfl rfl rfl rfl rfl (V.at .z) (.inl (.inr rfl)) e8 (fun u14 w10 h19 => ?_))
  refine op (OpS.as rfl rfl rfl ?_)
  refine RunL.nil ?_
  refine Run.slim [(3, u14), (1, u1), (2, u2), (12, u5), (13, .int .i64 (a0.Pending.length : Int)), (14, .int .i64 s1.1)] ⟨rfl, rfl, rfl, rfl, rfl, rfl, trivial⟩ ?_
  refine Run.endBlock ?_
  refine Run.reg ?_
  refine op (OpS.bin rfl rfl rfl rfl rfl ?_)
  refine op (OpS.mv rfl rfl rfl ?_)
  refine RunL.nil ?_
  refine Run.slim [(14, .int .i64 (IntKind.i64.wrap (s1.1 + 1))), (3, u14), (1, u1), (2, u2), (12, u5), (13, .int .i64 (a0.Pending.length : Int))] ⟨rfl, rfl, rfl, rfl, rfl, rfl, trivial⟩ ?_
  refine Run.slim [(1, u1), (2, u2), (3, u14), (12, u5), (13, .int .i64 (a0.Pending.length : Int)), (14, .int .i64 (IntKind.i64.wrap (s1.1 + 1)))] ⟨rfl, rfl, rfl, rfl, rfl, rfl, trivial⟩ ?_
  exact hk1 ((IntKind.i64.wrap (s1.1 + 1)), x3) _ _ ⟨u14, rfl, (h19.facts (.atm (.s (.s (.s (.s (.s (.s .z)))))) .nil)).picks (.cons (.s (.s .z)) (.cons (.s (.s .z)) (.cons .z .nil)))⟩ hF
 ·
  refine Run.exit rfl ?_
  refine Run.seq ?_
  refine Run.reg ?_
  refine op (OpS.mv rfl rfl rfl ?_)
  refine op (OpS.fbox (o3 := 2) h7 .z PA.z fa26_2 rfl rfl rfl rfl ?_)
  refine op (OpS.storeC (f' := false) (fr := (Rep.raw u6)) (r' := (Rep.iso (fun s : Requester_ => (s.Own, s.Next, s.Pending, ())) (Rep.prod (Rep.int .u8) (Rep.prod (Rep.int .i64) (Rep.prod (Rep.raw u6) Rep.unit))))) (x' := a0) h7 .z PA.a (Chg.iso _ (Chg.there (Chg.there (Chg.here (Chg.id (by rfl)))))) (Ty.like ty24 (by rfl) (by rfl)) rfl rfl rfl (V.raw (f := false) (St.own1 h7 (.s (.s .z))) a0.Pending) (.inr rfl) (fun w11 h20 => ?_))
  refine RunL.nil ?_
  refine Run.slim [(1, u1), (2, u2)] ⟨rfl, rfl, trivial⟩ ?_
  refine Run.seq ?_
  refine Run.reg ?_
  refine op (OpS.loadB (fr := (Rep.iso (fun s : Requester_ => (s.Own, s.Next, s.Pending, ())) (Rep.prod (Rep.int .u8) (Rep.prod (Rep.int .i64) (Rep.prod (Rep.raw u6) Rep.unit))))) h20 .z PA.z (GetS.ok GetS.id) (Ty.like ty26 (by rfl) (by rfl)) rfl rfl rfl (fun u15 h21 => ?_))
  refine op (OpS.storeC (f' := true) (fr := (Rep.iso (fun s : Requester_ => (s.Own, s.Next, s.Pending, ())) (Rep.prod (Rep.int .u8) (Rep.prod (Rep.int .i64) (Rep.prod (Rep.raw u6) Rep.unit))))) (r' := (Rep.iso (fun s : Requester_ => (s.Own, s.Next, s.Pending, ())) (Rep.prod (Rep.int .u8) (Rep.prod (Rep.int .i64) (Rep.prod (Rep.raw u6) Rep.unit))))) (x' := a0) h21 (.s .z) PA.z (Chg.id (by rfl)) (Ty.like ty26 (by rfl) (by rfl)) rfl rfl rfl (V.pure (V.at .z) (Pure.iso (Pure.prod Pure.int (Pure.prod Pure.int (Pure.prod Pure.raw Pure.unit))))) (.inl rfl) (fun w12 h22 => ?_))
  refine RunL.nil ?_
  refine Run.slim [(2, u2)] ⟨rfl, trivial⟩ ?_
  obtain ⟨u16, hu1, h23⟩ := res_box h22 .z (Ty.like ty26 (by rfl) (by rfl))
  refine Run.retP rfl (.cell rfl hu1 .nil) ?_
  cases hF
  exact Post.mk' ⟨u16, u6, rfl, rfl, rfl, rfl⟩ (h23.picks (.cons (.s (.s .z)) .nil)) (.val (V.jn (r := (Rep.iso (fun s : Requester_ => (s.Own, s.Next, s.Pending, ())) (Rep.prod (Rep.int .u8) (Rep.prod (Rep.int .i64) (Rep.prod (Rep.raw u6) Rep.unit))))) (x := a0) (x' := { a0 with Pending := s1.2 }) (V.weak (V.at .z)) rfl (fun _ _ _ => (Jn.iso _ (Jn.prod Jn.refl (Jn.prod Jn.refl (Jn.prod Jn.same Jn.refl)))))) .nil)
set_option maxHeartbeats 8000000 in
theorem exchange_Send_ok {fuel : Nat} {a0 : Requester_} {a1 : Int} {a2 : Int} {a3 : Int} {a4 : List Int} {a5 : Int} {y : Requester_ × (List Int) × Int} (hF : exchange_Send fuel a0 a1 a2 a3 a4 a5 = some y) {w : World} {v0 v4 : Value} :
  Spec Try.prog 10 [v0, .int .u8 a1, .int .u8 a2, .int .u8 a3, v4, .int .i64 a5].toArray w [(false, .val Requester_.rep v0 a0), (false, .val (Rep.slice (Rep.int .u8)) v4 a4)] [] (fun v Γr Ωr Ωo => ∃ u0 u1 : Value, v = .tuple #[u0, u1, .int .i64 y.2.2] ∧ Γr = [(false, .val Requester_.rep u0 y.1), (true, .val (Rep.slice (Rep.int .u8)) u1 y.2.1)] ∧ Ωr = [] ∧ Ωo = []) := by
 refine Spec.of (L := [(0, v0), (1, .int .u8 a1), (2, .int .u8 a2), (3, .int .u8 a3), (4, v4), (5, .int .i64 a5)]) Try.func10 rfl ⟨rfl, rfl, rfl, rfl, rfl, rfl, trivial⟩ rfl (fun e h => ?_)
 unfold exchange_Send at hF
 refine Run.seq ?_
 refine Run.reg ?_
 refine op (OpS.boxF h rfl rfl rfl (V.at .z) (fun u1 w1 h1 => ?_))
 refine op (OpS.alloc h1 ti26 Requester_.zr rfl rfl (fun u2 w2 h2 => ?_))
 refine op (OpS.as rfl rfl rfl ?_)
 refine op (OpS.as rfl rfl rfl ?_)
 refine RunL.nil ?_
 refine Run.slim [(12, u2), (6, u1), (1, .int .u8 a1), (2, .int .u8 a2), (3, .int .u8 a3), (4, v4), (5, .int .i64 a5)] ⟨rfl, rfl, rfl, rfl, rfl, rfl, rfl, trivial⟩ ?_
 refine Run.scope ?_
 refine Run.seq ?_
 refine Run.block ?_
 refine Run.seq ?_
 refine Run.reg ?_
 refine op (OpS.loadB h2 (.s .z) PA.z Get.id ty26 rfl rfl rfl (fun u3 h3 => ?_))
 obtain ⟨y1, e1, hF⟩ := bindP_use hF
 refine op (OpS.callP h3 Try.func19 rfl rfl rfl rfl (vs := [u3]) rfl (exchange_Valid_ok e1) (.cons (f := false) (V.at .z) .nil) ?_)
 rintro _ w3 _ _ _ ⟨rfl, rfl, rfl, rfl⟩ h4
 have h5 := h4 rfl rfl
 simp only [List.cons_append, List.nil_append] at h5
 refine op (OpS.not rfl rfl rfl ?_)
 refine op (OpS.as rfl rfl rfl ?_)
 obtain ⟨x1, e2, hF⟩ := letP_use hF
 refine RunL.nameb e2 ?_
 refine RunL.nil ?_
 refine Run.slim [(22, .bool x1), (12, u2), (6, u1), (1, .int .u8 a1), (2, .int .u8 a2), (3, .int .u8 a3), (4, v4), (5, .int .i64 a5)] ⟨rfl, rfl, rfl, rfl, rfl, rfl, rfl, rfl, trivial⟩ ?_
 refine Run.ite rfl hF (fun e3 hF => ?_) (fun e3 hF => ?_)
 ·
  refine Run.seq ?_
  refine Run.reg ?_
  refine op (OpS.build (f := true) (x' := Requester_.z) h5 pl26 ti26 Requester_.zr rfl rfl rfl .nil (fun u4 h6 => ?_))
  refine op (OpS.storeB (f' := true) h6 .z PA.z Put.id ty26 rfl rfl rfl (V.at .z) (.inl rfl) (fun w4 h7 => ?_))
  refine op (OpS.as rfl rfl rfl ?_)
  refine op (OpS.as rfl rfl rfl ?_)
  refine RunL.nil ?_
  refine Run.slim [(14, .int .i64 1), (13, .slice none 0 0), (12, u2)] ⟨rfl, rfl, rfl, trivial⟩ ?_
  obtain ⟨u5, hu1, h8⟩ := res_box h7 .z ty26
  refine Run.retP rfl (.cell rfl hu1 (.tmp rfl (.tmp rfl .nil))) ?_
  cases hF
  exact Post.mk' ⟨u5, .slice none 0 0, rfl, rfl, rfl, rfl⟩ (h8.picks .nil) (.val (V.weak (V.at .z)) (.val V.nil .nil))
 ·
  refine Run.seq ?_
  refine Run.reg ?_
  refine op (OpS.mv rfl rfl rfl ?_)
  refine op (OpS.bin rfl rfl rfl rfl rfl ?_)
  refine op (OpS.mv rfl rfl rfl ?_)
  refine RunL.join (σ := Bool) (fun s_ L_ w_ => L_ = [(1, .int .u8 a1), (2, .int .u8 a2), (3, .int .u8 a3), (4, v4), (5, .int .i64 a5), (6, u1), (12, u2), (27, .bool s_)] ∧ St e w_ [(false, .val (Rep.slice (Rep.int .u8)) v4 a4)] [(false, .box 26 Requester_.rep u1 a0), (true, .box 26 Requester_.rep u2 Requester_.z)]) hF (fun s1 _ w5 hI hF => ?_) (fun j1 hj1 hF => ?_)
  ·
   obtain ⟨rfl, h9⟩ := hI
   refine Run.ite rfl hF (fun e4 hF => ?_) (fun e4 hF => ?_)
   ·
    refine Run.seq ?_
    refine Run.reg ?_
    refine op (OpS.build (f := true) (x' := Requester_.z) h9 pl26 ti26 Requester_.zr rfl rfl rfl .nil (fun u6 h10 => ?_))
    refine op (OpS.storeB (f' := true) h10 (.s .z) PA.z Put.id ty26 rfl rfl rfl (V.at .z) (.inl rfl) (fun w6 h11 => ?_))
    refine op (OpS.as rfl rfl rfl ?_)
    refine op (OpS.as rfl rfl rfl ?_)
    refine RunL.nil ?_
    refine Run.slim [(14, .int .i64 2), (13, .slice none 0 0), (12, u2)] ⟨rfl, rfl, rfl, trivial⟩ ?_
    obtain ⟨u7, hu2, h12⟩ := res_box h11 .z ty26
    refine Run.retP rfl (.cell rfl hu2 (.tmp rfl (.tmp rfl .nil))) ?_
    cases hF
    exact Post.mk' ⟨u7, .slice none 0 0, rfl, rfl, rfl, rfl⟩ (h12.picks .nil) (.val (V.weak (V.at .z)) (.val V.nil .nil))
   ·
    refine Run.seq ?_
    refine Run.reg ?_
    refine op (OpS.fbox (o3 := 2) h9 .z PA.z fa26_2 rfl rfl rfl rfl ?_)
    refine op (OpS.loadB h9 .z PA.a (Get.fld Requester_.f2) ty24 rfl rfl rfl (fun u8 h13 => ?_))
    refine op (OpS.len h13 Try.underlying24 rfl rfl rfl (V.at .z) ?_)
    refine op (OpS.bin rfl rfl rfl rfl rfl ?_)
    refine op (OpS.as rfl rfl rfl ?_)
    obtain ⟨x2, e5, hF⟩ := letP_use hF
    refine RunL.nameb e5 ?_
    refine RunL.nil ?_
    refine Run.slim [(35, .bool x2), (1, .int .u8 a1), (2, .int .u8 a2), (3, .int .u8 a3), (4, v4), (5, .int .i64 a5), (6, u1), (12, u2)] ⟨rfl, rfl, rfl, rfl, rfl, rfl, rfl, rfl, trivial⟩ ?_
    refine Run.ite rfl hF (fun e6 hF => ?_) (fun e6 hF => ?_)
    ·
     refine Run.seq ?_
     refine Run.reg ?_
     refine op (OpS.build (f := true) (x' := Requester_.z) h13 pl26 ti26 Requester_.zr rfl rfl rfl .nil (fun u9 h14 => ?_))
     refine op (OpS.storeB (f' := true) h14 (.s .z) PA.z Put.id ty26 rfl rfl rfl (V.at .z) (.inl rfl) (fun w7 h15 => ?_))
     refine op (OpS.as rfl rfl rfl ?_)
     refine op (OpS.as rfl rfl rfl ?_)
     refine RunL.nil ?_
     refine Run.slim [(14, .int .i64 9), (13, .slice none 0 0), (12, u2)] ⟨rfl, rfl, rfl, trivial⟩ ?_
     obtain ⟨u10, hu3, h16⟩ := res_box h15 .z ty26
     refine Run.retP rfl (.cell rfl hu3 (.tmp rfl (.tmp rfl .nil))) ?_
     cases hF
     exact Post.mk' ⟨u10, .slice none 0 0, rfl, rfl, rfl, rfl⟩ (h16.picks .nil) (.val (V.weak (V.at .z)) (.val V.nil .nil))
    ·
     refine Run.skip ?_
     refine Run.endBlock ?_
     refine Run.seq ?_
     refine Run.reg ?_
     refine op (OpS.fbox (o3 := 1) h13 .z PA.z fa26_1 rfl rfl rfl rfl ?_)
     refine op (OpS.loadBi h13 .z PA.a (Get.fld Requester_.f1) ty3 rfl rfl rfl ?_)
     refine op (OpS.bin rfl rfl rfl rfl rfl ?_)
     refine op (OpS.as rfl rfl rfl ?_)
     obtain ⟨x3, e7, hF⟩ := letP_use hF
     refine RunL.name e7 ?_
     refine RunL.nil ?_
     refine Run.slim [(15, .int .i64 x3), (1, .int .u8 a1), (2, .int .u8 a2), (3, .int .u8 a3), (4, v4), (5, .int .i64 a5), (6, u1), (12, u2)] ⟨rfl, rfl, rfl, rfl, rfl, rfl, rfl, rfl, trivial⟩ ?_
     refine Run.seq ?_
     refine Run.label ?_
     refine Run.seq ?_
     refine Run.block ?_
     refine Run.slim [(1, .int .u8 a1), (2, .int .u8 a2), (3, .int .u8 a3), (4, v4), (5, .int .i64 a5), (6, u1), (12, u2), (15, .int .i64 x3)] ⟨rfl, rfl, rfl, rfl, rfl, rfl, rfl, rfl, trivial⟩ ?_
     refine Run.loopP (σ := Int) (fun s_ L_ w_ => L_ = [(1, .int .u8 a1), (2, .int .u8 a2), (3, .int .u8 a3), (4, v4), (5, .int .i64 a5), (6, u1), (12, u2), (15, .int .i64 s_)] ∧ St e w_ [(false, .val (Rep.slice (Rep.int .u8)) v4 a4)] [(false, .box 26 Requester_.rep u1 a0), (true, .box 26 Requester_.rep u2 Requester_.z)]) hF ⟨rfl, (h13.facts (.atm (.s .z) .nil)).picks (.cons .z (.cons .z .nil))⟩ (fun k1 hk1 s2 _ w8 hI hF => ?_)
     obtain ⟨rfl, h17⟩ := hI
     refine Run.block ?_
     refine Run.seq ?_
     refine Run.reg ?_
     refine op (OpS.mv rfl rfl rfl ?_)
     refine op (OpS.bin rfl rfl rfl rfl rfl ?_)
     refine op (OpS.rem rfl rfl rfl rfl (by decide) ?_)
     refine op (OpS.as rfl rfl rfl ?_)
     obtain ⟨x4, e8, hF⟩ := letP_use hF
     refine RunL.name e8 ?_
     refine RunL.nil ?_
     refine Run.slim [(15, .int .i64 x4), (1, .int .u8 a1), (2, .int .u8 a2), (3, .int .u8 a3), (4, v4), (5, .int .i64 a5), (6, u1), (12, u2)] ⟨rfl, rfl, rfl, rfl, rfl, rfl, rfl, rfl, trivial⟩ ?_
     refine Run.seq ?_
     refine Run.seq ?_
     refine Run.reg ?_
     refine op (OpS.fbox (o3 := 2) h17 .z PA.z fa26_2 rfl rfl rfl rfl ?_)
     refine op (OpS.loadB h17 .z PA.a (Get.fld Requester_.f2) ty24 rfl rfl rfl (fun u11 h18 => ?_))
     refine op (OpS.len h18 Try.underlying24 rfl rfl rfl (V.at .z) ?_)
     refine op (OpS.mv rfl rfl rfl ?_)
     refine RunL.nil ?_
     refine Run.slim [(50, .int .i64 0), (49, .int .i64 (a0.Pending.length : Int)), (48, u11), (15, .int .i64 x4), (1, .int .u8 a1), (2, .int .u8 a2), (3, .int .u8 a3), (4, v4), (5, .int .i64 a5), (6, u1), (12, u2)] ⟨rfl, rfl, rfl, rfl, rfl, rfl, rfl, rfl, rfl, rfl, rfl, trivial⟩ ?_
     refine Run.block ?_
     refine Run.slim [(1, .int .u8 a1), (2, .int .u8 a2), (3, .int .u8 a3), (4, v4), (5, .int .i64 a5), (6, u1), (12, u2), (15, .int .i64 x4), (48, u11), (49, .int .i64 (a0.Pending.length : Int)), (50, .int .i64 0)] ⟨rfl, rfl, rfl, rfl, rfl, rfl, rfl, rfl, rfl, rfl, rfl, trivial⟩ ?_
     refine Run.loopP (σ := Int) (fun s_ L_ w_ => L_ = [(1, .int .u8 a1), (2, .int .u8 a2), (3, .int .u8 a3), (4, v4), (5, .int .i64 a5), (6, u1), (12, u2), (15, .int .i64 x4), (48, u11), (49, .int .i64 (a0.Pending.length : Int)), (50, .int .i64 s_)] ∧ St e w_ [(false, .val (Rep.slice (Rep.int .u8)) v4 a4), (false, .val (Rep.slice Pending_.rep) u11 a0.Pending)] [(false, .box 26 Requester_.rep u1 a0), (true, .box 26 Requester_.rep u2 Requester_.z)]) hF ⟨rfl, (h18.facts (.atm (.s .z) (.atm .z .nil))).picks (.cons .z (.cons .z .nil))⟩ (fun k2 hk2 s3 _ w9 hI hF => ?_)
     obtain ⟨rfl, h19⟩ := hI
     refine Run.seq ?_
     refine Run.reg ?_
     refine op (OpS.bin rfl rfl rfl rfl rfl ?_)
     refine RunL.nil ?_
     refine Run.seq ?_
     refine Run.ite rfl hF (fun e9 hF => ?_) (fun e9 hF => ?_)
     ·
      refine Run.skip ?_
      refine Run.seq ?_
      refine Run.block ?_
      refine Run.seq ?_
      refine Run.reg ?_
      obtain ⟨x5, e10, hF⟩ := bindP_use hF
      refine op (OpS.iptr h19 Try.underlying24 ty55 rfl rfl rfl rfl (V.at (.s .z)) e10 (fun u12 h20 => ?_))
      refine op (OpS.load h20 ty55 rfl rfl rfl .z (fun u13 h21 => ?_))
      refine op (OpS.alloc h21 ti55 Pending_.zr rfl rfl (fun u14 w10 h22 => ?_))
      have h23 := (h22.pick .z).weak
      refine op (OpS.storeB (f' := false) h23 .z PA.z Put.id ty55 rfl rfl rfl (V.at .z) (.inr rfl) (fun w11 h24 => ?_))
      refine RunL.nil ?_
      refine Run.slim [(17, u14), (1, .int .u8 a1), (2, .int .u8 a2), (3, .int .u8 a3), (4, v4), (5, .int .i64 a5), (6, u1), (12, u2), (15, .int .i64 x4), (48, u11), (49, .int .i64 (a0.Pending.length : Int)), (50, .int .i64 s3)] ⟨rfl, rfl, rfl, rfl, rfl, rfl, rfl, rfl, rfl, rfl, rfl, rfl, trivial⟩ ?_
      refine Run.seq ?_
      refine Run.reg ?_
      refine op (OpS.fbox (o3 := 0) h24 .z PA.z fa55_0 rfl rfl rfl rfl ?_)
      refine op (OpS.fbox (o3 := 0) h24 .z PA.a fa51_0 rfl rfl rfl rfl ?_)
      refine op (OpS.loadBi h24 .z PA.a (Get.comp (Get.fld Pending_.f0) (Get.fld Message_.f0)) ty5 rfl rfl rfl ?_)
      refine op (OpS.mv rfl rfl rfl ?_)
      refine op (OpS.bin rfl rfl rfl rfl rfl ?_)
      refine op (OpS.mv rfl rfl rfl ?_)
      refine RunL.join (σ := Bool) (fun s_ L_ w_ => L_ = [(1, .int .u8 a1), (2, .int .u8 a2), (3, .int .u8 a3), (4, v4), (5, .int .i64 a5), (6, u1), (12, u2), (15, .int .i64 x4), (48, u11), (49, .int .i64 (a0.Pending.length : Int)), (50, .int .i64 s3), (65, .bool s_)] ∧ St e w_ [(false, .val (Rep.slice (Rep.int .u8)) v4 a4), (false, .val (Rep.slice Pending_.rep) u11 a0.Pending)] [(false, .box 26 Requester_.rep u1 a0), (true, .box 26 Requester_.rep u2 Requester_.z)]) hF (fun s4 _ w12 hI hF => ?_) (fun j2 hj2 hF => ?_)
      ·
       obtain ⟨rfl, h25⟩ := hI
       refine Run.ite rfl hF (fun e11 hF => ?_) (fun e11 hF => ?_)
       ·
        refine Run.exit rfl ?_
        refine Run.slim [(1, .int .u8 a1), (2, .int .u8 a2), (3, .int .u8 a3), (4, v4), (5, .int .i64 a5), (6, u1), (12, u2), (15, .int .i64 x4)] ⟨rfl, rfl, rfl, rfl, rfl, rfl, rfl, rfl, trivial⟩ ?_
        exact hk1 (x4) _ _ ⟨rfl, (h25.facts (.atm .z .nil)).picks (.cons .z (.cons .z .nil))⟩ hF
       ·
        refine Run.skip ?_
        refine Run.endBlock ?_
        refine Run.reg ?_
        refine op (OpS.bin rfl rfl rfl rfl rfl ?_)
        refine op (OpS.mv rfl rfl rfl ?_)
        refine RunL.nil ?_
        refine Run.slim [(50, .int .i64 (IntKind.i64.wrap (s3 + 1))), (1, .int .u8 a1), (2, .int .u8 a2), (3, .int .u8 a3), (4, v4), (5, .int .i64 a5), (6, u1), (12, u2), (15, .int .i64 x4), (48, u11), (49, .int .i64 (a0.Pending.length : Int))] ⟨rfl, rfl, rfl, rfl, rfl, rfl, rfl, rfl, rfl, rfl, rfl, trivial⟩ ?_
        refine Run.slim [(1, .int .u8 a1), (2, .int .u8 a2), (3, .int .u8 a3), (4, v4), (5, .int .i64 a5), (6, u1), (12, u2), (15, .int .i64 x4), (48, u11), (49, .int .i64 (a0.Pending.length : Int)), (50, .int .i64 (IntKind.i64.wrap (s3 + 1)))] ⟨rfl, rfl, rfl, rfl, rfl, rfl, rfl, rfl, rfl, rfl, rfl, trivial⟩ ?_
        exact hk2 ((IntKind.i64.wrap (s3 + 1))) _ _ ⟨rfl, (h25.facts (.atm .z (.atm (.s .z) .nil))).picks (.cons .z (.cons .z .nil))⟩ hF
      ·
       refine RunL.caseb hF (fun e12 hF => ?_) (fun e12 hF => ?_)
       ·
        refine op (OpS.fbox (o3 := 0) h24 .z PA.z fa55_0 rfl rfl rfl rfl ?_)
        refine op (OpS.fbox (o3 := 6) h24 .z PA.a fa51_6 rfl rfl rfl rfl ?_)
        refine op (OpS.loadBi h24 .z PA.a (Get.comp (Get.fld Pending_.f0) (Get.fld Message_.f6)) ty3 rfl rfl rfl ?_)
        refine op (OpS.mv rfl rfl rfl ?_)
        refine op (OpS.bin rfl rfl rfl rfl rfl ?_)
        refine op (OpS.pick rfl rfl rfl rfl ?_)
        refine RunL.nil ?_
        refine Run.slim [(65, .bool (x5.Request.Sequence == x4)), (1, .int .u8 a1), (2, .int .u8 a2), (3, .int .u8 a3), (4, v4), (5, .int .i64 a5), (6, u1), (12, u2), (15, .int .i64 x4), (48, u11), (49, .int .i64 (a0.Pending.length : Int)), (50, .int .i64 s3)] ⟨rfl, rfl, rfl, rfl, rfl, rfl, rfl, rfl, rfl, rfl, rfl, rfl, trivial⟩ ?_
        refine Run.slim [(1, .int .u8 a1), (2, .int .u8 a2), (3, .int .u8 a3), (4, v4), (5, .int .i64 a5), (6, u1), (12, u2), (15, .int .i64 x4), (48, u11), (49, .int .i64 (a0.Pending.length : Int)), (50, .int .i64 s3), (65, .bool (x5.Request.Sequence == x4))] ⟨rfl, rfl, rfl, rfl, rfl, rfl, rfl, rfl, rfl, rfl, rfl, rfl, trivial⟩ ?_
        exact hj2 (x5.Request.Sequence == x4) _ _ ⟨rfl, (h24.facts (.atm (.s (.s .z)) (.atm (.s (.s (.s .z))) .nil))).picks (.cons (.s .z) (.cons (.s .z) .nil))⟩ hF
       ·
        refine op (OpS.pass rfl rfl rfl ?_)
        refine op (OpS.pass rfl rfl rfl ?_)
        refine op (OpS.pass rfl rfl rfl ?_)
        refine op (OpS.pass rfl rfl rfl ?_)
        refine op (OpS.pass rfl rfl rfl ?_)
        refine op (OpS.pick rfl rfl rfl rfl ?_)
        refine RunL.nil ?_
        refine Run.slim [(65, .bool false), (1, .int .u8 a1), (2, .int .u8 a2), (3, .int .u8 a3), (4, v4), (5, .int .i64 a5), (6, u1), (12, u2), (15, .int .i64 x4), (48, u11), (49, .int .i64 (a0.Pending.length : Int)), (50, .int .i64 s3)] ⟨rfl, rfl, rfl, rfl, rfl, rfl, rfl, rfl, rfl, rfl, rfl, rfl, trivial⟩ ?_
        refine Run.slim [(1, .int .u8 a1), (2, .int .u8 a2), (3, .int .u8 a3), (4, v4), (5, .int .i64 a5), (6, u1), (12, u2), (15, .int .i64 x4), (48, u11), (49, .int .i64 (a0.Pending.length : Int)), (50, .int .i64 s3), (65, .bool false)] ⟨rfl, rfl, rfl, rfl, rfl, rfl, rfl, rfl, rfl, rfl, rfl, rfl, trivial⟩ ?_
        exact hj2 (false) _ _ ⟨rfl, (h24.facts (.atm (.s (.s .z)) (.atm (.s (.s (.s .z))) .nil))).picks (.cons (.s .z) (.cons (.s .z) .nil))⟩ hF
     ·
      refine Run.exit rfl ?_
      refine Run.exit rfl ?_
      refine Run.seq ?_
      refine Run.reg ?_
      refine op (OpS.mv rfl rfl rfl ?_)
      refine op (OpS.fbox (o3 := 0) h19 .z PA.z fa26_0 rfl rfl rfl rfl ?_)
      refine op (OpS.loadBi h19 .z PA.a (Get.fld Requester_.f0) ty5 rfl rfl rfl ?_)
      refine op (OpS.mv rfl rfl rfl ?_)
      refine op (OpS.mv rfl rfl rfl ?_)
      refine op (OpS.mv rfl rfl rfl ?_)
      refine op (OpS.mv rfl rfl rfl ?_)
      refine op (OpS.build (f := false) (x' := (⟨a1, a0.Own, a2, a3, 0, 0, x4, 0, a4⟩ : Message_)) h19 pl51 ti51 Message_.zr rfl rfl rfl (.cons rfl Message_.f0 rfl V.int (.cons rfl Message_.f1 rfl V.int (.cons rfl Message_.f2 rfl V.int (.cons rfl Message_.f3 rfl V.int (.cons rfl Message_.f6 rfl V.int (.cons rfl Message_.f8 rfl (V.at .z) .nil)))))) (fun u15 h26 => ?_))
      obtain ⟨y2, e13, hF⟩ := bindP_use hF
      refine op (OpS.callP h26 Try.func36 rfl rfl rfl rfl (vs := [u15]) rfl (exchange_copied_ok e13) (.cons (f := false) (V.at .z) .nil) ?_)
      rintro u16 w13 _ _ _ ⟨_, rfl, rfl, rfl, rfl⟩ h27
      have h28 := h27 rfl rfl
      simp only [List.cons_append, List.nil_append] at h28
      refine op (OpS.alloc h28 ti51 Message_.zr rfl rfl (fun u17 w14 h29 => ?_))
      refine op (OpS.storeB (f' := true) h29 .z PA.z Put.id ty51 rfl rfl rfl (V.at .z) (.inl rfl) (fun w15 h30 => ?_))
      refine RunL.nil ?_
      refine Run.slim [(18, u17), (5, .int .i64 a5), (6, u1), (12, u2), (15, .int .i64 x4)] ⟨rfl, rfl, rfl, rfl, rfl, trivial⟩ ?_
      refine Run.seq ?_
      refine Run.reg ?_
      refine op (OpS.loadB h30 .z PA.z Get.id ty51 rfl rfl rfl (fun u18 h31 => ?_))
      obtain ⟨y3, e14, hF⟩ := bindP_use hF
      refine op (OpS.callP h31 Try.func37 rfl rfl rfl rfl (vs := [u18]) rfl (message_Request_ok e14) (.cons (f := true) (V.at .z) .nil) ?_)
      rintro _ w16 _ _ _ ⟨u19, rfl, rfl, rfl, rfl⟩ h32
      have h33 := h32 rfl rfl
      simp only [List.cons_append, List.nil_append] at h33
      refine op (OpS.mv rfl rfl rfl ?_)
      refine op (OpS.ext rfl rfl rfl rfl ?_)
      refine op (OpS.ext rfl rfl rfl rfl ?_)
      refine op (OpS.as rfl rfl rfl ?_)
      have h34 := (h33.pick .z).freeze
      refine op (OpS.as rfl rfl rfl ?_)
      refine RunL.nil ?_
      refine Run.slim [(20, .int .i64 y3.2), (19, u19), (18, u17), (5, .int .i64 a5), (6, u1), (12, u2), (15, .int .i64 x4)] ⟨rfl, rfl, rfl, rfl, rfl, rfl, rfl, trivial⟩ ?_
      refine Run.seq ?_
      refine Run.seq ?_
      refine Run.reg ?_
      refine op (OpS.mv rfl rfl rfl ?_)
      refine op (OpS.bin rfl rfl rfl rfl rfl ?_)
      refine RunL.nil ?_
      refine Run.slim [(82, .bool (y3.2 != 0)), (20, .int .i64 y3.2), (19, u19), (18, u17), (5, .int .i64 a5), (6, u1), (12, u2), (15, .int .i64 x4)] ⟨rfl, rfl, rfl, rfl, rfl, rfl, rfl, rfl, trivial⟩ ?_
      refine Run.ite rfl hF (fun e15 hF => ?_) (fun e15 hF => ?_)
      ·
       refine Run.seq ?_
       refine Run.reg ?_
       refine op (OpS.build (f := true) (x' := Requester_.z) h34 pl26 ti26 Requester_.zr rfl rfl rfl .nil (fun u20 h35 => ?_))
       refine op (OpS.mv rfl rfl rfl ?_)
       refine op (OpS.storeB (f' := true) h35 (.s (.s .z)) PA.z Put.id ty26 rfl rfl rfl (V.at .z) (.inl rfl) (fun w17 h36 => ?_))
       refine op (OpS.as rfl rfl rfl ?_)
       refine op (OpS.as rfl rfl rfl ?_)
       refine RunL.nil ?_
       refine Run.slim [(14, .int .i64 y3.2), (13, .slice none 0 0), (12, u2)] ⟨rfl, rfl, rfl, trivial⟩ ?_
       obtain ⟨u21, hu4, h37⟩ := res_box h36 .z ty26
       refine Run.retP rfl (.cell rfl hu4 (.tmp rfl (.tmp rfl .nil))) ?_
       cases hF
       exact Post.mk' ⟨u21, .slice none 0 0, rfl, rfl, rfl, rfl⟩ (h37.picks .nil) (.val (V.weak (V.at .z)) (.val V.nil .nil))
      ·
       refine Run.skip ?_
       refine Run.seq ?_
       refine Run.reg ?_
       refine op (OpS.loadB h34 (.s .z) PA.z Get.id ty26 rfl rfl rfl (fun u22 h38 => ?_))
       obtain ⟨y4, e16, hF⟩ := bindP_use hF
       have h39 := h38.front .nil
       refine op (OpS.callO h39 Try.func38 rfl rfl rfl rfl (vs := [u22]) rfl (exchange_clone_ok e16) rfl (.cons (f := false) (V.at .z) .nil) ?_)
       rintro u23 w18 _ _ _ ⟨_, u24, rfl, rfl, rfl, rfl⟩ h40
       have h41 := h40
       simp only [List.cons_append, List.nil_append] at h41
       have h42 := St.nil 55 Pending_.rep h41
       refine op (OpS.alloc (r := (Rep.iso (fun s : Requester_ => (s.Own, s.Next, s.Pending, ())) (Rep.prod (Rep.int .u8) (Rep.prod (Rep.int .i64) (Rep.prod (Rep.raw (.slice none 0 0)) Rep.unit))))) h42 ti26 (Zr.iso (y := Requester_.z) _ (Zr.of (Zr.prod (Zr.int .u8 0) (Zr.prod (Zr.int .i64 0) (Zr.prod (Zr.raw rfl _) Zr.unit))) (by rfl))) rfl rfl (fun u25 w19 h43 => ?_))
       refine op (OpS.storeC (f' := true) (fr := (Rep.iso (fun s : Requester_ => (s.Own, s.Next, s.Pending, ())) (Rep.prod (Rep.int .u8) (Rep.prod (Rep.int .i64) (Rep.prod (Rep.raw u24) Rep.unit))))) (r' := (Rep.iso (fun s : Requester_ => (s.Own, s.Next, s.Pending, ())) (Rep.prod (Rep.int .u8) (Rep.prod (Rep.int .i64) (Rep.prod (Rep.raw u24) Rep.unit))))) (x' := y4) h43 .z PA.z (Chg.id (by rfl)) (Ty.like ty26 (by rfl) (by rfl)) rfl rfl rfl (V.pure (V.at .z) (Pure.iso (Pure.prod Pure.int (Pure.prod Pure.int (Pure.prod Pure.raw Pure.unit))))) (.inl rfl) (fun w20 h44 => ?_))
       refine RunL.nil ?_
       refine Run.slim [(21, u25), (19, u19), (18, u17), (5, .int .i64 a5), (12, u2), (15, .int .i64 x4)] ⟨rfl, rfl, rfl, rfl, rfl, rfl, trivial⟩ ?_
       refine Run.seq ?_
       refine Run.reg ?_
       refine op (OpS.fbox (o3 := 2) h44 .z PA.z fa26_2 rfl rfl rfl rfl ?_)
       refine op (OpS.loadR h44 .z PA.a (GetS.ok (GetS.iso _ (GetS.there (GetS.there (GetS.here GetS.id))))) ty24 rfl rfl rfl rfl rfl ?_)
       refine op (OpS.loadB h44 (.s (.s (.s .z))) PA.z Get.id ty51 rfl rfl rfl (fun u26 h45 => ?_))
       refine op (OpS.mv rfl rfl rfl ?_)
       refine op (OpS.bin rfl rfl rfl rfl rfl ?_)
       refine op (OpS.build (f := true) (x' := (⟨y2, (IntKind.i64.wrap (a5 + 10)), 1⟩ : Pending_)) h45 pl55 ti55 Pending_.zr rfl rfl rfl (.cons rfl Pending_.f0 rfl (V.at .z) (.cons rfl Pending_.f1 rfl V.int (.cons rfl Pending_.f2 rfl V.int .nil))) (fun u27 h46 => ?_))
       refine op (OpS.lit (r := Pending_.rep) (f := true) h46 Try.underlying24 ti55 rfl rfl rfl rfl rfl (.cons rfl (V.at .z) .nil) rfl rfl (fun u28 w21 h47 => ?_))
       obtain ⟨x6, e17, hF⟩ := bindP_use hF
       refine op (OpS.app (f' := true) h47 (.s (.s .z)) Try.underlying24 ti55 rfl rfl rfl rfl rfl rfl rfl (V.at .z) (.inl (.inl rfl)) e17 (fun u29 w22 h48 => ?_))
       refine op (OpS.fbox (o3 := 2) h48 (.s .z) PA.z fa26_2 rfl rfl rfl rfl ?_)
       refine op (OpS.storeC (f' := true) (fr := (Rep.raw u29)) (r' := (Rep.iso (fun s : Requester_ => (s.Own, s.Next, s.Pending, ())) (Rep.prod (Rep.int .u8) (Rep.prod (Rep.int .i64) (Rep.prod (Rep.raw u29) Rep.unit))))) (x' := y4) h48 (.s .z) PA.a (Chg.iso _ (Chg.there (Chg.there (Chg.here (Chg.id (by rfl)))))) (Ty.like ty24 (by rfl) (by rfl)) rfl rfl rfl (V.raw (f := true) (St.own1 h48 .z) y4.Pending) (.inl rfl) (fun w23 h49 => ?_))
       refine RunL.nil ?_
       refine Run.slim [(21, u25), (19, u19), (12, u2), (15, .int .i64 x4)] ⟨rfl, rfl, rfl, rfl, trivial⟩ ?_
       refine Run.seq ?_
       refine Run.reg ?_
       refine op (OpS.mv rfl rfl rfl ?_)
       refine op (OpS.bin rfl rfl rfl rfl rfl ?_)
       refine op (OpS.rem rfl rfl rfl rfl (by decide) ?_)
       refine op (OpS.fbox (o3 := 1) h49 .z PA.z fa26_1 rfl rfl rfl rfl ?_)
       obtain ⟨d1, e18, hF⟩ := letP_use hF
       refine op (OpS.storeC (f' := true) (fr := (Rep.int .i64)) (r' := (Rep.iso (fun s : Requester_ => (s.Own, s.Next, s.Pending, ())) (Rep.prod (Rep.int .u8) (Rep.prod (Rep.int .i64) (Rep.prod (Rep.raw u29) Rep.unit))))) (x' := d1) h49 .z PA.a (Chg.of (x' := { y4 with Next := (Int.tmod (IntKind.i64.wrap (x4 + 1)) 64) }) (Chg.iso _ (Chg.there (Chg.here (Chg.id (by rfl))))) e18) ty3 rfl rfl rfl V.int (.inl rfl) (fun w24 h50 => ?_))
       refine RunL.nil ?_
       refine Run.slim [(21, u25), (19, u19), (12, u2)] ⟨rfl, rfl, rfl, trivial⟩ ?_
       refine Run.seq ?_
       refine Run.reg ?_
       refine op (OpS.loadB (fr := (Rep.iso (fun s : Requester_ => (s.Own, s.Next, s.Pending, ())) (Rep.prod (Rep.int .u8) (Rep.prod (Rep.int .i64) (Rep.prod (Rep.raw u29) Rep.unit))))) h50 .z PA.z (GetS.ok GetS.id) (Ty.like ty26 (by rfl) (by rfl)) rfl rfl rfl (fun u30 h51 => ?_))
       refine op (OpS.mv rfl rfl rfl ?_)
       refine op (OpS.storeC (f' := true) (fr := (Rep.iso (fun s : Requester_ => (s.Own, s.Next, s.Pending, ())) (Rep.prod (Rep.int .u8) (Rep.prod (Rep.int .i64) (Rep.prod (Rep.raw u29) Rep.unit))))) (r' := (Rep.iso (fun s : Requester_ => (s.Own, s.Next, s.Pending, ())) (Rep.prod (Rep.int .u8) (Rep.prod (Rep.int .i64) (Rep.prod (Rep.raw u29) Rep.unit))))) (x' := d1) h51 (.s (.s (.s (.s (.s .z))))) PA.z (Chg.id (by rfl)) (Ty.like ty26 (by rfl) (by rfl)) rfl rfl rfl (V.at .z) (.inl rfl) (fun w25 h52 => ?_))
       refine op (OpS.as rfl rfl rfl ?_)
       refine op (OpS.as rfl rfl rfl ?_)
       refine RunL.nil ?_
       refine Run.slim [(14, .int .i64 0), (13, u19), (12, u2)] ⟨rfl, rfl, rfl, trivial⟩ ?_
       obtain ⟨u31, hu5, h53⟩ := res_box h52 .z (Ty.like ty26 (by rfl) (by rfl))
       have h54 := (h53.pick (.s (.s .z))).freeze
       have h55 := h54.pick .z
       have h56 := h55.weak
       have h57 := St.boxJ (r' := Requester_.rep) (x' := { d1 with Pending := x6 }) h56 (fun _ _ hs_ => (Jn.iso _ (Jn.prod Jn.refl (Jn.prod Jn.refl (Jn.prod (Jn.raw ((V.at .z) _ _ hs_) rfl) Jn.refl)))))
       have h58 := h57.pick (.s .z)
       have h59 := h58.weak
       have h60 := St.boxJ (r' := Requester_.rep) (x' := { d1 with Pending := x6 }) h59 (fun _ _ hs_ => (Jn.iso _ (Jn.prod Jn.refl (Jn.prod Jn.refl (Jn.prod (Jn.raw ((V.at .z) _ _ hs_) rfl) Jn.refl)))))
       have h61 := St.addV (f := false) (r := Requester_.rep) (x := { d1 with Pending := x6 }) h60 (V.jn (r := (Rep.iso (fun s : Requester_ => (s.Own, s.Next, s.Pending, ())) (Rep.prod (Rep.int .u8) (Rep.prod (Rep.int .i64) (Rep.prod (Rep.raw u29) Rep.unit))))) (x := d1) (V.weak (V.at (.s .z))) rfl (fun _ _ hs_ => (Jn.iso _ (Jn.prod Jn.refl (Jn.prod Jn.refl (Jn.prod (Jn.raw ((V.at .z) _ _ hs_) rfl) Jn.refl))))))
       refine Run.retP rfl (.cell rfl hu5 (.tmp rfl (.tmp rfl .nil))) ?_
       cases hF
       exact Post.mk' ⟨u31, u19, rfl, rfl, rfl, rfl⟩ (h61.picks .nil) (.val (V.at .z) (.val (V.at (.s (.s (.s (.s (.s (.s (.s (.s (.s .z)))))))))) .nil))
  ·
   refine RunL.caseb hF (fun e19 hF => ?_) (fun e19 hF => ?_)
   ·
    refine op (OpS.pass rfl rfl rfl ?_)
    refine op (OpS.pass rfl rfl rfl ?_)
    refine op (OpS.pick rfl rfl rfl rfl ?_)
    refine op (OpS.as rfl rfl rfl ?_)
    refine RunL.nil ?_
    refine Run.slim [(27, .bool true), (12, u2), (6, u1), (1, .int .u8 a1), (2, .int .u8 a2), (3, .int .u8 a3), (4, v4), (5, .int .i64 a5)] ⟨rfl, rfl, rfl, rfl, rfl, rfl, rfl, rfl, trivial⟩ ?_
    refine Run.slim [(1, .int .u8 a1), (2, .int .u8 a2), (3, .int .u8 a3), (4, v4), (5, .int .i64 a5), (6, u1), (12, u2), (27, .bool true)] ⟨rfl, rfl, rfl, rfl, rfl, rfl, rfl, rfl, trivial⟩ ?_
    exact hj1 (true) _ _ ⟨rfl, (h5.facts (.atm (.s (.s .z)) .nil)).picks (.cons (.s .z) (.cons .z .nil))⟩ hF
   ·
    refine op (OpS.mv rfl rfl rfl ?_)
    refine op (OpS.bin rfl rfl rfl rfl rfl ?_)
    refine op (OpS.pick rfl rfl rfl rfl ?_)
    refine op (OpS.as rfl rfl rfl ?_)
    obtain ⟨x7, e20, hF⟩ := letP_use hF
    refine RunL.nameb e20 ?_
    refine RunL.nil ?_
    refine Run.slim [(27, .bool x7), (12, u2), (6, u1), (1, .int .u8 a1), (2, .int .u8 a2), (3, .int .u8 a3), (4, v4), (5, .int .i64 a5)] ⟨rfl, rfl, rfl, rfl, rfl, rfl, rfl, rfl, trivial⟩ ?_
    refine Run.slim [(1, .int .u8 a1), (2, .int .u8 a2), (3, .int .u8 a3), (4, v4), (5, .int .i64 a5), (6, u1), (12, u2), (27, .bool x7)] ⟨rfl, rfl, rfl, rfl, rfl, rfl, rfl, rfl, trivial⟩ ?_
    exact hj1 (x7) _ _ ⟨rfl, (h5.facts (.atm (.s (.s .z)) .nil)).picks (.cons (.s .z) (.cons .z .nil))⟩ hF
set_option maxHeartbeats 8000000 in
theorem exchange_Tick_ok {fuel : Nat} {a0 : Requester_} {a1 : Int} {y : Requester_ × (List (List Int)) × (List Message_)} (hF : exchange_Tick fuel a0 a1 = some y) {w : World} {v0 : Value} :
  Spec Try.prog 11 [v0, .int .i64 a1].toArray w [(false, .val Requester_.rep v0 a0)] [] (fun v Γr Ωr Ωo => ∃ u0 u1 u2 : Value, v = .tuple #[u0, u1, u2] ∧ Γr = [(false, .val Requester_.rep u0 y.1)] ∧ Ωr = [(true, .slice 22 (Rep.slice (Rep.int .u8)) u1 y.2.1), (false, .slice 51 Message_.rep u2 y.2.2)] ∧ Ωo = []) := by
 refine Spec.of (L := [(0, v0), (1, .int .i64 a1)]) Try.func11 rfl ⟨rfl, rfl, trivial⟩ rfl (fun e h => ?_)
 unfold exchange_Tick at hF
 refine Run.seq ?_
 refine Run.reg ?_
 refine op (OpS.boxF h rfl rfl rfl (V.at .z) (fun u1 w1 h1 => ?_))
 refine op (OpS.alloc h1 ti26 Requester_.zr rfl rfl (fun u2 w2 h2 => ?_))
 refine op (OpS.as rfl rfl rfl ?_)
 refine op (OpS.as rfl rfl rfl ?_)
 refine RunL.nil ?_
 refine Run.slim [(4, u2), (2, u1), (1, .int .i64 a1)] ⟨rfl, rfl, rfl, trivial⟩ ?_
 refine Run.seq ?_
 refine Run.reg ?_
 refine op (OpS.loadB h2 (.s .z) PA.z Get.id ty26 rfl rfl rfl (fun u3 h3 => ?_))
 obtain ⟨y1, e1, hF⟩ := bindP_use hF
 have h4 := h3.front .nil
 refine op (OpS.callO h4 Try.func38 rfl rfl rfl rfl (vs := [u3]) rfl (exchange_clone_ok e1) rfl (.cons (f := false) (V.at .z) .nil) ?_)
 rintro u4 w3 _ _ _ ⟨_, u5, rfl, rfl, rfl, rfl⟩ h5
 have h6 := h5
 simp only [List.cons_append, List.nil_append] at h6
 have h7 := St.nil 55 Pending_.rep h6
 refine op (OpS.alloc (r := (Rep.iso (fun s : Requester_ => (s.Own, s.Next, s.Pending, ())) (Rep.prod (Rep.int .u8) (Rep.prod (Rep.int .i64) (Rep.prod (Rep.raw (.slice none 0 0)) Rep.unit))))) h7 ti26 (Zr.iso (y := Requester_.z) _ (Zr.of (Zr.prod (Zr.int .u8 0) (Zr.prod (Zr.int .i64 0) (Zr.prod (Zr.raw rfl _) Zr.unit))) (by rfl))) rfl rfl (fun u6 w4 h8 => ?_))
 refine op (OpS.storeC (f' := true) (fr := (Rep.iso (fun s : Requester_ => (s.Own, s.Next, s.Pending, ())) (Rep.prod (Rep.int .u8) (Rep.prod (Rep.int .i64) (Rep.prod (Rep.raw u5) Rep.unit))))) (r' := (Rep.iso (fun s : Requester_ => (s.Own, s.Next, s.Pending, ())) (Rep.prod (Rep.int .u8) (Rep.prod (Rep.int .i64) (Rep.prod (Rep.raw u5) Rep.unit))))) (x' := y1) h8 .z PA.z (Chg.id (by rfl)) (Ty.like ty26 (by rfl) (by rfl)) rfl rfl rfl (V.pure (V.at .z) (Pure.iso (Pure.prod Pure.int (Pure.prod Pure.int (Pure.prod Pure.raw Pure.unit))))) (.inl rfl) (fun w5 h9 => ?_))
 refine RunL.nil ?_
 refine Run.slim [(7, u6), (4, u2), (2, u1), (1, .int .i64 a1)] ⟨rfl, rfl, rfl, rfl, trivial⟩ ?_
 refine Run.seq ?_
 refine Run.seq ?_
 refine Run.reg ?_
 refine op (OpS.loadB h9 (.s (.s (.s (.s .z)))) PA.z Get.id ty26 rfl rfl rfl (fun u7 h10 => ?_))
 obtain ⟨y2, e2, hF⟩ := bindP_use hF
 refine op (OpS.callP h10 Try.func19 rfl rfl rfl rfl (vs := [u7]) rfl (exchange_Valid_ok e2) (.cons (f := false) (V.at .z) .nil) ?_)
 rintro _ w6 _ _ _ ⟨rfl, rfl, rfl, rfl⟩ h11
 have h12 := h11 rfl rfl
 simp only [List.cons_append, List.nil_append] at h12
 refine op (OpS.not rfl rfl rfl ?_)
 refine op (OpS.mv rfl rfl rfl ?_)
 refine RunL.join (σ := Bool) (fun s_ L_ w_ => L_ = [(1, .int .i64 a1), (4, u2), (7, u6), (27, .bool s_)] ∧ St e w_ [] [(true, .box 26 Requester_.rep u2 Requester_.z), (true, .box 26 (Rep.iso (fun s : Requester_ => (s.Own, s.Next, s.Pending, ())) (Rep.prod (Rep.int .u8) (Rep.prod (Rep.int .i64) (Rep.prod (Rep.raw u5) Rep.unit)))) u6 y1), (false, .slice 55 Pending_.rep u5 y1.Pending)]) hF (fun s1 _ w7 hI hF => ?_) (fun j1 hj1 hF => ?_)
 ·
  obtain ⟨rfl, h13⟩ := hI
  refine Run.ite rfl hF (fun e3 hF => ?_) (fun e3 hF => ?_)
  ·
   refine Run.seq ?_
   refine Run.reg ?_
   refine op (OpS.loadB (fr := (Rep.iso (fun s : Requester_ => (s.Own, s.Next, s.Pending, ())) (Rep.prod (Rep.int .u8) (Rep.prod (Rep.int .i64) (Rep.prod (Rep.raw u5) Rep.unit))))) h13 (.s .z) PA.z (GetS.ok GetS.id) (Ty.like ty26 (by rfl) (by rfl)) rfl rfl rfl (fun u8 h14 => ?_))
   refine op (OpS.storeC (f' := true) (fr := (Rep.iso (fun s : Requester_ => (s.Own, s.Next, s.Pending, ())) (Rep.prod (Rep.int .u8) (Rep.prod (Rep.int .i64) (Rep.prod (Rep.raw u5) Rep.unit))))) (r' := (Rep.iso (fun s : Requester_ => (s.Own, s.Next, s.Pending, ())) (Rep.prod (Rep.int .u8) (Rep.prod (Rep.int .i64) (Rep.prod (Rep.raw u5) Rep.unit))))) (x' := y1) h14 .z PA.z (Chg.id (by rfl)) (Ty.like ty26 (by rfl) (by rfl)) rfl rfl rfl (V.at .z) (.inl rfl) (fun w8 h15 => ?_))
   refine op (OpS.as rfl rfl rfl ?_)
   refine op (OpS.as rfl rfl rfl ?_)
   refine RunL.nil ?_
   refine Run.slim [(6, .slice none 0 0), (5, .slice none 0 0), (4, u2)] ⟨rfl, rfl, rfl, trivial⟩ ?_
   obtain ⟨u9, hu1, h16⟩ := res_box h15 .z (Ty.like ty26 (by rfl) (by rfl))
   have h17 := (h16.pick (.s (.s .z))).freeze
   have h18 := h17.pick .z
   have h19 := h18.weak
   have h20 := St.boxJ (r' := Requester_.rep) (x' := { y1 with Pending := y1.Pending }) h19 (fun _ _ hs_ => (Jn.iso _ (Jn.prod Jn.refl (Jn.prod Jn.refl (Jn.prod (Jn.raw ((V.at .z) _ _ hs_) rfl) Jn.refl)))))
   have h21 := h20.pick (.s .z)
   have h22 := h21.weak
   have h23 := St.boxJ (r' := Requester_.rep) (x' := { y1 with Pending := y1.Pending }) h22 (fun _ _ hs_ => (Jn.iso _ (Jn.prod Jn.refl (Jn.prod Jn.refl (Jn.prod (Jn.raw ((V.at .z) _ _ hs_) rfl) Jn.refl)))))
   have h24 := St.addV (f := false) (r := Requester_.rep) (x := { y1 with Pending := y1.Pending }) h23 (V.jn (r := (Rep.iso (fun s : Requester_ => (s.Own, s.Next, s.Pending, ())) (Rep.prod (Rep.int .u8) (Rep.prod (Rep.int .i64) (Rep.prod (Rep.raw u5) Rep.unit))))) (x := y1) (V.weak (V.at (.s .z))) rfl (fun _ _ hs_ => (Jn.iso _ (Jn.prod Jn.refl (Jn.prod Jn.refl (Jn.prod (Jn.raw ((V.at .z) _ _ hs_) rfl) Jn.refl))))))
   have h25 := St.nil 22 (Rep.slice (Rep.int .u8)) h24
   have h26 := St.nil 51 Message_.rep h25
   have h27 := (h26.pick .z).weak
   refine Run.retP rfl (.cell rfl hu1 (.tmp rfl (.tmp rfl .nil))) ?_
   cases hF
   exact Post.mk' ⟨u9, (.slice none 0 0), (.slice none 0 0), rfl, rfl, rfl, rfl⟩ (h27.picks (.cons (.s .z) (.cons .z .nil))) (.val (V.at .z) .nil)
  ·
   refine Run.skip ?_
   refine Run.seq ?_
   refine Run.reg ?_
   refine op (OpS.as rfl rfl rfl ?_)
   refine RunL.nil ?_
   refine Run.slim [(8, .slice none 0 0), (1, .int .i64 a1), (4, u2), (7, u6)] ⟨rfl, rfl, rfl, rfl, trivial⟩ ?_
   refine Run.seq ?_
   refine Run.reg ?_
   refine op (OpS.as rfl rfl rfl ?_)
   refine RunL.nil ?_
   refine Run.seq ?_
   refine Run.reg ?_
   refine op (OpS.fbox (o3 := 2) h13 (.s .z) PA.z fa26_2 rfl rfl rfl rfl ?_)
   refine op (OpS.loadR h13 (.s .z) PA.a (GetS.ok (GetS.iso _ (GetS.there (GetS.there (GetS.here GetS.id))))) ty24 rfl rfl rfl rfl rfl ?_)
   refine op (OpS.preS h13 (.s (.s .z)) Try.underlying24 ty55 rfl rfl rfl rfl rfl (by decide) (Int.natCast_nonneg _) ?_)
   refine op (OpS.as rfl rfl rfl ?_)
   refine RunL.nil ?_
   refine Run.slim [(10, (pre u5 0)), (9, .slice none 0 0), (8, .slice none 0 0), (1, .int .i64 a1), (4, u2), (7, u6)] ⟨rfl, rfl, rfl, rfl, rfl, rfl, trivial⟩ ?_
   refine Run.seq ?_
   refine Run.seq ?_
   refine Run.reg ?_
   refine op (OpS.fbox (o3 := 2) h13 (.s .z) PA.z fa26_2 rfl rfl rfl rfl ?_)
   refine op (OpS.loadR h13 (.s .z) PA.a (GetS.ok (GetS.iso _ (GetS.there (GetS.there (GetS.here GetS.id))))) ty24 rfl rfl rfl rfl rfl ?_)
   refine op (OpS.lenO h13 (.s (.s .z)) Try.underlying24 rfl rfl rfl ?_)
   refine op (OpS.mv rfl rfl rfl ?_)
   refine RunL.nil ?_
   refine Run.slim [(35, .int .i64 0), (34, .int .i64 (y1.Pending.length : Int)), (33, u5), (10, (pre u5 0)), (9, .slice none 0 0), (8, .slice none 0 0), (1, .int .i64 a1), (4, u2), (7, u6)] ⟨rfl, rfl, rfl, rfl, rfl, rfl, rfl, rfl, rfl, trivial⟩ ?_
   refine Run.block ?_
   have h28 := St.nil 22 (Rep.slice (Rep.int .u8)) h13
   have h29 := St.nil 51 Message_.rep h28
   have h30 := (h29.pick .z).weak
   refine Run.slim [(1, .int .i64 a1), (4, u2), (7, u6), (8, (.slice none 0 0)), (9, (.slice none 0 0)), (10, (pre u5 0)), (33, u5), (34, .int .i64 (y1.Pending.length : Int)), (35, .int .i64 0)] ⟨rfl, rfl, rfl, rfl, rfl, rfl, rfl, rfl, rfl, trivial⟩ ?_
   refine Run.loopP (σ := (Nat × Int × (List (List Int)) × (List Message_) × (List Pending_))) (fun s_ L_ w_ => ∃ u0_ u1_ : Value, L_ = [(1, .int .i64 a1), (4, u2), (7, u6), (8, u0_), (9, u1_), (10, (pre u5 s_.1)), (33, u5), (34, .int .i64 (y1.Pending.length : Int)), (35, .int .i64 s_.2.1)] ∧ St e w_ [] [(true, .box 26 Requester_.rep u2 Requester_.z), (true, .box 26 (Rep.iso (fun s : Requester_ => (s.Own, s.Next, s.Pending, ())) (Rep.prod (Rep.int .u8) (Rep.prod (Rep.int .i64) (Rep.prod (Rep.raw u5) Rep.unit)))) u6 y1), (true, .slice 22 (Rep.slice (Rep.int .u8)) u0_ s_.2.2.1), (false, .slice 51 Message_.rep u1_ s_.2.2.2.1), (false, .slice 55 Pending_.rep u5 s_.2.2.2.2)]) hF ⟨(.slice none 0 0), (.slice none 0 0), rfl, (h30.facts .nil).picks (.cons (.s (.s .z)) (.cons (.s (.s .z)) (.cons (.s .z) (.cons .z (.cons .z .nil)))))⟩ (fun k1 hk1 s2 _ w9 hI hF => ?_)
   obtain ⟨u10, u11, rfl, h31⟩ := hI
   refine Run.seq ?_
   refine Run.reg ?_
   refine op (OpS.bin rfl rfl rfl rfl rfl ?_)
   refine RunL.nil ?_
   refine Run.seq ?_
   refine Run.ite rfl hF (fun e4 hF => ?_) (fun e4 hF => ?_)
   ·
    refine Run.skip ?_
    refine Run.seq ?_
    refine Run.block ?_
    refine Run.seq ?_
    refine Run.reg ?_
    obtain ⟨x1, e5, hF⟩ := bindP_use hF
    refine op (OpS.iown h31 (.s (.s (.s (.s .z)))) Try.underlying24 ty55 rfl rfl rfl rfl e5 ?_)
    refine op (OpS.loadO h31 (.s (.s (.s (.s .z)))) (idx_ne e5) PA.a (Get.arr e5) ty55 rfl rfl rfl (fun u12 h32 => ?_))
    refine op (OpS.alloc h32 ti55 Pending_.zr rfl rfl (fun u13 w10 h33 => ?_))
    have h34 := (h33.pick .z).weak
    refine op (OpS.storeB (f' := false) h34 .z PA.z Put.id ty55 rfl rfl rfl (V.at .z) (.inr rfl) (fun w11 h35 => ?_))
    refine RunL.nil ?_
    refine Run.slim [(12, u13), (1, .int .i64 a1), (4, u2), (7, u6), (8, u10), (9, u11), (10, (pre u5 s2.1)), (33, u5), (34, .int .i64 (y1.Pending.length : Int)), (35, .int .i64 s2.2.1)] ⟨rfl, rfl, rfl, rfl, rfl, rfl, rfl, rfl, rfl, rfl, trivial⟩ ?_
    refine Run.seq ?_
    refine Run.seq ?_
    refine Run.reg ?_
    refine op (OpS.fbox (o3 := 9) h35 .z PA.z fa55_1 rfl rfl rfl rfl ?_)
    refine op (OpS.loadBi h35 .z PA.a (Get.fld Pending_.f1) ty2 rfl rfl rfl ?_)
    refine op (OpS.mv rfl rfl rfl ?_)
    refine op (OpS.bin rfl rfl rfl rfl rfl ?_)
    refine RunL.nil ?_
    refine Run.slim [(42, .bool (decide (x1.Deadline > a1))), (12, u13), (1, .int .i64 a1), (4, u2), (7, u6), (8, u10), (9, u11), (10, (pre u5 s2.1)), (33, u5), (34, .int .i64 (y1.Pending.length : Int)), (35, .int .i64 s2.2.1)] ⟨rfl, rfl, rfl, rfl, rfl, rfl, rfl, rfl, rfl, rfl, rfl, trivial⟩ ?_
    refine Run.ite rfl hF (fun e6 hF => ?_) (fun e6 hF => ?_)
    ·
     refine Run.seq ?_
     refine Run.reg ?_
     refine op (OpS.mv rfl rfl rfl ?_)
     refine op (OpS.loadB h35 .z PA.z Get.id ty55 rfl rfl rfl (fun u14 h36 => ?_))
     refine op (OpS.lit (r := Pending_.rep) (f := false) h36 Try.underlying24 ti55 rfl rfl rfl rfl rfl (.cons rfl (V.at .z) .nil) rfl rfl (fun u15 w12 h37 => ?_))
     obtain ⟨e7, hF⟩ := chk_use hF
     obtain ⟨d1, e8, hF⟩ := letP_use hF
     refine op (OpS.appPe (f' := false) h37 (.s (.s (.s (.s (.s .z))))) Try.underlying24 ti55 rfl rfl rfl rfl (V.at .z) (.inl (.inr rfl)) (of_decide_eq_true e7) e8 (fun w13 h38 => ?_))
     refine op (OpS.as rfl rfl rfl ?_)
     refine RunL.nil ?_
     refine Run.slim [(10, (pre u5 (s2.1 + ([x1]).length))), (1, .int .i64 a1), (4, u2), (7, u6), (8, u10), (9, u11), (33, u5), (34, .int .i64 (y1.Pending.length : Int)), (35, .int .i64 s2.2.1)] ⟨rfl, rfl, rfl, rfl, rfl, rfl, rfl, rfl, rfl, trivial⟩ ?_
     refine Run.exit rfl ?_
     refine Run.reg ?_
     refine op (OpS.bin rfl rfl rfl rfl rfl ?_)
     refine op (OpS.mv rfl rfl rfl ?_)
     refine RunL.nil ?_
     refine Run.slim [(35, .int .i64 (IntKind.i64.wrap (s2.2.1 + 1))), (10, (pre u5 (s2.1 + ([x1]).length))), (1, .int .i64 a1), (4, u2), (7, u6), (8, u10), (9, u11), (33, u5), (34, .int .i64 (y1.Pending.length : Int))] ⟨rfl, rfl, rfl, rfl, rfl, rfl, rfl, rfl, rfl, trivial⟩ ?_
     refine Run.slim [(1, .int .i64 a1), (4, u2), (7, u6), (8, u10), (9, u11), (10, (pre u5 (s2.1 + ([x1]).length))), (33, u5), (34, .int .i64 (y1.Pending.length : Int)), (35, .int .i64 (IntKind.i64.wrap (s2.2.1 + 1)))] ⟨rfl, rfl, rfl, rfl, rfl, rfl, rfl, rfl, rfl, trivial⟩ ?_
     exact hk1 ((s2.1 + ([x1]).length), (IntKind.i64.wrap (s2.2.1 + 1)), s2.2.2.1, s2.2.2.2.1, d1) _ _ ⟨u10, u11, rfl, (h38.facts .nil).picks (.cons (.s (.s .z)) (.cons (.s (.s .z)) (.cons (.s (.s .z)) (.cons (.s (.s .z)) (.cons .z .nil)))))⟩ hF
    ·
     refine Run.skip ?_
     refine Run.seq ?_
     refine Run.seq ?_
     refine Run.reg ?_
     refine op (OpS.fbox (o3 := 10) h35 .z PA.z fa55_2 rfl rfl rfl rfl ?_)
     refine op (OpS.loadBi h35 .z PA.a (Get.fld Pending_.f2) ty3 rfl rfl rfl ?_)
     refine op (OpS.bin rfl rfl rfl rfl rfl ?_)
     refine RunL.nil ?_
     refine Run.slim [(49, .bool (x1.Tries == 3)), (12, u13), (1, .int .i64 a1), (4, u2), (7, u6), (8, u10), (9, u11), (10, (pre u5 s2.1)), (33, u5), (34, .int .i64 (y1.Pending.length : Int)), (35, .int .i64 s2.2.1)] ⟨rfl, rfl, rfl, rfl, rfl, rfl, rfl, rfl, rfl, rfl, rfl, trivial⟩ ?_
     refine Run.ite rfl hF (fun e9 hF => ?_) (fun e9 hF => ?_)
     ·
      refine Run.seq ?_
      refine Run.reg ?_
      refine op (OpS.mv rfl rfl rfl ?_)
      refine op (OpS.fbox (o3 := 0) h35 .z PA.z fa55_0 rfl rfl rfl rfl ?_)
      refine op (OpS.loadB h35 .z PA.a (Get.fld Pending_.f0) ty51 rfl rfl rfl (fun u16 h39 => ?_))
      refine op (OpS.lit (r := Message_.rep) (f := false) h39 Try.underlying34 ti51 rfl rfl rfl rfl rfl (.cons rfl (V.at .z) .nil) rfl rfl (fun u17 w14 h40 => ?_))
      obtain ⟨x2, e10, hF⟩ := bindP_use hF
      refine op (OpS.app (f' := false) h40 (.s (.s (.s (.s .z)))) Try.underlying34 ti51 rfl rfl rfl rfl rfl rfl rfl (V.at .z) (.inl (.inr rfl)) e10 (fun u18 w15 h41 => ?_))
      refine op (OpS.as rfl rfl rfl ?_)
      refine RunL.nil ?_
      refine Run.slim [(9, u18), (1, .int .i64 a1), (4, u2), (7, u6), (8, u10), (10, (pre u5 s2.1)), (33, u5), (34, .int .i64 (y1.Pending.length : Int)), (35, .int .i64 s2.2.1)] ⟨rfl, rfl, rfl, rfl, rfl, rfl, rfl, rfl, rfl, trivial⟩ ?_
      refine Run.exit rfl ?_
      refine Run.reg ?_
      refine op (OpS.bin rfl rfl rfl rfl rfl ?_)
      refine op (OpS.mv rfl rfl rfl ?_)
      refine RunL.nil ?_
      refine Run.slim [(35, .int .i64 (IntKind.i64.wrap (s2.2.1 + 1))), (9, u18), (1, .int .i64 a1), (4, u2), (7, u6), (8, u10), (10, (pre u5 s2.1)), (33, u5), (34, .int .i64 (y1.Pending.length : Int))] ⟨rfl, rfl, rfl, rfl, rfl, rfl, rfl, rfl, rfl, trivial⟩ ?_
      refine Run.slim [(1, .int .i64 a1), (4, u2), (7, u6), (8, u10), (9, u18), (10, (pre u5 s2.1)), (33, u5), (34, .int .i64 (y1.Pending.length : Int)), (35, .int .i64 (IntKind.i64.wrap (s2.2.1 + 1)))] ⟨rfl, rfl, rfl, rfl, rfl, rfl, rfl, rfl, rfl, trivial⟩ ?_
      exact hk1 (s2.1, (IntKind.i64.wrap (s2.2.1 + 1)), s2.2.2.1, x2, s2.2.2.2.2) _ _ ⟨u10, u18, rfl, (h41.facts .nil).picks (.cons (.s (.s .z)) (.cons (.s (.s .z)) (.cons (.s (.s .z)) (.cons .z (.cons (.s .z) .nil)))))⟩ hF
     ·
      refine Run.skip ?_
      refine Run.seq ?_
      refine Run.reg ?_
      refine op (OpS.fbox (o3 := 0) h35 .z PA.z fa55_0 rfl rfl rfl rfl ?_)
      refine op (OpS.loadB h35 .z PA.a (Get.fld Pending_.f0) ty51 rfl rfl rfl (fun u19 h42 => ?_))
      obtain ⟨y3, e11, hF⟩ := bindP_use hF
      refine op (OpS.callP h42 Try.func37 rfl rfl rfl rfl (vs := [u19]) rfl (message_Request_ok e11) (.cons (f := false) (V.at .z) .nil) ?_)
      rintro _ w16 _ _ _ ⟨u20, rfl, rfl, rfl, rfl⟩ h43
      have h44 := h43 rfl rfl
      simp only [List.cons_append, List.nil_append] at h44
      refine op (OpS.mv rfl rfl rfl ?_)
      refine op (OpS.ext rfl rfl rfl rfl ?_)
      refine op (OpS.ext rfl rfl rfl rfl ?_)
      refine op (OpS.as rfl rfl rfl ?_)
      have h45 := (h44.pick .z).freeze
      refine op (OpS.as rfl rfl rfl ?_)
      refine RunL.nil ?_
      refine Run.slim [(13, u20), (12, u13), (1, .int .i64 a1), (4, u2), (7, u6), (8, u10), (9, u11), (10, (pre u5 s2.1)), (33, u5), (34, .int .i64 (y1.Pending.length : Int)), (35, .int .i64 s2.2.1)] ⟨rfl, rfl, rfl, rfl, rfl, rfl, rfl, rfl, rfl, rfl, rfl, trivial⟩ ?_
      refine Run.seq ?_
      refine Run.reg ?_
      refine op (OpS.mv rfl rfl rfl ?_)
      refine op (OpS.mv rfl rfl rfl ?_)
      refine op (OpS.lit (r := (Rep.slice (Rep.int .u8))) (f := true) h45 Try.underlying33 ti22 rfl rfl rfl rfl rfl (.cons rfl (V.at .z) .nil) rfl rfl (fun u21 w17 h46 => ?_))
      obtain ⟨x3, e12, hF⟩ := bindP_use hF
      refine op (OpS.app (f' := true) h46 (.s (.s (.s .z))) Try.underlying33 ti22 rfl rfl rfl rfl rfl rfl rfl (V.at .z) (.inl (.inl rfl)) e12 (fun u22 w18 h47 => ?_))
      refine op (OpS.as rfl rfl rfl ?_)
      refine RunL.nil ?_
      refine Run.slim [(8, u22), (12, u13), (1, .int .i64 a1), (4, u2), (7, u6), (9, u11), (10, (pre u5 s2.1)), (33, u5), (34, .int .i64 (y1.Pending.length : Int)), (35, .int .i64 s2.2.1)] ⟨rfl, rfl, rfl, rfl, rfl, rfl, rfl, rfl, rfl, rfl, trivial⟩ ?_
      refine Run.seq ?_
      refine Run.reg ?_
      refine op (OpS.mv rfl rfl rfl ?_)
      refine op (OpS.fbox (o3 := 10) h47 (.s .z) PA.z fa55_2 rfl rfl rfl rfl ?_)
      refine op (OpS.loadBi h47 (.s .z) PA.a (Get.fld Pending_.f2) ty3 rfl rfl rfl ?_)
      obtain ⟨e13, hF⟩ := chk_use hF
      refine op (OpS.shl rfl rfl rfl rfl e13 ?_)
      refine op (OpS.bin rfl rfl rfl rfl rfl ?_)
      refine op (OpS.fbox (o3 := 9) h47 (.s .z) PA.z fa55_1 rfl rfl rfl rfl ?_)
      obtain ⟨d2, e14, hF⟩ := letP_use hF
      refine op (OpS.storeB (f' := true) h47 (.s .z) PA.a (Put.of (Put.fld Pending_.f1) e14) ty2 rfl rfl rfl V.int (.inr rfl) (fun w19 h48 => ?_))
      refine RunL.nil ?_
      refine Run.slim [(8, u22), (12, u13), (1, .int .i64 a1), (4, u2), (7, u6), (9, u11), (10, (pre u5 s2.1)), (33, u5), (34, .int .i64 (y1.Pending.length : Int)), (35, .int .i64 s2.2.1)] ⟨rfl, rfl, rfl, rfl, rfl, rfl, rfl, rfl, rfl, rfl, trivial⟩ ?_
      refine Run.seq ?_
      refine Run.reg ?_
      refine op (OpS.fbox (o3 := 10) h48 .z PA.z fa55_2 rfl rfl rfl rfl ?_)
      refine op (OpS.loadBi h48 .z PA.a (Get.fld Pending_.f2) ty3 rfl rfl rfl ?_)
      refine op (OpS.bin rfl rfl rfl rfl rfl ?_)
      refine op (OpS.fbox (o3 := 10) h48 .z PA.z fa55_2 rfl rfl rfl rfl ?_)
      obtain ⟨d3, e15, hF⟩ := letP_use hF
      refine op (OpS.storeB (f' := true) h48 .z PA.a (Put.of (Put.fld Pending_.f2) e15) ty3 rfl rfl rfl V.int (.inr rfl) (fun w20 h49 => ?_))
      refine RunL.nil ?_
      refine Run.slim [(8, u22), (12, u13), (1, .int .i64 a1), (4, u2), (7, u6), (9, u11), (10, (pre u5 s2.1)), (33, u5), (34, .int .i64 (y1.Pending.length : Int)), (35, .int .i64 s2.2.1)] ⟨rfl, rfl, rfl, rfl, rfl, rfl, rfl, rfl, rfl, rfl, trivial⟩ ?_
      refine Run.reg ?_
      refine op (OpS.mv rfl rfl rfl ?_)
      refine op (OpS.loadB h49 .z PA.z Get.id ty55 rfl rfl rfl (fun u23 h50 => ?_))
      refine op (OpS.lit (r := Pending_.rep) (f := false) h50 Try.underlying24 ti55 rfl rfl rfl rfl rfl (.cons rfl (V.at .z) .nil) rfl rfl (fun u24 w21 h51 => ?_))
      obtain ⟨e16, hF⟩ := chk_use hF
      obtain ⟨d4, e17, hF⟩ := letP_use hF
      refine op (OpS.appPe (f' := false) h51 (.s (.s (.s (.s (.s .z))))) Try.underlying24 ti55 rfl rfl rfl rfl (V.at .z) (.inl (.inr rfl)) (of_decide_eq_true e16) e17 (fun w22 h52 => ?_))
      refine op (OpS.as rfl rfl rfl ?_)
      refine RunL.nil ?_
      refine Run.slim [(10, (pre u5 (s2.1 + ([d3]).length))), (8, u22), (1, .int .i64 a1), (4, u2), (7, u6), (9, u11), (33, u5), (34, .int .i64 (y1.Pending.length : Int)), (35, .int .i64 s2.2.1)] ⟨rfl, rfl, rfl, rfl, rfl, rfl, rfl, rfl, rfl, trivial⟩ ?_
      refine Run.endBlock ?_
      refine Run.reg ?_
      refine op (OpS.bin rfl rfl rfl rfl rfl ?_)
      refine op (OpS.mv rfl rfl rfl ?_)
      refine RunL.nil ?_
      refine Run.slim [(35, .int .i64 (IntKind.i64.wrap (s2.2.1 + 1))), (10, (pre u5 (s2.1 + ([d3]).length))), (8, u22), (1, .int .i64 a1), (4, u2), (7, u6), (9, u11), (33, u5), (34, .int .i64 (y1.Pending.length : Int))] ⟨rfl, rfl, rfl, rfl, rfl, rfl, rfl, rfl, rfl, trivial⟩ ?_
      refine Run.slim [(1, .int .i64 a1), (4, u2), (7, u6), (8, u22), (9, u11), (10, (pre u5 (s2.1 + ([d3]).length))), (33, u5), (34, .int .i64 (y1.Pending.length : Int)), (35, .int .i64 (IntKind.i64.wrap (s2.2.1 + 1)))] ⟨rfl, rfl, rfl, rfl, rfl, rfl, rfl, rfl, rfl, trivial⟩ ?_
      exact hk1 ((s2.1 + ([d3]).length), (IntKind.i64.wrap (s2.2.1 + 1)), x3, s2.2.2.2.1, d4) _ _ ⟨u22, u11, rfl, (h52.facts .nil).picks (.cons (.s (.s (.s .z))) (.cons (.s (.s (.s .z))) (.cons (.s (.s .z)) (.cons (.s (.s .z)) (.cons .z .nil)))))⟩ hF
   ·
    refine Run.exit rfl ?_
    refine Run.seq ?_
    refine Run.reg ?_
    refine op (OpS.mv rfl rfl rfl ?_)
    refine op (OpS.fbox (o3 := 2) h31 (.s .z) PA.z fa26_2 rfl rfl rfl rfl ?_)
    obtain ⟨e18, hF⟩ := chk_use hF
    have h53 := St.shrink (h31.pick (.s (.s (.s (.s .z))))) (of_decide_eq_true e18)
    refine op (OpS.storeC (f' := true) (fr := (Rep.raw (pre u5 s2.1))) (r' := (Rep.iso (fun s : Requester_ => (s.Own, s.Next, s.Pending, ())) (Rep.prod (Rep.int .u8) (Rep.prod (Rep.int .i64) (Rep.prod (Rep.raw (pre u5 s2.1)) Rep.unit))))) (x' := y1) h53 (.s (.s .z)) PA.a (Chg.iso _ (Chg.there (Chg.there (Chg.here (Chg.id (by rfl)))))) (Ty.like ty24 (by rfl) (by rfl)) rfl rfl rfl (V.raw (f := true) (St.own1 h53 .z) y1.Pending) (.inl rfl) (fun w23 h54 => ?_))
    refine RunL.nil ?_
    refine Run.slim [(4, u2), (7, u6), (8, u10), (9, u11)] ⟨rfl, rfl, rfl, rfl, trivial⟩ ?_
    refine Run.seq ?_
    refine Run.reg ?_
    refine op (OpS.loadB (fr := (Rep.iso (fun s : Requester_ => (s.Own, s.Next, s.Pending, ())) (Rep.prod (Rep.int .u8) (Rep.prod (Rep.int .i64) (Rep.prod (Rep.raw (pre u5 s2.1)) Rep.unit))))) h54 .z PA.z (GetS.ok GetS.id) (Ty.like ty26 (by rfl) (by rfl)) rfl rfl rfl (fun u25 h55 => ?_))
    refine op (OpS.mv rfl rfl rfl ?_)
    refine op (OpS.mv rfl rfl rfl ?_)
    refine op (OpS.storeC (f' := true) (fr := (Rep.iso (fun s : Requester_ => (s.Own, s.Next, s.Pending, ())) (Rep.prod (Rep.int .u8) (Rep.prod (Rep.int .i64) (Rep.prod (Rep.raw (pre u5 s2.1)) Rep.unit))))) (r' := (Rep.iso (fun s : Requester_ => (s.Own, s.Next, s.Pending, ())) (Rep.prod (Rep.int .u8) (Rep.prod (Rep.int .i64) (Rep.prod (Rep.raw (pre u5 s2.1)) Rep.unit))))) (x' := y1) h55 (.s (.s .z)) PA.z (Chg.id (by rfl)) (Ty.like ty26 (by rfl) (by rfl)) rfl rfl rfl (V.at .z) (.inl rfl) (fun w24 h56 => ?_))
    refine op (OpS.as rfl rfl rfl ?_)
    refine op (OpS.as rfl rfl rfl ?_)
    refine RunL.nil ?_
    refine Run.slim [(6, u11), (5, u10), (4, u2)] ⟨rfl, rfl, rfl, trivial⟩ ?_
    obtain ⟨u26, hu2, h57⟩ := res_box h56 .z (Ty.like ty26 (by rfl) (by rfl))
    have h58 := (h57.pick (.s (.s .z))).freeze
    have h59 := h58.pick .z
    have h60 := h59.weak
    have h61 := St.boxJ (r' := Requester_.rep) (x' := { y1 with Pending := (s2.2.2.2.2.take s2.1) }) h60 (fun _ _ hs_ => (Jn.iso _ (Jn.prod Jn.refl (Jn.prod Jn.refl (Jn.prod (Jn.raw ((V.at .z) _ _ hs_) rfl) Jn.refl)))))
    have h62 := h61.pick (.s .z)
    have h63 := h62.weak
    have h64 := St.boxJ (r' := Requester_.rep) (x' := { y1 with Pending := (s2.2.2.2.2.take s2.1) }) h63 (fun _ _ hs_ => (Jn.iso _ (Jn.prod Jn.refl (Jn.prod Jn.refl (Jn.prod (Jn.raw ((V.at .z) _ _ hs_) rfl) Jn.refl)))))
    have h65 := St.addV (f := false) (r := Requester_.rep) (x := { y1 with Pending := (s2.2.2.2.2.take s2.1) }) h64 (V.jn (r := (Rep.iso (fun s : Requester_ => (s.Own, s.Next, s.Pending, ())) (Rep.prod (Rep.int .u8) (Rep.prod (Rep.int .i64) (Rep.prod (Rep.raw (pre u5 s2.1)) Rep.unit))))) (x := y1) (V.weak (V.at (.s .z))) rfl (fun _ _ hs_ => (Jn.iso _ (Jn.prod Jn.refl (Jn.prod Jn.refl (Jn.prod (Jn.raw ((V.at .z) _ _ hs_) rfl) Jn.refl))))))
    refine Run.retP rfl (.cell rfl hu2 (.tmp rfl (.tmp rfl .nil))) ?_
    cases hF
    exact Post.mk' ⟨u26, u10, u11, rfl, rfl, rfl, rfl⟩ (h65.picks (.cons (.s (.s .z)) (.cons (.s (.s .z)) .nil))) (.val (V.at .z) .nil)
 ·
  refine RunL.caseb hF (fun e19 hF => ?_) (fun e19 hF => ?_)
  ·
   refine op (OpS.pass rfl rfl rfl ?_)
   refine op (OpS.pass rfl rfl rfl ?_)
   refine op (OpS.pick rfl rfl rfl rfl ?_)
   refine op (OpS.mv rfl rfl rfl ?_)
   refine op (OpS.pass rfl rfl rfl ?_)
   refine op (OpS.pass rfl rfl rfl ?_)
   refine op (OpS.pick rfl rfl rfl rfl ?_)
   refine RunL.nil ?_
   refine Run.slim [(27, .bool true), (7, u6), (4, u2), (1, .int .i64 a1)] ⟨rfl, rfl, rfl, rfl, trivial⟩ ?_
   refine Run.slim [(1, .int .i64 a1), (4, u2), (7, u6), (27, .bool true)] ⟨rfl, rfl, rfl, rfl, trivial⟩ ?_
   exact hj1 (true) _ _ ⟨rfl, (h12.facts .nil).picks (.cons (.s (.s (.s .z))) (.cons .z (.cons (.s .z) .nil)))⟩ hF
  ·
   refine op (OpS.mv rfl rfl rfl ?_)
   refine op (OpS.bin rfl rfl rfl rfl rfl ?_)
   refine op (OpS.pick rfl rfl rfl rfl ?_)
   refine op (OpS.mv rfl rfl rfl ?_)
   refine RunL.caseb hF (fun e20 hF => ?_) (fun e20 hF => ?_)
   ·
    refine op (OpS.pass rfl rfl rfl ?_)
    refine op (OpS.pass rfl rfl rfl ?_)
    refine op (OpS.pick rfl rfl rfl rfl ?_)
    refine RunL.nil ?_
    refine Run.slim [(27, .bool true), (7, u6), (4, u2), (1, .int .i64 a1)] ⟨rfl, rfl, rfl, rfl, trivial⟩ ?_
    refine Run.slim [(1, .int .i64 a1), (4, u2), (7, u6), (27, .bool true)] ⟨rfl, rfl, rfl, rfl, trivial⟩ ?_
    exact hj1 (true) _ _ ⟨rfl, (h12.facts .nil).picks (.cons (.s (.s (.s .z))) (.cons .z (.cons (.s .z) .nil)))⟩ hF
   ·
    refine op (OpS.mv rfl rfl rfl ?_)
    refine op (OpS.bin rfl rfl rfl rfl rfl ?_)
    refine op (OpS.pick rfl rfl rfl rfl ?_)
    refine RunL.nil ?_
    refine Run.slim [(27, .bool (decide (a1 > 17179869184))), (7, u6), (4, u2), (1, .int .i64 a1)] ⟨rfl, rfl, rfl, rfl, trivial⟩ ?_
    refine Run.slim [(1, .int .i64 a1), (4, u2), (7, u6), (27, .bool (decide (a1 > 17179869184)))] ⟨rfl, rfl, rfl, rfl, trivial⟩ ?_
    exact hj1 (decide (a1 > 17179869184)) _ _ ⟨rfl, (h12.facts .nil).picks (.cons (.s (.s (.s .z))) (.cons .z (.cons (.s .z) .nil)))⟩ hF
set_option maxHeartbeats 8000000 in
theorem law24_awake_ok {fuel : Nat}  {y : Bool} (hF : law24_awake fuel  = some y) {w : World} :
  Spec Try.prog 8 [].toArray w [] [] (fun v Γr Ωr Ωo => v = .bool y ∧ Γr = [] ∧ Ωr = [] ∧ Ωo = []) := by
 refine Spec.of (L := []) Try.func8 rfl trivial rfl (fun e h => ?_)
 unfold law24_awake at hF
 refine Run.seq ?_
 refine Run.reg ?_
 refine op (OpS.as rfl rfl rfl ?_)
 refine RunL.nil ?_
 refine Run.slim [] trivial ?_
 refine Run.seq ?_
 refine Run.reg ?_
 obtain ⟨y1, e1, hF⟩ := bindP_use hF
 refine op (OpS.callP h Try.func9 rfl rfl rfl rfl (vs := [.int .u8 16]) rfl (exchange_New_ok e1) .nil ?_)
 rintro _ w1 _ _ _ ⟨u1, rfl, rfl, rfl, rfl⟩ h1
 have h2 := h1 rfl rfl
 simp only [List.cons_append, List.nil_append] at h2
 refine op (OpS.mv rfl rfl rfl ?_)
 refine op (OpS.ext rfl rfl rfl rfl ?_)
 refine op (OpS.ext rfl rfl rfl rfl ?_)
 refine op (OpS.alloc h2 ti26 Requester_.zr rfl rfl (fun u2 w2 h3 => ?_))
 refine op (OpS.storeB (f' := true) h3 .z PA.z Put.id ty26 rfl rfl rfl (V.at .z) (.inl rfl) (fun w3 h4 => ?_))
 refine op (OpS.as rfl rfl rfl ?_)
 refine RunL.nil ?_
 refine Run.slim [(2, .int .i64 y1.2), (1, u2)] ⟨rfl, rfl, trivial⟩ ?_
 refine Run.seq ?_
 refine Run.reg ?_
 refine op (OpS.loadB h4 .z PA.z Get.id ty26 rfl rfl rfl (fun u3 h5 => ?_))
 obtain ⟨y2, e2, hF⟩ := bindP_use hF
 have h6 := h5.front .nil
 refine op (OpS.callO h6 Try.func10 rfl rfl rfl rfl (vs := [u3, .int .u8 32, .int .u8 6, .int .u8 1, .slice none 0 0, .int .i64 0]) rfl (exchange_Send_ok e2) rfl (.cons (f := true) (V.at .z) (.cons (f := true) V.nil .nil)) ?_)
 rintro _ w4 _ _ _ ⟨u4, u5, rfl, rfl, rfl, rfl⟩ h7
 have h8 := h7
 simp only [List.cons_append, List.nil_append] at h8
 refine op (OpS.mv rfl rfl rfl ?_)
 refine op (OpS.ext rfl rfl rfl rfl ?_)
 refine op (OpS.ext rfl rfl rfl rfl ?_)
 refine op (OpS.ext rfl rfl rfl rfl ?_)
 have h9 := (h8.pick .z).weak
 refine op (OpS.storeB (f' := false) h9 .z PA.z Put.id ty26 rfl rfl rfl (V.at .z) (.inr rfl) (fun w5 h10 => ?_))
 refine op (OpS.as rfl rfl rfl ?_)
 refine op (OpS.as rfl rfl rfl ?_)
 refine RunL.nil ?_
 refine Run.slim [(4, .int .i64 y2.2.2), (3, u5), (2, .int .i64 y1.2), (1, u2)] ⟨rfl, rfl, rfl, rfl, trivial⟩ ?_
 refine Run.seq ?_
 refine Run.reg ?_
 refine op (OpS.as rfl rfl rfl ?_)
 refine RunL.nil ?_
 refine Run.seq ?_
 refine Run.seq ?_
 refine Run.reg ?_
 refine op (OpS.as rfl rfl rfl ?_)
 refine RunL.nil ?_
 refine Run.block ?_
 refine Run.slim [(1, u2), (2, .int .i64 y1.2), (3, u5), (4, .int .i64 y2.2.2), (5, .int .i64 0), (6, .int .i64 0)] ⟨rfl, rfl, rfl, rfl, rfl, rfl, trivial⟩ ?_
 refine Run.loopP (σ := (Int × Int × Requester_)) (fun s_ L_ w_ => L_ = [(1, u2), (2, .int .i64 y1.2), (3, u5), (4, .int .i64 y2.2.2), (5, .int .i64 s_.1), (6, .int .i64 s_.2.1)] ∧ St e w_ [(true, .val (Rep.slice (Rep.int .u8)) u5 y2.2.1)] [(false, .box 26 Requester_.rep u2 s_.2.2)]) hF ⟨rfl, (h10.facts (.atm (.s .z) .nil)).picks (.cons .z .nil)⟩ (fun k1 hk1 s1 _ w6 hI hF => ?_)
 obtain ⟨rfl, h11⟩ := hI
 refine Run.seq ?_
 refine Run.seq ?_
 refine Run.reg ?_
 refine op (OpS.mv rfl rfl rfl ?_)
 refine op (OpS.bin rfl rfl rfl rfl rfl ?_)
 refine RunL.nil ?_
 refine Run.slim [(21, .bool (decide (s1.2.1 < 80))), (1, u2), (2, .int .i64 y1.2), (3, u5), (4, .int .i64 y2.2.2), (5, .int .i64 s1.1), (6, .int .i64 s1.2.1)] ⟨rfl, rfl, rfl, rfl, rfl, rfl, rfl, trivial⟩ ?_
 refine Run.ite rfl hF (fun e3 hF => ?_) (fun e3 hF => ?_)
 ·
  refine Run.skip ?_
  refine Run.seq ?_
  refine Run.block ?_
  refine Run.seq ?_
  refine Run.reg ?_
  refine op (OpS.loadB h11 .z PA.z Get.id ty26 rfl rfl rfl (fun u6 h12 => ?_))
  refine op (OpS.mv rfl rfl rfl ?_)
  obtain ⟨y3, e4, hF⟩ := bindP_use hF
  have h13 := h12.front .nil
  refine op (OpS.callO h13 Try.func11 rfl rfl rfl rfl (vs := [u6, .int .i64 s1.2.1]) rfl (exchange_Tick_ok e4) rfl (.cons (f := false) (V.at .z) .nil) ?_)
  rintro _ w7 _ _ _ ⟨u7, u8, u9, rfl, rfl, rfl, rfl⟩ h14
  have h15 := h14
  simp only [List.cons_append, List.nil_append] at h15
  refine op (OpS.mv rfl rfl rfl ?_)
  refine op (OpS.ext rfl rfl rfl rfl ?_)
  refine op (OpS.ext rfl rfl rfl rfl ?_)
  refine op (OpS.ext rfl rfl rfl rfl ?_)
  refine op (OpS.alloc h15 ti26 Requester_.zr rfl rfl (fun u10 w8 h16 => ?_))
  have h17 := (h16.pick .z).weak
  refine op (OpS.storeB (f' := false) h17 .z PA.z Put.id ty26 rfl rfl rfl (V.at .z) (.inr rfl) (fun w9 h18 => ?_))
  refine op (OpS.as rfl rfl rfl ?_)
  have h19 := (h18.pick (.s .z)).freeze
  refine op (OpS.as rfl rfl rfl ?_)
  have h20 := (h19.pick (.s .z)).freeze
  refine RunL.nil ?_
  refine Run.slim [(9, u9), (8, u8), (7, u10), (1, u2), (2, .int .i64 y1.2), (3, u5), (4, .int .i64 y2.2.2), (5, .int .i64 s1.1), (6, .int .i64 s1.2.1)] ⟨rfl, rfl, rfl, rfl, rfl, rfl, rfl, rfl, rfl, trivial⟩ ?_
  refine Run.seq ?_
  refine Run.reg ?_
  refine op (OpS.loadB h20 .z PA.z Get.id ty26 rfl rfl rfl (fun u11 h21 => ?_))
  refine op (OpS.storeB (f' := false) h21 (.s .z) PA.z Put.id ty26 rfl rfl rfl (V.at .z) (.inr rfl) (fun w10 h22 => ?_))
  refine RunL.nil ?_
  refine Run.slim [(9, u9), (8, u8), (1, u2), (2, .int .i64 y1.2), (3, u5), (4, .int .i64 y2.2.2), (5, .int .i64 s1.1), (6, .int .i64 s1.2.1)] ⟨rfl, rfl, rfl, rfl, rfl, rfl, rfl, rfl, trivial⟩ ?_
  refine Run.seq ?_
  refine Run.reg ?_
  refine op (OpS.mv rfl rfl rfl ?_)
  refine op (OpS.mv rfl rfl rfl ?_)
  refine op (OpS.len h22 Try.underlying33 rfl rfl rfl (V.at (.s (.s .z))) ?_)
  refine op (OpS.bin rfl rfl rfl rfl rfl ?_)
  refine op (OpS.as rfl rfl rfl ?_)
  obtain ⟨x1, e5, hF⟩ := letP_use hF
  refine RunL.name e5 ?_
  refine RunL.nil ?_
  refine Run.slim [(5, .int .i64 x1), (9, u9), (8, u8), (1, u2), (2, .int .i64 y1.2), (3, u5), (4, .int .i64 y2.2.2), (6, .int .i64 s1.2.1)] ⟨rfl, rfl, rfl, rfl, rfl, rfl, rfl, rfl, trivial⟩ ?_
  refine Run.seq ?_
  refine Run.reg ?_
  refine op (OpS.mv rfl rfl rfl ?_)
  refine op (OpS.len h22 Try.underlying33 rfl rfl rfl (V.at (.s (.s .z))) ?_)
  refine op (OpS.bin rfl rfl rfl rfl rfl ?_)
  refine op (OpS.mv rfl rfl rfl ?_)
  refine RunL.join (σ := Bool) (fun s_ L_ w_ => L_ = [(1, u2), (2, .int .i64 y1.2), (3, u5), (4, .int .i64 y2.2.2), (5, .int .i64 x1), (6, .int .i64 s1.2.1), (55, .bool s_)] ∧ St e w_ [(true, .val (Rep.slice (Rep.int .u8)) u5 y2.2.1)] [(false, .box 26 Requester_.rep u2 y3.1)]) hF (fun s2 _ w11 hI hF => ?_) (fun j1 hj1 hF => ?_)
  ·
   obtain ⟨rfl, h23⟩ := hI
   refine Run.ite rfl hF (fun e6 hF => ?_) (fun e6 hF => ?_)
   ·
    refine Run.seq ?_
    refine Run.reg ?_
    refine op (OpS.as rfl rfl rfl ?_)
    refine RunL.nil ?_
    refine Run.slim [(0, .bool false)] ⟨rfl, trivial⟩ ?_
    refine Run.retP rfl (.tmp rfl .nil) ?_
    cases hF
    exact Post.mk' ⟨rfl, rfl, rfl, rfl⟩ (h23.picks .nil) .nil
   ·
    refine Run.skip ?_
    refine Run.endBlock ?_
    refine Run.reg ?_
    refine op (OpS.mv rfl rfl rfl ?_)
    refine op (OpS.bin rfl rfl rfl rfl rfl ?_)
    refine op (OpS.as rfl rfl rfl ?_)
    obtain ⟨x2, e7, hF⟩ := letP_use hF
    refine RunL.name e7 ?_
    refine RunL.nil ?_
    refine Run.slim [(6, .int .i64 x2), (1, u2), (2, .int .i64 y1.2), (3, u5), (4, .int .i64 y2.2.2), (5, .int .i64 x1)] ⟨rfl, rfl, rfl, rfl, rfl, rfl, trivial⟩ ?_
    refine Run.slim [(1, u2), (2, .int .i64 y1.2), (3, u5), (4, .int .i64 y2.2.2), (5, .int .i64 x1), (6, .int .i64 x2)] ⟨rfl, rfl, rfl, rfl, rfl, rfl, trivial⟩ ?_
    exact hk1 (x1, x2, y3.1) _ _ ⟨rfl, (h23.facts (.atm .z .nil)).picks (.cons .z .nil)⟩ hF
  ·
   refine RunL.caseb hF (fun e8 hF => ?_) (fun e8 hF => ?_)
   ·
    refine op (OpS.mv rfl rfl rfl ?_)
    refine op (OpS.bin rfl rfl rfl rfl rfl ?_)
    refine op (OpS.pick rfl rfl rfl rfl ?_)
    refine op (OpS.mv rfl rfl rfl ?_)
    refine RunL.caseb hF (fun e9 hF => ?_) (fun e9 hF => ?_)
    ·
     refine op (OpS.mv rfl rfl rfl ?_)
     refine op (OpS.bin rfl rfl rfl rfl rfl ?_)
     refine op (OpS.pick rfl rfl rfl rfl ?_)
     refine op (OpS.mv rfl rfl rfl ?_)
     refine RunL.caseb hF (fun e10 hF => ?_) (fun e10 hF => ?_)
     ·
      refine op (OpS.pass rfl rfl rfl ?_)
      refine op (OpS.pass rfl rfl rfl ?_)
      refine op (OpS.pass rfl rfl rfl ?_)
      refine op (OpS.pass rfl rfl rfl ?_)
      refine op (OpS.pass rfl rfl rfl ?_)
      refine op (OpS.pass rfl rfl rfl ?_)
      refine op (OpS.pass rfl rfl rfl ?_)
      refine op (OpS.pick rfl rfl rfl rfl ?_)
      refine RunL.nil ?_
      refine Run.slim [(55, .bool true), (5, .int .i64 x1), (1, u2), (2, .int .i64 y1.2), (3, u5), (4, .int .i64 y2.2.2), (6, .int .i64 s1.2.1)] ⟨rfl, rfl, rfl, rfl, rfl, rfl, rfl, trivial⟩ ?_
      refine Run.slim [(1, u2), (2, .int .i64 y1.2), (3, u5), (4, .int .i64 y2.2.2), (5, .int .i64 x1), (6, .int .i64 s1.2.1), (55, .bool true)] ⟨rfl, rfl, rfl, rfl, rfl, rfl, rfl, trivial⟩ ?_
      exact hj1 (true) _ _ ⟨rfl, (h22.facts (.atm (.s (.s (.s (.s (.s .z))))) .nil)).picks (.cons .z .nil)⟩ hF
     ·
      refine op (OpS.mv rfl rfl rfl ?_)
      refine op (OpS.len h22 Try.underlying34 rfl rfl rfl (V.at (.s .z)) ?_)
      refine op (OpS.bin rfl rfl rfl rfl rfl ?_)
      refine op (OpS.mv rfl rfl rfl ?_)
      refine RunL.caseb hF (fun e11 hF => ?_) (fun e11 hF => ?_)
      ·
       refine op (OpS.mv rfl rfl rfl ?_)
       refine op (OpS.bin rfl rfl rfl rfl rfl ?_)
       refine op (OpS.pick rfl rfl rfl rfl ?_)
       refine op (OpS.pick rfl rfl rfl rfl ?_)
       refine RunL.nil ?_
       refine Run.slim [(55, .bool (s1.2.1 != 70)), (5, .int .i64 x1), (1, u2), (2, .int .i64 y1.2), (3, u5), (4, .int .i64 y2.2.2), (6, .int .i64 s1.2.1)] ⟨rfl, rfl, rfl, rfl, rfl, rfl, rfl, trivial⟩ ?_
       refine Run.slim [(1, u2), (2, .int .i64 y1.2), (3, u5), (4, .int .i64 y2.2.2), (5, .int .i64 x1), (6, .int .i64 s1.2.1), (55, .bool (s1.2.1 != 70))] ⟨rfl, rfl, rfl, rfl, rfl, rfl, rfl, trivial⟩ ?_
       exact hj1 (s1.2.1 != 70) _ _ ⟨rfl, (h22.facts (.atm (.s (.s (.s (.s (.s .z))))) .nil)).picks (.cons .z .nil)⟩ hF
      ·
       refine op (OpS.pass rfl rfl rfl ?_)
       refine op (OpS.pass rfl rfl rfl ?_)
       refine op (OpS.pick rfl rfl rfl rfl ?_)
       refine op (OpS.pick rfl rfl rfl rfl ?_)
       refine RunL.nil ?_
       refine Run.slim [(55, .bool false), (5, .int .i64 x1), (1, u2), (2, .int .i64 y1.2), (3, u5), (4, .int .i64 y2.2.2), (6, .int .i64 s1.2.1)] ⟨rfl, rfl, rfl, rfl, rfl, rfl, rfl, trivial⟩ ?_
       refine Run.slim [(1, u2), (2, .int .i64 y1.2), (3, u5), (4, .int .i64 y2.2.2), (5, .int .i64 x1), (6, .int .i64 s1.2.1), (55, .bool false)] ⟨rfl, rfl, rfl, rfl, rfl, rfl, rfl, trivial⟩ ?_
       exact hj1 (false) _ _ ⟨rfl, (h22.facts (.atm (.s (.s (.s (.s (.s .z))))) .nil)).picks (.cons .z .nil)⟩ hF
    ·
     refine op (OpS.pass rfl rfl rfl ?_)
     refine op (OpS.pass rfl rfl rfl ?_)
     refine op (OpS.pick rfl rfl rfl rfl ?_)
     refine op (OpS.mv rfl rfl rfl ?_)
     refine op (OpS.mv rfl rfl rfl ?_)
     refine op (OpS.len h22 Try.underlying34 rfl rfl rfl (V.at (.s .z)) ?_)
     refine op (OpS.bin rfl rfl rfl rfl rfl ?_)
     refine op (OpS.mv rfl rfl rfl ?_)
     refine RunL.caseb hF (fun e12 hF => ?_) (fun e12 hF => ?_)
     ·
      refine op (OpS.mv rfl rfl rfl ?_)
      refine op (OpS.bin rfl rfl rfl rfl rfl ?_)
      refine op (OpS.pick rfl rfl rfl rfl ?_)
      refine op (OpS.pick rfl rfl rfl rfl ?_)
      refine RunL.nil ?_
      refine Run.slim [(55, .bool (s1.2.1 != 70)), (5, .int .i64 x1), (1, u2), (2, .int .i64 y1.2), (3, u5), (4, .int .i64 y2.2.2), (6, .int .i64 s1.2.1)] ⟨rfl, rfl, rfl, rfl, rfl, rfl, rfl, trivial⟩ ?_
      refine Run.slim [(1, u2), (2, .int .i64 y1.2), (3, u5), (4, .int .i64 y2.2.2), (5, .int .i64 x1), (6, .int .i64 s1.2.1), (55, .bool (s1.2.1 != 70))] ⟨rfl, rfl, rfl, rfl, rfl, rfl, rfl, trivial⟩ ?_
      exact hj1 (s1.2.1 != 70) _ _ ⟨rfl, (h22.facts (.atm (.s (.s (.s (.s (.s .z))))) .nil)).picks (.cons .z .nil)⟩ hF
     ·
      refine op (OpS.pass rfl rfl rfl ?_)
      refine op (OpS.pass rfl rfl rfl ?_)
      refine op (OpS.pick rfl rfl rfl rfl ?_)
      refine op (OpS.pick rfl rfl rfl rfl ?_)
      refine RunL.nil ?_
      refine Run.slim [(55, .bool false), (5, .int .i64 x1), (1, u2), (2, .int .i64 y1.2), (3, u5), (4, .int .i64 y2.2.2), (6, .int .i64 s1.2.1)] ⟨rfl, rfl, rfl, rfl, rfl, rfl, rfl, trivial⟩ ?_
      refine Run.slim [(1, u2), (2, .int .i64 y1.2), (3, u5), (4, .int .i64 y2.2.2), (5, .int .i64 x1), (6, .int .i64 s1.2.1), (55, .bool false)] ⟨rfl, rfl, rfl, rfl, rfl, rfl, rfl, trivial⟩ ?_
      exact hj1 (false) _ _ ⟨rfl, (h22.facts (.atm (.s (.s (.s (.s (.s .z))))) .nil)).picks (.cons .z .nil)⟩ hF
   ·
    refine op (OpS.pass rfl rfl rfl ?_)
    refine op (OpS.pass rfl rfl rfl ?_)
    refine op (OpS.pick rfl rfl rfl rfl ?_)
    refine op (OpS.mv rfl rfl rfl ?_)
    refine op (OpS.pass rfl rfl rfl ?_)
    refine op (OpS.pass rfl rfl rfl ?_)
    refine op (OpS.pick rfl rfl rfl rfl ?_)
    refine op (OpS.mv rfl rfl rfl ?_)
    refine op (OpS.mv rfl rfl rfl ?_)
    refine op (OpS.len h22 Try.underlying34 rfl rfl rfl (V.at (.s .z)) ?_)
    refine op (OpS.bin rfl rfl rfl rfl rfl ?_)
    refine op (OpS.mv rfl rfl rfl ?_)
    refine RunL.caseb hF (fun e13 hF => ?_) (fun e13 hF => ?_)
    ·
     refine op (OpS.mv rfl rfl rfl ?_)
     refine op (OpS.bin rfl rfl rfl rfl rfl ?_)
     refine op (OpS.pick rfl rfl rfl rfl ?_)
     refine op (OpS.pick rfl rfl rfl rfl ?_)
     refine RunL.nil ?_
     refine Run.slim [(55, .bool (s1.2.1 != 70)), (5, .int .i64 x1), (1, u2), (2, .int .i64 y1.2), (3, u5), (4, .int .i64 y2.2.2), (6, .int .i64 s1.2.1)] ⟨rfl, rfl, rfl, rfl, rfl, rfl, rfl, trivial⟩ ?_
     refine Run.slim [(1, u2), (2, .int .i64 y1.2), (3, u5), (4, .int .i64 y2.2.2), (5, .int .i64 x1), (6, .int .i64 s1.2.1), (55, .bool (s1.2.1 != 70))] ⟨rfl, rfl, rfl, rfl, rfl, rfl, rfl, trivial⟩ ?_
     exact hj1 (s1.2.1 != 70) _ _ ⟨rfl, (h22.facts (.atm (.s (.s (.s (.s (.s .z))))) .nil)).picks (.cons .z .nil)⟩ hF
    ·
     refine op (OpS.pass rfl rfl rfl ?_)
     refine op (OpS.pass rfl rfl rfl ?_)
     refine op (OpS.pick rfl rfl rfl rfl ?_)
     refine op (OpS.pick rfl rfl rfl rfl ?_)
     refine RunL.nil ?_
     refine Run.slim [(55, .bool false), (5, .int .i64 x1), (1, u2), (2, .int .i64 y1.2), (3, u5), (4, .int .i64 y2.2.2), (6, .int .i64 s1.2.1)] ⟨rfl, rfl, rfl, rfl, rfl, rfl, rfl, trivial⟩ ?_
     refine Run.slim [(1, u2), (2, .int .i64 y1.2), (3, u5), (4, .int .i64 y2.2.2), (5, .int .i64 x1), (6, .int .i64 s1.2.1), (55, .bool false)] ⟨rfl, rfl, rfl, rfl, rfl, rfl, rfl, trivial⟩ ?_
     exact hj1 (false) _ _ ⟨rfl, (h22.facts (.atm (.s (.s (.s (.s (.s .z))))) .nil)).picks (.cons .z .nil)⟩ hF
 ·
  refine Run.exit rfl ?_
  refine Run.seq ?_
  refine Run.reg ?_
  refine op (OpS.mv rfl rfl rfl ?_)
  refine op (OpS.bin rfl rfl rfl rfl rfl ?_)
  refine op (OpS.mv rfl rfl rfl ?_)
  refine RunL.caseb hF (fun e14 hF => ?_) (fun e14 hF => ?_)
  ·
   refine op (OpS.mv rfl rfl rfl ?_)
   refine op (OpS.bin rfl rfl rfl rfl rfl ?_)
   refine op (OpS.pick rfl rfl rfl rfl ?_)
   refine op (OpS.mv rfl rfl rfl ?_)
   refine RunL.caseb hF (fun e15 hF => ?_) (fun e15 hF => ?_)
   ·
    refine op (OpS.mv rfl rfl rfl ?_)
    refine op (OpS.len h11 Try.underlying22 rfl rfl rfl (V.at .z) ?_)
    refine op (OpS.bin rfl rfl rfl rfl rfl ?_)
    refine op (OpS.pick rfl rfl rfl rfl ?_)
    refine op (OpS.mv rfl rfl rfl ?_)
    refine RunL.caseb hF (fun e16 hF => ?_) (fun e16 hF => ?_)
    ·
     refine op (OpS.mv rfl rfl rfl ?_)
     refine op (OpS.bin rfl rfl rfl rfl rfl ?_)
     refine op (OpS.pick rfl rfl rfl rfl ?_)
     refine op (OpS.mv rfl rfl rfl ?_)
     refine RunL.caseb hF (fun e17 hF => ?_) (fun e17 hF => ?_)
     ·
      refine op (OpS.fbox (o3 := 2) h11 .z PA.z fa26_2 rfl rfl rfl rfl ?_)
      refine op (OpS.loadB h11 .z PA.a (Get.fld Requester_.f2) ty24 rfl rfl rfl (fun u12 h24 => ?_))
      refine op (OpS.len h24 Try.underlying24 rfl rfl rfl (V.at .z) ?_)
      refine op (OpS.bin rfl rfl rfl rfl rfl ?_)
      refine op (OpS.pick rfl rfl rfl rfl ?_)
      refine op (OpS.as rfl rfl rfl ?_)
      obtain ⟨x3, e18, hF⟩ := letP_use hF
      refine RunL.nameb e18 ?_
      refine RunL.nil ?_
      refine Run.slim [(0, .bool x3)] ⟨rfl, trivial⟩ ?_
      refine Run.retP rfl (.tmp rfl .nil) ?_
      cases hF
      exact Post.mk' ⟨rfl, rfl, rfl, rfl⟩ (h24.picks .nil) .nil
     ·
      refine op (OpS.pass rfl rfl rfl ?_)
      refine op (OpS.pass rfl rfl rfl ?_)
      refine op (OpS.pass rfl rfl rfl ?_)
      refine op (OpS.pass rfl rfl rfl ?_)
      refine op (OpS.pick rfl rfl rfl rfl ?_)
      refine op (OpS.as rfl rfl rfl ?_)
      refine RunL.nil ?_
      refine Run.slim [(0, .bool false)] ⟨rfl, trivial⟩ ?_
      refine Run.retP rfl (.tmp rfl .nil) ?_
      cases hF
      exact Post.mk' ⟨rfl, rfl, rfl, rfl⟩ (h11.picks .nil) .nil
    ·
     refine op (OpS.pass rfl rfl rfl ?_)
     refine op (OpS.pass rfl rfl rfl ?_)
     refine op (OpS.pick rfl rfl rfl rfl ?_)
     refine op (OpS.mv rfl rfl rfl ?_)
     refine op (OpS.pass rfl rfl rfl ?_)
     refine op (OpS.pass rfl rfl rfl ?_)
     refine op (OpS.pass rfl rfl rfl ?_)
     refine op (OpS.pass rfl rfl rfl ?_)
     refine op (OpS.pick rfl rfl rfl rfl ?_)
     refine op (OpS.as rfl rfl rfl ?_)
     refine RunL.nil ?_
     refine Run.slim [(0, .bool false)] ⟨rfl, trivial⟩ ?_
     refine Run.retP rfl (.tmp rfl .nil) ?_
     cases hF
     exact Post.mk' ⟨rfl, rfl, rfl, rfl⟩ (h11.picks .nil) .nil
   ·
    refine op (OpS.pass rfl rfl rfl ?_)
    refine op (OpS.pass rfl rfl rfl ?_)
    refine op (OpS.pass rfl rfl rfl ?_)
    refine op (OpS.pick rfl rfl rfl rfl ?_)
    refine op (OpS.mv rfl rfl rfl ?_)
    refine op (OpS.pass rfl rfl rfl ?_)
    refine op (OpS.pass rfl rfl rfl ?_)
    refine op (OpS.pick rfl rfl rfl rfl ?_)
    refine op (OpS.mv rfl rfl rfl ?_)
    refine op (OpS.pass rfl rfl rfl ?_)
    refine op (OpS.pass rfl rfl rfl ?_)
    refine op (OpS.pass rfl rfl rfl ?_)
    refine op (OpS.pass rfl rfl rfl ?_)
    refine op (OpS.pick rfl rfl rfl rfl ?_)
    refine op (OpS.as rfl rfl rfl ?_)
    refine RunL.nil ?_
    refine Run.slim [(0, .bool false)] ⟨rfl, trivial⟩ ?_
    refine Run.retP rfl (.tmp rfl .nil) ?_
    cases hF
    exact Post.mk' ⟨rfl, rfl, rfl, rfl⟩ (h11.picks .nil) .nil
  ·
   refine op (OpS.pass rfl rfl rfl ?_)
   refine op (OpS.pass rfl rfl rfl ?_)
   refine op (OpS.pick rfl rfl rfl rfl ?_)
   refine op (OpS.mv rfl rfl rfl ?_)
   refine op (OpS.pass rfl rfl rfl ?_)
   refine op (OpS.pass rfl rfl rfl ?_)
   refine op (OpS.pass rfl rfl rfl ?_)
   refine op (OpS.pick rfl rfl rfl rfl ?_)
   refine op (OpS.mv rfl rfl rfl ?_)
   refine op (OpS.pass rfl rfl rfl ?_)
   refine op (OpS.pass rfl rfl rfl ?_)
   refine op (OpS.pick rfl rfl rfl rfl ?_)
   refine op (OpS.mv rfl rfl rfl ?_)
   refine op (OpS.pass rfl rfl rfl ?_)
   refine op (OpS.pass rfl rfl rfl ?_)
   refine op (OpS.pass rfl rfl rfl ?_)
   refine op (OpS.pass rfl rfl rfl ?_)
   refine op (OpS.pick rfl rfl rfl rfl ?_)
   refine op (OpS.as rfl rfl rfl ?_)
   refine RunL.nil ?_
   refine Run.slim [(0, .bool false)] ⟨rfl, trivial⟩ ?_
   refine Run.retP rfl (.tmp rfl .nil) ?_
   cases hF
   exact Post.mk' ⟨rfl, rfl, rfl, rfl⟩ (h11.picks .nil) .nil
theorem field_New_ok {fuel : Nat} {a0 : List Int} {a1 : Int} {y : field_Codes} (hF : field_New fuel a0 a1 = some y) {w : World} {v0 : Value} :
  Spec Try.prog 12 [v0, .int .i64 a1].toArray w [(false, .val (Rep.slice (Rep.int .u8)) v0 a0)] [] (fun v Γr Ωr Ωo => ∃ u0 : Value, v = u0 ∧ Γr = [] ∧ Ωr = [(false, .box 72 field_Codes.rep u0 y)] ∧ Ωo = []) := by
 refine Spec.of (L := [(0, v0), (1, .int .i64 a1)]) Try.func12 rfl ⟨rfl, rfl, trivial⟩ rfl (fun e h => ?_)
 unfold field_New at hF
 refine Run.seq ?_
 refine Run.reg ?_
 refine op (OpS.as rfl rfl rfl ?_)
 refine RunL.nil ?_
 refine Run.slim [(0, v0), (1, .int .i64 a1)] ⟨rfl, rfl, trivial⟩ ?_
 refine Run.seq ?_
 refine Run.reg ?_
 refine op (OpS.mv rfl rfl rfl ?_)
 refine op (OpS.mv rfl rfl rfl ?_)
 refine op (OpS.len h Try.underlying22 rfl rfl rfl (V.at .z) ?_)
 refine op (OpS.mv rfl rfl rfl ?_)
 refine op (OpS.mini rfl rfl rfl rfl ?_)
 obtain ⟨x1, e1, hF⟩ := bindP_use hF
 refine op (OpS.sub h Try.underlying22 ty5 rfl rfl rfl rfl rfl (V.at .z) e1 (fun u1 h1 => ?_))
 refine op (OpS.build (f := false) (x' := (⟨x1, 0⟩ : field_Codes)) h1 pl72 ti72 field_Codes.zr rfl rfl rfl (.cons rfl field_Codes.f0 rfl (V.at .z) .nil) (fun u2 h2 => ?_))
 refine op (OpS.boxF h2 rfl rfl rfl (V.at .z) (fun u3 w1 h3 => ?_))
 refine op (OpS.as rfl rfl rfl ?_)
 refine RunL.nil ?_
 refine Run.slim [(4, u3)] ⟨rfl, trivial⟩ ?_
 refine Run.retP rfl (.tmp rfl .nil) ?_
 cases hF
 exact Post.mk' ⟨u3, rfl, rfl, rfl, rfl⟩ (h3.picks (.cons .z .nil)) .nil
theorem field_Codes_Left_ok {fuel : Nat} {a0 : field_Codes} {y : Bool} (hF : field_Codes_Left fuel a0 = some y) {w : World} {v0 : Value} :
  Spec Try.prog 39 [v0].toArray w [(false, .ptr field_Codes.rep v0 a0)] [] (fun v Γr Ωr Ωo => v = .bool y ∧ Γr = [] ∧ Ωr = [] ∧ Ωo = []) := by
 refine Spec.of (L := [(0, v0)]) Try.func39 rfl ⟨rfl, trivial⟩ rfl (fun e h => ?_)
 unfold field_Codes_Left at hF
 refine Run.seq ?_
 refine Run.reg ?_
 refine op (OpS.as rfl rfl rfl ?_)
 refine RunL.nil ?_
 refine Run.slim [(0, v0)] ⟨rfl, trivial⟩ ?_
 refine Run.seq ?_
 refine Run.drawV (Ωs := []) [⟨some 3, some (v0), fun _ => [], fun ds_ u_ => [], [], [], none⟩, ⟨some 4, some (v0), fun _ => [], fun ds_ u_ => [], [], [], none⟩, ⟨some 5, none, fun u_ => [(false, .ptr (Rep.int .i64) u_ a0.At)], fun ds_ u_ => [], [], [], none⟩, ⟨some 6, some (.int .i64 a0.At), fun _ => [], fun ds_ u_ => [], [], [], none⟩, ⟨some 7, some (v0), fun _ => [], fun ds_ u_ => [], [], [], none⟩, ⟨some 8, some (v0), fun _ => [], fun ds_ u_ => [], [], [], none⟩, ⟨some 9, none, fun u_ => [(false, .ptr (Rep.slice (Rep.int .u8)) u_ a0.L)], fun ds_ u_ => [], [], [], none⟩, ⟨some 10, none, fun u_ => [(false, .val (Rep.slice (Rep.int .u8)) u_ a0.L)], fun ds_ u_ => [], [], [], none⟩, ⟨some 11, some (.int .i64 (a0.L.length : Int)), fun _ => [], fun ds_ u_ => [], [], [], none⟩, ⟨some 12, some (.bool (decide (a0.At < (a0.L.length : Int)))), fun _ => [], fun ds_ u_ => [], [], [], none⟩] [[], [0], [1], [2], [], [4], [5], [6], [7], [3, 8]] [] [0, 1, 2, 3, 4, 5, 6, 7, 8, 9] Try_mixed rfl rfl rfl h (.cons ?_ (.cons ?_ (.cons ?_ (.cons ?_ (.cons ?_ (.cons ?_ (.cons ?_ (.cons ?_ (.cons ?_ (.cons ?_ .nil)))))))))) (fun q1 w hq1 h => ?_)
 ·intro q1 w Γx Ωx h
  refine OpS.mv rfl rfl rfl ?_
  exact ⟨undef, rfl, trivial, h⟩
 ·intro q1 w Γx Ωx h
  refine OpS.nchkI h .z rfl rfl rfl ?_
  exact ⟨undef, rfl, trivial, h⟩
 ·intro q1 w Γx Ωx h
  refine OpS.fptr h fa72_1 field_Codes.f1 rfl rfl rfl .z (fun u h4 => ?_)
  exact ⟨u, rfl, trivial, h4⟩
 ·intro q1 w Γx Ωx h
  refine OpS.loadi h ty3 rfl rfl rfl .z ?_
  exact ⟨undef, rfl, trivial, h⟩
 ·intro q1 w Γx Ωx h
  refine OpS.mv rfl rfl rfl ?_
  exact ⟨undef, rfl, trivial, h⟩
 ·intro q1 w Γx Ωx h
  refine OpS.nchkI h .z rfl rfl rfl ?_
  exact ⟨undef, rfl, trivial, h⟩
 ·intro q1 w Γx Ωx h
  refine OpS.fptr h fa72_0 field_Codes.f0 rfl rfl rfl .z (fun u h5 => ?_)
  exact ⟨u, rfl, trivial, h5⟩
 ·intro q1 w Γx Ωx h
  refine OpS.load h ty22 rfl rfl rfl .z (fun u h6 => ?_)
  exact ⟨u, rfl, trivial, h6⟩
 ·intro q1 w Γx Ωx h
  refine OpS.len h Try.underlying22 rfl rfl rfl (V.at .z) ?_
  exact ⟨undef, rfl, trivial, h⟩
 ·intro q1 w Γx Ωx h
  refine OpS.bin rfl rfl rfl rfl rfl ?_
  exact ⟨undef, rfl, trivial, h⟩
 have h7 : St e w [(false, .ptr (Rep.int .i64) (q1 2) a0.At), (false, .ptr (Rep.slice (Rep.int .u8)) (q1 6) a0.L), (false, .val (Rep.slice (Rep.int .u8)) (q1 7) a0.L), (false, .ptr field_Codes.rep v0 a0)] [] := h
 refine op (OpS.as rfl rfl rfl ?_)
 obtain ⟨x1, e1, hF⟩ := letP_use hF
 refine RunL.nameb e1 ?_
 refine RunL.nil ?_
 refine Run.slim [(2, .bool x1)] ⟨rfl, trivial⟩ ?_
 refine Run.retP rfl (.tmp rfl .nil) ?_
 cases hF
 exact Post.mk' ⟨rfl, rfl, rfl, rfl⟩ (h7.picks .nil) .nil
set_option maxHeartbeats 8000000 in
theorem field_Codes_Next_ok {fuel : Nat} {a0 : field_Codes} {a1 : Int} {y : Int × field_Codes} (hF : field_Codes_Next fuel a0 a1 = some y) {w : World} {v0 : Value} :
  Spec Try.prog 14 [v0, .int .i64 a1].toArray w [] [(false, .box 72 field_Codes.rep v0 a0)] (fun v Γr Ωr Ωo => v = .int .i64 y.1 ∧ Γr = [] ∧ Ωr = [] ∧ Ωo = [(false, .box 72 field_Codes.rep v0 y.2)]) := by
 refine Spec.of (L := [(0, v0), (1, .int .i64 a1)]) Try.func14 rfl ⟨rfl, rfl, trivial⟩ rfl (fun e h => ?_)
 unfold field_Codes_Next at hF
 refine Run.seq ?_
 refine Run.reg ?_
 refine op (OpS.as rfl rfl rfl ?_)
 refine RunL.nil ?_
 refine Run.slim [(0, v0), (1, .int .i64 a1)] ⟨rfl, rfl, trivial⟩ ?_
 refine Run.seq ?_
 refine Run.seq ?_
 refine Run.reg ?_
 refine op (OpS.mv rfl rfl rfl ?_)
 obtain ⟨y1, e1, hF⟩ := bindP_use hF
 refine op (OpS.callP h Try.func39 rfl rfl rfl rfl (vs := [v0]) rfl (field_Codes_Left_ok e1) (.box .z .nil) ?_)
 rintro _ w1 _ _ _ ⟨rfl, rfl, rfl, rfl⟩ h1
 have h2 := h1 rfl rfl
 simp only [List.cons_append, List.nil_append] at h2
 refine op (OpS.not rfl rfl rfl ?_)
 refine op (OpS.mv rfl rfl rfl ?_)
 refine RunL.join (σ := Bool) (fun s_ L_ w_ => L_ = [(0, v0), (1, .int .i64 a1), (12, .bool s_)] ∧ St e w_ [] [(false, .box 72 field_Codes.rep v0 a0)]) hF (fun s1 _ w2 hI hF => ?_) (fun j1 hj1 hF => ?_)
 ·
  obtain ⟨rfl, h3⟩ := hI
  refine Run.ite rfl hF (fun e2 hF => ?_) (fun e2 hF => ?_)
  ·
   refine Run.seq ?_
   refine Run.reg ?_
   refine op (OpS.as rfl rfl rfl ?_)
   refine RunL.nil ?_
   refine Run.slim [(4, .int .i64 0)] ⟨rfl, trivial⟩ ?_
   refine Run.retP rfl (.tmp rfl .nil) ?_
   cases hF
   exact Post.mk' ⟨rfl, rfl, rfl, rfl⟩ (h3.picks (.cons .z .nil)) .nil
  ·
   refine Run.skip ?_
   refine Run.seq ?_
   obtain ⟨x1, e3, hF⟩ := bindP_use hF
   refine Run.drawV (Ωs := []) [⟨some 13, some (v0), fun _ => [], fun ds_ u_ => [], [], [], none⟩, ⟨some 14, some (v0), fun _ => [], fun ds_ u_ => [], [], [(0, [])], none⟩, ⟨some 15, some ((padd v0 0)), fun _ => [], fun ds_ u_ => [], [], [(0, [])], none⟩, ⟨some 16, none, fun u_ => [(false, .val (Rep.slice (Rep.int .u8)) u_ a0.L)], fun ds_ u_ => [], [], [(0, [])], none⟩, ⟨some 17, some (v0), fun _ => [], fun ds_ u_ => [], [], [], none⟩, ⟨some 18, some (v0), fun _ => [], fun ds_ u_ => [], [], [(0, [])], none⟩, ⟨some 19, some ((padd v0 1)), fun _ => [], fun ds_ u_ => [], [], [(0, [])], none⟩, ⟨some 20, some (.int .i64 a0.At), fun _ => [], fun ds_ u_ => [], [], [(0, [])], none⟩, ⟨some 21, none, fun u_ => [(false, .ptr (Rep.int .u8) u_ x1)], fun ds_ u_ => [], [], [], none⟩, ⟨some 22, some (.int .u8 x1), fun _ => [], fun ds_ u_ => [], [], [], none⟩, ⟨some 23, some (.int .i64 (IntKind.i64.wrap x1)), fun _ => [], fun ds_ u_ => [], [], [], none⟩] [[], [0], [1], [2], [], [4], [5], [6], [3, 7], [8], [9]] [[(false, .box 72 field_Codes.rep v0 a0)]] [0, 1, 2, 3, 4, 5, 6, 7, 8, 9, 10, 11] Try_mixed rfl rfl rfl h3 (.cons ?_ (.cons ?_ (.cons ?_ (.cons ?_ (.cons ?_ (.cons ?_ (.cons ?_ (.cons ?_ (.cons ?_ (.cons ?_ (.cons ?_ .nil))))))))))) (fun q1 w hq1 h => ?_)
   ·intro q1 w Γx Ωx h
    refine OpS.mv rfl rfl rfl ?_
    exact ⟨undef, rfl, trivial, h⟩
   ·intro q1 w Γx Ωx h
    have h : St e w ([] ++ Γx) ([(false, .box 72 field_Codes.rep v0 a0)] ++ Ωx) := h
    refine OpS.nchk h .z rfl rfl rfl ?_
    exact ⟨undef, rfl, trivial, h⟩
   ·intro q1 w Γx Ωx h
    have h : St e w ([] ++ Γx) ([(false, .box 72 field_Codes.rep v0 a0)] ++ Ωx) := h
    refine OpS.fbox (o3 := 0) h .z PA.z fa72_0 rfl rfl rfl rfl ?_
    exact ⟨undef, rfl, trivial, h⟩
   ·intro q1 w Γx Ωx h
    have h : St e w ([] ++ Γx) ([(false, .box 72 field_Codes.rep v0 a0)] ++ Ωx) := h
    refine OpS.loadB h .z PA.a (Get.fld field_Codes.f0) ty22 rfl rfl rfl (fun u h6 => ?_)
    exact ⟨u, rfl, trivial, h6⟩
   ·intro q1 w Γx Ωx h
    refine OpS.mv rfl rfl rfl ?_
    exact ⟨undef, rfl, trivial, h⟩
   ·intro q1 w Γx Ωx h
    have h : St e w ([] ++ Γx) ([(false, .box 72 field_Codes.rep v0 a0)] ++ Ωx) := h
    refine OpS.nchk h .z rfl rfl rfl ?_
    exact ⟨undef, rfl, trivial, h⟩
   ·intro q1 w Γx Ωx h
    have h : St e w ([] ++ Γx) ([(false, .box 72 field_Codes.rep v0 a0)] ++ Ωx) := h
    refine OpS.fbox (o3 := 1) h .z PA.z fa72_1 rfl rfl rfl rfl ?_
    exact ⟨undef, rfl, trivial, h⟩
   ·intro q1 w Γx Ωx h
    have h : St e w ([] ++ Γx) ([(false, .box 72 field_Codes.rep v0 a0)] ++ Ωx) := h
    refine OpS.loadBi h .z PA.a (Get.fld field_Codes.f1) ty3 rfl rfl rfl ?_
    exact ⟨undef, rfl, trivial, h⟩
   ·intro q1 w Γx Ωx h
    refine OpS.iptr h Try.underlying22 ty5 rfl rfl rfl rfl (V.at .z) e3 (fun u h7 => ?_)
    exact ⟨u, rfl, trivial, h7⟩
   ·intro q1 w Γx Ωx h
    refine OpS.loadi h ty5 rfl rfl rfl .z ?_
    exact ⟨undef, rfl, trivial, h⟩
   ·intro q1 w Γx Ωx h
    refine OpS.conv Try.underlying5 Try.underlying3 rfl rfl rfl ?_
    exact ⟨undef, rfl, trivial, h⟩
   have h8 : St e w [(false, .val (Rep.slice (Rep.int .u8)) (q1 3) a0.L), (false, .ptr (Rep.int .u8) (q1 8) x1)] [(false, .box 72 field_Codes.rep v0 a0)] := h
   refine op (OpS.as rfl rfl rfl ?_)
   refine RunL.nil ?_
   refine Run.slim [(5, .int .i64 (IntKind.i64.wrap x1)), (0, v0), (1, .int .i64 a1)] ⟨rfl, rfl, rfl, trivial⟩ ?_
   refine Run.seq ?_
   refine Run.reg ?_
   refine op (OpS.mv rfl rfl rfl ?_)
   refine op (OpS.nchk h8 .z rfl rfl rfl ?_)
   refine op (OpS.fbox (o3 := 1) h8 .z PA.z fa72_1 rfl rfl rfl rfl ?_)
   refine op (OpS.loadBi h8 .z PA.a (Get.fld field_Codes.f1) ty3 rfl rfl rfl ?_)
   refine op (OpS.bin rfl rfl rfl rfl rfl ?_)
   refine op (OpS.nchk h8 .z rfl rfl rfl ?_)
   refine op (OpS.fbox (o3 := 1) h8 .z PA.z fa72_1 rfl rfl rfl rfl ?_)
   obtain ⟨d1, e4, hF⟩ := letP_use hF
   refine op (OpS.storeB (f' := true) h8 .z PA.a (Put.of (Put.fld field_Codes.f1) e4) ty3 rfl rfl rfl V.int (.inr rfl) (fun w3 h9 => ?_))
   refine RunL.nil ?_
   refine Run.slim [(5, .int .i64 (IntKind.i64.wrap x1)), (0, v0), (1, .int .i64 a1)] ⟨rfl, rfl, rfl, trivial⟩ ?_
   refine Run.seq ?_
   refine Run.seq ?_
   refine Run.reg ?_
   refine op (OpS.mv rfl rfl rfl ?_)
   refine op (OpS.bin rfl rfl rfl rfl rfl ?_)
   refine op (OpS.mv rfl rfl rfl ?_)
   refine RunL.join (σ := Bool) (fun s_ L_ w_ => L_ = [(0, v0), (1, .int .i64 a1), (5, .int .i64 (IntKind.i64.wrap x1)), (36, .bool s_)] ∧ St e w_ [] [(false, .box 72 field_Codes.rep v0 d1)]) hF (fun s2 _ w4 hI hF => ?_) (fun j2 hj2 hF => ?_)
   ·
    obtain ⟨rfl, h10⟩ := hI
    refine Run.ite rfl hF (fun e5 hF => ?_) (fun e5 hF => ?_)
    ·
     refine Run.seq ?_
     obtain ⟨x2, e6, hF⟩ := bindP_use hF
     refine Run.drawV (Ωs := []) [⟨some 37, some (.int .i64 (IntKind.i64.wrap x1)), fun _ => [], fun ds_ u_ => [], [], [], none⟩, ⟨some 38, some (v0), fun _ => [], fun ds_ u_ => [], [], [], none⟩, ⟨some 39, some (v0), fun _ => [], fun ds_ u_ => [], [], [(0, [])], none⟩, ⟨some 40, some ((padd v0 0)), fun _ => [], fun ds_ u_ => [], [], [(0, [])], none⟩, ⟨some 41, none, fun u_ => [(false, .val (Rep.slice (Rep.int .u8)) u_ d1.L)], fun ds_ u_ => [], [], [(0, [])], none⟩, ⟨some 42, some (v0), fun _ => [], fun ds_ u_ => [], [], [], none⟩, ⟨some 43, some (v0), fun _ => [], fun ds_ u_ => [], [], [(0, [])], none⟩, ⟨some 44, some ((padd v0 1)), fun _ => [], fun ds_ u_ => [], [], [(0, [])], none⟩, ⟨some 45, some (.int .i64 d1.At), fun _ => [], fun ds_ u_ => [], [], [(0, [])], none⟩, ⟨some 46, none, fun u_ => [(false, .ptr (Rep.int .u8) u_ x2)], fun ds_ u_ => [], [], [], none⟩, ⟨some 47, some (.int .u8 x2), fun _ => [], fun ds_ u_ => [], [], [], none⟩, ⟨some 48, some (.int .i64 (IntKind.i64.wrap x2)), fun _ => [], fun ds_ u_ => [], [], [], none⟩, ⟨some 49, some (.int .i64 (bShl .i64 (IntKind.i64.wrap x2) 8)), fun _ => [], fun ds_ u_ => [], [], [], none⟩, ⟨some 50, some (.int .i64 (bOr .i64 (IntKind.i64.wrap x1) (bShl .i64 (IntKind.i64.wrap x2) 8))), fun _ => [], fun ds_ u_ => [], [], [], none⟩] [[], [], [1], [2], [3], [], [5], [6], [7], [4, 8], [9], [10], [11], [0, 12]] [[(false, .box 72 field_Codes.rep v0 d1)]] [0, 1, 2, 3, 4, 5, 6, 7, 8, 9, 10, 11, 12, 13, 14] Try_mixed rfl rfl rfl h10 (.cons ?_ (.cons ?_ (.cons ?_ (.cons ?_ (.cons ?_ (.cons ?_ (.cons ?_ (.cons ?_ (.cons ?_ (.cons ?_ (.cons ?_ (.cons ?_ (.cons ?_ (.cons ?_ .nil)))))))))))))) (fun q2 w hq2 h => ?_)
     ·intro q2 w Γx Ωx h
      refine OpS.mv rfl rfl rfl ?_
      exact ⟨undef, rfl, trivial, h⟩
     ·intro q2 w Γx Ωx h
      refine OpS.mv rfl rfl rfl ?_
      exact ⟨undef, rfl, trivial, h⟩
     ·intro q2 w Γx Ωx h
      have h : St e w ([] ++ Γx) ([(false, .box 72 field_Codes.rep v0 d1)] ++ Ωx) := h
      refine OpS.nchk h .z rfl rfl rfl ?_
      exact ⟨undef, rfl, trivial, h⟩
     ·intro q2 w Γx Ωx h
      have h : St e w ([] ++ Γx) ([(false, .box 72 field_Codes.rep v0 d1)] ++ Ωx) := h
      refine OpS.fbox (o3 := 0) h .z PA.z fa72_0 rfl rfl rfl rfl ?_
      exact ⟨undef, rfl, trivial, h⟩
     ·intro q2 w Γx Ωx h
      have h : St e w ([] ++ Γx) ([(false, .box 72 field_Codes.rep v0 d1)] ++ Ωx) := h
      refine OpS.loadB h .z PA.a (Get.fld field_Codes.f0) ty22 rfl rfl rfl (fun u h13 => ?_)
      exact ⟨u, rfl, trivial, h13⟩
     ·intro q2 w Γx Ωx h
      refine OpS.mv rfl rfl rfl ?_
      exact ⟨undef, rfl, trivial, h⟩
     ·intro q2 w Γx Ωx h
      have h : St e w ([] ++ Γx) ([(false, .box 72 field_Codes.rep v0 d1)] ++ Ωx) := h
      refine OpS.nchk h .z rfl rfl rfl ?_
      exact ⟨undef, rfl, trivial, h⟩
     ·intro q2 w Γx Ωx h
      have h : St e w ([] ++ Γx) ([(false, .box 72 field_Codes.rep v0 d1)] ++ Ωx) := h
      refine OpS.fbox (o3 := 1) h .z PA.z fa72_1 rfl rfl rfl rfl ?_
      exact ⟨undef, rfl, trivial, h⟩
     ·intro q2 w Γx Ωx h
      have h : St e w ([] ++ Γx) ([(false, .box 72 field_Codes.rep v0 d1)] ++ Ωx) := h
      refine OpS.loadBi h .z PA.a (Get.fld field_Codes.f1) ty3 rfl rfl rfl ?_
      exact ⟨undef, rfl, trivial, h⟩
     ·intro q2 w Γx Ωx h
      refine OpS.iptr h Try.underlying22 ty5 rfl rfl rfl rfl (V.at .z) e6 (fun u h14 => ?_)
      exact ⟨u, rfl, trivial, h14⟩
     ·intro q2 w Γx Ωx h
      refine OpS.loadi h ty5 rfl rfl rfl .z ?_
      exact ⟨undef, rfl, trivial, h⟩
     ·intro q2 w Γx Ωx h
      refine OpS.conv Try.underlying5 Try.underlying3 rfl rfl rfl ?_
      exact ⟨undef, rfl, trivial, h⟩
     ·intro q2 w Γx Ωx h
      refine OpS.shl rfl rfl rfl rfl (by decide) ?_
      exact ⟨undef, rfl, trivial, h⟩
     ·intro q2 w Γx Ωx h
      refine OpS.bin rfl rfl rfl rfl rfl ?_
      exact ⟨undef, rfl, trivial, h⟩
     have h15 : St e w [(false, .val (Rep.slice (Rep.int .u8)) (q2 4) d1.L), (false, .ptr (Rep.int .u8) (q2 9) x2)] [(false, .box 72 field_Codes.rep v0 d1)] := h
     refine op (OpS.as rfl rfl rfl ?_)
     obtain ⟨x3, e7, hF⟩ := letP_use hF
     refine RunL.name e7 ?_
     refine RunL.nil ?_
     refine Run.slim [(5, .int .i64 x3), (0, v0), (1, .int .i64 a1)] ⟨rfl, rfl, rfl, trivial⟩ ?_
     refine Run.reg ?_
     refine op (OpS.mv rfl rfl rfl ?_)
     refine op (OpS.nchk h15 .z rfl rfl rfl ?_)
     refine op (OpS.fbox (o3 := 1) h15 .z PA.z fa72_1 rfl rfl rfl rfl ?_)
     refine op (OpS.loadBi h15 .z PA.a (Get.fld field_Codes.f1) ty3 rfl rfl rfl ?_)
     refine op (OpS.bin rfl rfl rfl rfl rfl ?_)
     refine op (OpS.nchk h15 .z rfl rfl rfl ?_)
     refine op (OpS.fbox (o3 := 1) h15 .z PA.z fa72_1 rfl rfl rfl rfl ?_)
     obtain ⟨d2, e8, hF⟩ := letP_use hF
     refine op (OpS.storeB (f' := true) h15 .z PA.a (Put.of (Put.fld field_Codes.f1) e8) ty3 rfl rfl rfl V.int (.inr rfl) (fun w5 h16 => ?_))
     refine RunL.nil ?_
     refine Run.slim [(5, .int .i64 x3), (1, .int .i64 a1)] ⟨rfl, rfl, trivial⟩ ?_
     refine Run.seq ?_
     refine Run.reg ?_
     refine op (OpS.mv rfl rfl rfl ?_)
     refine op (OpS.mv rfl rfl rfl ?_)
     obtain ⟨e9, hF⟩ := chk_use hF
     refine op (OpS.rem rfl rfl rfl rfl e9 ?_)
     refine op (OpS.as rfl rfl rfl ?_)
     refine RunL.nil ?_
     refine Run.slim [(4, .int .i64 (Int.tmod x3 a1))] ⟨rfl, trivial⟩ ?_
     refine Run.retP rfl (.tmp rfl .nil) ?_
     cases hF
     exact Post.mk' ⟨rfl, rfl, rfl, rfl⟩ (h16.picks (.cons .z .nil)) .nil
    ·
     refine Run.skip ?_
     refine Run.seq ?_
     refine Run.reg ?_
     refine op (OpS.mv rfl rfl rfl ?_)
     refine op (OpS.mv rfl rfl rfl ?_)
     obtain ⟨e10, hF⟩ := chk_use hF
     refine op (OpS.rem rfl rfl rfl rfl e10 ?_)
     refine op (OpS.as rfl rfl rfl ?_)
     obtain ⟨x4, e11, hF⟩ := letP_use hF
     refine RunL.name e11 ?_
     refine RunL.nil ?_
     refine Run.slim [(4, .int .i64 x4)] ⟨rfl, trivial⟩ ?_
     refine Run.retP rfl (.tmp rfl .nil) ?_
     cases hF
     exact Post.mk' ⟨rfl, rfl, rfl, rfl⟩ (h10.picks (.cons .z .nil)) .nil
   ·
    refine RunL.caseb hF (fun e12 hF => ?_) (fun e12 hF => ?_)
    ·
     refine op (OpS.mv rfl rfl rfl ?_)
     obtain ⟨y2, e13, hF⟩ := bindP_use hF
     refine op (OpS.callP h9 Try.func39 rfl rfl rfl rfl (vs := [v0]) rfl (field_Codes_Left_ok e13) (.box .z .nil) ?_)
     rintro _ w6 _ _ _ ⟨rfl, rfl, rfl, rfl⟩ h17
     have h18 := h17 rfl rfl
     simp only [List.cons_append, List.nil_append] at h18
     refine op (OpS.pick rfl rfl rfl rfl ?_)
     refine RunL.nil ?_
     refine Run.slim [(36, .bool y2), (5, .int .i64 (IntKind.i64.wrap x1)), (0, v0), (1, .int .i64 a1)] ⟨rfl, rfl, rfl, rfl, trivial⟩ ?_
     refine Run.slim [(0, v0), (1, .int .i64 a1), (5, .int .i64 (IntKind.i64.wrap x1)), (36, .bool y2)] ⟨rfl, rfl, rfl, rfl, trivial⟩ ?_
     exact hj2 (y2) _ _ ⟨rfl, (h18.facts .nil).picks (.cons .z .nil)⟩ hF
    ·
     refine op (OpS.pass rfl rfl rfl ?_)
     refine op (OpS.pass rfl rfl rfl ?_)
     refine op (OpS.pick rfl rfl rfl rfl ?_)
     refine RunL.nil ?_
     refine Run.slim [(36, .bool false), (5, .int .i64 (IntKind.i64.wrap x1)), (0, v0), (1, .int .i64 a1)] ⟨rfl, rfl, rfl, rfl, trivial⟩ ?_
     refine Run.slim [(0, v0), (1, .int .i64 a1), (5, .int .i64 (IntKind.i64.wrap x1)), (36, .bool false)] ⟨rfl, rfl, rfl, rfl, trivial⟩ ?_
     exact hj2 (false) _ _ ⟨rfl, (h9.facts .nil).picks (.cons .z .nil)⟩ hF
 ·
  refine RunL.caseb hF (fun e14 hF => ?_) (fun e14 hF => ?_)
  ·
   refine op (OpS.pass rfl rfl rfl ?_)
   refine op (OpS.pass rfl rfl rfl ?_)
   refine op (OpS.pick rfl rfl rfl rfl ?_)
   refine RunL.nil ?_
   refine Run.slim [(12, .bool true), (0, v0), (1, .int .i64 a1)] ⟨rfl, rfl, rfl, trivial⟩ ?_
   refine Run.slim [(0, v0), (1, .int .i64 a1), (12, .bool true)] ⟨rfl, rfl, rfl, trivial⟩ ?_
   exact hj1 (true) _ _ ⟨rfl, (h2.facts .nil).picks (.cons .z .nil)⟩ hF
  ·
   refine op (OpS.mv rfl rfl rfl ?_)
   refine op (OpS.bin rfl rfl rfl rfl rfl ?_)
   refine op (OpS.pick rfl rfl rfl rfl ?_)
   refine RunL.nil ?_
   refine Run.slim [(12, .bool (decide (a1 < 1))), (0, v0), (1, .int .i64 a1)] ⟨rfl, rfl, rfl, trivial⟩ ?_
   refine Run.slim [(0, v0), (1, .int .i64 a1), (12, .bool (decide (a1 < 1)))] ⟨rfl, rfl, rfl, trivial⟩ ?_
   exact hj1 (decide (a1 < 1)) _ _ ⟨rfl, (h2.facts .nil).picks (.cons .z .nil)⟩ hF
set_option maxHeartbeats 8000000 in
theorem message_parse_ok {fuel : Nat} {a0 : List Int} {a1 : Int} {y : Message_ × Int} (hF : message_parse fuel a0 a1 = some y) {w : World} {v0 : Value} :
  Spec Try.prog 53 [v0, .int .i64 a1].toArray w [(false, .val (Rep.slice (Rep.int .u8)) v0 a0)] [] (fun v Γr Ωr Ωo => ∃ u0 : Value, v = .tuple #[u0, .int .i64 y.2] ∧ Γr = [(true, .val Message_.rep u0 y.1)] ∧ Ωr = [] ∧ Ωo = []) := by
 refine Spec.of (L := [(0, v0), (1, .int .i64 a1)]) Try.func53 rfl ⟨rfl, rfl, trivial⟩ rfl (fun e h => ?_)
 unfold message_parse at hF
 refine Run.seq ?_
 refine Run.reg ?_
 refine op (OpS.alloc h ti51 Message_.zr rfl rfl (fun u1 w1 h1 => ?_))
 refine op (OpS.as rfl rfl rfl ?_)
 refine RunL.nil ?_
 refine Run.slim [(4, u1), (0, v0), (1, .int .i64 a1)] ⟨rfl, rfl, rfl, trivial⟩ ?_
 refine Run.seq ?_
 refine Run.seq ?_
 refine Run.reg ?_
 refine op (OpS.mv rfl rfl rfl ?_)
 obtain ⟨x1, e1, hF⟩ := bindP_use hF
 refine op (OpS.sub h1 Try.underlying22 ty5 rfl rfl rfl rfl rfl (V.at .z) e1 (fun u2 h2 => ?_))
 obtain ⟨y1, e2, hF⟩ := bindP_use hF
 refine op (OpS.callP h2 Try.func61 rfl rfl rfl rfl (vs := [u2]) rfl (checksum_Sum8_ok e2) (.cons (f := false) (V.at .z) .nil) ?_)
 rintro _ w2 _ _ _ ⟨rfl, rfl, rfl, rfl⟩ h3
 have h4 := h3 rfl rfl
 simp only [List.cons_append, List.nil_append] at h4
 refine op (OpS.bin rfl rfl rfl rfl rfl ?_)
 refine op (OpS.mv rfl rfl rfl ?_)
 refine RunL.join (σ := Bool) (fun s_ L_ w_ => L_ = [(0, v0), (1, .int .i64 a1), (4, u1), (16, .bool s_)] ∧ St e w_ [(false, .val (Rep.slice (Rep.int .u8)) v0 a0)] [(true, .box 51 Message_.rep u1 Message_.z)]) hF (fun s1 _ w3 hI hF => ?_) (fun j1 hj1 hF => ?_)
 ·
  obtain ⟨rfl, h5⟩ := hI
  refine Run.ite rfl hF (fun e3 hF => ?_) (fun e3 hF => ?_)
  ·
   refine Run.seq ?_
   refine Run.reg ?_
   refine op (OpS.build (f := true) (x' := Message_.z) h5 pl51 ti51 Message_.zr rfl rfl rfl .nil (fun u3 h6 => ?_))
   refine op (OpS.storeB (f' := true) h6 .z PA.z Put.id ty51 rfl rfl rfl (V.at .z) (.inl rfl) (fun w4 h7 => ?_))
   refine op (OpS.as rfl rfl rfl ?_)
   refine RunL.nil ?_
   refine Run.slim [(5, .int .i64 5), (4, u1)] ⟨rfl, rfl, trivial⟩ ?_
   obtain ⟨u4, hu1, h8⟩ := res_box h7 .z ty51
   refine Run.retP rfl (.cell rfl hu1 (.tmp rfl .nil)) ?_
   cases hF
   exact Post.mk' ⟨u4, rfl, rfl, rfl, rfl⟩ (h8.picks .nil) (.val (V.at .z) .nil)
  ·
   refine Run.skip ?_
   refine Run.seq ?_
   obtain ⟨x2, e4, hF⟩ := bindP_use hF
   obtain ⟨x3, e5, hF⟩ := bindP_use hF
   obtain ⟨x4, e6, hF⟩ := bindP_use hF
   obtain ⟨x5, e7, hF⟩ := bindP_use hF
   obtain ⟨x6, e8, hF⟩ := bindP_use hF
   obtain ⟨x7, e9, hF⟩ := bindP_use hF
   obtain ⟨x8, e10, hF⟩ := bindP_use hF
   obtain ⟨x9, e11, hF⟩ := bindP_use hF
   obtain ⟨y2, e12, hF⟩ := bindP_use hF
   refine Run.drawV (Ωs := [(true, .box 51 Message_.rep u1 Message_.z)]) [⟨some 18, some (v0), fun _ => [], fun ds_ u_ => [], [], [], none⟩, ⟨some 19, none, fun u_ => [(false, .ptr (Rep.int .u8) u_ x2)], fun ds_ u_ => [], [], [], none⟩, ⟨some 20, some (.int .u8 x2), fun _ => [], fun ds_ u_ => [], [], [], none⟩, ⟨some 21, some (.int .u8 (IntKind.u8.wrap (Int.tdiv x2 2))), fun _ => [], fun ds_ u_ => [], [], [], none⟩, ⟨some 22, some (v0), fun _ => [], fun ds_ u_ => [], [], [], none⟩, ⟨some 23, none, fun u_ => [(false, .ptr (Rep.int .u8) u_ x3)], fun ds_ u_ => [], [], [], none⟩, ⟨some 24, some (.int .u8 x3), fun _ => [], fun ds_ u_ => [], [], [], none⟩, ⟨some 25, some (.int .u8 (IntKind.u8.wrap (Int.tdiv x3 2))), fun _ => [], fun ds_ u_ => [], [], [], none⟩, ⟨some 26, some (v0), fun _ => [], fun ds_ u_ => [], [], [], none⟩, ⟨some 27, none, fun u_ => [(false, .ptr (Rep.int .u8) u_ x4)], fun ds_ u_ => [], [], [], none⟩, ⟨some 28, some (.int .u8 x4), fun _ => [], fun ds_ u_ => [], [], [], none⟩, ⟨some 29, some (.int .u8 (IntKind.u8.wrap (Int.tdiv x4 4))), fun _ => [], fun ds_ u_ => [], [], [], none⟩, ⟨some 30, some (v0), fun _ => [], fun ds_ u_ => [], [], [], none⟩, ⟨some 31, none, fun u_ => [(false, .ptr (Rep.int .u8) u_ x5)], fun ds_ u_ => [], [], [], none⟩, ⟨some 32, some (.int .u8 x5), fun _ => [], fun ds_ u_ => [], [], [], none⟩, ⟨some 33, some (v0), fun _ => [], fun ds_ u_ => [], [], [], none⟩, ⟨some 34, none, fun u_ => [(false, .ptr (Rep.int .u8) u_ x6)], fun ds_ u_ => [], [], [], none⟩, ⟨some 35, some (.int .u8 x6), fun _ => [], fun ds_ u_ => [], [], [], none⟩, ⟨some 36, some (.int .u8 (Int.tmod x6 4)), fun _ => [], fun ds_ u_ => [], [], [], none⟩, ⟨some 37, some (.int .i64 (IntKind.i64.wrap (Int.tmod x6 4))), fun _ => [], fun ds_ u_ => [], [], [], none⟩, ⟨some 38, some (v0), fun _ => [], fun ds_ u_ => [], [], [], none⟩, ⟨some 39, none, fun u_ => [(false, .ptr (Rep.int .u8) u_ x7)], fun ds_ u_ => [], [], [], none⟩, ⟨some 40, some (.int .u8 x7), fun _ => [], fun ds_ u_ => [], [], [], none⟩, ⟨some 41, some (.int .u8 (Int.tmod x7 4)), fun _ => [], fun ds_ u_ => [], [], [], none⟩, ⟨some 42, some (.int .i64 (IntKind.i64.wrap (Int.tmod x7 4))), fun _ => [], fun ds_ u_ => [], [], [], none⟩, ⟨some 43, some (v0), fun _ => [], fun ds_ u_ => [], [], [], none⟩, ⟨some 44, none, fun u_ => [(false, .ptr (Rep.int .u8) u_ x8)], fun ds_ u_ => [], [], [], none⟩, ⟨some 45, some (.int .u8 x8), fun _ => [], fun ds_ u_ => [], [], [], none⟩, ⟨some 46, some (.int .u8 (IntKind.u8.wrap (Int.tdiv x8 4))), fun _ => [], fun ds_ u_ => [], [], [], none⟩, ⟨some 47, some (.int .i64 (IntKind.i64.wrap (IntKind.u8.wrap (Int.tdiv x8 4)))), fun _ => [], fun ds_ u_ => [], [], [], none⟩, ⟨some 48, some (v0), fun _ => [], fun ds_ u_ => [], [], [], none⟩, ⟨some 49, some (.int .i64 a1), fun _ => [], fun ds_ u_ => [], [], [], none⟩, ⟨some 50, some (v0), fun _ => [], fun ds_ u_ => [], [], [], none⟩, ⟨some 51, some (.int .i64 (a0.length : Int)), fun _ => [], fun ds_ u_ => [], [], [], none⟩, ⟨some 52, some (.int .i64 (IntKind.i64.wrap ((a0.length : Int) - 1))), fun _ => [], fun ds_ u_ => [], [], [], none⟩, ⟨some 53, none, fun u_ => [(false, .val (Rep.slice (Rep.int .u8)) u_ x9)], fun ds_ u_ => [], [], [], none⟩, ⟨some 54, none, fun u_ => [(true, .val (Rep.slice (Rep.int .u8)) u_ y2)], fun ds_ u_ => [], [], [], none⟩, ⟨some 55, none, fun u_ => [(true, .val Message_.rep u_ (⟨(IntKind.u8.wrap (Int.tdiv x2 2)), (IntKind.u8.wrap (Int.tdiv x3 2)), (IntKind.u8.wrap (Int.tdiv x4 4)), x5, (IntKind.i64.wrap (Int.tmod x6 4)), (IntKind.i64.wrap (Int.tmod x7 4)), (IntKind.i64.wrap (IntKind.u8.wrap (Int.tdiv x8 4))), 0, y2⟩ : Message_))], fun ds_ u_ => [], [], [], none⟩, ⟨some 6, none, fun u_ => [], fun ds_ u_ => [(true, .box 51 Message_.rep u_ Message_.z)], [], [], none⟩] [[], [0], [1], [2], [], [4], [5], [6], [], [8], [9], [10], [], [12], [13], [], [15], [16], [17], [18], [], [20], [21], [22], [23], [], [25], [26], [27], [28], [], [], [], [32], [33], [30, 31, 34], [35], [3, 7, 11, 14, 19, 24, 29, 36], []] [] [0, 1, 2, 3, 4, 5, 6, 7, 8, 9, 10, 11, 12, 13, 14, 15, 16, 17, 18, 19, 20, 21, 22, 23, 24, 25, 26, 27, 28, 29, 30, 31, 32, 33, 34, 35, 36, 37, 38] Try_mixed rfl rfl rfl h5 (.cons ?_ (.cons ?_ (.cons ?_ (.cons ?_ (.cons ?_ (.cons ?_ (.cons ?_ (.cons ?_ (.cons ?_ (.cons ?_ (.cons ?_ (.cons ?_ (.cons ?_ (.cons ?_ (.cons ?_ (.cons ?_ (.cons ?_ (.cons ?_ (.cons ?_ (.cons ?_ (.cons ?_ (.cons ?_ (.cons ?_ (.cons ?_ (.cons ?_ (.cons ?_ (.cons ?_ (.cons ?_ (.cons ?_ (.cons ?_ (.cons ?_ (.cons ?_ (.cons ?_ (.cons ?_ (.cons ?_ (.cons ?_ (.cons ?_ (.cons ?_ (.cons ?_ .nil))))))))))))))))))))))))))))))))))))))) (fun q1 w hq1 h => ?_)
   ·intro q1 w Γx Ωx h
    refine OpS.mv rfl rfl rfl ?_
    exact ⟨undef, rfl, trivial, h⟩
   ·intro q1 w Γx Ωx h
    refine OpS.iptr h Try.underlying22 ty5 rfl rfl rfl rfl (V.at .z) e4 (fun u h22 => ?_)
    exact ⟨u, rfl, trivial, h22⟩
   ·intro q1 w Γx Ωx h
    refine OpS.loadi h ty5 rfl rfl rfl .z ?_
    exact ⟨undef, rfl, trivial, h⟩
   ·intro q1 w Γx Ωx h
    refine OpS.quo rfl rfl rfl rfl (by decide) ?_
    exact ⟨undef, rfl, trivial, h⟩
   ·intro q1 w Γx Ωx h
    refine OpS.mv rfl rfl rfl ?_
    exact ⟨undef, rfl, trivial, h⟩
   ·intro q1 w Γx Ωx h
    refine OpS.iptr h Try.underlying22 ty5 rfl rfl rfl rfl (V.at .z) e5 (fun u h23 => ?_)
    exact ⟨u, rfl, trivial, h23⟩
   ·intro q1 w Γx Ωx h
    refine OpS.loadi h ty5 rfl rfl rfl .z ?_
    exact ⟨undef, rfl, trivial, h⟩
   ·intro q1 w Γx Ωx h
    refine OpS.quo rfl rfl rfl rfl (by decide) ?_
    exact ⟨undef, rfl, trivial, h⟩
   ·intro q1 w Γx Ωx h
    refine OpS.mv rfl rfl rfl ?_
    exact ⟨undef, rfl, trivial, h⟩
   ·intro q1 w Γx Ωx h
    refine OpS.iptr h Try.underlying22 ty5 rfl rfl rfl rfl (V.at .z) e6 (fun u h24 => ?_)
    exact ⟨u, rfl, trivial, h24⟩
   ·intro q1 w Γx Ωx h
    refine OpS.loadi h ty5 rfl rfl rfl .z ?_
    exact ⟨undef, rfl, trivial, h⟩
   ·intro q1 w Γx Ωx h
    refine OpS.quo rfl rfl rfl rfl (by decide) ?_
    exact ⟨undef, rfl, trivial, h⟩
   ·intro q1 w Γx Ωx h
    refine OpS.mv rfl rfl rfl ?_
    exact ⟨undef, rfl, trivial, h⟩
   ·intro q1 w Γx Ωx h
    refine OpS.iptr h Try.underlying22 ty5 rfl rfl rfl rfl (V.at .z) e7 (fun u h25 => ?_)
    exact ⟨u, rfl, trivial, h25⟩
   ·intro q1 w Γx Ωx h
    refine OpS.loadi h ty5 rfl rfl rfl .z ?_
    exact ⟨undef, rfl, trivial, h⟩
   ·intro q1 w Γx Ωx h
    refine OpS.mv rfl rfl rfl ?_
    exact ⟨undef, rfl, trivial, h⟩
   ·intro q1 w Γx Ωx h
    refine OpS.iptr h Try.underlying22 ty5 rfl rfl rfl rfl (V.at .z) e8 (fun u h26 => ?_)
    exact ⟨u, rfl, trivial, h26⟩
   ·intro q1 w Γx Ωx h
    refine OpS.loadi h ty5 rfl rfl rfl .z ?_
    exact ⟨undef, rfl, trivial, h⟩
   ·intro q1 w Γx Ωx h
    refine OpS.rem rfl rfl rfl rfl (by decide) ?_
    exact ⟨undef, rfl, trivial, h⟩
   ·intro q1 w Γx Ωx h
    refine OpS.conv Try.underlying5 Try.underlying3 rfl rfl rfl ?_
    exact ⟨undef, rfl, trivial, h⟩
   ·intro q1 w Γx Ωx h
    refine OpS.mv rfl rfl rfl ?_
    exact ⟨undef, rfl, trivial, h⟩
   ·intro q1 w Γx Ωx h
    refine OpS.iptr h Try.underlying22 ty5 rfl rfl rfl rfl (V.at .z) e9 (fun u h27 => ?_)
    exact ⟨u, rfl, trivial, h27⟩
   ·intro q1 w Γx Ωx h
    refine OpS.loadi h ty5 rfl rfl rfl .z ?_
    exact ⟨undef, rfl, trivial, h⟩
   ·intro q1 w Γx Ωx h
    refine OpS.rem rfl rfl rfl rfl (by decide) ?_
    exact ⟨undef, rfl, trivial, h⟩
   ·intro q1 w Γx Ωx h
    refine OpS.conv Try.underlying5 Try.underlying3 rfl rfl rfl ?_
    exact ⟨undef, rfl, trivial, h⟩
   ·intro q1 w Γx Ωx h
    refine OpS.mv rfl rfl rfl ?_
    exact ⟨undef, rfl, trivial, h⟩
   ·intro q1 w Γx Ωx h
    refine OpS.iptr h Try.underlying22 ty5 rfl rfl rfl rfl (V.at .z) e10 (fun u h28 => ?_)
    exact ⟨u, rfl, trivial, h28⟩
   ·intro q1 w Γx Ωx h
    refine OpS.loadi h ty5 rfl rfl rfl .z ?_
    exact ⟨undef, rfl, trivial, h⟩
   ·intro q1 w Γx Ωx h
    refine OpS.quo rfl rfl rfl rfl (by decide) ?_
    exact ⟨undef, rfl, trivial, h⟩
   ·intro q1 w Γx Ωx h
    refine OpS.conv Try.underlying5 Try.underlying3 rfl rfl rfl ?_
    exact ⟨undef, rfl, trivial, h⟩
   ·intro q1 w Γx Ωx h
    refine OpS.mv rfl rfl rfl ?_
    exact ⟨undef, rfl, trivial, h⟩
   ·intro q1 w Γx Ωx h
    refine OpS.mv rfl rfl rfl ?_
    exact ⟨undef, rfl, trivial, h⟩
   ·intro q1 w Γx Ωx h
    refine OpS.mv rfl rfl rfl ?_
    exact ⟨undef, rfl, trivial, h⟩
   ·intro q1 w Γx Ωx h
    refine OpS.len h Try.underlying22 rfl rfl rfl (V.at .z) ?_
    exact ⟨undef, rfl, trivial, h⟩
   ·intro q1 w Γx Ωx h
    refine OpS.bin rfl rfl rfl rfl rfl ?_
    exact ⟨undef, rfl, trivial, h⟩
   ·intro q1 w Γx Ωx h
    refine OpS.sub h Try.underlying22 ty5 rfl rfl rfl rfl rfl (V.at .z) e11 (fun u h29 => ?_)
    exact ⟨u, rfl, trivial, h29⟩
   ·intro q1 w Γx Ωx h
    refine OpS.callP h Try.func51 rfl rfl rfl rfl (vs := [(q1 35)]) rfl (slices_Clone_byte_byte_ok e12) (.cons (f := false) (V.at .z) .nil) ?_
    rintro u w7 _ _ _ ⟨_, rfl, rfl, rfl, rfl⟩ h30
    have h31 := h30 rfl rfl
    simp only [List.cons_append, List.nil_append] at h31
    have h32 := h31.freeze
    exact ⟨u, rfl, trivial, h32⟩
   ·intro q1 w Γx Ωx h
    refine OpS.build (f := true) (x' := (⟨(IntKind.u8.wrap (Int.tdiv x2 2)), (IntKind.u8.wrap (Int.tdiv x3 2)), (IntKind.u8.wrap (Int.tdiv x4 4)), x5, (IntKind.i64.wrap (Int.tmod x6 4)), (IntKind.i64.wrap (Int.tmod x7 4)), (IntKind.i64.wrap (IntKind.u8.wrap (Int.tdiv x8 4))), 0, y2⟩ : Message_)) h pl51 ti51 Message_.zr rfl rfl rfl (.cons rfl Message_.f0 rfl V.int (.cons rfl Message_.f1 rfl V.int (.cons rfl Message_.f2 rfl V.int (.cons rfl Message_.f3 rfl V.int (.cons rfl Message_.f4 rfl V.int (.cons rfl Message_.f5 rfl V.int (.cons rfl Message_.f6 rfl V.int (.cons rfl Message_.f8 rfl (V.at .z) .nil)))))))) (fun u h33 => ?_)
    exact ⟨u, rfl, trivial, h33⟩
   ·intro q1 w Γx Ωx h
    refine OpS.alloc h ti51 Message_.zr rfl rfl (fun u w8 h34 => ?_)
    exact ⟨u, rfl, trivial, h34⟩
   have h35 : St e w [(false, .ptr (Rep.int .u8) (q1 1) x2), (false, .ptr (Rep.int .u8) (q1 5) x3), (false, .ptr (Rep.int .u8) (q1 9) x4), (false, .ptr (Rep.int .u8) (q1 13) x5), (false, .ptr (Rep.int .u8) (q1 16) x6), (false, .ptr (Rep.int .u8) (q1 21) x7), (false, .ptr (Rep.int .u8) (q1 26) x8), (false, .val (Rep.slice (Rep.int .u8)) (q1 35) x9), (true, .val (Rep.slice (Rep.int .u8)) (q1 36) y2), (true, .val Message_.rep (q1 37) (⟨(IntKind.u8.wrap (Int.tdiv x2 2)), (IntKind.u8.wrap (Int.tdiv x3 2)), (IntKind.u8.wrap (Int.tdiv x4 4)), x5, (IntKind.i64.wrap (Int.tmod x6 4)), (IntKind.i64.wrap (Int.tmod x7 4)), (IntKind.i64.wrap (IntKind.u8.wrap (Int.tdiv x8 4))), 0, y2⟩ : Message_)), (false, .val (Rep.slice (Rep.int .u8)) v0 a0)] [(true, .box 51 Message_.rep (q1 38) Message_.z), (true, .box 51 Message_.rep u1 Message_.z)] := h
   refine op (OpS.storeB (f' := true) h35 .z PA.z Put.id ty51 rfl rfl rfl (V.at (.s (.s (.s (.s (.s (.s (.s (.s (.s .z)))))))))) (.inl rfl) (fun w9 h36 => ?_))
   refine RunL.nil ?_
   refine Run.slim [(6, (q1 38)), (0, v0), (1, .int .i64 a1), (4, u1)] ⟨rfl, rfl, rfl, rfl, trivial⟩ ?_
   refine Run.seq ?_
   refine Run.seq ?_
   refine Run.reg ?_
   refine op (OpS.mv rfl rfl rfl ?_)
   refine op (OpS.bin rfl rfl rfl rfl rfl ?_)
   refine RunL.nil ?_
   refine Run.slim [(57, .bool (a1 == 7)), (6, (q1 38)), (0, v0), (1, .int .i64 a1), (4, u1)] ⟨rfl, rfl, rfl, rfl, rfl, trivial⟩ ?_
   refine Run.join (σ := Message_) (fun s_ L_ w_ => L_ = [(0, v0), (1, .int .i64 a1), (4, u1), (6, (q1 38))] ∧ St e w_ [(false, .val (Rep.slice (Rep.int .u8)) v0 a0)] [(true, .box 51 Message_.rep u1 Message_.z), (true, .box 51 Message_.rep (q1 38) s_)]) hF (fun s2 _ w10 hI hF => ?_) (fun j2 hj2 hF => ?_)
   ·
    obtain ⟨rfl, h37⟩ := hI
    refine Run.seq ?_
    refine Run.block ?_
    refine Run.seq ?_
    refine Run.reg ?_
    refine op (OpS.mv rfl rfl rfl ?_)
    obtain ⟨x10, e13, hF⟩ := bindP_use hF
    refine op (OpS.iptr h37 Try.underlying22 ty5 rfl rfl rfl rfl (V.at .z) e13 (fun u5 h38 => ?_))
    refine op (OpS.loadi h38 ty5 rfl rfl rfl .z ?_)
    refine op (OpS.rem rfl rfl rfl rfl (by decide) ?_)
    refine op (OpS.bin rfl rfl rfl rfl rfl ?_)
    refine op (OpS.mv rfl rfl rfl ?_)
    refine RunL.join (σ := Bool) (fun s_ L_ w_ => L_ = [(4, u1), (6, (q1 38)), (64, .bool s_)] ∧ St e w_ [] [(true, .box 51 Message_.rep u1 Message_.z), (true, .box 51 Message_.rep (q1 38) s2)]) hF (fun s3 _ w11 hI hF => ?_) (fun j3 hj3 hF => ?_)
    ·
     obtain ⟨rfl, h39⟩ := hI
     refine Run.ite rfl hF (fun e14 hF => ?_) (fun e14 hF => ?_)
     ·
      refine Run.seq ?_
      refine Run.reg ?_
      refine op (OpS.build (f := true) (x' := Message_.z) h39 pl51 ti51 Message_.zr rfl rfl rfl .nil (fun u6 h40 => ?_))
      refine op (OpS.storeB (f' := true) h40 .z PA.z Put.id ty51 rfl rfl rfl (V.at .z) (.inl rfl) (fun w12 h41 => ?_))
      refine op (OpS.as rfl rfl rfl ?_)
      refine RunL.nil ?_
      refine Run.slim [(5, .int .i64 6), (4, u1)] ⟨rfl, rfl, trivial⟩ ?_
      obtain ⟨u7, hu2, h42⟩ := res_box h41 .z ty51
      refine Run.retP rfl (.cell rfl hu2 (.tmp rfl .nil)) ?_
      cases hF
      exact Post.mk' ⟨u7, rfl, rfl, rfl, rfl⟩ (h42.picks .nil) (.val (V.at .z) .nil)
     ·
      refine Run.seq ?_
      refine Run.reg ?_
      refine op (OpS.fbox (o3 := 0) h39 (.s .z) PA.z fa51_0 rfl rfl rfl rfl ?_)
      refine op (OpS.loadBi h39 (.s .z) PA.a (Get.fld Message_.f0) ty5 rfl rfl rfl ?_)
      obtain ⟨y3, e15, hF⟩ := bindP_use hF
      refine op (OpS.callP h39 Try.func58 rfl rfl rfl rfl (vs := [.int .u8 s2.To]) rfl (message_address_ok e15) .nil ?_)
      rintro _ w13 _ _ _ ⟨rfl, rfl, rfl, rfl⟩ h43
      have h44 := h43 rfl rfl
      simp only [List.cons_append, List.nil_append] at h44
      refine op (OpS.not rfl rfl rfl ?_)
      refine op (OpS.mv rfl rfl rfl ?_)
      refine RunL.join (σ := Bool) (fun s_ L_ w_ => L_ = [(4, u1), (6, (q1 38)), (85, .bool s_)] ∧ St e w_ [] [(true, .box 51 Message_.rep u1 Message_.z), (true, .box 51 Message_.rep (q1 38) s2)]) hF (fun s4 _ w14 hI hF => ?_) (fun j4 hj4 hF => ?_)
      ·
       obtain ⟨rfl, h45⟩ := hI
       refine Run.ite rfl hF (fun e16 hF => ?_) (fun e16 hF => ?_)
       ·
        refine Run.seq ?_
        refine Run.reg ?_
        refine op (OpS.build (f := true) (x' := Message_.z) h45 pl51 ti51 Message_.zr rfl rfl rfl .nil (fun u8 h46 => ?_))
        refine op (OpS.storeB (f' := true) h46 .z PA.z Put.id ty51 rfl rfl rfl (V.at .z) (.inl rfl) (fun w15 h47 => ?_))
        refine op (OpS.as rfl rfl rfl ?_)
        refine RunL.nil ?_
        refine Run.slim [(5, .int .i64 13), (4, u1)] ⟨rfl, rfl, trivial⟩ ?_
        obtain ⟨u9, hu3, h48⟩ := res_box h47 .z ty51
        refine Run.retP rfl (.cell rfl hu3 (.tmp rfl .nil)) ?_
        cases hF
        exact Post.mk' ⟨u9, rfl, rfl, rfl, rfl⟩ (h48.picks .nil) (.val (V.at .z) .nil)
       ·
        refine Run.seq ?_
        refine Run.reg ?_
        refine op (OpS.fbox (o3 := 8) h45 (.s .z) PA.z fa51_8 rfl rfl rfl rfl ?_)
        refine op (OpS.loadB h45 (.s .z) PA.a (Get.fld Message_.f8) ty22 rfl rfl rfl (fun u10 h49 => ?_))
        refine op (OpS.len h49 Try.underlying22 rfl rfl rfl (V.at .z) ?_)
        refine op (OpS.bin rfl rfl rfl rfl rfl ?_)
        refine op (OpS.as rfl rfl rfl ?_)
        obtain ⟨x11, e17, hF⟩ := letP_use hF
        refine RunL.nameb e17 ?_
        refine RunL.nil ?_
        refine Run.slim [(97, .bool x11), (4, u1), (6, (q1 38))] ⟨rfl, rfl, rfl, trivial⟩ ?_
        refine Run.ite rfl hF (fun e18 hF => ?_) (fun e18 hF => ?_)
        ·
         refine Run.seq ?_
         refine Run.reg ?_
         refine op (OpS.build (f := true) (x' := Message_.z) h49 pl51 ti51 Message_.zr rfl rfl rfl .nil (fun u11 h50 => ?_))
         refine op (OpS.storeB (f' := true) h50 .z PA.z Put.id ty51 rfl rfl rfl (V.at .z) (.inl rfl) (fun w16 h51 => ?_))
         refine op (OpS.as rfl rfl rfl ?_)
         refine RunL.nil ?_
         refine Run.slim [(5, .int .i64 3), (4, u1)] ⟨rfl, rfl, trivial⟩ ?_
         obtain ⟨u12, hu4, h52⟩ := res_box h51 .z ty51
         refine Run.retP rfl (.cell rfl hu4 (.tmp rfl .nil)) ?_
         cases hF
         exact Post.mk' ⟨u12, rfl, rfl, rfl, rfl⟩ (h52.picks .nil) (.val (V.at .z) .nil)
        ·
         refine Run.skip ?_
         refine Run.endBlock ?_
         refine Run.seq ?_
         refine Run.reg ?_
         refine op (OpS.loadB h49 (.s .z) PA.z Get.id ty51 rfl rfl rfl (fun u13 h53 => ?_))
         refine op (OpS.storeB (f' := true) h53 .z PA.z Put.id ty51 rfl rfl rfl (V.at .z) (.inl rfl) (fun w17 h54 => ?_))
         refine op (OpS.as rfl rfl rfl ?_)
         refine RunL.nil ?_
         refine Run.slim [(5, .int .i64 0), (4, u1)] ⟨rfl, rfl, trivial⟩ ?_
         obtain ⟨u14, hu5, h55⟩ := res_box h54 .z ty51
         refine Run.retP rfl (.cell rfl hu5 (.tmp rfl .nil)) ?_
         cases hF
         exact Post.mk' ⟨u14, rfl, rfl, rfl, rfl⟩ (h55.picks .nil) (.val (V.at .z) .nil)
      ·
       refine RunL.caseb hF (fun e19 hF => ?_) (fun e19 hF => ?_)
       ·
        refine op (OpS.pass rfl rfl rfl ?_)
        refine op (OpS.pass rfl rfl rfl ?_)
        refine op (OpS.pass rfl rfl rfl ?_)
        refine op (OpS.pass rfl rfl rfl ?_)
        refine op (OpS.pick rfl rfl rfl rfl ?_)
        refine op (OpS.as rfl rfl rfl ?_)
        refine RunL.nil ?_
        refine Run.slim [(85, .bool true), (4, u1), (6, (q1 38))] ⟨rfl, rfl, rfl, trivial⟩ ?_
        refine Run.slim [(4, u1), (6, (q1 38)), (85, .bool true)] ⟨rfl, rfl, rfl, trivial⟩ ?_
        exact hj4 (true) _ _ ⟨rfl, (h44.facts .nil).picks (.cons .z (.cons .z .nil))⟩ hF
       ·
        refine op (OpS.fbox (o3 := 1) h44 (.s .z) PA.z fa51_1 rfl rfl rfl rfl ?_)
        refine op (OpS.loadBi h44 (.s .z) PA.a (Get.fld Message_.f1) ty5 rfl rfl rfl ?_)
        obtain ⟨y4, e20, hF⟩ := bindP_use hF
        refine op (OpS.callP h44 Try.func58 rfl rfl rfl rfl (vs := [.int .u8 s2.From]) rfl (message_address_ok e20) .nil ?_)
        rintro _ w18 _ _ _ ⟨rfl, rfl, rfl, rfl⟩ h56
        have h57 := h56 rfl rfl
        simp only [List.cons_append, List.nil_append] at h57
        refine op (OpS.not rfl rfl rfl ?_)
        refine op (OpS.pick rfl rfl rfl rfl ?_)
        refine op (OpS.as rfl rfl rfl ?_)
        obtain ⟨x12, e21, hF⟩ := letP_use hF
        refine RunL.nameb e21 ?_
        refine RunL.nil ?_
        refine Run.slim [(85, .bool x12), (4, u1), (6, (q1 38))] ⟨rfl, rfl, rfl, trivial⟩ ?_
        refine Run.slim [(4, u1), (6, (q1 38)), (85, .bool x12)] ⟨rfl, rfl, rfl, trivial⟩ ?_
        exact hj4 (x12) _ _ ⟨rfl, (h57.facts .nil).picks (.cons .z (.cons .z .nil))⟩ hF
    ·
     refine RunL.caseb hF (fun e22 hF => ?_) (fun e22 hF => ?_)
     ·
      refine op (OpS.pass rfl rfl rfl ?_)
      refine op (OpS.pass rfl rfl rfl ?_)
      refine op (OpS.pass rfl rfl rfl ?_)
      refine op (OpS.pass rfl rfl rfl ?_)
      refine op (OpS.pass rfl rfl rfl ?_)
      refine op (OpS.pick rfl rfl rfl rfl ?_)
      refine op (OpS.mv rfl rfl rfl ?_)
      refine op (OpS.pass rfl rfl rfl ?_)
      refine op (OpS.pass rfl rfl rfl ?_)
      refine op (OpS.pass rfl rfl rfl ?_)
      refine op (OpS.pass rfl rfl rfl ?_)
      refine op (OpS.pass rfl rfl rfl ?_)
      refine op (OpS.pick rfl rfl rfl rfl ?_)
      refine op (OpS.as rfl rfl rfl ?_)
      refine RunL.nil ?_
      refine Run.slim [(64, .bool true), (4, u1), (6, (q1 38))] ⟨rfl, rfl, rfl, trivial⟩ ?_
      refine Run.slim [(4, u1), (6, (q1 38)), (64, .bool true)] ⟨rfl, rfl, rfl, trivial⟩ ?_
      exact hj3 (true) _ _ ⟨rfl, (h38.facts .nil).picks (.cons .z (.cons .z .nil))⟩ hF
     ·
      refine op (OpS.mv rfl rfl rfl ?_)
      obtain ⟨x13, e23, hF⟩ := bindP_use hF
      refine op (OpS.iptr h38 Try.underlying22 ty5 rfl rfl rfl rfl (V.at (.s .z)) e23 (fun u15 h58 => ?_))
      refine op (OpS.loadi h58 ty5 rfl rfl rfl .z ?_)
      refine op (OpS.rem rfl rfl rfl rfl (by decide) ?_)
      refine op (OpS.bin rfl rfl rfl rfl rfl ?_)
      refine op (OpS.pick rfl rfl rfl rfl ?_)
      refine op (OpS.mv rfl rfl rfl ?_)
      refine RunL.caseb hF (fun e24 hF => ?_) (fun e24 hF => ?_)
      ·
       refine op (OpS.pass rfl rfl rfl ?_)
       refine op (OpS.pass rfl rfl rfl ?_)
       refine op (OpS.pass rfl rfl rfl ?_)
       refine op (OpS.pass rfl rfl rfl ?_)
       refine op (OpS.pass rfl rfl rfl ?_)
       refine op (OpS.pick rfl rfl rfl rfl ?_)
       refine op (OpS.as rfl rfl rfl ?_)
       refine RunL.nil ?_
       refine Run.slim [(64, .bool true), (4, u1), (6, (q1 38))] ⟨rfl, rfl, rfl, trivial⟩ ?_
       refine Run.slim [(4, u1), (6, (q1 38)), (64, .bool true)] ⟨rfl, rfl, rfl, trivial⟩ ?_
       exact hj3 (true) _ _ ⟨rfl, (h58.facts .nil).picks (.cons .z (.cons .z .nil))⟩ hF
      ·
       refine op (OpS.loadB h58 (.s .z) PA.z Get.id ty51 rfl rfl rfl (fun u16 h59 => ?_))
       obtain ⟨y5, e25, hF⟩ := bindP_use hF
       refine op (OpS.callP h59 Try.func50 rfl rfl rfl rfl (vs := [u16]) rfl (message_request_ok e25) (.cons (f := true) (V.at .z) .nil) ?_)
       rintro _ w19 _ _ _ ⟨rfl, rfl, rfl, rfl⟩ h60
       have h61 := h60 rfl rfl
       simp only [List.cons_append, List.nil_append] at h61
       refine op (OpS.mv rfl rfl rfl ?_)
       refine op (OpS.bin rfl rfl rfl rfl rfl ?_)
       refine op (OpS.neb Try.underlying4 rfl rfl rfl rfl ?_)
       refine op (OpS.pick rfl rfl rfl rfl ?_)
       refine op (OpS.as rfl rfl rfl ?_)
       obtain ⟨x14, e26, hF⟩ := letP_use hF
       refine RunL.nameb e26 ?_
       refine RunL.nil ?_
       refine Run.slim [(64, .bool x14), (4, u1), (6, (q1 38))] ⟨rfl, rfl, rfl, trivial⟩ ?_
       refine Run.slim [(4, u1), (6, (q1 38)), (64, .bool x14)] ⟨rfl, rfl, rfl, trivial⟩ ?_
       exact hj3 (x14) _ _ ⟨rfl, (h61.facts .nil).picks (.cons .z (.cons .z .nil))⟩ hF
   ·
    refine Run.ite rfl hF (fun e27 hF => ?_) (fun e27 hF => ?_)
    ·
     refine Run.reg ?_
     refine op (OpS.mv rfl rfl rfl ?_)
     refine op (OpS.mv rfl rfl rfl ?_)
     refine op (OpS.bin rfl rfl rfl rfl rfl ?_)
     obtain ⟨x15, e28, hF⟩ := bindP_use hF
     refine op (OpS.iptr h36 Try.underlying22 ty5 rfl rfl rfl rfl (V.at (.s (.s (.s (.s (.s (.s (.s (.s (.s (.s .z))))))))))) e28 (fun u17 h62 => ?_))
     refine op (OpS.loadi h62 ty5 rfl rfl rfl .z ?_)
     refine op (OpS.fbox (o3 := 7) h62 .z PA.z fa51_7 rfl rfl rfl rfl ?_)
     obtain ⟨d1, e29, hF⟩ := letP_use hF
     refine op (OpS.storeB (f' := true) h62 .z PA.a (Put.of (Put.fld Message_.f7) e29) ty5 rfl rfl rfl V.int (.inl rfl) (fun w20 h63 => ?_))
     refine RunL.nil ?_
     refine Run.slim [(6, (q1 38)), (0, v0), (1, .int .i64 a1), (4, u1)] ⟨rfl, rfl, rfl, rfl, trivial⟩ ?_
     refine Run.slim [(0, v0), (1, .int .i64 a1), (4, u1), (6, (q1 38))] ⟨rfl, rfl, rfl, rfl, trivial⟩ ?_
     exact hj2 (d1) _ _ ⟨rfl, (h63.facts (.atm (.s (.s (.s (.s (.s (.s (.s (.s (.s (.s (.s .z))))))))))) .nil)).picks (.cons (.s .z) (.cons .z .nil))⟩ hF
    ·
     refine Run.skip ?_
     refine Run.slim [(0, v0), (1, .int .i64 a1), (4, u1), (6, (q1 38))] ⟨rfl, rfl, rfl, rfl, trivial⟩ ?_
     exact hj2 ((⟨(IntKind.u8.wrap (Int.tdiv x2 2)), (IntKind.u8.wrap (Int.tdiv x3 2)), (IntKind.u8.wrap (Int.tdiv x4 4)), x5, (IntKind.i64.wrap (Int.tmod x6 4)), (IntKind.i64.wrap (Int.tmod x7 4)), (IntKind.i64.wrap (IntKind.u8.wrap (Int.tdiv x8 4))), 0, y2⟩ : Message_)) _ _ ⟨rfl, (h36.facts (.atm (.s (.s (.s (.s (.s (.s (.s (.s (.s (.s .z)))))))))) .nil)).picks (.cons (.s .z) (.cons .z .nil))⟩ hF
 ·
  refine RunL.caseb hF (fun e30 hF => ?_) (fun e30 hF => ?_)
  ·
   refine op (OpS.pass rfl rfl rfl ?_)
   refine op (OpS.pass rfl rfl rfl ?_)
   refine op (OpS.pass rfl rfl rfl ?_)
   refine op (OpS.pass rfl rfl rfl ?_)
   refine op (OpS.pick rfl rfl rfl rfl ?_)
   refine RunL.nil ?_
   refine Run.slim [(16, .bool true), (4, u1), (0, v0), (1, .int .i64 a1)] ⟨rfl, rfl, rfl, rfl, trivial⟩ ?_
   refine Run.slim [(0, v0), (1, .int .i64 a1), (4, u1), (16, .bool true)] ⟨rfl, rfl, rfl, rfl, trivial⟩ ?_
   exact hj1 (true) _ _ ⟨rfl, (h4.facts (.atm (.s .z) .nil)).picks (.cons .z .nil)⟩ hF
  ·
   refine op (OpS.mv rfl rfl rfl ?_)
   obtain ⟨x16, e31, hF⟩ := bindP_use hF
   refine op (OpS.sub h4 Try.underlying22 ty5 rfl rfl rfl rfl rfl (V.at (.s .z)) e31 (fun u18 h64 => ?_))
   obtain ⟨y6, e32, hF⟩ := bindP_use hF
   refine op (OpS.callP h64 Try.func61 rfl rfl rfl rfl (vs := [u18]) rfl (checksum_Sum8_ok e32) (.cons (f := false) (V.at .z) .nil) ?_)
   rintro _ w21 _ _ _ ⟨rfl, rfl, rfl, rfl⟩ h65
   have h66 := h65 rfl rfl
   simp only [List.cons_append, List.nil_append] at h66
   refine op (OpS.bin rfl rfl rfl rfl rfl ?_)
   refine op (OpS.pick rfl rfl rfl rfl ?_)
   refine RunL.nil ?_
   refine Run.slim [(16, .bool (y6 != 0)), (4, u1), (0, v0), (1, .int .i64 a1)] ⟨rfl, rfl, rfl, rfl, trivial⟩ ?_
   refine Run.slim [(0, v0), (1, .int .i64 a1), (4, u1), (16, .bool (y6 != 0))] ⟨rfl, rfl, rfl, rfl, trivial⟩ ?_
   exact hj1 (y6 != 0) _ _ ⟨rfl, (h66.facts (.atm (.s (.s .z)) .nil)).picks (.cons .z .nil)⟩ hF
theorem message_ParseResponse_ok {fuel : Nat} {a0 : List Int} {y : Message_ × Int} (hF : message_ParseResponse fuel a0 = some y) {w : World} {v0 : Value} :
  Spec Try.prog 33 [v0].toArray w [(false, .val (Rep.slice (Rep.int .u8)) v0 a0)] [] (fun v Γr Ωr Ωo => ∃ u0 : Value, v = .tuple #[u0, .int .i64 y.2] ∧ Γr = [(true, .val Message_.rep u0 y.1)] ∧ Ωr = [] ∧ Ωo = []) := by
 refine Spec.of (L := [(0, v0)]) Try.func33 rfl ⟨rfl, trivial⟩ rfl (fun e h => ?_)
 unfold message_ParseResponse at hF
 refine Run.seq ?_
 refine Run.reg ?_
 refine op (OpS.alloc h ti51 Message_.zr rfl rfl (fun u1 w1 h1 => ?_))
 refine op (OpS.as rfl rfl rfl ?_)
 refine RunL.nil ?_
 refine Run.slim [(2, u1), (0, v0)] ⟨rfl, rfl, trivial⟩ ?_
 refine Run.seq ?_
 refine Run.seq ?_
 refine Run.reg ?_
 refine op (OpS.mv rfl rfl rfl ?_)
 refine op (OpS.len h1 Try.underlying22 rfl rfl rfl (V.at .z) ?_)
 refine op (OpS.bin rfl rfl rfl rfl rfl ?_)
 refine RunL.nil ?_
 refine Run.slim [(6, .bool (decide ((a0.length : Int) < 8))), (2, u1), (0, v0)] ⟨rfl, rfl, rfl, trivial⟩ ?_
 refine Run.ite rfl hF (fun e1 hF => ?_) (fun e1 hF => ?_)
 ·
  refine Run.seq ?_
  refine Run.reg ?_
  refine op (OpS.build (f := true) (x' := Message_.z) h1 pl51 ti51 Message_.zr rfl rfl rfl .nil (fun u2 h2 => ?_))
  refine op (OpS.storeB (f' := true) h2 .z PA.z Put.id ty51 rfl rfl rfl (V.at .z) (.inl rfl) (fun w2 h3 => ?_))
  refine op (OpS.as rfl rfl rfl ?_)
  refine RunL.nil ?_
  refine Run.slim [(3, .int .i64 4), (2, u1)] ⟨rfl, rfl, trivial⟩ ?_
  obtain ⟨u3, hu1, h4⟩ := res_box h3 .z ty51
  refine Run.retP rfl (.cell rfl hu1 (.tmp rfl .nil)) ?_
  cases hF
  exact Post.mk' ⟨u3, rfl, rfl, rfl, rfl⟩ (h4.picks .nil) (.val (V.at .z) .nil)
 ·
  refine Run.skip ?_
  refine Run.seq ?_
  refine Run.reg ?_
  refine op (OpS.mv rfl rfl rfl ?_)
  obtain ⟨y1, e2, hF⟩ := bindP_use hF
  refine op (OpS.callP h1 Try.func53 rfl rfl rfl rfl (vs := [v0, .int .i64 7]) rfl (message_parse_ok e2) (.cons (f := false) (V.at .z) .nil) ?_)
  rintro _ w3 _ _ _ ⟨u4, rfl, rfl, rfl, rfl⟩ h5
  have h6 := h5 rfl rfl
  simp only [List.cons_append, List.nil_append] at h6
  refine op (OpS.ext rfl rfl rfl rfl ?_)
  refine op (OpS.ext rfl rfl rfl rfl ?_)
  refine op (OpS.storeB (f' := true) h6 .z PA.z Put.id ty51 rfl rfl rfl (V.at .z) (.inl rfl) (fun w4 h7 => ?_))
  refine op (OpS.as rfl rfl rfl ?_)
  refine RunL.nil ?_
  refine Run.slim [(3, .int .i64 y1.2), (2, u1)] ⟨rfl, rfl, trivial⟩ ?_
  obtain ⟨u5, hu2, h8⟩ := res_box h7 .z ty51
  refine Run.retP rfl (.cell rfl hu2 (.tmp rfl .nil)) ?_
  cases hF
  exact Post.mk' ⟨u5, rfl, rfl, rfl, rfl⟩ (h8.picks .nil) (.val (V.at .z) .nil)
theorem message_Reply_ok {fuel : Nat} {a0 : Message_} {a1 : Int} {a2 : List Int} {y : Message_ × Int} (hF : message_Reply fuel a0 a1 a2 = some y) {w : World} {v0 v2 : Value} :
  Spec Try.prog 31 [v0, .int .u8 a1, v2].toArray w [(false, .val Message_.rep v0 a0), (false, .val (Rep.slice (Rep.int .u8)) v2 a2)] [] (fun v Γr Ωr Ωo => ∃ u0 : Value, v = .tuple #[u0, .int .i64 y.2] ∧ Γr = [(true, .val Message_.rep u0 y.1)] ∧ Ωr = [] ∧ Ωo = []) := by
 refine Spec.of (L := [(0, v0), (1, .int .u8 a1), (2, v2)]) Try.func31 rfl ⟨rfl, rfl, rfl, trivial⟩ rfl (fun e h => ?_)
 unfold message_Reply at hF
 refine Run.seq ?_
 refine Run.reg ?_
 refine op (OpS.boxF h rfl rfl rfl (V.at .z) (fun u1 w1 h1 => ?_))
 refine op (OpS.alloc h1 ti51 Message_.zr rfl rfl (fun u2 w2 h2 => ?_))
 refine op (OpS.as rfl rfl rfl ?_)
 refine RunL.nil ?_
 refine Run.slim [(6, u2), (3, u1), (1, .int .u8 a1), (2, v2)] ⟨rfl, rfl, rfl, rfl, trivial⟩ ?_
 refine Run.seq ?_
 refine Run.seq ?_
 refine Run.reg ?_
 refine op (OpS.loadB h2 (.s .z) PA.z Get.id ty51 rfl rfl rfl (fun u3 h3 => ?_))
 obtain ⟨y1, e1, hF⟩ := bindP_use hF
 refine op (OpS.callP h3 Try.func49 rfl rfl rfl rfl (vs := [u3]) rfl (message_Valid_ok e1) (.cons (f := false) (V.at .z) .nil) ?_)
 rintro _ w3 _ _ _ ⟨rfl, rfl, rfl, rfl⟩ h4
 have h5 := h4 rfl rfl
 simp only [List.cons_append, List.nil_append] at h5
 refine op (OpS.not rfl rfl rfl ?_)
 refine op (OpS.mv rfl rfl rfl ?_)
 refine RunL.join (σ := Bool) (fun s_ L_ w_ => L_ = [(1, .int .u8 a1), (2, v2), (3, u1), (6, u2), (20, .bool s_)] ∧ St e w_ [(false, .val (Rep.slice (Rep.int .u8)) v2 a2)] [(false, .box 51 Message_.rep u1 a0), (true, .box 51 Message_.rep u2 Message_.z)]) hF (fun s1 _ w4 hI hF => ?_) (fun j1 hj1 hF => ?_)
 ·
  obtain ⟨rfl, h6⟩ := hI
  refine Run.ite rfl hF (fun e2 hF => ?_) (fun e2 hF => ?_)
  ·
   refine Run.seq ?_
   refine Run.reg ?_
   refine op (OpS.build (f := true) (x' := Message_.z) h6 pl51 ti51 Message_.zr rfl rfl rfl .nil (fun u4 h7 => ?_))
   refine op (OpS.storeB (f' := true) h7 (.s .z) PA.z Put.id ty51 rfl rfl rfl (V.at .z) (.inl rfl) (fun w5 h8 => ?_))
   refine op (OpS.as rfl rfl rfl ?_)
   refine RunL.nil ?_
   refine Run.slim [(7, .int .i64 1), (6, u2)] ⟨rfl, rfl, trivial⟩ ?_
   obtain ⟨u5, hu1, h9⟩ := res_box h8 .z ty51
   refine Run.retP rfl (.cell rfl hu1 (.tmp rfl .nil)) ?_
   cases hF
   exact Post.mk' ⟨u5, rfl, rfl, rfl, rfl⟩ (h9.picks .nil) (.val (V.at .z) .nil)
  ·
   refine Run.skip ?_
   refine Run.seq ?_
   obtain ⟨y2, e3, hF⟩ := bindP_use hF
   refine Run.drawV (Ωs := [(true, .box 51 Message_.rep u2 Message_.z)]) [⟨some 22, some ((padd u1 1)), fun _ => [], fun ds_ u_ => [], [], [(0, [])], none⟩, ⟨some 23, some (.int .u8 a0.From), fun _ => [], fun ds_ u_ => [], [], [(0, [])], none⟩, ⟨some 24, some ((padd u1 0)), fun _ => [], fun ds_ u_ => [], [], [(0, [])], none⟩, ⟨some 25, some (.int .u8 a0.To), fun _ => [], fun ds_ u_ => [], [], [(0, [])], none⟩, ⟨some 26, some ((padd u1 2)), fun _ => [], fun ds_ u_ => [], [], [(0, [])], none⟩, ⟨some 27, some (.int .u8 a0.Function), fun _ => [], fun ds_ u_ => [], [], [(0, [])], none⟩, ⟨some 28, some (.int .u8 (IntKind.u8.wrap (a0.Function + 1))), fun _ => [], fun ds_ u_ => [], [], [], none⟩, ⟨some 29, some ((padd u1 3)), fun _ => [], fun ds_ u_ => [], [], [(0, [])], none⟩, ⟨some 30, some (.int .u8 a0.Command), fun _ => [], fun ds_ u_ => [], [], [(0, [])], none⟩, ⟨some 31, some ((padd u1 5)), fun _ => [], fun ds_ u_ => [], [], [(0, [])], none⟩, ⟨some 32, some (.int .i64 a0.FromUnit), fun _ => [], fun ds_ u_ => [], [], [(0, [])], none⟩, ⟨some 33, some ((padd u1 4)), fun _ => [], fun ds_ u_ => [], [], [(0, [])], none⟩, ⟨some 34, some (.int .i64 a0.ToUnit), fun _ => [], fun ds_ u_ => [], [], [(0, [])], none⟩, ⟨some 35, some ((padd u1 6)), fun _ => [], fun ds_ u_ => [], [], [(0, [])], none⟩, ⟨some 36, some (.int .i64 a0.Sequence), fun _ => [], fun ds_ u_ => [], [], [(0, [])], none⟩, ⟨some 37, some (.int .u8 a1), fun _ => [], fun ds_ u_ => [], [], [], none⟩, ⟨some 38, some (v2), fun _ => [], fun ds_ u_ => [], [], [], none⟩, ⟨some 39, none, fun u_ => [(true, .val (Rep.slice (Rep.int .u8)) u_ y2)], fun ds_ u_ => [], [], [], none⟩, ⟨some 40, none, fun u_ => [(true, .val Message_.rep u_ (⟨a0.From, a0.To, (IntKind.u8.wrap (a0.Function + 1)), a0.Command, a0.FromUnit, a0.ToUnit, a0.Sequence, a1, y2⟩ : Message_))], fun ds_ u_ => [], [], [], none⟩] [[], [0], [], [2], [], [4], [5], [], [7], [], [9], [], [11], [], [13], [], [], [16], [1, 3, 6, 8, 10, 12, 14, 15, 17]] [[(false, .box 51 Message_.rep u1 a0)]] [0, 1, 2, 3, 4, 5, 6, 7, 8, 9, 10, 11, 12, 13, 14, 15, 16, 17, 18, 19] Try_mixed rfl rfl rfl h6 (.cons ?_ (.cons ?_ (.cons ?_ (.cons ?_ (.cons ?_ (.cons ?_ (.cons ?_ (.cons ?_ (.cons ?_ (.cons ?_ (.cons ?_ (.cons ?_ (.cons ?_ (.cons ?_ (.cons ?_ (.cons ?_ (.cons ?_ (.cons ?_ (.cons ?_ .nil))))))))))))))))))) (fun q1 w hq1 h => ?_)
   ·intro q1 w Γx Ωx h
    have h : St e w ([(false, .val (Rep.slice (Rep.int .u8)) v2 a2)] ++ Γx) ([(false, .box 51 Message_.rep u1 a0), (true, .box 51 Message_.rep u2 Message_.z)] ++ Ωx) := h
    refine OpS.fbox (o3 := 1) h .z PA.z fa51_1 rfl rfl rfl rfl ?_
    exact ⟨undef, rfl, trivial, h⟩
   ·intro q1 w Γx Ωx h
    have h : St e w ([(false, .val (Rep.slice (Rep.int .u8)) v2 a2)] ++ Γx) ([(false, .box 51 Message_.rep u1 a0), (true, .box 51 Message_.rep u2 Message_.z)] ++ Ωx) := h
    refine OpS.loadBi h .z PA.a (Get.fld Message_.f1) ty5 rfl rfl rfl ?_
    exact ⟨undef, rfl, trivial, h⟩
   ·intro q1 w Γx Ωx h
    have h : St e w ([(false, .val (Rep.slice (Rep.int .u8)) v2 a2)] ++ Γx) ([(false, .box 51 Message_.rep u1 a0), (true, .box 51 Message_.rep u2 Message_.z)] ++ Ωx) := h
    refine OpS.fbox (o3 := 0) h .z PA.z fa51_0 rfl rfl rfl rfl ?_
    exact ⟨undef, rfl, trivial, h⟩
   ·intro q1 w Γx Ωx h
    have h : St e w ([(false, .val (Rep.slice (Rep.int .u8)) v2 a2)] ++ Γx) ([(false, .box 51 Message_.rep u1 a0), (true, .box 51 Message_.rep u2 Message_.z)] ++ Ωx) := h
    refine OpS.loadBi h .z PA.a (Get.fld Message_.f0) ty5 rfl rfl rfl ?_
    exact ⟨undef, rfl, trivial, h⟩
   ·intro q1 w Γx Ωx h
    have h : St e w ([(false, .val (Rep.slice (Rep.int .u8)) v2 a2)] ++ Γx) ([(false, .box 51 Message_.rep u1 a0), (true, .box 51 Message_.rep u2 Message_.z)] ++ Ωx) := h
    refine OpS.fbox (o3 := 2) h .z PA.z fa51_2 rfl rfl rfl rfl ?_
    exact ⟨undef, rfl, trivial, h⟩
   ·intro q1 w Γx Ωx h
    have h : St e w ([(false, .val (Rep.slice (Rep.int .u8)) v2 a2)] ++ Γx) ([(false, .box 51 Message_.rep u1 a0), (true, .box 51 Message_.rep u2 Message_.z)] ++ Ωx) := h
    refine OpS.loadBi h .z PA.a (Get.fld Message_.f2) ty5 rfl rfl rfl ?_
    exact ⟨undef, rfl, trivial, h⟩
   ·intro q1 w Γx Ωx h
    refine OpS.bin rfl rfl rfl rfl rfl ?_
    exact ⟨undef, rfl, trivial, h⟩
   ·intro q1 w Γx Ωx h
    have h : St e w ([(false, .val (Rep.slice (Rep.int .u8)) v2 a2)] ++ Γx) ([(false, .box 51 Message_.rep u1 a0), (true, .box 51 Message_.rep u2 Message_.z)] ++ Ωx) := h
    refine OpS.fbox (o3 := 3) h .z PA.z fa51_3 rfl rfl rfl rfl ?_
    exact ⟨undef, rfl, trivial, h⟩
   ·intro q1 w Γx Ωx h
    have h : St e w ([(false, .val (Rep.slice (Rep.int .u8)) v2 a2)] ++ Γx) ([(false, .box 51 Message_.rep u1 a0), (true, .box 51 Message_.rep u2 Message_.z)] ++ Ωx) := h
    refine OpS.loadBi h .z PA.a (Get.fld Message_.f3) ty5 rfl rfl rfl ?_
    exact ⟨undef, rfl, trivial, h⟩
   ·intro q1 w Γx Ωx h
    have h : St e w ([(false, .val (Rep.slice (Rep.int .u8)) v2 a2)] ++ Γx) ([(false, .box 51 Message_.rep u1 a0), (true, .box 51 Message_.rep u2 Message_.z)] ++ Ωx) := h
    refine OpS.fbox (o3 := 5) h .z PA.z fa51_5 rfl rfl rfl rfl ?_
    exact ⟨undef, rfl, trivial, h⟩
   ·intro q1 w Γx Ωx h
    have h : St e w ([(false, .val (Rep.slice (Rep.int .u8)) v2 a2)] ++ Γx) ([(false, .box 51 Message_.rep u1 a0), (true, .box 51 Message_.rep u2 Message_.z)] ++ Ωx) := h
    refine OpS.loadBi h .z PA.a (Get.fld Message_.f5) ty3 rfl rfl rfl ?_
    exact ⟨undef, rfl, trivial, h⟩
   ·intro q1 w Γx Ωx h
    have h : St e w ([(false, .val (Rep.slice (Rep.int .u8)) v2 a2)] ++ Γx) ([(false, .box 51 Message_.rep u1 a0), (true, .box 51 Message_.rep u2 Message_.z)] ++ Ωx) := h
    refine OpS.fbox (o3 := 4) h .z PA.z fa51_4 rfl rfl rfl rfl ?_
    exact ⟨undef, rfl, trivial, h⟩
   ·intro q1 w Γx Ωx h
    have h : St e w ([(false, .val (Rep.slice (Rep.int .u8)) v2 a2)] ++ Γx) ([(false, .box 51 Message_.rep u1 a0), (true, .box 51 Message_.rep u2 Message_.z)] ++ Ωx) := h
    refine OpS.loadBi h .z PA.a (Get.fld Message_.f4) ty3 rfl rfl rfl ?_
    exact ⟨undef, rfl, trivial, h⟩
   ·intro q1 w Γx Ωx h
    have h : St e w ([(false, .val (Rep.slice (Rep.int .u8)) v2 a2)] ++ Γx) ([(false, .box 51 Message_.rep u1 a0), (true, .box 51 Message_.rep u2 Message_.z)] ++ Ωx) := h
    refine OpS.fbox (o3 := 6) h .z PA.z fa51_6 rfl rfl rfl rfl ?_
    exact ⟨undef, rfl, trivial, h⟩
   ·intro q1 w Γx Ωx h
    have h : St e w ([(false, .val (Rep.slice (Rep.int .u8)) v2 a2)] ++ Γx) ([(false, .box 51 Message_.rep u1 a0), (true, .box 51 Message_.rep u2 Message_.z)] ++ Ωx) := h
    refine OpS.loadBi h .z PA.a (Get.fld Message_.f6) ty3 rfl rfl rfl ?_
    exact ⟨undef, rfl, trivial, h⟩
   ·intro q1 w Γx Ωx h
    refine OpS.mv rfl rfl rfl ?_
    exact ⟨undef, rfl, trivial, h⟩
   ·intro q1 w Γx Ωx h
    refine OpS.mv rfl rfl rfl ?_
    exact ⟨undef, rfl, trivial, h⟩
   ·intro q1 w Γx Ωx h
    refine OpS.callP h Try.func51 rfl rfl rfl rfl (vs := [v2]) rfl (slices_Clone_byte_byte_ok e3) (.cons (f := false) (V.at .z) .nil) ?_
    rintro u w7 _ _ _ ⟨_, rfl, rfl, rfl, rfl⟩ h14
    have h15 := h14 rfl rfl
    simp only [List.cons_append, List.nil_append] at h15
    have h16 := h15.freeze
    exact ⟨u, rfl, trivial, h16⟩
   ·intro q1 w Γx Ωx h
    refine OpS.build (f := true) (x' := (⟨a0.From, a0.To, (IntKind.u8.wrap (a0.Function + 1)), a0.Command, a0.FromUnit, a0.ToUnit, a0.Sequence, a1, y2⟩ : Message_)) h pl51 ti51 Message_.zr rfl rfl rfl (.cons rfl Message_.f0 rfl V.int (.cons rfl Message_.f1 rfl V.int (.cons rfl Message_.f2 rfl V.int (.cons rfl Message_.f3 rfl V.int (.cons rfl Message_.f4 rfl V.int (.cons rfl Message_.f5 rfl V.int (.cons rfl Message_.f6 rfl V.int (.cons rfl Message_.f7 rfl V.int (.cons rfl Message_.f8 rfl (V.at .z) .nil))))))))) (fun u h17 => ?_)
    exact ⟨u, rfl, trivial, h17⟩
   have h18 : St e w [(true, .val (Rep.slice (Rep.int .u8)) (q1 17) y2), (true, .val Message_.rep (q1 18) (⟨a0.From, a0.To, (IntKind.u8.wrap (a0.Function + 1)), a0.Command, a0.FromUnit, a0.ToUnit, a0.Sequence, a1, y2⟩ : Message_)), (false, .val (Rep.slice (Rep.int .u8)) v2 a2)] [(false, .box 51 Message_.rep u1 a0), (true, .box 51 Message_.rep u2 Message_.z)] := h
   refine op (OpS.storeB (f' := true) h18 (.s .z) PA.z Put.id ty51 rfl rfl rfl (V.at (.s .z)) (.inl rfl) (fun w8 h19 => ?_))
   refine op (OpS.as rfl rfl rfl ?_)
   refine RunL.nil ?_
   refine Run.slim [(7, .int .i64 0), (6, u2)] ⟨rfl, rfl, trivial⟩ ?_
   obtain ⟨u6, hu2, h20⟩ := res_box h19 .z ty51
   refine Run.retP rfl (.cell rfl hu2 (.tmp rfl .nil)) ?_
   cases hF
   exact Post.mk' ⟨u6, rfl, rfl, rfl, rfl⟩ (h20.picks .nil) (.val (V.at .z) .nil)
 ·
  refine RunL.caseb hF (fun e4 hF => ?_) (fun e4 hF => ?_)
  ·
   refine op (OpS.pass rfl rfl rfl ?_)
   refine op (OpS.pass rfl rfl rfl ?_)
   refine op (OpS.pass rfl rfl rfl ?_)
   refine op (OpS.pick rfl rfl rfl rfl ?_)
   refine op (OpS.mv rfl rfl rfl ?_)
   refine op (OpS.pass rfl rfl rfl ?_)
   refine op (OpS.pass rfl rfl rfl ?_)
   refine op (OpS.pass rfl rfl rfl ?_)
   refine op (OpS.pick rfl rfl rfl rfl ?_)
   refine RunL.nil ?_
   refine Run.slim [(20, .bool true), (6, u2), (3, u1), (1, .int .u8 a1), (2, v2)] ⟨rfl, rfl, rfl, rfl, rfl, trivial⟩ ?_
   refine Run.slim [(1, .int .u8 a1), (2, v2), (3, u1), (6, u2), (20, .bool true)] ⟨rfl, rfl, rfl, rfl, rfl, trivial⟩ ?_
   exact hj1 (true) _ _ ⟨rfl, (h5.facts (.atm (.s (.s .z)) .nil)).picks (.cons (.s .z) (.cons .z .nil))⟩ hF
  ·
   refine op (OpS.loadB h5 (.s .z) PA.z Get.id ty51 rfl rfl rfl (fun u7 h21 => ?_))
   obtain ⟨y3, e5, hF⟩ := bindP_use hF
   refine op (OpS.callP h21 Try.func50 rfl rfl rfl rfl (vs := [u7]) rfl (message_request_ok e5) (.cons (f := false) (V.at .z) .nil) ?_)
   rintro _ w9 _ _ _ ⟨rfl, rfl, rfl, rfl⟩ h22
   have h23 := h22 rfl rfl
   simp only [List.cons_append, List.nil_append] at h23
   refine op (OpS.not rfl rfl rfl ?_)
   refine op (OpS.pick rfl rfl rfl rfl ?_)
   refine op (OpS.mv rfl rfl rfl ?_)
   refine RunL.caseb hF (fun e6 hF => ?_) (fun e6 hF => ?_)
   ·
    refine op (OpS.pass rfl rfl rfl ?_)
    refine op (OpS.pass rfl rfl rfl ?_)
    refine op (OpS.pass rfl rfl rfl ?_)
    refine op (OpS.pick rfl rfl rfl rfl ?_)
    refine RunL.nil ?_
    refine Run.slim [(20, .bool true), (6, u2), (3, u1), (1, .int .u8 a1), (2, v2)] ⟨rfl, rfl, rfl, rfl, rfl, trivial⟩ ?_
    refine Run.slim [(1, .int .u8 a1), (2, v2), (3, u1), (6, u2), (20, .bool true)] ⟨rfl, rfl, rfl, rfl, rfl, trivial⟩ ?_
    exact hj1 (true) _ _ ⟨rfl, (h23.facts (.atm (.s (.s (.s .z))) .nil)).picks (.cons (.s .z) (.cons .z .nil))⟩ hF
   ·
    refine op (OpS.mv rfl rfl rfl ?_)
    refine op (OpS.len h23 Try.underlying22 rfl rfl rfl (V.at (.s (.s (.s .z)))) ?_)
    refine op (OpS.bin rfl rfl rfl rfl rfl ?_)
    refine op (OpS.pick rfl rfl rfl rfl ?_)
    refine RunL.nil ?_
    refine Run.slim [(20, .bool (decide ((a2.length : Int) > 240))), (6, u2), (3, u1), (1, .int .u8 a1), (2, v2)] ⟨rfl, rfl, rfl, rfl, rfl, trivial⟩ ?_
    refine Run.slim [(1, .int .u8 a1), (2, v2), (3, u1), (6, u2), (20, .bool (decide ((a2.length : Int) > 240)))] ⟨rfl, rfl, rfl, rfl, rfl, trivial⟩ ?_
    exact hj1 (decide ((a2.length : Int) > 240)) _ _ ⟨rfl, (h23.facts (.atm (.s (.s (.s .z))) .nil)).picks (.cons (.s .z) (.cons .z .nil))⟩ hF
end Lift
