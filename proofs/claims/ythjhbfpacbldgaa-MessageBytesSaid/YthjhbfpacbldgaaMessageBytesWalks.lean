/- Each Go function computes its plain function. Written by lift.py. -/
import Derived.Test.YthjhbfpacbldgaaFacts
namespace Lift
open Go Go.Proofs
theorem made_Light_ok {fuel : Nat} {a0 : List Int} {y : Bool} (hF : made_Light fuel a0 = some y) {w : World} {v0 : Value} :
    Spec Try.prog 9 [v0].toArray w [(false, .val (Rep.slice (Rep.int .i64)) v0 a0)] [] (fun v Γr Ωr Ωo => v = .bool y ∧ Γr = [] ∧ Ωr = [] ∧ Ωo = []) := by
  refine Spec.of (L := [(0, v0)]) Try.func9 rfl ⟨rfl, trivial⟩ rfl (fun e h => ?_)
  unfold made_Light at hF
  refine Run.seq ?_
  refine Run.reg ?_
  refine RunL.op (OpS.as rfl rfl rfl ?_)
  refine RunL.nil ?_
  refine Run.slim [(0, v0)] ⟨rfl, trivial⟩ ?_
  refine Run.seq ?_
  refine Run.reg ?_
  refine RunL.op (OpS.mv rfl rfl rfl ?_)
  refine RunL.op (OpS.len h Try.underlying25 rfl rfl rfl (V.at .z) ?_)
  refine RunL.op (OpS.bin rfl rfl rfl rfl rfl ?_)
  refine RunL.op (OpS.as rfl rfl rfl ?_)
  obtain ⟨x1, e1, hF⟩ := letP_use hF
  refine RunL.nameb e1 ?_
  refine RunL.nil ?_
  refine Run.slim [(2, .bool x1)] ⟨rfl, trivial⟩ ?_
  refine Run.retP rfl (.tmp rfl .nil) ?_
  cases hF
  exact Post.mk' ⟨rfl, rfl, rfl, rfl⟩ (h.picks .nil) .nil
theorem message_address_ok {fuel : Nat} {a0 : Int} {y : Bool} (hF : message_address fuel a0 = some y) {w : World} :
    Spec Try.prog 45 [.int .u8 a0].toArray w [] [] (fun v Γr Ωr Ωo => v = .bool y ∧ Γr = [] ∧ Ωr = [] ∧ Ωo = []) := by
  refine Spec.of (L := [(0, .int .u8 a0)]) Try.func45 rfl ⟨rfl, trivial⟩ rfl (fun e h => ?_)
  unfold message_address at hF
  refine Run.seq ?_
  refine Run.reg ?_
  refine RunL.op (OpS.as rfl rfl rfl ?_)
  refine RunL.nil ?_
  refine Run.slim [(0, .int .u8 a0)] ⟨rfl, trivial⟩ ?_
  refine Run.seq ?_
  refine Run.reg ?_
  refine RunL.op (OpS.mv rfl rfl rfl ?_)
  refine RunL.op (OpS.bin rfl rfl rfl rfl rfl ?_)
  refine RunL.op (OpS.mv rfl rfl rfl ?_)
  refine RunL.caseb hF (fun e1 hF => ?_) (fun e1 hF => ?_)
  ·
    refine RunL.op (OpS.mv rfl rfl rfl ?_)
    refine RunL.op (OpS.bin rfl rfl rfl rfl rfl ?_)
    refine RunL.op (OpS.pick rfl rfl rfl rfl ?_)
    refine RunL.op (OpS.as rfl rfl rfl ?_)
    obtain ⟨x1, e2, hF⟩ := letP_use hF
    refine RunL.nameb e2 ?_
    refine RunL.nil ?_
    refine Run.slim [(2, .bool x1)] ⟨rfl, trivial⟩ ?_
    refine Run.retP rfl (.tmp rfl .nil) ?_
    cases hF
    exact Post.mk' ⟨rfl, rfl, rfl, rfl⟩ (h.picks .nil) .nil
  ·
    refine RunL.op (OpS.pass rfl rfl rfl ?_)
    refine RunL.op (OpS.pass rfl rfl rfl ?_)
    refine RunL.op (OpS.pick rfl rfl rfl rfl ?_)
    refine RunL.op (OpS.as rfl rfl rfl ?_)
    refine RunL.nil ?_
    refine Run.slim [(2, .bool false)] ⟨rfl, trivial⟩ ?_
    refine Run.retP rfl (.tmp rfl .nil) ?_
    cases hF
    exact Post.mk' ⟨rfl, rfl, rfl, rfl⟩ (h.picks .nil) .nil
theorem message_unit_ok {fuel : Nat} {a0 : Int} {y : Bool} (hF : message_unit fuel a0 = some y) {w : World} :
    Spec Try.prog 46 [.int .i64 a0].toArray w [] [] (fun v Γr Ωr Ωo => v = .bool y ∧ Γr = [] ∧ Ωr = [] ∧ Ωo = []) := by
  refine Spec.of (L := [(0, .int .i64 a0)]) Try.func46 rfl ⟨rfl, trivial⟩ rfl (fun e h => ?_)
  unfold message_unit at hF
  refine Run.seq ?_
  refine Run.reg ?_
  refine RunL.op (OpS.as rfl rfl rfl ?_)
  refine RunL.nil ?_
  refine Run.slim [(0, .int .i64 a0)] ⟨rfl, trivial⟩ ?_
  refine Run.seq ?_
  refine Run.reg ?_
  refine RunL.op (OpS.mv rfl rfl rfl ?_)
  refine RunL.op (OpS.bin rfl rfl rfl rfl rfl ?_)
  refine RunL.op (OpS.mv rfl rfl rfl ?_)
  refine RunL.caseb hF (fun e1 hF => ?_) (fun e1 hF => ?_)
  ·
    refine RunL.op (OpS.mv rfl rfl rfl ?_)
    refine RunL.op (OpS.bin rfl rfl rfl rfl rfl ?_)
    refine RunL.op (OpS.pick rfl rfl rfl rfl ?_)
    refine RunL.op (OpS.as rfl rfl rfl ?_)
    obtain ⟨x1, e2, hF⟩ := letP_use hF
    refine RunL.nameb e2 ?_
    refine RunL.nil ?_
    refine Run.slim [(2, .bool x1)] ⟨rfl, trivial⟩ ?_
    refine Run.retP rfl (.tmp rfl .nil) ?_
    cases hF
    exact Post.mk' ⟨rfl, rfl, rfl, rfl⟩ (h.picks .nil) .nil
  ·
    refine RunL.op (OpS.pass rfl rfl rfl ?_)
    refine RunL.op (OpS.pass rfl rfl rfl ?_)
    refine RunL.op (OpS.pick rfl rfl rfl rfl ?_)
    refine RunL.op (OpS.as rfl rfl rfl ?_)
    refine RunL.nil ?_
    refine Run.slim [(2, .bool false)] ⟨rfl, trivial⟩ ?_
    refine Run.retP rfl (.tmp rfl .nil) ?_
    cases hF
    exact Post.mk' ⟨rfl, rfl, rfl, rfl⟩ (h.picks .nil) .nil
theorem message_request_ok {fuel : Nat} {a0 : Message_} {y : Bool} (hF : message_request fuel a0 = some y) {w : World} {v0 : Value} :
    Spec Try.prog 42 [v0].toArray w [(false, .val Message_.rep v0 a0)] [] (fun v Γr Ωr Ωo => v = .bool y ∧ Γr = [] ∧ Ωr = [] ∧ Ωo = []) := by
  refine Spec.of (L := [(0, v0)]) Try.func42 rfl ⟨rfl, trivial⟩ rfl (fun e h => ?_)
  unfold message_request at hF
  refine Run.seq ?_
  refine Run.reg ?_
  refine RunL.op (OpS.boxF h rfl rfl rfl (V.at .z) (fun u1 w1 h1 => ?_))
  refine RunL.op (OpS.as rfl rfl rfl ?_)
  refine RunL.nil ?_
  refine Run.slim [(1, u1)] ⟨rfl, trivial⟩ ?_
  refine Run.seq ?_
  refine Run.reg ?_
  refine RunL.op (OpS.fbox (o3 := 2) h1 .z PA.z fa24_2 rfl rfl rfl rfl ?_)
  refine RunL.op (OpS.loadBi h1 .z PA.a (Get.fld Message_.f2) ty5 rfl rfl rfl ?_)
  refine RunL.op (OpS.rem rfl rfl rfl rfl (by decide) ?_)
  refine RunL.op (OpS.bin rfl rfl rfl rfl rfl ?_)
  refine RunL.op (OpS.as rfl rfl rfl ?_)
  obtain ⟨x1, e1, hF⟩ := letP_use hF
  refine RunL.nameb e1 ?_
  refine RunL.nil ?_
  refine Run.slim [(2, .bool x1)] ⟨rfl, trivial⟩ ?_
  refine Run.retP rfl (.tmp rfl .nil) ?_
  cases hF
  exact Post.mk' ⟨rfl, rfl, rfl, rfl⟩ (h1.picks .nil) .nil
theorem message_Valid_ok {fuel : Nat} {a0 : Message_} {y : Bool} (hF : message_Valid fuel a0 = some y) {w : World} {v0 : Value} :
    Spec Try.prog 20 [v0].toArray w [(false, .val Message_.rep v0 a0)] [] (fun v Γr Ωr Ωo => v = .bool y ∧ Γr = [] ∧ Ωr = [] ∧ Ωo = []) := by
  refine Spec.of (L := [(0, v0)]) Try.func20 rfl ⟨rfl, trivial⟩ rfl (fun e h => ?_)
  unfold message_Valid at hF
  refine Run.seq ?_
  refine Run.reg ?_
  refine RunL.op (OpS.boxF h rfl rfl rfl (V.at .z) (fun u1 w1 h1 => ?_))
  refine RunL.op (OpS.as rfl rfl rfl ?_)
  refine RunL.nil ?_
  refine Run.slim [(1, u1)] ⟨rfl, trivial⟩ ?_
  refine Run.seq ?_
  refine Run.seq ?_
  refine Run.reg ?_
  refine RunL.op (OpS.fbox (o3 := 0) h1 .z PA.z fa24_0 rfl rfl rfl rfl ?_)
  refine RunL.op (OpS.loadBi h1 .z PA.a (Get.fld Message_.f0) ty5 rfl rfl rfl ?_)
  obtain ⟨y1, e1, hF⟩ := bindP_use hF
  refine RunL.op (OpS.callP h1 Try.func45 rfl rfl rfl rfl (vs := [.int .u8 a0.To]) rfl (message_address_ok e1) .nil ?_)
  rintro _ w2 _ _ _ ⟨rfl, rfl, rfl, rfl⟩ h2
  have h3 := h2 rfl rfl
  simp only [List.cons_append, List.nil_append] at h3
  refine RunL.op (OpS.not rfl rfl rfl ?_)
  refine RunL.op (OpS.mv rfl rfl rfl ?_)
  refine RunL.join (σ := Bool) (fun s_ L_ w_ => L_ = [(1, u1), (29, .bool s_)] ∧ St e w_ [] [(false, .box 24 Message_.rep u1 a0)]) hF (fun s1 _ w3 hI hF => ?_) (fun j1 hj1 hF => ?_)
  ·
    obtain ⟨rfl, h4⟩ := hI
    refine Run.ite rfl hF (fun e2 hF => ?_) (fun e2 hF => ?_)
    ·
      refine Run.seq ?_
      refine Run.reg ?_
      refine RunL.op (OpS.as rfl rfl rfl ?_)
      refine RunL.nil ?_
      refine Run.slim [(2, .bool false)] ⟨rfl, trivial⟩ ?_
      refine Run.retP rfl (.tmp rfl .nil) ?_
      cases hF
      exact Post.mk' ⟨rfl, rfl, rfl, rfl⟩ (h4.picks .nil) .nil
    ·
      refine Run.skip ?_
      refine Run.seq ?_
      refine Run.reg ?_
      refine RunL.op (OpS.fbox (o3 := 6) h4 .z PA.z fa24_6 rfl rfl rfl rfl ?_)
      refine RunL.op (OpS.loadBi h4 .z PA.a (Get.fld Message_.f6) ty3 rfl rfl rfl ?_)
      refine RunL.op (OpS.bin rfl rfl rfl rfl rfl ?_)
      refine RunL.op (OpS.mv rfl rfl rfl ?_)
      refine RunL.caseb hF (fun e3 hF => ?_) (fun e3 hF => ?_)
      ·
        refine RunL.op (OpS.fbox (o3 := 6) h4 .z PA.z fa24_6 rfl rfl rfl rfl ?_)
        refine RunL.op (OpS.loadBi h4 .z PA.a (Get.fld Message_.f6) ty3 rfl rfl rfl ?_)
        refine RunL.op (OpS.bin rfl rfl rfl rfl rfl ?_)
        refine RunL.op (OpS.pick rfl rfl rfl rfl ?_)
        refine RunL.op (OpS.mv rfl rfl rfl ?_)
        refine RunL.caseb hF (fun e4 hF => ?_) (fun e4 hF => ?_)
        ·
          refine RunL.op (OpS.fbox (o3 := 8) h4 .z PA.z fa24_8 rfl rfl rfl rfl ?_)
          refine RunL.op (OpS.loadB h4 .z PA.a (Get.fld Message_.f8) ty22 rfl rfl rfl (fun u2 h5 => ?_))
          refine RunL.op (OpS.len h5 Try.underlying22 rfl rfl rfl (V.at .z) ?_)
          refine RunL.op (OpS.bin rfl rfl rfl rfl rfl ?_)
          refine RunL.op (OpS.pick rfl rfl rfl rfl ?_)
          refine RunL.op (OpS.mv rfl rfl rfl ?_)
          refine RunL.caseb hF (fun e5 hF => ?_) (fun e5 hF => ?_)
          ·
            refine RunL.op (OpS.loadB h5 .z PA.z Get.id ty24 rfl rfl rfl (fun u3 h6 => ?_))
            obtain ⟨y2, e6, hF⟩ := bindP_use hF
            refine RunL.op (OpS.callP h6 Try.func42 rfl rfl rfl rfl (vs := [u3]) rfl (message_request_ok e6) (.cons (V.at .z) .nil) ?_)
            rintro _ w4 _ _ _ ⟨rfl, rfl, rfl, rfl⟩ h7
            have h8 := h7 rfl rfl
            simp only [List.cons_append, List.nil_append] at h8
            refine RunL.op (OpS.not rfl rfl rfl ?_)
            refine RunL.op (OpS.mv rfl rfl rfl ?_)
            refine RunL.caseb hF (fun e7 hF => ?_) (fun e7 hF => ?_)
            ·
              refine RunL.op (OpS.pass rfl rfl rfl ?_)
              refine RunL.op (OpS.pass rfl rfl rfl ?_)
              refine RunL.op (OpS.pass rfl rfl rfl ?_)
              refine RunL.op (OpS.pick rfl rfl rfl rfl ?_)
              refine RunL.op (OpS.pick rfl rfl rfl rfl ?_)
              refine RunL.op (OpS.as rfl rfl rfl ?_)
              refine RunL.nil ?_
              refine Run.slim [(2, .bool true)] ⟨rfl, trivial⟩ ?_
              refine Run.retP rfl (.tmp rfl .nil) ?_
              cases hF
              exact Post.mk' ⟨rfl, rfl, rfl, rfl⟩ (h8.picks .nil) .nil
            ·
              refine RunL.op (OpS.fbox (o3 := 7) h8 .z PA.z fa24_7 rfl rfl rfl rfl ?_)
              refine RunL.op (OpS.loadBi h8 .z PA.a (Get.fld Message_.f7) ty5 rfl rfl rfl ?_)
              refine RunL.op (OpS.bin rfl rfl rfl rfl rfl ?_)
              refine RunL.op (OpS.pick rfl rfl rfl rfl ?_)
              refine RunL.op (OpS.pick rfl rfl rfl rfl ?_)
              refine RunL.op (OpS.as rfl rfl rfl ?_)
              obtain ⟨x1, e8, hF⟩ := letP_use hF
              refine RunL.nameb e8 ?_
              refine RunL.nil ?_
              refine Run.slim [(2, .bool x1)] ⟨rfl, trivial⟩ ?_
              refine Run.retP rfl (.tmp rfl .nil) ?_
              cases hF
              exact Post.mk' ⟨rfl, rfl, rfl, rfl⟩ (h8.picks .nil) .nil
          ·
            refine RunL.op (OpS.pass rfl rfl rfl ?_)
            refine RunL.op (OpS.pass rfl rfl rfl ?_)
            refine RunL.op (OpS.pass rfl rfl rfl ?_)
            refine RunL.op (OpS.pass rfl rfl rfl ?_)
            refine RunL.op (OpS.pass rfl rfl rfl ?_)
            refine RunL.op (OpS.pass rfl rfl rfl ?_)
            refine RunL.op (OpS.pass rfl rfl rfl ?_)
            refine RunL.op (OpS.pass rfl rfl rfl ?_)
            refine RunL.op (OpS.pick rfl rfl rfl rfl ?_)
            refine RunL.op (OpS.as rfl rfl rfl ?_)
            refine RunL.nil ?_
            refine Run.slim [(2, .bool false)] ⟨rfl, trivial⟩ ?_
            refine Run.retP rfl (.tmp rfl .nil) ?_
            cases hF
            exact Post.mk' ⟨rfl, rfl, rfl, rfl⟩ (h5.picks .nil) .nil
        ·
          refine RunL.op (OpS.pass rfl rfl rfl ?_)
          refine RunL.op (OpS.pass rfl rfl rfl ?_)
          refine RunL.op (OpS.pass rfl rfl rfl ?_)
          refine RunL.op (OpS.pass rfl rfl rfl ?_)
          refine RunL.op (OpS.pick rfl rfl rfl rfl ?_)
          refine RunL.op (OpS.mv rfl rfl rfl ?_)
          refine RunL.op (OpS.pass rfl rfl rfl ?_)
          refine RunL.op (OpS.pass rfl rfl rfl ?_)
          refine RunL.op (OpS.pass rfl rfl rfl ?_)
          refine RunL.op (OpS.pass rfl rfl rfl ?_)
          refine RunL.op (OpS.pass rfl rfl rfl ?_)
          refine RunL.op (OpS.pass rfl rfl rfl ?_)
          refine RunL.op (OpS.pass rfl rfl rfl ?_)
          refine RunL.op (OpS.pass rfl rfl rfl ?_)
          refine RunL.op (OpS.pick rfl rfl rfl rfl ?_)
          refine RunL.op (OpS.as rfl rfl rfl ?_)
          refine RunL.nil ?_
          refine Run.slim [(2, .bool false)] ⟨rfl, trivial⟩ ?_
          refine Run.retP rfl (.tmp rfl .nil) ?_
          cases hF
          exact Post.mk' ⟨rfl, rfl, rfl, rfl⟩ (h4.picks .nil) .nil
      ·
        refine RunL.op (OpS.pass rfl rfl rfl ?_)
        refine RunL.op (OpS.pass rfl rfl rfl ?_)
        refine RunL.op (OpS.pass rfl rfl rfl ?_)
        refine RunL.op (OpS.pick rfl rfl rfl rfl ?_)
        refine RunL.op (OpS.mv rfl rfl rfl ?_)
        refine RunL.op (OpS.pass rfl rfl rfl ?_)
        refine RunL.op (OpS.pass rfl rfl rfl ?_)
        refine RunL.op (OpS.pass rfl rfl rfl ?_)
        refine RunL.op (OpS.pass rfl rfl rfl ?_)
        refine RunL.op (OpS.pick rfl rfl rfl rfl ?_)
        refine RunL.op (OpS.mv rfl rfl rfl ?_)
        refine RunL.op (OpS.pass rfl rfl rfl ?_)
        refine RunL.op (OpS.pass rfl rfl rfl ?_)
        refine RunL.op (OpS.pass rfl rfl rfl ?_)
        refine RunL.op (OpS.pass rfl rfl rfl ?_)
        refine RunL.op (OpS.pass rfl rfl rfl ?_)
        refine RunL.op (OpS.pass rfl rfl rfl ?_)
        refine RunL.op (OpS.pass rfl rfl rfl ?_)
        refine RunL.op (OpS.pass rfl rfl rfl ?_)
        refine RunL.op (OpS.pick rfl rfl rfl rfl ?_)
        refine RunL.op (OpS.as rfl rfl rfl ?_)
        refine RunL.nil ?_
        refine Run.slim [(2, .bool false)] ⟨rfl, trivial⟩ ?_
        refine Run.retP rfl (.tmp rfl .nil) ?_
        cases hF
        exact Post.mk' ⟨rfl, rfl, rfl, rfl⟩ (h4.picks .nil) .nil
  ·
    refine RunL.caseb hF (fun e9 hF => ?_) (fun e9 hF => ?_)
    ·
      refine RunL.op (OpS.pass rfl rfl rfl ?_)
      refine RunL.op (OpS.pass rfl rfl rfl ?_)
      refine RunL.op (OpS.pass rfl rfl rfl ?_)
      refine RunL.op (OpS.pass rfl rfl rfl ?_)
      refine RunL.op (OpS.pick rfl rfl rfl rfl ?_)
      refine RunL.op (OpS.mv rfl rfl rfl ?_)
      refine RunL.op (OpS.pass rfl rfl rfl ?_)
      refine RunL.op (OpS.pass rfl rfl rfl ?_)
      refine RunL.op (OpS.pass rfl rfl rfl ?_)
      refine RunL.op (OpS.pick rfl rfl rfl rfl ?_)
      refine RunL.op (OpS.mv rfl rfl rfl ?_)
      refine RunL.op (OpS.pass rfl rfl rfl ?_)
      refine RunL.op (OpS.pass rfl rfl rfl ?_)
      refine RunL.op (OpS.pass rfl rfl rfl ?_)
      refine RunL.op (OpS.pass rfl rfl rfl ?_)
      refine RunL.op (OpS.pick rfl rfl rfl rfl ?_)
      refine RunL.op (OpS.mv rfl rfl rfl ?_)
      refine RunL.op (OpS.pass rfl rfl rfl ?_)
      refine RunL.op (OpS.pass rfl rfl rfl ?_)
      refine RunL.op (OpS.pass rfl rfl rfl ?_)
      refine RunL.op (OpS.pass rfl rfl rfl ?_)
      refine RunL.op (OpS.pick rfl rfl rfl rfl ?_)
      refine RunL.nil ?_
      refine Run.slim [(29, .bool true), (1, u1)] ⟨rfl, rfl, trivial⟩ ?_
      refine Run.slim [(1, u1), (29, .bool true)] ⟨rfl, rfl, trivial⟩ ?_
      exact hj1 (true) _ _ ⟨rfl, (h3.facts .nil).picks (.cons .z .nil)⟩ hF
    ·
      refine RunL.op (OpS.fbox (o3 := 1) h3 .z PA.z fa24_1 rfl rfl rfl rfl ?_)
      refine RunL.op (OpS.loadBi h3 .z PA.a (Get.fld Message_.f1) ty5 rfl rfl rfl ?_)
      obtain ⟨y3, e10, hF⟩ := bindP_use hF
      refine RunL.op (OpS.callP h3 Try.func45 rfl rfl rfl rfl (vs := [.int .u8 a0.From]) rfl (message_address_ok e10) .nil ?_)
      rintro _ w5 _ _ _ ⟨rfl, rfl, rfl, rfl⟩ h9
      have h10 := h9 rfl rfl
      simp only [List.cons_append, List.nil_append] at h10
      refine RunL.op (OpS.not rfl rfl rfl ?_)
      refine RunL.op (OpS.pick rfl rfl rfl rfl ?_)
      refine RunL.op (OpS.mv rfl rfl rfl ?_)
      refine RunL.caseb hF (fun e11 hF => ?_) (fun e11 hF => ?_)
      ·
        refine RunL.op (OpS.pass rfl rfl rfl ?_)
        refine RunL.op (OpS.pass rfl rfl rfl ?_)
        refine RunL.op (OpS.pass rfl rfl rfl ?_)
        refine RunL.op (OpS.pick rfl rfl rfl rfl ?_)
        refine RunL.op (OpS.mv rfl rfl rfl ?_)
        refine RunL.op (OpS.pass rfl rfl rfl ?_)
        refine RunL.op (OpS.pass rfl rfl rfl ?_)
        refine RunL.op (OpS.pass rfl rfl rfl ?_)
        refine RunL.op (OpS.pass rfl rfl rfl ?_)
        refine RunL.op (OpS.pick rfl rfl rfl rfl ?_)
        refine RunL.op (OpS.mv rfl rfl rfl ?_)
        refine RunL.op (OpS.pass rfl rfl rfl ?_)
        refine RunL.op (OpS.pass rfl rfl rfl ?_)
        refine RunL.op (OpS.pass rfl rfl rfl ?_)
        refine RunL.op (OpS.pass rfl rfl rfl ?_)
        refine RunL.op (OpS.pick rfl rfl rfl rfl ?_)
        refine RunL.nil ?_
        refine Run.slim [(29, .bool true), (1, u1)] ⟨rfl, rfl, trivial⟩ ?_
        refine Run.slim [(1, u1), (29, .bool true)] ⟨rfl, rfl, trivial⟩ ?_
        exact hj1 (true) _ _ ⟨rfl, (h10.facts .nil).picks (.cons .z .nil)⟩ hF
      ·
        refine RunL.op (OpS.fbox (o3 := 2) h10 .z PA.z fa24_2 rfl rfl rfl rfl ?_)
        refine RunL.op (OpS.loadBi h10 .z PA.a (Get.fld Message_.f2) ty5 rfl rfl rfl ?_)
        refine RunL.op (OpS.bin rfl rfl rfl rfl rfl ?_)
        refine RunL.op (OpS.pick rfl rfl rfl rfl ?_)
        refine RunL.op (OpS.mv rfl rfl rfl ?_)
        refine RunL.caseb hF (fun e12 hF => ?_) (fun e12 hF => ?_)
        ·
          refine RunL.op (OpS.pass rfl rfl rfl ?_)
          refine RunL.op (OpS.pass rfl rfl rfl ?_)
          refine RunL.op (OpS.pass rfl rfl rfl ?_)
          refine RunL.op (OpS.pass rfl rfl rfl ?_)
          refine RunL.op (OpS.pick rfl rfl rfl rfl ?_)
          refine RunL.op (OpS.mv rfl rfl rfl ?_)
          refine RunL.op (OpS.pass rfl rfl rfl ?_)
          refine RunL.op (OpS.pass rfl rfl rfl ?_)
          refine RunL.op (OpS.pass rfl rfl rfl ?_)
          refine RunL.op (OpS.pass rfl rfl rfl ?_)
          refine RunL.op (OpS.pick rfl rfl rfl rfl ?_)
          refine RunL.nil ?_
          refine Run.slim [(29, .bool true), (1, u1)] ⟨rfl, rfl, trivial⟩ ?_
          refine Run.slim [(1, u1), (29, .bool true)] ⟨rfl, rfl, trivial⟩ ?_
          exact hj1 (true) _ _ ⟨rfl, (h10.facts .nil).picks (.cons .z .nil)⟩ hF
        ·
          refine RunL.op (OpS.fbox (o3 := 4) h10 .z PA.z fa24_4 rfl rfl rfl rfl ?_)
          refine RunL.op (OpS.loadBi h10 .z PA.a (Get.fld Message_.f4) ty3 rfl rfl rfl ?_)
          obtain ⟨y4, e13, hF⟩ := bindP_use hF
          refine RunL.op (OpS.callP h10 Try.func46 rfl rfl rfl rfl (vs := [.int .i64 a0.ToUnit]) rfl (message_unit_ok e13) .nil ?_)
          rintro _ w6 _ _ _ ⟨rfl, rfl, rfl, rfl⟩ h11
          have h12 := h11 rfl rfl
          simp only [List.cons_append, List.nil_append] at h12
          refine RunL.op (OpS.not rfl rfl rfl ?_)
          refine RunL.op (OpS.pick rfl rfl rfl rfl ?_)
          refine RunL.op (OpS.mv rfl rfl rfl ?_)
          refine RunL.caseb hF (fun e14 hF => ?_) (fun e14 hF => ?_)
          ·
            refine RunL.op (OpS.pass rfl rfl rfl ?_)
            refine RunL.op (OpS.pass rfl rfl rfl ?_)
            refine RunL.op (OpS.pass rfl rfl rfl ?_)
            refine RunL.op (OpS.pass rfl rfl rfl ?_)
            refine RunL.op (OpS.pick rfl rfl rfl rfl ?_)
            refine RunL.nil ?_
            refine Run.slim [(29, .bool true), (1, u1)] ⟨rfl, rfl, trivial⟩ ?_
            refine Run.slim [(1, u1), (29, .bool true)] ⟨rfl, rfl, trivial⟩ ?_
            exact hj1 (true) _ _ ⟨rfl, (h12.facts .nil).picks (.cons .z .nil)⟩ hF
          ·
            refine RunL.op (OpS.fbox (o3 := 5) h12 .z PA.z fa24_5 rfl rfl rfl rfl ?_)
            refine RunL.op (OpS.loadBi h12 .z PA.a (Get.fld Message_.f5) ty3 rfl rfl rfl ?_)
            obtain ⟨y5, e15, hF⟩ := bindP_use hF
            refine RunL.op (OpS.callP h12 Try.func46 rfl rfl rfl rfl (vs := [.int .i64 a0.FromUnit]) rfl (message_unit_ok e15) .nil ?_)
            rintro _ w7 _ _ _ ⟨rfl, rfl, rfl, rfl⟩ h13
            have h14 := h13 rfl rfl
            simp only [List.cons_append, List.nil_append] at h14
            refine RunL.op (OpS.not rfl rfl rfl ?_)
            refine RunL.op (OpS.pick rfl rfl rfl rfl ?_)
            refine RunL.nil ?_
            refine Run.slim [(29, .bool (!y5)), (1, u1)] ⟨rfl, rfl, trivial⟩ ?_
            refine Run.slim [(1, u1), (29, .bool (!y5))] ⟨rfl, rfl, trivial⟩ ?_
            exact hj1 (!y5) _ _ ⟨rfl, (h14.facts .nil).picks (.cons .z .nil)⟩ hF
theorem slices_Clone_byte_byte_ok {fuel : Nat} {a0 : List Int} {y : (List Int)} (hF : slices_Clone_byte_byte fuel a0 = some y) {w : World} {v0 : Value} :
    Spec Try.prog 49 [v0].toArray w [(false, .val (Rep.slice (Rep.int .u8)) v0 a0)] [] (fun v Γr Ωr Ωo => ∃ u0 : Value, v = u0 ∧ Γr = [] ∧ Ωr = [(true, .slice 5 (Rep.int .u8) u0 y)] ∧ Ωo = []) := by
  refine Spec.of (L := [(0, v0)]) Try.func49 rfl ⟨rfl, trivial⟩ rfl (fun e h => ?_)
  unfold slices_Clone_byte_byte at hF
  refine Run.seq ?_
  refine Run.reg ?_
  refine RunL.op (OpS.as rfl rfl rfl ?_)
  refine RunL.nil ?_
  refine Run.slim [(0, v0)] ⟨rfl, trivial⟩ ?_
  refine Run.seq ?_
  refine Run.seq ?_
  refine Run.reg ?_
  refine RunL.op (OpS.mv rfl rfl rfl ?_)
  refine RunL.op (OpS.snil h Try.underlying22 rfl rfl rfl (V.at .z) (fun b1 hb1 => ?_))
  refine RunL.nil ?_
  refine Run.slim [(4, .bool b1), (0, v0)] ⟨rfl, rfl, trivial⟩ ?_
  cases b1
  ·
    refine Run.condF rfl ?_
    refine Run.skip ?_
    refine Run.seq ?_
    refine Run.reg ?_
    refine RunL.op (OpS.litO (r := (Rep.int .u8)) (f := true) h Try.underlying22 ti5 rfl rfl rfl rfl rfl .nil rfl rfl (fun u1 w1 h1 => ?_))
    refine RunL.op (OpS.mv rfl rfl rfl ?_)
    obtain ⟨x1, e1, hF⟩ := bindP_use hF
    refine RunL.op (OpS.app (f' := false) h1 .z Try.underlying22 ti5 rfl rfl rfl rfl rfl rfl rfl (V.at .z) (.inr Pure.int) e1 (fun u2 w2 h2 => ?_))
    refine RunL.op (OpS.as rfl rfl rfl ?_)
    refine RunL.nil ?_
    refine Run.slim [(2, u2)] ⟨rfl, trivial⟩ ?_
    refine Run.retP rfl (.tmp rfl .nil) ?_
    cases hF
    exact Post.mk' ⟨u2, rfl, rfl, rfl, rfl⟩ (h2.picks (.cons .z .nil)) .nil
  ·
    obtain rfl := hb1 rfl
    have hF : some ([] : List Int) = some y := by simpa [bindP, app] using hF
    refine Run.condT rfl ?_
    refine Run.seq ?_
    refine Run.reg ?_
    refine RunL.op (OpS.as rfl rfl rfl ?_)
    refine RunL.nil ?_
    refine Run.slim [(2, .slice none 0 0)] ⟨rfl, trivial⟩ ?_
    have h3 := St.nil 5 (Rep.int .u8) h
    refine Run.retP rfl (.tmp rfl .nil) ?_
    cases hF
    exact Post.mk' ⟨(.slice none 0 0), rfl, rfl, rfl, rfl⟩ (h3.picks (.cons .z .nil)) .nil
theorem checksum_Sum8_ok {fuel : Nat} {a0 : List Int} {y : Int} (hF : checksum_Sum8 fuel a0 = some y) {w : World} {v0 : Value} :
    Spec Try.prog 64 [v0].toArray w [(false, .val (Rep.slice (Rep.int .u8)) v0 a0)] [] (fun v Γr Ωr Ωo => v = .int .u8 y ∧ Γr = [] ∧ Ωr = [] ∧ Ωo = []) := by
  refine Spec.of (L := [(0, v0)]) Try.func64 rfl ⟨rfl, trivial⟩ rfl (fun e h => ?_)
  unfold checksum_Sum8 at hF
  refine Run.seq ?_
  refine Run.reg ?_
  refine RunL.op (OpS.as rfl rfl rfl ?_)
  refine RunL.nil ?_
  refine Run.slim [(0, v0)] ⟨rfl, trivial⟩ ?_
  refine Run.seq ?_
  refine Run.reg ?_
  refine RunL.op (OpS.as rfl rfl rfl ?_)
  refine RunL.nil ?_
  refine Run.seq ?_
  refine Run.seq ?_
  refine Run.reg ?_
  refine RunL.op (OpS.mv rfl rfl rfl ?_)
  refine RunL.op (OpS.len h Try.underlying22 rfl rfl rfl (V.at .z) ?_)
  refine RunL.op (OpS.mv rfl rfl rfl ?_)
  refine RunL.nil ?_
  refine Run.slim [(8, .int .i64 0), (7, .int .i64 (a0.length : Int)), (6, v0), (3, .int .u8 0)] ⟨rfl, rfl, rfl, rfl, trivial⟩ ?_
  refine Run.block ?_
  refine Run.slim [(3, .int .u8 0), (6, v0), (7, .int .i64 (a0.length : Int)), (8, .int .i64 0)] ⟨rfl, rfl, rfl, rfl, trivial⟩ ?_
  refine Run.loopP (σ := (Int × Int)) (fun s_ L_ w_ => L_ = [(3, .int .u8 s_.1), (6, v0), (7, .int .i64 (a0.length : Int)), (8, .int .i64 s_.2)] ∧ St e w_ [(false, .val (Rep.slice (Rep.int .u8)) v0 a0)] []) hF ⟨rfl, (h.facts (.atm .z .nil)).picks .nil⟩ (fun k1 hk1 s1 _ w1 hI hF => ?_)
  obtain ⟨rfl, h1⟩ := hI
  refine Run.seq ?_
  refine Run.reg ?_
  refine RunL.op (OpS.bin rfl rfl rfl rfl rfl ?_)
  refine RunL.nil ?_
  refine Run.seq ?_
  refine Run.ite rfl hF (fun e1 hF => ?_) (fun e1 hF => ?_)
  ·
    refine Run.skip ?_
    refine Run.seq ?_
    refine Run.block ?_
    refine Run.seq ?_
    refine Run.reg ?_
    obtain ⟨x1, e2, hF⟩ := bindP_use hF
    refine RunL.op (OpS.iptr h1 Try.underlying22 ty5 rfl rfl rfl rfl (V.at .z) e2 (fun u1 h2 => ?_))
    refine RunL.op (OpS.loadi h2 ty5 rfl rfl rfl .z ?_)
    refine RunL.op (OpS.as rfl rfl rfl ?_)
    refine RunL.nil ?_
    refine Run.slim [(5, .int .u8 x1), (3, .int .u8 s1.1), (6, v0), (7, .int .i64 (a0.length : Int)), (8, .int .i64 s1.2)] ⟨rfl, rfl, rfl, rfl, rfl, trivial⟩ ?_
    refine Run.reg ?_
    refine RunL.op (OpS.mv rfl rfl rfl ?_)
    refine RunL.op (OpS.mv rfl rfl rfl ?_)
    refine RunL.op (OpS.bin rfl rfl rfl rfl rfl ?_)
    refine RunL.op (OpS.as rfl rfl rfl ?_)
    obtain ⟨x2, e3, hF⟩ := letP_use hF
    refine RunL.name e3 ?_
    refine RunL.nil ?_
    refine Run.slim [(3, .int .u8 x2), (6, v0), (7, .int .i64 (a0.length : Int)), (8, .int .i64 s1.2)] ⟨rfl, rfl, rfl, rfl, trivial⟩ ?_
    refine Run.endBlock ?_
    refine Run.reg ?_
    refine RunL.op (OpS.bin rfl rfl rfl rfl rfl ?_)
    refine RunL.op (OpS.mv rfl rfl rfl ?_)
    refine RunL.nil ?_
    refine Run.slim [(8, .int .i64 (IntKind.i64.wrap (s1.2 + 1))), (3, .int .u8 x2), (6, v0), (7, .int .i64 (a0.length : Int))] ⟨rfl, rfl, rfl, rfl, trivial⟩ ?_
    refine Run.slim [(3, .int .u8 x2), (6, v0), (7, .int .i64 (a0.length : Int)), (8, .int .i64 (IntKind.i64.wrap (s1.2 + 1)))] ⟨rfl, rfl, rfl, rfl, trivial⟩ ?_
    exact hk1 (x2, (IntKind.i64.wrap (s1.2 + 1))) _ _ ⟨rfl, (h2.facts (.atm (.s .z) .nil)).picks .nil⟩ hF
  ·
    refine Run.exit rfl ?_
    refine Run.seq ?_
    refine Run.reg ?_
    refine RunL.op (OpS.mv rfl rfl rfl ?_)
    refine RunL.op (OpS.neg rfl rfl rfl ?_)
    refine RunL.op (OpS.as rfl rfl rfl ?_)
    obtain ⟨x3, e4, hF⟩ := letP_use hF
    refine RunL.name e4 ?_
    refine RunL.nil ?_
    refine Run.slim [(2, .int .u8 x3)] ⟨rfl, trivial⟩ ?_
    refine Run.retP rfl (.tmp rfl .nil) ?_
    cases hF
    exact Post.mk' ⟨rfl, rfl, rfl, rfl⟩ (h1.picks .nil) .nil
theorem checksum_Seal8_ok {fuel : Nat} {a0 : List Int} {y : (List Int)} (hF : checksum_Seal8 fuel a0 = some y) {w : World} {v0 : Value} :
    Spec Try.prog 63 [v0].toArray w [(false, .val (Rep.slice (Rep.int .u8)) v0 a0)] [] (fun v Γr Ωr Ωo => ∃ u0 : Value, v = u0 ∧ Γr = [] ∧ Ωr = [(true, .slice 5 (Rep.int .u8) u0 y)] ∧ Ωo = []) := by
  refine Spec.of (L := [(0, v0)]) Try.func63 rfl ⟨rfl, trivial⟩ rfl (fun e h => ?_)
  unfold checksum_Seal8 at hF
  refine Run.seq ?_
  refine Run.reg ?_
  refine RunL.op (OpS.as rfl rfl rfl ?_)
  refine RunL.nil ?_
  refine Run.slim [(0, v0)] ⟨rfl, trivial⟩ ?_
  refine Run.seq ?_
  refine Run.reg ?_
  refine RunL.op (OpS.mv rfl rfl rfl ?_)
  obtain ⟨y1, e1, hF⟩ := bindP_use hF
  refine RunL.op (OpS.callP h Try.func49 rfl rfl rfl rfl (vs := [v0]) rfl (slices_Clone_byte_byte_ok e1) (.cons (V.at .z) .nil) ?_)
  rintro u1 w1 _ _ _ ⟨_, rfl, rfl, rfl, rfl⟩ h1
  have h2 := h1 rfl rfl
  simp only [List.cons_append, List.nil_append] at h2
  refine RunL.op (OpS.mv rfl rfl rfl ?_)
  obtain ⟨y2, e2, hF⟩ := bindP_use hF
  refine RunL.op (OpS.callP h2 Try.func64 rfl rfl rfl rfl (vs := [v0]) rfl (checksum_Sum8_ok e2) (.cons (V.at .z) .nil) ?_)
  rintro _ w2 _ _ _ ⟨rfl, rfl, rfl, rfl⟩ h3
  have h4 := h3 rfl rfl
  simp only [List.cons_append, List.nil_append] at h4
  refine RunL.op (OpS.lit (r := (Rep.int .u8)) (f := true) h4 Try.underlying22 ti5 rfl rfl rfl rfl rfl (.cons rfl V.int .nil) rfl rfl (fun u2 w3 h5 => ?_))
  obtain ⟨x1, e3, hF⟩ := bindP_use hF
  refine RunL.op (OpS.app (f' := true) h5 .z Try.underlying22 ti5 rfl rfl rfl rfl rfl rfl rfl (V.at .z) (.inr Pure.int) e3 (fun u3 w4 h6 => ?_))
  refine RunL.op (OpS.as rfl rfl rfl ?_)
  refine RunL.nil ?_
  refine Run.slim [(2, u3)] ⟨rfl, trivial⟩ ?_
  refine Run.retP rfl (.tmp rfl .nil) ?_
  cases hF
  exact Post.mk' ⟨u3, rfl, rfl, rfl, rfl⟩ (h6.picks (.cons .z .nil)) .nil
theorem message_encode_ok {fuel : Nat} {a0 : Message_} {y : (List Int)} (hF : message_encode fuel a0 = some y) {w : World} {v0 : Value} :
    Spec Try.prog 43 [v0].toArray w [(false, .val Message_.rep v0 a0)] [] (fun v Γr Ωr Ωo => ∃ u0 : Value, v = u0 ∧ Γr = [] ∧ Ωr = [(true, .slice 5 (Rep.int .u8) u0 y)] ∧ Ωo = []) := by
  refine Spec.of (L := [(0, v0)]) Try.func43 rfl ⟨rfl, trivial⟩ rfl (fun e h => ?_)
  unfold message_encode at hF
  refine Run.seq ?_
  refine Run.reg ?_
  refine RunL.op (OpS.boxF h rfl rfl rfl (V.at .z) (fun u1 w1 h1 => ?_))
  refine RunL.op (OpS.as rfl rfl rfl ?_)
  refine RunL.nil ?_
  refine Run.slim [(1, u1)] ⟨rfl, trivial⟩ ?_
  refine Run.seq ?_
  refine Run.reg ?_
  refine RunL.op (OpS.fbox (o3 := 0) h1 .z PA.z fa24_0 rfl rfl rfl rfl ?_)
  refine RunL.op (OpS.loadBi h1 .z PA.a (Get.fld Message_.f0) ty5 rfl rfl rfl ?_)
  refine RunL.op (OpS.bin rfl rfl rfl rfl rfl ?_)
  refine RunL.op (OpS.fbox (o3 := 2) h1 .z PA.z fa24_2 rfl rfl rfl rfl ?_)
  refine RunL.op (OpS.loadBi h1 .z PA.a (Get.fld Message_.f2) ty5 rfl rfl rfl ?_)
  refine RunL.op (OpS.bin rfl rfl rfl rfl rfl ?_)
  refine RunL.op (OpS.fbox (o3 := 4) h1 .z PA.z fa24_4 rfl rfl rfl rfl ?_)
  refine RunL.op (OpS.loadBi h1 .z PA.a (Get.fld Message_.f4) ty3 rfl rfl rfl ?_)
  refine RunL.op (OpS.conv Try.underlying3 Try.underlying5 rfl rfl rfl ?_)
  refine RunL.op (OpS.bin rfl rfl rfl rfl rfl ?_)
  refine RunL.op (OpS.lit (r := (Rep.int .u8)) (f := true) h1 Try.underlying22 ti5 rfl rfl rfl rfl rfl (.cons rfl V.int (.cons rfl V.int .nil)) rfl rfl (fun u2 w2 h2 => ?_))
  obtain ⟨y1, e1, hF⟩ := bindP_use hF
  refine RunL.op (OpS.callP h2 Try.func63 rfl rfl rfl rfl (vs := [u2]) rfl (checksum_Seal8_ok e1) (.cons (V.at .z) .nil) ?_)
  rintro u3 w3 _ _ _ ⟨_, rfl, rfl, rfl, rfl⟩ h3
  have h4 := h3 rfl rfl
  simp only [List.cons_append, List.nil_append] at h4
  refine RunL.op (OpS.as rfl rfl rfl ?_)
  refine RunL.nil ?_
  refine Run.slim [(3, u3), (1, u1)] ⟨rfl, rfl, trivial⟩ ?_
  refine Run.seq ?_
  refine Run.reg ?_
  refine RunL.op (OpS.fbox (o3 := 1) h4 (.s .z) PA.z fa24_1 rfl rfl rfl rfl ?_)
  refine RunL.op (OpS.loadBi h4 (.s .z) PA.a (Get.fld Message_.f1) ty5 rfl rfl rfl ?_)
  refine RunL.op (OpS.bin rfl rfl rfl rfl rfl ?_)
  refine RunL.op (OpS.fbox (o3 := 6) h4 (.s .z) PA.z fa24_6 rfl rfl rfl rfl ?_)
  refine RunL.op (OpS.loadBi h4 (.s .z) PA.a (Get.fld Message_.f6) ty3 rfl rfl rfl ?_)
  refine RunL.op (OpS.bin rfl rfl rfl rfl rfl ?_)
  refine RunL.op (OpS.fbox (o3 := 5) h4 (.s .z) PA.z fa24_5 rfl rfl rfl rfl ?_)
  refine RunL.op (OpS.loadBi h4 (.s .z) PA.a (Get.fld Message_.f5) ty3 rfl rfl rfl ?_)
  refine RunL.op (OpS.bin rfl rfl rfl rfl rfl ?_)
  refine RunL.op (OpS.conv Try.underlying3 Try.underlying5 rfl rfl rfl ?_)
  refine RunL.op (OpS.fbox (o3 := 3) h4 (.s .z) PA.z fa24_3 rfl rfl rfl rfl ?_)
  refine RunL.op (OpS.loadBi h4 (.s .z) PA.a (Get.fld Message_.f3) ty5 rfl rfl rfl ?_)
  refine RunL.op (OpS.litO (r := (Rep.int .u8)) (f := true) h4 Try.underlying22 ti5 rfl rfl rfl rfl rfl (.cons rfl V.int (.cons rfl V.int (.cons rfl V.int .nil))) rfl rfl (fun u4 w4 h5 => ?_))
  refine RunL.op (OpS.as rfl rfl rfl ?_)
  refine RunL.nil ?_
  refine Run.slim [(4, u4), (3, u3), (1, u1)] ⟨rfl, rfl, rfl, trivial⟩ ?_
  refine Run.seq ?_
  refine Run.seq ?_
  refine Run.reg ?_
  refine RunL.op (OpS.loadB h5 (.s (.s .z)) PA.z Get.id ty24 rfl rfl rfl (fun u5 h6 => ?_))
  obtain ⟨y2, e2, hF⟩ := bindP_use hF
  refine RunL.op (OpS.callP h6 Try.func42 rfl rfl rfl rfl (vs := [u5]) rfl (message_request_ok e2) (.cons (V.at .z) .nil) ?_)
  rintro _ w5 _ _ _ ⟨rfl, rfl, rfl, rfl⟩ h7
  have h8 := h7 rfl rfl
  simp only [List.cons_append, List.nil_append] at h8
  refine RunL.op (OpS.not rfl rfl rfl ?_)
  refine RunL.nil ?_
  refine Run.slim [(32, .bool (!y2)), (4, u4), (3, u3), (1, u1)] ⟨rfl, rfl, rfl, rfl, trivial⟩ ?_
  refine Run.join (σ := ((List Int))) (fun s_ L_ w_ => ∃ u0_ : Value, L_ = [(1, u1), (3, u3), (4, u0_)] ∧ St e w_ [] [(false, .box 24 Message_.rep u1 a0), (true, .slice 5 (Rep.int .u8) u3 y1), (true, .slice 5 (Rep.int .u8) u0_ s_)]) hF (fun s1 _ w6 hI hF => ?_) (fun j1 hj1 hF => ?_)
  ·
    obtain ⟨u6, rfl, h9⟩ := hI
    refine Run.seq ?_
    refine Run.reg ?_
    refine RunL.op (OpS.mv rfl rfl rfl ?_)
    refine RunL.op (OpS.mv rfl rfl rfl ?_)
    refine RunL.op (OpS.fbox (o3 := 8) h9 .z PA.z fa24_8 rfl rfl rfl rfl ?_)
    refine RunL.op (OpS.loadB h9 .z PA.a (Get.fld Message_.f8) ty22 rfl rfl rfl (fun u7 h10 => ?_))
    obtain ⟨x1, e3, hF⟩ := bindP_use hF
    refine RunL.op (OpS.app (f' := false) h10 (.s (.s .z)) Try.underlying22 ti5 rfl rfl rfl rfl rfl rfl rfl (V.at .z) (.inr Pure.int) e3 (fun u8 w7 h11 => ?_))
    obtain ⟨y3, e4, hF⟩ := bindP_use hF
    refine RunL.op (OpS.callP h11 Try.func63 rfl rfl rfl rfl (vs := [u8]) rfl (checksum_Seal8_ok e4) (.own .z .nil) ?_)
    rintro u9 w8 _ _ _ ⟨_, rfl, rfl, rfl, rfl⟩ h12
    have h13 := h12 rfl rfl
    simp only [List.cons_append, List.nil_append] at h13
    have h14 := (h13.pick .z).freeze
    obtain ⟨x2, e5, hF⟩ := bindP_use hF
    refine RunL.op (OpS.app (f' := true) h14 (.s (.s .z)) Try.underlying22 ti5 rfl rfl rfl rfl rfl rfl rfl (V.at .z) (.inr Pure.int) e5 (fun u10 w9 h15 => ?_))
    refine RunL.op (OpS.as rfl rfl rfl ?_)
    refine RunL.nil ?_
    refine Run.slim [(2, u10)] ⟨rfl, trivial⟩ ?_
    refine Run.retP rfl (.tmp rfl .nil) ?_
    cases hF
    exact Post.mk' ⟨u10, rfl, rfl, rfl, rfl⟩ (h15.picks (.cons .z .nil)) .nil
  ·
    refine Run.ite rfl hF (fun e6 hF => ?_) (fun e6 hF => ?_)
    ·
      refine Run.reg ?_
      refine RunL.op (OpS.mv rfl rfl rfl ?_)
      refine RunL.op (OpS.fbox (o3 := 7) h8 (.s (.s .z)) PA.z fa24_7 rfl rfl rfl rfl ?_)
      refine RunL.op (OpS.loadBi h8 (.s (.s .z)) PA.a (Get.fld Message_.f7) ty5 rfl rfl rfl ?_)
      refine RunL.op (OpS.lit (r := (Rep.int .u8)) (f := true) h8 Try.underlying22 ti5 rfl rfl rfl rfl rfl (.cons rfl V.int .nil) rfl rfl (fun u11 w10 h16 => ?_))
      obtain ⟨x3, e7, hF⟩ := bindP_use hF
      refine RunL.op (OpS.app (f' := true) h16 .z Try.underlying22 ti5 rfl rfl rfl rfl rfl rfl rfl (V.at .z) (.inr Pure.int) e7 (fun u12 w11 h17 => ?_))
      refine RunL.op (OpS.as rfl rfl rfl ?_)
      refine RunL.nil ?_
      refine Run.slim [(4, u12), (3, u3), (1, u1)] ⟨rfl, rfl, rfl, trivial⟩ ?_
      refine Run.slim [(1, u1), (3, u3), (4, u12)] ⟨rfl, rfl, rfl, trivial⟩ ?_
      exact hj1 (x3) _ _ ⟨u12, rfl, (h17.facts .nil).picks (.cons (.s (.s .z)) (.cons (.s .z) (.cons .z .nil)))⟩ hF
    ·
      refine Run.skip ?_
      refine Run.slim [(1, u1), (3, u3), (4, u4)] ⟨rfl, rfl, rfl, trivial⟩ ?_
      exact hj1 ([(IntKind.u8.wrap (2 * a0.From)), (IntKind.u8.wrap (IntKind.i64.wrap ((IntKind.i64.wrap (4 * a0.Sequence)) + a0.FromUnit))), a0.Command]) _ _ ⟨u4, rfl, (h8.facts .nil).picks (.cons (.s (.s .z)) (.cons (.s .z) (.cons .z .nil)))⟩ hF
theorem message_Request_ok {fuel : Nat} {a0 : Message_} {y : (List Int) × Int} (hF : message_Request fuel a0 = some y) {w : World} {v0 : Value} :
    Spec Try.prog 16 [v0].toArray w [(false, .val Message_.rep v0 a0)] [] (fun v Γr Ωr Ωo => ∃ u0 : Value, v = .tuple #[u0, .int .i64 y.2] ∧ Γr = [] ∧ Ωr = [(true, .slice 5 (Rep.int .u8) u0 y.1)] ∧ Ωo = []) := by
  refine Spec.of (L := [(0, v0)]) Try.func16 rfl ⟨rfl, trivial⟩ rfl (fun e h => ?_)
  unfold message_Request at hF
  refine Run.seq ?_
  refine Run.reg ?_
  refine RunL.op (OpS.boxF h rfl rfl rfl (V.at .z) (fun u1 w1 h1 => ?_))
  refine RunL.op (OpS.as rfl rfl rfl ?_)
  refine RunL.op (OpS.as rfl rfl rfl ?_)
  refine RunL.nil ?_
  refine Run.slim [(1, u1)] ⟨rfl, trivial⟩ ?_
  refine Run.seq ?_
  refine Run.seq ?_
  refine Run.reg ?_
  refine RunL.op (OpS.loadB h1 .z PA.z Get.id ty24 rfl rfl rfl (fun u2 h2 => ?_))
  obtain ⟨y1, e1, hF⟩ := bindP_use hF
  refine RunL.op (OpS.callP h2 Try.func20 rfl rfl rfl rfl (vs := [u2]) rfl (message_Valid_ok e1) (.cons (V.at .z) .nil) ?_)
  rintro _ w2 _ _ _ ⟨rfl, rfl, rfl, rfl⟩ h3
  have h4 := h3 rfl rfl
  simp only [List.cons_append, List.nil_append] at h4
  refine RunL.op (OpS.not rfl rfl rfl ?_)
  refine RunL.op (OpS.mv rfl rfl rfl ?_)
  refine RunL.join (σ := Bool) (fun s_ L_ w_ => L_ = [(1, u1), (11, .bool s_)] ∧ St e w_ [] [(false, .box 24 Message_.rep u1 a0)]) hF (fun s1 _ w3 hI hF => ?_) (fun j1 hj1 hF => ?_)
  ·
    obtain ⟨rfl, h5⟩ := hI
    refine Run.ite rfl hF (fun e2 hF => ?_) (fun e2 hF => ?_)
    ·
      refine Run.seq ?_
      refine Run.reg ?_
      refine RunL.op (OpS.as rfl rfl rfl ?_)
      refine RunL.op (OpS.as rfl rfl rfl ?_)
      refine RunL.nil ?_
      refine Run.slim [(3, .int .i64 1), (2, .slice none 0 0)] ⟨rfl, rfl, trivial⟩ ?_
      have h6 := St.nil 5 (Rep.int .u8) h5
      refine Run.retP rfl (.tmp rfl (.tmp rfl .nil)) ?_
      cases hF
      exact Post.mk' ⟨(.slice none 0 0), rfl, rfl, rfl, rfl⟩ (h6.picks (.cons .z .nil)) .nil
    ·
      refine Run.skip ?_
      refine Run.seq ?_
      refine Run.reg ?_
      refine RunL.op (OpS.loadB h5 .z PA.z Get.id ty24 rfl rfl rfl (fun u3 h7 => ?_))
      obtain ⟨y2, e3, hF⟩ := bindP_use hF
      refine RunL.op (OpS.callP h7 Try.func43 rfl rfl rfl rfl (vs := [u3]) rfl (message_encode_ok e3) (.cons (V.at .z) .nil) ?_)
      rintro u4 w4 _ _ _ ⟨_, rfl, rfl, rfl, rfl⟩ h8
      have h9 := h8 rfl rfl
      simp only [List.cons_append, List.nil_append] at h9
      refine RunL.op (OpS.as rfl rfl rfl ?_)
      refine RunL.op (OpS.as rfl rfl rfl ?_)
      refine RunL.nil ?_
      refine Run.slim [(3, .int .i64 0), (2, u4)] ⟨rfl, rfl, trivial⟩ ?_
      refine Run.retP rfl (.tmp rfl (.tmp rfl .nil)) ?_
      cases hF
      exact Post.mk' ⟨u4, rfl, rfl, rfl, rfl⟩ (h9.picks (.cons .z .nil)) .nil
  ·
    refine RunL.caseb hF (fun e4 hF => ?_) (fun e4 hF => ?_)
    ·
      refine RunL.op (OpS.pass rfl rfl rfl ?_)
      refine RunL.op (OpS.pass rfl rfl rfl ?_)
      refine RunL.op (OpS.pass rfl rfl rfl ?_)
      refine RunL.op (OpS.pick rfl rfl rfl rfl ?_)
      refine RunL.nil ?_
      refine Run.slim [(11, .bool true), (1, u1)] ⟨rfl, rfl, trivial⟩ ?_
      refine Run.slim [(1, u1), (11, .bool true)] ⟨rfl, rfl, trivial⟩ ?_
      exact hj1 (true) _ _ ⟨rfl, (h4.facts .nil).picks (.cons .z .nil)⟩ hF
    ·
      refine RunL.op (OpS.loadB h4 .z PA.z Get.id ty24 rfl rfl rfl (fun u5 h10 => ?_))
      obtain ⟨y3, e5, hF⟩ := bindP_use hF
      refine RunL.op (OpS.callP h10 Try.func42 rfl rfl rfl rfl (vs := [u5]) rfl (message_request_ok e5) (.cons (V.at .z) .nil) ?_)
      rintro _ w5 _ _ _ ⟨rfl, rfl, rfl, rfl⟩ h11
      have h12 := h11 rfl rfl
      simp only [List.cons_append, List.nil_append] at h12
      refine RunL.op (OpS.not rfl rfl rfl ?_)
      refine RunL.op (OpS.pick rfl rfl rfl rfl ?_)
      refine RunL.nil ?_
      refine Run.slim [(11, .bool (!y3)), (1, u1)] ⟨rfl, rfl, trivial⟩ ?_
      refine Run.slim [(1, u1), (11, .bool (!y3))] ⟨rfl, rfl, trivial⟩ ?_
      exact hj1 (!y3) _ _ ⟨rfl, (h12.facts .nil).picks (.cons .z .nil)⟩ hF
theorem ref01_Same_ok {fuel : Nat} {a0 : List Int} {a1 : List Int} {y : Bool} (hF : ref01_Same fuel a0 a1 = some y) {w : World} {v0 v1 : Value} :
    Spec Try.prog 22 [v0, v1].toArray w [(false, .val (Rep.slice (Rep.int .u8)) v0 a0), (false, .val (Rep.slice (Rep.int .u8)) v1 a1)] [] (fun v Γr Ωr Ωo => v = .bool y ∧ Γr = [] ∧ Ωr = [] ∧ Ωo = []) := by
  refine Spec.of (L := [(0, v0), (1, v1)]) Try.func22 rfl ⟨rfl, rfl, trivial⟩ rfl (fun e h => ?_)
  unfold ref01_Same at hF
  refine Run.seq ?_
  refine Run.reg ?_
  refine RunL.op (OpS.as rfl rfl rfl ?_)
  refine RunL.nil ?_
  refine Run.slim [(0, v0), (1, v1)] ⟨rfl, rfl, trivial⟩ ?_
  refine Run.seq ?_
  refine Run.seq ?_
  refine Run.reg ?_
  refine RunL.op (OpS.mv rfl rfl rfl ?_)
  refine RunL.op (OpS.len h Try.underlying22 rfl rfl rfl (V.at .z) ?_)
  refine RunL.op (OpS.mv rfl rfl rfl ?_)
  refine RunL.op (OpS.len h Try.underlying22 rfl rfl rfl (V.at (.s .z)) ?_)
  refine RunL.op (OpS.bin rfl rfl rfl rfl rfl ?_)
  refine RunL.nil ?_
  refine Run.slim [(10, .bool ((a0.length : Int) != (a1.length : Int))), (0, v0), (1, v1)] ⟨rfl, rfl, rfl, trivial⟩ ?_
  refine Run.ite rfl hF (fun e1 hF => ?_) (fun e1 hF => ?_)
  ·
    refine Run.seq ?_
    refine Run.reg ?_
    refine RunL.op (OpS.as rfl rfl rfl ?_)
    refine RunL.nil ?_
    refine Run.slim [(4, .bool false)] ⟨rfl, trivial⟩ ?_
    refine Run.retP rfl (.tmp rfl .nil) ?_
    cases hF
    exact Post.mk' ⟨rfl, rfl, rfl, rfl⟩ (h.picks .nil) .nil
  ·
    refine Run.skip ?_
    refine Run.seq ?_
    refine Run.seq ?_
    refine Run.reg ?_
    refine RunL.op (OpS.as rfl rfl rfl ?_)
    refine RunL.nil ?_
    refine Run.slim [(5, .int .i64 0), (0, v0), (1, v1)] ⟨rfl, rfl, rfl, trivial⟩ ?_
    refine Run.block ?_
    refine Run.slim [(0, v0), (1, v1), (5, .int .i64 0)] ⟨rfl, rfl, rfl, trivial⟩ ?_
    refine Run.loopP (σ := Int) (fun s_ L_ w_ => L_ = [(0, v0), (1, v1), (5, .int .i64 s_)] ∧ St e w_ [(false, .val (Rep.slice (Rep.int .u8)) v0 a0), (false, .val (Rep.slice (Rep.int .u8)) v1 a1)] []) hF ⟨rfl, (h.facts (.atm .z (.atm (.s .z) .nil))).picks .nil⟩ (fun k1 hk1 s1 _ w1 hI hF => ?_)
    obtain ⟨rfl, h1⟩ := hI
    refine Run.seq ?_
    refine Run.seq ?_
    refine Run.reg ?_
    refine RunL.op (OpS.mv rfl rfl rfl ?_)
    refine RunL.op (OpS.mv rfl rfl rfl ?_)
    refine RunL.op (OpS.len h1 Try.underlying22 rfl rfl rfl (V.at .z) ?_)
    refine RunL.op (OpS.bin rfl rfl rfl rfl rfl ?_)
    refine RunL.nil ?_
    refine Run.slim [(14, .bool (decide (s1 < (a0.length : Int)))), (0, v0), (1, v1), (5, .int .i64 s1)] ⟨rfl, rfl, rfl, rfl, trivial⟩ ?_
    refine Run.ite rfl hF (fun e2 hF => ?_) (fun e2 hF => ?_)
    ·
      refine Run.skip ?_
      refine Run.seq ?_
      refine Run.block ?_
      refine Run.seq ?_
      obtain ⟨x1, e3, hF⟩ := bindP_use hF
      obtain ⟨x2, e4, hF⟩ := bindP_use hF
      refine Run.drawV (Ωs := []) [⟨some 17, some (v0), fun _ => [], fun ds_ u_ => [], [], [], none⟩, ⟨some 18, some (.int .i64 s1), fun _ => [], fun ds_ u_ => [], [], [], none⟩, ⟨some 19, none, fun u_ => [(false, .ptr (Rep.int .u8) u_ x1)], fun ds_ u_ => [], [], [], none⟩, ⟨some 20, some (.int .u8 x1), fun _ => [], fun ds_ u_ => [], [], [], none⟩, ⟨some 21, some (v1), fun _ => [], fun ds_ u_ => [], [], [], none⟩, ⟨some 22, some (.int .i64 s1), fun _ => [], fun ds_ u_ => [], [], [], none⟩, ⟨some 23, none, fun u_ => [(false, .ptr (Rep.int .u8) u_ x2)], fun ds_ u_ => [], [], [], none⟩, ⟨some 24, some (.int .u8 x2), fun _ => [], fun ds_ u_ => [], [], [], none⟩, ⟨some 25, some (.bool (x1 != x2)), fun _ => [], fun ds_ u_ => [], [], [], none⟩] [[], [], [0, 1], [2], [], [], [4, 5], [6], [3, 7]] [] [0, 1, 2, 3, 4, 5, 6, 7, 8] Try_mixed rfl rfl rfl h1 (.cons ?_ (.cons ?_ (.cons ?_ (.cons ?_ (.cons ?_ (.cons ?_ (.cons ?_ (.cons ?_ (.cons ?_ .nil))))))))) (fun q1 w hq1 h => ?_)
      · intro q1 w Γx Ωx h
        refine OpS.mv rfl rfl rfl ?_
        exact ⟨undef, rfl, trivial, h⟩
      · intro q1 w Γx Ωx h
        refine OpS.mv rfl rfl rfl ?_
        exact ⟨undef, rfl, trivial, h⟩
      · intro q1 w Γx Ωx h
        refine OpS.iptr h Try.underlying22 ty5 rfl rfl rfl rfl (V.at .z) e3 (fun u h4 => ?_)
        exact ⟨u, rfl, trivial, h4⟩
      · intro q1 w Γx Ωx h
        refine OpS.loadi h ty5 rfl rfl rfl .z ?_
        exact ⟨undef, rfl, trivial, h⟩
      · intro q1 w Γx Ωx h
        refine OpS.mv rfl rfl rfl ?_
        exact ⟨undef, rfl, trivial, h⟩
      · intro q1 w Γx Ωx h
        refine OpS.mv rfl rfl rfl ?_
        exact ⟨undef, rfl, trivial, h⟩
      · intro q1 w Γx Ωx h
        refine OpS.iptr h Try.underlying22 ty5 rfl rfl rfl rfl (V.at (.s .z)) e4 (fun u h5 => ?_)
        exact ⟨u, rfl, trivial, h5⟩
      · intro q1 w Γx Ωx h
        refine OpS.loadi h ty5 rfl rfl rfl .z ?_
        exact ⟨undef, rfl, trivial, h⟩
      · intro q1 w Γx Ωx h
        refine OpS.bin rfl rfl rfl rfl rfl ?_
        exact ⟨undef, rfl, trivial, h⟩
      have h6 : St e w [(false, .ptr (Rep.int .u8) (q1 2) x1), (false, .ptr (Rep.int .u8) (q1 6) x2), (false, .val (Rep.slice (Rep.int .u8)) v0 a0), (false, .val (Rep.slice (Rep.int .u8)) v1 a1)] [] := h
      refine RunL.nil ?_
      refine Run.slim [(25, .bool (x1 != x2)), (0, v0), (1, v1), (5, .int .i64 s1)] ⟨rfl, rfl, rfl, rfl, trivial⟩ ?_
      refine Run.ite rfl hF (fun e5 hF => ?_) (fun e5 hF => ?_)
      ·
        refine Run.seq ?_
        refine Run.reg ?_
        refine RunL.op (OpS.as rfl rfl rfl ?_)
        refine RunL.nil ?_
        refine Run.slim [(4, .bool false)] ⟨rfl, trivial⟩ ?_
        refine Run.retP rfl (.tmp rfl .nil) ?_
        cases hF
        exact Post.mk' ⟨rfl, rfl, rfl, rfl⟩ (h6.picks .nil) .nil
      ·
        refine Run.skip ?_
        refine Run.endBlock ?_
        refine Run.reg ?_
        refine RunL.op (OpS.mv rfl rfl rfl ?_)
        refine RunL.op (OpS.bin rfl rfl rfl rfl rfl ?_)
        refine RunL.op (OpS.as rfl rfl rfl ?_)
        obtain ⟨x3, e6, hF⟩ := letP_use hF
        refine RunL.name e6 ?_
        refine RunL.nil ?_
        refine Run.slim [(5, .int .i64 x3), (0, v0), (1, v1)] ⟨rfl, rfl, rfl, trivial⟩ ?_
        refine Run.slim [(0, v0), (1, v1), (5, .int .i64 x3)] ⟨rfl, rfl, rfl, trivial⟩ ?_
        exact hk1 (x3) _ _ ⟨rfl, (h6.facts (.atm (.s (.s .z)) (.atm (.s (.s (.s .z))) .nil))).picks .nil⟩ hF
    ·
      refine Run.exit rfl ?_
      refine Run.seq ?_
      refine Run.reg ?_
      refine RunL.op (OpS.as rfl rfl rfl ?_)
      refine RunL.nil ?_
      refine Run.slim [(4, .bool true)] ⟨rfl, trivial⟩ ?_
      refine Run.retP rfl (.tmp rfl .nil) ?_
      cases hF
      exact Post.mk' ⟨rfl, rfl, rfl, rfl⟩ (h1.picks .nil) .nil
theorem law23_awake_ok {fuel : Nat}  {y : Bool} (hF : law23_awake fuel  = some y) {w : World} :
    Spec Try.prog 10 [].toArray w [] [] (fun v Γr Ωr Ωo => v = .bool y ∧ Γr = [] ∧ Ωr = [] ∧ Ωo = []) := by
  refine Spec.of (L := []) Try.func10 rfl trivial rfl (fun e h => ?_)
  unfold law23_awake at hF
  refine Run.seq ?_
  refine Run.reg ?_
  refine RunL.op (OpS.as rfl rfl rfl ?_)
  refine RunL.nil ?_
  refine Run.slim [] trivial ?_
  refine Run.seq ?_
  refine Run.reg ?_
  refine RunL.op (OpS.build (f := true) (x' := (⟨16, 64, 6, 1, 0, 0, 3, 0, []⟩ : Message_)) h pl24 ti24 Message_.zr rfl rfl rfl (.cons rfl Message_.f0 rfl V.int (.cons rfl Message_.f1 rfl V.int (.cons rfl Message_.f2 rfl V.int (.cons rfl Message_.f3 rfl V.int (.cons rfl Message_.f6 rfl V.int .nil))))) (fun u1 h1 => ?_))
  obtain ⟨y1, e1, hF⟩ := bindP_use hF
  refine RunL.op (OpS.callP h1 Try.func16 rfl rfl rfl rfl (vs := [u1]) rfl (message_Request_ok e1) (.cons (V.at .z) .nil) ?_)
  rintro _ w1 _ _ _ ⟨u2, rfl, rfl, rfl, rfl⟩ h2
  have h3 := h2 rfl rfl
  simp only [List.cons_append, List.nil_append] at h3
  refine RunL.op (OpS.mv rfl rfl rfl ?_)
  refine RunL.op (OpS.ext rfl rfl rfl rfl ?_)
  refine RunL.op (OpS.ext rfl rfl rfl rfl ?_)
  refine RunL.op (OpS.as rfl rfl rfl ?_)
  have h4 := (h3.pick .z).freeze
  refine RunL.op (OpS.as rfl rfl rfl ?_)
  refine RunL.nil ?_
  refine Run.slim [(2, .int .i64 y1.2), (1, u2)] ⟨rfl, rfl, trivial⟩ ?_
  refine Run.seq ?_
  refine Run.reg ?_
  refine RunL.op (OpS.mv rfl rfl rfl ?_)
  refine RunL.op (OpS.bin rfl rfl rfl rfl rfl ?_)
  refine RunL.op (OpS.mv rfl rfl rfl ?_)
  refine RunL.caseb hF (fun e2 hF => ?_) (fun e2 hF => ?_)
  ·
    refine RunL.op (OpS.mv rfl rfl rfl ?_)
    refine RunL.op (OpS.lit (r := (Rep.int .u8)) (f := true) h4 Try.underlying22 ti5 rfl rfl rfl rfl rfl (.cons rfl V.int (.cons rfl V.int (.cons rfl V.int (.cons rfl V.int (.cons rfl V.int (.cons rfl V.int (.cons rfl V.int .nil))))))) rfl rfl (fun u3 w2 h5 => ?_))
    obtain ⟨y2, e3, hF⟩ := bindP_use hF
    refine RunL.op (OpS.callP h5 Try.func22 rfl rfl rfl rfl (vs := [u2, u3]) rfl (ref01_Same_ok e3) (.cons (V.at (.s .z)) (.cons (V.at .z) .nil)) ?_)
    rintro _ w3 _ _ _ ⟨rfl, rfl, rfl, rfl⟩ h6
    have h7 := h6 rfl rfl
    simp only [List.cons_append, List.nil_append] at h7
    refine RunL.op (OpS.pick rfl rfl rfl rfl ?_)
    refine RunL.op (OpS.as rfl rfl rfl ?_)
    refine RunL.nil ?_
    refine Run.slim [(0, .bool y2)] ⟨rfl, trivial⟩ ?_
    refine Run.retP rfl (.tmp rfl .nil) ?_
    cases hF
    exact Post.mk' ⟨rfl, rfl, rfl, rfl⟩ (h7.picks .nil) .nil
  ·
    refine RunL.op (OpS.pass rfl rfl rfl ?_)
    refine RunL.op (OpS.pass rfl rfl rfl ?_)
    refine RunL.op (OpS.pass rfl rfl rfl ?_)
    refine RunL.op (OpS.pick rfl rfl rfl rfl ?_)
    refine RunL.op (OpS.as rfl rfl rfl ?_)
    refine RunL.nil ?_
    refine Run.slim [(0, .bool false)] ⟨rfl, trivial⟩ ?_
    refine Run.retP rfl (.tmp rfl .nil) ?_
    cases hF
    exact Post.mk' ⟨rfl, rfl, rfl, rfl⟩ (h4.picks .nil) .nil
theorem made_Roll_ok {fuel : Nat} {a0 : List Int} {y : made_Dice} (hF : made_Roll fuel a0 = some y) {w : World} {v0 : Value} :
    Spec Try.prog 11 [v0].toArray w [(false, .val (Rep.slice (Rep.int .i64)) v0 a0)] [] (fun v Γr Ωr Ωo => ∃ u0 : Value, v = u0 ∧ Γr = [] ∧ Ωr = [(false, .box 77 made_Dice.rep u0 y)] ∧ Ωo = []) := by
  refine Spec.of (L := [(0, v0)]) Try.func11 rfl ⟨rfl, trivial⟩ rfl (fun e h => ?_)
  unfold made_Roll at hF
  refine Run.seq ?_
  refine Run.reg ?_
  refine RunL.op (OpS.as rfl rfl rfl ?_)
  refine RunL.nil ?_
  refine Run.slim [(0, v0)] ⟨rfl, trivial⟩ ?_
  refine Run.seq ?_
  refine Run.reg ?_
  refine RunL.op (OpS.mv rfl rfl rfl ?_)
  refine RunL.op (OpS.build (f := false) (x' := (⟨a0, 0⟩ : made_Dice)) h pl77 ti77 made_Dice.zr rfl rfl rfl (.cons rfl made_Dice.f0 rfl (V.at .z) .nil) (fun u1 h1 => ?_))
  refine RunL.op (OpS.boxF h1 rfl rfl rfl (V.at .z) (fun u2 w1 h2 => ?_))
  refine RunL.op (OpS.as rfl rfl rfl ?_)
  refine RunL.nil ?_
  refine Run.slim [(2, u2)] ⟨rfl, trivial⟩ ?_
  refine Run.retP rfl (.tmp rfl .nil) ?_
  cases hF
  exact Post.mk' ⟨u2, rfl, rfl, rfl, rfl⟩ (h2.picks (.cons .z .nil)) .nil
theorem made_Mod_ok {fuel : Nat} {a0 : Int} {a1 : Int} {y : Int} (hF : made_Mod fuel a0 a1 = some y) {w : World} :
    Spec Try.prog 34 [.int .i64 a0, .int .i64 a1].toArray w [] [] (fun v Γr Ωr Ωo => v = .int .i64 y ∧ Γr = [] ∧ Ωr = [] ∧ Ωo = []) := by
  refine Spec.of (L := [(0, .int .i64 a0), (1, .int .i64 a1)]) Try.func34 rfl ⟨rfl, rfl, trivial⟩ rfl (fun e h => ?_)
  unfold made_Mod at hF
  refine Run.seq ?_
  refine Run.reg ?_
  refine RunL.op (OpS.as rfl rfl rfl ?_)
  refine RunL.nil ?_
  refine Run.slim [(0, .int .i64 a0), (1, .int .i64 a1)] ⟨rfl, rfl, trivial⟩ ?_
  refine Run.seq ?_
  refine Run.reg ?_
  refine RunL.op (OpS.mv rfl rfl rfl ?_)
  refine RunL.op (OpS.mv rfl rfl rfl ?_)
  obtain ⟨e1, hF⟩ := chk_use hF
  refine RunL.op (OpS.rem rfl rfl rfl rfl e1 ?_)
  refine RunL.op (OpS.as rfl rfl rfl ?_)
  refine RunL.nil ?_
  refine Run.slim [(0, .int .i64 (Int.tmod a0 a1)), (1, .int .i64 a1)] ⟨rfl, rfl, trivial⟩ ?_
  refine Run.seq ?_
  refine Run.seq ?_
  refine Run.reg ?_
  refine RunL.op (OpS.mv rfl rfl rfl ?_)
  refine RunL.op (OpS.bin rfl rfl rfl rfl rfl ?_)
  refine RunL.nil ?_
  refine Run.slim [(9, .bool (decide ((Int.tmod a0 a1) < 0))), (0, .int .i64 (Int.tmod a0 a1)), (1, .int .i64 a1)] ⟨rfl, rfl, rfl, trivial⟩ ?_
  refine Run.ite rfl hF (fun e2 hF => ?_) (fun e2 hF => ?_)
  ·
    refine Run.reg ?_
    refine RunL.op (OpS.mv rfl rfl rfl ?_)
    refine RunL.op (OpS.mv rfl rfl rfl ?_)
    refine RunL.op (OpS.bin rfl rfl rfl rfl rfl ?_)
    refine RunL.op (OpS.as rfl rfl rfl ?_)
    obtain ⟨x1, e3, hF⟩ := letP_use hF
    refine RunL.name e3 ?_
    refine RunL.nil ?_
    refine Run.slim [(0, .int .i64 x1)] ⟨rfl, trivial⟩ ?_
    refine Run.seq ?_
    refine Run.reg ?_
    refine RunL.op (OpS.mv rfl rfl rfl ?_)
    refine RunL.op (OpS.as rfl rfl rfl ?_)
    refine RunL.nil ?_
    refine Run.slim [(4, .int .i64 x1)] ⟨rfl, trivial⟩ ?_
    refine Run.retP rfl (.tmp rfl .nil) ?_
    cases hF
    exact Post.mk' ⟨rfl, rfl, rfl, rfl⟩ (h.picks .nil) .nil
  ·
    refine Run.skip ?_
    refine Run.seq ?_
    refine Run.reg ?_
    refine RunL.op (OpS.mv rfl rfl rfl ?_)
    refine RunL.op (OpS.as rfl rfl rfl ?_)
    refine RunL.nil ?_
    refine Run.slim [(4, .int .i64 (Int.tmod a0 a1))] ⟨rfl, trivial⟩ ?_
    refine Run.retP rfl (.tmp rfl .nil) ?_
    cases hF
    exact Post.mk' ⟨rfl, rfl, rfl, rfl⟩ (h.picks .nil) .nil
theorem made_Dice_Next_ok {fuel : Nat} {a0 : made_Dice} {a1 : Int} {y : Int × made_Dice} (hF : made_Dice_Next fuel a0 a1 = some y) {w : World} {v0 : Value} :
    Spec Try.prog 14 [v0, .int .i64 a1].toArray w [] [(false, .box 77 made_Dice.rep v0 a0)] (fun v Γr Ωr Ωo => v = .int .i64 y.1 ∧ Γr = [] ∧ Ωr = [] ∧ Ωo = [(false, .box 77 made_Dice.rep v0 y.2)]) := by
  refine Spec.of (L := [(0, v0), (1, .int .i64 a1)]) Try.func14 rfl ⟨rfl, rfl, trivial⟩ rfl (fun e h => ?_)
  unfold made_Dice_Next at hF
  refine Run.seq ?_
  refine Run.reg ?_
  refine RunL.op (OpS.as rfl rfl rfl ?_)
  refine RunL.nil ?_
  refine Run.slim [(0, v0), (1, .int .i64 a1)] ⟨rfl, rfl, trivial⟩ ?_
  refine Run.seq ?_
  refine Run.seq ?_
  refine Run.drawV (Ωs := []) [⟨some 5, some (v0), fun _ => [], fun ds_ u_ => [], [], [], none⟩, ⟨some 6, some (v0), fun _ => [], fun ds_ u_ => [], [], [(0, [])], none⟩, ⟨some 7, some ((padd v0 1)), fun _ => [], fun ds_ u_ => [], [], [(0, [])], none⟩, ⟨some 8, some (.int .i64 a0.At), fun _ => [], fun ds_ u_ => [], [], [(0, [])], none⟩, ⟨some 9, some (v0), fun _ => [], fun ds_ u_ => [], [], [], none⟩, ⟨some 10, some (v0), fun _ => [], fun ds_ u_ => [], [], [(0, [])], none⟩, ⟨some 11, some ((padd v0 0)), fun _ => [], fun ds_ u_ => [], [], [(0, [])], none⟩, ⟨some 12, none, fun u_ => [(false, .val (Rep.slice (Rep.int .i64)) u_ a0.L)], fun ds_ u_ => [], [], [(0, [])], none⟩, ⟨some 13, some (.int .i64 (a0.L.length : Int)), fun _ => [], fun ds_ u_ => [], [], [], none⟩, ⟨some 14, some (.bool (decide (a0.At ≥ (a0.L.length : Int)))), fun _ => [], fun ds_ u_ => [], [], [], none⟩] [[], [0], [1], [2], [], [4], [5], [6], [7], [3, 8]] [[(false, .box 77 made_Dice.rep v0 a0)]] [0, 1, 2, 3, 4, 5, 6, 7, 8, 9, 10] Try_mixed rfl rfl rfl h (.cons ?_ (.cons ?_ (.cons ?_ (.cons ?_ (.cons ?_ (.cons ?_ (.cons ?_ (.cons ?_ (.cons ?_ (.cons ?_ .nil)))))))))) (fun q1 w hq1 h => ?_)
  · intro q1 w Γx Ωx h
    refine OpS.mv rfl rfl rfl ?_
    exact ⟨undef, rfl, trivial, h⟩
  · intro q1 w Γx Ωx h
    have h : St e w ([] ++ Γx) ([(false, .box 77 made_Dice.rep v0 a0)] ++ Ωx) := h
    refine OpS.nchk h .z rfl rfl rfl ?_
    exact ⟨undef, rfl, trivial, h⟩
  · intro q1 w Γx Ωx h
    have h : St e w ([] ++ Γx) ([(false, .box 77 made_Dice.rep v0 a0)] ++ Ωx) := h
    refine OpS.fbox (o3 := 1) h .z PA.z fa77_1 rfl rfl rfl rfl ?_
    exact ⟨undef, rfl, trivial, h⟩
  · intro q1 w Γx Ωx h
    have h : St e w ([] ++ Γx) ([(false, .box 77 made_Dice.rep v0 a0)] ++ Ωx) := h
    refine OpS.loadBi h .z PA.a (Get.fld made_Dice.f1) ty3 rfl rfl rfl ?_
    exact ⟨undef, rfl, trivial, h⟩
  · intro q1 w Γx Ωx h
    refine OpS.mv rfl rfl rfl ?_
    exact ⟨undef, rfl, trivial, h⟩
  · intro q1 w Γx Ωx h
    have h : St e w ([] ++ Γx) ([(false, .box 77 made_Dice.rep v0 a0)] ++ Ωx) := h
    refine OpS.nchk h .z rfl rfl rfl ?_
    exact ⟨undef, rfl, trivial, h⟩
  · intro q1 w Γx Ωx h
    have h : St e w ([] ++ Γx) ([(false, .box 77 made_Dice.rep v0 a0)] ++ Ωx) := h
    refine OpS.fbox (o3 := 0) h .z PA.z fa77_0 rfl rfl rfl rfl ?_
    exact ⟨undef, rfl, trivial, h⟩
  · intro q1 w Γx Ωx h
    have h : St e w ([] ++ Γx) ([(false, .box 77 made_Dice.rep v0 a0)] ++ Ωx) := h
    refine OpS.loadB h .z PA.a (Get.fld made_Dice.f0) ty25 rfl rfl rfl (fun u h2 => ?_)
    exact ⟨u, rfl, trivial, h2⟩
  · intro q1 w Γx Ωx h
    refine OpS.len h Try.underlying25 rfl rfl rfl (V.at .z) ?_
    exact ⟨undef, rfl, trivial, h⟩
  · intro q1 w Γx Ωx h
    refine OpS.bin rfl rfl rfl rfl rfl ?_
    exact ⟨undef, rfl, trivial, h⟩
  have h3 : St e w [(false, .val (Rep.slice (Rep.int .i64)) (q1 7) a0.L)] [(false, .box 77 made_Dice.rep v0 a0)] := h
  refine RunL.nil ?_
  refine Run.slim [(14, .bool (decide (a0.At ≥ (a0.L.length : Int)))), (0, v0), (1, .int .i64 a1)] ⟨rfl, rfl, rfl, trivial⟩ ?_
  refine Run.ite rfl hF (fun e1 hF => ?_) (fun e1 hF => ?_)
  ·
    refine Run.seq ?_
    refine Run.reg ?_
    refine RunL.op (OpS.as rfl rfl rfl ?_)
    refine RunL.nil ?_
    refine Run.slim [(4, .int .i64 0)] ⟨rfl, trivial⟩ ?_
    refine Run.retP rfl (.tmp rfl .nil) ?_
    cases hF
    exact Post.mk' ⟨rfl, rfl, rfl, rfl⟩ (h3.picks (.cons .z .nil)) .nil
  ·
    refine Run.skip ?_
    refine Run.seq ?_
    refine Run.reg ?_
    refine RunL.op (OpS.mv rfl rfl rfl ?_)
    refine RunL.op (OpS.nchk h3 .z rfl rfl rfl ?_)
    refine RunL.op (OpS.fbox (o3 := 1) h3 .z PA.z fa77_1 rfl rfl rfl rfl ?_)
    refine RunL.op (OpS.loadBi h3 .z PA.a (Get.fld made_Dice.f1) ty3 rfl rfl rfl ?_)
    refine RunL.op (OpS.bin rfl rfl rfl rfl rfl ?_)
    refine RunL.op (OpS.nchk h3 .z rfl rfl rfl ?_)
    refine RunL.op (OpS.fbox (o3 := 1) h3 .z PA.z fa77_1 rfl rfl rfl rfl ?_)
    obtain ⟨d1, e2, hF⟩ := letP_use hF
    refine RunL.op (OpS.storeB (f' := true) h3 .z PA.a (Put.of (Put.fld made_Dice.f1) e2) ty3 rfl rfl rfl V.int (.inr rfl) (fun w1 h4 => ?_))
    refine RunL.nil ?_
    refine Run.slim [(0, v0), (1, .int .i64 a1)] ⟨rfl, rfl, trivial⟩ ?_
    refine Run.seq ?_
    obtain ⟨x1, e3, hF⟩ := bindP_use hF
    obtain ⟨y1, e4, hF⟩ := bindP_use hF
    refine Run.drawV (Ωs := []) [⟨some 22, some (v0), fun _ => [], fun ds_ u_ => [], [], [], none⟩, ⟨some 23, some (v0), fun _ => [], fun ds_ u_ => [], [], [(0, [])], none⟩, ⟨some 24, some ((padd v0 0)), fun _ => [], fun ds_ u_ => [], [], [(0, [])], none⟩, ⟨some 25, none, fun u_ => [(false, .val (Rep.slice (Rep.int .i64)) u_ d1.L)], fun ds_ u_ => [], [], [(0, [])], none⟩, ⟨some 26, some (v0), fun _ => [], fun ds_ u_ => [], [], [], none⟩, ⟨some 27, some (v0), fun _ => [], fun ds_ u_ => [], [], [(0, [])], none⟩, ⟨some 28, some ((padd v0 1)), fun _ => [], fun ds_ u_ => [], [], [(0, [])], none⟩, ⟨some 29, some (.int .i64 d1.At), fun _ => [], fun ds_ u_ => [], [], [(0, [])], none⟩, ⟨some 30, some (.int .i64 (IntKind.i64.wrap (d1.At - 1))), fun _ => [], fun ds_ u_ => [], [], [], none⟩, ⟨some 31, none, fun u_ => [(false, .ptr (Rep.int .i64) u_ x1)], fun ds_ u_ => [], [], [], none⟩, ⟨some 32, some (.int .i64 x1), fun _ => [], fun ds_ u_ => [], [], [], none⟩, ⟨some 33, some (.int .i64 a1), fun _ => [], fun ds_ u_ => [], [], [], none⟩, ⟨some 34, some (.int .i64 y1), fun _ => [], fun ds_ u_ => [], [], [], none⟩] [[], [0], [1], [2], [], [4], [5], [6], [7], [3, 8], [9], [], [10, 11]] [[(false, .box 77 made_Dice.rep v0 d1)]] [0, 1, 2, 3, 4, 5, 6, 7, 8, 9, 10, 11, 12, 13] Try_mixed rfl rfl rfl h4 (.cons ?_ (.cons ?_ (.cons ?_ (.cons ?_ (.cons ?_ (.cons ?_ (.cons ?_ (.cons ?_ (.cons ?_ (.cons ?_ (.cons ?_ (.cons ?_ (.cons ?_ .nil))))))))))))) (fun q2 w hq2 h => ?_)
    · intro q2 w Γx Ωx h
      refine OpS.mv rfl rfl rfl ?_
      exact ⟨undef, rfl, trivial, h⟩
    · intro q2 w Γx Ωx h
      have h : St e w ([(false, .val (Rep.slice (Rep.int .i64)) (q1 7) a0.L)] ++ Γx) ([(false, .box 77 made_Dice.rep v0 d1)] ++ Ωx) := h
      refine OpS.nchk h .z rfl rfl rfl ?_
      exact ⟨undef, rfl, trivial, h⟩
    · intro q2 w Γx Ωx h
      have h : St e w ([(false, .val (Rep.slice (Rep.int .i64)) (q1 7) a0.L)] ++ Γx) ([(false, .box 77 made_Dice.rep v0 d1)] ++ Ωx) := h
      refine OpS.fbox (o3 := 0) h .z PA.z fa77_0 rfl rfl rfl rfl ?_
      exact ⟨undef, rfl, trivial, h⟩
    · intro q2 w Γx Ωx h
      have h : St e w ([(false, .val (Rep.slice (Rep.int .i64)) (q1 7) a0.L)] ++ Γx) ([(false, .box 77 made_Dice.rep v0 d1)] ++ Ωx) := h
      refine OpS.loadB h .z PA.a (Get.fld made_Dice.f0) ty25 rfl rfl rfl (fun u h9 => ?_)
      exact ⟨u, rfl, trivial, h9⟩
    · intro q2 w Γx Ωx h
      refine OpS.mv rfl rfl rfl ?_
      exact ⟨undef, rfl, trivial, h⟩
    · intro q2 w Γx Ωx h
      have h : St e w ([(false, .val (Rep.slice (Rep.int .i64)) (q1 7) a0.L)] ++ Γx) ([(false, .box 77 made_Dice.rep v0 d1)] ++ Ωx) := h
      refine OpS.nchk h .z rfl rfl rfl ?_
      exact ⟨undef, rfl, trivial, h⟩
    · intro q2 w Γx Ωx h
      have h : St e w ([(false, .val (Rep.slice (Rep.int .i64)) (q1 7) a0.L)] ++ Γx) ([(false, .box 77 made_Dice.rep v0 d1)] ++ Ωx) := h
      refine OpS.fbox (o3 := 1) h .z PA.z fa77_1 rfl rfl rfl rfl ?_
      exact ⟨undef, rfl, trivial, h⟩
    · intro q2 w Γx Ωx h
      have h : St e w ([(false, .val (Rep.slice (Rep.int .i64)) (q1 7) a0.L)] ++ Γx) ([(false, .box 77 made_Dice.rep v0 d1)] ++ Ωx) := h
      refine OpS.loadBi h .z PA.a (Get.fld made_Dice.f1) ty3 rfl rfl rfl ?_
      exact ⟨undef, rfl, trivial, h⟩
    · intro q2 w Γx Ωx h
      refine OpS.bin rfl rfl rfl rfl rfl ?_
      exact ⟨undef, rfl, trivial, h⟩
    · intro q2 w Γx Ωx h
      refine OpS.iptr h Try.underlying25 ty3 rfl rfl rfl rfl (V.at .z) e3 (fun u h10 => ?_)
      exact ⟨u, rfl, trivial, h10⟩
    · intro q2 w Γx Ωx h
      refine OpS.loadi h ty3 rfl rfl rfl .z ?_
      exact ⟨undef, rfl, trivial, h⟩
    · intro q2 w Γx Ωx h
      refine OpS.mv rfl rfl rfl ?_
      exact ⟨undef, rfl, trivial, h⟩
    · intro q2 w Γx Ωx h
      refine OpS.callP h Try.func34 rfl rfl rfl rfl (vs := [.int .i64 x1, .int .i64 a1]) rfl (made_Mod_ok e4) .nil ?_
      rintro _ w3 _ _ _ ⟨rfl, rfl, rfl, rfl⟩ h11
      have h12 := h11 rfl rfl
      simp only [List.cons_append, List.nil_append] at h12
      exact ⟨undef, rfl, trivial, h12⟩
    have h13 : St e w [(false, .val (Rep.slice (Rep.int .i64)) (q2 3) d1.L), (false, .ptr (Rep.int .i64) (q2 9) x1), (false, .val (Rep.slice (Rep.int .i64)) (q1 7) a0.L)] [(false, .box 77 made_Dice.rep v0 d1)] := h
    refine RunL.op (OpS.as rfl rfl rfl ?_)
    refine RunL.nil ?_
    refine Run.slim [(4, .int .i64 y1)] ⟨rfl, trivial⟩ ?_
    refine Run.retP rfl (.tmp rfl .nil) ?_
    cases hF
    exact Post.mk' ⟨rfl, rfl, rfl, rfl⟩ (h13.picks (.cons .z .nil)) .nil
theorem made_Dice_Bool_ok {fuel : Nat} {a0 : made_Dice} {a1 : Int} {y : Bool × made_Dice} (hF : made_Dice_Bool fuel a0 a1 = some y) {w : World} {v0 : Value} :
    Spec Try.prog 13 [v0, .int .i64 a1].toArray w [] [(false, .box 77 made_Dice.rep v0 a0)] (fun v Γr Ωr Ωo => v = .bool y.1 ∧ Γr = [] ∧ Ωr = [] ∧ Ωo = [(false, .box 77 made_Dice.rep v0 y.2)]) := by
  refine Spec.of (L := [(0, v0), (1, .int .i64 a1)]) Try.func13 rfl ⟨rfl, rfl, trivial⟩ rfl (fun e h => ?_)
  unfold made_Dice_Bool at hF
  refine Run.seq ?_
  refine Run.reg ?_
  refine RunL.op (OpS.as rfl rfl rfl ?_)
  refine RunL.nil ?_
  refine Run.slim [(0, v0), (1, .int .i64 a1)] ⟨rfl, rfl, trivial⟩ ?_
  refine Run.seq ?_
  refine Run.reg ?_
  refine RunL.op (OpS.mv rfl rfl rfl ?_)
  refine RunL.op (OpS.mv rfl rfl rfl ?_)
  obtain ⟨y1, e1, hF⟩ := bindP_use hF
  have h1 := h.front (.cons .z .nil)
  refine RunL.op (OpS.callO h1 Try.func14 rfl rfl rfl rfl (vs := [v0, .int .i64 a1]) rfl (made_Dice_Next_ok e1) rfl .nil ?_)
  rintro _ w1 _ _ _ ⟨rfl, rfl, rfl, rfl⟩ h2
  have h3 := h2
  simp only [List.cons_append, List.nil_append] at h3
  refine RunL.op (OpS.mv rfl rfl rfl ?_)
  refine RunL.op (OpS.bin rfl rfl rfl rfl rfl ?_)
  refine RunL.op (OpS.bin rfl rfl rfl rfl rfl ?_)
  refine RunL.op (OpS.as rfl rfl rfl ?_)
  obtain ⟨x1, e2, hF⟩ := letP_use hF
  refine RunL.nameb e2 ?_
  refine RunL.nil ?_
  refine Run.slim [(4, .bool x1)] ⟨rfl, trivial⟩ ?_
  refine Run.retP rfl (.tmp rfl .nil) ?_
  cases hF
  exact Post.mk' ⟨rfl, rfl, rfl, rfl⟩ (h3.picks (.cons .z .nil)) .nil
theorem made_Dice_Byte_ok {fuel : Nat} {a0 : made_Dice} {y : Int × made_Dice} (hF : made_Dice_Byte fuel a0 = some y) {w : World} {v0 : Value} :
    Spec Try.prog 15 [v0].toArray w [] [(false, .box 77 made_Dice.rep v0 a0)] (fun v Γr Ωr Ωo => v = .int .u8 y.1 ∧ Γr = [] ∧ Ωr = [] ∧ Ωo = [(false, .box 77 made_Dice.rep v0 y.2)]) := by
  refine Spec.of (L := [(0, v0)]) Try.func15 rfl ⟨rfl, trivial⟩ rfl (fun e h => ?_)
  unfold made_Dice_Byte at hF
  refine Run.seq ?_
  refine Run.reg ?_
  refine RunL.op (OpS.as rfl rfl rfl ?_)
  refine RunL.nil ?_
  refine Run.slim [(0, v0)] ⟨rfl, trivial⟩ ?_
  refine Run.seq ?_
  refine Run.reg ?_
  refine RunL.op (OpS.buildA (f := true) (r := (Rep.int .u8)) h Try.underlying78 ti5 rfl ti78 rfl rfl rfl (.cons rfl V.int (.cons rfl V.int (.cons rfl V.int (.cons rfl V.int (.cons rfl V.int (.cons rfl V.int (.cons rfl V.int (.cons rfl V.int .nil)))))))) rfl (fun u1 h1 => ?_))
  refine RunL.op (OpS.alloc h1 ti78 (Zr.of (Zr.arr (Zr.int .u8 0) 8) rfl) rfl rfl (fun u2 w1 h2 => ?_))
  obtain ⟨d1, e1, hF⟩ := letP_use hF
  refine RunL.op (OpS.storeB (f' := true) h2 .z PA.z (Put.of Put.id e1) ty78 rfl rfl rfl (V.at .z) (.inl rfl) (fun w2 h3 => ?_))
  refine RunL.nil ?_
  refine Run.slim [(3, u2), (0, v0)] ⟨rfl, rfl, trivial⟩ ?_
  refine Run.seq ?_
  refine Run.seq ?_
  refine Run.reg ?_
  refine RunL.op (OpS.mv rfl rfl rfl ?_)
  obtain ⟨y1, e2, hF⟩ := bindP_use hF
  have h4 := h3.front (.cons (.s .z) .nil)
  refine RunL.op (OpS.callO h4 Try.func13 rfl rfl rfl rfl (vs := [v0, .int .i64 3]) rfl (made_Dice_Bool_ok e2) rfl .nil ?_)
  rintro _ w3 _ _ _ ⟨rfl, rfl, rfl, rfl⟩ h5
  have h6 := h5
  simp only [List.cons_append, List.nil_append] at h6
  refine RunL.nil ?_
  refine Run.slim [(6, .bool y1.1), (3, u2), (0, v0)] ⟨rfl, rfl, rfl, trivial⟩ ?_
  refine Run.ite rfl hF (fun e3 hF => ?_) (fun e3 hF => ?_)
  ·
    refine Run.seq ?_
    refine Run.reg ?_
    refine RunL.op (OpS.mv rfl rfl rfl ?_)
    obtain ⟨y2, e4, hF⟩ := bindP_use hF
    have h7 := h6.front (.cons .z .nil)
    refine RunL.op (OpS.callO h7 Try.func14 rfl rfl rfl rfl (vs := [v0, .int .i64 8]) rfl (made_Dice_Next_ok e4) rfl .nil ?_)
    rintro _ w4 _ _ _ ⟨rfl, rfl, rfl, rfl⟩ h8
    have h9 := h8
    simp only [List.cons_append, List.nil_append] at h9
    obtain ⟨x1, e5, hF⟩ := bindP_use hF
    obtain ⟨e6, hF⟩ := chk_use hF
    refine RunL.op (OpS.ibox h9 (.s .z) PA.z Try.underlying78 ty5 (Nat.eq_of_beq_eq_true e6) rfl rfl rfl rfl e5 ?_)
    refine RunL.op (OpS.loadBi h9 (.s .z) PA.a (Get.comp Get.id (Get.arr e5)) ty5 rfl rfl rfl ?_)
    refine RunL.op (OpS.as rfl rfl rfl ?_)
    refine RunL.nil ?_
    refine Run.slim [(2, .int .u8 x1)] ⟨rfl, trivial⟩ ?_
    refine Run.retP rfl (.tmp rfl .nil) ?_
    cases hF
    exact Post.mk' ⟨rfl, rfl, rfl, rfl⟩ (h9.picks (.cons .z .nil)) .nil
  ·
    refine Run.skip ?_
    refine Run.seq ?_
    refine Run.reg ?_
    refine RunL.op (OpS.mv rfl rfl rfl ?_)
    obtain ⟨y3, e7, hF⟩ := bindP_use hF
    have h10 := h6.front (.cons .z .nil)
    refine RunL.op (OpS.callO h10 Try.func14 rfl rfl rfl rfl (vs := [v0, .int .i64 256]) rfl (made_Dice_Next_ok e7) rfl .nil ?_)
    rintro _ w5 _ _ _ ⟨rfl, rfl, rfl, rfl⟩ h11
    have h12 := h11
    simp only [List.cons_append, List.nil_append] at h12
    refine RunL.op (OpS.conv Try.underlying3 Try.underlying5 rfl rfl rfl ?_)
    refine RunL.op (OpS.as rfl rfl rfl ?_)
    refine RunL.nil ?_
    refine Run.slim [(2, .int .u8 (IntKind.u8.wrap y3.1))] ⟨rfl, trivial⟩ ?_
    refine Run.retP rfl (.tmp rfl .nil) ?_
    cases hF
    exact Post.mk' ⟨rfl, rfl, rfl, rfl⟩ (h12.picks (.cons .z .nil)) .nil
theorem made_Dice_Bytes_ok {fuel : Nat} {a0 : made_Dice} {a1 : Int} {y : (List Int) × made_Dice} (hF : made_Dice_Bytes fuel a0 a1 = some y) {w : World} {v0 : Value} :
    Spec Try.prog 24 [v0, .int .i64 a1].toArray w [] [(false, .box 77 made_Dice.rep v0 a0)] (fun v Γr Ωr Ωo => ∃ u0 : Value, v = u0 ∧ Γr = [] ∧ Ωr = [(true, .slice 5 (Rep.int .u8) u0 y.1)] ∧ Ωo = [(false, .box 77 made_Dice.rep v0 y.2)]) := by
  refine Spec.of (L := [(0, v0), (1, .int .i64 a1)]) Try.func24 rfl ⟨rfl, rfl, trivial⟩ rfl (fun e h => ?_)
  unfold made_Dice_Bytes at hF
  refine Run.seq ?_
  refine Run.reg ?_
  refine RunL.op (OpS.as rfl rfl rfl ?_)
  refine RunL.nil ?_
  refine Run.slim [(0, v0), (1, .int .i64 a1)] ⟨rfl, rfl, trivial⟩ ?_
  refine Run.seq ?_
  refine Run.reg ?_
  refine RunL.op (OpS.as rfl rfl rfl ?_)
  refine RunL.nil ?_
  refine Run.seq ?_
  refine Run.seq ?_
  refine Run.reg ?_
  refine RunL.op (OpS.mv rfl rfl rfl ?_)
  refine RunL.op (OpS.mv rfl rfl rfl ?_)
  refine RunL.op (OpS.bin rfl rfl rfl rfl rfl ?_)
  obtain ⟨y1, e1, hF⟩ := bindP_use hF
  have h1 := h.front (.cons .z .nil)
  refine RunL.op (OpS.callO h1 Try.func14 rfl rfl rfl rfl (vs := [v0, .int .i64 (IntKind.i64.wrap (a1 + 1))]) rfl (made_Dice_Next_ok e1) rfl .nil ?_)
  rintro _ w1 _ _ _ ⟨rfl, rfl, rfl, rfl⟩ h2
  have h3 := h2
  simp only [List.cons_append, List.nil_append] at h3
  refine RunL.op (OpS.as rfl rfl rfl ?_)
  refine RunL.nil ?_
  refine Run.slim [(6, .int .i64 y1.1), (5, .slice none 0 0), (0, v0)] ⟨rfl, rfl, rfl, trivial⟩ ?_
  refine Run.block ?_
  have h4 := St.nil 5 (Rep.int .u8) h3
  refine Run.slim [(0, v0), (5, (.slice none 0 0)), (6, .int .i64 y1.1)] ⟨rfl, rfl, rfl, trivial⟩ ?_
  refine Run.loopP (σ := (Int × made_Dice × (List Int))) (fun s_ L_ w_ => ∃ u0_ : Value, L_ = [(0, v0), (5, u0_), (6, .int .i64 s_.1)] ∧ St e w_ [] [(false, .box 77 made_Dice.rep v0 s_.2.1), (true, .slice 5 (Rep.int .u8) u0_ s_.2.2)]) hF ⟨(.slice none 0 0), rfl, (h4.facts .nil).picks (.cons (.s .z) (.cons .z .nil))⟩ (fun k1 hk1 s1 _ w2 hI hF => ?_)
  obtain ⟨u1, rfl, h5⟩ := hI
  refine Run.seq ?_
  refine Run.seq ?_
  refine Run.reg ?_
  refine RunL.op (OpS.mv rfl rfl rfl ?_)
  refine RunL.op (OpS.bin rfl rfl rfl rfl rfl ?_)
  refine RunL.nil ?_
  refine Run.slim [(12, .bool (decide (s1.1 > 0))), (0, v0), (5, u1), (6, .int .i64 s1.1)] ⟨rfl, rfl, rfl, rfl, trivial⟩ ?_
  refine Run.ite rfl hF (fun e2 hF => ?_) (fun e2 hF => ?_)
  ·
    refine Run.skip ?_
    refine Run.seq ?_
    refine Run.block ?_
    refine Run.reg ?_
    refine RunL.op (OpS.mv rfl rfl rfl ?_)
    refine RunL.op (OpS.mv rfl rfl rfl ?_)
    obtain ⟨y2, e3, hF⟩ := bindP_use hF
    have h6 := h5.front (.cons .z .nil)
    refine RunL.op (OpS.callO h6 Try.func15 rfl rfl rfl rfl (vs := [v0]) rfl (made_Dice_Byte_ok e3) rfl .nil ?_)
    rintro _ w3 _ _ _ ⟨rfl, rfl, rfl, rfl⟩ h7
    have h8 := h7
    simp only [List.cons_append, List.nil_append] at h8
    refine RunL.op (OpS.lit (r := (Rep.int .u8)) (f := true) h8 Try.underlying22 ti5 rfl rfl rfl rfl rfl (.cons rfl V.int .nil) rfl rfl (fun u2 w4 h9 => ?_))
    obtain ⟨x1, e4, hF⟩ := bindP_use hF
    refine RunL.op (OpS.app (f' := true) h9 (.s .z) Try.underlying22 ti5 rfl rfl rfl rfl rfl rfl rfl (V.at .z) (.inr Pure.int) e4 (fun u3 w5 h10 => ?_))
    refine RunL.op (OpS.as rfl rfl rfl ?_)
    refine RunL.nil ?_
    refine Run.slim [(5, u3), (0, v0), (6, .int .i64 s1.1)] ⟨rfl, rfl, rfl, trivial⟩ ?_
    refine Run.endBlock ?_
    refine Run.reg ?_
    refine RunL.op (OpS.mv rfl rfl rfl ?_)
    refine RunL.op (OpS.bin rfl rfl rfl rfl rfl ?_)
    refine RunL.op (OpS.as rfl rfl rfl ?_)
    obtain ⟨x2, e5, hF⟩ := letP_use hF
    refine RunL.name e5 ?_
    refine RunL.nil ?_
    refine Run.slim [(6, .int .i64 x2), (5, u3), (0, v0)] ⟨rfl, rfl, rfl, trivial⟩ ?_
    refine Run.slim [(0, v0), (5, u3), (6, .int .i64 x2)] ⟨rfl, rfl, rfl, trivial⟩ ?_
    exact hk1 (x2, y2.2, x1) _ _ ⟨u3, rfl, (h10.facts .nil).picks (.cons (.s .z) (.cons .z .nil))⟩ hF
  ·
    refine Run.exit rfl ?_
    refine Run.seq ?_
    refine Run.reg ?_
    refine RunL.op (OpS.mv rfl rfl rfl ?_)
    refine RunL.op (OpS.as rfl rfl rfl ?_)
    refine RunL.nil ?_
    refine Run.slim [(4, u1)] ⟨rfl, trivial⟩ ?_
    refine Run.retP rfl (.tmp rfl .nil) ?_
    cases hF
    exact Post.mk' ⟨u1, rfl, rfl, rfl, rfl⟩ (h5.picks (.cons (.s .z) (.cons .z .nil))) .nil
theorem made_Dice_Message_ok {fuel : Nat} {a0 : made_Dice} {a1 : Bool} {y : Message_ × made_Dice} (hF : made_Dice_Message fuel a0 a1 = some y) {w : World} {v0 : Value} :
    Spec Try.prog 12 [v0, .bool a1].toArray w [] [(false, .box 77 made_Dice.rep v0 a0)] (fun v Γr Ωr Ωo => ∃ u0 : Value, v = u0 ∧ Γr = [(true, .val Message_.rep u0 y.1)] ∧ Ωr = [] ∧ Ωo = [(false, .box 77 made_Dice.rep v0 y.2)]) := by
  refine Spec.of (L := [(0, v0), (1, .bool a1)]) Try.func12 rfl ⟨rfl, rfl, trivial⟩ rfl (fun e h => ?_)
  unfold made_Dice_Message at hF
  refine Run.seq ?_
  refine Run.reg ?_
  refine RunL.op (OpS.alloc h ti24 Message_.zr rfl rfl (fun u1 w1 h1 => ?_))
  refine RunL.nil ?_
  refine Run.seq ?_
  refine Run.reg ?_
  refine RunL.op (OpS.mv rfl rfl rfl ?_)
  obtain ⟨y1, e1, hF⟩ := bindP_use hF
  have h2 := h1.front (.cons (.s .z) .nil)
  refine RunL.op (OpS.callO h2 Try.func14 rfl rfl rfl rfl (vs := [v0, .int .i64 4]) rfl (made_Dice_Next_ok e1) rfl .nil ?_)
  rintro _ w2 _ _ _ ⟨rfl, rfl, rfl, rfl⟩ h3
  have h4 := h3
  simp only [List.cons_append, List.nil_append] at h4
  refine RunL.op (OpS.bin rfl rfl rfl rfl rfl ?_)
  refine RunL.op (OpS.conv Try.underlying3 Try.underlying5 rfl rfl rfl ?_)
  refine RunL.op (OpS.mv rfl rfl rfl ?_)
  obtain ⟨y2, e2, hF⟩ := bindP_use hF
  have h5 := h4.front (.cons .z .nil)
  refine RunL.op (OpS.callO h5 Try.func14 rfl rfl rfl rfl (vs := [v0, .int .i64 4]) rfl (made_Dice_Next_ok e2) rfl .nil ?_)
  rintro _ w3 _ _ _ ⟨rfl, rfl, rfl, rfl⟩ h6
  have h7 := h6
  simp only [List.cons_append, List.nil_append] at h7
  refine RunL.op (OpS.bin rfl rfl rfl rfl rfl ?_)
  refine RunL.op (OpS.conv Try.underlying3 Try.underlying5 rfl rfl rfl ?_)
  refine RunL.op (OpS.mv rfl rfl rfl ?_)
  obtain ⟨y3, e3, hF⟩ := bindP_use hF
  have h8 := h7.front (.cons .z .nil)
  refine RunL.op (OpS.callO h8 Try.func14 rfl rfl rfl rfl (vs := [v0, .int .i64 32]) rfl (made_Dice_Next_ok e3) rfl .nil ?_)
  rintro _ w4 _ _ _ ⟨rfl, rfl, rfl, rfl⟩ h9
  have h10 := h9
  simp only [List.cons_append, List.nil_append] at h10
  refine RunL.op (OpS.bin rfl rfl rfl rfl rfl ?_)
  refine RunL.op (OpS.conv Try.underlying3 Try.underlying5 rfl rfl rfl ?_)
  refine RunL.op (OpS.mv rfl rfl rfl ?_)
  obtain ⟨y4, e4, hF⟩ := bindP_use hF
  have h11 := h10.front (.cons .z .nil)
  refine RunL.op (OpS.callO h11 Try.func15 rfl rfl rfl rfl (vs := [v0]) rfl (made_Dice_Byte_ok e4) rfl .nil ?_)
  rintro _ w5 _ _ _ ⟨rfl, rfl, rfl, rfl⟩ h12
  have h13 := h12
  simp only [List.cons_append, List.nil_append] at h13
  refine RunL.op (OpS.mv rfl rfl rfl ?_)
  obtain ⟨y5, e5, hF⟩ := bindP_use hF
  have h14 := h13.front (.cons .z .nil)
  refine RunL.op (OpS.callO h14 Try.func14 rfl rfl rfl rfl (vs := [v0, .int .i64 4]) rfl (made_Dice_Next_ok e5) rfl .nil ?_)
  rintro _ w6 _ _ _ ⟨rfl, rfl, rfl, rfl⟩ h15
  have h16 := h15
  simp only [List.cons_append, List.nil_append] at h16
  refine RunL.op (OpS.mv rfl rfl rfl ?_)
  obtain ⟨y6, e6, hF⟩ := bindP_use hF
  have h17 := h16.front (.cons .z .nil)
  refine RunL.op (OpS.callO h17 Try.func14 rfl rfl rfl rfl (vs := [v0, .int .i64 4]) rfl (made_Dice_Next_ok e6) rfl .nil ?_)
  rintro _ w7 _ _ _ ⟨rfl, rfl, rfl, rfl⟩ h18
  have h19 := h18
  simp only [List.cons_append, List.nil_append] at h19
  refine RunL.op (OpS.mv rfl rfl rfl ?_)
  obtain ⟨y7, e7, hF⟩ := bindP_use hF
  have h20 := h19.front (.cons .z .nil)
  refine RunL.op (OpS.callO h20 Try.func14 rfl rfl rfl rfl (vs := [v0, .int .i64 64]) rfl (made_Dice_Next_ok e7) rfl .nil ?_)
  rintro _ w8 _ _ _ ⟨rfl, rfl, rfl, rfl⟩ h21
  have h22 := h21
  simp only [List.cons_append, List.nil_append] at h22
  refine RunL.op (OpS.mv rfl rfl rfl ?_)
  obtain ⟨y8, e8, hF⟩ := bindP_use hF
  have h23 := h22.front (.cons .z .nil)
  refine RunL.op (OpS.callO h23 Try.func24 rfl rfl rfl rfl (vs := [v0, .int .i64 8]) rfl (made_Dice_Bytes_ok e8) rfl .nil ?_)
  rintro u2 w9 _ _ _ ⟨_, rfl, rfl, rfl, rfl⟩ h24
  have h25 := h24
  simp only [List.cons_append, List.nil_append] at h25
  have h26 := (h25.pick .z).freeze
  refine RunL.op (OpS.build (f := true) (x' := (⟨(IntKind.u8.wrap (IntKind.i64.wrap (16 + y1.1))), (IntKind.u8.wrap (IntKind.i64.wrap (64 + y2.1))), (IntKind.u8.wrap (IntKind.i64.wrap (2 * y3.1))), y4.1, y5.1, y6.1, y7.1, 0, y8.1⟩ : Message_)) h26 pl24 ti24 Message_.zr rfl rfl rfl (.cons rfl Message_.f0 rfl V.int (.cons rfl Message_.f1 rfl V.int (.cons rfl Message_.f2 rfl V.int (.cons rfl Message_.f3 rfl V.int (.cons rfl Message_.f4 rfl V.int (.cons rfl Message_.f5 rfl V.int (.cons rfl Message_.f6 rfl V.int (.cons rfl Message_.f8 rfl (V.at .z) .nil)))))))) (fun u3 h27 => ?_))
  refine RunL.op (OpS.alloc h27 ti24 Message_.zr rfl rfl (fun u4 w10 h28 => ?_))
  refine RunL.op (OpS.storeB (f' := true) h28 .z PA.z Put.id ty24 rfl rfl rfl (V.at .z) (.inl rfl) (fun w11 h29 => ?_))
  refine RunL.nil ?_
  refine Run.slim [(5, u4), (4, u1), (0, v0), (1, .bool a1)] ⟨rfl, rfl, rfl, rfl, trivial⟩ ?_
  refine Run.seq ?_
  refine Run.seq ?_
  refine Run.reg ?_
  refine RunL.op (OpS.mv rfl rfl rfl ?_)
  refine RunL.nil ?_
  refine Run.slim [(29, .bool a1), (5, u4), (4, u1), (0, v0)] ⟨rfl, rfl, rfl, rfl, trivial⟩ ?_
  refine Run.join (σ := (made_Dice × Message_)) (fun s_ L_ w_ => L_ = [(0, v0), (4, u1), (5, u4)] ∧ St e w_ [] [(false, .box 77 made_Dice.rep v0 s_.1), (true, .box 24 Message_.rep u1 Message_.z), (true, .box 24 Message_.rep u4 s_.2)]) hF (fun s1 _ w12 hI hF => ?_) (fun j1 hj1 hF => ?_)
  ·
    obtain ⟨rfl, h30⟩ := hI
    refine Run.seq ?_
    refine Run.seq ?_
    refine Run.reg ?_
    refine RunL.op (OpS.mv rfl rfl rfl ?_)
    obtain ⟨y9, e9, hF⟩ := bindP_use hF
    have h31 := h30.front (.cons .z .nil)
    refine RunL.op (OpS.callO h31 Try.func13 rfl rfl rfl rfl (vs := [v0, .int .i64 40]) rfl (made_Dice_Bool_ok e9) rfl .nil ?_)
    rintro _ w13 _ _ _ ⟨rfl, rfl, rfl, rfl⟩ h32
    have h33 := h32
    simp only [List.cons_append, List.nil_append] at h33
    refine RunL.nil ?_
    refine Run.slim [(38, .bool y9.1), (4, u1), (5, u4)] ⟨rfl, rfl, rfl, trivial⟩ ?_
    refine Run.ite rfl hF (fun e10 hF => ?_) (fun e10 hF => ?_)
    ·
      refine Run.reg ?_
      obtain ⟨x1, e11, hF⟩ := bindP_use hF
      refine RunL.op (OpS.make h33 Try.underlying22 ti5 rfl rfl (Zr.int .u8 0) rfl rfl rfl rfl e11 (by simp) (mk_fits e11) rfl (fun u5 w14 h34 => ?_))
      refine RunL.op (OpS.fbox (o3 := 8) h34 (.s (.s (.s .z))) PA.z fa24_8 rfl rfl rfl rfl ?_)
      have h35 := (h34.pick .z).freeze
      obtain ⟨d1, e12, hF⟩ := letP_use hF
      refine RunL.op (OpS.storeB (f' := true) h35 (.s (.s .z)) PA.a (Put.of (Put.fld Message_.f8) e12) ty22 rfl rfl rfl (V.at .z) (.inl rfl) (fun w15 h36 => ?_))
      refine RunL.nil ?_
      refine Run.slim [(4, u1), (5, u4)] ⟨rfl, rfl, trivial⟩ ?_
      refine Run.seq ?_
      refine Run.reg ?_
      refine RunL.op (OpS.loadB h36 .z PA.z Get.id ty24 rfl rfl rfl (fun u6 h37 => ?_))
      refine RunL.op (OpS.storeB (f' := true) h37 (.s (.s .z)) PA.z Put.id ty24 rfl rfl rfl (V.at .z) (.inl rfl) (fun w16 h38 => ?_))
      refine RunL.nil ?_
      refine Run.slim [(4, u1)] ⟨rfl, trivial⟩ ?_
      obtain ⟨u7, hu1, h39⟩ := res_box h38 .z ty24
      refine Run.retP rfl (.cell rfl hu1 .nil) ?_
      cases hF
      exact Post.mk' ⟨u7, rfl, rfl, rfl, rfl⟩ (h39.picks (.cons (.s (.s .z)) .nil)) (.val (V.at .z) .nil)
    ·
      refine Run.skip ?_
      refine Run.seq ?_
      refine Run.reg ?_
      refine RunL.op (OpS.loadB h33 (.s (.s .z)) PA.z Get.id ty24 rfl rfl rfl (fun u8 h40 => ?_))
      refine RunL.op (OpS.storeB (f' := true) h40 (.s .z) PA.z Put.id ty24 rfl rfl rfl (V.at .z) (.inl rfl) (fun w17 h41 => ?_))
      refine RunL.nil ?_
      refine Run.slim [(4, u1)] ⟨rfl, trivial⟩ ?_
      obtain ⟨u9, hu2, h42⟩ := res_box h41 .z ty24
      refine Run.retP rfl (.cell rfl hu2 .nil) ?_
      cases hF
      exact Post.mk' ⟨u9, rfl, rfl, rfl, rfl⟩ (h42.picks (.cons (.s .z) .nil)) (.val (V.at .z) .nil)
  ·
    refine Run.ite rfl hF (fun e13 hF => ?_) (fun e13 hF => ?_)
    ·
      refine Run.seq ?_
      refine Run.reg ?_
      refine RunL.op (OpS.fbox (o3 := 2) h29 .z PA.z fa24_2 rfl rfl rfl rfl ?_)
      refine RunL.op (OpS.loadBi h29 .z PA.a (Get.fld Message_.f2) ty5 rfl rfl rfl ?_)
      refine RunL.op (OpS.bin rfl rfl rfl rfl rfl ?_)
      refine RunL.op (OpS.fbox (o3 := 2) h29 .z PA.z fa24_2 rfl rfl rfl rfl ?_)
      obtain ⟨d2, e14, hF⟩ := letP_use hF
      refine RunL.op (OpS.storeB (f' := true) h29 .z PA.a (Put.of (Put.fld Message_.f2) e14) ty5 rfl rfl rfl V.int (.inl rfl) (fun w18 h43 => ?_))
      refine RunL.nil ?_
      refine Run.slim [(5, u4), (4, u1), (0, v0)] ⟨rfl, rfl, rfl, trivial⟩ ?_
      refine Run.reg ?_
      refine RunL.op (OpS.mv rfl rfl rfl ?_)
      obtain ⟨y10, e15, hF⟩ := bindP_use hF
      have h44 := h43.front (.cons (.s .z) .nil)
      refine RunL.op (OpS.callO h44 Try.func15 rfl rfl rfl rfl (vs := [v0]) rfl (made_Dice_Byte_ok e15) rfl .nil ?_)
      rintro _ w19 _ _ _ ⟨rfl, rfl, rfl, rfl⟩ h45
      have h46 := h45
      simp only [List.cons_append, List.nil_append] at h46
      refine RunL.op (OpS.fbox (o3 := 7) h46 (.s .z) PA.z fa24_7 rfl rfl rfl rfl ?_)
      obtain ⟨d3, e16, hF⟩ := letP_use hF
      refine RunL.op (OpS.storeB (f' := true) h46 (.s .z) PA.a (Put.of (Put.fld Message_.f7) e16) ty5 rfl rfl rfl V.int (.inl rfl) (fun w20 h47 => ?_))
      refine RunL.nil ?_
      refine Run.slim [(5, u4), (4, u1), (0, v0)] ⟨rfl, rfl, rfl, trivial⟩ ?_
      refine Run.slim [(0, v0), (4, u1), (5, u4)] ⟨rfl, rfl, rfl, trivial⟩ ?_
      exact hj1 (y10.2, d3) _ _ ⟨rfl, (h47.facts .nil).picks (.cons (.s .z) (.cons (.s .z) (.cons .z .nil)))⟩ hF
    ·
      refine Run.skip ?_
      refine Run.slim [(0, v0), (4, u1), (5, u4)] ⟨rfl, rfl, rfl, trivial⟩ ?_
      exact hj1 (y8.2, (⟨(IntKind.u8.wrap (IntKind.i64.wrap (16 + y1.1))), (IntKind.u8.wrap (IntKind.i64.wrap (64 + y2.1))), (IntKind.u8.wrap (IntKind.i64.wrap (2 * y3.1))), y4.1, y5.1, y6.1, y7.1, 0, y8.1⟩ : Message_)) _ _ ⟨rfl, (h29.facts .nil).picks (.cons (.s .z) (.cons (.s .z) (.cons .z .nil)))⟩ hF
theorem ref20_Address_ok {fuel : Nat} {a0 : Int} {y : Bool} (hF : ref20_Address fuel a0 = some y) {w : World} :
    Spec Try.prog 47 [.int .u8 a0].toArray w [] [] (fun v Γr Ωr Ωo => v = .bool y ∧ Γr = [] ∧ Ωr = [] ∧ Ωo = []) := by
  refine Spec.of (L := [(0, .int .u8 a0)]) Try.func47 rfl ⟨rfl, trivial⟩ rfl (fun e h => ?_)
  unfold ref20_Address at hF
  refine Run.seq ?_
  refine Run.reg ?_
  refine RunL.op (OpS.as rfl rfl rfl ?_)
  refine RunL.nil ?_
  refine Run.slim [(0, .int .u8 a0)] ⟨rfl, trivial⟩ ?_
  refine Run.seq ?_
  refine Run.reg ?_
  refine RunL.op (OpS.mv rfl rfl rfl ?_)
  refine RunL.op (OpS.bin rfl rfl rfl rfl rfl ?_)
  refine RunL.op (OpS.mv rfl rfl rfl ?_)
  refine RunL.caseb hF (fun e1 hF => ?_) (fun e1 hF => ?_)
  ·
    refine RunL.op (OpS.mv rfl rfl rfl ?_)
    refine RunL.op (OpS.bin rfl rfl rfl rfl rfl ?_)
    refine RunL.op (OpS.pick rfl rfl rfl rfl ?_)
    refine RunL.op (OpS.as rfl rfl rfl ?_)
    obtain ⟨x1, e2, hF⟩ := letP_use hF
    refine RunL.nameb e2 ?_
    refine RunL.nil ?_
    refine Run.slim [(2, .bool x1)] ⟨rfl, trivial⟩ ?_
    refine Run.retP rfl (.tmp rfl .nil) ?_
    cases hF
    exact Post.mk' ⟨rfl, rfl, rfl, rfl⟩ (h.picks .nil) .nil
  ·
    refine RunL.op (OpS.pass rfl rfl rfl ?_)
    refine RunL.op (OpS.pass rfl rfl rfl ?_)
    refine RunL.op (OpS.pick rfl rfl rfl rfl ?_)
    refine RunL.op (OpS.as rfl rfl rfl ?_)
    refine RunL.nil ?_
    refine Run.slim [(2, .bool false)] ⟨rfl, trivial⟩ ?_
    refine Run.retP rfl (.tmp rfl .nil) ?_
    cases hF
    exact Post.mk' ⟨rfl, rfl, rfl, rfl⟩ (h.picks .nil) .nil
set_option maxHeartbeats 8000000 in
theorem ref23_Valid_ok {fuel : Nat} {a0 : Message_} {y : Bool} (hF : ref23_Valid fuel a0 = some y) {w : World} {v0 : Value} :
    Spec Try.prog 21 [v0].toArray w [(false, .val Message_.rep v0 a0)] [] (fun v Γr Ωr Ωo => v = .bool y ∧ Γr = [] ∧ Ωr = [] ∧ Ωo = []) := by
  refine Spec.of (L := [(0, v0)]) Try.func21 rfl ⟨rfl, trivial⟩ rfl (fun e h => ?_)
  unfold ref23_Valid at hF
  refine Run.seq ?_
  refine Run.reg ?_
  refine RunL.op (OpS.boxF h rfl rfl rfl (V.at .z) (fun u1 w1 h1 => ?_))
  refine RunL.op (OpS.as rfl rfl rfl ?_)
  refine RunL.nil ?_
  refine Run.slim [(1, u1)] ⟨rfl, trivial⟩ ?_
  refine Run.seq ?_
  refine Run.reg ?_
  refine RunL.op (OpS.fbox (o3 := 0) h1 .z PA.z fa24_0 rfl rfl rfl rfl ?_)
  refine RunL.op (OpS.loadBi h1 .z PA.a (Get.fld Message_.f0) ty5 rfl rfl rfl ?_)
  obtain ⟨y1, e1, hF⟩ := bindP_use hF
  refine RunL.op (OpS.callP h1 Try.func47 rfl rfl rfl rfl (vs := [.int .u8 a0.To]) rfl (ref20_Address_ok e1) .nil ?_)
  rintro _ w2 _ _ _ ⟨rfl, rfl, rfl, rfl⟩ h2
  have h3 := h2 rfl rfl
  simp only [List.cons_append, List.nil_append] at h3
  refine RunL.op (OpS.mv rfl rfl rfl ?_)
  refine RunL.caseb hF (fun e2 hF => ?_) (fun e2 hF => ?_)
  ·
    refine RunL.op (OpS.fbox (o3 := 1) h3 .z PA.z fa24_1 rfl rfl rfl rfl ?_)
    refine RunL.op (OpS.loadBi h3 .z PA.a (Get.fld Message_.f1) ty5 rfl rfl rfl ?_)
    obtain ⟨y2, e3, hF⟩ := bindP_use hF
    refine RunL.op (OpS.callP h3 Try.func47 rfl rfl rfl rfl (vs := [.int .u8 a0.From]) rfl (ref20_Address_ok e3) .nil ?_)
    rintro _ w3 _ _ _ ⟨rfl, rfl, rfl, rfl⟩ h4
    have h5 := h4 rfl rfl
    simp only [List.cons_append, List.nil_append] at h5
    refine RunL.op (OpS.pick rfl rfl rfl rfl ?_)
    refine RunL.op (OpS.mv rfl rfl rfl ?_)
    refine RunL.caseb hF (fun e4 hF => ?_) (fun e4 hF => ?_)
    ·
      refine RunL.op (OpS.fbox (o3 := 2) h5 .z PA.z fa24_2 rfl rfl rfl rfl ?_)
      refine RunL.op (OpS.loadBi h5 .z PA.a (Get.fld Message_.f2) ty5 rfl rfl rfl ?_)
      refine RunL.op (OpS.bin rfl rfl rfl rfl rfl ?_)
      refine RunL.op (OpS.pick rfl rfl rfl rfl ?_)
      refine RunL.op (OpS.mv rfl rfl rfl ?_)
      refine RunL.caseb hF (fun e5 hF => ?_) (fun e5 hF => ?_)
      ·
        refine RunL.op (OpS.fbox (o3 := 4) h5 .z PA.z fa24_4 rfl rfl rfl rfl ?_)
        refine RunL.op (OpS.loadBi h5 .z PA.a (Get.fld Message_.f4) ty3 rfl rfl rfl ?_)
        refine RunL.op (OpS.bin rfl rfl rfl rfl rfl ?_)
        refine RunL.op (OpS.pick rfl rfl rfl rfl ?_)
        refine RunL.op (OpS.mv rfl rfl rfl ?_)
        refine RunL.caseb hF (fun e6 hF => ?_) (fun e6 hF => ?_)
        ·
          refine RunL.op (OpS.fbox (o3 := 4) h5 .z PA.z fa24_4 rfl rfl rfl rfl ?_)
          refine RunL.op (OpS.loadBi h5 .z PA.a (Get.fld Message_.f4) ty3 rfl rfl rfl ?_)
          refine RunL.op (OpS.bin rfl rfl rfl rfl rfl ?_)
          refine RunL.op (OpS.pick rfl rfl rfl rfl ?_)
          refine RunL.op (OpS.mv rfl rfl rfl ?_)
          refine RunL.caseb hF (fun e7 hF => ?_) (fun e7 hF => ?_)
          ·
            refine RunL.op (OpS.fbox (o3 := 5) h5 .z PA.z fa24_5 rfl rfl rfl rfl ?_)
            refine RunL.op (OpS.loadBi h5 .z PA.a (Get.fld Message_.f5) ty3 rfl rfl rfl ?_)
            refine RunL.op (OpS.bin rfl rfl rfl rfl rfl ?_)
            refine RunL.op (OpS.pick rfl rfl rfl rfl ?_)
            refine RunL.op (OpS.mv rfl rfl rfl ?_)
            refine RunL.caseb hF (fun e8 hF => ?_) (fun e8 hF => ?_)
            ·
              refine RunL.op (OpS.fbox (o3 := 5) h5 .z PA.z fa24_5 rfl rfl rfl rfl ?_)
              refine RunL.op (OpS.loadBi h5 .z PA.a (Get.fld Message_.f5) ty3 rfl rfl rfl ?_)
              refine RunL.op (OpS.bin rfl rfl rfl rfl rfl ?_)
              refine RunL.op (OpS.pick rfl rfl rfl rfl ?_)
              refine RunL.op (OpS.mv rfl rfl rfl ?_)
              refine RunL.caseb hF (fun e9 hF => ?_) (fun e9 hF => ?_)
              ·
                refine RunL.op (OpS.fbox (o3 := 6) h5 .z PA.z fa24_6 rfl rfl rfl rfl ?_)
                refine RunL.op (OpS.loadBi h5 .z PA.a (Get.fld Message_.f6) ty3 rfl rfl rfl ?_)
                refine RunL.op (OpS.bin rfl rfl rfl rfl rfl ?_)
                refine RunL.op (OpS.pick rfl rfl rfl rfl ?_)
                refine RunL.op (OpS.mv rfl rfl rfl ?_)
                refine RunL.caseb hF (fun e10 hF => ?_) (fun e10 hF => ?_)
                ·
                  refine RunL.op (OpS.fbox (o3 := 6) h5 .z PA.z fa24_6 rfl rfl rfl rfl ?_)
                  refine RunL.op (OpS.loadBi h5 .z PA.a (Get.fld Message_.f6) ty3 rfl rfl rfl ?_)
                  refine RunL.op (OpS.bin rfl rfl rfl rfl rfl ?_)
                  refine RunL.op (OpS.pick rfl rfl rfl rfl ?_)
                  refine RunL.op (OpS.mv rfl rfl rfl ?_)
                  refine RunL.caseb hF (fun e11 hF => ?_) (fun e11 hF => ?_)
                  ·
                    refine RunL.op (OpS.fbox (o3 := 8) h5 .z PA.z fa24_8 rfl rfl rfl rfl ?_)
                    refine RunL.op (OpS.loadB h5 .z PA.a (Get.fld Message_.f8) ty22 rfl rfl rfl (fun u2 h6 => ?_))
                    refine RunL.op (OpS.len h6 Try.underlying22 rfl rfl rfl (V.at .z) ?_)
                    refine RunL.op (OpS.bin rfl rfl rfl rfl rfl ?_)
                    refine RunL.op (OpS.pick rfl rfl rfl rfl ?_)
                    refine RunL.op (OpS.mv rfl rfl rfl ?_)
                    refine RunL.caseb hF (fun e12 hF => ?_) (fun e12 hF => ?_)
                    ·
                      refine RunL.op (OpS.fbox (o3 := 2) h6 .z PA.z fa24_2 rfl rfl rfl rfl ?_)
                      refine RunL.op (OpS.loadBi h6 .z PA.a (Get.fld Message_.f2) ty5 rfl rfl rfl ?_)
                      refine RunL.op (OpS.rem rfl rfl rfl rfl (by decide) ?_)
                      refine RunL.op (OpS.bin rfl rfl rfl rfl rfl ?_)
                      refine RunL.op (OpS.mv rfl rfl rfl ?_)
                      refine RunL.caseb hF (fun e13 hF => ?_) (fun e13 hF => ?_)
                      ·
                        refine RunL.op (OpS.pass rfl rfl rfl ?_)
                        refine RunL.op (OpS.pass rfl rfl rfl ?_)
                        refine RunL.op (OpS.pass rfl rfl rfl ?_)
                        refine RunL.op (OpS.pick rfl rfl rfl rfl ?_)
                        refine RunL.op (OpS.pick rfl rfl rfl rfl ?_)
                        refine RunL.op (OpS.as rfl rfl rfl ?_)
                        refine RunL.nil ?_
                        refine Run.slim [(2, .bool true)] ⟨rfl, trivial⟩ ?_
                        refine Run.retP rfl (.tmp rfl .nil) ?_
                        cases hF
                        exact Post.mk' ⟨rfl, rfl, rfl, rfl⟩ (h6.picks .nil) .nil
                      ·
                        refine RunL.op (OpS.fbox (o3 := 7) h6 .z PA.z fa24_7 rfl rfl rfl rfl ?_)
                        refine RunL.op (OpS.loadBi h6 .z PA.a (Get.fld Message_.f7) ty5 rfl rfl rfl ?_)
                        refine RunL.op (OpS.bin rfl rfl rfl rfl rfl ?_)
                        refine RunL.op (OpS.pick rfl rfl rfl rfl ?_)
                        refine RunL.op (OpS.pick rfl rfl rfl rfl ?_)
                        refine RunL.op (OpS.as rfl rfl rfl ?_)
                        obtain ⟨x1, e14, hF⟩ := letP_use hF
                        refine RunL.nameb e14 ?_
                        refine RunL.nil ?_
                        refine Run.slim [(2, .bool x1)] ⟨rfl, trivial⟩ ?_
                        refine Run.retP rfl (.tmp rfl .nil) ?_
                        cases hF
                        exact Post.mk' ⟨rfl, rfl, rfl, rfl⟩ (h6.picks .nil) .nil
                    ·
                      refine RunL.op (OpS.pass rfl rfl rfl ?_)
                      refine RunL.op (OpS.pass rfl rfl rfl ?_)
                      refine RunL.op (OpS.pass rfl rfl rfl ?_)
                      refine RunL.op (OpS.pass rfl rfl rfl ?_)
                      refine RunL.op (OpS.pass rfl rfl rfl ?_)
                      refine RunL.op (OpS.pass rfl rfl rfl ?_)
                      refine RunL.op (OpS.pass rfl rfl rfl ?_)
                      refine RunL.op (OpS.pass rfl rfl rfl ?_)
                      refine RunL.op (OpS.pass rfl rfl rfl ?_)
                      refine RunL.op (OpS.pick rfl rfl rfl rfl ?_)
                      refine RunL.op (OpS.as rfl rfl rfl ?_)
                      refine RunL.nil ?_
                      refine Run.slim [(2, .bool false)] ⟨rfl, trivial⟩ ?_
                      refine Run.retP rfl (.tmp rfl .nil) ?_
                      cases hF
                      exact Post.mk' ⟨rfl, rfl, rfl, rfl⟩ (h6.picks .nil) .nil
                  ·
                    refine RunL.op (OpS.pass rfl rfl rfl ?_)
                    refine RunL.op (OpS.pass rfl rfl rfl ?_)
                    refine RunL.op (OpS.pass rfl rfl rfl ?_)
                    refine RunL.op (OpS.pass rfl rfl rfl ?_)
                    refine RunL.op (OpS.pick rfl rfl rfl rfl ?_)
                    refine RunL.op (OpS.mv rfl rfl rfl ?_)
                    refine RunL.op (OpS.pass rfl rfl rfl ?_)
                    refine RunL.op (OpS.pass rfl rfl rfl ?_)
                    refine RunL.op (OpS.pass rfl rfl rfl ?_)
                    refine RunL.op (OpS.pass rfl rfl rfl ?_)
                    refine RunL.op (OpS.pass rfl rfl rfl ?_)
                    refine RunL.op (OpS.pass rfl rfl rfl ?_)
                    refine RunL.op (OpS.pass rfl rfl rfl ?_)
                    refine RunL.op (OpS.pass rfl rfl rfl ?_)
                    refine RunL.op (OpS.pass rfl rfl rfl ?_)
                    refine RunL.op (OpS.pick rfl rfl rfl rfl ?_)
                    refine RunL.op (OpS.as rfl rfl rfl ?_)
                    refine RunL.nil ?_
                    refine Run.slim [(2, .bool false)] ⟨rfl, trivial⟩ ?_
                    refine Run.retP rfl (.tmp rfl .nil) ?_
                    cases hF
                    exact Post.mk' ⟨rfl, rfl, rfl, rfl⟩ (h5.picks .nil) .nil
                ·
                  refine RunL.op (OpS.pass rfl rfl rfl ?_)
                  refine RunL.op (OpS.pass rfl rfl rfl ?_)
                  refine RunL.op (OpS.pass rfl rfl rfl ?_)
                  refine RunL.op (OpS.pick rfl rfl rfl rfl ?_)
                  refine RunL.op (OpS.mv rfl rfl rfl ?_)
                  refine RunL.op (OpS.pass rfl rfl rfl ?_)
                  refine RunL.op (OpS.pass rfl rfl rfl ?_)
                  refine RunL.op (OpS.pass rfl rfl rfl ?_)
                  refine RunL.op (OpS.pass rfl rfl rfl ?_)
                  refine RunL.op (OpS.pick rfl rfl rfl rfl ?_)
                  refine RunL.op (OpS.mv rfl rfl rfl ?_)
                  refine RunL.op (OpS.pass rfl rfl rfl ?_)
                  refine RunL.op (OpS.pass rfl rfl rfl ?_)
                  refine RunL.op (OpS.pass rfl rfl rfl ?_)
                  refine RunL.op (OpS.pass rfl rfl rfl ?_)
                  refine RunL.op (OpS.pass rfl rfl rfl ?_)
                  refine RunL.op (OpS.pass rfl rfl rfl ?_)
                  refine RunL.op (OpS.pass rfl rfl rfl ?_)
                  refine RunL.op (OpS.pass rfl rfl rfl ?_)
                  refine RunL.op (OpS.pass rfl rfl rfl ?_)
                  refine RunL.op (OpS.pick rfl rfl rfl rfl ?_)
                  refine RunL.op (OpS.as rfl rfl rfl ?_)
                  refine RunL.nil ?_
                  refine Run.slim [(2, .bool false)] ⟨rfl, trivial⟩ ?_
                  refine Run.retP rfl (.tmp rfl .nil) ?_
                  cases hF
                  exact Post.mk' ⟨rfl, rfl, rfl, rfl⟩ (h5.picks .nil) .nil
              ·
                refine RunL.op (OpS.pass rfl rfl rfl ?_)
                refine RunL.op (OpS.pass rfl rfl rfl ?_)
                refine RunL.op (OpS.pass rfl rfl rfl ?_)
                refine RunL.op (OpS.pick rfl rfl rfl rfl ?_)
                refine RunL.op (OpS.mv rfl rfl rfl ?_)
                refine RunL.op (OpS.pass rfl rfl rfl ?_)
                refine RunL.op (OpS.pass rfl rfl rfl ?_)
                refine RunL.op (OpS.pass rfl rfl rfl ?_)
                refine RunL.op (OpS.pick rfl rfl rfl rfl ?_)
                refine RunL.op (OpS.mv rfl rfl rfl ?_)
                refine RunL.op (OpS.pass rfl rfl rfl ?_)
                refine RunL.op (OpS.pass rfl rfl rfl ?_)
                refine RunL.op (OpS.pass rfl rfl rfl ?_)
                refine RunL.op (OpS.pass rfl rfl rfl ?_)
                refine RunL.op (OpS.pick rfl rfl rfl rfl ?_)
                refine RunL.op (OpS.mv rfl rfl rfl ?_)
                refine RunL.op (OpS.pass rfl rfl rfl ?_)
                refine RunL.op (OpS.pass rfl rfl rfl ?_)
                refine RunL.op (OpS.pass rfl rfl rfl ?_)
                refine RunL.op (OpS.pass rfl rfl rfl ?_)
                refine RunL.op (OpS.pass rfl rfl rfl ?_)
                refine RunL.op (OpS.pass rfl rfl rfl ?_)
                refine RunL.op (OpS.pass rfl rfl rfl ?_)
                refine RunL.op (OpS.pass rfl rfl rfl ?_)
                refine RunL.op (OpS.pass rfl rfl rfl ?_)
                refine RunL.op (OpS.pick rfl rfl rfl rfl ?_)
                refine RunL.op (OpS.as rfl rfl rfl ?_)
                refine RunL.nil ?_
                refine Run.slim [(2, .bool false)] ⟨rfl, trivial⟩ ?_
                refine Run.retP rfl (.tmp rfl .nil) ?_
                cases hF
                exact Post.mk' ⟨rfl, rfl, rfl, rfl⟩ (h5.picks .nil) .nil
            ·
              refine RunL.op (OpS.pass rfl rfl rfl ?_)
              refine RunL.op (OpS.pass rfl rfl rfl ?_)
              refine RunL.op (OpS.pass rfl rfl rfl ?_)
              refine RunL.op (OpS.pick rfl rfl rfl rfl ?_)
              refine RunL.op (OpS.mv rfl rfl rfl ?_)
              refine RunL.op (OpS.pass rfl rfl rfl ?_)
              refine RunL.op (OpS.pass rfl rfl rfl ?_)
              refine RunL.op (OpS.pass rfl rfl rfl ?_)
              refine RunL.op (OpS.pick rfl rfl rfl rfl ?_)
              refine RunL.op (OpS.mv rfl rfl rfl ?_)
              refine RunL.op (OpS.pass rfl rfl rfl ?_)
              refine RunL.op (OpS.pass rfl rfl rfl ?_)
              refine RunL.op (OpS.pass rfl rfl rfl ?_)
              refine RunL.op (OpS.pick rfl rfl rfl rfl ?_)
              refine RunL.op (OpS.mv rfl rfl rfl ?_)
              refine RunL.op (OpS.pass rfl rfl rfl ?_)
              refine RunL.op (OpS.pass rfl rfl rfl ?_)
              refine RunL.op (OpS.pass rfl rfl rfl ?_)
              refine RunL.op (OpS.pass rfl rfl rfl ?_)
              refine RunL.op (OpS.pick rfl rfl rfl rfl ?_)
              refine RunL.op (OpS.mv rfl rfl rfl ?_)
              refine RunL.op (OpS.pass rfl rfl rfl ?_)
              refine RunL.op (OpS.pass rfl rfl rfl ?_)
              refine RunL.op (OpS.pass rfl rfl rfl ?_)
              refine RunL.op (OpS.pass rfl rfl rfl ?_)
              refine RunL.op (OpS.pass rfl rfl rfl ?_)
              refine RunL.op (OpS.pass rfl rfl rfl ?_)
              refine RunL.op (OpS.pass rfl rfl rfl ?_)
              refine RunL.op (OpS.pass rfl rfl rfl ?_)
              refine RunL.op (OpS.pass rfl rfl rfl ?_)
              refine RunL.op (OpS.pick rfl rfl rfl rfl ?_)
              refine RunL.op (OpS.as rfl rfl rfl ?_)
              refine RunL.nil ?_
              refine Run.slim [(2, .bool false)] ⟨rfl, trivial⟩ ?_
              refine Run.retP rfl (.tmp rfl .nil) ?_
              cases hF
              exact Post.mk' ⟨rfl, rfl, rfl, rfl⟩ (h5.picks .nil) .nil
          ·
            refine RunL.op (OpS.pass rfl rfl rfl ?_)
            refine RunL.op (OpS.pass rfl rfl rfl ?_)
            refine RunL.op (OpS.pass rfl rfl rfl ?_)
            refine RunL.op (OpS.pick rfl rfl rfl rfl ?_)
            refine RunL.op (OpS.mv rfl rfl rfl ?_)
            refine RunL.op (OpS.pass rfl rfl rfl ?_)
            refine RunL.op (OpS.pass rfl rfl rfl ?_)
            refine RunL.op (OpS.pass rfl rfl rfl ?_)
            refine RunL.op (OpS.pick rfl rfl rfl rfl ?_)
            refine RunL.op (OpS.mv rfl rfl rfl ?_)
            refine RunL.op (OpS.pass rfl rfl rfl ?_)
            refine RunL.op (OpS.pass rfl rfl rfl ?_)
            refine RunL.op (OpS.pass rfl rfl rfl ?_)
            refine RunL.op (OpS.pick rfl rfl rfl rfl ?_)
            refine RunL.op (OpS.mv rfl rfl rfl ?_)
            refine RunL.op (OpS.pass rfl rfl rfl ?_)
            refine RunL.op (OpS.pass rfl rfl rfl ?_)
            refine RunL.op (OpS.pass rfl rfl rfl ?_)
            refine RunL.op (OpS.pick rfl rfl rfl rfl ?_)
            refine RunL.op (OpS.mv rfl rfl rfl ?_)
            refine RunL.op (OpS.pass rfl rfl rfl ?_)
            refine RunL.op (OpS.pass rfl rfl rfl ?_)
            refine RunL.op (OpS.pass rfl rfl rfl ?_)
            refine RunL.op (OpS.pass rfl rfl rfl ?_)
            refine RunL.op (OpS.pick rfl rfl rfl rfl ?_)
            refine RunL.op (OpS.mv rfl rfl rfl ?_)
            refine RunL.op (OpS.pass rfl rfl rfl ?_)
            refine RunL.op (OpS.pass rfl rfl rfl ?_)
            refine RunL.op (OpS.pass rfl rfl rfl ?_)
            refine RunL.op (OpS.pass rfl rfl rfl ?_)
            refine RunL.op (OpS.pass rfl rfl rfl ?_)
            refine RunL.op (OpS.pass rfl rfl rfl ?_)
            refine RunL.op (OpS.pass rfl rfl rfl ?_)
            refine RunL.op (OpS.pass rfl rfl rfl ?_)
            refine RunL.op (OpS.pass rfl rfl rfl ?_)
            refine RunL.op (OpS.pick rfl rfl rfl rfl ?_)
            refine RunL.op (OpS.as rfl rfl rfl ?_)
            refine RunL.nil ?_
            refine Run.slim [(2, .bool false)] ⟨rfl, trivial⟩ ?_
            refine Run.retP rfl (.tmp rfl .nil) ?_
            cases hF
            exact Post.mk' ⟨rfl, rfl, rfl, rfl⟩ (h5.picks .nil) .nil
        ·
          refine RunL.op (OpS.pass rfl rfl rfl ?_)
          refine RunL.op (OpS.pass rfl rfl rfl ?_)
          refine RunL.op (OpS.pass rfl rfl rfl ?_)
          refine RunL.op (OpS.pick rfl rfl rfl rfl ?_)
          refine RunL.op (OpS.mv rfl rfl rfl ?_)
          refine RunL.op (OpS.pass rfl rfl rfl ?_)
          refine RunL.op (OpS.pass rfl rfl rfl ?_)
          refine RunL.op (OpS.pass rfl rfl rfl ?_)
          refine RunL.op (OpS.pick rfl rfl rfl rfl ?_)
          refine RunL.op (OpS.mv rfl rfl rfl ?_)
          refine RunL.op (OpS.pass rfl rfl rfl ?_)
          refine RunL.op (OpS.pass rfl rfl rfl ?_)
          refine RunL.op (OpS.pass rfl rfl rfl ?_)
          refine RunL.op (OpS.pick rfl rfl rfl rfl ?_)
          refine RunL.op (OpS.mv rfl rfl rfl ?_)
          refine RunL.op (OpS.pass rfl rfl rfl ?_)
          refine RunL.op (OpS.pass rfl rfl rfl ?_)
          refine RunL.op (OpS.pass rfl rfl rfl ?_)
          refine RunL.op (OpS.pick rfl rfl rfl rfl ?_)
          refine RunL.op (OpS.mv rfl rfl rfl ?_)
          refine RunL.op (OpS.pass rfl rfl rfl ?_)
          refine RunL.op (OpS.pass rfl rfl rfl ?_)
          refine RunL.op (OpS.pass rfl rfl rfl ?_)
          refine RunL.op (OpS.pick rfl rfl rfl rfl ?_)
          refine RunL.op (OpS.mv rfl rfl rfl ?_)
          refine RunL.op (OpS.pass rfl rfl rfl ?_)
          refine RunL.op (OpS.pass rfl rfl rfl ?_)
          refine RunL.op (OpS.pass rfl rfl rfl ?_)
          refine RunL.op (OpS.pass rfl rfl rfl ?_)
          refine RunL.op (OpS.pick rfl rfl rfl rfl ?_)
          refine RunL.op (OpS.mv rfl rfl rfl ?_)
          refine RunL.op (OpS.pass rfl rfl rfl ?_)
          refine RunL.op (OpS.pass rfl rfl rfl ?_)
          refine RunL.op (OpS.pass rfl rfl rfl ?_)
          refine RunL.op (OpS.pass rfl rfl rfl ?_)
          refine RunL.op (OpS.pass rfl rfl rfl ?_)
          refine RunL.op (OpS.pass rfl rfl rfl ?_)
          refine RunL.op (OpS.pass rfl rfl rfl ?_)
          refine RunL.op (OpS.pass rfl rfl rfl ?_)
          refine RunL.op (OpS.pass rfl rfl rfl ?_)
          refine RunL.op (OpS.pick rfl rfl rfl rfl ?_)
          refine RunL.op (OpS.as rfl rfl rfl ?_)
          refine RunL.nil ?_
          refine Run.slim [(2, .bool false)] ⟨rfl, trivial⟩ ?_
          refine Run.retP rfl (.tmp rfl .nil) ?_
          cases hF
          exact Post.mk' ⟨rfl, rfl, rfl, rfl⟩ (h5.picks .nil) .nil
      ·
        refine RunL.op (OpS.pass rfl rfl rfl ?_)
        refine RunL.op (OpS.pass rfl rfl rfl ?_)
        refine RunL.op (OpS.pass rfl rfl rfl ?_)
        refine RunL.op (OpS.pick rfl rfl rfl rfl ?_)
        refine RunL.op (OpS.mv rfl rfl rfl ?_)
        refine RunL.op (OpS.pass rfl rfl rfl ?_)
        refine RunL.op (OpS.pass rfl rfl rfl ?_)
        refine RunL.op (OpS.pass rfl rfl rfl ?_)
        refine RunL.op (OpS.pick rfl rfl rfl rfl ?_)
        refine RunL.op (OpS.mv rfl rfl rfl ?_)
        refine RunL.op (OpS.pass rfl rfl rfl ?_)
        refine RunL.op (OpS.pass rfl rfl rfl ?_)
        refine RunL.op (OpS.pass rfl rfl rfl ?_)
        refine RunL.op (OpS.pick rfl rfl rfl rfl ?_)
        refine RunL.op (OpS.mv rfl rfl rfl ?_)
        refine RunL.op (OpS.pass rfl rfl rfl ?_)
        refine RunL.op (OpS.pass rfl rfl rfl ?_)
        refine RunL.op (OpS.pass rfl rfl rfl ?_)
        refine RunL.op (OpS.pick rfl rfl rfl rfl ?_)
        refine RunL.op (OpS.mv rfl rfl rfl ?_)
        refine RunL.op (OpS.pass rfl rfl rfl ?_)
        refine RunL.op (OpS.pass rfl rfl rfl ?_)
        refine RunL.op (OpS.pass rfl rfl rfl ?_)
        refine RunL.op (OpS.pick rfl rfl rfl rfl ?_)
        refine RunL.op (OpS.mv rfl rfl rfl ?_)
        refine RunL.op (OpS.pass rfl rfl rfl ?_)
        refine RunL.op (OpS.pass rfl rfl rfl ?_)
        refine RunL.op (OpS.pass rfl rfl rfl ?_)
        refine RunL.op (OpS.pick rfl rfl rfl rfl ?_)
        refine RunL.op (OpS.mv rfl rfl rfl ?_)
        refine RunL.op (OpS.pass rfl rfl rfl ?_)
        refine RunL.op (OpS.pass rfl rfl rfl ?_)
        refine RunL.op (OpS.pass rfl rfl rfl ?_)
        refine RunL.op (OpS.pass rfl rfl rfl ?_)
        refine RunL.op (OpS.pick rfl rfl rfl rfl ?_)
        refine RunL.op (OpS.mv rfl rfl rfl ?_)
        refine RunL.op (OpS.pass rfl rfl rfl ?_)
        refine RunL.op (OpS.pass rfl rfl rfl ?_)
        refine RunL.op (OpS.pass rfl rfl rfl ?_)
        refine RunL.op (OpS.pass rfl rfl rfl ?_)
        refine RunL.op (OpS.pass rfl rfl rfl ?_)
        refine RunL.op (OpS.pass rfl rfl rfl ?_)
        refine RunL.op (OpS.pass rfl rfl rfl ?_)
        refine RunL.op (OpS.pass rfl rfl rfl ?_)
        refine RunL.op (OpS.pass rfl rfl rfl ?_)
        refine RunL.op (OpS.pick rfl rfl rfl rfl ?_)
        refine RunL.op (OpS.as rfl rfl rfl ?_)
        refine RunL.nil ?_
        refine Run.slim [(2, .bool false)] ⟨rfl, trivial⟩ ?_
        refine Run.retP rfl (.tmp rfl .nil) ?_
        cases hF
        exact Post.mk' ⟨rfl, rfl, rfl, rfl⟩ (h5.picks .nil) .nil
    ·
      refine RunL.op (OpS.pass rfl rfl rfl ?_)
      refine RunL.op (OpS.pass rfl rfl rfl ?_)
      refine RunL.op (OpS.pass rfl rfl rfl ?_)
      refine RunL.op (OpS.pick rfl rfl rfl rfl ?_)
      refine RunL.op (OpS.mv rfl rfl rfl ?_)
      refine RunL.op (OpS.pass rfl rfl rfl ?_)
      refine RunL.op (OpS.pass rfl rfl rfl ?_)
      refine RunL.op (OpS.pass rfl rfl rfl ?_)
      refine RunL.op (OpS.pick rfl rfl rfl rfl ?_)
      refine RunL.op (OpS.mv rfl rfl rfl ?_)
      refine RunL.op (OpS.pass rfl rfl rfl ?_)
      refine RunL.op (OpS.pass rfl rfl rfl ?_)
      refine RunL.op (OpS.pass rfl rfl rfl ?_)
      refine RunL.op (OpS.pick rfl rfl rfl rfl ?_)
      refine RunL.op (OpS.mv rfl rfl rfl ?_)
      refine RunL.op (OpS.pass rfl rfl rfl ?_)
      refine RunL.op (OpS.pass rfl rfl rfl ?_)
      refine RunL.op (OpS.pass rfl rfl rfl ?_)
      refine RunL.op (OpS.pick rfl rfl rfl rfl ?_)
      refine RunL.op (OpS.mv rfl rfl rfl ?_)
      refine RunL.op (OpS.pass rfl rfl rfl ?_)
      refine RunL.op (OpS.pass rfl rfl rfl ?_)
      refine RunL.op (OpS.pass rfl rfl rfl ?_)
      refine RunL.op (OpS.pick rfl rfl rfl rfl ?_)
      refine RunL.op (OpS.mv rfl rfl rfl ?_)
      refine RunL.op (OpS.pass rfl rfl rfl ?_)
      refine RunL.op (OpS.pass rfl rfl rfl ?_)
      refine RunL.op (OpS.pass rfl rfl rfl ?_)
      refine RunL.op (OpS.pick rfl rfl rfl rfl ?_)
      refine RunL.op (OpS.mv rfl rfl rfl ?_)
      refine RunL.op (OpS.pass rfl rfl rfl ?_)
      refine RunL.op (OpS.pass rfl rfl rfl ?_)
      refine RunL.op (OpS.pass rfl rfl rfl ?_)
      refine RunL.op (OpS.pick rfl rfl rfl rfl ?_)
      refine RunL.op (OpS.mv rfl rfl rfl ?_)
      refine RunL.op (OpS.pass rfl rfl rfl ?_)
      refine RunL.op (OpS.pass rfl rfl rfl ?_)
      refine RunL.op (OpS.pass rfl rfl rfl ?_)
      refine RunL.op (OpS.pass rfl rfl rfl ?_)
      refine RunL.op (OpS.pick rfl rfl rfl rfl ?_)
      refine RunL.op (OpS.mv rfl rfl rfl ?_)
      refine RunL.op (OpS.pass rfl rfl rfl ?_)
      refine RunL.op (OpS.pass rfl rfl rfl ?_)
      refine RunL.op (OpS.pass rfl rfl rfl ?_)
      refine RunL.op (OpS.pass rfl rfl rfl ?_)
      refine RunL.op (OpS.pass rfl rfl rfl ?_)
      refine RunL.op (OpS.pass rfl rfl rfl ?_)
      refine RunL.op (OpS.pass rfl rfl rfl ?_)
      refine RunL.op (OpS.pass rfl rfl rfl ?_)
      refine RunL.op (OpS.pass rfl rfl rfl ?_)
      refine RunL.op (OpS.pick rfl rfl rfl rfl ?_)
      refine RunL.op (OpS.as rfl rfl rfl ?_)
      refine RunL.nil ?_
      refine Run.slim [(2, .bool false)] ⟨rfl, trivial⟩ ?_
      refine Run.retP rfl (.tmp rfl .nil) ?_
      cases hF
      exact Post.mk' ⟨rfl, rfl, rfl, rfl⟩ (h5.picks .nil) .nil
  ·
    refine RunL.op (OpS.pass rfl rfl rfl ?_)
    refine RunL.op (OpS.pass rfl rfl rfl ?_)
    refine RunL.op (OpS.pass rfl rfl rfl ?_)
    refine RunL.op (OpS.pick rfl rfl rfl rfl ?_)
    refine RunL.op (OpS.mv rfl rfl rfl ?_)
    refine RunL.op (OpS.pass rfl rfl rfl ?_)
    refine RunL.op (OpS.pass rfl rfl rfl ?_)
    refine RunL.op (OpS.pass rfl rfl rfl ?_)
    refine RunL.op (OpS.pick rfl rfl rfl rfl ?_)
    refine RunL.op (OpS.mv rfl rfl rfl ?_)
    refine RunL.op (OpS.pass rfl rfl rfl ?_)
    refine RunL.op (OpS.pass rfl rfl rfl ?_)
    refine RunL.op (OpS.pass rfl rfl rfl ?_)
    refine RunL.op (OpS.pick rfl rfl rfl rfl ?_)
    refine RunL.op (OpS.mv rfl rfl rfl ?_)
    refine RunL.op (OpS.pass rfl rfl rfl ?_)
    refine RunL.op (OpS.pass rfl rfl rfl ?_)
    refine RunL.op (OpS.pass rfl rfl rfl ?_)
    refine RunL.op (OpS.pick rfl rfl rfl rfl ?_)
    refine RunL.op (OpS.mv rfl rfl rfl ?_)
    refine RunL.op (OpS.pass rfl rfl rfl ?_)
    refine RunL.op (OpS.pass rfl rfl rfl ?_)
    refine RunL.op (OpS.pass rfl rfl rfl ?_)
    refine RunL.op (OpS.pick rfl rfl rfl rfl ?_)
    refine RunL.op (OpS.mv rfl rfl rfl ?_)
    refine RunL.op (OpS.pass rfl rfl rfl ?_)
    refine RunL.op (OpS.pass rfl rfl rfl ?_)
    refine RunL.op (OpS.pass rfl rfl rfl ?_)
    refine RunL.op (OpS.pick rfl rfl rfl rfl ?_)
    refine RunL.op (OpS.mv rfl rfl rfl ?_)
    refine RunL.op (OpS.pass rfl rfl rfl ?_)
    refine RunL.op (OpS.pass rfl rfl rfl ?_)
    refine RunL.op (OpS.pass rfl rfl rfl ?_)
    refine RunL.op (OpS.pick rfl rfl rfl rfl ?_)
    refine RunL.op (OpS.mv rfl rfl rfl ?_)
    refine RunL.op (OpS.pass rfl rfl rfl ?_)
    refine RunL.op (OpS.pass rfl rfl rfl ?_)
    refine RunL.op (OpS.pass rfl rfl rfl ?_)
    refine RunL.op (OpS.pick rfl rfl rfl rfl ?_)
    refine RunL.op (OpS.mv rfl rfl rfl ?_)
    refine RunL.op (OpS.pass rfl rfl rfl ?_)
    refine RunL.op (OpS.pass rfl rfl rfl ?_)
    refine RunL.op (OpS.pass rfl rfl rfl ?_)
    refine RunL.op (OpS.pass rfl rfl rfl ?_)
    refine RunL.op (OpS.pick rfl rfl rfl rfl ?_)
    refine RunL.op (OpS.mv rfl rfl rfl ?_)
    refine RunL.op (OpS.pass rfl rfl rfl ?_)
    refine RunL.op (OpS.pass rfl rfl rfl ?_)
    refine RunL.op (OpS.pass rfl rfl rfl ?_)
    refine RunL.op (OpS.pass rfl rfl rfl ?_)
    refine RunL.op (OpS.pass rfl rfl rfl ?_)
    refine RunL.op (OpS.pass rfl rfl rfl ?_)
    refine RunL.op (OpS.pass rfl rfl rfl ?_)
    refine RunL.op (OpS.pass rfl rfl rfl ?_)
    refine RunL.op (OpS.pass rfl rfl rfl ?_)
    refine RunL.op (OpS.pick rfl rfl rfl rfl ?_)
    refine RunL.op (OpS.as rfl rfl rfl ?_)
    refine RunL.nil ?_
    refine Run.slim [(2, .bool false)] ⟨rfl, trivial⟩ ?_
    refine Run.retP rfl (.tmp rfl .nil) ?_
    cases hF
    exact Post.mk' ⟨rfl, rfl, rfl, rfl⟩ (h3.picks .nil) .nil
theorem ref01_Copy_ok {fuel : Nat} {a0 : List Int} {y : (List Int)} (hF : ref01_Copy fuel a0 = some y) {w : World} {v0 : Value} :
    Spec Try.prog 48 [v0].toArray w [(false, .val (Rep.slice (Rep.int .u8)) v0 a0)] [] (fun v Γr Ωr Ωo => ∃ u0 : Value, v = u0 ∧ Γr = [] ∧ Ωr = [(true, .slice 5 (Rep.int .u8) u0 y)] ∧ Ωo = []) := by
  refine Spec.of (L := [(0, v0)]) Try.func48 rfl ⟨rfl, trivial⟩ rfl (fun e h => ?_)
  unfold ref01_Copy at hF
  refine Run.seq ?_
  refine Run.reg ?_
  refine RunL.op (OpS.as rfl rfl rfl ?_)
  refine RunL.nil ?_
  refine Run.slim [(0, v0)] ⟨rfl, trivial⟩ ?_
  refine Run.seq ?_
  refine Run.reg ?_
  refine RunL.op (OpS.as rfl rfl rfl ?_)
  refine RunL.nil ?_
  refine Run.seq ?_
  refine Run.seq ?_
  refine Run.reg ?_
  refine RunL.op (OpS.as rfl rfl rfl ?_)
  refine RunL.nil ?_
  refine Run.block ?_
  have h1 := St.nil 5 (Rep.int .u8) h
  refine Run.slim [(0, v0), (3, (.slice none 0 0)), (4, .int .i64 0)] ⟨rfl, rfl, rfl, trivial⟩ ?_
  refine Run.loopP (σ := (Int × (List Int))) (fun s_ L_ w_ => ∃ u0_ : Value, L_ = [(0, v0), (3, u0_), (4, .int .i64 s_.1)] ∧ St e w_ [(false, .val (Rep.slice (Rep.int .u8)) v0 a0)] [(true, .slice 5 (Rep.int .u8) u0_ s_.2)]) hF ⟨(.slice none 0 0), rfl, (h1.facts (.atm .z .nil)).picks (.cons .z .nil)⟩ (fun k1 hk1 s1 _ w1 hI hF => ?_)
  obtain ⟨u1, rfl, h2⟩ := hI
  refine Run.seq ?_
  refine Run.seq ?_
  refine Run.reg ?_
  refine RunL.op (OpS.mv rfl rfl rfl ?_)
  refine RunL.op (OpS.mv rfl rfl rfl ?_)
  refine RunL.op (OpS.len h2 Try.underlying22 rfl rfl rfl (V.at .z) ?_)
  refine RunL.op (OpS.bin rfl rfl rfl rfl rfl ?_)
  refine RunL.nil ?_
  refine Run.slim [(8, .bool (decide (s1.1 < (a0.length : Int)))), (0, v0), (3, u1), (4, .int .i64 s1.1)] ⟨rfl, rfl, rfl, rfl, trivial⟩ ?_
  refine Run.ite rfl hF (fun e1 hF => ?_) (fun e1 hF => ?_)
  ·
    refine Run.skip ?_
    refine Run.seq ?_
    refine Run.block ?_
    refine Run.reg ?_
    refine RunL.op (OpS.mv rfl rfl rfl ?_)
    refine RunL.op (OpS.mv rfl rfl rfl ?_)
    refine RunL.op (OpS.mv rfl rfl rfl ?_)
    obtain ⟨x1, e2, hF⟩ := bindP_use hF
    refine RunL.op (OpS.iptr h2 Try.underlying22 ty5 rfl rfl rfl rfl (V.at .z) e2 (fun u2 h3 => ?_))
    refine RunL.op (OpS.loadi h3 ty5 rfl rfl rfl .z ?_)
    refine RunL.op (OpS.lit (r := (Rep.int .u8)) (f := true) h3 Try.underlying22 ti5 rfl rfl rfl rfl rfl (.cons rfl V.int .nil) rfl rfl (fun u3 w2 h4 => ?_))
    obtain ⟨x2, e3, hF⟩ := bindP_use hF
    refine RunL.op (OpS.app (f' := true) h4 .z Try.underlying22 ti5 rfl rfl rfl rfl rfl rfl rfl (V.at .z) (.inr Pure.int) e3 (fun u4 w3 h5 => ?_))
    refine RunL.op (OpS.as rfl rfl rfl ?_)
    refine RunL.nil ?_
    refine Run.slim [(3, u4), (0, v0), (4, .int .i64 s1.1)] ⟨rfl, rfl, rfl, trivial⟩ ?_
    refine Run.endBlock ?_
    refine Run.reg ?_
    refine RunL.op (OpS.mv rfl rfl rfl ?_)
    refine RunL.op (OpS.bin rfl rfl rfl rfl rfl ?_)
    refine RunL.op (OpS.as rfl rfl rfl ?_)
    obtain ⟨x3, e4, hF⟩ := letP_use hF
    refine RunL.name e4 ?_
    refine RunL.nil ?_
    refine Run.slim [(4, .int .i64 x3), (3, u4), (0, v0)] ⟨rfl, rfl, rfl, trivial⟩ ?_
    refine Run.slim [(0, v0), (3, u4), (4, .int .i64 x3)] ⟨rfl, rfl, rfl, trivial⟩ ?_
    exact hk1 (x3, x2) _ _ ⟨u4, rfl, (h5.facts (.atm (.s (.s .z)) .nil)).picks (.cons .z .nil)⟩ hF
  ·
    refine Run.exit rfl ?_
    refine Run.seq ?_
    refine Run.reg ?_
    refine RunL.op (OpS.mv rfl rfl rfl ?_)
    refine RunL.op (OpS.as rfl rfl rfl ?_)
    refine RunL.nil ?_
    refine Run.slim [(2, u1)] ⟨rfl, trivial⟩ ?_
    refine Run.retP rfl (.tmp rfl .nil) ?_
    cases hF
    exact Post.mk' ⟨u1, rfl, rfl, rfl, rfl⟩ (h2.picks (.cons .z .nil)) .nil
theorem ref01_Sum8_ok {fuel : Nat} {a0 : List Int} {y : Int} (hF : ref01_Sum8 fuel a0 = some y) {w : World} {v0 : Value} :
    Spec Try.prog 50 [v0].toArray w [(false, .val (Rep.slice (Rep.int .u8)) v0 a0)] [] (fun v Γr Ωr Ωo => v = .int .u8 y ∧ Γr = [] ∧ Ωr = [] ∧ Ωo = []) := by
  refine Spec.of (L := [(0, v0)]) Try.func50 rfl ⟨rfl, trivial⟩ rfl (fun e h => ?_)
  unfold ref01_Sum8 at hF
  refine Run.seq ?_
  refine Run.reg ?_
  refine RunL.op (OpS.as rfl rfl rfl ?_)
  refine RunL.nil ?_
  refine Run.slim [(0, v0)] ⟨rfl, trivial⟩ ?_
  refine Run.seq ?_
  refine Run.reg ?_
  refine RunL.op (OpS.as rfl rfl rfl ?_)
  refine RunL.nil ?_
  refine Run.seq ?_
  refine Run.seq ?_
  refine Run.reg ?_
  refine RunL.op (OpS.as rfl rfl rfl ?_)
  refine RunL.nil ?_
  refine Run.block ?_
  refine Run.slim [(0, v0), (3, .int .i64 0), (4, .int .i64 0)] ⟨rfl, rfl, rfl, trivial⟩ ?_
  refine Run.loopP (σ := (Int × Int)) (fun s_ L_ w_ => L_ = [(0, v0), (3, .int .i64 s_.1), (4, .int .i64 s_.2)] ∧ St e w_ [(false, .val (Rep.slice (Rep.int .u8)) v0 a0)] []) hF ⟨rfl, (h.facts (.atm .z .nil)).picks .nil⟩ (fun k1 hk1 s1 _ w1 hI hF => ?_)
  obtain ⟨rfl, h1⟩ := hI
  refine Run.seq ?_
  refine Run.seq ?_
  refine Run.reg ?_
  refine RunL.op (OpS.mv rfl rfl rfl ?_)
  refine RunL.op (OpS.mv rfl rfl rfl ?_)
  refine RunL.op (OpS.len h1 Try.underlying22 rfl rfl rfl (V.at .z) ?_)
  refine RunL.op (OpS.bin rfl rfl rfl rfl rfl ?_)
  refine RunL.nil ?_
  refine Run.slim [(8, .bool (decide (s1.2 < (a0.length : Int)))), (0, v0), (3, .int .i64 s1.1), (4, .int .i64 s1.2)] ⟨rfl, rfl, rfl, rfl, trivial⟩ ?_
  refine Run.ite rfl hF (fun e1 hF => ?_) (fun e1 hF => ?_)
  ·
    refine Run.skip ?_
    refine Run.seq ?_
    refine Run.block ?_
    refine Run.reg ?_
    refine RunL.op (OpS.mv rfl rfl rfl ?_)
    refine RunL.op (OpS.mv rfl rfl rfl ?_)
    refine RunL.op (OpS.mv rfl rfl rfl ?_)
    obtain ⟨x1, e2, hF⟩ := bindP_use hF
    refine RunL.op (OpS.iptr h1 Try.underlying22 ty5 rfl rfl rfl rfl (V.at .z) e2 (fun u1 h2 => ?_))
    refine RunL.op (OpS.loadi h2 ty5 rfl rfl rfl .z ?_)
    refine RunL.op (OpS.conv Try.underlying5 Try.underlying3 rfl rfl rfl ?_)
    refine RunL.op (OpS.bin rfl rfl rfl rfl rfl ?_)
    refine RunL.op (OpS.rem rfl rfl rfl rfl (by decide) ?_)
    refine RunL.op (OpS.as rfl rfl rfl ?_)
    obtain ⟨x2, e3, hF⟩ := letP_use hF
    refine RunL.name e3 ?_
    refine RunL.nil ?_
    refine Run.slim [(3, .int .i64 x2), (0, v0), (4, .int .i64 s1.2)] ⟨rfl, rfl, rfl, trivial⟩ ?_
    refine Run.endBlock ?_
    refine Run.reg ?_
    refine RunL.op (OpS.mv rfl rfl rfl ?_)
    refine RunL.op (OpS.bin rfl rfl rfl rfl rfl ?_)
    refine RunL.op (OpS.as rfl rfl rfl ?_)
    obtain ⟨x3, e4, hF⟩ := letP_use hF
    refine RunL.name e4 ?_
    refine RunL.nil ?_
    refine Run.slim [(4, .int .i64 x3), (3, .int .i64 x2), (0, v0)] ⟨rfl, rfl, rfl, trivial⟩ ?_
    refine Run.slim [(0, v0), (3, .int .i64 x2), (4, .int .i64 x3)] ⟨rfl, rfl, rfl, trivial⟩ ?_
    exact hk1 (x2, x3) _ _ ⟨rfl, (h2.facts (.atm (.s .z) .nil)).picks .nil⟩ hF
  ·
    refine Run.exit rfl ?_
    refine Run.seq ?_
    refine Run.reg ?_
    refine RunL.op (OpS.mv rfl rfl rfl ?_)
    refine RunL.op (OpS.bin rfl rfl rfl rfl rfl ?_)
    refine RunL.op (OpS.rem rfl rfl rfl rfl (by decide) ?_)
    refine RunL.op (OpS.conv Try.underlying3 Try.underlying5 rfl rfl rfl ?_)
    refine RunL.op (OpS.as rfl rfl rfl ?_)
    obtain ⟨x4, e5, hF⟩ := letP_use hF
    refine RunL.name e5 ?_
    refine RunL.nil ?_
    refine Run.slim [(2, .int .u8 x4)] ⟨rfl, trivial⟩ ?_
    refine Run.retP rfl (.tmp rfl .nil) ?_
    cases hF
    exact Post.mk' ⟨rfl, rfl, rfl, rfl⟩ (h1.picks .nil) .nil
theorem ref01_Seal8_ok {fuel : Nat} {a0 : List Int} {y : (List Int)} (hF : ref01_Seal8 fuel a0 = some y) {w : World} {v0 : Value} :
    Spec Try.prog 29 [v0].toArray w [(false, .val (Rep.slice (Rep.int .u8)) v0 a0)] [] (fun v Γr Ωr Ωo => ∃ u0 : Value, v = u0 ∧ Γr = [] ∧ Ωr = [(true, .slice 5 (Rep.int .u8) u0 y)] ∧ Ωo = []) := by
  refine Spec.of (L := [(0, v0)]) Try.func29 rfl ⟨rfl, trivial⟩ rfl (fun e h => ?_)
  unfold ref01_Seal8 at hF
  refine Run.seq ?_
  refine Run.reg ?_
  refine RunL.op (OpS.as rfl rfl rfl ?_)
  refine RunL.nil ?_
  refine Run.slim [(0, v0)] ⟨rfl, trivial⟩ ?_
  refine Run.seq ?_
  refine Run.reg ?_
  refine RunL.op (OpS.mv rfl rfl rfl ?_)
  obtain ⟨y1, e1, hF⟩ := bindP_use hF
  refine RunL.op (OpS.callP h Try.func48 rfl rfl rfl rfl (vs := [v0]) rfl (ref01_Copy_ok e1) (.cons (V.at .z) .nil) ?_)
  rintro u1 w1 _ _ _ ⟨_, rfl, rfl, rfl, rfl⟩ h1
  have h2 := h1 rfl rfl
  simp only [List.cons_append, List.nil_append] at h2
  refine RunL.op (OpS.mv rfl rfl rfl ?_)
  obtain ⟨y2, e2, hF⟩ := bindP_use hF
  refine RunL.op (OpS.callP h2 Try.func50 rfl rfl rfl rfl (vs := [v0]) rfl (ref01_Sum8_ok e2) (.cons (V.at .z) .nil) ?_)
  rintro _ w2 _ _ _ ⟨rfl, rfl, rfl, rfl⟩ h3
  have h4 := h3 rfl rfl
  simp only [List.cons_append, List.nil_append] at h4
  refine RunL.op (OpS.lit (r := (Rep.int .u8)) (f := true) h4 Try.underlying22 ti5 rfl rfl rfl rfl rfl (.cons rfl V.int .nil) rfl rfl (fun u2 w3 h5 => ?_))
  obtain ⟨x1, e3, hF⟩ := bindP_use hF
  refine RunL.op (OpS.app (f' := true) h5 .z Try.underlying22 ti5 rfl rfl rfl rfl rfl rfl rfl (V.at .z) (.inr Pure.int) e3 (fun u3 w4 h6 => ?_))
  refine RunL.op (OpS.as rfl rfl rfl ?_)
  refine RunL.nil ?_
  refine Run.slim [(2, u3)] ⟨rfl, trivial⟩ ?_
  refine Run.retP rfl (.tmp rfl .nil) ?_
  cases hF
  exact Post.mk' ⟨u3, rfl, rfl, rfl, rfl⟩ (h6.picks (.cons .z .nil)) .nil
theorem ref23_encode_ok {fuel : Nat} {a0 : Message_} {y : (List Int)} (hF : ref23_encode fuel a0 = some y) {w : World} {v0 : Value} :
    Spec Try.prog 44 [v0].toArray w [(false, .val Message_.rep v0 a0)] [] (fun v Γr Ωr Ωo => ∃ u0 : Value, v = u0 ∧ Γr = [] ∧ Ωr = [(true, .slice 5 (Rep.int .u8) u0 y)] ∧ Ωo = []) := by
  refine Spec.of (L := [(0, v0)]) Try.func44 rfl ⟨rfl, trivial⟩ rfl (fun e h => ?_)
  unfold ref23_encode at hF
  refine Run.seq ?_
  refine Run.reg ?_
  refine RunL.op (OpS.boxF h rfl rfl rfl (V.at .z) (fun u1 w1 h1 => ?_))
  refine RunL.op (OpS.as rfl rfl rfl ?_)
  refine RunL.nil ?_
  refine Run.slim [(1, u1)] ⟨rfl, trivial⟩ ?_
  refine Run.seq ?_
  refine Run.reg ?_
  refine RunL.op (OpS.fbox (o3 := 0) h1 .z PA.z fa24_0 rfl rfl rfl rfl ?_)
  refine RunL.op (OpS.loadBi h1 .z PA.a (Get.fld Message_.f0) ty5 rfl rfl rfl ?_)
  refine RunL.op (OpS.bin rfl rfl rfl rfl rfl ?_)
  refine RunL.op (OpS.fbox (o3 := 2) h1 .z PA.z fa24_2 rfl rfl rfl rfl ?_)
  refine RunL.op (OpS.loadBi h1 .z PA.a (Get.fld Message_.f2) ty5 rfl rfl rfl ?_)
  refine RunL.op (OpS.bin rfl rfl rfl rfl rfl ?_)
  refine RunL.op (OpS.fbox (o3 := 4) h1 .z PA.z fa24_4 rfl rfl rfl rfl ?_)
  refine RunL.op (OpS.loadBi h1 .z PA.a (Get.fld Message_.f4) ty3 rfl rfl rfl ?_)
  refine RunL.op (OpS.conv Try.underlying3 Try.underlying5 rfl rfl rfl ?_)
  refine RunL.op (OpS.bin rfl rfl rfl rfl rfl ?_)
  refine RunL.op (OpS.lit (r := (Rep.int .u8)) (f := true) h1 Try.underlying22 ti5 rfl rfl rfl rfl rfl (.cons rfl V.int (.cons rfl V.int .nil)) rfl rfl (fun u2 w2 h2 => ?_))
  obtain ⟨y1, e1, hF⟩ := bindP_use hF
  refine RunL.op (OpS.callP h2 Try.func29 rfl rfl rfl rfl (vs := [u2]) rfl (ref01_Seal8_ok e1) (.cons (V.at .z) .nil) ?_)
  rintro u3 w3 _ _ _ ⟨_, rfl, rfl, rfl, rfl⟩ h3
  have h4 := h3 rfl rfl
  simp only [List.cons_append, List.nil_append] at h4
  refine RunL.op (OpS.as rfl rfl rfl ?_)
  refine RunL.nil ?_
  refine Run.slim [(3, u3), (1, u1)] ⟨rfl, rfl, trivial⟩ ?_
  refine Run.seq ?_
  refine Run.reg ?_
  refine RunL.op (OpS.fbox (o3 := 1) h4 (.s .z) PA.z fa24_1 rfl rfl rfl rfl ?_)
  refine RunL.op (OpS.loadBi h4 (.s .z) PA.a (Get.fld Message_.f1) ty5 rfl rfl rfl ?_)
  refine RunL.op (OpS.bin rfl rfl rfl rfl rfl ?_)
  refine RunL.op (OpS.fbox (o3 := 6) h4 (.s .z) PA.z fa24_6 rfl rfl rfl rfl ?_)
  refine RunL.op (OpS.loadBi h4 (.s .z) PA.a (Get.fld Message_.f6) ty3 rfl rfl rfl ?_)
  refine RunL.op (OpS.bin rfl rfl rfl rfl rfl ?_)
  refine RunL.op (OpS.fbox (o3 := 5) h4 (.s .z) PA.z fa24_5 rfl rfl rfl rfl ?_)
  refine RunL.op (OpS.loadBi h4 (.s .z) PA.a (Get.fld Message_.f5) ty3 rfl rfl rfl ?_)
  refine RunL.op (OpS.bin rfl rfl rfl rfl rfl ?_)
  refine RunL.op (OpS.conv Try.underlying3 Try.underlying5 rfl rfl rfl ?_)
  refine RunL.op (OpS.fbox (o3 := 3) h4 (.s .z) PA.z fa24_3 rfl rfl rfl rfl ?_)
  refine RunL.op (OpS.loadBi h4 (.s .z) PA.a (Get.fld Message_.f3) ty5 rfl rfl rfl ?_)
  refine RunL.op (OpS.litO (r := (Rep.int .u8)) (f := true) h4 Try.underlying22 ti5 rfl rfl rfl rfl rfl (.cons rfl V.int (.cons rfl V.int (.cons rfl V.int .nil))) rfl rfl (fun u4 w4 h5 => ?_))
  refine RunL.op (OpS.as rfl rfl rfl ?_)
  refine RunL.nil ?_
  refine Run.slim [(4, u4), (3, u3), (1, u1)] ⟨rfl, rfl, rfl, trivial⟩ ?_
  refine Run.seq ?_
  refine Run.seq ?_
  refine Run.reg ?_
  refine RunL.op (OpS.fbox (o3 := 2) h5 (.s (.s .z)) PA.z fa24_2 rfl rfl rfl rfl ?_)
  refine RunL.op (OpS.loadBi h5 (.s (.s .z)) PA.a (Get.fld Message_.f2) ty5 rfl rfl rfl ?_)
  refine RunL.op (OpS.rem rfl rfl rfl rfl (by decide) ?_)
  refine RunL.op (OpS.bin rfl rfl rfl rfl rfl ?_)
  refine RunL.nil ?_
  refine Run.slim [(33, .bool ((Int.tmod a0.Function 2) == 1)), (4, u4), (3, u3), (1, u1)] ⟨rfl, rfl, rfl, rfl, trivial⟩ ?_
  refine Run.join (σ := ((List Int))) (fun s_ L_ w_ => ∃ u0_ : Value, L_ = [(1, u1), (3, u3), (4, u0_)] ∧ St e w_ [] [(false, .box 24 Message_.rep u1 a0), (true, .slice 5 (Rep.int .u8) u3 y1), (true, .slice 5 (Rep.int .u8) u0_ s_)]) hF (fun s1 _ w5 hI hF => ?_) (fun j1 hj1 hF => ?_)
  ·
    obtain ⟨u5, rfl, h6⟩ := hI
    refine Run.seq ?_
    refine Run.reg ?_
    refine RunL.op (OpS.mv rfl rfl rfl ?_)
    refine RunL.op (OpS.mv rfl rfl rfl ?_)
    refine RunL.op (OpS.fbox (o3 := 8) h6 .z PA.z fa24_8 rfl rfl rfl rfl ?_)
    refine RunL.op (OpS.loadB h6 .z PA.a (Get.fld Message_.f8) ty22 rfl rfl rfl (fun u6 h7 => ?_))
    obtain ⟨x1, e2, hF⟩ := bindP_use hF
    refine RunL.op (OpS.app (f' := false) h7 (.s (.s .z)) Try.underlying22 ti5 rfl rfl rfl rfl rfl rfl rfl (V.at .z) (.inr Pure.int) e2 (fun u7 w6 h8 => ?_))
    obtain ⟨y2, e3, hF⟩ := bindP_use hF
    refine RunL.op (OpS.callP h8 Try.func29 rfl rfl rfl rfl (vs := [u7]) rfl (ref01_Seal8_ok e3) (.own .z .nil) ?_)
    rintro u8 w7 _ _ _ ⟨_, rfl, rfl, rfl, rfl⟩ h9
    have h10 := h9 rfl rfl
    simp only [List.cons_append, List.nil_append] at h10
    have h11 := (h10.pick .z).freeze
    obtain ⟨x2, e4, hF⟩ := bindP_use hF
    refine RunL.op (OpS.app (f' := true) h11 (.s (.s .z)) Try.underlying22 ti5 rfl rfl rfl rfl rfl rfl rfl (V.at .z) (.inr Pure.int) e4 (fun u9 w8 h12 => ?_))
    refine RunL.op (OpS.as rfl rfl rfl ?_)
    refine RunL.nil ?_
    refine Run.slim [(2, u9)] ⟨rfl, trivial⟩ ?_
    refine Run.retP rfl (.tmp rfl .nil) ?_
    cases hF
    exact Post.mk' ⟨u9, rfl, rfl, rfl, rfl⟩ (h12.picks (.cons .z .nil)) .nil
  ·
    refine Run.ite rfl hF (fun e5 hF => ?_) (fun e5 hF => ?_)
    ·
      refine Run.reg ?_
      refine RunL.op (OpS.mv rfl rfl rfl ?_)
      refine RunL.op (OpS.fbox (o3 := 7) h5 (.s (.s .z)) PA.z fa24_7 rfl rfl rfl rfl ?_)
      refine RunL.op (OpS.loadBi h5 (.s (.s .z)) PA.a (Get.fld Message_.f7) ty5 rfl rfl rfl ?_)
      refine RunL.op (OpS.lit (r := (Rep.int .u8)) (f := true) h5 Try.underlying22 ti5 rfl rfl rfl rfl rfl (.cons rfl V.int .nil) rfl rfl (fun u10 w9 h13 => ?_))
      obtain ⟨x3, e6, hF⟩ := bindP_use hF
      refine RunL.op (OpS.app (f' := true) h13 .z Try.underlying22 ti5 rfl rfl rfl rfl rfl rfl rfl (V.at .z) (.inr Pure.int) e6 (fun u11 w10 h14 => ?_))
      refine RunL.op (OpS.as rfl rfl rfl ?_)
      refine RunL.nil ?_
      refine Run.slim [(4, u11), (3, u3), (1, u1)] ⟨rfl, rfl, rfl, trivial⟩ ?_
      refine Run.slim [(1, u1), (3, u3), (4, u11)] ⟨rfl, rfl, rfl, trivial⟩ ?_
      exact hj1 (x3) _ _ ⟨u11, rfl, (h14.facts .nil).picks (.cons (.s (.s .z)) (.cons (.s .z) (.cons .z .nil)))⟩ hF
    ·
      refine Run.skip ?_
      refine Run.slim [(1, u1), (3, u3), (4, u4)] ⟨rfl, rfl, rfl, trivial⟩ ?_
      exact hj1 ([(IntKind.u8.wrap (2 * a0.From)), (IntKind.u8.wrap (IntKind.i64.wrap ((IntKind.i64.wrap (4 * a0.Sequence)) + a0.FromUnit))), a0.Command]) _ _ ⟨u4, rfl, (h5.facts .nil).picks (.cons (.s (.s .z)) (.cons (.s .z) (.cons .z .nil)))⟩ hF
theorem ref23_Request_ok {fuel : Nat} {a0 : Message_} {y : (List Int) × Int} (hF : ref23_Request fuel a0 = some y) {w : World} {v0 : Value} :
    Spec Try.prog 17 [v0].toArray w [(false, .val Message_.rep v0 a0)] [] (fun v Γr Ωr Ωo => ∃ u0 : Value, v = .tuple #[u0, .int .i64 y.2] ∧ Γr = [] ∧ Ωr = [(true, .slice 5 (Rep.int .u8) u0 y.1)] ∧ Ωo = []) := by
  refine Spec.of (L := [(0, v0)]) Try.func17 rfl ⟨rfl, trivial⟩ rfl (fun e h => ?_)
  unfold ref23_Request at hF
  refine Run.seq ?_
  refine Run.reg ?_
  refine RunL.op (OpS.boxF h rfl rfl rfl (V.at .z) (fun u1 w1 h1 => ?_))
  refine RunL.op (OpS.as rfl rfl rfl ?_)
  refine RunL.op (OpS.as rfl rfl rfl ?_)
  refine RunL.nil ?_
  refine Run.slim [(1, u1)] ⟨rfl, trivial⟩ ?_
  refine Run.seq ?_
  refine Run.seq ?_
  refine Run.reg ?_
  refine RunL.op (OpS.loadB h1 .z PA.z Get.id ty24 rfl rfl rfl (fun u2 h2 => ?_))
  obtain ⟨y1, e1, hF⟩ := bindP_use hF
  refine RunL.op (OpS.callP h2 Try.func21 rfl rfl rfl rfl (vs := [u2]) rfl (ref23_Valid_ok e1) (.cons (V.at .z) .nil) ?_)
  rintro _ w2 _ _ _ ⟨rfl, rfl, rfl, rfl⟩ h3
  have h4 := h3 rfl rfl
  simp only [List.cons_append, List.nil_append] at h4
  refine RunL.op (OpS.not rfl rfl rfl ?_)
  refine RunL.op (OpS.mv rfl rfl rfl ?_)
  refine RunL.join (σ := Bool) (fun s_ L_ w_ => L_ = [(1, u1), (12, .bool s_)] ∧ St e w_ [] [(false, .box 24 Message_.rep u1 a0)]) hF (fun s1 _ w3 hI hF => ?_) (fun j1 hj1 hF => ?_)
  ·
    obtain ⟨rfl, h5⟩ := hI
    refine Run.ite rfl hF (fun e2 hF => ?_) (fun e2 hF => ?_)
    ·
      refine Run.seq ?_
      refine Run.reg ?_
      refine RunL.op (OpS.as rfl rfl rfl ?_)
      refine RunL.op (OpS.as rfl rfl rfl ?_)
      refine RunL.nil ?_
      refine Run.slim [(3, .int .i64 1), (2, .slice none 0 0)] ⟨rfl, rfl, trivial⟩ ?_
      have h6 := St.nil 5 (Rep.int .u8) h5
      refine Run.retP rfl (.tmp rfl (.tmp rfl .nil)) ?_
      cases hF
      exact Post.mk' ⟨(.slice none 0 0), rfl, rfl, rfl, rfl⟩ (h6.picks (.cons .z .nil)) .nil
    ·
      refine Run.skip ?_
      refine Run.seq ?_
      refine Run.reg ?_
      refine RunL.op (OpS.loadB h5 .z PA.z Get.id ty24 rfl rfl rfl (fun u3 h7 => ?_))
      obtain ⟨y2, e3, hF⟩ := bindP_use hF
      refine RunL.op (OpS.callP h7 Try.func44 rfl rfl rfl rfl (vs := [u3]) rfl (ref23_encode_ok e3) (.cons (V.at .z) .nil) ?_)
      rintro u4 w4 _ _ _ ⟨_, rfl, rfl, rfl, rfl⟩ h8
      have h9 := h8 rfl rfl
      simp only [List.cons_append, List.nil_append] at h9
      refine RunL.op (OpS.as rfl rfl rfl ?_)
      refine RunL.op (OpS.as rfl rfl rfl ?_)
      refine RunL.nil ?_
      refine Run.slim [(3, .int .i64 0), (2, u4)] ⟨rfl, rfl, trivial⟩ ?_
      refine Run.retP rfl (.tmp rfl (.tmp rfl .nil)) ?_
      cases hF
      exact Post.mk' ⟨u4, rfl, rfl, rfl, rfl⟩ (h9.picks (.cons .z .nil)) .nil
  ·
    refine RunL.caseb hF (fun e4 hF => ?_) (fun e4 hF => ?_)
    ·
      refine RunL.op (OpS.pass rfl rfl rfl ?_)
      refine RunL.op (OpS.pass rfl rfl rfl ?_)
      refine RunL.op (OpS.pass rfl rfl rfl ?_)
      refine RunL.op (OpS.pass rfl rfl rfl ?_)
      refine RunL.op (OpS.pick rfl rfl rfl rfl ?_)
      refine RunL.nil ?_
      refine Run.slim [(12, .bool true), (1, u1)] ⟨rfl, rfl, trivial⟩ ?_
      refine Run.slim [(1, u1), (12, .bool true)] ⟨rfl, rfl, trivial⟩ ?_
      exact hj1 (true) _ _ ⟨rfl, (h4.facts .nil).picks (.cons .z .nil)⟩ hF
    ·
      refine RunL.op (OpS.fbox (o3 := 2) h4 .z PA.z fa24_2 rfl rfl rfl rfl ?_)
      refine RunL.op (OpS.loadBi h4 .z PA.a (Get.fld Message_.f2) ty5 rfl rfl rfl ?_)
      refine RunL.op (OpS.rem rfl rfl rfl rfl (by decide) ?_)
      refine RunL.op (OpS.bin rfl rfl rfl rfl rfl ?_)
      refine RunL.op (OpS.pick rfl rfl rfl rfl ?_)
      refine RunL.nil ?_
      refine Run.slim [(12, .bool ((Int.tmod a0.Function 2) != 0)), (1, u1)] ⟨rfl, rfl, trivial⟩ ?_
      refine Run.slim [(1, u1), (12, .bool ((Int.tmod a0.Function 2) != 0))] ⟨rfl, rfl, trivial⟩ ?_
      exact hj1 ((Int.tmod a0.Function 2) != 0) _ _ ⟨rfl, (h4.facts .nil).picks (.cons .z .nil)⟩ hF
theorem message_Response_ok {fuel : Nat} {a0 : Message_} {y : (List Int) × Int} (hF : message_Response fuel a0 = some y) {w : World} {v0 : Value} :
    Spec Try.prog 18 [v0].toArray w [(false, .val Message_.rep v0 a0)] [] (fun v Γr Ωr Ωo => ∃ u0 : Value, v = .tuple #[u0, .int .i64 y.2] ∧ Γr = [] ∧ Ωr = [(true, .slice 5 (Rep.int .u8) u0 y.1)] ∧ Ωo = []) := by
  refine Spec.of (L := [(0, v0)]) Try.func18 rfl ⟨rfl, trivial⟩ rfl (fun e h => ?_)
  unfold message_Response at hF
  refine Run.seq ?_
  refine Run.reg ?_
  refine RunL.op (OpS.boxF h rfl rfl rfl (V.at .z) (fun u1 w1 h1 => ?_))
  refine RunL.op (OpS.as rfl rfl rfl ?_)
  refine RunL.op (OpS.as rfl rfl rfl ?_)
  refine RunL.nil ?_
  refine Run.slim [(1, u1)] ⟨rfl, trivial⟩ ?_
  refine Run.seq ?_
  refine Run.seq ?_
  refine Run.reg ?_
  refine RunL.op (OpS.loadB h1 .z PA.z Get.id ty24 rfl rfl rfl (fun u2 h2 => ?_))
  obtain ⟨y1, e1, hF⟩ := bindP_use hF
  refine RunL.op (OpS.callP h2 Try.func20 rfl rfl rfl rfl (vs := [u2]) rfl (message_Valid_ok e1) (.cons (V.at .z) .nil) ?_)
  rintro _ w2 _ _ _ ⟨rfl, rfl, rfl, rfl⟩ h3
  have h4 := h3 rfl rfl
  simp only [List.cons_append, List.nil_append] at h4
  refine RunL.op (OpS.not rfl rfl rfl ?_)
  refine RunL.op (OpS.mv rfl rfl rfl ?_)
  refine RunL.join (σ := Bool) (fun s_ L_ w_ => L_ = [(1, u1), (10, .bool s_)] ∧ St e w_ [] [(false, .box 24 Message_.rep u1 a0)]) hF (fun s1 _ w3 hI hF => ?_) (fun j1 hj1 hF => ?_)
  ·
    obtain ⟨rfl, h5⟩ := hI
    refine Run.ite rfl hF (fun e2 hF => ?_) (fun e2 hF => ?_)
    ·
      refine Run.seq ?_
      refine Run.reg ?_
      refine RunL.op (OpS.as rfl rfl rfl ?_)
      refine RunL.op (OpS.as rfl rfl rfl ?_)
      refine RunL.nil ?_
      refine Run.slim [(3, .int .i64 1), (2, .slice none 0 0)] ⟨rfl, rfl, trivial⟩ ?_
      have h6 := St.nil 5 (Rep.int .u8) h5
      refine Run.retP rfl (.tmp rfl (.tmp rfl .nil)) ?_
      cases hF
      exact Post.mk' ⟨(.slice none 0 0), rfl, rfl, rfl, rfl⟩ (h6.picks (.cons .z .nil)) .nil
    ·
      refine Run.skip ?_
      refine Run.seq ?_
      refine Run.reg ?_
      refine RunL.op (OpS.loadB h5 .z PA.z Get.id ty24 rfl rfl rfl (fun u3 h7 => ?_))
      obtain ⟨y2, e3, hF⟩ := bindP_use hF
      refine RunL.op (OpS.callP h7 Try.func43 rfl rfl rfl rfl (vs := [u3]) rfl (message_encode_ok e3) (.cons (V.at .z) .nil) ?_)
      rintro u4 w4 _ _ _ ⟨_, rfl, rfl, rfl, rfl⟩ h8
      have h9 := h8 rfl rfl
      simp only [List.cons_append, List.nil_append] at h9
      refine RunL.op (OpS.as rfl rfl rfl ?_)
      refine RunL.op (OpS.as rfl rfl rfl ?_)
      refine RunL.nil ?_
      refine Run.slim [(3, .int .i64 0), (2, u4)] ⟨rfl, rfl, trivial⟩ ?_
      refine Run.retP rfl (.tmp rfl (.tmp rfl .nil)) ?_
      cases hF
      exact Post.mk' ⟨u4, rfl, rfl, rfl, rfl⟩ (h9.picks (.cons .z .nil)) .nil
  ·
    refine RunL.caseb hF (fun e4 hF => ?_) (fun e4 hF => ?_)
    ·
      refine RunL.op (OpS.pass rfl rfl rfl ?_)
      refine RunL.op (OpS.pass rfl rfl rfl ?_)
      refine RunL.op (OpS.pick rfl rfl rfl rfl ?_)
      refine RunL.nil ?_
      refine Run.slim [(10, .bool true), (1, u1)] ⟨rfl, rfl, trivial⟩ ?_
      refine Run.slim [(1, u1), (10, .bool true)] ⟨rfl, rfl, trivial⟩ ?_
      exact hj1 (true) _ _ ⟨rfl, (h4.facts .nil).picks (.cons .z .nil)⟩ hF
    ·
      refine RunL.op (OpS.loadB h4 .z PA.z Get.id ty24 rfl rfl rfl (fun u5 h10 => ?_))
      obtain ⟨y3, e5, hF⟩ := bindP_use hF
      refine RunL.op (OpS.callP h10 Try.func42 rfl rfl rfl rfl (vs := [u5]) rfl (message_request_ok e5) (.cons (V.at .z) .nil) ?_)
      rintro _ w5 _ _ _ ⟨rfl, rfl, rfl, rfl⟩ h11
      have h12 := h11 rfl rfl
      simp only [List.cons_append, List.nil_append] at h12
      refine RunL.op (OpS.pick rfl rfl rfl rfl ?_)
      refine RunL.nil ?_
      refine Run.slim [(10, .bool y3), (1, u1)] ⟨rfl, rfl, trivial⟩ ?_
      refine Run.slim [(1, u1), (10, .bool y3)] ⟨rfl, rfl, trivial⟩ ?_
      exact hj1 (y3) _ _ ⟨rfl, (h12.facts .nil).picks (.cons .z .nil)⟩ hF
theorem ref23_Response_ok {fuel : Nat} {a0 : Message_} {y : (List Int) × Int} (hF : ref23_Response fuel a0 = some y) {w : World} {v0 : Value} :
    Spec Try.prog 19 [v0].toArray w [(false, .val Message_.rep v0 a0)] [] (fun v Γr Ωr Ωo => ∃ u0 : Value, v = .tuple #[u0, .int .i64 y.2] ∧ Γr = [] ∧ Ωr = [(true, .slice 5 (Rep.int .u8) u0 y.1)] ∧ Ωo = []) := by
  refine Spec.of (L := [(0, v0)]) Try.func19 rfl ⟨rfl, trivial⟩ rfl (fun e h => ?_)
  unfold ref23_Response at hF
  refine Run.seq ?_
  refine Run.reg ?_
  refine RunL.op (OpS.boxF h rfl rfl rfl (V.at .z) (fun u1 w1 h1 => ?_))
  refine RunL.op (OpS.as rfl rfl rfl ?_)
  refine RunL.op (OpS.as rfl rfl rfl ?_)
  refine RunL.nil ?_
  refine Run.slim [(1, u1)] ⟨rfl, trivial⟩ ?_
  refine Run.seq ?_
  refine Run.seq ?_
  refine Run.reg ?_
  refine RunL.op (OpS.loadB h1 .z PA.z Get.id ty24 rfl rfl rfl (fun u2 h2 => ?_))
  obtain ⟨y1, e1, hF⟩ := bindP_use hF
  refine RunL.op (OpS.callP h2 Try.func21 rfl rfl rfl rfl (vs := [u2]) rfl (ref23_Valid_ok e1) (.cons (V.at .z) .nil) ?_)
  rintro _ w2 _ _ _ ⟨rfl, rfl, rfl, rfl⟩ h3
  have h4 := h3 rfl rfl
  simp only [List.cons_append, List.nil_append] at h4
  refine RunL.op (OpS.not rfl rfl rfl ?_)
  refine RunL.op (OpS.mv rfl rfl rfl ?_)
  refine RunL.join (σ := Bool) (fun s_ L_ w_ => L_ = [(1, u1), (12, .bool s_)] ∧ St e w_ [] [(false, .box 24 Message_.rep u1 a0)]) hF (fun s1 _ w3 hI hF => ?_) (fun j1 hj1 hF => ?_)
  ·
    obtain ⟨rfl, h5⟩ := hI
    refine Run.ite rfl hF (fun e2 hF => ?_) (fun e2 hF => ?_)
    ·
      refine Run.seq ?_
      refine Run.reg ?_
      refine RunL.op (OpS.as rfl rfl rfl ?_)
      refine RunL.op (OpS.as rfl rfl rfl ?_)
      refine RunL.nil ?_
      refine Run.slim [(3, .int .i64 1), (2, .slice none 0 0)] ⟨rfl, rfl, trivial⟩ ?_
      have h6 := St.nil 5 (Rep.int .u8) h5
      refine Run.retP rfl (.tmp rfl (.tmp rfl .nil)) ?_
      cases hF
      exact Post.mk' ⟨(.slice none 0 0), rfl, rfl, rfl, rfl⟩ (h6.picks (.cons .z .nil)) .nil
    ·
      refine Run.skip ?_
      refine Run.seq ?_
      refine Run.reg ?_
      refine RunL.op (OpS.loadB h5 .z PA.z Get.id ty24 rfl rfl rfl (fun u3 h7 => ?_))
      obtain ⟨y2, e3, hF⟩ := bindP_use hF
      refine RunL.op (OpS.callP h7 Try.func44 rfl rfl rfl rfl (vs := [u3]) rfl (ref23_encode_ok e3) (.cons (V.at .z) .nil) ?_)
      rintro u4 w4 _ _ _ ⟨_, rfl, rfl, rfl, rfl⟩ h8
      have h9 := h8 rfl rfl
      simp only [List.cons_append, List.nil_append] at h9
      refine RunL.op (OpS.as rfl rfl rfl ?_)
      refine RunL.op (OpS.as rfl rfl rfl ?_)
      refine RunL.nil ?_
      refine Run.slim [(3, .int .i64 0), (2, u4)] ⟨rfl, rfl, trivial⟩ ?_
      refine Run.retP rfl (.tmp rfl (.tmp rfl .nil)) ?_
      cases hF
      exact Post.mk' ⟨u4, rfl, rfl, rfl, rfl⟩ (h9.picks (.cons .z .nil)) .nil
  ·
    refine RunL.caseb hF (fun e4 hF => ?_) (fun e4 hF => ?_)
    ·
      refine RunL.op (OpS.pass rfl rfl rfl ?_)
      refine RunL.op (OpS.pass rfl rfl rfl ?_)
      refine RunL.op (OpS.pass rfl rfl rfl ?_)
      refine RunL.op (OpS.pass rfl rfl rfl ?_)
      refine RunL.op (OpS.pick rfl rfl rfl rfl ?_)
      refine RunL.nil ?_
      refine Run.slim [(12, .bool true), (1, u1)] ⟨rfl, rfl, trivial⟩ ?_
      refine Run.slim [(1, u1), (12, .bool true)] ⟨rfl, rfl, trivial⟩ ?_
      exact hj1 (true) _ _ ⟨rfl, (h4.facts .nil).picks (.cons .z .nil)⟩ hF
    ·
      refine RunL.op (OpS.fbox (o3 := 2) h4 .z PA.z fa24_2 rfl rfl rfl rfl ?_)
      refine RunL.op (OpS.loadBi h4 .z PA.a (Get.fld Message_.f2) ty5 rfl rfl rfl ?_)
      refine RunL.op (OpS.rem rfl rfl rfl rfl (by decide) ?_)
      refine RunL.op (OpS.bin rfl rfl rfl rfl rfl ?_)
      refine RunL.op (OpS.pick rfl rfl rfl rfl ?_)
      refine RunL.nil ?_
      refine Run.slim [(12, .bool ((Int.tmod a0.Function 2) != 1)), (1, u1)] ⟨rfl, rfl, trivial⟩ ?_
      refine Run.slim [(1, u1), (12, .bool ((Int.tmod a0.Function 2) != 1))] ⟨rfl, rfl, trivial⟩ ?_
      exact hj1 ((Int.tmod a0.Function 2) != 1) _ _ ⟨rfl, (h4.facts .nil).picks (.cons .z .nil)⟩ hF
set_option maxHeartbeats 8000000 in
theorem law23_MessageBytes_ok {fuel : Nat} {a0 : Message_} {a1 : List Int} {y : Bool} (hF : law23_MessageBytes fuel a0 a1 = some y) {w : World} {v0 v1 : Value} :
    Spec Try.prog 3 [v0, v1].toArray w [(false, .val Message_.rep v0 a0), (false, .val (Rep.slice (Rep.int .i64)) v1 a1)] [] (fun v Γr Ωr Ωo => v = .bool y ∧ Γr = [] ∧ Ωr = [] ∧ Ωo = []) := by
  refine Spec.of (L := [(0, v0), (1, v1)]) Try.func3 rfl ⟨rfl, rfl, trivial⟩ rfl (fun e h => ?_)
  unfold law23_MessageBytes at hF
  refine Run.seq ?_
  refine Run.reg ?_
  refine RunL.op (OpS.boxF h rfl rfl rfl (V.at .z) (fun u1 w1 h1 => ?_))
  refine RunL.op (OpS.as rfl rfl rfl ?_)
  refine RunL.nil ?_
  refine Run.slim [(2, u1), (1, v1)] ⟨rfl, rfl, trivial⟩ ?_
  refine Run.seq ?_
  refine Run.seq ?_
  refine Run.reg ?_
  refine RunL.op (OpS.fbox (o3 := 8) h1 .z PA.z fa24_8 rfl rfl rfl rfl ?_)
  refine RunL.op (OpS.loadB h1 .z PA.a (Get.fld Message_.f8) ty22 rfl rfl rfl (fun u2 h2 => ?_))
  refine RunL.op (OpS.len h2 Try.underlying22 rfl rfl rfl (V.at .z) ?_)
  refine RunL.op (OpS.bin rfl rfl rfl rfl rfl ?_)
  refine RunL.op (OpS.mv rfl rfl rfl ?_)
  refine RunL.join (σ := Bool) (fun s_ L_ w_ => L_ = [(1, v1), (2, u1), (25, .bool s_)] ∧ St e w_ [(false, .val (Rep.slice (Rep.int .i64)) v1 a1)] [(false, .box 24 Message_.rep u1 a0)]) hF (fun s1 _ w2 hI hF => ?_) (fun j1 hj1 hF => ?_)
  ·
    obtain ⟨rfl, h3⟩ := hI
    refine Run.ite rfl hF (fun e1 hF => ?_) (fun e1 hF => ?_)
    ·
      refine Run.seq ?_
      refine Run.reg ?_
      obtain ⟨y1, e2, hF⟩ := bindP_use hF
      refine RunL.op (OpS.callP h3 Try.func10 rfl rfl rfl rfl (vs := []) rfl (law23_awake_ok e2) .nil ?_)
      rintro _ w3 _ _ _ ⟨rfl, rfl, rfl, rfl⟩ h4
      have h5 := h4 rfl rfl
      simp only [List.cons_append, List.nil_append] at h5
      refine RunL.op (OpS.as rfl rfl rfl ?_)
      refine RunL.nil ?_
      refine Run.slim [(4, .bool y1)] ⟨rfl, trivial⟩ ?_
      refine Run.retP rfl (.tmp rfl .nil) ?_
      cases hF
      exact Post.mk' ⟨rfl, rfl, rfl, rfl⟩ (h5.picks .nil) .nil
    ·
      refine Run.skip ?_
      refine Run.seq ?_
      refine Run.reg ?_
      refine RunL.op (OpS.mv rfl rfl rfl ?_)
      obtain ⟨y2, e3, hF⟩ := bindP_use hF
      have h6 := h3.front .nil
      refine RunL.op (OpS.callO h6 Try.func11 rfl rfl rfl rfl (vs := [v1]) rfl (made_Roll_ok e3) rfl (.cons (V.at .z) .nil) ?_)
      rintro u3 w4 _ _ _ ⟨_, rfl, rfl, rfl, rfl⟩ h7
      have h8 := h7
      simp only [List.cons_append, List.nil_append] at h8
      refine RunL.op (OpS.as rfl rfl rfl ?_)
      refine RunL.nil ?_
      refine Run.slim [(5, u3), (2, u1)] ⟨rfl, rfl, trivial⟩ ?_
      refine Run.seq ?_
      refine Run.reg ?_
      refine RunL.op (OpS.mv rfl rfl rfl ?_)
      refine RunL.op (OpS.mv rfl rfl rfl ?_)
      obtain ⟨y3, e4, hF⟩ := bindP_use hF
      have h9 := h8.front (.cons .z .nil)
      refine RunL.op (OpS.callO h9 Try.func13 rfl rfl rfl rfl (vs := [u3, .int .i64 2]) rfl (made_Dice_Bool_ok e4) rfl .nil ?_)
      rintro _ w5 _ _ _ ⟨rfl, rfl, rfl, rfl⟩ h10
      have h11 := h10
      simp only [List.cons_append, List.nil_append] at h11
      obtain ⟨y4, e5, hF⟩ := bindP_use hF
      have h12 := h11.front (.cons .z .nil)
      refine RunL.op (OpS.callO h12 Try.func12 rfl rfl rfl rfl (vs := [u3, .bool y3.1]) rfl (made_Dice_Message_ok e5) rfl .nil ?_)
      rintro u4 w6 _ _ _ ⟨_, rfl, rfl, rfl, rfl⟩ h13
      have h14 := h13
      simp only [List.cons_append, List.nil_append] at h14
      refine RunL.op (OpS.alloc h14 ti24 Message_.zr rfl rfl (fun u5 w7 h15 => ?_))
      refine RunL.op (OpS.storeB (f' := true) h15 .z PA.z Put.id ty24 rfl rfl rfl (V.at .z) (.inl rfl) (fun w8 h16 => ?_))
      refine RunL.nil ?_
      refine Run.slim [(6, u5), (5, u3), (2, u1)] ⟨rfl, rfl, rfl, trivial⟩ ?_
      refine Run.seq ?_
      refine Run.seq ?_
      refine Run.reg ?_
      refine RunL.op (OpS.mv rfl rfl rfl ?_)
      obtain ⟨y5, e6, hF⟩ := bindP_use hF
      have h17 := h16.front (.cons (.s .z) .nil)
      refine RunL.op (OpS.callO h17 Try.func14 rfl rfl rfl rfl (vs := [u3, .int .i64 7]) rfl (made_Dice_Next_ok e6) rfl .nil ?_)
      rintro _ w9 _ _ _ ⟨rfl, rfl, rfl, rfl⟩ h18
      have h19 := h18
      simp only [List.cons_append, List.nil_append] at h19
      refine RunL.nil ?_
      refine Run.slim [(34, .int .i64 y5.1), (6, u5), (5, u3), (2, u1)] ⟨rfl, rfl, rfl, rfl, trivial⟩ ?_
      refine Run.block ?_
      refine Run.seq ?_
      refine Run.reg ?_
      refine RunL.op (OpS.bin rfl rfl rfl rfl rfl ?_)
      refine RunL.op (OpS.as rfl rfl rfl ?_)
      obtain ⟨x1, e7, hF⟩ := letP_use hF
      refine RunL.nameb e7 ?_
      refine RunL.nil ?_
      refine Run.slim [(35, .bool x1), (34, .int .i64 y5.1), (6, u5), (5, u3), (2, u1)] ⟨rfl, rfl, rfl, rfl, rfl, trivial⟩ ?_
      refine Run.join (σ := (made_Dice × Message_)) (fun s_ L_ w_ => L_ = [(2, u1), (5, u3), (6, u5)] ∧ St e w_ [] [(false, .box 24 Message_.rep u1 a0), (false, .box 77 made_Dice.rep u3 s_.1), (true, .box 24 Message_.rep u5 s_.2)]) hF (fun s2 _ w10 hI hF => ?_) (fun j2 hj2 hF => ?_)
      ·
        obtain ⟨rfl, h20⟩ := hI
        refine Run.endBlock ?_
        refine Run.seq ?_
        refine Run.seq ?_
        obtain ⟨y6, e8, hF⟩ := bindP_use hF
        obtain ⟨y7, e9, hF⟩ := bindP_use hF
        refine Run.drawV (Ωs := []) [⟨some 67, none, fun u_ => [(false, .val Message_.rep u_ a0)], fun ds_ u_ => [], [], [(0, [])], none⟩, ⟨some 68, some (u3), fun _ => [], fun ds_ u_ => [], [], [], none⟩, ⟨some 69, none, fun u_ => [(true, .val Message_.rep u_ y6.1)], fun ds_ u_ => [(false, .box 77 made_Dice.rep u3 y6.2)], [1], [], none⟩, ⟨some 70, some (u3), fun _ => [], fun ds_ u_ => [], [], [], none⟩, ⟨some 71, none, fun u_ => [(true, .val Message_.rep u_ y7.1)], fun ds_ u_ => [(false, .box 77 made_Dice.rep u3 y7.2)], [5], [], none⟩, ⟨some 72, none, fun u_ => [(true, .val Message_.rep u_ s2.2)], fun ds_ u_ => [], [], [(2, [])], none⟩, ⟨some 73, none, fun u_ => [(false, .val (Rep.slice Message_.rep) u_ ([a0, y6.1, y7.1, s2.2]))], fun ds_ u_ => [], [], [], none⟩, ⟨some 74, some (.int .i64 (([a0, y6.1, y7.1, s2.2]).length : Int)), fun _ => [], fun ds_ u_ => [], [], [], none⟩, ⟨some 75, some (.int .i64 0), fun _ => [], fun ds_ u_ => [], [], [], none⟩] [[], [], [1], [], [3], [], [0, 2, 4, 5], [6], []] [[(false, .box 24 Message_.rep u1 a0)], [(false, .box 77 made_Dice.rep u3 s2.1)], [(true, .box 24 Message_.rep u5 s2.2)]] [0, 2, 3, 4, 6, 7, 8, 9, 10, 11] Try_mixed rfl rfl rfl h20 (.cons ?_ (.cons ?_ (.cons ?_ (.cons ?_ (.cons ?_ (.cons ?_ (.cons ?_ (.cons ?_ (.cons ?_ .nil))))))))) (fun q1 w hq1 h => ?_)
        · intro q1 w Γx Ωx h
          have h : St e w ([] ++ Γx) ([(false, .box 24 Message_.rep u1 a0)] ++ Ωx) := h
          refine OpS.loadB h .z PA.z Get.id ty24 rfl rfl rfl (fun u h30 => ?_)
          exact ⟨u, rfl, trivial, h30⟩
        · intro q1 w Γx Ωx h
          refine OpS.mv rfl rfl rfl ?_
          exact ⟨undef, rfl, trivial, h⟩
        · intro q1 w Γx Ωx h
          have h : St e w ([] ++ Γx) ([(false, .box 77 made_Dice.rep u3 s2.1)] ++ Ωx) := h
          have h31 := h.front (.cons .z .nil)
          refine OpS.callO h31 Try.func12 rfl rfl rfl rfl (vs := [u3, .bool false]) rfl (made_Dice_Message_ok e8) rfl .nil ?_
          rintro u w14 _ _ _ ⟨_, rfl, rfl, rfl, rfl⟩ h32
          have h33 := h32
          simp only [List.cons_append, List.nil_append] at h33
          exact ⟨u, rfl, trivial, h33⟩
        · intro q1 w Γx Ωx h
          refine OpS.mv rfl rfl rfl ?_
          exact ⟨undef, rfl, trivial, h⟩
        · intro q1 w Γx Ωx h
          have h : St e w ([] ++ Γx) ([(false, .box 77 made_Dice.rep u3 y6.2)] ++ Ωx) := h
          have h34 := h.front (.cons .z .nil)
          refine OpS.callO h34 Try.func12 rfl rfl rfl rfl (vs := [u3, .bool true]) rfl (made_Dice_Message_ok e9) rfl .nil ?_
          rintro u w15 _ _ _ ⟨_, rfl, rfl, rfl, rfl⟩ h35
          have h36 := h35
          simp only [List.cons_append, List.nil_append] at h36
          exact ⟨u, rfl, trivial, h36⟩
        · intro q1 w Γx Ωx h
          have h : St e w ([] ++ Γx) ([(true, .box 24 Message_.rep u5 s2.2)] ++ Ωx) := h
          refine OpS.loadB h .z PA.z Get.id ty24 rfl rfl rfl (fun u h37 => ?_)
          exact ⟨u, rfl, trivial, h37⟩
        · intro q1 w Γx Ωx h
          refine OpS.lit (r := Message_.rep) (f := false) h Try.underlying34 ti24 rfl rfl rfl rfl rfl (.cons rfl (V.at .z) (.cons rfl (V.weak (V.at (.s .z))) (.cons rfl (V.weak (V.at (.s (.s .z)))) (.cons rfl (V.weak (V.at (.s (.s (.s .z))))) .nil)))) rfl rfl (fun u w16 h38 => ?_)
          exact ⟨u, rfl, trivial, h38⟩
        · intro q1 w Γx Ωx h
          refine OpS.len h Try.underlying34 rfl rfl rfl (V.at .z) ?_
          exact ⟨undef, rfl, trivial, h⟩
        · intro q1 w Γx Ωx h
          refine OpS.mv rfl rfl rfl ?_
          exact ⟨undef, rfl, trivial, h⟩
        have h39 : St e w [(false, .val Message_.rep (q1 0) a0), (true, .val Message_.rep (q1 2) y6.1), (true, .val Message_.rep (q1 4) y7.1), (true, .val Message_.rep (q1 5) s2.2), (false, .val (Rep.slice Message_.rep) (q1 6) ([a0, y6.1, y7.1, s2.2]))] [(false, .box 24 Message_.rep u1 a0), (true, .box 24 Message_.rep u5 s2.2), (false, .box 77 made_Dice.rep u3 y7.2)] := h
        refine RunL.nil ?_
        refine Run.slim [(73, (q1 6)), (74, .int .i64 (([a0, y6.1, y7.1, s2.2]).length : Int)), (75, .int .i64 0)] ⟨rfl, rfl, rfl, trivial⟩ ?_
        refine Run.block ?_
        refine Run.slim [(73, (q1 6)), (74, .int .i64 (([a0, y6.1, y7.1, s2.2]).length : Int)), (75, .int .i64 0)] ⟨rfl, rfl, rfl, trivial⟩ ?_
        refine Run.loopP (σ := Int) (fun s_ L_ w_ => L_ = [(73, (q1 6)), (74, .int .i64 (([a0, y6.1, y7.1, s2.2]).length : Int)), (75, .int .i64 s_)] ∧ St e w_ [(false, .val (Rep.slice Message_.rep) (q1 6) ([a0, y6.1, y7.1, s2.2]))] []) hF ⟨rfl, (h39.facts (.atm (.s (.s (.s (.s .z)))) .nil)).picks .nil⟩ (fun k1 hk1 s3 _ w17 hI hF => ?_)
        obtain ⟨rfl, h40⟩ := hI
        refine Run.seq ?_
        refine Run.reg ?_
        refine RunL.op (OpS.bin rfl rfl rfl rfl rfl ?_)
        refine RunL.nil ?_
        refine Run.seq ?_
        refine Run.ite rfl hF (fun e10 hF => ?_) (fun e10 hF => ?_)
        ·
          refine Run.skip ?_
          refine Run.seq ?_
          refine Run.block ?_
          refine Run.seq ?_
          refine Run.reg ?_
          obtain ⟨x2, e11, hF⟩ := bindP_use hF
          refine RunL.op (OpS.iptr h40 Try.underlying34 ty24 rfl rfl rfl rfl (V.at .z) e11 (fun u6 h41 => ?_))
          refine RunL.op (OpS.load h41 ty24 rfl rfl rfl .z (fun u7 h42 => ?_))
          refine RunL.op (OpS.alloc h42 ti24 Message_.zr rfl rfl (fun u8 w18 h43 => ?_))
          have h44 := (h43.pick .z).weak
          refine RunL.op (OpS.storeB (f' := false) h44 .z PA.z Put.id ty24 rfl rfl rfl (V.at .z) (.inr rfl) (fun w19 h45 => ?_))
          refine RunL.nil ?_
          refine Run.slim [(8, u8), (73, (q1 6)), (74, .int .i64 (([a0, y6.1, y7.1, s2.2]).length : Int)), (75, .int .i64 s3)] ⟨rfl, rfl, rfl, rfl, trivial⟩ ?_
          refine Run.seq ?_
          refine Run.reg ?_
          refine RunL.op (OpS.loadB h45 .z PA.z Get.id ty24 rfl rfl rfl (fun u9 h46 => ?_))
          obtain ⟨y8, e12, hF⟩ := bindP_use hF
          refine RunL.op (OpS.callP h46 Try.func16 rfl rfl rfl rfl (vs := [u9]) rfl (message_Request_ok e12) (.cons (V.at .z) .nil) ?_)
          rintro _ w20 _ _ _ ⟨u10, rfl, rfl, rfl, rfl⟩ h47
          have h48 := h47 rfl rfl
          simp only [List.cons_append, List.nil_append] at h48
          refine RunL.op (OpS.mv rfl rfl rfl ?_)
          refine RunL.op (OpS.ext rfl rfl rfl rfl ?_)
          refine RunL.op (OpS.ext rfl rfl rfl rfl ?_)
          refine RunL.op (OpS.as rfl rfl rfl ?_)
          have h49 := (h48.pick .z).freeze
          refine RunL.op (OpS.as rfl rfl rfl ?_)
          refine RunL.nil ?_
          refine Run.slim [(10, .int .i64 y8.2), (9, u10), (8, u8), (73, (q1 6)), (74, .int .i64 (([a0, y6.1, y7.1, s2.2]).length : Int)), (75, .int .i64 s3)] ⟨rfl, rfl, rfl, rfl, rfl, rfl, trivial⟩ ?_
          refine Run.seq ?_
          refine Run.reg ?_
          refine RunL.op (OpS.loadB h49 .z PA.z Get.id ty24 rfl rfl rfl (fun u11 h50 => ?_))
          obtain ⟨y9, e13, hF⟩ := bindP_use hF
          refine RunL.op (OpS.callP h50 Try.func17 rfl rfl rfl rfl (vs := [u11]) rfl (ref23_Request_ok e13) (.cons (V.at .z) .nil) ?_)
          rintro _ w21 _ _ _ ⟨u12, rfl, rfl, rfl, rfl⟩ h51
          have h52 := h51 rfl rfl
          simp only [List.cons_append, List.nil_append] at h52
          refine RunL.op (OpS.mv rfl rfl rfl ?_)
          refine RunL.op (OpS.ext rfl rfl rfl rfl ?_)
          refine RunL.op (OpS.ext rfl rfl rfl rfl ?_)
          refine RunL.op (OpS.as rfl rfl rfl ?_)
          have h53 := (h52.pick .z).freeze
          refine RunL.op (OpS.as rfl rfl rfl ?_)
          refine RunL.nil ?_
          refine Run.slim [(12, .int .i64 y9.2), (11, u12), (10, .int .i64 y8.2), (9, u10), (8, u8), (73, (q1 6)), (74, .int .i64 (([a0, y6.1, y7.1, s2.2]).length : Int)), (75, .int .i64 s3)] ⟨rfl, rfl, rfl, rfl, rfl, rfl, rfl, rfl, trivial⟩ ?_
          refine Run.seq ?_
          refine Run.reg ?_
          refine RunL.op (OpS.loadB h53 .z PA.z Get.id ty24 rfl rfl rfl (fun u13 h54 => ?_))
          obtain ⟨y10, e14, hF⟩ := bindP_use hF
          refine RunL.op (OpS.callP h54 Try.func18 rfl rfl rfl rfl (vs := [u13]) rfl (message_Response_ok e14) (.cons (V.at .z) .nil) ?_)
          rintro _ w22 _ _ _ ⟨u14, rfl, rfl, rfl, rfl⟩ h55
          have h56 := h55 rfl rfl
          simp only [List.cons_append, List.nil_append] at h56
          refine RunL.op (OpS.mv rfl rfl rfl ?_)
          refine RunL.op (OpS.ext rfl rfl rfl rfl ?_)
          refine RunL.op (OpS.ext rfl rfl rfl rfl ?_)
          refine RunL.op (OpS.as rfl rfl rfl ?_)
          have h57 := (h56.pick .z).freeze
          refine RunL.op (OpS.as rfl rfl rfl ?_)
          refine RunL.nil ?_
          refine Run.slim [(14, .int .i64 y10.2), (13, u14), (12, .int .i64 y9.2), (11, u12), (10, .int .i64 y8.2), (9, u10), (8, u8), (73, (q1 6)), (74, .int .i64 (([a0, y6.1, y7.1, s2.2]).length : Int)), (75, .int .i64 s3)] ⟨rfl, rfl, rfl, rfl, rfl, rfl, rfl, rfl, rfl, rfl, trivial⟩ ?_
          refine Run.seq ?_
          refine Run.reg ?_
          refine RunL.op (OpS.loadB h57 .z PA.z Get.id ty24 rfl rfl rfl (fun u15 h58 => ?_))
          obtain ⟨y11, e15, hF⟩ := bindP_use hF
          refine RunL.op (OpS.callP h58 Try.func19 rfl rfl rfl rfl (vs := [u15]) rfl (ref23_Response_ok e15) (.cons (V.at .z) .nil) ?_)
          rintro _ w23 _ _ _ ⟨u16, rfl, rfl, rfl, rfl⟩ h59
          have h60 := h59 rfl rfl
          simp only [List.cons_append, List.nil_append] at h60
          refine RunL.op (OpS.mv rfl rfl rfl ?_)
          refine RunL.op (OpS.ext rfl rfl rfl rfl ?_)
          refine RunL.op (OpS.ext rfl rfl rfl rfl ?_)
          refine RunL.op (OpS.as rfl rfl rfl ?_)
          have h61 := (h60.pick .z).freeze
          refine RunL.op (OpS.as rfl rfl rfl ?_)
          refine RunL.nil ?_
          refine Run.slim [(16, .int .i64 y11.2), (15, u16), (14, .int .i64 y10.2), (13, u14), (12, .int .i64 y9.2), (11, u12), (10, .int .i64 y8.2), (9, u10), (8, u8), (73, (q1 6)), (74, .int .i64 (([a0, y6.1, y7.1, s2.2]).length : Int)), (75, .int .i64 s3)] ⟨rfl, rfl, rfl, rfl, rfl, rfl, rfl, rfl, rfl, rfl, rfl, rfl, trivial⟩ ?_
          refine Run.seq ?_
          refine Run.join (σ := Bool) (fun s_ L_ w_ => L_ = [(73, (q1 6)), (74, .int .i64 (([a0, y6.1, y7.1, s2.2]).length : Int)), (75, .int .i64 s3), (125, .bool s_)] ∧ St e w_ [(false, .val (Rep.slice Message_.rep) (q1 6) ([a0, y6.1, y7.1, s2.2]))] []) hF (fun s4 _ w24 hI hF => ?_) (fun j3 hj3 hF => ?_)
          ·
            obtain ⟨rfl, h62⟩ := hI
            refine Run.ite rfl hF (fun e16 hF => ?_) (fun e16 hF => ?_)
            ·
              refine Run.seq ?_
              refine Run.reg ?_
              refine RunL.op (OpS.as rfl rfl rfl ?_)
              refine RunL.nil ?_
              refine Run.slim [(4, .bool false)] ⟨rfl, trivial⟩ ?_
              refine Run.retP rfl (.tmp rfl .nil) ?_
              cases hF
              exact Post.mk' ⟨rfl, rfl, rfl, rfl⟩ (h62.picks .nil) .nil
            ·
              refine Run.skip ?_
              refine Run.endBlock ?_
              refine Run.reg ?_
              refine RunL.op (OpS.bin rfl rfl rfl rfl rfl ?_)
              refine RunL.op (OpS.mv rfl rfl rfl ?_)
              refine RunL.nil ?_
              refine Run.slim [(75, .int .i64 (IntKind.i64.wrap (s3 + 1))), (73, (q1 6)), (74, .int .i64 (([a0, y6.1, y7.1, s2.2]).length : Int))] ⟨rfl, rfl, rfl, trivial⟩ ?_
              refine Run.slim [(73, (q1 6)), (74, .int .i64 (([a0, y6.1, y7.1, s2.2]).length : Int)), (75, .int .i64 (IntKind.i64.wrap (s3 + 1)))] ⟨rfl, rfl, rfl, trivial⟩ ?_
              exact hk1 ((IntKind.i64.wrap (s3 + 1))) _ _ ⟨rfl, (h62.facts (.atm .z .nil)).picks .nil⟩ hF
          ·
            obtain ⟨y12, e17, hF⟩ := bindP_use hF
            obtain ⟨y13, e18, hF⟩ := bindP_use hF
            obtain ⟨x3, e19, hF⟩ := letP_use hF
            refine iteP_use hF (fun e20 hF => ?_) (fun e20 hF => ?_)
            ·
              have hG := hF
              subst e20
              have hF := hG
              refine Run.drawV (Ωs := []) [⟨some 99, none, fun u_ => [(false, .val Message_.rep u_ x2)], fun ds_ u_ => [], [], [(0, [])], none⟩, ⟨some 100, some (.bool y12), fun _ => [], fun ds_ u_ => [], [], [], none⟩, ⟨some 101, none, fun u_ => [(false, .val Message_.rep u_ x2)], fun ds_ u_ => [], [], [(0, [])], none⟩, ⟨some 102, some (.bool y13), fun _ => [], fun ds_ u_ => [], [], [], none⟩, ⟨some 103, some (.bool (y12 != y13)), fun _ => [], fun ds_ u_ => [], [], [], none⟩, ⟨some 104, some (.bool true), fun _ => [], fun ds_ u_ => [], [], [], none⟩, ⟨some 105, some undef, fun _ => [], fun _ _ => [], [], [], none⟩, ⟨some 106, some undef, fun _ => [], fun _ _ => [], [], [], none⟩, ⟨some 107, some undef, fun _ => [], fun _ _ => [], [], [], none⟩, ⟨some 108, some (.bool true), fun _ => [], fun ds_ u_ => [], [], [], none⟩, ⟨some 109, some (.bool true), fun _ => [], fun ds_ u_ => [], [], [], none⟩, ⟨some 110, some undef, fun _ => [], fun _ _ => [], [], [], none⟩, ⟨some 111, some undef, fun _ => [], fun _ _ => [], [], [], none⟩, ⟨some 112, some undef, fun _ => [], fun _ _ => [], [], [], none⟩, ⟨some 113, some (.bool true), fun _ => [], fun ds_ u_ => [], [], [], none⟩, ⟨some 114, some (.bool true), fun _ => [], fun ds_ u_ => [], [], [], none⟩, ⟨some 115, some undef, fun _ => [], fun _ _ => [], [], [], none⟩, ⟨some 116, some undef, fun _ => [], fun _ _ => [], [], [], none⟩, ⟨some 117, some undef, fun _ => [], fun _ _ => [], [], [], none⟩, ⟨some 118, some undef, fun _ => [], fun _ _ => [], [], [], none⟩, ⟨some 119, some (.bool true), fun _ => [], fun ds_ u_ => [], [], [], none⟩, ⟨some 120, some (.bool true), fun _ => [], fun ds_ u_ => [], [], [], none⟩, ⟨some 121, some undef, fun _ => [], fun _ _ => [], [], [], none⟩, ⟨some 122, some undef, fun _ => [], fun _ _ => [], [], [], none⟩, ⟨some 123, some undef, fun _ => [], fun _ _ => [], [], [], none⟩, ⟨some 124, some undef, fun _ => [], fun _ _ => [], [], [], none⟩, ⟨some 125, some (.bool true), fun _ => [], fun ds_ u_ => [], [], [], none⟩] [[], [0], [], [2], [1, 3], [4], [5], [5], [5], [5, 8], [9], [10], [10], [10], [10, 13], [14], [15], [15], [15], [15], [15, 19], [20], [21], [21], [21], [21], [21, 25]] [[(false, .box 24 Message_.rep u8 x2)]] [0, 1, 2, 3, 4, 5, 6, 7, 8, 9, 10, 11, 12, 13, 14, 15, 16, 17, 18, 19, 20, 21, 22, 23, 24, 25, 26, 27] Try_mixed rfl rfl rfl h61 (.cons ?_ (.cons ?_ (.cons ?_ (.cons ?_ (.cons ?_ (.cons ?_ (.cons ?_ (.cons ?_ (.cons ?_ (.cons ?_ (.cons ?_ (.cons ?_ (.cons ?_ (.cons ?_ (.cons ?_ (.cons ?_ (.cons ?_ (.cons ?_ (.cons ?_ (.cons ?_ (.cons ?_ (.cons ?_ (.cons ?_ (.cons ?_ (.cons ?_ (.cons ?_ (.cons ?_ .nil))))))))))))))))))))))))))) (fun q2 w hq2 h => ?_)
              · intro q2 w Γx Ωx h
                have h : St e w ([(true, .val (Rep.slice (Rep.int .u8)) u16 y11.1), (false, .val Message_.rep u15 x2), (true, .val (Rep.slice (Rep.int .u8)) u14 y10.1), (false, .val Message_.rep u13 x2), (true, .val (Rep.slice (Rep.int .u8)) u12 y9.1), (false, .val Message_.rep u11 x2), (true, .val (Rep.slice (Rep.int .u8)) u10 y8.1), (false, .val Message_.rep u9 x2), (false, .val Message_.rep u7 x2), (false, .ptr Message_.rep u6 x2), (false, .val (Rep.slice Message_.rep) (q1 6) ([a0, y6.1, y7.1, s2.2]))] ++ Γx) ([(false, .box 24 Message_.rep u8 x2)] ++ Ωx) := h
                refine OpS.loadB h .z PA.z Get.id ty24 rfl rfl rfl (fun u h69 => ?_)
                exact ⟨u, rfl, trivial, h69⟩
              · intro q2 w Γx Ωx h
                refine OpS.callP h Try.func20 rfl rfl rfl rfl (vs := [(q2 0)]) rfl (message_Valid_ok e17) (.cons (V.at .z) .nil) ?_
                rintro _ w27 _ _ _ ⟨rfl, rfl, rfl, rfl⟩ h70
                have h71 := h70 rfl rfl
                simp only [List.cons_append, List.nil_append] at h71
                exact ⟨undef, rfl, trivial, h71⟩
              · intro q2 w Γx Ωx h
                have h : St e w ([(true, .val (Rep.slice (Rep.int .u8)) u16 y11.1), (false, .val Message_.rep u15 x2), (true, .val (Rep.slice (Rep.int .u8)) u14 y10.1), (false, .val Message_.rep u13 x2), (true, .val (Rep.slice (Rep.int .u8)) u12 y9.1), (false, .val Message_.rep u11 x2), (true, .val (Rep.slice (Rep.int .u8)) u10 y8.1), (false, .val Message_.rep u9 x2), (false, .val Message_.rep u7 x2), (false, .ptr Message_.rep u6 x2), (false, .val (Rep.slice Message_.rep) (q1 6) ([a0, y6.1, y7.1, s2.2]))] ++ Γx) ([(false, .box 24 Message_.rep u8 x2)] ++ Ωx) := h
                refine OpS.loadB h .z PA.z Get.id ty24 rfl rfl rfl (fun u h72 => ?_)
                exact ⟨u, rfl, trivial, h72⟩
              · intro q2 w Γx Ωx h
                refine OpS.callP h Try.func21 rfl rfl rfl rfl (vs := [(q2 2)]) rfl (ref23_Valid_ok e18) (.cons (V.at .z) .nil) ?_
                rintro _ w28 _ _ _ ⟨rfl, rfl, rfl, rfl⟩ h73
                have h74 := h73 rfl rfl
                simp only [List.cons_append, List.nil_append] at h74
                exact ⟨undef, rfl, trivial, h74⟩
              · intro q2 w Γx Ωx h
                refine OpS.neb Try.underlying4 rfl rfl rfl rfl ?_
                exact ⟨undef, rfl, trivial, h⟩
              · intro q2 w Γx Ωx h
                refine OpS.mv rfl rfl rfl ?_
                exact ⟨undef, (congrArg (fun z_ => some (Value.bool z_)) e19), trivial, h⟩
              · intro q2 w Γx Ωx h
                exact OpS.pass rfl rfl rfl ⟨undef, rfl, trivial, h⟩
              · intro q2 w Γx Ωx h
                exact OpS.pass rfl rfl rfl ⟨undef, rfl, trivial, h⟩
              · intro q2 w Γx Ωx h
                exact OpS.pass rfl rfl rfl ⟨undef, rfl, trivial, h⟩
              · intro q2 w Γx Ωx h
                refine OpS.pick rfl rfl rfl rfl ?_
                exact ⟨undef, rfl, trivial, h⟩
              · intro q2 w Γx Ωx h
                refine OpS.mv rfl rfl rfl ?_
                exact ⟨undef, rfl, trivial, h⟩
              · intro q2 w Γx Ωx h
                exact OpS.pass rfl rfl rfl ⟨undef, rfl, trivial, h⟩
              · intro q2 w Γx Ωx h
                exact OpS.pass rfl rfl rfl ⟨undef, rfl, trivial, h⟩
              · intro q2 w Γx Ωx h
                exact OpS.pass rfl rfl rfl ⟨undef, rfl, trivial, h⟩
              · intro q2 w Γx Ωx h
                refine OpS.pick rfl rfl rfl rfl ?_
                exact ⟨undef, rfl, trivial, h⟩
              · intro q2 w Γx Ωx h
                refine OpS.mv rfl rfl rfl ?_
                exact ⟨undef, rfl, trivial, h⟩
              · intro q2 w Γx Ωx h
                exact OpS.pass rfl rfl rfl ⟨undef, rfl, trivial, h⟩
              · intro q2 w Γx Ωx h
                exact OpS.pass rfl rfl rfl ⟨undef, rfl, trivial, h⟩
              · intro q2 w Γx Ωx h
                exact OpS.pass rfl rfl rfl ⟨undef, rfl, trivial, h⟩
              · intro q2 w Γx Ωx h
                exact OpS.pass rfl rfl rfl ⟨undef, rfl, trivial, h⟩
              · intro q2 w Γx Ωx h
                refine OpS.pick rfl rfl rfl rfl ?_
                exact ⟨undef, rfl, trivial, h⟩
              · intro q2 w Γx Ωx h
                refine OpS.mv rfl rfl rfl ?_
                exact ⟨undef, rfl, trivial, h⟩
              · intro q2 w Γx Ωx h
                exact OpS.pass rfl rfl rfl ⟨undef, rfl, trivial, h⟩
              · intro q2 w Γx Ωx h
                exact OpS.pass rfl rfl rfl ⟨undef, rfl, trivial, h⟩
              · intro q2 w Γx Ωx h
                exact OpS.pass rfl rfl rfl ⟨undef, rfl, trivial, h⟩
              · intro q2 w Γx Ωx h
                exact OpS.pass rfl rfl rfl ⟨undef, rfl, trivial, h⟩
              · intro q2 w Γx Ωx h
                refine OpS.pick rfl rfl rfl rfl ?_
                exact ⟨undef, rfl, trivial, h⟩
              have h75 : St e w [(false, .val Message_.rep (q2 0) x2), (false, .val Message_.rep (q2 2) x2), (true, .val (Rep.slice (Rep.int .u8)) u16 y11.1), (false, .val Message_.rep u15 x2), (true, .val (Rep.slice (Rep.int .u8)) u14 y10.1), (false, .val Message_.rep u13 x2), (true, .val (Rep.slice (Rep.int .u8)) u12 y9.1), (false, .val Message_.rep u11 x2), (true, .val (Rep.slice (Rep.int .u8)) u10 y8.1), (false, .val Message_.rep u9 x2), (false, .val Message_.rep u7 x2), (false, .ptr Message_.rep u6 x2), (false, .val (Rep.slice Message_.rep) (q1 6) ([a0, y6.1, y7.1, s2.2]))] [(false, .box 24 Message_.rep u8 x2)] := h
              refine RunL.nil ?_
              refine Run.slim [(125, .bool true), (73, (q1 6)), (74, .int .i64 (([a0, y6.1, y7.1, s2.2]).length : Int)), (75, .int .i64 s3)] ⟨rfl, rfl, rfl, rfl, trivial⟩ ?_
              refine Run.slim [(73, (q1 6)), (74, .int .i64 (([a0, y6.1, y7.1, s2.2]).length : Int)), (75, .int .i64 s3), (125, .bool true)] ⟨rfl, rfl, rfl, rfl, trivial⟩ ?_
              exact hj3 (true) _ _ ⟨rfl, (h75.facts (.atm (.s (.s (.s (.s (.s (.s (.s (.s (.s (.s (.s (.s .z)))))))))))) .nil)).picks .nil⟩ hF
            ·
              have hG := hF
              subst e20
              have hF := hG
              obtain ⟨x4, e21, hF⟩ := letP_use hF
              refine iteP_use hF (fun e22 hF => ?_) (fun e22 hF => ?_)
              ·
                have hG := hF
                subst e22
                have hF := hG
                refine Run.drawV (Ωs := []) [⟨some 99, none, fun u_ => [(false, .val Message_.rep u_ x2)], fun ds_ u_ => [], [], [(0, [])], none⟩, ⟨some 100, some (.bool y12), fun _ => [], fun ds_ u_ => [], [], [], none⟩, ⟨some 101, none, fun u_ => [(false, .val Message_.rep u_ x2)], fun ds_ u_ => [], [], [(0, [])], none⟩, ⟨some 102, some (.bool y13), fun _ => [], fun ds_ u_ => [], [], [], none⟩, ⟨some 103, some (.bool (y12 != y13)), fun _ => [], fun ds_ u_ => [], [], [], none⟩, ⟨some 104, some (.bool false), fun _ => [], fun ds_ u_ => [], [], [], none⟩, ⟨some 105, some (.int .i64 y8.2), fun _ => [], fun ds_ u_ => [], [], [], none⟩, ⟨some 106, some (.int .i64 y9.2), fun _ => [], fun ds_ u_ => [], [], [], none⟩, ⟨some 107, some (.bool (y8.2 != y9.2)), fun _ => [], fun ds_ u_ => [], [], [], none⟩, ⟨some 108, some (.bool (y8.2 != y9.2)), fun _ => [], fun ds_ u_ => [], [], [], none⟩, ⟨some 109, some (.bool true), fun _ => [], fun ds_ u_ => [], [], [], none⟩, ⟨some 110, some undef, fun _ => [], fun _ _ => [], [], [], none⟩, ⟨some 111, some undef, fun _ => [], fun _ _ => [], [], [], none⟩, ⟨some 112, some undef, fun _ => [], fun _ _ => [], [], [], none⟩, ⟨some 113, some (.bool true), fun _ => [], fun ds_ u_ => [], [], [], none⟩, ⟨some 114, some (.bool true), fun _ => [], fun ds_ u_ => [], [], [], none⟩, ⟨some 115, some undef, fun _ => [], fun _ _ => [], [], [], none⟩, ⟨some 116, some undef, fun _ => [], fun _ _ => [], [], [], none⟩, ⟨some 117, some undef, fun _ => [], fun _ _ => [], [], [], none⟩, ⟨some 118, some undef, fun _ => [], fun _ _ => [], [], [], none⟩, ⟨some 119, some (.bool true), fun _ => [], fun ds_ u_ => [], [], [], none⟩, ⟨some 120, some (.bool true), fun _ => [], fun ds_ u_ => [], [], [], none⟩, ⟨some 121, some undef, fun _ => [], fun _ _ => [], [], [], none⟩, ⟨some 122, some undef, fun _ => [], fun _ _ => [], [], [], none⟩, ⟨some 123, some undef, fun _ => [], fun _ _ => [], [], [], none⟩, ⟨some 124, some undef, fun _ => [], fun _ _ => [], [], [], none⟩, ⟨some 125, some (.bool true), fun _ => [], fun ds_ u_ => [], [], [], none⟩] [[], [0], [], [2], [1, 3], [4], [5], [5], [6, 7, 5], [5, 8], [9], [10], [10], [10], [10, 13], [14], [15], [15], [15], [15], [15, 19], [20], [21], [21], [21], [21], [21, 25]] [[(false, .box 24 Message_.rep u8 x2)]] [0, 1, 2, 3, 4, 5, 6, 7, 8, 9, 10, 11, 12, 13, 14, 15, 16, 17, 18, 19, 20, 21, 22, 23, 24, 25, 26, 27] Try_mixed rfl rfl rfl h61 (.cons ?_ (.cons ?_ (.cons ?_ (.cons ?_ (.cons ?_ (.cons ?_ (.cons ?_ (.cons ?_ (.cons ?_ (.cons ?_ (.cons ?_ (.cons ?_ (.cons ?_ (.cons ?_ (.cons ?_ (.cons ?_ (.cons ?_ (.cons ?_ (.cons ?_ (.cons ?_ (.cons ?_ (.cons ?_ (.cons ?_ (.cons ?_ (.cons ?_ (.cons ?_ (.cons ?_ .nil))))))))))))))))))))))))))) (fun q2 w hq3 h => ?_)
                · intro q2 w Γx Ωx h
                  have h : St e w ([(true, .val (Rep.slice (Rep.int .u8)) u16 y11.1), (false, .val Message_.rep u15 x2), (true, .val (Rep.slice (Rep.int .u8)) u14 y10.1), (false, .val Message_.rep u13 x2), (true, .val (Rep.slice (Rep.int .u8)) u12 y9.1), (false, .val Message_.rep u11 x2), (true, .val (Rep.slice (Rep.int .u8)) u10 y8.1), (false, .val Message_.rep u9 x2), (false, .val Message_.rep u7 x2), (false, .ptr Message_.rep u6 x2), (false, .val (Rep.slice Message_.rep) (q1 6) ([a0, y6.1, y7.1, s2.2]))] ++ Γx) ([(false, .box 24 Message_.rep u8 x2)] ++ Ωx) := h
                  refine OpS.loadB h .z PA.z Get.id ty24 rfl rfl rfl (fun u h76 => ?_)
                  exact ⟨u, rfl, trivial, h76⟩
                · intro q2 w Γx Ωx h
                  refine OpS.callP h Try.func20 rfl rfl rfl rfl (vs := [(q2 0)]) rfl (message_Valid_ok e17) (.cons (V.at .z) .nil) ?_
                  rintro _ w29 _ _ _ ⟨rfl, rfl, rfl, rfl⟩ h77
                  have h78 := h77 rfl rfl
                  simp only [List.cons_append, List.nil_append] at h78
                  exact ⟨undef, rfl, trivial, h78⟩
                · intro q2 w Γx Ωx h
                  have h : St e w ([(true, .val (Rep.slice (Rep.int .u8)) u16 y11.1), (false, .val Message_.rep u15 x2), (true, .val (Rep.slice (Rep.int .u8)) u14 y10.1), (false, .val Message_.rep u13 x2), (true, .val (Rep.slice (Rep.int .u8)) u12 y9.1), (false, .val Message_.rep u11 x2), (true, .val (Rep.slice (Rep.int .u8)) u10 y8.1), (false, .val Message_.rep u9 x2), (false, .val Message_.rep u7 x2), (false, .ptr Message_.rep u6 x2), (false, .val (Rep.slice Message_.rep) (q1 6) ([a0, y6.1, y7.1, s2.2]))] ++ Γx) ([(false, .box 24 Message_.rep u8 x2)] ++ Ωx) := h
                  refine OpS.loadB h .z PA.z Get.id ty24 rfl rfl rfl (fun u h79 => ?_)
                  exact ⟨u, rfl, trivial, h79⟩
                · intro q2 w Γx Ωx h
                  refine OpS.callP h Try.func21 rfl rfl rfl rfl (vs := [(q2 2)]) rfl (ref23_Valid_ok e18) (.cons (V.at .z) .nil) ?_
                  rintro _ w30 _ _ _ ⟨rfl, rfl, rfl, rfl⟩ h80
                  have h81 := h80 rfl rfl
                  simp only [List.cons_append, List.nil_append] at h81
                  exact ⟨undef, rfl, trivial, h81⟩
                · intro q2 w Γx Ωx h
                  refine OpS.neb Try.underlying4 rfl rfl rfl rfl ?_
                  exact ⟨undef, rfl, trivial, h⟩
                · intro q2 w Γx Ωx h
                  refine OpS.mv rfl rfl rfl ?_
                  exact ⟨undef, (congrArg (fun z_ => some (Value.bool z_)) e19), trivial, h⟩
                · intro q2 w Γx Ωx h
                  refine OpS.mv rfl rfl rfl ?_
                  exact ⟨undef, rfl, trivial, h⟩
                · intro q2 w Γx Ωx h
                  refine OpS.mv rfl rfl rfl ?_
                  exact ⟨undef, rfl, trivial, h⟩
                · intro q2 w Γx Ωx h
                  refine OpS.bin rfl rfl rfl rfl rfl ?_
                  exact ⟨undef, rfl, trivial, h⟩
                · intro q2 w Γx Ωx h
                  refine OpS.pick rfl rfl rfl rfl ?_
                  exact ⟨undef, rfl, trivial, h⟩
                · intro q2 w Γx Ωx h
                  refine OpS.mv rfl rfl rfl ?_
                  exact ⟨undef, (congrArg (fun z_ => some (Value.bool z_)) e21), trivial, h⟩
                · intro q2 w Γx Ωx h
                  exact OpS.pass rfl rfl rfl ⟨undef, rfl, trivial, h⟩
                · intro q2 w Γx Ωx h
                  exact OpS.pass rfl rfl rfl ⟨undef, rfl, trivial, h⟩
                · intro q2 w Γx Ωx h
                  exact OpS.pass rfl rfl rfl ⟨undef, rfl, trivial, h⟩
                · intro q2 w Γx Ωx h
                  refine OpS.pick rfl rfl rfl rfl ?_
                  exact ⟨undef, rfl, trivial, h⟩
                · intro q2 w Γx Ωx h
                  refine OpS.mv rfl rfl rfl ?_
                  exact ⟨undef, rfl, trivial, h⟩
                · intro q2 w Γx Ωx h
                  exact OpS.pass rfl rfl rfl ⟨undef, rfl, trivial, h⟩
                · intro q2 w Γx Ωx h
                  exact OpS.pass rfl rfl rfl ⟨undef, rfl, trivial, h⟩
                · intro q2 w Γx Ωx h
                  exact OpS.pass rfl rfl rfl ⟨undef, rfl, trivial, h⟩
                · intro q2 w Γx Ωx h
                  exact OpS.pass rfl rfl rfl ⟨undef, rfl, trivial, h⟩
                · intro q2 w Γx Ωx h
                  refine OpS.pick rfl rfl rfl rfl ?_
                  exact ⟨undef, rfl, trivial, h⟩
                · intro q2 w Γx Ωx h
                  refine OpS.mv rfl rfl rfl ?_
                  exact ⟨undef, rfl, trivial, h⟩
                · intro q2 w Γx Ωx h
                  exact OpS.pass rfl rfl rfl ⟨undef, rfl, trivial, h⟩
                · intro q2 w Γx Ωx h
                  exact OpS.pass rfl rfl rfl ⟨undef, rfl, trivial, h⟩
                · intro q2 w Γx Ωx h
                  exact OpS.pass rfl rfl rfl ⟨undef, rfl, trivial, h⟩
                · intro q2 w Γx Ωx h
                  exact OpS.pass rfl rfl rfl ⟨undef, rfl, trivial, h⟩
                · intro q2 w Γx Ωx h
                  refine OpS.pick rfl rfl rfl rfl ?_
                  exact ⟨undef, rfl, trivial, h⟩
                have h82 : St e w [(false, .val Message_.rep (q2 0) x2), (false, .val Message_.rep (q2 2) x2), (true, .val (Rep.slice (Rep.int .u8)) u16 y11.1), (false, .val Message_.rep u15 x2), (true, .val (Rep.slice (Rep.int .u8)) u14 y10.1), (false, .val Message_.rep u13 x2), (true, .val (Rep.slice (Rep.int .u8)) u12 y9.1), (false, .val Message_.rep u11 x2), (true, .val (Rep.slice (Rep.int .u8)) u10 y8.1), (false, .val Message_.rep u9 x2), (false, .val Message_.rep u7 x2), (false, .ptr Message_.rep u6 x2), (false, .val (Rep.slice Message_.rep) (q1 6) ([a0, y6.1, y7.1, s2.2]))] [(false, .box 24 Message_.rep u8 x2)] := h
                refine RunL.nil ?_
                refine Run.slim [(125, .bool true), (73, (q1 6)), (74, .int .i64 (([a0, y6.1, y7.1, s2.2]).length : Int)), (75, .int .i64 s3)] ⟨rfl, rfl, rfl, rfl, trivial⟩ ?_
                refine Run.slim [(73, (q1 6)), (74, .int .i64 (([a0, y6.1, y7.1, s2.2]).length : Int)), (75, .int .i64 s3), (125, .bool true)] ⟨rfl, rfl, rfl, rfl, trivial⟩ ?_
                exact hj3 (true) _ _ ⟨rfl, (h82.facts (.atm (.s (.s (.s (.s (.s (.s (.s (.s (.s (.s (.s (.s .z)))))))))))) .nil)).picks .nil⟩ hF
              ·
                have hG := hF
                subst e22
                have hF := hG
                obtain ⟨x5, e23, hF⟩ := letP_use hF
                refine iteP_use hF (fun e24 hF => ?_) (fun e24 hF => ?_)
                ·
                  have hG := hF
                  subst e24
                  have hF := hG
                  refine Run.drawV (Ωs := []) [⟨some 99, none, fun u_ => [(false, .val Message_.rep u_ x2)], fun ds_ u_ => [], [], [(0, [])], none⟩, ⟨some 100, some (.bool y12), fun _ => [], fun ds_ u_ => [], [], [], none⟩, ⟨some 101, none, fun u_ => [(false, .val Message_.rep u_ x2)], fun ds_ u_ => [], [], [(0, [])], none⟩, ⟨some 102, some (.bool y13), fun _ => [], fun ds_ u_ => [], [], [], none⟩, ⟨some 103, some (.bool (y12 != y13)), fun _ => [], fun ds_ u_ => [], [], [], none⟩, ⟨some 104, some (.bool false), fun _ => [], fun ds_ u_ => [], [], [], none⟩, ⟨some 105, some (.int .i64 y8.2), fun _ => [], fun ds_ u_ => [], [], [], none⟩, ⟨some 106, some (.int .i64 y9.2), fun _ => [], fun ds_ u_ => [], [], [], none⟩, ⟨some 107, some (.bool (y8.2 != y9.2)), fun _ => [], fun ds_ u_ => [], [], [], none⟩, ⟨some 108, some (.bool (y8.2 != y9.2)), fun _ => [], fun ds_ u_ => [], [], [], none⟩, ⟨some 109, some (.bool false), fun _ => [], fun ds_ u_ => [], [], [], none⟩, ⟨some 110, some (.int .i64 y10.2), fun _ => [], fun ds_ u_ => [], [], [], none⟩, ⟨some 111, some (.int .i64 y11.2), fun _ => [], fun ds_ u_ => [], [], [], none⟩, ⟨some 112, some (.bool (y10.2 != y11.2)), fun _ => [], fun ds_ u_ => [], [], [], none⟩, ⟨some 113, some (.bool (y10.2 != y11.2)), fun _ => [], fun ds_ u_ => [], [], [], none⟩, ⟨some 114, some (.bool true), fun _ => [], fun ds_ u_ => [], [], [], none⟩, ⟨some 115, some undef, fun _ => [], fun _ _ => [], [], [], none⟩, ⟨some 116, some undef, fun _ => [], fun _ _ => [], [], [], none⟩, ⟨some 117, some undef, fun _ => [], fun _ _ => [], [], [], none⟩, ⟨some 118, some undef, fun _ => [], fun _ _ => [], [], [], none⟩, ⟨some 119, some (.bool true), fun _ => [], fun ds_ u_ => [], [], [], none⟩, ⟨some 120, some (.bool true), fun _ => [], fun ds_ u_ => [], [], [], none⟩, ⟨some 121, some undef, fun _ => [], fun _ _ => [], [], [], none⟩, ⟨some 122, some undef, fun _ => [], fun _ _ => [], [], [], none⟩, ⟨some 123, some undef, fun _ => [], fun _ _ => [], [], [], none⟩, ⟨some 124, some undef, fun _ => [], fun _ _ => [], [], [], none⟩, ⟨some 125, some (.bool true), fun _ => [], fun ds_ u_ => [], [], [], none⟩] [[], [0], [], [2], [1, 3], [4], [5], [5], [6, 7, 5], [5, 8], [9], [10], [10], [11, 12, 10], [10, 13], [14], [15], [15], [15], [15], [15, 19], [20], [21], [21], [21], [21], [21, 25]] [[(false, .box 24 Message_.rep u8 x2)]] [0, 1, 2, 3, 4, 5, 6, 7, 8, 9, 10, 11, 12, 13, 14, 15, 16, 17, 18, 19, 20, 21, 22, 23, 24, 25, 26, 27] Try_mixed rfl rfl rfl h61 (.cons ?_ (.cons ?_ (.cons ?_ (.cons ?_ (.cons ?_ (.cons ?_ (.cons ?_ (.cons ?_ (.cons ?_ (.cons ?_ (.cons ?_ (.cons ?_ (.cons ?_ (.cons ?_ (.cons ?_ (.cons ?_ (.cons ?_ (.cons ?_ (.cons ?_ (.cons ?_ (.cons ?_ (.cons ?_ (.cons ?_ (.cons ?_ (.cons ?_ (.cons ?_ (.cons ?_ .nil))))))))))))))))))))))))))) (fun q2 w hq4 h => ?_)
                  · intro q2 w Γx Ωx h
                    have h : St e w ([(true, .val (Rep.slice (Rep.int .u8)) u16 y11.1), (false, .val Message_.rep u15 x2), (true, .val (Rep.slice (Rep.int .u8)) u14 y10.1), (false, .val Message_.rep u13 x2), (true, .val (Rep.slice (Rep.int .u8)) u12 y9.1), (false, .val Message_.rep u11 x2), (true, .val (Rep.slice (Rep.int .u8)) u10 y8.1), (false, .val Message_.rep u9 x2), (false, .val Message_.rep u7 x2), (false, .ptr Message_.rep u6 x2), (false, .val (Rep.slice Message_.rep) (q1 6) ([a0, y6.1, y7.1, s2.2]))] ++ Γx) ([(false, .box 24 Message_.rep u8 x2)] ++ Ωx) := h
                    refine OpS.loadB h .z PA.z Get.id ty24 rfl rfl rfl (fun u h83 => ?_)
                    exact ⟨u, rfl, trivial, h83⟩
                  · intro q2 w Γx Ωx h
                    refine OpS.callP h Try.func20 rfl rfl rfl rfl (vs := [(q2 0)]) rfl (message_Valid_ok e17) (.cons (V.at .z) .nil) ?_
                    rintro _ w31 _ _ _ ⟨rfl, rfl, rfl, rfl⟩ h84
                    have h85 := h84 rfl rfl
                    simp only [List.cons_append, List.nil_append] at h85
                    exact ⟨undef, rfl, trivial, h85⟩
                  · intro q2 w Γx Ωx h
                    have h : St e w ([(true, .val (Rep.slice (Rep.int .u8)) u16 y11.1), (false, .val Message_.rep u15 x2), (true, .val (Rep.slice (Rep.int .u8)) u14 y10.1), (false, .val Message_.rep u13 x2), (true, .val (Rep.slice (Rep.int .u8)) u12 y9.1), (false, .val Message_.rep u11 x2), (true, .val (Rep.slice (Rep.int .u8)) u10 y8.1), (false, .val Message_.rep u9 x2), (false, .val Message_.rep u7 x2), (false, .ptr Message_.rep u6 x2), (false, .val (Rep.slice Message_.rep) (q1 6) ([a0, y6.1, y7.1, s2.2]))] ++ Γx) ([(false, .box 24 Message_.rep u8 x2)] ++ Ωx) := h
                    refine OpS.loadB h .z PA.z Get.id ty24 rfl rfl rfl (fun u h86 => ?_)
                    exact ⟨u, rfl, trivial, h86⟩
                  · intro q2 w Γx Ωx h
                    refine OpS.callP h Try.func21 rfl rfl rfl rfl (vs := [(q2 2)]) rfl (ref23_Valid_ok e18) (.cons (V.at .z) .nil) ?_
                    rintro _ w32 _ _ _ ⟨rfl, rfl, rfl, rfl⟩ h87
                    have h88 := h87 rfl rfl
                    simp only [List.cons_append, List.nil_append] at h88
                    exact ⟨undef, rfl, trivial, h88⟩
                  · intro q2 w Γx Ωx h
                    refine OpS.neb Try.underlying4 rfl rfl rfl rfl ?_
                    exact ⟨undef, rfl, trivial, h⟩
                  · intro q2 w Γx Ωx h
                    refine OpS.mv rfl rfl rfl ?_
                    exact ⟨undef, (congrArg (fun z_ => some (Value.bool z_)) e19), trivial, h⟩
                  · intro q2 w Γx Ωx h
                    refine OpS.mv rfl rfl rfl ?_
                    exact ⟨undef, rfl, trivial, h⟩
                  · intro q2 w Γx Ωx h
                    refine OpS.mv rfl rfl rfl ?_
                    exact ⟨undef, rfl, trivial, h⟩
                  · intro q2 w Γx Ωx h
                    refine OpS.bin rfl rfl rfl rfl rfl ?_
                    exact ⟨undef, rfl, trivial, h⟩
                  · intro q2 w Γx Ωx h
                    refine OpS.pick rfl rfl rfl rfl ?_
                    exact ⟨undef, rfl, trivial, h⟩
                  · intro q2 w Γx Ωx h
                    refine OpS.mv rfl rfl rfl ?_
                    exact ⟨undef, (congrArg (fun z_ => some (Value.bool z_)) e21), trivial, h⟩
                  · intro q2 w Γx Ωx h
                    refine OpS.mv rfl rfl rfl ?_
                    exact ⟨undef, rfl, trivial, h⟩
                  · intro q2 w Γx Ωx h
                    refine OpS.mv rfl rfl rfl ?_
                    exact ⟨undef, rfl, trivial, h⟩
                  · intro q2 w Γx Ωx h
                    refine OpS.bin rfl rfl rfl rfl rfl ?_
                    exact ⟨undef, rfl, trivial, h⟩
                  · intro q2 w Γx Ωx h
                    refine OpS.pick rfl rfl rfl rfl ?_
                    exact ⟨undef, rfl, trivial, h⟩
                  · intro q2 w Γx Ωx h
                    refine OpS.mv rfl rfl rfl ?_
                    exact ⟨undef, (congrArg (fun z_ => some (Value.bool z_)) e23), trivial, h⟩
                  · intro q2 w Γx Ωx h
                    exact OpS.pass rfl rfl rfl ⟨undef, rfl, trivial, h⟩
                  · intro q2 w Γx Ωx h
                    exact OpS.pass rfl rfl rfl ⟨undef, rfl, trivial, h⟩
                  · intro q2 w Γx Ωx h
                    exact OpS.pass rfl rfl rfl ⟨undef, rfl, trivial, h⟩
                  · intro q2 w Γx Ωx h
                    exact OpS.pass rfl rfl rfl ⟨undef, rfl, trivial, h⟩
                  · intro q2 w Γx Ωx h
                    refine OpS.pick rfl rfl rfl rfl ?_
                    exact ⟨undef, rfl, trivial, h⟩
                  · intro q2 w Γx Ωx h
                    refine OpS.mv rfl rfl rfl ?_
                    exact ⟨undef, rfl, trivial, h⟩
                  · intro q2 w Γx Ωx h
                    exact OpS.pass rfl rfl rfl ⟨undef, rfl, trivial, h⟩
                  · intro q2 w Γx Ωx h
                    exact OpS.pass rfl rfl rfl ⟨undef, rfl, trivial, h⟩
                  · intro q2 w Γx Ωx h
                    exact OpS.pass rfl rfl rfl ⟨undef, rfl, trivial, h⟩
                  · intro q2 w Γx Ωx h
                    exact OpS.pass rfl rfl rfl ⟨undef, rfl, trivial, h⟩
                  · intro q2 w Γx Ωx h
                    refine OpS.pick rfl rfl rfl rfl ?_
                    exact ⟨undef, rfl, trivial, h⟩
                  have h89 : St e w [(false, .val Message_.rep (q2 0) x2), (false, .val Message_.rep (q2 2) x2), (true, .val (Rep.slice (Rep.int .u8)) u16 y11.1), (false, .val Message_.rep u15 x2), (true, .val (Rep.slice (Rep.int .u8)) u14 y10.1), (false, .val Message_.rep u13 x2), (true, .val (Rep.slice (Rep.int .u8)) u12 y9.1), (false, .val Message_.rep u11 x2), (true, .val (Rep.slice (Rep.int .u8)) u10 y8.1), (false, .val Message_.rep u9 x2), (false, .val Message_.rep u7 x2), (false, .ptr Message_.rep u6 x2), (false, .val (Rep.slice Message_.rep) (q1 6) ([a0, y6.1, y7.1, s2.2]))] [(false, .box 24 Message_.rep u8 x2)] := h
                  refine RunL.nil ?_
                  refine Run.slim [(125, .bool true), (73, (q1 6)), (74, .int .i64 (([a0, y6.1, y7.1, s2.2]).length : Int)), (75, .int .i64 s3)] ⟨rfl, rfl, rfl, rfl, trivial⟩ ?_
                  refine Run.slim [(73, (q1 6)), (74, .int .i64 (([a0, y6.1, y7.1, s2.2]).length : Int)), (75, .int .i64 s3), (125, .bool true)] ⟨rfl, rfl, rfl, rfl, trivial⟩ ?_
                  exact hj3 (true) _ _ ⟨rfl, (h89.facts (.atm (.s (.s (.s (.s (.s (.s (.s (.s (.s (.s (.s (.s .z)))))))))))) .nil)).picks .nil⟩ hF
                ·
                  have hG := hF
                  subst e24
                  have hF := hG
                  obtain ⟨y14, e25, hF⟩ := bindP_use hF
                  obtain ⟨x6, e26, hF⟩ := letP_use hF
                  refine iteP_use hF (fun e27 hF => ?_) (fun e27 hF => ?_)
                  ·
                    have hG := hF
                    subst e27
                    have hF := hG
                    refine Run.drawV (Ωs := []) [⟨some 99, none, fun u_ => [(false, .val Message_.rep u_ x2)], fun ds_ u_ => [], [], [(0, [])], none⟩, ⟨some 100, some (.bool y12), fun _ => [], fun ds_ u_ => [], [], [], none⟩, ⟨some 101, none, fun u_ => [(false, .val Message_.rep u_ x2)], fun ds_ u_ => [], [], [(0, [])], none⟩, ⟨some 102, some (.bool y13), fun _ => [], fun ds_ u_ => [], [], [], none⟩, ⟨some 103, some (.bool (y12 != y13)), fun _ => [], fun ds_ u_ => [], [], [], none⟩, ⟨some 104, some (.bool false), fun _ => [], fun ds_ u_ => [], [], [], none⟩, ⟨some 105, some (.int .i64 y8.2), fun _ => [], fun ds_ u_ => [], [], [], none⟩, ⟨some 106, some (.int .i64 y9.2), fun _ => [], fun ds_ u_ => [], [], [], none⟩, ⟨some 107, some (.bool (y8.2 != y9.2)), fun _ => [], fun ds_ u_ => [], [], [], none⟩, ⟨some 108, some (.bool (y8.2 != y9.2)), fun _ => [], fun ds_ u_ => [], [], [], none⟩, ⟨some 109, some (.bool false), fun _ => [], fun ds_ u_ => [], [], [], none⟩, ⟨some 110, some (.int .i64 y10.2), fun _ => [], fun ds_ u_ => [], [], [], none⟩, ⟨some 111, some (.int .i64 y11.2), fun _ => [], fun ds_ u_ => [], [], [], none⟩, ⟨some 112, some (.bool (y10.2 != y11.2)), fun _ => [], fun ds_ u_ => [], [], [], none⟩, ⟨some 113, some (.bool (y10.2 != y11.2)), fun _ => [], fun ds_ u_ => [], [], [], none⟩, ⟨some 114, some (.bool false), fun _ => [], fun ds_ u_ => [], [], [], none⟩, ⟨some 115, some (u10), fun _ => [], fun ds_ u_ => [], [], [], none⟩, ⟨some 116, some (u12), fun _ => [], fun ds_ u_ => [], [], [], none⟩, ⟨some 117, some (.bool y14), fun _ => [], fun ds_ u_ => [], [], [], none⟩, ⟨some 118, some (.bool (!y14)), fun _ => [], fun ds_ u_ => [], [], [], none⟩, ⟨some 119, some (.bool (!y14)), fun _ => [], fun ds_ u_ => [], [], [], none⟩, ⟨some 120, some (.bool true), fun _ => [], fun ds_ u_ => [], [], [], none⟩, ⟨some 121, some undef, fun _ => [], fun _ _ => [], [], [], none⟩, ⟨some 122, some undef, fun _ => [], fun _ _ => [], [], [], none⟩, ⟨some 123, some undef, fun _ => [], fun _ _ => [], [], [], none⟩, ⟨some 124, some undef, fun _ => [], fun _ _ => [], [], [], none⟩, ⟨some 125, some (.bool true), fun _ => [], fun ds_ u_ => [], [], [], none⟩] [[], [0], [], [2], [1, 3], [4], [5], [5], [6, 7, 5], [5, 8], [9], [10], [10], [11, 12, 10], [10, 13], [14], [15], [15], [16, 17, 15], [18, 15], [15, 19], [20], [21], [21], [21], [21], [21, 25]] [[(false, .box 24 Message_.rep u8 x2)]] [0, 1, 2, 3, 4, 5, 6, 7, 8, 9, 10, 11, 12, 13, 14, 15, 16, 17, 18, 19, 20, 21, 22, 23, 24, 25, 26, 27] Try_mixed rfl rfl rfl h61 (.cons ?_ (.cons ?_ (.cons ?_ (.cons ?_ (.cons ?_ (.cons ?_ (.cons ?_ (.cons ?_ (.cons ?_ (.cons ?_ (.cons ?_ (.cons ?_ (.cons ?_ (.cons ?_ (.cons ?_ (.cons ?_ (.cons ?_ (.cons ?_ (.cons ?_ (.cons ?_ (.cons ?_ (.cons ?_ (.cons ?_ (.cons ?_ (.cons ?_ (.cons ?_ (.cons ?_ .nil))))))))))))))))))))))))))) (fun q2 w hq5 h => ?_)
                    · intro q2 w Γx Ωx h
                      have h : St e w ([(true, .val (Rep.slice (Rep.int .u8)) u16 y11.1), (false, .val Message_.rep u15 x2), (true, .val (Rep.slice (Rep.int .u8)) u14 y10.1), (false, .val Message_.rep u13 x2), (true, .val (Rep.slice (Rep.int .u8)) u12 y9.1), (false, .val Message_.rep u11 x2), (true, .val (Rep.slice (Rep.int .u8)) u10 y8.1), (false, .val Message_.rep u9 x2), (false, .val Message_.rep u7 x2), (false, .ptr Message_.rep u6 x2), (false, .val (Rep.slice Message_.rep) (q1 6) ([a0, y6.1, y7.1, s2.2]))] ++ Γx) ([(false, .box 24 Message_.rep u8 x2)] ++ Ωx) := h
                      refine OpS.loadB h .z PA.z Get.id ty24 rfl rfl rfl (fun u h92 => ?_)
                      exact ⟨u, rfl, trivial, h92⟩
                    · intro q2 w Γx Ωx h
                      refine OpS.callP h Try.func20 rfl rfl rfl rfl (vs := [(q2 0)]) rfl (message_Valid_ok e17) (.cons (V.at .z) .nil) ?_
                      rintro _ w34 _ _ _ ⟨rfl, rfl, rfl, rfl⟩ h93
                      have h94 := h93 rfl rfl
                      simp only [List.cons_append, List.nil_append] at h94
                      exact ⟨undef, rfl, trivial, h94⟩
                    · intro q2 w Γx Ωx h
                      have h : St e w ([(true, .val (Rep.slice (Rep.int .u8)) u16 y11.1), (false, .val Message_.rep u15 x2), (true, .val (Rep.slice (Rep.int .u8)) u14 y10.1), (false, .val Message_.rep u13 x2), (true, .val (Rep.slice (Rep.int .u8)) u12 y9.1), (false, .val Message_.rep u11 x2), (true, .val (Rep.slice (Rep.int .u8)) u10 y8.1), (false, .val Message_.rep u9 x2), (false, .val Message_.rep u7 x2), (false, .ptr Message_.rep u6 x2), (false, .val (Rep.slice Message_.rep) (q1 6) ([a0, y6.1, y7.1, s2.2]))] ++ Γx) ([(false, .box 24 Message_.rep u8 x2)] ++ Ωx) := h
                      refine OpS.loadB h .z PA.z Get.id ty24 rfl rfl rfl (fun u h95 => ?_)
                      exact ⟨u, rfl, trivial, h95⟩
                    · intro q2 w Γx Ωx h
                      refine OpS.callP h Try.func21 rfl rfl rfl rfl (vs := [(q2 2)]) rfl (ref23_Valid_ok e18) (.cons (V.at .z) .nil) ?_
                      rintro _ w35 _ _ _ ⟨rfl, rfl, rfl, rfl⟩ h96
                      have h97 := h96 rfl rfl
                      simp only [List.cons_append, List.nil_append] at h97
                      exact ⟨undef, rfl, trivial, h97⟩
                    · intro q2 w Γx Ωx h
                      refine OpS.neb Try.underlying4 rfl rfl rfl rfl ?_
                      exact ⟨undef, rfl, trivial, h⟩
                    · intro q2 w Γx Ωx h
                      refine OpS.mv rfl rfl rfl ?_
                      exact ⟨undef, (congrArg (fun z_ => some (Value.bool z_)) e19), trivial, h⟩
                    · intro q2 w Γx Ωx h
                      refine OpS.mv rfl rfl rfl ?_
                      exact ⟨undef, rfl, trivial, h⟩
                    · intro q2 w Γx Ωx h
                      refine OpS.mv rfl rfl rfl ?_
                      exact ⟨undef, rfl, trivial, h⟩
                    · intro q2 w Γx Ωx h
                      refine OpS.bin rfl rfl rfl rfl rfl ?_
                      exact ⟨undef, rfl, trivial, h⟩
                    · intro q2 w Γx Ωx h
                      refine OpS.pick rfl rfl rfl rfl ?_
                      exact ⟨undef, rfl, trivial, h⟩
                    · intro q2 w Γx Ωx h
                      refine OpS.mv rfl rfl rfl ?_
                      exact ⟨undef, (congrArg (fun z_ => some (Value.bool z_)) e21), trivial, h⟩
                    · intro q2 w Γx Ωx h
                      refine OpS.mv rfl rfl rfl ?_
                      exact ⟨undef, rfl, trivial, h⟩
                    · intro q2 w Γx Ωx h
                      refine OpS.mv rfl rfl rfl ?_
                      exact ⟨undef, rfl, trivial, h⟩
                    · intro q2 w Γx Ωx h
                      refine OpS.bin rfl rfl rfl rfl rfl ?_
                      exact ⟨undef, rfl, trivial, h⟩
                    · intro q2 w Γx Ωx h
                      refine OpS.pick rfl rfl rfl rfl ?_
                      exact ⟨undef, rfl, trivial, h⟩
                    · intro q2 w Γx Ωx h
                      refine OpS.mv rfl rfl rfl ?_
                      exact ⟨undef, (congrArg (fun z_ => some (Value.bool z_)) e23), trivial, h⟩
                    · intro q2 w Γx Ωx h
                      refine OpS.mv rfl rfl rfl ?_
                      exact ⟨undef, rfl, trivial, h⟩
                    · intro q2 w Γx Ωx h
                      refine OpS.mv rfl rfl rfl ?_
                      exact ⟨undef, rfl, trivial, h⟩
                    · intro q2 w Γx Ωx h
                      refine OpS.callP h Try.func22 rfl rfl rfl rfl (vs := [u10, u12]) rfl (ref01_Same_ok e25) (.cons (V.at (.s (.s (.s (.s (.s (.s .z))))))) (.cons (V.at (.s (.s (.s (.s .z))))) .nil)) ?_
                      rintro _ w36 _ _ _ ⟨rfl, rfl, rfl, rfl⟩ h98
                      have h99 := h98 rfl rfl
                      simp only [List.cons_append, List.nil_append] at h99
                      exact ⟨undef, rfl, trivial, h99⟩
                    · intro q2 w Γx Ωx h
                      refine OpS.not rfl rfl rfl ?_
                      exact ⟨undef, rfl, trivial, h⟩
                    · intro q2 w Γx Ωx h
                      refine OpS.pick rfl rfl rfl rfl ?_
                      exact ⟨undef, rfl, trivial, h⟩
                    · intro q2 w Γx Ωx h
                      refine OpS.mv rfl rfl rfl ?_
                      exact ⟨undef, (congrArg (fun z_ => some (Value.bool z_)) e26), trivial, h⟩
                    · intro q2 w Γx Ωx h
                      exact OpS.pass rfl rfl rfl ⟨undef, rfl, trivial, h⟩
                    · intro q2 w Γx Ωx h
                      exact OpS.pass rfl rfl rfl ⟨undef, rfl, trivial, h⟩
                    · intro q2 w Γx Ωx h
                      exact OpS.pass rfl rfl rfl ⟨undef, rfl, trivial, h⟩
                    · intro q2 w Γx Ωx h
                      exact OpS.pass rfl rfl rfl ⟨undef, rfl, trivial, h⟩
                    · intro q2 w Γx Ωx h
                      refine OpS.pick rfl rfl rfl rfl ?_
                      exact ⟨undef, rfl, trivial, h⟩
                    have h100 : St e w [(false, .val Message_.rep (q2 0) x2), (false, .val Message_.rep (q2 2) x2), (true, .val (Rep.slice (Rep.int .u8)) u16 y11.1), (false, .val Message_.rep u15 x2), (true, .val (Rep.slice (Rep.int .u8)) u14 y10.1), (false, .val Message_.rep u13 x2), (true, .val (Rep.slice (Rep.int .u8)) u12 y9.1), (false, .val Message_.rep u11 x2), (true, .val (Rep.slice (Rep.int .u8)) u10 y8.1), (false, .val Message_.rep u9 x2), (false, .val Message_.rep u7 x2), (false, .ptr Message_.rep u6 x2), (false, .val (Rep.slice Message_.rep) (q1 6) ([a0, y6.1, y7.1, s2.2]))] [(false, .box 24 Message_.rep u8 x2)] := h
                    refine RunL.nil ?_
                    refine Run.slim [(125, .bool true), (73, (q1 6)), (74, .int .i64 (([a0, y6.1, y7.1, s2.2]).length : Int)), (75, .int .i64 s3)] ⟨rfl, rfl, rfl, rfl, trivial⟩ ?_
                    refine Run.slim [(73, (q1 6)), (74, .int .i64 (([a0, y6.1, y7.1, s2.2]).length : Int)), (75, .int .i64 s3), (125, .bool true)] ⟨rfl, rfl, rfl, rfl, trivial⟩ ?_
                    exact hj3 (true) _ _ ⟨rfl, (h100.facts (.atm (.s (.s (.s (.s (.s (.s (.s (.s (.s (.s (.s (.s .z)))))))))))) .nil)).picks .nil⟩ hF
                  ·
                    have hG := hF
                    subst e27
                    have hF := hG
                    obtain ⟨y15, e28, hF⟩ := bindP_use hF
                    refine Run.drawV (Ωs := []) [⟨some 99, none, fun u_ => [(false, .val Message_.rep u_ x2)], fun ds_ u_ => [], [], [(0, [])], none⟩, ⟨some 100, some (.bool y12), fun _ => [], fun ds_ u_ => [], [], [], none⟩, ⟨some 101, none, fun u_ => [(false, .val Message_.rep u_ x2)], fun ds_ u_ => [], [], [(0, [])], none⟩, ⟨some 102, some (.bool y13), fun _ => [], fun ds_ u_ => [], [], [], none⟩, ⟨some 103, some (.bool (y12 != y13)), fun _ => [], fun ds_ u_ => [], [], [], none⟩, ⟨some 104, some (.bool false), fun _ => [], fun ds_ u_ => [], [], [], none⟩, ⟨some 105, some (.int .i64 y8.2), fun _ => [], fun ds_ u_ => [], [], [], none⟩, ⟨some 106, some (.int .i64 y9.2), fun _ => [], fun ds_ u_ => [], [], [], none⟩, ⟨some 107, some (.bool (y8.2 != y9.2)), fun _ => [], fun ds_ u_ => [], [], [], none⟩, ⟨some 108, some (.bool (y8.2 != y9.2)), fun _ => [], fun ds_ u_ => [], [], [], none⟩, ⟨some 109, some (.bool false), fun _ => [], fun ds_ u_ => [], [], [], none⟩, ⟨some 110, some (.int .i64 y10.2), fun _ => [], fun ds_ u_ => [], [], [], none⟩, ⟨some 111, some (.int .i64 y11.2), fun _ => [], fun ds_ u_ => [], [], [], none⟩, ⟨some 112, some (.bool (y10.2 != y11.2)), fun _ => [], fun ds_ u_ => [], [], [], none⟩, ⟨some 113, some (.bool (y10.2 != y11.2)), fun _ => [], fun ds_ u_ => [], [], [], none⟩, ⟨some 114, some (.bool false), fun _ => [], fun ds_ u_ => [], [], [], none⟩, ⟨some 115, some (u10), fun _ => [], fun ds_ u_ => [], [], [], none⟩, ⟨some 116, some (u12), fun _ => [], fun ds_ u_ => [], [], [], none⟩, ⟨some 117, some (.bool y14), fun _ => [], fun ds_ u_ => [], [], [], none⟩, ⟨some 118, some (.bool (!y14)), fun _ => [], fun ds_ u_ => [], [], [], none⟩, ⟨some 119, some (.bool (!y14)), fun _ => [], fun ds_ u_ => [], [], [], none⟩, ⟨some 120, some (.bool false), fun _ => [], fun ds_ u_ => [], [], [], none⟩, ⟨some 121, some (u14), fun _ => [], fun ds_ u_ => [], [], [], none⟩, ⟨some 122, some (u16), fun _ => [], fun ds_ u_ => [], [], [], none⟩, ⟨some 123, some (.bool y15), fun _ => [], fun ds_ u_ => [], [], [], none⟩, ⟨some 124, some (.bool (!y15)), fun _ => [], fun ds_ u_ => [], [], [], none⟩, ⟨some 125, some (.bool (!y15)), fun _ => [], fun ds_ u_ => [], [], [], none⟩] [[], [0], [], [2], [1, 3], [4], [5], [5], [6, 7, 5], [5, 8], [9], [10], [10], [11, 12, 10], [10, 13], [14], [15], [15], [16, 17, 15], [18, 15], [15, 19], [20], [21], [21], [22, 23, 21], [24, 21], [21, 25]] [[(false, .box 24 Message_.rep u8 x2)]] [0, 1, 2, 3, 4, 5, 6, 7, 8, 9, 10, 11, 12, 13, 14, 15, 16, 17, 18, 19, 20, 21, 22, 23, 24, 25, 26, 27] Try_mixed rfl rfl rfl h61 (.cons ?_ (.cons ?_ (.cons ?_ (.cons ?_ (.cons ?_ (.cons ?_ (.cons ?_ (.cons ?_ (.cons ?_ (.cons ?_ (.cons ?_ (.cons ?_ (.cons ?_ (.cons ?_ (.cons ?_ (.cons ?_ (.cons ?_ (.cons ?_ (.cons ?_ (.cons ?_ (.cons ?_ (.cons ?_ (.cons ?_ (.cons ?_ (.cons ?_ (.cons ?_ (.cons ?_ .nil))))))))))))))))))))))))))) (fun q2 w hq6 h => ?_)
                    · intro q2 w Γx Ωx h
                      have h : St e w ([(true, .val (Rep.slice (Rep.int .u8)) u16 y11.1), (false, .val Message_.rep u15 x2), (true, .val (Rep.slice (Rep.int .u8)) u14 y10.1), (false, .val Message_.rep u13 x2), (true, .val (Rep.slice (Rep.int .u8)) u12 y9.1), (false, .val Message_.rep u11 x2), (true, .val (Rep.slice (Rep.int .u8)) u10 y8.1), (false, .val Message_.rep u9 x2), (false, .val Message_.rep u7 x2), (false, .ptr Message_.rep u6 x2), (false, .val (Rep.slice Message_.rep) (q1 6) ([a0, y6.1, y7.1, s2.2]))] ++ Γx) ([(false, .box 24 Message_.rep u8 x2)] ++ Ωx) := h
                      refine OpS.loadB h .z PA.z Get.id ty24 rfl rfl rfl (fun u h103 => ?_)
                      exact ⟨u, rfl, trivial, h103⟩
                    · intro q2 w Γx Ωx h
                      refine OpS.callP h Try.func20 rfl rfl rfl rfl (vs := [(q2 0)]) rfl (message_Valid_ok e17) (.cons (V.at .z) .nil) ?_
                      rintro _ w38 _ _ _ ⟨rfl, rfl, rfl, rfl⟩ h104
                      have h105 := h104 rfl rfl
                      simp only [List.cons_append, List.nil_append] at h105
                      exact ⟨undef, rfl, trivial, h105⟩
                    · intro q2 w Γx Ωx h
                      have h : St e w ([(true, .val (Rep.slice (Rep.int .u8)) u16 y11.1), (false, .val Message_.rep u15 x2), (true, .val (Rep.slice (Rep.int .u8)) u14 y10.1), (false, .val Message_.rep u13 x2), (true, .val (Rep.slice (Rep.int .u8)) u12 y9.1), (false, .val Message_.rep u11 x2), (true, .val (Rep.slice (Rep.int .u8)) u10 y8.1), (false, .val Message_.rep u9 x2), (false, .val Message_.rep u7 x2), (false, .ptr Message_.rep u6 x2), (false, .val (Rep.slice Message_.rep) (q1 6) ([a0, y6.1, y7.1, s2.2]))] ++ Γx) ([(false, .box 24 Message_.rep u8 x2)] ++ Ωx) := h
                      refine OpS.loadB h .z PA.z Get.id ty24 rfl rfl rfl (fun u h106 => ?_)
                      exact ⟨u, rfl, trivial, h106⟩
                    · intro q2 w Γx Ωx h
                      refine OpS.callP h Try.func21 rfl rfl rfl rfl (vs := [(q2 2)]) rfl (ref23_Valid_ok e18) (.cons (V.at .z) .nil) ?_
                      rintro _ w39 _ _ _ ⟨rfl, rfl, rfl, rfl⟩ h107
                      have h108 := h107 rfl rfl
                      simp only [List.cons_append, List.nil_append] at h108
                      exact ⟨undef, rfl, trivial, h108⟩
                    · intro q2 w Γx Ωx h
                      refine OpS.neb Try.underlying4 rfl rfl rfl rfl ?_
                      exact ⟨undef, rfl, trivial, h⟩
                    · intro q2 w Γx Ωx h
                      refine OpS.mv rfl rfl rfl ?_
                      exact ⟨undef, (congrArg (fun z_ => some (Value.bool z_)) e19), trivial, h⟩
                    · intro q2 w Γx Ωx h
                      refine OpS.mv rfl rfl rfl ?_
                      exact ⟨undef, rfl, trivial, h⟩
                    · intro q2 w Γx Ωx h
                      refine OpS.mv rfl rfl rfl ?_
                      exact ⟨undef, rfl, trivial, h⟩
                    · intro q2 w Γx Ωx h
                      refine OpS.bin rfl rfl rfl rfl rfl ?_
                      exact ⟨undef, rfl, trivial, h⟩
                    · intro q2 w Γx Ωx h
                      refine OpS.pick rfl rfl rfl rfl ?_
                      exact ⟨undef, rfl, trivial, h⟩
                    · intro q2 w Γx Ωx h
                      refine OpS.mv rfl rfl rfl ?_
                      exact ⟨undef, (congrArg (fun z_ => some (Value.bool z_)) e21), trivial, h⟩
                    · intro q2 w Γx Ωx h
                      refine OpS.mv rfl rfl rfl ?_
                      exact ⟨undef, rfl, trivial, h⟩
                    · intro q2 w Γx Ωx h
                      refine OpS.mv rfl rfl rfl ?_
                      exact ⟨undef, rfl, trivial, h⟩
                    · intro q2 w Γx Ωx h
                      refine OpS.bin rfl rfl rfl rfl rfl ?_
                      exact ⟨undef, rfl, trivial, h⟩
                    · intro q2 w Γx Ωx h
                      refine OpS.pick rfl rfl rfl rfl ?_
                      exact ⟨undef, rfl, trivial, h⟩
                    · intro q2 w Γx Ωx h
                      refine OpS.mv rfl rfl rfl ?_
                      exact ⟨undef, (congrArg (fun z_ => some (Value.bool z_)) e23), trivial, h⟩
                    · intro q2 w Γx Ωx h
                      refine OpS.mv rfl rfl rfl ?_
                      exact ⟨undef, rfl, trivial, h⟩
                    · intro q2 w Γx Ωx h
                      refine OpS.mv rfl rfl rfl ?_
                      exact ⟨undef, rfl, trivial, h⟩
                    · intro q2 w Γx Ωx h
                      refine OpS.callP h Try.func22 rfl rfl rfl rfl (vs := [u10, u12]) rfl (ref01_Same_ok e25) (.cons (V.at (.s (.s (.s (.s (.s (.s .z))))))) (.cons (V.at (.s (.s (.s (.s .z))))) .nil)) ?_
                      rintro _ w40 _ _ _ ⟨rfl, rfl, rfl, rfl⟩ h109
                      have h110 := h109 rfl rfl
                      simp only [List.cons_append, List.nil_append] at h110
                      exact ⟨undef, rfl, trivial, h110⟩
                    · intro q2 w Γx Ωx h
                      refine OpS.not rfl rfl rfl ?_
                      exact ⟨undef, rfl, trivial, h⟩
                    · intro q2 w Γx Ωx h
                      refine OpS.pick rfl rfl rfl rfl ?_
                      exact ⟨undef, rfl, trivial, h⟩
                    · intro q2 w Γx Ωx h
                      refine OpS.mv rfl rfl rfl ?_
                      exact ⟨undef, (congrArg (fun z_ => some (Value.bool z_)) e26), trivial, h⟩
                    · intro q2 w Γx Ωx h
                      refine OpS.mv rfl rfl rfl ?_
                      exact ⟨undef, rfl, trivial, h⟩
                    · intro q2 w Γx Ωx h
                      refine OpS.mv rfl rfl rfl ?_
                      exact ⟨undef, rfl, trivial, h⟩
                    · intro q2 w Γx Ωx h
                      refine OpS.callP h Try.func22 rfl rfl rfl rfl (vs := [u14, u16]) rfl (ref01_Same_ok e28) (.cons (V.at (.s (.s .z))) (.cons (V.at .z) .nil)) ?_
                      rintro _ w41 _ _ _ ⟨rfl, rfl, rfl, rfl⟩ h111
                      have h112 := h111 rfl rfl
                      simp only [List.cons_append, List.nil_append] at h112
                      exact ⟨undef, rfl, trivial, h112⟩
                    · intro q2 w Γx Ωx h
                      refine OpS.not rfl rfl rfl ?_
                      exact ⟨undef, rfl, trivial, h⟩
                    · intro q2 w Γx Ωx h
                      refine OpS.pick rfl rfl rfl rfl ?_
                      exact ⟨undef, rfl, trivial, h⟩
                    have h113 : St e w [(false, .val Message_.rep (q2 0) x2), (false, .val Message_.rep (q2 2) x2), (true, .val (Rep.slice (Rep.int .u8)) u16 y11.1), (false, .val Message_.rep u15 x2), (true, .val (Rep.slice (Rep.int .u8)) u14 y10.1), (false, .val Message_.rep u13 x2), (true, .val (Rep.slice (Rep.int .u8)) u12 y9.1), (false, .val Message_.rep u11 x2), (true, .val (Rep.slice (Rep.int .u8)) u10 y8.1), (false, .val Message_.rep u9 x2), (false, .val Message_.rep u7 x2), (false, .ptr Message_.rep u6 x2), (false, .val (Rep.slice Message_.rep) (q1 6) ([a0, y6.1, y7.1, s2.2]))] [(false, .box 24 Message_.rep u8 x2)] := h
                    refine RunL.nil ?_
                    refine Run.slim [(125, .bool (!y15)), (73, (q1 6)), (74, .int .i64 (([a0, y6.1, y7.1, s2.2]).length : Int)), (75, .int .i64 s3)] ⟨rfl, rfl, rfl, rfl, trivial⟩ ?_
                    refine Run.slim [(73, (q1 6)), (74, .int .i64 (([a0, y6.1, y7.1, s2.2]).length : Int)), (75, .int .i64 s3), (125, .bool (!y15))] ⟨rfl, rfl, rfl, rfl, trivial⟩ ?_
                    exact hj3 (!y15) _ _ ⟨rfl, (h113.facts (.atm (.s (.s (.s (.s (.s (.s (.s (.s (.s (.s (.s (.s .z)))))))))))) .nil)).picks .nil⟩ hF
        ·
          refine Run.exit rfl ?_
          refine Run.seq ?_
          refine Run.reg ?_
          obtain ⟨y16, e29, hF⟩ := bindP_use hF
          refine RunL.op (OpS.callP h40 Try.func10 rfl rfl rfl rfl (vs := []) rfl (law23_awake_ok e29) .nil ?_)
          rintro _ w42 _ _ _ ⟨rfl, rfl, rfl, rfl⟩ h114
          have h115 := h114 rfl rfl
          simp only [List.cons_append, List.nil_append] at h115
          refine RunL.op (OpS.as rfl rfl rfl ?_)
          refine RunL.nil ?_
          refine Run.slim [(4, .bool y16)] ⟨rfl, trivial⟩ ?_
          refine Run.retP rfl (.tmp rfl .nil) ?_
          cases hF
          exact Post.mk' ⟨rfl, rfl, rfl, rfl⟩ (h115.picks .nil) .nil
      ·
        refine Run.ite rfl hF (fun e30 hF => ?_) (fun e30 hF => ?_)
        ·
          refine Run.reg ?_
          refine RunL.op (OpS.mv rfl rfl rfl ?_)
          obtain ⟨y17, e31, hF⟩ := bindP_use hF
          have h116 := h19.front (.cons .z .nil)
          refine RunL.op (OpS.callO h116 Try.func15 rfl rfl rfl rfl (vs := [u3]) rfl (made_Dice_Byte_ok e31) rfl .nil ?_)
          rintro _ w43 _ _ _ ⟨rfl, rfl, rfl, rfl⟩ h117
          have h118 := h117
          simp only [List.cons_append, List.nil_append] at h118
          refine RunL.op (OpS.fbox (o3 := 0) h118 (.s .z) PA.z fa24_0 rfl rfl rfl rfl ?_)
          obtain ⟨d1, e32, hF⟩ := letP_use hF
          refine RunL.op (OpS.storeB (f' := true) h118 (.s .z) PA.a (Put.of (Put.fld Message_.f0) e32) ty5 rfl rfl rfl V.int (.inl rfl) (fun w44 h119 => ?_))
          refine RunL.nil ?_
          refine Run.slim [(6, u5), (5, u3), (2, u1)] ⟨rfl, rfl, rfl, trivial⟩ ?_
          refine Run.slim [(2, u1), (5, u3), (6, u5)] ⟨rfl, rfl, rfl, trivial⟩ ?_
          exact hj2 (y17.2, d1) _ _ ⟨rfl, (h119.facts .nil).picks (.cons (.s (.s .z)) (.cons (.s .z) (.cons .z .nil)))⟩ hF
        ·
          refine Run.seq ?_
          refine Run.reg ?_
          refine RunL.op (OpS.bin rfl rfl rfl rfl rfl ?_)
          refine RunL.op (OpS.as rfl rfl rfl ?_)
          obtain ⟨x7, e33, hF⟩ := letP_use hF
          refine RunL.nameb e33 ?_
          refine RunL.nil ?_
          refine Run.slim [(40, .bool x7), (34, .int .i64 y5.1), (6, u5), (5, u3), (2, u1)] ⟨rfl, rfl, rfl, rfl, rfl, trivial⟩ ?_
          refine Run.ite rfl hF (fun e34 hF => ?_) (fun e34 hF => ?_)
          ·
            refine Run.reg ?_
            refine RunL.op (OpS.mv rfl rfl rfl ?_)
            obtain ⟨y18, e35, hF⟩ := bindP_use hF
            have h120 := h19.front (.cons .z .nil)
            refine RunL.op (OpS.callO h120 Try.func15 rfl rfl rfl rfl (vs := [u3]) rfl (made_Dice_Byte_ok e35) rfl .nil ?_)
            rintro _ w45 _ _ _ ⟨rfl, rfl, rfl, rfl⟩ h121
            have h122 := h121
            simp only [List.cons_append, List.nil_append] at h122
            refine RunL.op (OpS.fbox (o3 := 2) h122 (.s .z) PA.z fa24_2 rfl rfl rfl rfl ?_)
            obtain ⟨d2, e36, hF⟩ := letP_use hF
            refine RunL.op (OpS.storeB (f' := true) h122 (.s .z) PA.a (Put.of (Put.fld Message_.f2) e36) ty5 rfl rfl rfl V.int (.inl rfl) (fun w46 h123 => ?_))
            refine RunL.nil ?_
            refine Run.slim [(6, u5), (5, u3), (2, u1)] ⟨rfl, rfl, rfl, trivial⟩ ?_
            refine Run.slim [(2, u1), (5, u3), (6, u5)] ⟨rfl, rfl, rfl, trivial⟩ ?_
            exact hj2 (y18.2, d2) _ _ ⟨rfl, (h123.facts .nil).picks (.cons (.s (.s .z)) (.cons (.s .z) (.cons .z .nil)))⟩ hF
          ·
            refine Run.seq ?_
            refine Run.reg ?_
            refine RunL.op (OpS.bin rfl rfl rfl rfl rfl ?_)
            refine RunL.op (OpS.as rfl rfl rfl ?_)
            obtain ⟨x8, e37, hF⟩ := letP_use hF
            refine RunL.nameb e37 ?_
            refine RunL.nil ?_
            refine Run.slim [(45, .bool x8), (34, .int .i64 y5.1), (6, u5), (5, u3), (2, u1)] ⟨rfl, rfl, rfl, rfl, rfl, trivial⟩ ?_
            refine Run.ite rfl hF (fun e38 hF => ?_) (fun e38 hF => ?_)
            ·
              refine Run.reg ?_
              refine RunL.op (OpS.mv rfl rfl rfl ?_)
              obtain ⟨y19, e39, hF⟩ := bindP_use hF
              have h124 := h19.front (.cons .z .nil)
              refine RunL.op (OpS.callO h124 Try.func14 rfl rfl rfl rfl (vs := [u3, .int .i64 70]) rfl (made_Dice_Next_ok e39) rfl .nil ?_)
              rintro _ w47 _ _ _ ⟨rfl, rfl, rfl, rfl⟩ h125
              have h126 := h125
              simp only [List.cons_append, List.nil_append] at h126
              refine RunL.op (OpS.bin rfl rfl rfl rfl rfl ?_)
              refine RunL.op (OpS.fbox (o3 := 6) h126 (.s .z) PA.z fa24_6 rfl rfl rfl rfl ?_)
              obtain ⟨d3, e40, hF⟩ := letP_use hF
              refine RunL.op (OpS.storeB (f' := true) h126 (.s .z) PA.a (Put.of (Put.fld Message_.f6) e40) ty3 rfl rfl rfl V.int (.inl rfl) (fun w48 h127 => ?_))
              refine RunL.nil ?_
              refine Run.slim [(6, u5), (5, u3), (2, u1)] ⟨rfl, rfl, rfl, trivial⟩ ?_
              refine Run.slim [(2, u1), (5, u3), (6, u5)] ⟨rfl, rfl, rfl, trivial⟩ ?_
              exact hj2 (y19.2, d3) _ _ ⟨rfl, (h127.facts .nil).picks (.cons (.s (.s .z)) (.cons (.s .z) (.cons .z .nil)))⟩ hF
            ·
              refine Run.seq ?_
              refine Run.reg ?_
              refine RunL.op (OpS.bin rfl rfl rfl rfl rfl ?_)
              refine RunL.op (OpS.as rfl rfl rfl ?_)
              obtain ⟨x9, e41, hF⟩ := letP_use hF
              refine RunL.nameb e41 ?_
              refine RunL.nil ?_
              refine Run.slim [(51, .bool x9), (34, .int .i64 y5.1), (6, u5), (5, u3), (2, u1)] ⟨rfl, rfl, rfl, rfl, rfl, trivial⟩ ?_
              refine Run.ite rfl hF (fun e42 hF => ?_) (fun e42 hF => ?_)
              ·
                refine Run.reg ?_
                refine RunL.op (OpS.mv rfl rfl rfl ?_)
                obtain ⟨y20, e43, hF⟩ := bindP_use hF
                have h128 := h19.front (.cons .z .nil)
                refine RunL.op (OpS.callO h128 Try.func14 rfl rfl rfl rfl (vs := [u3, .int .i64 7]) rfl (made_Dice_Next_ok e43) rfl .nil ?_)
                rintro _ w49 _ _ _ ⟨rfl, rfl, rfl, rfl⟩ h129
                have h130 := h129
                simp only [List.cons_append, List.nil_append] at h130
                refine RunL.op (OpS.bin rfl rfl rfl rfl rfl ?_)
                refine RunL.op (OpS.fbox (o3 := 4) h130 (.s .z) PA.z fa24_4 rfl rfl rfl rfl ?_)
                obtain ⟨d4, e44, hF⟩ := letP_use hF
                refine RunL.op (OpS.storeB (f' := true) h130 (.s .z) PA.a (Put.of (Put.fld Message_.f4) e44) ty3 rfl rfl rfl V.int (.inl rfl) (fun w50 h131 => ?_))
                refine RunL.nil ?_
                refine Run.slim [(6, u5), (5, u3), (2, u1)] ⟨rfl, rfl, rfl, trivial⟩ ?_
                refine Run.slim [(2, u1), (5, u3), (6, u5)] ⟨rfl, rfl, rfl, trivial⟩ ?_
                exact hj2 (y20.2, d4) _ _ ⟨rfl, (h131.facts .nil).picks (.cons (.s (.s .z)) (.cons (.s .z) (.cons .z .nil)))⟩ hF
              ·
                refine Run.seq ?_
                refine Run.reg ?_
                refine RunL.op (OpS.bin rfl rfl rfl rfl rfl ?_)
                refine RunL.op (OpS.as rfl rfl rfl ?_)
                obtain ⟨x10, e45, hF⟩ := letP_use hF
                refine RunL.nameb e45 ?_
                refine RunL.nil ?_
                refine Run.slim [(57, .bool x10), (34, .int .i64 y5.1), (6, u5), (5, u3), (2, u1)] ⟨rfl, rfl, rfl, rfl, rfl, trivial⟩ ?_
                refine Run.ite rfl hF (fun e46 hF => ?_) (fun e46 hF => ?_)
                ·
                  refine Run.reg ?_
                  refine RunL.op (OpS.fbox (o3 := 7) h19 (.s .z) PA.z fa24_7 rfl rfl rfl rfl ?_)
                  obtain ⟨d5, e47, hF⟩ := letP_use hF
                  refine RunL.op (OpS.storeB (f' := true) h19 (.s .z) PA.a (Put.of (Put.fld Message_.f7) e47) ty5 rfl rfl rfl V.int (.inl rfl) (fun w51 h132 => ?_))
                  refine RunL.nil ?_
                  refine Run.slim [(6, u5), (5, u3), (2, u1)] ⟨rfl, rfl, rfl, trivial⟩ ?_
                  refine Run.slim [(2, u1), (5, u3), (6, u5)] ⟨rfl, rfl, rfl, trivial⟩ ?_
                  exact hj2 (y5.2, d5) _ _ ⟨rfl, (h132.facts .nil).picks (.cons (.s (.s .z)) (.cons (.s .z) (.cons .z .nil)))⟩ hF
                ·
                  refine Run.seq ?_
                  refine Run.reg ?_
                  refine RunL.op (OpS.bin rfl rfl rfl rfl rfl ?_)
                  refine RunL.op (OpS.as rfl rfl rfl ?_)
                  obtain ⟨x11, e48, hF⟩ := letP_use hF
                  refine RunL.nameb e48 ?_
                  refine RunL.nil ?_
                  refine Run.slim [(60, .bool x11), (6, u5), (5, u3), (2, u1)] ⟨rfl, rfl, rfl, rfl, trivial⟩ ?_
                  refine Run.ite rfl hF (fun e49 hF => ?_) (fun e49 hF => ?_)
                  ·
                    refine Run.reg ?_
                    refine RunL.op (OpS.mv rfl rfl rfl ?_)
                    obtain ⟨y21, e50, hF⟩ := bindP_use hF
                    have h133 := h19.front (.cons .z .nil)
                    refine RunL.op (OpS.callO h133 Try.func14 rfl rfl rfl rfl (vs := [u3, .int .i64 2]) rfl (made_Dice_Next_ok e50) rfl .nil ?_)
                    rintro _ w52 _ _ _ ⟨rfl, rfl, rfl, rfl⟩ h134
                    have h135 := h134
                    simp only [List.cons_append, List.nil_append] at h135
                    refine RunL.op (OpS.bin rfl rfl rfl rfl rfl ?_)
                    obtain ⟨x12, e51, hF⟩ := bindP_use hF
                    refine RunL.op (OpS.make h135 Try.underlying22 ti5 rfl rfl (Zr.int .u8 0) rfl rfl rfl rfl e51 (by simp) (mk_fits e51) rfl (fun u17 w53 h136 => ?_))
                    refine RunL.op (OpS.fbox (o3 := 8) h136 (.s (.s .z)) PA.z fa24_8 rfl rfl rfl rfl ?_)
                    have h137 := (h136.pick .z).freeze
                    obtain ⟨d6, e52, hF⟩ := letP_use hF
                    refine RunL.op (OpS.storeB (f' := true) h137 (.s .z) PA.a (Put.of (Put.fld Message_.f8) e52) ty22 rfl rfl rfl (V.at .z) (.inl rfl) (fun w54 h138 => ?_))
                    refine RunL.nil ?_
                    refine Run.slim [(6, u5), (5, u3), (2, u1)] ⟨rfl, rfl, rfl, trivial⟩ ?_
                    refine Run.slim [(2, u1), (5, u3), (6, u5)] ⟨rfl, rfl, rfl, trivial⟩ ?_
                    exact hj2 (y21.2, d6) _ _ ⟨rfl, (h138.facts .nil).picks (.cons (.s (.s .z)) (.cons (.s .z) (.cons .z .nil)))⟩ hF
                  ·
                    refine Run.skip ?_
                    refine Run.slim [(2, u1), (5, u3), (6, u5)] ⟨rfl, rfl, rfl, trivial⟩ ?_
                    exact hj2 (y5.2, y4.1) _ _ ⟨rfl, (h19.facts .nil).picks (.cons (.s (.s .z)) (.cons .z (.cons .z .nil)))⟩ hF
  ·
    refine RunL.caseb hF (fun e53 hF => ?_) (fun e53 hF => ?_)
    ·
      refine RunL.op (OpS.pass rfl rfl rfl ?_)
      refine RunL.op (OpS.pass rfl rfl rfl ?_)
      refine RunL.op (OpS.pass rfl rfl rfl ?_)
      refine RunL.op (OpS.pick rfl rfl rfl rfl ?_)
      refine RunL.nil ?_
      refine Run.slim [(25, .bool true), (2, u1), (1, v1)] ⟨rfl, rfl, rfl, trivial⟩ ?_
      refine Run.slim [(1, v1), (2, u1), (25, .bool true)] ⟨rfl, rfl, rfl, trivial⟩ ?_
      exact hj1 (true) _ _ ⟨rfl, (h2.facts (.atm (.s (.s .z)) .nil)).picks (.cons .z .nil)⟩ hF
    ·
      refine RunL.op (OpS.mv rfl rfl rfl ?_)
      obtain ⟨y22, e54, hF⟩ := bindP_use hF
      refine RunL.op (OpS.callP h2 Try.func9 rfl rfl rfl rfl (vs := [v1]) rfl (made_Light_ok e54) (.cons (V.at (.s (.s .z))) .nil) ?_)
      rintro _ w55 _ _ _ ⟨rfl, rfl, rfl, rfl⟩ h139
      have h140 := h139 rfl rfl
      simp only [List.cons_append, List.nil_append] at h140
      refine RunL.op (OpS.not rfl rfl rfl ?_)
      refine RunL.op (OpS.pick rfl rfl rfl rfl ?_)
      refine RunL.nil ?_
      refine Run.slim [(25, .bool (!y22)), (2, u1), (1, v1)] ⟨rfl, rfl, rfl, trivial⟩ ?_
      refine Run.slim [(1, v1), (2, u1), (25, .bool (!y22))] ⟨rfl, rfl, rfl, trivial⟩ ?_
      exact hj1 (!y22) _ _ ⟨rfl, (h140.facts (.atm (.s (.s .z)) .nil)).picks (.cons .z .nil)⟩ hF
end Lift
