/- Each Go function computes its plain function. Written by lift.py. -/
import Derived.Test.YtlfbpnoempdiiaaResponderAnswersWalksB
set_option linter.unusedVariables false
set_option linter.unusedSimpArgs false
namespace Lift
open Go Go.Proofs
open RunL (op)
set_option maxHeartbeats 8000000 in
theorem ref25_Same_ok {fuel : Nat} {a0 : Message_} {a1 : Message_} {y : Bool} (hF : ref25_Same fuel a0 a1 = some y) {w : World} {v0 v1 : Value} :
  Spec Try.prog 30 [v0, v1].toArray w [(false, .val Message_.rep v0 a0), (false, .val Message_.rep v1 a1)] [] (fun v Γr Ωr Ωo => v = .bool y ∧ Γr = [] ∧ Ωr = [] ∧ Ωo = []) := by
 refine Spec.of (L := [(0, v0), (1, v1)]) Try.func30 rfl ⟨rfl, rfl, trivial⟩ rfl (fun e h => ?_)
 unfold ref25_Same at hF
 refine Run.seq ?_
 refine Run.reg ?_
 refine op (OpS.boxF h rfl rfl rfl (V.at .z) (fun u1 w1 h1 => ?_))
 refine op (OpS.boxF h1 rfl rfl rfl (V.at (.s .z)) (fun u2 w2 h2 => ?_))
 refine op (OpS.as rfl rfl rfl ?_)
 refine RunL.nil ?_
 refine Run.slim [(3, u2), (2, u1)] ⟨rfl, rfl, trivial⟩ ?_
 refine Run.seq ?_
 refine Run.reg ?_
 refine op (OpS.fbox (o3 := 0) h2 (.s .z) PA.z fa37_0 rfl rfl rfl rfl ?_)
 refine op (OpS.loadBi h2 (.s .z) PA.a (Get.fld Message_.f0) ty5 rfl rfl rfl ?_)
 refine op (OpS.fbox (o3 := 0) h2 .z PA.z fa37_0 rfl rfl rfl rfl ?_)
 refine op (OpS.loadBi h2 .z PA.a (Get.fld Message_.f0) ty5 rfl rfl rfl ?_)
 refine op (OpS.bin rfl rfl rfl rfl rfl ?_)
 refine op (OpS.mv rfl rfl rfl ?_)
 refine RunL.caseb hF (fun e1 hF => ?_) (fun e1 hF => ?_)
 ·
  refine op (OpS.fbox (o3 := 1) h2 (.s .z) PA.z fa37_1 rfl rfl rfl rfl ?_)
  refine op (OpS.loadBi h2 (.s .z) PA.a (Get.fld Message_.f1) ty5 rfl rfl rfl ?_)
  refine op (OpS.fbox (o3 := 1) h2 .z PA.z fa37_1 rfl rfl rfl rfl ?_)
  refine op (OpS.loadBi h2 .z PA.a (Get.fld Message_.f1) ty5 rfl rfl rfl ?_)
  refine op (OpS.bin rfl rfl rfl rfl rfl ?_)
  refine op (OpS.pick rfl rfl rfl rfl ?_)
  refine op (OpS.mv rfl rfl rfl ?_)
  refine RunL.caseb hF (fun e2 hF => ?_) (fun e2 hF => ?_)
  ·
   refine op (OpS.fbox (o3 := 2) h2 (.s .z) PA.z fa37_2 rfl rfl rfl rfl ?_)
   refine op (OpS.loadBi h2 (.s .z) PA.a (Get.fld Message_.f2) ty5 rfl rfl rfl ?_)
   refine op (OpS.fbox (o3 := 2) h2 .z PA.z fa37_2 rfl rfl rfl rfl ?_)
   refine op (OpS.loadBi h2 .z PA.a (Get.fld Message_.f2) ty5 rfl rfl rfl ?_)
   refine op (OpS.bin rfl rfl rfl rfl rfl ?_)
   refine op (OpS.pick rfl rfl rfl rfl ?_)
   refine op (OpS.mv rfl rfl rfl ?_)
   refine RunL.caseb hF (fun e3 hF => ?_) (fun e3 hF => ?_)
   ·
    refine op (OpS.fbox (o3 := 3) h2 (.s .z) PA.z fa37_3 rfl rfl rfl rfl ?_)
    refine op (OpS.loadBi h2 (.s .z) PA.a (Get.fld Message_.f3) ty5 rfl rfl rfl ?_)
    refine op (OpS.fbox (o3 := 3) h2 .z PA.z fa37_3 rfl rfl rfl rfl ?_)
    refine op (OpS.loadBi h2 .z PA.a (Get.fld Message_.f3) ty5 rfl rfl rfl ?_)
    refine op (OpS.bin rfl rfl rfl rfl rfl ?_)
    refine op (OpS.pick rfl rfl rfl rfl ?_)
    refine op (OpS.mv rfl rfl rfl ?_)
    refine RunL.caseb hF (fun e4 hF => ?_) (fun e4 hF => ?_)
    ·
     refine op (OpS.fbox (o3 := 4) h2 (.s .z) PA.z fa37_4 rfl rfl rfl rfl ?_)
     refine op (OpS.loadBi h2 (.s .z) PA.a (Get.fld Message_.f4) ty3 rfl rfl rfl ?_)
     refine op (OpS.fbox (o3 := 4) h2 .z PA.z fa37_4 rfl rfl rfl rfl ?_)
     refine op (OpS.loadBi h2 .z PA.a (Get.fld Message_.f4) ty3 rfl rfl rfl ?_)
     refine op (OpS.bin rfl rfl rfl rfl rfl ?_)
     refine op (OpS.pick rfl rfl rfl rfl ?_)
     refine op (OpS.mv rfl rfl rfl ?_)
     refine RunL.caseb hF (fun e5 hF => ?_) (fun e5 hF => ?_)
     ·
      refine op (OpS.fbox (o3 := 5) h2 (.s .z) PA.z fa37_5 rfl rfl rfl rfl ?_)
      refine op (OpS.loadBi h2 (.s .z) PA.a (Get.fld Message_.f5) ty3 rfl rfl rfl ?_)
      refine op (OpS.fbox (o3 := 5) h2 .z PA.z fa37_5 rfl rfl rfl rfl ?_)
      refine op (OpS.loadBi h2 .z PA.a (Get.fld Message_.f5) ty3 rfl rfl rfl ?_)
      refine op (OpS.bin rfl rfl rfl rfl rfl ?_)
      refine op (OpS.pick rfl rfl rfl rfl ?_)
      refine op (OpS.mv rfl rfl rfl ?_)
      refine RunL.caseb hF (fun e6 hF => ?_) (fun e6 hF => ?_)
      ·
       refine op (OpS.fbox (o3 := 6) h2 (.s .z) PA.z fa37_6 rfl rfl rfl rfl ?_)
       refine op (OpS.loadBi h2 (.s .z) PA.a (Get.fld Message_.f6) ty3 rfl rfl rfl ?_)
       refine op (OpS.fbox (o3 := 6) h2 .z PA.z fa37_6 rfl rfl rfl rfl ?_)
       refine op (OpS.loadBi h2 .z PA.a (Get.fld Message_.f6) ty3 rfl rfl rfl ?_)
       refine op (OpS.bin rfl rfl rfl rfl rfl ?_)
       refine op (OpS.pick rfl rfl rfl rfl ?_)
       refine op (OpS.mv rfl rfl rfl ?_)
       refine RunL.caseb hF (fun e7 hF => ?_) (fun e7 hF => ?_)
       ·
        refine op (OpS.fbox (o3 := 8) h2 (.s .z) PA.z fa37_8 rfl rfl rfl rfl ?_)
        refine op (OpS.loadB h2 (.s .z) PA.a (Get.fld Message_.f8) ty22 rfl rfl rfl (fun u3 h3 => ?_))
        refine op (OpS.toStr h3 Try.underlying22 Try.underlying5 Try.underlying9 rfl rfl rfl (V.at .z) (fun u4 h4 => ?_))
        refine op (OpS.fbox (o3 := 8) h4 .z PA.z fa37_8 rfl rfl rfl rfl ?_)
        refine op (OpS.loadB h4 .z PA.a (Get.fld Message_.f8) ty22 rfl rfl rfl (fun u5 h5 => ?_))
        refine op (OpS.toStr h5 Try.underlying22 Try.underlying5 Try.underlying9 rfl rfl rfl (V.at .z) (fun u6 h6 => ?_))
        refine op (OpS.eqs h6 rfl rfl rfl rfl (V.at (.s (.s .z))) (V.at .z) Try.underlying9 ?_)
        refine op (OpS.pick rfl rfl rfl rfl ?_)
        refine op (OpS.as rfl rfl rfl ?_)
        obtain ⟨x1, e8, hF⟩ := letP_use hF
        refine RunL.nameb e8 ?_
        refine RunL.nil ?_
        refine Run.slim [(4, .bool x1)] ⟨rfl, trivial⟩ ?_
        refine Run.retP rfl (.tmp rfl .nil) ?_
        cases hF
        exact Post.mk' ⟨rfl, rfl, rfl, rfl⟩ (h6.picks .nil) .nil
       ·
        refine op (OpS.pass rfl rfl rfl ?_)
        refine op (OpS.pass rfl rfl rfl ?_)
        refine op (OpS.pass rfl rfl rfl ?_)
        refine op (OpS.pass rfl rfl rfl ?_)
        refine op (OpS.pass rfl rfl rfl ?_)
        refine op (OpS.pass rfl rfl rfl ?_)
        refine op (OpS.pass rfl rfl rfl ?_)
        refine op (OpS.pick rfl rfl rfl rfl ?_)
        refine op (OpS.as rfl rfl rfl ?_)
        refine RunL.nil ?_
        refine Run.slim [(4, .bool false)] ⟨rfl, trivial⟩ ?_
        refine Run.retP rfl (.tmp rfl .nil) ?_
        cases hF
        exact Post.mk' ⟨rfl, rfl, rfl, rfl⟩ (h2.picks .nil) .nil
      ·
       refine op (OpS.pass rfl rfl rfl ?_)
       refine op (OpS.pass rfl rfl rfl ?_)
       refine op (OpS.pass rfl rfl rfl ?_)
       refine op (OpS.pass rfl rfl rfl ?_)
       refine op (OpS.pass rfl rfl rfl ?_)
       refine op (OpS.pick rfl rfl rfl rfl ?_)
       refine op (OpS.mv rfl rfl rfl ?_)
       refine op (OpS.pass rfl rfl rfl ?_)
       refine op (OpS.pass rfl rfl rfl ?_)
       refine op (OpS.pass rfl rfl rfl ?_)
       refine op (OpS.pass rfl rfl rfl ?_)
       refine op (OpS.pass rfl rfl rfl ?_)
       refine op (OpS.pass rfl rfl rfl ?_)
       refine op (OpS.pass rfl rfl rfl ?_)
       refine op (OpS.pick rfl rfl rfl rfl ?_)
       refine op (OpS.as rfl rfl rfl ?_)
       refine RunL.nil ?_
       refine Run.slim [(4, .bool false)] ⟨rfl, trivial⟩ ?_
       refine Run.retP rfl (.tmp rfl .nil) ?_
       cases hF
       exact Post.mk' ⟨rfl, rfl, rfl, rfl⟩ (h2.picks .nil) .nil
     ·
      refine op (OpS.pass rfl rfl rfl ?_)
      refine op (OpS.pass rfl rfl rfl ?_)
      refine op (OpS.pass rfl rfl rfl ?_)
      refine op (OpS.pass rfl rfl rfl ?_)
      refine op (OpS.pass rfl rfl rfl ?_)
      refine op (OpS.pick rfl rfl rfl rfl ?_)
      refine op (OpS.mv rfl rfl rfl ?_)
      refine op (OpS.pass rfl rfl rfl ?_)
      refine op (OpS.pass rfl rfl rfl ?_)
      refine op (OpS.pass rfl rfl rfl ?_)
      refine op (OpS.pass rfl rfl rfl ?_)
      refine op (OpS.pass rfl rfl rfl ?_)
      refine op (OpS.pick rfl rfl rfl rfl ?_)
      refine op (OpS.mv rfl rfl rfl ?_)
      refine op (OpS.pass rfl rfl rfl ?_)
      refine op (OpS.pass rfl rfl rfl ?_)
      refine op (OpS.pass rfl rfl rfl ?_)
      refine op (OpS.pass rfl rfl rfl ?_)
      refine op (OpS.pass rfl rfl rfl ?_)
      refine op (OpS.pass rfl rfl rfl ?_)
      refine op (OpS.pass rfl rfl rfl ?_)
      refine op (OpS.pick rfl rfl rfl rfl ?_)
      refine op (OpS.as rfl rfl rfl ?_)
      refine RunL.nil ?_
      refine Run.slim [(4, .bool false)] ⟨rfl, trivial⟩ ?_
      refine Run.retP rfl (.tmp rfl .nil) ?_
      cases hF
      exact Post.mk' ⟨rfl, rfl, rfl, rfl⟩ (h2.picks .nil) .nil
    ·
     refine op (OpS.pass rfl rfl rfl ?_)
     refine op (OpS.pass rfl rfl rfl ?_)
     refine op (OpS.pass rfl rfl rfl ?_)
     refine op (OpS.pass rfl rfl rfl ?_)
     refine op (OpS.pass rfl rfl rfl ?_)
     refine op (OpS.pick rfl rfl rfl rfl ?_)
     refine op (OpS.mv rfl rfl rfl ?_)
     refine op (OpS.pass rfl rfl rfl ?_)
     refine op (OpS.pass rfl rfl rfl ?_)
     refine op (OpS.pass rfl rfl rfl ?_)
     refine op (OpS.pass rfl rfl rfl ?_)
     refine op (OpS.pass rfl rfl rfl ?_)
     refine op (OpS.pick rfl rfl rfl rfl ?_)
     refine op (OpS.mv rfl rfl rfl ?_)
     refine op (OpS.pass rfl rfl rfl ?_)
     refine op (OpS.pass rfl rfl rfl ?_)
     refine op (OpS.pass rfl rfl rfl ?_)
     refine op (OpS.pass rfl rfl rfl ?_)
     refine op (OpS.pass rfl rfl rfl ?_)
     refine op (OpS.pick rfl rfl rfl rfl ?_)
     refine op (OpS.mv rfl rfl rfl ?_)
     refine op (OpS.pass rfl rfl rfl ?_)
     refine op (OpS.pass rfl rfl rfl ?_)
     refine op (OpS.pass rfl rfl rfl ?_)
     refine op (OpS.pass rfl rfl rfl ?_)
     refine op (OpS.pass rfl rfl rfl ?_)
     refine op (OpS.pass rfl rfl rfl ?_)
     refine op (OpS.pass rfl rfl rfl ?_)
     refine op (OpS.pick rfl rfl rfl rfl ?_)
     refine op (OpS.as rfl rfl rfl ?_)
     refine RunL.nil ?_
     refine Run.slim [(4, .bool false)] ⟨rfl, trivial⟩ ?_
     refine Run.retP rfl (.tmp rfl .nil) ?_
     cases hF
     exact Post.mk' ⟨rfl, rfl, rfl, rfl⟩ (h2.picks .nil) .nil
   ·
    refine op (OpS.pass rfl rfl rfl ?_)
    refine op (OpS.pass rfl rfl rfl ?_)
    refine op (OpS.pass rfl rfl rfl ?_)
    refine op (OpS.pass rfl rfl rfl ?_)
    refine op (OpS.pass rfl rfl rfl ?_)
    refine op (OpS.pick rfl rfl rfl rfl ?_)
    refine op (OpS.mv rfl rfl rfl ?_)
    refine op (OpS.pass rfl rfl rfl ?_)
    refine op (OpS.pass rfl rfl rfl ?_)
    refine op (OpS.pass rfl rfl rfl ?_)
    refine op (OpS.pass rfl rfl rfl ?_)
    refine op (OpS.pass rfl rfl rfl ?_)
    refine op (OpS.pick rfl rfl rfl rfl ?_)
    refine op (OpS.mv rfl rfl rfl ?_)
    refine op (OpS.pass rfl rfl rfl ?_)
    refine op (OpS.pass rfl rfl rfl ?_)
    refine op (OpS.pass rfl rfl rfl ?_)
    refine op (OpS.pass rfl rfl rfl ?_)
    refine op (OpS.pass rfl rfl rfl ?_)
    refine op (OpS.pick rfl rfl rfl rfl ?_)
    refine op (OpS.mv rfl rfl rfl ?_)
    refine op (OpS.pass rfl rfl rfl ?_)
    refine op (OpS.pass rfl rfl rfl ?_)
    refine op (OpS.pass rfl rfl rfl ?_)
    refine op (OpS.pass rfl rfl rfl ?_)
    refine op (OpS.pass rfl rfl rfl ?_)
    refine op (OpS.pick rfl rfl rfl rfl ?_)
    refine op (OpS.mv rfl rfl rfl ?_)
    refine op (OpS.pass rfl rfl rfl ?_)
    refine op (OpS.pass rfl rfl rfl ?_)
    refine op (OpS.pass rfl rfl rfl ?_)
    refine op (OpS.pass rfl rfl rfl ?_)
    refine op (OpS.pass rfl rfl rfl ?_)
    refine op (OpS.pass rfl rfl rfl ?_)
    refine op (OpS.pass rfl rfl rfl ?_)
    refine op (OpS.pick rfl rfl rfl rfl ?_)
    refine op (OpS.as rfl rfl rfl ?_)
    refine RunL.nil ?_
    refine Run.slim [(4, .bool false)] ⟨rfl, trivial⟩ ?_
    refine Run.retP rfl (.tmp rfl .nil) ?_
    cases hF
    exact Post.mk' ⟨rfl, rfl, rfl, rfl⟩ (h2.picks .nil) .nil
  ·
   refine op (OpS.pass rfl rfl rfl ?_)
   refine op (OpS.pass rfl rfl rfl ?_)
   refine op (OpS.pass rfl rfl rfl ?_)
   refine op (OpS.pass rfl rfl rfl ?_)
   refine op (OpS.pass rfl rfl rfl ?_)
   refine op (OpS.pick rfl rfl rfl rfl ?_)
   refine op (OpS.mv rfl rfl rfl ?_)
   refine op (OpS.pass rfl rfl rfl ?_)
   refine op (OpS.pass rfl rfl rfl ?_)
   refine op (OpS.pass rfl rfl rfl ?_)
   refine op (OpS.pass rfl rfl rfl ?_)
   refine op (OpS.pass rfl rfl rfl ?_)
   refine op (OpS.pick rfl rfl rfl rfl ?_)
   refine op (OpS.mv rfl rfl rfl ?_)
   refine op (OpS.pass rfl rfl rfl ?_)
   refine op (OpS.pass rfl rfl rfl ?_)
   refine op (OpS.pass rfl rfl rfl ?_)
   refine op (OpS.pass rfl rfl rfl ?_)
   refine op (OpS.pass rfl rfl rfl ?_)
   refine op (OpS.pick rfl rfl rfl rfl ?_)
   refine op (OpS.mv rfl rfl rfl ?_)
   refine op (OpS.pass rfl rfl rfl ?_)
   refine op (OpS.pass rfl rfl rfl ?_)
   refine op (OpS.pass rfl rfl rfl ?_)
   refine op (OpS.pass rfl rfl rfl ?_)
   refine op (OpS.pass rfl rfl rfl ?_)
   refine op (OpS.pick rfl rfl rfl rfl ?_)
   refine op (OpS.mv rfl rfl rfl ?_)
   refine op (OpS.pass rfl rfl rfl ?_)
   refine op (OpS.pass rfl rfl rfl ?_)
   refine op (OpS.pass rfl rfl rfl ?_)
   refine op (OpS.pass rfl rfl rfl ?_)
   refine op (OpS.pass rfl rfl rfl ?_)
   refine op (OpS.pick rfl rfl rfl rfl ?_)
   refine op (OpS.mv rfl rfl rfl ?_)
   refine op (OpS.pass rfl rfl rfl ?_)
   refine op (OpS.pass rfl rfl rfl ?_)
   refine op (OpS.pass rfl rfl rfl ?_)
   refine op (OpS.pass rfl rfl rfl ?_)
   refine op (OpS.pass rfl rfl rfl ?_)
   refine op (OpS.pass rfl rfl rfl ?_)
   refine op (OpS.pass rfl rfl rfl ?_)
   refine op (OpS.pick rfl rfl rfl rfl ?_)
   refine op (OpS.as rfl rfl rfl ?_)
   refine RunL.nil ?_
   refine Run.slim [(4, .bool false)] ⟨rfl, trivial⟩ ?_
   refine Run.retP rfl (.tmp rfl .nil) ?_
   cases hF
   exact Post.mk' ⟨rfl, rfl, rfl, rfl⟩ (h2.picks .nil) .nil
 ·
  refine op (OpS.pass rfl rfl rfl ?_)
  refine op (OpS.pass rfl rfl rfl ?_)
  refine op (OpS.pass rfl rfl rfl ?_)
  refine op (OpS.pass rfl rfl rfl ?_)
  refine op (OpS.pass rfl rfl rfl ?_)
  refine op (OpS.pick rfl rfl rfl rfl ?_)
  refine op (OpS.mv rfl rfl rfl ?_)
  refine op (OpS.pass rfl rfl rfl ?_)
  refine op (OpS.pass rfl rfl rfl ?_)
  refine op (OpS.pass rfl rfl rfl ?_)
  refine op (OpS.pass rfl rfl rfl ?_)
  refine op (OpS.pass rfl rfl rfl ?_)
  refine op (OpS.pick rfl rfl rfl rfl ?_)
  refine op (OpS.mv rfl rfl rfl ?_)
  refine op (OpS.pass rfl rfl rfl ?_)
  refine op (OpS.pass rfl rfl rfl ?_)
  refine op (OpS.pass rfl rfl rfl ?_)
  refine op (OpS.pass rfl rfl rfl ?_)
  refine op (OpS.pass rfl rfl rfl ?_)
  refine op (OpS.pick rfl rfl rfl rfl ?_)
  refine op (OpS.mv rfl rfl rfl ?_)
  refine op (OpS.pass rfl rfl rfl ?_)
  refine op (OpS.pass rfl rfl rfl ?_)
  refine op (OpS.pass rfl rfl rfl ?_)
  refine op (OpS.pass rfl rfl rfl ?_)
  refine op (OpS.pass rfl rfl rfl ?_)
  refine op (OpS.pick rfl rfl rfl rfl ?_)
  refine op (OpS.mv rfl rfl rfl ?_)
  refine op (OpS.pass rfl rfl rfl ?_)
  refine op (OpS.pass rfl rfl rfl ?_)
  refine op (OpS.pass rfl rfl rfl ?_)
  refine op (OpS.pass rfl rfl rfl ?_)
  refine op (OpS.pass rfl rfl rfl ?_)
  refine op (OpS.pick rfl rfl rfl rfl ?_)
  refine op (OpS.mv rfl rfl rfl ?_)
  refine op (OpS.pass rfl rfl rfl ?_)
  refine op (OpS.pass rfl rfl rfl ?_)
  refine op (OpS.pass rfl rfl rfl ?_)
  refine op (OpS.pass rfl rfl rfl ?_)
  refine op (OpS.pass rfl rfl rfl ?_)
  refine op (OpS.pick rfl rfl rfl rfl ?_)
  refine op (OpS.mv rfl rfl rfl ?_)
  refine op (OpS.pass rfl rfl rfl ?_)
  refine op (OpS.pass rfl rfl rfl ?_)
  refine op (OpS.pass rfl rfl rfl ?_)
  refine op (OpS.pass rfl rfl rfl ?_)
  refine op (OpS.pass rfl rfl rfl ?_)
  refine op (OpS.pass rfl rfl rfl ?_)
  refine op (OpS.pass rfl rfl rfl ?_)
  refine op (OpS.pick rfl rfl rfl rfl ?_)
  refine op (OpS.as rfl rfl rfl ?_)
  refine RunL.nil ?_
  refine Run.slim [(4, .bool false)] ⟨rfl, trivial⟩ ?_
  refine Run.retP rfl (.tmp rfl .nil) ?_
  cases hF
  exact Post.mk' ⟨rfl, rfl, rfl, rfl⟩ (h2.picks .nil) .nil
set_option maxHeartbeats 8000000 in
theorem ref23_parse_ok {fuel : Nat} {a0 : List Int} {a1 : Int} {y : Message_ × Int} (hF : ref23_parse fuel a0 a1 = some y) {w : World} {v0 : Value} :
  Spec Try.prog 71 [v0, .int .i64 a1].toArray w [(false, .val (Rep.slice (Rep.int .u8)) v0 a0)] [] (fun v Γr Ωr Ωo => ∃ u0 : Value, v = .tuple #[u0, .int .i64 y.2] ∧ Γr = [(true, .val Message_.rep u0 y.1)] ∧ Ωr = [] ∧ Ωo = []) := by
 refine Spec.of (L := [(0, v0), (1, .int .i64 a1)]) Try.func71 rfl ⟨rfl, rfl, trivial⟩ rfl (fun e h => ?_)
 unfold ref23_parse at hF
 refine Run.seq ?_
 refine Run.reg ?_
 refine op (OpS.alloc h ti37 Message_.zr rfl rfl (fun u1 w1 h1 => ?_))
 refine op (OpS.as rfl rfl rfl ?_)
 refine RunL.nil ?_
 refine Run.slim [(4, u1), (0, v0), (1, .int .i64 a1)] ⟨rfl, rfl, rfl, trivial⟩ ?_
 refine Run.seq ?_
 refine Run.reg ?_
 refine op (OpS.build (f := true) (x' := Message_.z) h1 pl37 ti37 Message_.zr rfl rfl rfl .nil (fun u2 h2 => ?_))
 refine op (OpS.alloc h2 ti37 Message_.zr rfl rfl (fun u3 w2 h3 => ?_))
 refine op (OpS.storeB (f' := true) h3 .z PA.z Put.id ty37 rfl rfl rfl (V.at .z) (.inl rfl) (fun w3 h4 => ?_))
 refine RunL.nil ?_
 refine Run.slim [(6, u3), (4, u1), (0, v0), (1, .int .i64 a1)] ⟨rfl, rfl, rfl, rfl, trivial⟩ ?_
 refine Run.seq ?_
 refine Run.seq ?_
 refine Run.reg ?_
 refine op (OpS.mv rfl rfl rfl ?_)
 refine op (OpS.len h4 Try.underlying22 rfl rfl rfl (V.at (.s .z)) ?_)
 refine op (OpS.mv rfl rfl rfl ?_)
 refine op (OpS.bin rfl rfl rfl rfl rfl ?_)
 refine op (OpS.bin rfl rfl rfl rfl rfl ?_)
 refine RunL.nil ?_
 refine Run.slim [(13, .bool (decide ((a0.length : Int) < (IntKind.i64.wrap (7 + a1))))), (6, u3), (4, u1), (0, v0), (1, .int .i64 a1)] ⟨rfl, rfl, rfl, rfl, rfl, trivial⟩ ?_
 refine Run.ite rfl hF (fun e1 hF => ?_) (fun e1 hF => ?_)
 ·
  refine Run.seq ?_
  refine Run.reg ?_
  refine op (OpS.loadB h4 .z PA.z Get.id ty37 rfl rfl rfl (fun u4 h5 => ?_))
  refine op (OpS.storeB (f' := true) h5 (.s .z) PA.z Put.id ty37 rfl rfl rfl (V.at .z) (.inl rfl) (fun w4 h6 => ?_))
  refine op (OpS.as rfl rfl rfl ?_)
  refine RunL.nil ?_
  refine Run.slim [(5, .int .i64 4), (4, u1)] ⟨rfl, rfl, trivial⟩ ?_
  obtain ⟨u5, hu1, h7⟩ := res_box h6 .z ty37
  refine Run.retP rfl (.cell rfl hu1 (.tmp rfl .nil)) ?_
  cases hF
  exact Post.mk' ⟨u5, rfl, rfl, rfl, rfl⟩ (h7.picks .nil) (.val (V.at .z) .nil)
 ·
  refine Run.skip ?_
  refine Run.seq ?_
  refine Run.seq ?_
  refine Run.reg ?_
  refine op (OpS.mv rfl rfl rfl ?_)
  obtain ⟨x1, e2, hF⟩ := bindP_use hF
  refine op (OpS.sub h4 Try.underlying22 ty5 rfl rfl rfl rfl rfl (V.at (.s .z)) e2 (fun u6 h8 => ?_))
  obtain ⟨y1, e3, hF⟩ := bindP_use hF
  refine op (OpS.callP h8 Try.func74 rfl rfl rfl rfl (vs := [u6]) rfl (ref01_Sum8_ok e3) (.cons (f := false) (V.at .z) .nil) ?_)
  rintro _ w5 _ _ _ ⟨rfl, rfl, rfl, rfl⟩ h9
  have h10 := h9 rfl rfl
  simp only [List.cons_append, List.nil_append] at h10
  refine op (OpS.bin rfl rfl rfl rfl rfl ?_)
  refine op (OpS.mv rfl rfl rfl ?_)
  refine RunL.join (σ := Bool) (fun s_ L_ w_ => L_ = [(0, v0), (1, .int .i64 a1), (4, u1), (6, u3), (24, .bool s_)] ∧ St e w_ [(false, .val (Rep.slice (Rep.int .u8)) v0 a0)] [(true, .box 37 Message_.rep u1 Message_.z), (true, .box 37 Message_.rep u3 Message_.z)]) hF (fun s1 _ w6 hI hF => ?_) (fun j1 hj1 hF => ?_)
  ·
   obtain ⟨rfl, h11⟩ := hI
   refine Run.ite rfl hF (fun e4 hF => ?_) (fun e4 hF => ?_)
   ·
    refine Run.seq ?_
    refine Run.reg ?_
    refine op (OpS.loadB h11 (.s .z) PA.z Get.id ty37 rfl rfl rfl (fun u7 h12 => ?_))
    refine op (OpS.storeB (f' := true) h12 .z PA.z Put.id ty37 rfl rfl rfl (V.at .z) (.inl rfl) (fun w7 h13 => ?_))
    refine op (OpS.as rfl rfl rfl ?_)
    refine RunL.nil ?_
    refine Run.slim [(5, .int .i64 5), (4, u1)] ⟨rfl, rfl, trivial⟩ ?_
    obtain ⟨u8, hu2, h14⟩ := res_box h13 .z ty37
    refine Run.retP rfl (.cell rfl hu2 (.tmp rfl .nil)) ?_
    cases hF
    exact Post.mk' ⟨u8, rfl, rfl, rfl, rfl⟩ (h14.picks .nil) (.val (V.at .z) .nil)
   ·
    refine Run.skip ?_
    refine Run.seq ?_
    obtain ⟨x2, e5, hF⟩ := bindP_use hF
    obtain ⟨x3, e6, hF⟩ := bindP_use hF
    obtain ⟨x4, e7, hF⟩ := bindP_use hF
    obtain ⟨x5, e8, hF⟩ := bindP_use hF
    obtain ⟨x6, e9, hF⟩ := bindP_use hF
    obtain ⟨x7, e10, hF⟩ := bindP_use hF
    obtain ⟨x8, e11, hF⟩ := bindP_use hF
    refine Run.drawV (Ωs := [(true, .box 37 Message_.rep u1 Message_.z), (true, .box 37 Message_.rep u3 Message_.z)]) [⟨some 26, some (v0), fun _ => [], fun ds_ u_ => [], [], [], none⟩, ⟨some 27, none, fun u_ => [(false, .ptr (Rep.int .u8) u_ x2)], fun ds_ u_ => [], [], [], none⟩, ⟨some 28, some (.int .u8 x2), fun _ => [], fun ds_ u_ => [], [], [], none⟩, ⟨some 29, some (.int .u8 (IntKind.u8.wrap (Int.tdiv x2 2))), fun _ => [], fun ds_ u_ => [], [], [], none⟩, ⟨some 30, some (v0), fun _ => [], fun ds_ u_ => [], [], [], none⟩, ⟨some 31, none, fun u_ => [(false, .ptr (Rep.int .u8) u_ x3)], fun ds_ u_ => [], [], [], none⟩, ⟨some 32, some (.int .u8 x3), fun _ => [], fun ds_ u_ => [], [], [], none⟩, ⟨some 33, some (.int .u8 (IntKind.u8.wrap (Int.tdiv x3 2))), fun _ => [], fun ds_ u_ => [], [], [], none⟩, ⟨some 34, some (v0), fun _ => [], fun ds_ u_ => [], [], [], none⟩, ⟨some 35, none, fun u_ => [(false, .ptr (Rep.int .u8) u_ x4)], fun ds_ u_ => [], [], [], none⟩, ⟨some 36, some (.int .u8 x4), fun _ => [], fun ds_ u_ => [], [], [], none⟩, ⟨some 37, some (.int .u8 (IntKind.u8.wrap (Int.tdiv x4 4))), fun _ => [], fun ds_ u_ => [], [], [], none⟩, ⟨some 38, some (v0), fun _ => [], fun ds_ u_ => [], [], [], none⟩, ⟨some 39, none, fun u_ => [(false, .ptr (Rep.int .u8) u_ x5)], fun ds_ u_ => [], [], [], none⟩, ⟨some 40, some (.int .u8 x5), fun _ => [], fun ds_ u_ => [], [], [], none⟩, ⟨some 41, some (v0), fun _ => [], fun ds_ u_ => [], [], [], none⟩, ⟨some 42, none, fun u_ => [(false, .ptr (Rep.int .u8) u_ x6)], fun ds_ u_ => [], [], [], none⟩, ⟨some 43, some (.int .u8 x6), fun _ => [], fun ds_ u_ => [], [], [], none⟩, ⟨some 44, some (.int .i64 (IntKind.i64.wrap x6)), fun _ => [], fun ds_ u_ => [], [], [], none⟩, ⟨some 45, some (.int .i64 (Int.tmod (IntKind.i64.wrap x6) 4)), fun _ => [], fun ds_ u_ => [], [], [], none⟩, ⟨some 46, some (v0), fun _ => [], fun ds_ u_ => [], [], [], none⟩, ⟨some 47, none, fun u_ => [(false, .ptr (Rep.int .u8) u_ x7)], fun ds_ u_ => [], [], [], none⟩, ⟨some 48, some (.int .u8 x7), fun _ => [], fun ds_ u_ => [], [], [], none⟩, ⟨some 49, some (.int .i64 (IntKind.i64.wrap x7)), fun _ => [], fun ds_ u_ => [], [], [], none⟩, ⟨some 50, some (.int .i64 (Int.tmod (IntKind.i64.wrap x7) 4)), fun _ => [], fun ds_ u_ => [], [], [], none⟩, ⟨some 51, some (v0), fun _ => [], fun ds_ u_ => [], [], [], none⟩, ⟨some 52, none, fun u_ => [(false, .ptr (Rep.int .u8) u_ x8)], fun ds_ u_ => [], [], [], none⟩, ⟨some 53, some (.int .u8 x8), fun _ => [], fun ds_ u_ => [], [], [], none⟩, ⟨some 54, some (.int .i64 (IntKind.i64.wrap x8)), fun _ => [], fun ds_ u_ => [], [], [], none⟩, ⟨some 55, some (.int .i64 (IntKind.i64.wrap (Int.tdiv (IntKind.i64.wrap x8) 4))), fun _ => [], fun ds_ u_ => [], [], [], none⟩, ⟨some 56, none, fun u_ => [(true, .val Message_.rep u_ (⟨(IntKind.u8.wrap (Int.tdiv x2 2)), (IntKind.u8.wrap (Int.tdiv x3 2)), (IntKind.u8.wrap (Int.tdiv x4 4)), x5, (Int.tmod (IntKind.i64.wrap x6) 4), (Int.tmod (IntKind.i64.wrap x7) 4), (IntKind.i64.wrap (Int.tdiv (IntKind.i64.wrap x8) 4)), 0, []⟩ : Message_))], fun ds_ u_ => [], [], [], none⟩, ⟨some 7, none, fun u_ => [], fun ds_ u_ => [(true, .box 37 Message_.rep u_ Message_.z)], [], [], none⟩] [[], [0], [1], [2], [], [4], [5], [6], [], [8], [9], [10], [], [12], [13], [], [15], [16], [17], [18], [], [20], [21], [22], [23], [], [25], [26], [27], [28], [3, 7, 11, 14, 19, 24, 29], []] [] [0, 1, 2, 3, 4, 5, 6, 7, 8, 9, 10, 11, 12, 13, 14, 15, 16, 17, 18, 19, 20, 21, 22, 23, 24, 25, 26, 27, 28, 29, 30, 31] Try_mixed rfl rfl rfl h11 (.cons ?_ (.cons ?_ (.cons ?_ (.cons ?_ (.cons ?_ (.cons ?_ (.cons ?_ (.cons ?_ (.cons ?_ (.cons ?_ (.cons ?_ (.cons ?_ (.cons ?_ (.cons ?_ (.cons ?_ (.cons ?_ (.cons ?_ (.cons ?_ (.cons ?_ (.cons ?_ (.cons ?_ (.cons ?_ (.cons ?_ (.cons ?_ (.cons ?_ (.cons ?_ (.cons ?_ (.cons ?_ (.cons ?_ (.cons ?_ (.cons ?_ (.cons ?_ .nil)))))))))))))))))))))))))))))))) (fun q1 w hq1 h => ?_)
    ·intro q1 w Γx Ωx h
     refine OpS.mv rfl rfl rfl ?_
     exact ⟨undef, rfl, trivial, h⟩
    ·intro q1 w Γx Ωx h
     refine OpS.iptr h Try.underlying22 ty5 rfl rfl rfl rfl (V.at .z) e5 (fun u h24 => ?_)
     exact ⟨u, rfl, trivial, h24⟩
    ·intro q1 w Γx Ωx h
     refine OpS.loadi h ty5 rfl rfl rfl .z ?_
     exact ⟨undef, rfl, trivial, h⟩
    ·intro q1 w Γx Ωx h
     refine OpS.quo rfl rfl rfl rfl (by decide) ?_
     exact ⟨undef, rfl, trivial, h⟩
    ·intro q1 w Γx Ωx h
     refine OpS.mv rfl rfl rfl ?_
     exact ⟨undef, rfl, trivial, h⟩
    ·intro q1 w Γx Ωx h
     refine OpS.iptr h Try.underlying22 ty5 rfl rfl rfl rfl (V.at .z) e6 (fun u h25 => ?_)
     exact ⟨u, rfl, trivial, h25⟩
    ·intro q1 w Γx Ωx h
     refine OpS.loadi h ty5 rfl rfl rfl .z ?_
     exact ⟨undef, rfl, trivial, h⟩
    ·intro q1 w Γx Ωx h
     refine OpS.quo rfl rfl rfl rfl (by decide) ?_
     exact ⟨undef, rfl, trivial, h⟩
    ·intro q1 w Γx Ωx h
     refine OpS.mv rfl rfl rfl ?_
     exact ⟨undef, rfl, trivial, h⟩
    ·intro q1 w Γx Ωx h
     refine OpS.iptr h Try.underlying22 ty5 rfl rfl rfl rfl (V.at .z) e7 (fun u h26 => ?_)
     exact ⟨u, rfl, trivial, h26⟩
    ·intro q1 w Γx Ωx h
     refine OpS.loadi h ty5 rfl rfl rfl .z ?_
     exact ⟨undef, rfl, trivial, h⟩
    ·intro q1 w Γx Ωx h
     refine OpS.quo rfl rfl rfl rfl (by decide) ?_
     exact ⟨undef, rfl, trivial, h⟩
    ·intro q1 w Γx Ωx h
     refine OpS.mv rfl rfl rfl ?_
     exact ⟨undef, rfl, trivial, h⟩
    ·intro q1 w Γx Ωx h
     refine OpS.iptr h Try.underlying22 ty5 rfl rfl rfl rfl (V.at .z) e8 (fun u h27 => ?_)
     exact ⟨u, rfl, trivial, h27⟩
    ·intro q1 w Γx Ωx h
     refine OpS.loadi h ty5 rfl rfl rfl .z ?_
     exact ⟨undef, rfl, trivial, h⟩
    ·intro q1 w Γx Ωx h
     refine OpS.mv rfl rfl rfl ?_
     exact ⟨undef, rfl, trivial, h⟩
    ·intro q1 w Γx Ωx h
     refine OpS.iptr h Try.underlying22 ty5 rfl rfl rfl rfl (V.at .z) e9 (fun u h28 => ?_)
     exact ⟨u, rfl, trivial, h28⟩
    ·intro q1 w Γx Ωx h
     refine OpS.loadi h ty5 rfl rfl rfl .z ?_
     exact ⟨undef, rfl, trivial, h⟩
    ·intro q1 w Γx Ωx h
     refine OpS.conv Try.underlying5 Try.underlying3 rfl rfl rfl ?_
     exact ⟨undef, rfl, trivial, h⟩
    ·intro q1 w Γx Ωx h
     refine OpS.rem rfl rfl rfl rfl (by decide) ?_
     exact ⟨undef, rfl, trivial, h⟩
    ·intro q1 w Γx Ωx h
     refine OpS.mv rfl rfl rfl ?_
     exact ⟨undef, rfl, trivial, h⟩
    ·intro q1 w Γx Ωx h
     refine OpS.iptr h Try.underlying22 ty5 rfl rfl rfl rfl (V.at .z) e10 (fun u h29 => ?_)
     exact ⟨u, rfl, trivial, h29⟩
    ·intro q1 w Γx Ωx h
     refine OpS.loadi h ty5 rfl rfl rfl .z ?_
     exact ⟨undef, rfl, trivial, h⟩
    ·intro q1 w Γx Ωx h
     refine OpS.conv Try.underlying5 Try.underlying3 rfl rfl rfl ?_
     exact ⟨undef, rfl, trivial, h⟩
    ·intro q1 w Γx Ωx h
     refine OpS.rem rfl rfl rfl rfl (by decide) ?_
     exact ⟨undef, rfl, trivial, h⟩
    ·intro q1 w Γx Ωx h
     refine OpS.mv rfl rfl rfl ?_
     exact ⟨undef, rfl, trivial, h⟩
    ·intro q1 w Γx Ωx h
     refine OpS.iptr h Try.underlying22 ty5 rfl rfl rfl rfl (V.at .z) e11 (fun u h30 => ?_)
     exact ⟨u, rfl, trivial, h30⟩
    ·intro q1 w Γx Ωx h
     refine OpS.loadi h ty5 rfl rfl rfl .z ?_
     exact ⟨undef, rfl, trivial, h⟩
    ·intro q1 w Γx Ωx h
     refine OpS.conv Try.underlying5 Try.underlying3 rfl rfl rfl ?_
     exact ⟨undef, rfl, trivial, h⟩
    ·intro q1 w Γx Ωx h
     refine OpS.quo rfl rfl rfl rfl (by decide) ?_
     exact ⟨undef, rfl, trivial, h⟩
    ·intro q1 w Γx Ωx h
     refine OpS.build (f := true) (x' := (⟨(IntKind.u8.wrap (Int.tdiv x2 2)), (IntKind.u8.wrap (Int.tdiv x3 2)), (IntKind.u8.wrap (Int.tdiv x4 4)), x5, (Int.tmod (IntKind.i64.wrap x6) 4), (Int.tmod (IntKind.i64.wrap x7) 4), (IntKind.i64.wrap (Int.tdiv (IntKind.i64.wrap x8) 4)), 0, []⟩ : Message_)) h pl37 ti37 Message_.zr rfl rfl rfl (.cons rfl Message_.f0 rfl V.int (.cons rfl Message_.f1 rfl V.int (.cons rfl Message_.f2 rfl V.int (.cons rfl Message_.f3 rfl V.int (.cons rfl Message_.f4 rfl V.int (.cons rfl Message_.f5 rfl V.int (.cons rfl Message_.f6 rfl V.int .nil))))))) (fun u h31 => ?_)
     exact ⟨u, rfl, trivial, h31⟩
    ·intro q1 w Γx Ωx h
     refine OpS.alloc h ti37 Message_.zr rfl rfl (fun u w9 h32 => ?_)
     exact ⟨u, rfl, trivial, h32⟩
    have h33 : St e w [(false, .ptr (Rep.int .u8) (q1 1) x2), (false, .ptr (Rep.int .u8) (q1 5) x3), (false, .ptr (Rep.int .u8) (q1 9) x4), (false, .ptr (Rep.int .u8) (q1 13) x5), (false, .ptr (Rep.int .u8) (q1 16) x6), (false, .ptr (Rep.int .u8) (q1 21) x7), (false, .ptr (Rep.int .u8) (q1 26) x8), (true, .val Message_.rep (q1 30) (⟨(IntKind.u8.wrap (Int.tdiv x2 2)), (IntKind.u8.wrap (Int.tdiv x3 2)), (IntKind.u8.wrap (Int.tdiv x4 4)), x5, (Int.tmod (IntKind.i64.wrap x6) 4), (Int.tmod (IntKind.i64.wrap x7) 4), (IntKind.i64.wrap (Int.tdiv (IntKind.i64.wrap x8) 4)), 0, []⟩ : Message_)), (false, .val (Rep.slice (Rep.int .u8)) v0 a0)] [(true, .box 37 Message_.rep (q1 31) Message_.z), (true, .box 37 Message_.rep u1 Message_.z), (true, .box 37 Message_.rep u3 Message_.z)] := h
    refine op (OpS.storeB (f' := true) h33 .z PA.z Put.id ty37 rfl rfl rfl (V.at (.s (.s (.s (.s (.s (.s (.s .z)))))))) (.inl rfl) (fun w10 h34 => ?_))
    refine RunL.nil ?_
    refine Run.slim [(7, (q1 31)), (0, v0), (1, .int .i64 a1), (4, u1), (6, u3)] ⟨rfl, rfl, rfl, rfl, rfl, trivial⟩ ?_
    refine Run.seq ?_
    refine Run.seq ?_
    refine Run.reg ?_
    refine op (OpS.mv rfl rfl rfl ?_)
    obtain ⟨x9, e12, hF⟩ := bindP_use hF
    refine op (OpS.iptr h34 Try.underlying22 ty5 rfl rfl rfl rfl (V.at (.s (.s (.s (.s (.s (.s (.s (.s .z))))))))) e12 (fun u9 h35 => ?_))
    refine op (OpS.loadi h35 ty5 rfl rfl rfl .z ?_)
    refine op (OpS.rem rfl rfl rfl rfl (by decide) ?_)
    refine op (OpS.bin rfl rfl rfl rfl rfl ?_)
    refine op (OpS.mv rfl rfl rfl ?_)
    refine RunL.join (σ := Bool) (fun s_ L_ w_ => L_ = [(0, v0), (1, .int .i64 a1), (4, u1), (6, u3), (7, (q1 31)), (76, .bool s_)] ∧ St e w_ [(false, .val (Rep.slice (Rep.int .u8)) v0 a0)] [(true, .box 37 Message_.rep u1 Message_.z), (true, .box 37 Message_.rep u3 Message_.z), (true, .box 37 Message_.rep (q1 31) (⟨(IntKind.u8.wrap (Int.tdiv x2 2)), (IntKind.u8.wrap (Int.tdiv x3 2)), (IntKind.u8.wrap (Int.tdiv x4 4)), x5, (Int.tmod (IntKind.i64.wrap x6) 4), (Int.tmod (IntKind.i64.wrap x7) 4), (IntKind.i64.wrap (Int.tdiv (IntKind.i64.wrap x8) 4)), 0, []⟩ : Message_))]) hF (fun s2 _ w11 hI hF => ?_) (fun j2 hj2 hF => ?_)
    ·
     obtain ⟨rfl, h36⟩ := hI
     refine Run.ite rfl hF (fun e13 hF => ?_) (fun e13 hF => ?_)
     ·
      refine Run.seq ?_
      refine Run.reg ?_
      refine op (OpS.loadB h36 (.s .z) PA.z Get.id ty37 rfl rfl rfl (fun u10 h37 => ?_))
      refine op (OpS.storeB (f' := true) h37 .z PA.z Put.id ty37 rfl rfl rfl (V.at .z) (.inl rfl) (fun w12 h38 => ?_))
      refine op (OpS.as rfl rfl rfl ?_)
      refine RunL.nil ?_
      refine Run.slim [(5, .int .i64 6), (4, u1)] ⟨rfl, rfl, trivial⟩ ?_
      obtain ⟨u11, hu3, h39⟩ := res_box h38 .z ty37
      refine Run.retP rfl (.cell rfl hu3 (.tmp rfl .nil)) ?_
      cases hF
      exact Post.mk' ⟨u11, rfl, rfl, rfl, rfl⟩ (h39.picks .nil) (.val (V.at .z) .nil)
     ·
      refine Run.skip ?_
      refine Run.seq ?_
      refine Run.seq ?_
      refine Run.reg ?_
      refine op (OpS.fbox (o3 := 0) h36 (.s (.s .z)) PA.z fa37_0 rfl rfl rfl rfl ?_)
      refine op (OpS.loadBi h36 (.s (.s .z)) PA.a (Get.fld Message_.f0) ty5 rfl rfl rfl ?_)
      obtain ⟨y2, e14, hF⟩ := bindP_use hF
      refine op (OpS.callP h36 Try.func69 rfl rfl rfl rfl (vs := [.int .u8 ((⟨(IntKind.u8.wrap (Int.tdiv x2 2)), (IntKind.u8.wrap (Int.tdiv x3 2)), (IntKind.u8.wrap (Int.tdiv x4 4)), x5, (Int.tmod (IntKind.i64.wrap x6) 4), (Int.tmod (IntKind.i64.wrap x7) 4), (IntKind.i64.wrap (Int.tdiv (IntKind.i64.wrap x8) 4)), 0, []⟩ : Message_).To)]) rfl (ref20_Address_ok e14) .nil ?_)
      rintro _ w13 _ _ _ ⟨rfl, rfl, rfl, rfl⟩ h40
      have h41 := h40 rfl rfl
      simp only [List.cons_append, List.nil_append] at h41
      refine op (OpS.not rfl rfl rfl ?_)
      refine op (OpS.mv rfl rfl rfl ?_)
      refine RunL.join (σ := Bool) (fun s_ L_ w_ => L_ = [(0, v0), (1, .int .i64 a1), (4, u1), (6, u3), (7, (q1 31)), (87, .bool s_)] ∧ St e w_ [(false, .val (Rep.slice (Rep.int .u8)) v0 a0)] [(true, .box 37 Message_.rep u1 Message_.z), (true, .box 37 Message_.rep u3 Message_.z), (true, .box 37 Message_.rep (q1 31) (⟨(IntKind.u8.wrap (Int.tdiv x2 2)), (IntKind.u8.wrap (Int.tdiv x3 2)), (IntKind.u8.wrap (Int.tdiv x4 4)), x5, (Int.tmod (IntKind.i64.wrap x6) 4), (Int.tmod (IntKind.i64.wrap x7) 4), (IntKind.i64.wrap (Int.tdiv (IntKind.i64.wrap x8) 4)), 0, []⟩ : Message_))]) hF (fun s3 _ w14 hI hF => ?_) (fun j3 hj3 hF => ?_)
      ·
       obtain ⟨rfl, h42⟩ := hI
       refine Run.ite rfl hF (fun e15 hF => ?_) (fun e15 hF => ?_)
       ·
        refine Run.seq ?_
        refine Run.reg ?_
        refine op (OpS.loadB h42 (.s .z) PA.z Get.id ty37 rfl rfl rfl (fun u12 h43 => ?_))
        refine op (OpS.storeB (f' := true) h43 .z PA.z Put.id ty37 rfl rfl rfl (V.at .z) (.inl rfl) (fun w15 h44 => ?_))
        refine op (OpS.as rfl rfl rfl ?_)
        refine RunL.nil ?_
        refine Run.slim [(5, .int .i64 13), (4, u1)] ⟨rfl, rfl, trivial⟩ ?_
        obtain ⟨u13, hu4, h45⟩ := res_box h44 .z ty37
        refine Run.retP rfl (.cell rfl hu4 (.tmp rfl .nil)) ?_
        cases hF
        exact Post.mk' ⟨u13, rfl, rfl, rfl, rfl⟩ (h45.picks .nil) (.val (V.at .z) .nil)
       ·
        refine Run.skip ?_
        refine Run.seq ?_
        refine Run.seq ?_
        refine Run.reg ?_
        refine op (OpS.mv rfl rfl rfl ?_)
        refine op (OpS.bin rfl rfl rfl rfl rfl ?_)
        refine RunL.nil ?_
        refine Run.slim [(90, .bool (a1 == 1)), (0, v0), (1, .int .i64 a1), (4, u1), (6, u3), (7, (q1 31))] ⟨rfl, rfl, rfl, rfl, rfl, rfl, trivial⟩ ?_
        refine Run.join (σ := Message_) (fun s_ L_ w_ => L_ = [(0, v0), (1, .int .i64 a1), (4, u1), (6, u3), (7, (q1 31))] ∧ St e w_ [(false, .val (Rep.slice (Rep.int .u8)) v0 a0)] [(true, .box 37 Message_.rep u1 Message_.z), (true, .box 37 Message_.rep u3 Message_.z), (true, .box 37 Message_.rep (q1 31) s_)]) hF (fun s4 _ w16 hI hF => ?_) (fun j4 hj4 hF => ?_)
        ·
         obtain ⟨rfl, h46⟩ := hI
         refine Run.seq ?_
         refine Run.reg ?_
         refine op (OpS.mv rfl rfl rfl ?_)
         refine op (OpS.mv rfl rfl rfl ?_)
         refine op (OpS.bin rfl rfl rfl rfl rfl ?_)
         refine op (OpS.mv rfl rfl rfl ?_)
         refine op (OpS.len h46 Try.underlying22 rfl rfl rfl (V.at .z) ?_)
         refine op (OpS.bin rfl rfl rfl rfl rfl ?_)
         obtain ⟨x10, e16, hF⟩ := bindP_use hF
         refine op (OpS.sub h46 Try.underlying22 ty5 rfl rfl rfl rfl rfl (V.at .z) e16 (fun u14 h47 => ?_))
         obtain ⟨y3, e17, hF⟩ := bindP_use hF
         refine op (OpS.callP h47 Try.func73 rfl rfl rfl rfl (vs := [u14]) rfl (ref01_Copy_ok e17) (.cons (f := false) (V.at .z) .nil) ?_)
         rintro u15 w17 _ _ _ ⟨_, rfl, rfl, rfl, rfl⟩ h48
         have h49 := h48 rfl rfl
         simp only [List.cons_append, List.nil_append] at h49
         refine op (OpS.fbox (o3 := 8) h49 (.s (.s (.s .z))) PA.z fa37_8 rfl rfl rfl rfl ?_)
         refine op (OpS.storeC (f' := true) (fr := (Rep.raw u15)) (r' := (Rep.iso (fun s : Message_ => (s.To, s.From, s.Function, s.Command, s.ToUnit, s.FromUnit, s.Sequence, s.Code, s.Data, ())) (Rep.prod (Rep.int .u8) (Rep.prod (Rep.int .u8) (Rep.prod (Rep.int .u8) (Rep.prod (Rep.int .u8) (Rep.prod (Rep.int .i64) (Rep.prod (Rep.int .i64) (Rep.prod (Rep.int .i64) (Rep.prod (Rep.int .u8) (Rep.prod (Rep.raw u15) Rep.unit))))))))))) (x' := s4) h49 (.s (.s (.s .z))) PA.a (Chg.iso _ (Chg.there (Chg.there (Chg.there (Chg.there (Chg.there (Chg.there (Chg.there (Chg.there (Chg.here (Chg.id (by rfl)))))))))))) (Ty.like ty22 (by rfl) (by rfl)) rfl rfl rfl (V.raw (f := true) (St.own1 h49 .z) s4.Data) (.inl rfl) (fun w18 h50 => ?_))
         refine RunL.nil ?_
         refine Run.slim [(4, u1), (6, u3), (7, (q1 31))] ⟨rfl, rfl, rfl, trivial⟩ ?_
         refine Run.seq ?_
         refine Run.seq ?_
         refine Run.reg ?_
         refine op (OpS.fbox (o3 := 8) h50 .z PA.z fa37_8 rfl rfl rfl rfl ?_)
         refine op (OpS.loadR h50 .z PA.a (GetS.ok (GetS.iso _ (GetS.there (GetS.there (GetS.there (GetS.there (GetS.there (GetS.there (GetS.there (GetS.there (GetS.here GetS.id))))))))))) ty22 rfl rfl rfl rfl rfl ?_)
         refine op (OpS.lenO h50 (.s .z) Try.underlying22 rfl rfl rfl ?_)
         refine op (OpS.bin rfl rfl rfl rfl rfl ?_)
         refine RunL.nil ?_
         refine Run.slim [(107, .bool (decide ((y3.length : Int) > 240))), (4, u1), (6, u3), (7, (q1 31))] ⟨rfl, rfl, rfl, rfl, trivial⟩ ?_
         refine Run.ite rfl hF (fun e18 hF => ?_) (fun e18 hF => ?_)
         ·
          refine Run.seq ?_
          refine Run.reg ?_
          refine op (OpS.loadB h50 (.s (.s (.s .z))) PA.z Get.id ty37 rfl rfl rfl (fun u16 h51 => ?_))
          refine op (OpS.storeB (f' := true) h51 (.s (.s .z)) PA.z Put.id ty37 rfl rfl rfl (V.at .z) (.inl rfl) (fun w19 h52 => ?_))
          refine op (OpS.as rfl rfl rfl ?_)
          refine RunL.nil ?_
          refine Run.slim [(5, .int .i64 3), (4, u1)] ⟨rfl, rfl, trivial⟩ ?_
          obtain ⟨u17, hu5, h53⟩ := res_box h52 .z ty37
          refine Run.retP rfl (.cell rfl hu5 (.tmp rfl .nil)) ?_
          cases hF
          exact Post.mk' ⟨u17, rfl, rfl, rfl, rfl⟩ (h53.picks .nil) (.val (V.at .z) .nil)
         ·
          refine Run.skip ?_
          refine Run.seq ?_
          refine Run.reg ?_
          refine op (OpS.loadB (fr := (Rep.iso (fun s : Message_ => (s.To, s.From, s.Function, s.Command, s.ToUnit, s.FromUnit, s.Sequence, s.Code, s.Data, ())) (Rep.prod (Rep.int .u8) (Rep.prod (Rep.int .u8) (Rep.prod (Rep.int .u8) (Rep.prod (Rep.int .u8) (Rep.prod (Rep.int .i64) (Rep.prod (Rep.int .i64) (Rep.prod (Rep.int .i64) (Rep.prod (Rep.int .u8) (Rep.prod (Rep.raw u15) Rep.unit))))))))))) h50 .z PA.z (GetS.ok GetS.id) (Ty.like ty37 (by rfl) (by rfl)) rfl rfl rfl (fun u18 h54 => ?_))
          refine op (OpS.storeC (f' := true) (fr := (Rep.iso (fun s : Message_ => (s.To, s.From, s.Function, s.Command, s.ToUnit, s.FromUnit, s.Sequence, s.Code, s.Data, ())) (Rep.prod (Rep.int .u8) (Rep.prod (Rep.int .u8) (Rep.prod (Rep.int .u8) (Rep.prod (Rep.int .u8) (Rep.prod (Rep.int .i64) (Rep.prod (Rep.int .i64) (Rep.prod (Rep.int .i64) (Rep.prod (Rep.int .u8) (Rep.prod (Rep.raw u15) Rep.unit))))))))))) (r' := (Rep.iso (fun s : Message_ => (s.To, s.From, s.Function, s.Command, s.ToUnit, s.FromUnit, s.Sequence, s.Code, s.Data, ())) (Rep.prod (Rep.int .u8) (Rep.prod (Rep.int .u8) (Rep.prod (Rep.int .u8) (Rep.prod (Rep.int .u8) (Rep.prod (Rep.int .i64) (Rep.prod (Rep.int .i64) (Rep.prod (Rep.int .i64) (Rep.prod (Rep.int .u8) (Rep.prod (Rep.raw u15) Rep.unit))))))))))) (x' := s4) h54 (.s (.s .z)) PA.z (Chg.id (by rfl)) (Ty.like ty37 (by rfl) (by rfl)) rfl rfl rfl (V.at .z) (.inl rfl) (fun w20 h55 => ?_))
          refine op (OpS.as rfl rfl rfl ?_)
          refine RunL.nil ?_
          refine Run.slim [(5, .int .i64 0), (4, u1)] ⟨rfl, rfl, trivial⟩ ?_
          obtain ⟨u19, hu6, h56⟩ := res_box h55 .z (Ty.like ty37 (by rfl) (by rfl))
          have h57 := (h56.pick (.s (.s .z))).freeze
          have h58 := h57.pick .z
          have h59 := St.boxJ (r' := Message_.rep) (x' := { s4 with Data := y3 }) h58 (fun _ _ hs_ => (Jn.iso _ (Jn.prod Jn.refl (Jn.prod Jn.refl (Jn.prod Jn.refl (Jn.prod Jn.refl (Jn.prod Jn.refl (Jn.prod Jn.refl (Jn.prod Jn.refl (Jn.prod Jn.refl (Jn.prod (Jn.raw ((V.at .z) _ _ hs_) rfl) Jn.refl)))))))))))
          have h60 := h59.pick (.s .z)
          have h61 := St.boxJ (r' := Message_.rep) (x' := { s4 with Data := y3 }) h60 (fun _ _ hs_ => (Jn.iso _ (Jn.prod Jn.refl (Jn.prod Jn.refl (Jn.prod Jn.refl (Jn.prod Jn.refl (Jn.prod Jn.refl (Jn.prod Jn.refl (Jn.prod Jn.refl (Jn.prod Jn.refl (Jn.prod (Jn.raw ((V.at .z) _ _ hs_) rfl) Jn.refl)))))))))))
          have h62 := St.addV (f := true) (r := Message_.rep) (x := { s4 with Data := y3 }) h61 (V.jn (r := (Rep.iso (fun s : Message_ => (s.To, s.From, s.Function, s.Command, s.ToUnit, s.FromUnit, s.Sequence, s.Code, s.Data, ())) (Rep.prod (Rep.int .u8) (Rep.prod (Rep.int .u8) (Rep.prod (Rep.int .u8) (Rep.prod (Rep.int .u8) (Rep.prod (Rep.int .i64) (Rep.prod (Rep.int .i64) (Rep.prod (Rep.int .i64) (Rep.prod (Rep.int .u8) (Rep.prod (Rep.raw u15) Rep.unit))))))))))) (x := s4) (V.at (.s .z)) rfl (fun _ _ hs_ => (Jn.iso _ (Jn.prod Jn.refl (Jn.prod Jn.refl (Jn.prod Jn.refl (Jn.prod Jn.refl (Jn.prod Jn.refl (Jn.prod Jn.refl (Jn.prod Jn.refl (Jn.prod Jn.refl (Jn.prod (Jn.raw ((V.at .z) _ _ hs_) rfl) Jn.refl))))))))))))
          refine Run.retP rfl (.cell rfl hu6 (.tmp rfl .nil)) ?_
          cases hF
          exact Post.mk' ⟨u19, rfl, rfl, rfl, rfl⟩ (h62.picks .nil) (.val (V.at .z) .nil)
        ·
         refine Run.ite rfl hF (fun e19 hF => ?_) (fun e19 hF => ?_)
         ·
          refine Run.reg ?_
          refine op (OpS.mv rfl rfl rfl ?_)
          obtain ⟨x11, e20, hF⟩ := bindP_use hF
          refine op (OpS.iptr h42 Try.underlying22 ty5 rfl rfl rfl rfl (V.at .z) e20 (fun u20 h63 => ?_))
          refine op (OpS.loadi h63 ty5 rfl rfl rfl .z ?_)
          refine op (OpS.fbox (o3 := 7) h63 (.s (.s .z)) PA.z fa37_7 rfl rfl rfl rfl ?_)
          obtain ⟨d1, e21, hF⟩ := letP_use hF
          refine op (OpS.storeB (f' := true) h63 (.s (.s .z)) PA.a (Put.of (Put.fld Message_.f7) e21) ty5 rfl rfl rfl V.int (.inl rfl) (fun w21 h64 => ?_))
          refine RunL.nil ?_
          refine Run.slim [(0, v0), (1, .int .i64 a1), (4, u1), (6, u3), (7, (q1 31))] ⟨rfl, rfl, rfl, rfl, rfl, trivial⟩ ?_
          refine Run.slim [(0, v0), (1, .int .i64 a1), (4, u1), (6, u3), (7, (q1 31))] ⟨rfl, rfl, rfl, rfl, rfl, trivial⟩ ?_
          exact hj4 (d1) _ _ ⟨rfl, (h64.facts (.atm (.s .z) .nil)).picks (.cons (.s .z) (.cons (.s .z) (.cons .z .nil)))⟩ hF
         ·
          refine Run.skip ?_
          refine Run.slim [(0, v0), (1, .int .i64 a1), (4, u1), (6, u3), (7, (q1 31))] ⟨rfl, rfl, rfl, rfl, rfl, trivial⟩ ?_
          exact hj4 ((⟨(IntKind.u8.wrap (Int.tdiv x2 2)), (IntKind.u8.wrap (Int.tdiv x3 2)), (IntKind.u8.wrap (Int.tdiv x4 4)), x5, (Int.tmod (IntKind.i64.wrap x6) 4), (Int.tmod (IntKind.i64.wrap x7) 4), (IntKind.i64.wrap (Int.tdiv (IntKind.i64.wrap x8) 4)), 0, []⟩ : Message_)) _ _ ⟨rfl, (h42.facts (.atm .z .nil)).picks (.cons .z (.cons .z (.cons .z .nil)))⟩ hF
      ·
       refine RunL.caseb hF (fun e22 hF => ?_) (fun e22 hF => ?_)
       ·
        refine op (OpS.pass rfl rfl rfl ?_)
        refine op (OpS.pass rfl rfl rfl ?_)
        refine op (OpS.pass rfl rfl rfl ?_)
        refine op (OpS.pass rfl rfl rfl ?_)
        refine op (OpS.pick rfl rfl rfl rfl ?_)
        refine RunL.nil ?_
        refine Run.slim [(87, .bool true), (0, v0), (1, .int .i64 a1), (4, u1), (6, u3), (7, (q1 31))] ⟨rfl, rfl, rfl, rfl, rfl, rfl, trivial⟩ ?_
        refine Run.slim [(0, v0), (1, .int .i64 a1), (4, u1), (6, u3), (7, (q1 31)), (87, .bool true)] ⟨rfl, rfl, rfl, rfl, rfl, rfl, trivial⟩ ?_
        exact hj3 (true) _ _ ⟨rfl, (h41.facts (.atm .z .nil)).picks (.cons .z (.cons .z (.cons .z .nil)))⟩ hF
       ·
        refine op (OpS.fbox (o3 := 1) h41 (.s (.s .z)) PA.z fa37_1 rfl rfl rfl rfl ?_)
        refine op (OpS.loadBi h41 (.s (.s .z)) PA.a (Get.fld Message_.f1) ty5 rfl rfl rfl ?_)
        obtain ⟨y4, e23, hF⟩ := bindP_use hF
        refine op (OpS.callP h41 Try.func69 rfl rfl rfl rfl (vs := [.int .u8 ((⟨(IntKind.u8.wrap (Int.tdiv x2 2)), (IntKind.u8.wrap (Int.tdiv x3 2)), (IntKind.u8.wrap (Int.tdiv x4 4)), x5, (Int.tmod (IntKind.i64.wrap x6) 4), (Int.tmod (IntKind.i64.wrap x7) 4), (IntKind.i64.wrap (Int.tdiv (IntKind.i64.wrap x8) 4)), 0, []⟩ : Message_).From)]) rfl (ref20_Address_ok e23) .nil ?_)
        rintro _ w22 _ _ _ ⟨rfl, rfl, rfl, rfl⟩ h65
        have h66 := h65 rfl rfl
        simp only [List.cons_append, List.nil_append] at h66
        refine op (OpS.not rfl rfl rfl ?_)
        refine op (OpS.pick rfl rfl rfl rfl ?_)
        refine RunL.nil ?_
        refine Run.slim [(87, .bool (!y4)), (0, v0), (1, .int .i64 a1), (4, u1), (6, u3), (7, (q1 31))] ⟨rfl, rfl, rfl, rfl, rfl, rfl, trivial⟩ ?_
        refine Run.slim [(0, v0), (1, .int .i64 a1), (4, u1), (6, u3), (7, (q1 31)), (87, .bool (!y4))] ⟨rfl, rfl, rfl, rfl, rfl, rfl, trivial⟩ ?_
        exact hj3 (!y4) _ _ ⟨rfl, (h66.facts (.atm .z .nil)).picks (.cons .z (.cons .z (.cons .z .nil)))⟩ hF
    ·
     refine RunL.caseb hF (fun e24 hF => ?_) (fun e24 hF => ?_)
     ·
      refine op (OpS.pass rfl rfl rfl ?_)
      refine op (OpS.pass rfl rfl rfl ?_)
      refine op (OpS.pass rfl rfl rfl ?_)
      refine op (OpS.pass rfl rfl rfl ?_)
      refine op (OpS.pass rfl rfl rfl ?_)
      refine op (OpS.pick rfl rfl rfl rfl ?_)
      refine op (OpS.mv rfl rfl rfl ?_)
      refine op (OpS.pass rfl rfl rfl ?_)
      refine op (OpS.pass rfl rfl rfl ?_)
      refine op (OpS.pass rfl rfl rfl ?_)
      refine op (OpS.pass rfl rfl rfl ?_)
      refine op (OpS.pass rfl rfl rfl ?_)
      refine op (OpS.pass rfl rfl rfl ?_)
      refine op (OpS.pick rfl rfl rfl rfl ?_)
      refine RunL.nil ?_
      refine Run.slim [(76, .bool true), (7, (q1 31)), (0, v0), (1, .int .i64 a1), (4, u1), (6, u3)] ⟨rfl, rfl, rfl, rfl, rfl, rfl, trivial⟩ ?_
      refine Run.slim [(0, v0), (1, .int .i64 a1), (4, u1), (6, u3), (7, (q1 31)), (76, .bool true)] ⟨rfl, rfl, rfl, rfl, rfl, rfl, trivial⟩ ?_
      exact hj2 (true) _ _ ⟨rfl, (h35.facts (.atm (.s (.s (.s (.s (.s (.s (.s (.s (.s .z))))))))) .nil)).picks (.cons (.s .z) (.cons (.s .z) (.cons .z .nil)))⟩ hF
     ·
      refine op (OpS.mv rfl rfl rfl ?_)
      obtain ⟨x12, e25, hF⟩ := bindP_use hF
      refine op (OpS.iptr h35 Try.underlying22 ty5 rfl rfl rfl rfl (V.at (.s (.s (.s (.s (.s (.s (.s (.s (.s .z)))))))))) e25 (fun u21 h67 => ?_))
      refine op (OpS.loadi h67 ty5 rfl rfl rfl .z ?_)
      refine op (OpS.rem rfl rfl rfl rfl (by decide) ?_)
      refine op (OpS.bin rfl rfl rfl rfl rfl ?_)
      refine op (OpS.pick rfl rfl rfl rfl ?_)
      refine op (OpS.mv rfl rfl rfl ?_)
      refine RunL.caseb hF (fun e26 hF => ?_) (fun e26 hF => ?_)
      ·
       refine op (OpS.pass rfl rfl rfl ?_)
       refine op (OpS.pass rfl rfl rfl ?_)
       refine op (OpS.pass rfl rfl rfl ?_)
       refine op (OpS.pass rfl rfl rfl ?_)
       refine op (OpS.pass rfl rfl rfl ?_)
       refine op (OpS.pass rfl rfl rfl ?_)
       refine op (OpS.pick rfl rfl rfl rfl ?_)
       refine RunL.nil ?_
       refine Run.slim [(76, .bool true), (7, (q1 31)), (0, v0), (1, .int .i64 a1), (4, u1), (6, u3)] ⟨rfl, rfl, rfl, rfl, rfl, rfl, trivial⟩ ?_
       refine Run.slim [(0, v0), (1, .int .i64 a1), (4, u1), (6, u3), (7, (q1 31)), (76, .bool true)] ⟨rfl, rfl, rfl, rfl, rfl, rfl, trivial⟩ ?_
       exact hj2 (true) _ _ ⟨rfl, (h67.facts (.atm (.s (.s (.s (.s (.s (.s (.s (.s (.s (.s .z)))))))))) .nil)).picks (.cons (.s .z) (.cons (.s .z) (.cons .z .nil)))⟩ hF
      ·
       refine op (OpS.fbox (o3 := 2) h67 .z PA.z fa37_2 rfl rfl rfl rfl ?_)
       refine op (OpS.loadBi h67 .z PA.a (Get.fld Message_.f2) ty5 rfl rfl rfl ?_)
       refine op (OpS.conv Try.underlying5 Try.underlying3 rfl rfl rfl ?_)
       refine op (OpS.rem rfl rfl rfl rfl (by decide) ?_)
       refine op (OpS.mv rfl rfl rfl ?_)
       refine op (OpS.bin rfl rfl rfl rfl rfl ?_)
       refine op (OpS.pick rfl rfl rfl rfl ?_)
       refine RunL.nil ?_
       refine Run.slim [(76, .bool ((Int.tmod (IntKind.i64.wrap ((⟨(IntKind.u8.wrap (Int.tdiv x2 2)), (IntKind.u8.wrap (Int.tdiv x3 2)), (IntKind.u8.wrap (Int.tdiv x4 4)), x5, (Int.tmod (IntKind.i64.wrap x6) 4), (Int.tmod (IntKind.i64.wrap x7) 4), (IntKind.i64.wrap (Int.tdiv (IntKind.i64.wrap x8) 4)), 0, []⟩ : Message_).Function)) 2) != a1)), (7, (q1 31)), (0, v0), (1, .int .i64 a1), (4, u1), (6, u3)] ⟨rfl, rfl, rfl, rfl, rfl, rfl, trivial⟩ ?_
       refine Run.slim [(0, v0), (1, .int .i64 a1), (4, u1), (6, u3), (7, (q1 31)), (76, .bool ((Int.tmod (IntKind.i64.wrap ((⟨(IntKind.u8.wrap (Int.tdiv x2 2)), (IntKind.u8.wrap (Int.tdiv x3 2)), (IntKind.u8.wrap (Int.tdiv x4 4)), x5, (Int.tmod (IntKind.i64.wrap x6) 4), (Int.tmod (IntKind.i64.wrap x7) 4), (IntKind.i64.wrap (Int.tdiv (IntKind.i64.wrap x8) 4)), 0, []⟩ : Message_).Function)) 2) != a1))] ⟨rfl, rfl, rfl, rfl, rfl, rfl, trivial⟩ ?_
       exact hj2 ((Int.tmod (IntKind.i64.wrap ((⟨(IntKind.u8.wrap (Int.tdiv x2 2)), (IntKind.u8.wrap (Int.tdiv x3 2)), (IntKind.u8.wrap (Int.tdiv x4 4)), x5, (Int.tmod (IntKind.i64.wrap x6) 4), (Int.tmod (IntKind.i64.wrap x7) 4), (IntKind.i64.wrap (Int.tdiv (IntKind.i64.wrap x8) 4)), 0, []⟩ : Message_).Function)) 2) != a1) _ _ ⟨rfl, (h67.facts (.atm (.s (.s (.s (.s (.s (.s (.s (.s (.s (.s .z)))))))))) .nil)).picks (.cons (.s .z) (.cons (.s .z) (.cons .z .nil)))⟩ hF
  ·
   refine RunL.caseb hF (fun e27 hF => ?_) (fun e27 hF => ?_)
   ·
    refine op (OpS.pass rfl rfl rfl ?_)
    refine op (OpS.pass rfl rfl rfl ?_)
    refine op (OpS.pass rfl rfl rfl ?_)
    refine op (OpS.pass rfl rfl rfl ?_)
    refine op (OpS.pick rfl rfl rfl rfl ?_)
    refine RunL.nil ?_
    refine Run.slim [(24, .bool true), (6, u3), (4, u1), (0, v0), (1, .int .i64 a1)] ⟨rfl, rfl, rfl, rfl, rfl, trivial⟩ ?_
    refine Run.slim [(0, v0), (1, .int .i64 a1), (4, u1), (6, u3), (24, .bool true)] ⟨rfl, rfl, rfl, rfl, rfl, trivial⟩ ?_
    exact hj1 (true) _ _ ⟨rfl, (h10.facts (.atm (.s (.s .z)) .nil)).picks (.cons (.s .z) (.cons .z .nil))⟩ hF
   ·
    refine op (OpS.mv rfl rfl rfl ?_)
    obtain ⟨x13, e28, hF⟩ := bindP_use hF
    refine op (OpS.sub h10 Try.underlying22 ty5 rfl rfl rfl rfl rfl (V.at (.s (.s .z))) e28 (fun u22 h68 => ?_))
    obtain ⟨y5, e29, hF⟩ := bindP_use hF
    refine op (OpS.callP h68 Try.func74 rfl rfl rfl rfl (vs := [u22]) rfl (ref01_Sum8_ok e29) (.cons (f := false) (V.at .z) .nil) ?_)
    rintro _ w23 _ _ _ ⟨rfl, rfl, rfl, rfl⟩ h69
    have h70 := h69 rfl rfl
    simp only [List.cons_append, List.nil_append] at h70
    refine op (OpS.bin rfl rfl rfl rfl rfl ?_)
    refine op (OpS.pick rfl rfl rfl rfl ?_)
    refine RunL.nil ?_
    refine Run.slim [(24, .bool (y5 != 0)), (6, u3), (4, u1), (0, v0), (1, .int .i64 a1)] ⟨rfl, rfl, rfl, rfl, rfl, trivial⟩ ?_
    refine Run.slim [(0, v0), (1, .int .i64 a1), (4, u1), (6, u3), (24, .bool (y5 != 0))] ⟨rfl, rfl, rfl, rfl, rfl, trivial⟩ ?_
    exact hj1 (y5 != 0) _ _ ⟨rfl, (h70.facts (.atm (.s (.s (.s .z))) .nil)).picks (.cons (.s .z) (.cons .z .nil))⟩ hF
theorem ref23_ParseResponse_ok {fuel : Nat} {a0 : List Int} {y : Message_ × Int} (hF : ref23_ParseResponse fuel a0 = some y) {w : World} {v0 : Value} :
  Spec Try.prog 56 [v0].toArray w [(false, .val (Rep.slice (Rep.int .u8)) v0 a0)] [] (fun v Γr Ωr Ωo => ∃ u0 : Value, v = .tuple #[u0, .int .i64 y.2] ∧ Γr = [(true, .val Message_.rep u0 y.1)] ∧ Ωr = [] ∧ Ωo = []) := by
 refine Spec.of (L := [(0, v0)]) Try.func56 rfl ⟨rfl, trivial⟩ rfl (fun e h => ?_)
 unfold ref23_ParseResponse at hF
 refine Run.seq ?_
 refine Run.reg ?_
 refine op (OpS.alloc h ti37 Message_.zr rfl rfl (fun u1 w1 h1 => ?_))
 refine op (OpS.as rfl rfl rfl ?_)
 refine RunL.nil ?_
 refine Run.slim [(2, u1), (0, v0)] ⟨rfl, rfl, trivial⟩ ?_
 refine Run.seq ?_
 refine Run.reg ?_
 refine op (OpS.mv rfl rfl rfl ?_)
 obtain ⟨y1, e1, hF⟩ := bindP_use hF
 refine op (OpS.callP h1 Try.func71 rfl rfl rfl rfl (vs := [v0, .int .i64 1]) rfl (ref23_parse_ok e1) (.cons (f := false) (V.at .z) .nil) ?_)
 rintro _ w2 _ _ _ ⟨u2, rfl, rfl, rfl, rfl⟩ h2
 have h3 := h2 rfl rfl
 simp only [List.cons_append, List.nil_append] at h3
 refine op (OpS.ext rfl rfl rfl rfl ?_)
 refine op (OpS.ext rfl rfl rfl rfl ?_)
 refine op (OpS.storeB (f' := true) h3 .z PA.z Put.id ty37 rfl rfl rfl (V.at .z) (.inl rfl) (fun w3 h4 => ?_))
 refine op (OpS.as rfl rfl rfl ?_)
 refine RunL.nil ?_
 refine Run.slim [(3, .int .i64 y1.2), (2, u1)] ⟨rfl, rfl, trivial⟩ ?_
 obtain ⟨u3, hu1, h5⟩ := res_box h4 .z ty37
 refine Run.retP rfl (.cell rfl hu1 (.tmp rfl .nil)) ?_
 cases hF
 exact Post.mk' ⟨u3, rfl, rfl, rfl, rfl⟩ (h5.picks .nil) (.val (V.at .z) .nil)
theorem ref23_Reply_ok {fuel : Nat} {a0 : Message_} {a1 : Int} {a2 : List Int} {y : Message_ × Int} (hF : ref23_Reply fuel a0 a1 a2 = some y) {w : World} {v0 v2 : Value} :
  Spec Try.prog 60 [v0, .int .u8 a1, v2].toArray w [(false, .val Message_.rep v0 a0), (false, .val (Rep.slice (Rep.int .u8)) v2 a2)] [] (fun v Γr Ωr Ωo => ∃ u0 : Value, v = .tuple #[u0, .int .i64 y.2] ∧ Γr = [(true, .val Message_.rep u0 y.1)] ∧ Ωr = [] ∧ Ωo = []) := by
 refine Spec.of (L := [(0, v0), (1, .int .u8 a1), (2, v2)]) Try.func60 rfl ⟨rfl, rfl, rfl, trivial⟩ rfl (fun e h => ?_)
 unfold ref23_Reply at hF
 refine Run.seq ?_
 refine Run.reg ?_
 refine op (OpS.boxF h rfl rfl rfl (V.at .z) (fun u1 w1 h1 => ?_))
 refine op (OpS.alloc h1 ti37 Message_.zr rfl rfl (fun u2 w2 h2 => ?_))
 refine op (OpS.as rfl rfl rfl ?_)
 refine RunL.nil ?_
 refine Run.slim [(6, u2), (3, u1), (1, .int .u8 a1), (2, v2)] ⟨rfl, rfl, rfl, rfl, trivial⟩ ?_
 refine Run.seq ?_
 refine Run.seq ?_
 refine Run.reg ?_
 refine op (OpS.loadB h2 (.s .z) PA.z Get.id ty37 rfl rfl rfl (fun u3 h3 => ?_))
 obtain ⟨y1, e1, hF⟩ := bindP_use hF
 refine op (OpS.callP h3 Try.func53 rfl rfl rfl rfl (vs := [u3]) rfl (ref23_Valid_ok e1) (.cons (f := false) (V.at .z) .nil) ?_)
 rintro _ w3 _ _ _ ⟨rfl, rfl, rfl, rfl⟩ h4
 have h5 := h4 rfl rfl
 simp only [List.cons_append, List.nil_append] at h5
 refine op (OpS.not rfl rfl rfl ?_)
 refine op (OpS.mv rfl rfl rfl ?_)
 refine RunL.join (σ := Bool) (fun s_ L_ w_ => L_ = [(1, .int .u8 a1), (2, v2), (3, u1), (6, u2), (21, .bool s_)] ∧ St e w_ [(false, .val (Rep.slice (Rep.int .u8)) v2 a2)] [(false, .box 37 Message_.rep u1 a0), (true, .box 37 Message_.rep u2 Message_.z)]) hF (fun s1 _ w4 hI hF => ?_) (fun j1 hj1 hF => ?_)
 ·
  obtain ⟨rfl, h6⟩ := hI
  refine Run.ite rfl hF (fun e2 hF => ?_) (fun e2 hF => ?_)
  ·
   refine Run.seq ?_
   refine Run.reg ?_
   refine op (OpS.build (f := true) (x' := Message_.z) h6 pl37 ti37 Message_.zr rfl rfl rfl .nil (fun u4 h7 => ?_))
   refine op (OpS.storeB (f' := true) h7 (.s .z) PA.z Put.id ty37 rfl rfl rfl (V.at .z) (.inl rfl) (fun w5 h8 => ?_))
   refine op (OpS.as rfl rfl rfl ?_)
   refine RunL.nil ?_
   refine Run.slim [(7, .int .i64 1), (6, u2)] ⟨rfl, rfl, trivial⟩ ?_
   obtain ⟨u5, hu1, h9⟩ := res_box h8 .z ty37
   refine Run.retP rfl (.cell rfl hu1 (.tmp rfl .nil)) ?_
   cases hF
   exact Post.mk' ⟨u5, rfl, rfl, rfl, rfl⟩ (h9.picks .nil) (.val (V.at .z) .nil)
  ·
   refine Run.skip ?_
   refine Run.seq ?_
   obtain ⟨y2, e3, hF⟩ := bindP_use hF
   refine Run.drawV (Ωs := [(true, .box 37 Message_.rep u2 Message_.z)]) [⟨some 23, some ((padd u1 1)), fun _ => [], fun ds_ u_ => [], [], [(0, [])], none⟩, ⟨some 24, some (.int .u8 a0.From), fun _ => [], fun ds_ u_ => [], [], [(0, [])], none⟩, ⟨some 25, some ((padd u1 0)), fun _ => [], fun ds_ u_ => [], [], [(0, [])], none⟩, ⟨some 26, some (.int .u8 a0.To), fun _ => [], fun ds_ u_ => [], [], [(0, [])], none⟩, ⟨some 27, some ((padd u1 2)), fun _ => [], fun ds_ u_ => [], [], [(0, [])], none⟩, ⟨some 28, some (.int .u8 a0.Function), fun _ => [], fun ds_ u_ => [], [], [(0, [])], none⟩, ⟨some 29, some (.int .u8 (IntKind.u8.wrap (a0.Function + 1))), fun _ => [], fun ds_ u_ => [], [], [], none⟩, ⟨some 30, some ((padd u1 3)), fun _ => [], fun ds_ u_ => [], [], [(0, [])], none⟩, ⟨some 31, some (.int .u8 a0.Command), fun _ => [], fun ds_ u_ => [], [], [(0, [])], none⟩, ⟨some 32, some ((padd u1 5)), fun _ => [], fun ds_ u_ => [], [], [(0, [])], none⟩, ⟨some 33, some (.int .i64 a0.FromUnit), fun _ => [], fun ds_ u_ => [], [], [(0, [])], none⟩, ⟨some 34, some ((padd u1 4)), fun _ => [], fun ds_ u_ => [], [], [(0, [])], none⟩, ⟨some 35, some (.int .i64 a0.ToUnit), fun _ => [], fun ds_ u_ => [], [], [(0, [])], none⟩, ⟨some 36, some ((padd u1 6)), fun _ => [], fun ds_ u_ => [], [], [(0, [])], none⟩, ⟨some 37, some (.int .i64 a0.Sequence), fun _ => [], fun ds_ u_ => [], [], [(0, [])], none⟩, ⟨some 38, some (.int .u8 a1), fun _ => [], fun ds_ u_ => [], [], [], none⟩, ⟨some 39, some (v2), fun _ => [], fun ds_ u_ => [], [], [], none⟩, ⟨some 40, none, fun u_ => [(true, .val (Rep.slice (Rep.int .u8)) u_ y2)], fun ds_ u_ => [], [], [], none⟩, ⟨some 41, none, fun u_ => [(true, .val Message_.rep u_ (⟨a0.From, a0.To, (IntKind.u8.wrap (a0.Function + 1)), a0.Command, a0.FromUnit, a0.ToUnit, a0.Sequence, a1, y2⟩ : Message_))], fun ds_ u_ => [], [], [], none⟩] [[], [0], [], [2], [], [4], [5], [], [7], [], [9], [], [11], [], [13], [], [], [16], [1, 3, 6, 8, 10, 12, 14, 15, 17]] [[(false, .box 37 Message_.rep u1 a0)]] [0, 1, 2, 3, 4, 5, 6, 7, 8, 9, 10, 11, 12, 13, 14, 15, 16, 17, 18, 19] Try_mixed rfl rfl rfl h6 (.cons ?_ (.cons ?_ (.cons ?_ (.cons ?_ (.cons ?_ (.cons ?_ (.cons ?_ (.cons ?_ (.cons ?_ (.cons ?_ (.cons ?_ (.cons ?_ (.cons ?_ (.cons ?_ (.cons ?_ (.cons ?_ (.cons ?_ (.cons ?_ (.cons ?_ .nil))))))))))))))))))) (fun q1 w hq1 h => ?_)
   ·intro q1 w Γx Ωx h
    have h : St e w ([(false, .val (Rep.slice (Rep.int .u8)) v2 a2)] ++ Γx) ([(false, .box 37 Message_.rep u1 a0), (true, .box 37 Message_.rep u2 Message_.z)] ++ Ωx) := h
    refine OpS.fbox (o3 := 1) h .z PA.z fa37_1 rfl rfl rfl rfl ?_
    exact ⟨undef, rfl, trivial, h⟩
   ·intro q1 w Γx Ωx h
    have h : St e w ([(false, .val (Rep.slice (Rep.int .u8)) v2 a2)] ++ Γx) ([(false, .box 37 Message_.rep u1 a0), (true, .box 37 Message_.rep u2 Message_.z)] ++ Ωx) := h
    refine OpS.loadBi h .z PA.a (Get.fld Message_.f1) ty5 rfl rfl rfl ?_
    exact ⟨undef, rfl, trivial, h⟩
   ·intro q1 w Γx Ωx h
    have h : St e w ([(false, .val (Rep.slice (Rep.int .u8)) v2 a2)] ++ Γx) ([(false, .box 37 Message_.rep u1 a0), (true, .box 37 Message_.rep u2 Message_.z)] ++ Ωx) := h
    refine OpS.fbox (o3 := 0) h .z PA.z fa37_0 rfl rfl rfl rfl ?_
    exact ⟨undef, rfl, trivial, h⟩
   ·intro q1 w Γx Ωx h
    have h : St e w ([(false, .val (Rep.slice (Rep.int .u8)) v2 a2)] ++ Γx) ([(false, .box 37 Message_.rep u1 a0), (true, .box 37 Message_.rep u2 Message_.z)] ++ Ωx) := h
    refine OpS.loadBi h .z PA.a (Get.fld Message_.f0) ty5 rfl rfl rfl ?_
    exact ⟨undef, rfl, trivial, h⟩
   ·intro q1 w Γx Ωx h
    have h : St e w ([(false, .val (Rep.slice (Rep.int .u8)) v2 a2)] ++ Γx) ([(false, .box 37 Message_.rep u1 a0), (true, .box 37 Message_.rep u2 Message_.z)] ++ Ωx) := h
    refine OpS.fbox (o3 := 2) h .z PA.z fa37_2 rfl rfl rfl rfl ?_
    exact ⟨undef, rfl, trivial, h⟩
   ·intro q1 w Γx Ωx h
    have h : St e w ([(false, .val (Rep.slice (Rep.int .u8)) v2 a2)] ++ Γx) ([(false, .box 37 Message_.rep u1 a0), (true, .box 37 Message_.rep u2 Message_.z)] ++ Ωx) := h
    refine OpS.loadBi h .z PA.a (Get.fld Message_.f2) ty5 rfl rfl rfl ?_
    exact ⟨undef, rfl, trivial, h⟩
   ·intro q1 w Γx Ωx h
    refine OpS.bin rfl rfl rfl rfl rfl ?_
    exact ⟨undef, rfl, trivial, h⟩
   ·intro q1 w Γx Ωx h
    have h : St e w ([(false, .val (Rep.slice (Rep.int .u8)) v2 a2)] ++ Γx) ([(false, .box 37 Message_.rep u1 a0), (true, .box 37 Message_.rep u2 Message_.z)] ++ Ωx) := h
    refine OpS.fbox (o3 := 3) h .z PA.z fa37_3 rfl rfl rfl rfl ?_
    exact ⟨undef, rfl, trivial, h⟩
   ·intro q1 w Γx Ωx h
    have h : St e w ([(false, .val (Rep.slice (Rep.int .u8)) v2 a2)] ++ Γx) ([(false, .box 37 Message_.rep u1 a0), (true, .box 37 Message_.rep u2 Message_.z)] ++ Ωx) := h
    refine OpS.loadBi h .z PA.a (Get.fld Message_.f3) ty5 rfl rfl rfl ?_
    exact ⟨undef, rfl, trivial, h⟩
   ·intro q1 w Γx Ωx h
    have h : St e w ([(false, .val (Rep.slice (Rep.int .u8)) v2 a2)] ++ Γx) ([(false, .box 37 Message_.rep u1 a0), (true, .box 37 Message_.rep u2 Message_.z)] ++ Ωx) := h
    refine OpS.fbox (o3 := 5) h .z PA.z fa37_5 rfl rfl rfl rfl ?_
    exact ⟨undef, rfl, trivial, h⟩
   ·intro q1 w Γx Ωx h
    have h : St e w ([(false, .val (Rep.slice (Rep.int .u8)) v2 a2)] ++ Γx) ([(false, .box 37 Message_.rep u1 a0), (true, .box 37 Message_.rep u2 Message_.z)] ++ Ωx) := h
    refine OpS.loadBi h .z PA.a (Get.fld Message_.f5) ty3 rfl rfl rfl ?_
    exact ⟨undef, rfl, trivial, h⟩
   ·intro q1 w Γx Ωx h
    have h : St e w ([(false, .val (Rep.slice (Rep.int .u8)) v2 a2)] ++ Γx) ([(false, .box 37 Message_.rep u1 a0), (true, .box 37 Message_.rep u2 Message_.z)] ++ Ωx) := h
    refine OpS.fbox (o3 := 4) h .z PA.z fa37_4 rfl rfl rfl rfl ?_
    exact ⟨undef, rfl, trivial, h⟩
   ·intro q1 w Γx Ωx h
    have h : St e w ([(false, .val (Rep.slice (Rep.int .u8)) v2 a2)] ++ Γx) ([(false, .box 37 Message_.rep u1 a0), (true, .box 37 Message_.rep u2 Message_.z)] ++ Ωx) := h
    refine OpS.loadBi h .z PA.a (Get.fld Message_.f4) ty3 rfl rfl rfl ?_
    exact ⟨undef, rfl, trivial, h⟩
   ·intro q1 w Γx Ωx h
    have h : St e w ([(false, .val (Rep.slice (Rep.int .u8)) v2 a2)] ++ Γx) ([(false, .box 37 Message_.rep u1 a0), (true, .box 37 Message_.rep u2 Message_.z)] ++ Ωx) := h
    refine OpS.fbox (o3 := 6) h .z PA.z fa37_6 rfl rfl rfl rfl ?_
    exact ⟨undef, rfl, trivial, h⟩
   ·intro q1 w Γx Ωx h
    have h : St e w ([(false, .val (Rep.slice (Rep.int .u8)) v2 a2)] ++ Γx) ([(false, .box 37 Message_.rep u1 a0), (true, .box 37 Message_.rep u2 Message_.z)] ++ Ωx) := h
    refine OpS.loadBi h .z PA.a (Get.fld Message_.f6) ty3 rfl rfl rfl ?_
    exact ⟨undef, rfl, trivial, h⟩
   ·intro q1 w Γx Ωx h
    refine OpS.mv rfl rfl rfl ?_
    exact ⟨undef, rfl, trivial, h⟩
   ·intro q1 w Γx Ωx h
    refine OpS.mv rfl rfl rfl ?_
    exact ⟨undef, rfl, trivial, h⟩
   ·intro q1 w Γx Ωx h
    refine OpS.callP h Try.func73 rfl rfl rfl rfl (vs := [v2]) rfl (ref01_Copy_ok e3) (.cons (f := false) (V.at .z) .nil) ?_
    rintro u w7 _ _ _ ⟨_, rfl, rfl, rfl, rfl⟩ h14
    have h15 := h14 rfl rfl
    simp only [List.cons_append, List.nil_append] at h15
    have h16 := h15.freeze
    exact ⟨u, rfl, trivial, h16⟩
   ·intro q1 w Γx Ωx h
    refine OpS.build (f := true) (x' := (⟨a0.From, a0.To, (IntKind.u8.wrap (a0.Function + 1)), a0.Command, a0.FromUnit, a0.ToUnit, a0.Sequence, a1, y2⟩ : Message_)) h pl37 ti37 Message_.zr rfl rfl rfl (.cons rfl Message_.f0 rfl V.int (.cons rfl Message_.f1 rfl V.int (.cons rfl Message_.f2 rfl V.int (.cons rfl Message_.f3 rfl V.int (.cons rfl Message_.f4 rfl V.int (.cons rfl Message_.f5 rfl V.int (.cons rfl Message_.f6 rfl V.int (.cons rfl Message_.f7 rfl V.int (.cons rfl Message_.f8 rfl (V.at .z) .nil))))))))) (fun u h17 => ?_)
    exact ⟨u, rfl, trivial, h17⟩
   have h18 : St e w [(true, .val (Rep.slice (Rep.int .u8)) (q1 17) y2), (true, .val Message_.rep (q1 18) (⟨a0.From, a0.To, (IntKind.u8.wrap (a0.Function + 1)), a0.Command, a0.FromUnit, a0.ToUnit, a0.Sequence, a1, y2⟩ : Message_)), (false, .val (Rep.slice (Rep.int .u8)) v2 a2)] [(false, .box 37 Message_.rep u1 a0), (true, .box 37 Message_.rep u2 Message_.z)] := h
   refine op (OpS.storeB (f' := true) h18 (.s .z) PA.z Put.id ty37 rfl rfl rfl (V.at (.s .z)) (.inl rfl) (fun w8 h19 => ?_))
   refine op (OpS.as rfl rfl rfl ?_)
   refine RunL.nil ?_
   refine Run.slim [(7, .int .i64 0), (6, u2)] ⟨rfl, rfl, trivial⟩ ?_
   obtain ⟨u6, hu2, h20⟩ := res_box h19 .z ty37
   refine Run.retP rfl (.cell rfl hu2 (.tmp rfl .nil)) ?_
   cases hF
   exact Post.mk' ⟨u6, rfl, rfl, rfl, rfl⟩ (h20.picks .nil) (.val (V.at .z) .nil)
 ·
  refine RunL.caseb hF (fun e4 hF => ?_) (fun e4 hF => ?_)
  ·
   refine op (OpS.pass rfl rfl rfl ?_)
   refine op (OpS.pass rfl rfl rfl ?_)
   refine op (OpS.pass rfl rfl rfl ?_)
   refine op (OpS.pass rfl rfl rfl ?_)
   refine op (OpS.pick rfl rfl rfl rfl ?_)
   refine op (OpS.mv rfl rfl rfl ?_)
   refine op (OpS.pass rfl rfl rfl ?_)
   refine op (OpS.pass rfl rfl rfl ?_)
   refine op (OpS.pass rfl rfl rfl ?_)
   refine op (OpS.pick rfl rfl rfl rfl ?_)
   refine RunL.nil ?_
   refine Run.slim [(21, .bool true), (6, u2), (3, u1), (1, .int .u8 a1), (2, v2)] ⟨rfl, rfl, rfl, rfl, rfl, trivial⟩ ?_
   refine Run.slim [(1, .int .u8 a1), (2, v2), (3, u1), (6, u2), (21, .bool true)] ⟨rfl, rfl, rfl, rfl, rfl, trivial⟩ ?_
   exact hj1 (true) _ _ ⟨rfl, (h5.facts (.atm (.s (.s .z)) .nil)).picks (.cons (.s .z) (.cons .z .nil))⟩ hF
  ·
   refine op (OpS.fbox (o3 := 2) h5 (.s .z) PA.z fa37_2 rfl rfl rfl rfl ?_)
   refine op (OpS.loadBi h5 (.s .z) PA.a (Get.fld Message_.f2) ty5 rfl rfl rfl ?_)
   refine op (OpS.rem rfl rfl rfl rfl (by decide) ?_)
   refine op (OpS.bin rfl rfl rfl rfl rfl ?_)
   refine op (OpS.pick rfl rfl rfl rfl ?_)
   refine op (OpS.mv rfl rfl rfl ?_)
   refine RunL.caseb hF (fun e5 hF => ?_) (fun e5 hF => ?_)
   ·
    refine op (OpS.pass rfl rfl rfl ?_)
    refine op (OpS.pass rfl rfl rfl ?_)
    refine op (OpS.pass rfl rfl rfl ?_)
    refine op (OpS.pick rfl rfl rfl rfl ?_)
    refine RunL.nil ?_
    refine Run.slim [(21, .bool true), (6, u2), (3, u1), (1, .int .u8 a1), (2, v2)] ⟨rfl, rfl, rfl, rfl, rfl, trivial⟩ ?_
    refine Run.slim [(1, .int .u8 a1), (2, v2), (3, u1), (6, u2), (21, .bool true)] ⟨rfl, rfl, rfl, rfl, rfl, trivial⟩ ?_
    exact hj1 (true) _ _ ⟨rfl, (h5.facts (.atm (.s (.s .z)) .nil)).picks (.cons (.s .z) (.cons .z .nil))⟩ hF
   ·
    refine op (OpS.mv rfl rfl rfl ?_)
    refine op (OpS.len h5 Try.underlying22 rfl rfl rfl (V.at (.s (.s .z))) ?_)
    refine op (OpS.bin rfl rfl rfl rfl rfl ?_)
    refine op (OpS.pick rfl rfl rfl rfl ?_)
    refine RunL.nil ?_
    refine Run.slim [(21, .bool (decide ((a2.length : Int) > 240))), (6, u2), (3, u1), (1, .int .u8 a1), (2, v2)] ⟨rfl, rfl, rfl, rfl, rfl, trivial⟩ ?_
    refine Run.slim [(1, .int .u8 a1), (2, v2), (3, u1), (6, u2), (21, .bool (decide ((a2.length : Int) > 240)))] ⟨rfl, rfl, rfl, rfl, rfl, trivial⟩ ?_
    exact hj1 (decide ((a2.length : Int) > 240)) _ _ ⟨rfl, (h5.facts (.atm (.s (.s .z)) .nil)).picks (.cons (.s .z) (.cons .z .nil))⟩ hF
theorem ref01_Same_ok {fuel : Nat} {a0 : List Int} {a1 : List Int} {y : Bool} (hF : ref01_Same fuel a0 a1 = some y) {w : World} {v0 v1 : Value} :
  Spec Try.prog 75 [v0, v1].toArray w [(false, .val (Rep.slice (Rep.int .u8)) v0 a0), (false, .val (Rep.slice (Rep.int .u8)) v1 a1)] [] (fun v Γr Ωr Ωo => v = .bool y ∧ Γr = [] ∧ Ωr = [] ∧ Ωo = []) := by
 refine Spec.of (L := [(0, v0), (1, v1)]) Try.func75 rfl ⟨rfl, rfl, trivial⟩ rfl (fun e h => ?_)
 unfold ref01_Same at hF
 refine Run.seq ?_
 refine Run.reg ?_
 refine op (OpS.as rfl rfl rfl ?_)
 refine RunL.nil ?_
 refine Run.slim [(0, v0), (1, v1)] ⟨rfl, rfl, trivial⟩ ?_
 refine Run.seq ?_
 refine Run.seq ?_
 refine Run.reg ?_
 refine op (OpS.mv rfl rfl rfl ?_)
 refine op (OpS.len h Try.underlying22 rfl rfl rfl (V.at .z) ?_)
 refine op (OpS.mv rfl rfl rfl ?_)
 refine op (OpS.len h Try.underlying22 rfl rfl rfl (V.at (.s .z)) ?_)
 refine op (OpS.bin rfl rfl rfl rfl rfl ?_)
 refine RunL.nil ?_
 refine Run.slim [(10, .bool ((a0.length : Int) != (a1.length : Int))), (0, v0), (1, v1)] ⟨rfl, rfl, rfl, trivial⟩ ?_
 refine Run.ite rfl hF (fun e1 hF => ?_) (fun e1 hF => ?_)
 ·
  refine Run.seq ?_
  refine Run.reg ?_
  refine op (OpS.as rfl rfl rfl ?_)
  refine RunL.nil ?_
  refine Run.slim [(4, .bool false)] ⟨rfl, trivial⟩ ?_
  refine Run.retP rfl (.tmp rfl .nil) ?_
  cases hF
  exact Post.mk' ⟨rfl, rfl, rfl, rfl⟩ (h.picks .nil) .nil
 ·
  refine Run.skip ?_
  refine Run.seq ?_
  refine Run.seq ?_
  refine Run.reg ?_
  refine op (OpS.as rfl rfl rfl ?_)
  refine RunL.nil ?_
  refine Run.slim [(5, .int .i64 0), (0, v0), (1, v1)] ⟨rfl, rfl, rfl, trivial⟩ ?_
  refine Run.block ?_
  refine Run.slim [(0, v0), (1, v1), (5, .int .i64 0)] ⟨rfl, rfl, rfl, trivial⟩ ?_
  refine Run.loopP (σ := Int) (fun s_ L_ w_ => L_ = [(0, v0), (1, v1), (5, .int .i64 s_)] ∧ St e w_ [(false, .val (Rep.slice (Rep.int .u8)) v0 a0), (false, .val (Rep.slice (Rep.int .u8)) v1 a1)] []) hF ⟨rfl, (h.facts (.atm .z (.atm (.s .z) .nil))).picks .nil⟩ (fun k1 hk1 s1 _ w1 hI hF => ?_)
  obtain ⟨rfl, h1⟩ := hI
  refine Run.seq ?_
  refine Run.seq ?_
  refine Run.reg ?_
  refine op (OpS.mv rfl rfl rfl ?_)
  refine op (OpS.mv rfl rfl rfl ?_)
  refine op (OpS.len h1 Try.underlying22 rfl rfl rfl (V.at .z) ?_)
  refine op (OpS.bin rfl rfl rfl rfl rfl ?_)
  refine RunL.nil ?_
  refine Run.slim [(14, .bool (decide (s1 < (a0.length : Int)))), (0, v0), (1, v1), (5, .int .i64 s1)] ⟨rfl, rfl, rfl, rfl, trivial⟩ ?_
  refine Run.ite rfl hF (fun e2 hF => ?_) (fun e2 hF => ?_)
  ·
   refine Run.skip ?_
   refine Run.seq ?_
   refine Run.block ?_
   refine Run.seq ?_
   obtain ⟨x1, e3, hF⟩ := bindP_use hF
   obtain ⟨x2, e4, hF⟩ := bindP_use hF
   refine Run.drawV (Ωs := []) [⟨some 17, some (v0), fun _ => [], fun ds_ u_ => [], [], [], none⟩, ⟨some 18, some (.int .i64 s1), fun _ => [], fun ds_ u_ => [], [], [], none⟩, ⟨some 19, none, fun u_ => [(false, .ptr (Rep.int .u8) u_ x1)], fun ds_ u_ => [], [], [], none⟩, ⟨some 20, some (.int .u8 x1), fun _ => [], fun ds_ u_ => [], [], [], none⟩, ⟨some 21, some (v1), fun _ => [], fun ds_ u_ => [], [], [], none⟩, ⟨some 22, some (.int .i64 s1), fun _ => [], fun ds_ u_ => [], [], [], none⟩, ⟨some 23, none, fun u_ => [(false, .ptr (Rep.int .u8) u_ x2)], fun ds_ u_ => [], [], [], none⟩, ⟨some 24, some (.int .u8 x2), fun _ => [], fun ds_ u_ => [], [], [], none⟩, ⟨some 25, some (.bool (x1 != x2)), fun _ => [], fun ds_ u_ => [], [], [], none⟩] [[], [], [0, 1], [2], [], [], [4, 5], [6], [3, 7]] [] [0, 1, 2, 3, 4, 5, 6, 7, 8] Try_mixed rfl rfl rfl h1 (.cons ?_ (.cons ?_ (.cons ?_ (.cons ?_ (.cons ?_ (.cons ?_ (.cons ?_ (.cons ?_ (.cons ?_ .nil))))))))) (fun q1 w hq1 h => ?_)
   ·intro q1 w Γx Ωx h
    refine OpS.mv rfl rfl rfl ?_
    exact ⟨undef, rfl, trivial, h⟩
   ·intro q1 w Γx Ωx h
    refine OpS.mv rfl rfl rfl ?_
    exact ⟨undef, rfl, trivial, h⟩
   ·intro q1 w Γx Ωx h
    refine OpS.iptr h Try.underlying22 ty5 rfl rfl rfl rfl (V.at .z) e3 (fun u h4 => ?_)
    exact ⟨u, rfl, trivial, h4⟩
   ·intro q1 w Γx Ωx h
    refine OpS.loadi h ty5 rfl rfl rfl .z ?_
    exact ⟨undef, rfl, trivial, h⟩
   ·intro q1 w Γx Ωx h
    refine OpS.mv rfl rfl rfl ?_
    exact ⟨undef, rfl, trivial, h⟩
   ·intro q1 w Γx Ωx h
    refine OpS.mv rfl rfl rfl ?_
    exact ⟨undef, rfl, trivial, h⟩
   ·intro q1 w Γx Ωx h
    refine OpS.iptr h Try.underlying22 ty5 rfl rfl rfl rfl (V.at (.s .z)) e4 (fun u h5 => ?_)
    exact ⟨u, rfl, trivial, h5⟩
   ·intro q1 w Γx Ωx h
    refine OpS.loadi h ty5 rfl rfl rfl .z ?_
    exact ⟨undef, rfl, trivial, h⟩
   ·intro q1 w Γx Ωx h
    refine OpS.bin rfl rfl rfl rfl rfl ?_
    exact ⟨undef, rfl, trivial, h⟩
   have h6 : St e w [(false, .ptr (Rep.int .u8) (q1 2) x1), (false, .ptr (Rep.int .u8) (q1 6) x2), (false, .val (Rep.slice (Rep.int .u8)) v0 a0), (false, .val (Rep.slice (Rep.int .u8)) v1 a1)] [] := h
   refine RunL.nil ?_
   refine Run.slim [(25, .bool (x1 != x2)), (0, v0), (1, v1), (5, .int .i64 s1)] ⟨rfl, rfl, rfl, rfl, trivial⟩ ?_
   refine Run.ite rfl hF (fun e5 hF => ?_) (fun e5 hF => ?_)
   ·
    refine Run.seq ?_
    refine Run.reg ?_
    refine op (OpS.as rfl rfl rfl ?_)
    refine RunL.nil ?_
    refine Run.slim [(4, .bool false)] ⟨rfl, trivial⟩ ?_
    refine Run.retP rfl (.tmp rfl .nil) ?_
    cases hF
    exact Post.mk' ⟨rfl, rfl, rfl, rfl⟩ (h6.picks .nil) .nil
   ·
    refine Run.skip ?_
    refine Run.endBlock ?_
    refine Run.reg ?_
    refine op (OpS.mv rfl rfl rfl ?_)
    refine op (OpS.bin rfl rfl rfl rfl rfl ?_)
    refine op (OpS.as rfl rfl rfl ?_)
    obtain ⟨x3, e6, hF⟩ := letP_use hF
    refine RunL.name e6 ?_
    refine RunL.nil ?_
    refine Run.slim [(5, .int .i64 x3), (0, v0), (1, v1)] ⟨rfl, rfl, rfl, trivial⟩ ?_
    refine Run.slim [(0, v0), (1, v1), (5, .int .i64 x3)] ⟨rfl, rfl, rfl, trivial⟩ ?_
    exact hk1 (x3) _ _ ⟨rfl, (h6.facts (.atm (.s (.s .z)) (.atm (.s (.s (.s .z))) .nil))).picks .nil⟩ hF
  ·
   refine Run.exit rfl ?_
   refine Run.seq ?_
   refine Run.reg ?_
   refine op (OpS.as rfl rfl rfl ?_)
   refine RunL.nil ?_
   refine Run.slim [(4, .bool true)] ⟨rfl, trivial⟩ ?_
   refine Run.retP rfl (.tmp rfl .nil) ?_
   cases hF
   exact Post.mk' ⟨rfl, rfl, rfl, rfl⟩ (h1.picks .nil) .nil
set_option maxHeartbeats 8000000 in
theorem ref23_Same_ok {fuel : Nat} {a0 : Message_} {a1 : Message_} {y : Bool} (hF : ref23_Same fuel a0 a1 = some y) {w : World} {v0 v1 : Value} :
  Spec Try.prog 72 [v0, v1].toArray w [(false, .val Message_.rep v0 a0), (false, .val Message_.rep v1 a1)] [] (fun v Γr Ωr Ωo => v = .bool y ∧ Γr = [] ∧ Ωr = [] ∧ Ωo = []) := by
 refine Spec.of (L := [(0, v0), (1, v1)]) Try.func72 rfl ⟨rfl, rfl, trivial⟩ rfl (fun e h => ?_)
 unfold ref23_Same at hF
 refine Run.seq ?_
 refine Run.reg ?_
 refine op (OpS.boxF h rfl rfl rfl (V.at .z) (fun u1 w1 h1 => ?_))
 refine op (OpS.boxF h1 rfl rfl rfl (V.at (.s .z)) (fun u2 w2 h2 => ?_))
 refine op (OpS.as rfl rfl rfl ?_)
 refine RunL.nil ?_
 refine Run.slim [(3, u2), (2, u1)] ⟨rfl, rfl, trivial⟩ ?_
 refine Run.seq ?_
 refine Run.reg ?_
 refine op (OpS.fbox (o3 := 0) h2 (.s .z) PA.z fa37_0 rfl rfl rfl rfl ?_)
 refine op (OpS.loadBi h2 (.s .z) PA.a (Get.fld Message_.f0) ty5 rfl rfl rfl ?_)
 refine op (OpS.fbox (o3 := 0) h2 .z PA.z fa37_0 rfl rfl rfl rfl ?_)
 refine op (OpS.loadBi h2 .z PA.a (Get.fld Message_.f0) ty5 rfl rfl rfl ?_)
 refine op (OpS.bin rfl rfl rfl rfl rfl ?_)
 refine op (OpS.mv rfl rfl rfl ?_)
 refine RunL.caseb hF (fun e1 hF => ?_) (fun e1 hF => ?_)
 ·
  refine op (OpS.fbox (o3 := 1) h2 (.s .z) PA.z fa37_1 rfl rfl rfl rfl ?_)
  refine op (OpS.loadBi h2 (.s .z) PA.a (Get.fld Message_.f1) ty5 rfl rfl rfl ?_)
  refine op (OpS.fbox (o3 := 1) h2 .z PA.z fa37_1 rfl rfl rfl rfl ?_)
  refine op (OpS.loadBi h2 .z PA.a (Get.fld Message_.f1) ty5 rfl rfl rfl ?_)
  refine op (OpS.bin rfl rfl rfl rfl rfl ?_)
  refine op (OpS.pick rfl rfl rfl rfl ?_)
  refine op (OpS.mv rfl rfl rfl ?_)
  refine RunL.caseb hF (fun e2 hF => ?_) (fun e2 hF => ?_)
  ·
   refine op (OpS.fbox (o3 := 2) h2 (.s .z) PA.z fa37_2 rfl rfl rfl rfl ?_)
   refine op (OpS.loadBi h2 (.s .z) PA.a (Get.fld Message_.f2) ty5 rfl rfl rfl ?_)
   refine op (OpS.fbox (o3 := 2) h2 .z PA.z fa37_2 rfl rfl rfl rfl ?_)
   refine op (OpS.loadBi h2 .z PA.a (Get.fld Message_.f2) ty5 rfl rfl rfl ?_)
   refine op (OpS.bin rfl rfl rfl rfl rfl ?_)
   refine op (OpS.pick rfl rfl rfl rfl ?_)
   refine op (OpS.mv rfl rfl rfl ?_)
   refine RunL.caseb hF (fun e3 hF => ?_) (fun e3 hF => ?_)
   ·
    refine op (OpS.fbox (o3 := 3) h2 (.s .z) PA.z fa37_3 rfl rfl rfl rfl ?_)
    refine op (OpS.loadBi h2 (.s .z) PA.a (Get.fld Message_.f3) ty5 rfl rfl rfl ?_)
    refine op (OpS.fbox (o3 := 3) h2 .z PA.z fa37_3 rfl rfl rfl rfl ?_)
    refine op (OpS.loadBi h2 .z PA.a (Get.fld Message_.f3) ty5 rfl rfl rfl ?_)
    refine op (OpS.bin rfl rfl rfl rfl rfl ?_)
    refine op (OpS.pick rfl rfl rfl rfl ?_)
    refine op (OpS.mv rfl rfl rfl ?_)
    refine RunL.caseb hF (fun e4 hF => ?_) (fun e4 hF => ?_)
    ·
     refine op (OpS.fbox (o3 := 4) h2 (.s .z) PA.z fa37_4 rfl rfl rfl rfl ?_)
     refine op (OpS.loadBi h2 (.s .z) PA.a (Get.fld Message_.f4) ty3 rfl rfl rfl ?_)
     refine op (OpS.fbox (o3 := 4) h2 .z PA.z fa37_4 rfl rfl rfl rfl ?_)
     refine op (OpS.loadBi h2 .z PA.a (Get.fld Message_.f4) ty3 rfl rfl rfl ?_)
     refine op (OpS.bin rfl rfl rfl rfl rfl ?_)
     refine op (OpS.pick rfl rfl rfl rfl ?_)
     refine op (OpS.mv rfl rfl rfl ?_)
     refine RunL.caseb hF (fun e5 hF => ?_) (fun e5 hF => ?_)
     ·
      refine op (OpS.fbox (o3 := 5) h2 (.s .z) PA.z fa37_5 rfl rfl rfl rfl ?_)
      refine op (OpS.loadBi h2 (.s .z) PA.a (Get.fld Message_.f5) ty3 rfl rfl rfl ?_)
      refine op (OpS.fbox (o3 := 5) h2 .z PA.z fa37_5 rfl rfl rfl rfl ?_)
      refine op (OpS.loadBi h2 .z PA.a (Get.fld Message_.f5) ty3 rfl rfl rfl ?_)
      refine op (OpS.bin rfl rfl rfl rfl rfl ?_)
      refine op (OpS.pick rfl rfl rfl rfl ?_)
      refine op (OpS.mv rfl rfl rfl ?_)
      refine RunL.caseb hF (fun e6 hF => ?_) (fun e6 hF => ?_)
      ·
       refine op (OpS.fbox (o3 := 6) h2 (.s .z) PA.z fa37_6 rfl rfl rfl rfl ?_)
       refine op (OpS.loadBi h2 (.s .z) PA.a (Get.fld Message_.f6) ty3 rfl rfl rfl ?_)
       refine op (OpS.fbox (o3 := 6) h2 .z PA.z fa37_6 rfl rfl rfl rfl ?_)
       refine op (OpS.loadBi h2 .z PA.a (Get.fld Message_.f6) ty3 rfl rfl rfl ?_)
       refine op (OpS.bin rfl rfl rfl rfl rfl ?_)
       refine op (OpS.pick rfl rfl rfl rfl ?_)
       refine op (OpS.mv rfl rfl rfl ?_)
       refine RunL.caseb hF (fun e7 hF => ?_) (fun e7 hF => ?_)
       ·
        refine op (OpS.fbox (o3 := 7) h2 (.s .z) PA.z fa37_7 rfl rfl rfl rfl ?_)
        refine op (OpS.loadBi h2 (.s .z) PA.a (Get.fld Message_.f7) ty5 rfl rfl rfl ?_)
        refine op (OpS.fbox (o3 := 7) h2 .z PA.z fa37_7 rfl rfl rfl rfl ?_)
        refine op (OpS.loadBi h2 .z PA.a (Get.fld Message_.f7) ty5 rfl rfl rfl ?_)
        refine op (OpS.bin rfl rfl rfl rfl rfl ?_)
        refine op (OpS.pick rfl rfl rfl rfl ?_)
        refine op (OpS.mv rfl rfl rfl ?_)
        refine RunL.caseb hF (fun e8 hF => ?_) (fun e8 hF => ?_)
        ·
         refine op (OpS.fbox (o3 := 8) h2 (.s .z) PA.z fa37_8 rfl rfl rfl rfl ?_)
         refine op (OpS.loadB h2 (.s .z) PA.a (Get.fld Message_.f8) ty22 rfl rfl rfl (fun u3 h3 => ?_))
         refine op (OpS.fbox (o3 := 8) h3 .z PA.z fa37_8 rfl rfl rfl rfl ?_)
         refine op (OpS.loadB h3 .z PA.a (Get.fld Message_.f8) ty22 rfl rfl rfl (fun u4 h4 => ?_))
         obtain ⟨y1, e9, hF⟩ := bindP_use hF
         refine op (OpS.callP h4 Try.func75 rfl rfl rfl rfl (vs := [u3, u4]) rfl (ref01_Same_ok e9) (.cons (f := false) (V.at (.s .z)) (.cons (f := false) (V.at .z) .nil)) ?_)
         rintro _ w3 _ _ _ ⟨rfl, rfl, rfl, rfl⟩ h5
         have h6 := h5 rfl rfl
         simp only [List.cons_append, List.nil_append] at h6
         refine op (OpS.pick rfl rfl rfl rfl ?_)
         refine op (OpS.as rfl rfl rfl ?_)
         refine RunL.nil ?_
         refine Run.slim [(4, .bool y1)] ⟨rfl, trivial⟩ ?_
         refine Run.retP rfl (.tmp rfl .nil) ?_
         cases hF
         exact Post.mk' ⟨rfl, rfl, rfl, rfl⟩ (h6.picks .nil) .nil
        ·
         refine op (OpS.pass rfl rfl rfl ?_)
         refine op (OpS.pass rfl rfl rfl ?_)
         refine op (OpS.pass rfl rfl rfl ?_)
         refine op (OpS.pass rfl rfl rfl ?_)
         refine op (OpS.pass rfl rfl rfl ?_)
         refine op (OpS.pick rfl rfl rfl rfl ?_)
         refine op (OpS.as rfl rfl rfl ?_)
         refine RunL.nil ?_
         refine Run.slim [(4, .bool false)] ⟨rfl, trivial⟩ ?_
         refine Run.retP rfl (.tmp rfl .nil) ?_
         cases hF
         exact Post.mk' ⟨rfl, rfl, rfl, rfl⟩ (h2.picks .nil) .nil
       ·
        refine op (OpS.pass rfl rfl rfl ?_)
        refine op (OpS.pass rfl rfl rfl ?_)
        refine op (OpS.pass rfl rfl rfl ?_)
        refine op (OpS.pass rfl rfl rfl ?_)
        refine op (OpS.pass rfl rfl rfl ?_)
        refine op (OpS.pick rfl rfl rfl rfl ?_)
        refine op (OpS.mv rfl rfl rfl ?_)
        refine op (OpS.pass rfl rfl rfl ?_)
        refine op (OpS.pass rfl rfl rfl ?_)
        refine op (OpS.pass rfl rfl rfl ?_)
        refine op (OpS.pass rfl rfl rfl ?_)
        refine op (OpS.pass rfl rfl rfl ?_)
        refine op (OpS.pick rfl rfl rfl rfl ?_)
        refine op (OpS.as rfl rfl rfl ?_)
        refine RunL.nil ?_
        refine Run.slim [(4, .bool false)] ⟨rfl, trivial⟩ ?_
        refine Run.retP rfl (.tmp rfl .nil) ?_
        cases hF
        exact Post.mk' ⟨rfl, rfl, rfl, rfl⟩ (h2.picks .nil) .nil
      ·
       refine op (OpS.pass rfl rfl rfl ?_)
       refine op (OpS.pass rfl rfl rfl ?_)
       refine op (OpS.pass rfl rfl rfl ?_)
       refine op (OpS.pass rfl rfl rfl ?_)
       refine op (OpS.pass rfl rfl rfl ?_)
       refine op (OpS.pick rfl rfl rfl rfl ?_)
       refine op (OpS.mv rfl rfl rfl ?_)
       refine op (OpS.pass rfl rfl rfl ?_)
       refine op (OpS.pass rfl rfl rfl ?_)
       refine op (OpS.pass rfl rfl rfl ?_)
       refine op (OpS.pass rfl rfl rfl ?_)
       refine op (OpS.pass rfl rfl rfl ?_)
       refine op (OpS.pick rfl rfl rfl rfl ?_)
       refine op (OpS.mv rfl rfl rfl ?_)
       refine op (OpS.pass rfl rfl rfl ?_)
       refine op (OpS.pass rfl rfl rfl ?_)
       refine op (OpS.pass rfl rfl rfl ?_)
       refine op (OpS.pass rfl rfl rfl ?_)
       refine op (OpS.pass rfl rfl rfl ?_)
       refine op (OpS.pick rfl rfl rfl rfl ?_)
       refine op (OpS.as rfl rfl rfl ?_)
       refine RunL.nil ?_
       refine Run.slim [(4, .bool false)] ⟨rfl, trivial⟩ ?_
       refine Run.retP rfl (.tmp rfl .nil) ?_
       cases hF
       exact Post.mk' ⟨rfl, rfl, rfl, rfl⟩ (h2.picks .nil) .nil
     ·
      refine op (OpS.pass rfl rfl rfl ?_)
      refine op (OpS.pass rfl rfl rfl ?_)
      refine op (OpS.pass rfl rfl rfl ?_)
      refine op (OpS.pass rfl rfl rfl ?_)
      refine op (OpS.pass rfl rfl rfl ?_)
      refine op (OpS.pick rfl rfl rfl rfl ?_)
      refine op (OpS.mv rfl rfl rfl ?_)
      refine op (OpS.pass rfl rfl rfl ?_)
      refine op (OpS.pass rfl rfl rfl ?_)
      refine op (OpS.pass rfl rfl rfl ?_)
      refine op (OpS.pass rfl rfl rfl ?_)
      refine op (OpS.pass rfl rfl rfl ?_)
      refine op (OpS.pick rfl rfl rfl rfl ?_)
      refine op (OpS.mv rfl rfl rfl ?_)
      refine op (OpS.pass rfl rfl rfl ?_)
      refine op (OpS.pass rfl rfl rfl ?_)
      refine op (OpS.pass rfl rfl rfl ?_)
      refine op (OpS.pass rfl rfl rfl ?_)
      refine op (OpS.pass rfl rfl rfl ?_)
      refine op (OpS.pick rfl rfl rfl rfl ?_)
      refine op (OpS.mv rfl rfl rfl ?_)
      refine op (OpS.pass rfl rfl rfl ?_)
      refine op (OpS.pass rfl rfl rfl ?_)
      refine op (OpS.pass rfl rfl rfl ?_)
      refine op (OpS.pass rfl rfl rfl ?_)
      refine op (OpS.pass rfl rfl rfl ?_)
      refine op (OpS.pick rfl rfl rfl rfl ?_)
      refine op (OpS.as rfl rfl rfl ?_)
      refine RunL.nil ?_
      refine Run.slim [(4, .bool false)] ⟨rfl, trivial⟩ ?_
      refine Run.retP rfl (.tmp rfl .nil) ?_
      cases hF
      exact Post.mk' ⟨rfl, rfl, rfl, rfl⟩ (h2.picks .nil) .nil
    ·
     refine op (OpS.pass rfl rfl rfl ?_)
     refine op (OpS.pass rfl rfl rfl ?_)
     refine op (OpS.pass rfl rfl rfl ?_)
     refine op (OpS.pass rfl rfl rfl ?_)
     refine op (OpS.pass rfl rfl rfl ?_)
     refine op (OpS.pick rfl rfl rfl rfl ?_)
     refine op (OpS.mv rfl rfl rfl ?_)
     refine op (OpS.pass rfl rfl rfl ?_)
     refine op (OpS.pass rfl rfl rfl ?_)
     refine op (OpS.pass rfl rfl rfl ?_)
     refine op (OpS.pass rfl rfl rfl ?_)
     refine op (OpS.pass rfl rfl rfl ?_)
     refine op (OpS.pick rfl rfl rfl rfl ?_)
     refine op (OpS.mv rfl rfl rfl ?_)
     refine op (OpS.pass rfl rfl rfl ?_)
     refine op (OpS.pass rfl rfl rfl ?_)
     refine op (OpS.pass rfl rfl rfl ?_)
     refine op (OpS.pass rfl rfl rfl ?_)
     refine op (OpS.pass rfl rfl rfl ?_)
     refine op (OpS.pick rfl rfl rfl rfl ?_)
     refine op (OpS.mv rfl rfl rfl ?_)
     refine op (OpS.pass rfl rfl rfl ?_)
     refine op (OpS.pass rfl rfl rfl ?_)
     refine op (OpS.pass rfl rfl rfl ?_)
     refine op (OpS.pass rfl rfl rfl ?_)
     refine op (OpS.pass rfl rfl rfl ?_)
     refine op (OpS.pick rfl rfl rfl rfl ?_)
     refine op (OpS.mv rfl rfl rfl ?_)
     refine op (OpS.pass rfl rfl rfl ?_)
     refine op (OpS.pass rfl rfl rfl ?_)
     refine op (OpS.pass rfl rfl rfl ?_)
     refine op (OpS.pass rfl rfl rfl ?_)
     refine op (OpS.pass rfl rfl rfl ?_)
     refine op (OpS.pick rfl rfl rfl rfl ?_)
     refine op (OpS.as rfl rfl rfl ?_)
     refine RunL.nil ?_
     refine Run.slim [(4, .bool false)] ⟨rfl, trivial⟩ ?_
     refine Run.retP rfl (.tmp rfl .nil) ?_
     cases hF
     exact Post.mk' ⟨rfl, rfl, rfl, rfl⟩ (h2.picks .nil) .nil
   ·
    refine op (OpS.pass rfl rfl rfl ?_)
    refine op (OpS.pass rfl rfl rfl ?_)
    refine op (OpS.pass rfl rfl rfl ?_)
    refine op (OpS.pass rfl rfl rfl ?_)
    refine op (OpS.pass rfl rfl rfl ?_)
    refine op (OpS.pick rfl rfl rfl rfl ?_)
    refine op (OpS.mv rfl rfl rfl ?_)
    refine op (OpS.pass rfl rfl rfl ?_)
    refine op (OpS.pass rfl rfl rfl ?_)
    refine op (OpS.pass rfl rfl rfl ?_)
    refine op (OpS.pass rfl rfl rfl ?_)
    refine op (OpS.pass rfl rfl rfl ?_)
    refine op (OpS.pick rfl rfl rfl rfl ?_)
    refine op (OpS.mv rfl rfl rfl ?_)
    refine op (OpS.pass rfl rfl rfl ?_)
    refine op (OpS.pass rfl rfl rfl ?_)
    refine op (OpS.pass rfl rfl rfl ?_)
    refine op (OpS.pass rfl rfl rfl ?_)
    refine op (OpS.pass rfl rfl rfl ?_)
    refine op (OpS.pick rfl rfl rfl rfl ?_)
    refine op (OpS.mv rfl rfl rfl ?_)
    refine op (OpS.pass rfl rfl rfl ?_)
    refine op (OpS.pass rfl rfl rfl ?_)
    refine op (OpS.pass rfl rfl rfl ?_)
    refine op (OpS.pass rfl rfl rfl ?_)
    refine op (OpS.pass rfl rfl rfl ?_)
    refine op (OpS.pick rfl rfl rfl rfl ?_)
    refine op (OpS.mv rfl rfl rfl ?_)
    refine op (OpS.pass rfl rfl rfl ?_)
    refine op (OpS.pass rfl rfl rfl ?_)
    refine op (OpS.pass rfl rfl rfl ?_)
    refine op (OpS.pass rfl rfl rfl ?_)
    refine op (OpS.pass rfl rfl rfl ?_)
    refine op (OpS.pick rfl rfl rfl rfl ?_)
    refine op (OpS.mv rfl rfl rfl ?_)
    refine op (OpS.pass rfl rfl rfl ?_)
    refine op (OpS.pass rfl rfl rfl ?_)
    refine op (OpS.pass rfl rfl rfl ?_)
    refine op (OpS.pass rfl rfl rfl ?_)
    refine op (OpS.pass rfl rfl rfl ?_)
    refine op (OpS.pick rfl rfl rfl rfl ?_)
    refine op (OpS.as rfl rfl rfl ?_)
    refine RunL.nil ?_
    refine Run.slim [(4, .bool false)] ⟨rfl, trivial⟩ ?_
    refine Run.retP rfl (.tmp rfl .nil) ?_
    cases hF
    exact Post.mk' ⟨rfl, rfl, rfl, rfl⟩ (h2.picks .nil) .nil
  ·
   refine op (OpS.pass rfl rfl rfl ?_)
   refine op (OpS.pass rfl rfl rfl ?_)
   refine op (OpS.pass rfl rfl rfl ?_)
   refine op (OpS.pass rfl rfl rfl ?_)
   refine op (OpS.pass rfl rfl rfl ?_)
   refine op (OpS.pick rfl rfl rfl rfl ?_)
   refine op (OpS.mv rfl rfl rfl ?_)
   refine op (OpS.pass rfl rfl rfl ?_)
   refine op (OpS.pass rfl rfl rfl ?_)
   refine op (OpS.pass rfl rfl rfl ?_)
   refine op (OpS.pass rfl rfl rfl ?_)
   refine op (OpS.pass rfl rfl rfl ?_)
   refine op (OpS.pick rfl rfl rfl rfl ?_)
   refine op (OpS.mv rfl rfl rfl ?_)
   refine op (OpS.pass rfl rfl rfl ?_)
   refine op (OpS.pass rfl rfl rfl ?_)
   refine op (OpS.pass rfl rfl rfl ?_)
   refine op (OpS.pass rfl rfl rfl ?_)
   refine op (OpS.pass rfl rfl rfl ?_)
   refine op (OpS.pick rfl rfl rfl rfl ?_)
   refine op (OpS.mv rfl rfl rfl ?_)
   refine op (OpS.pass rfl rfl rfl ?_)
   refine op (OpS.pass rfl rfl rfl ?_)
   refine op (OpS.pass rfl rfl rfl ?_)
   refine op (OpS.pass rfl rfl rfl ?_)
   refine op (OpS.pass rfl rfl rfl ?_)
   refine op (OpS.pick rfl rfl rfl rfl ?_)
   refine op (OpS.mv rfl rfl rfl ?_)
   refine op (OpS.pass rfl rfl rfl ?_)
   refine op (OpS.pass rfl rfl rfl ?_)
   refine op (OpS.pass rfl rfl rfl ?_)
   refine op (OpS.pass rfl rfl rfl ?_)
   refine op (OpS.pass rfl rfl rfl ?_)
   refine op (OpS.pick rfl rfl rfl rfl ?_)
   refine op (OpS.mv rfl rfl rfl ?_)
   refine op (OpS.pass rfl rfl rfl ?_)
   refine op (OpS.pass rfl rfl rfl ?_)
   refine op (OpS.pass rfl rfl rfl ?_)
   refine op (OpS.pass rfl rfl rfl ?_)
   refine op (OpS.pass rfl rfl rfl ?_)
   refine op (OpS.pick rfl rfl rfl rfl ?_)
   refine op (OpS.mv rfl rfl rfl ?_)
   refine op (OpS.pass rfl rfl rfl ?_)
   refine op (OpS.pass rfl rfl rfl ?_)
   refine op (OpS.pass rfl rfl rfl ?_)
   refine op (OpS.pass rfl rfl rfl ?_)
   refine op (OpS.pass rfl rfl rfl ?_)
   refine op (OpS.pick rfl rfl rfl rfl ?_)
   refine op (OpS.as rfl rfl rfl ?_)
   refine RunL.nil ?_
   refine Run.slim [(4, .bool false)] ⟨rfl, trivial⟩ ?_
   refine Run.retP rfl (.tmp rfl .nil) ?_
   cases hF
   exact Post.mk' ⟨rfl, rfl, rfl, rfl⟩ (h2.picks .nil) .nil
 ·
  refine op (OpS.pass rfl rfl rfl ?_)
  refine op (OpS.pass rfl rfl rfl ?_)
  refine op (OpS.pass rfl rfl rfl ?_)
  refine op (OpS.pass rfl rfl rfl ?_)
  refine op (OpS.pass rfl rfl rfl ?_)
  refine op (OpS.pick rfl rfl rfl rfl ?_)
  refine op (OpS.mv rfl rfl rfl ?_)
  refine op (OpS.pass rfl rfl rfl ?_)
  refine op (OpS.pass rfl rfl rfl ?_)
  refine op (OpS.pass rfl rfl rfl ?_)
  refine op (OpS.pass rfl rfl rfl ?_)
  refine op (OpS.pass rfl rfl rfl ?_)
  refine op (OpS.pick rfl rfl rfl rfl ?_)
  refine op (OpS.mv rfl rfl rfl ?_)
  refine op (OpS.pass rfl rfl rfl ?_)
  refine op (OpS.pass rfl rfl rfl ?_)
  refine op (OpS.pass rfl rfl rfl ?_)
  refine op (OpS.pass rfl rfl rfl ?_)
  refine op (OpS.pass rfl rfl rfl ?_)
  refine op (OpS.pick rfl rfl rfl rfl ?_)
  refine op (OpS.mv rfl rfl rfl ?_)
  refine op (OpS.pass rfl rfl rfl ?_)
  refine op (OpS.pass rfl rfl rfl ?_)
  refine op (OpS.pass rfl rfl rfl ?_)
  refine op (OpS.pass rfl rfl rfl ?_)
  refine op (OpS.pass rfl rfl rfl ?_)
  refine op (OpS.pick rfl rfl rfl rfl ?_)
  refine op (OpS.mv rfl rfl rfl ?_)
  refine op (OpS.pass rfl rfl rfl ?_)
  refine op (OpS.pass rfl rfl rfl ?_)
  refine op (OpS.pass rfl rfl rfl ?_)
  refine op (OpS.pass rfl rfl rfl ?_)
  refine op (OpS.pass rfl rfl rfl ?_)
  refine op (OpS.pick rfl rfl rfl rfl ?_)
  refine op (OpS.mv rfl rfl rfl ?_)
  refine op (OpS.pass rfl rfl rfl ?_)
  refine op (OpS.pass rfl rfl rfl ?_)
  refine op (OpS.pass rfl rfl rfl ?_)
  refine op (OpS.pass rfl rfl rfl ?_)
  refine op (OpS.pass rfl rfl rfl ?_)
  refine op (OpS.pick rfl rfl rfl rfl ?_)
  refine op (OpS.mv rfl rfl rfl ?_)
  refine op (OpS.pass rfl rfl rfl ?_)
  refine op (OpS.pass rfl rfl rfl ?_)
  refine op (OpS.pass rfl rfl rfl ?_)
  refine op (OpS.pass rfl rfl rfl ?_)
  refine op (OpS.pass rfl rfl rfl ?_)
  refine op (OpS.pick rfl rfl rfl rfl ?_)
  refine op (OpS.mv rfl rfl rfl ?_)
  refine op (OpS.pass rfl rfl rfl ?_)
  refine op (OpS.pass rfl rfl rfl ?_)
  refine op (OpS.pass rfl rfl rfl ?_)
  refine op (OpS.pass rfl rfl rfl ?_)
  refine op (OpS.pass rfl rfl rfl ?_)
  refine op (OpS.pick rfl rfl rfl rfl ?_)
  refine op (OpS.as rfl rfl rfl ?_)
  refine RunL.nil ?_
  refine Run.slim [(4, .bool false)] ⟨rfl, trivial⟩ ?_
  refine Run.retP rfl (.tmp rfl .nil) ?_
  cases hF
  exact Post.mk' ⟨rfl, rfl, rfl, rfl⟩ (h2.picks .nil) .nil
theorem ref23_Matches_ok {fuel : Nat} {a0 : Message_} {a1 : Message_} {y : Bool} (hF : ref23_Matches fuel a0 a1 = some y) {w : World} {v0 v1 : Value} :
  Spec Try.prog 57 [v0, v1].toArray w [(false, .val Message_.rep v0 a0), (false, .val Message_.rep v1 a1)] [] (fun v Γr Ωr Ωo => v = .bool y ∧ Γr = [] ∧ Ωr = [] ∧ Ωo = []) := by
 refine Spec.of (L := [(0, v0), (1, v1)]) Try.func57 rfl ⟨rfl, rfl, trivial⟩ rfl (fun e h => ?_)
 unfold ref23_Matches at hF
 refine Run.seq ?_
 refine Run.reg ?_
 refine op (OpS.boxF h rfl rfl rfl (V.at .z) (fun u1 w1 h1 => ?_))
 refine op (OpS.boxF h1 rfl rfl rfl (V.at (.s .z)) (fun u2 w2 h2 => ?_))
 refine op (OpS.as rfl rfl rfl ?_)
 refine RunL.nil ?_
 refine Run.slim [(3, u2), (2, u1)] ⟨rfl, rfl, trivial⟩ ?_
 refine Run.seq ?_
 refine Run.seq ?_
 refine Run.reg ?_
 refine op (OpS.loadB h2 .z PA.z Get.id ty37 rfl rfl rfl (fun u3 h3 => ?_))
 obtain ⟨y1, e1, hF⟩ := bindP_use hF
 refine op (OpS.callP h3 Try.func53 rfl rfl rfl rfl (vs := [u3]) rfl (ref23_Valid_ok e1) (.cons (f := false) (V.at .z) .nil) ?_)
 rintro _ w3 _ _ _ ⟨rfl, rfl, rfl, rfl⟩ h4
 have h5 := h4 rfl rfl
 simp only [List.cons_append, List.nil_append] at h5
 refine op (OpS.not rfl rfl rfl ?_)
 refine op (OpS.mv rfl rfl rfl ?_)
 refine RunL.join (σ := Bool) (fun s_ L_ w_ => L_ = [(2, u1), (3, u2), (15, .bool s_)] ∧ St e w_ [] [(false, .box 37 Message_.rep u1 a0), (false, .box 37 Message_.rep u2 a1)]) hF (fun s1 _ w4 hI hF => ?_) (fun j1 hj1 hF => ?_)
 ·
  obtain ⟨rfl, h6⟩ := hI
  refine Run.ite rfl hF (fun e2 hF => ?_) (fun e2 hF => ?_)
  ·
   refine Run.seq ?_
   refine Run.reg ?_
   refine op (OpS.as rfl rfl rfl ?_)
   refine RunL.nil ?_
   refine Run.slim [(4, .bool false)] ⟨rfl, trivial⟩ ?_
   refine Run.retP rfl (.tmp rfl .nil) ?_
   cases hF
   exact Post.mk' ⟨rfl, rfl, rfl, rfl⟩ (h6.picks .nil) .nil
  ·
   refine Run.skip ?_
   refine Run.seq ?_
   refine Run.reg ?_
   refine op (OpS.loadB h6 .z PA.z Get.id ty37 rfl rfl rfl (fun u4 h7 => ?_))
   refine op (OpS.fbox (o3 := 7) h7 (.s .z) PA.z fa37_7 rfl rfl rfl rfl ?_)
   refine op (OpS.loadBi h7 (.s .z) PA.a (Get.fld Message_.f7) ty5 rfl rfl rfl ?_)
   refine op (OpS.fbox (o3 := 8) h7 (.s .z) PA.z fa37_8 rfl rfl rfl rfl ?_)
   refine op (OpS.loadB h7 (.s .z) PA.a (Get.fld Message_.f8) ty22 rfl rfl rfl (fun u5 h8 => ?_))
   obtain ⟨y2, e3, hF⟩ := bindP_use hF
   refine op (OpS.callP h8 Try.func60 rfl rfl rfl rfl (vs := [u4, .int .u8 a1.Code, u5]) rfl (ref23_Reply_ok e3) (.cons (f := false) (V.at (.s .z)) (.cons (f := false) (V.at .z) .nil)) ?_)
   rintro _ w5 _ _ _ ⟨u6, rfl, rfl, rfl, rfl⟩ h9
   have h10 := h9 rfl rfl
   simp only [List.cons_append, List.nil_append] at h10
   refine op (OpS.mv rfl rfl rfl ?_)
   refine op (OpS.ext rfl rfl rfl rfl ?_)
   refine op (OpS.ext rfl rfl rfl rfl ?_)
   refine op (OpS.alloc h10 ti37 Message_.zr rfl rfl (fun u7 w6 h11 => ?_))
   refine op (OpS.storeB (f' := true) h11 .z PA.z Put.id ty37 rfl rfl rfl (V.at .z) (.inl rfl) (fun w7 h12 => ?_))
   refine op (OpS.as rfl rfl rfl ?_)
   refine RunL.nil ?_
   refine Run.slim [(6, .int .i64 y2.2), (5, u7), (3, u2)] ⟨rfl, rfl, rfl, trivial⟩ ?_
   refine Run.seq ?_
   refine Run.reg ?_
   refine op (OpS.mv rfl rfl rfl ?_)
   refine op (OpS.bin rfl rfl rfl rfl rfl ?_)
   refine op (OpS.mv rfl rfl rfl ?_)
   refine RunL.caseb hF (fun e4 hF => ?_) (fun e4 hF => ?_)
   ·
    refine op (OpS.loadB h12 .z PA.z Get.id ty37 rfl rfl rfl (fun u8 h13 => ?_))
    refine op (OpS.loadB h13 (.s (.s .z)) PA.z Get.id ty37 rfl rfl rfl (fun u9 h14 => ?_))
    obtain ⟨y3, e5, hF⟩ := bindP_use hF
    refine op (OpS.callP h14 Try.func72 rfl rfl rfl rfl (vs := [u8, u9]) rfl (ref23_Same_ok e5) (.cons (f := true) (V.at (.s .z)) (.cons (f := false) (V.at .z) .nil)) ?_)
    rintro _ w8 _ _ _ ⟨rfl, rfl, rfl, rfl⟩ h15
    have h16 := h15 rfl rfl
    simp only [List.cons_append, List.nil_append] at h16
    refine op (OpS.pick rfl rfl rfl rfl ?_)
    refine op (OpS.as rfl rfl rfl ?_)
    refine RunL.nil ?_
    refine Run.slim [(4, .bool y3)] ⟨rfl, trivial⟩ ?_
    refine Run.retP rfl (.tmp rfl .nil) ?_
    cases hF
    exact Post.mk' ⟨rfl, rfl, rfl, rfl⟩ (h16.picks .nil) .nil
   ·
    refine op (OpS.pass rfl rfl rfl ?_)
    refine op (OpS.pass rfl rfl rfl ?_)
    refine op (OpS.pass rfl rfl rfl ?_)
    refine op (OpS.pick rfl rfl rfl rfl ?_)
    refine op (OpS.as rfl rfl rfl ?_)
    refine RunL.nil ?_
    refine Run.slim [(4, .bool false)] ⟨rfl, trivial⟩ ?_
    refine Run.retP rfl (.tmp rfl .nil) ?_
    cases hF
    exact Post.mk' ⟨rfl, rfl, rfl, rfl⟩ (h12.picks .nil) .nil
 ·
  refine RunL.caseb hF (fun e6 hF => ?_) (fun e6 hF => ?_)
  ·
   refine op (OpS.pass rfl rfl rfl ?_)
   refine op (OpS.pass rfl rfl rfl ?_)
   refine op (OpS.pass rfl rfl rfl ?_)
   refine op (OpS.pass rfl rfl rfl ?_)
   refine op (OpS.pick rfl rfl rfl rfl ?_)
   refine RunL.nil ?_
   refine Run.slim [(15, .bool true), (3, u2), (2, u1)] ⟨rfl, rfl, rfl, trivial⟩ ?_
   refine Run.slim [(2, u1), (3, u2), (15, .bool true)] ⟨rfl, rfl, rfl, trivial⟩ ?_
   exact hj1 (true) _ _ ⟨rfl, (h5.facts .nil).picks (.cons (.s .z) (.cons .z .nil))⟩ hF
  ·
   refine op (OpS.fbox (o3 := 2) h5 .z PA.z fa37_2 rfl rfl rfl rfl ?_)
   refine op (OpS.loadBi h5 .z PA.a (Get.fld Message_.f2) ty5 rfl rfl rfl ?_)
   refine op (OpS.rem rfl rfl rfl rfl (by decide) ?_)
   refine op (OpS.bin rfl rfl rfl rfl rfl ?_)
   refine op (OpS.pick rfl rfl rfl rfl ?_)
   refine RunL.nil ?_
   refine Run.slim [(15, .bool ((Int.tmod a1.Function 2) != 1)), (3, u2), (2, u1)] ⟨rfl, rfl, rfl, trivial⟩ ?_
   refine Run.slim [(2, u1), (3, u2), (15, .bool ((Int.tmod a1.Function 2) != 1))] ⟨rfl, rfl, rfl, trivial⟩ ?_
   exact hj1 ((Int.tmod a1.Function 2) != 1) _ _ ⟨rfl, (h5.facts .nil).picks (.cons (.s .z) (.cons .z .nil))⟩ hF
set_option maxHeartbeats 8000000 in
theorem ref25_Valid_ok {fuel : Nat} {a0 : Responder_} {y : Bool} (hF : ref25_Valid fuel a0 = some y) {w : World} {v0 : Value} :
  Spec Try.prog 28 [v0].toArray w [(false, .val Responder_.rep v0 a0)] [] (fun v Γr Ωr Ωo => v = .bool y ∧ Γr = [] ∧ Ωr = [] ∧ Ωo = []) := by
 refine Spec.of (L := [(0, v0)]) Try.func28 rfl ⟨rfl, trivial⟩ rfl (fun e h => ?_)
 unfold ref25_Valid at hF
 refine Run.seq ?_
 refine Run.reg ?_
 refine op (OpS.boxF h rfl rfl rfl (V.at .z) (fun u1 w1 h1 => ?_))
 refine op (OpS.as rfl rfl rfl ?_)
 refine RunL.nil ?_
 refine Run.slim [(1, u1)] ⟨rfl, trivial⟩ ?_
 refine Run.seq ?_
 refine Run.reg ?_
 refine op (OpS.loadB h1 .z PA.z Get.id ty29 rfl rfl rfl (fun u2 h2 => ?_))
 obtain ⟨y1, e1, hF⟩ := bindP_use hF
 have h3 := h2.front .nil
 refine op (OpS.callO h3 Try.func55 rfl rfl rfl rfl (vs := [u2]) rfl (ref25_requests_ok e1) rfl (.cons (f := false) (V.at .z) .nil) ?_)
 rintro u3 w2 _ _ _ ⟨_, rfl, rfl, rfl, rfl⟩ h4
 have h5 := h4
 simp only [List.cons_append, List.nil_append] at h5
 refine op (OpS.as rfl rfl rfl ?_)
 have h6 := (h5.pick .z).freeze
 refine RunL.nil ?_
 refine Run.slim [(3, u3), (1, u1)] ⟨rfl, rfl, trivial⟩ ?_
 refine Run.seq ?_
 refine Run.seq ?_
 refine Run.reg ?_
 refine op (OpS.fbox (o3 := 0) h6 .z PA.z fa29_0 rfl rfl rfl rfl ?_)
 refine op (OpS.loadBi h6 .z PA.a (Get.fld Responder_.f0) ty5 rfl rfl rfl ?_)
 refine op (OpS.bin rfl rfl rfl rfl rfl ?_)
 refine op (OpS.mv rfl rfl rfl ?_)
 refine RunL.join (σ := Bool) (fun s_ L_ w_ => L_ = [(1, u1), (3, u3), (31, .bool s_)] ∧ St e w_ [(false, .val (Rep.slice Message_.rep) u3 y1)] [(false, .box 29 Responder_.rep u1 a0)]) hF (fun s1 _ w3 hI hF => ?_) (fun j1 hj1 hF => ?_)
 ·
  obtain ⟨rfl, h7⟩ := hI
  refine Run.ite rfl hF (fun e2 hF => ?_) (fun e2 hF => ?_)
  ·
   refine Run.seq ?_
   refine Run.reg ?_
   refine op (OpS.as rfl rfl rfl ?_)
   refine RunL.nil ?_
   refine Run.slim [(2, .bool false)] ⟨rfl, trivial⟩ ?_
   refine Run.retP rfl (.tmp rfl .nil) ?_
   cases hF
   exact Post.mk' ⟨rfl, rfl, rfl, rfl⟩ (h7.picks .nil) .nil
  ·
   refine Run.skip ?_
   refine Run.seq ?_
   refine Run.seq ?_
   refine Run.reg ?_
   refine op (OpS.as rfl rfl rfl ?_)
   refine RunL.nil ?_
   refine Run.slim [(4, .int .i64 0), (1, u1), (3, u3)] ⟨rfl, rfl, rfl, trivial⟩ ?_
   refine Run.block ?_
   refine Run.slim [(1, u1), (3, u3), (4, .int .i64 0)] ⟨rfl, rfl, rfl, trivial⟩ ?_
   refine Run.loopP (σ := Int) (fun s_ L_ w_ => L_ = [(1, u1), (3, u3), (4, .int .i64 s_)] ∧ St e w_ [(false, .val (Rep.slice Message_.rep) u3 y1)] [(false, .box 29 Responder_.rep u1 a0)]) hF ⟨rfl, (h7.facts (.atm .z .nil)).picks (.cons .z .nil)⟩ (fun k1 hk1 s2 _ w4 hI hF => ?_)
   obtain ⟨rfl, h8⟩ := hI
   refine Run.seq ?_
   refine Run.seq ?_
   refine Run.reg ?_
   refine op (OpS.mv rfl rfl rfl ?_)
   refine op (OpS.mv rfl rfl rfl ?_)
   refine op (OpS.len h8 Try.underlying26 rfl rfl rfl (V.at .z) ?_)
   refine op (OpS.bin rfl rfl rfl rfl rfl ?_)
   refine RunL.nil ?_
   refine Run.slim [(35, .bool (decide (s2 < (y1.length : Int)))), (1, u1), (3, u3), (4, .int .i64 s2)] ⟨rfl, rfl, rfl, rfl, trivial⟩ ?_
   refine Run.ite rfl hF (fun e3 hF => ?_) (fun e3 hF => ?_)
   ·
    refine Run.skip ?_
    refine Run.seq ?_
    refine Run.block ?_
    refine Run.seq ?_
    refine Run.seq ?_
    refine Run.reg ?_
    refine op (OpS.mv rfl rfl rfl ?_)
    refine op (OpS.mv rfl rfl rfl ?_)
    obtain ⟨x1, e4, hF⟩ := bindP_use hF
    refine op (OpS.iptr h8 Try.underlying26 ty37 rfl rfl rfl rfl (V.at .z) e4 (fun u4 h9 => ?_))
    refine op (OpS.load h9 ty37 rfl rfl rfl .z (fun u5 h10 => ?_))
    obtain ⟨y2, e5, hF⟩ := bindP_use hF
    refine op (OpS.callP h10 Try.func27 rfl rfl rfl rfl (vs := [u5]) rfl (ref23_Request_ok e5) (.cons (f := false) (V.at .z) .nil) ?_)
    rintro _ w5 _ _ _ ⟨u6, rfl, rfl, rfl, rfl⟩ h11
    have h12 := h11 rfl rfl
    simp only [List.cons_append, List.nil_append] at h12
    refine op (OpS.mv rfl rfl rfl ?_)
    refine op (OpS.ext rfl rfl rfl rfl ?_)
    refine op (OpS.ext rfl rfl rfl rfl ?_)
    refine op (OpS.as rfl rfl rfl ?_)
    have h13 := (h12.pick .z).freeze
    refine op (OpS.as rfl rfl rfl ?_)
    refine RunL.nil ?_
    refine Run.slim [(6, .int .i64 y2.2), (1, u1), (3, u3), (4, .int .i64 s2)] ⟨rfl, rfl, rfl, rfl, trivial⟩ ?_
    refine Run.seq ?_
    refine Run.join (σ := Bool) (fun s_ L_ w_ => L_ = [(1, u1), (3, u3), (4, .int .i64 s2), (57, .bool s_)] ∧ St e w_ [(false, .val (Rep.slice Message_.rep) u3 y1)] [(false, .box 29 Responder_.rep u1 a0)]) hF (fun s3 _ w6 hI hF => ?_) (fun j2 hj2 hF => ?_)
    ·
     obtain ⟨rfl, h14⟩ := hI
     refine Run.ite rfl hF (fun e6 hF => ?_) (fun e6 hF => ?_)
     ·
      refine Run.seq ?_
      refine Run.reg ?_
      refine op (OpS.as rfl rfl rfl ?_)
      refine RunL.nil ?_
      refine Run.slim [(2, .bool false)] ⟨rfl, trivial⟩ ?_
      refine Run.retP rfl (.tmp rfl .nil) ?_
      cases hF
      exact Post.mk' ⟨rfl, rfl, rfl, rfl⟩ (h14.picks .nil) .nil
     ·
      refine Run.skip ?_
      refine Run.seq ?_
      refine Run.reg ?_
      refine op (OpS.as rfl rfl rfl ?_)
      refine RunL.nil ?_
      refine Run.slim [(7, .int .i64 0), (1, u1), (3, u3), (4, .int .i64 s2)] ⟨rfl, rfl, rfl, rfl, trivial⟩ ?_
      refine Run.block ?_
      refine Run.slim [(1, u1), (3, u3), (4, .int .i64 s2), (7, .int .i64 0)] ⟨rfl, rfl, rfl, rfl, trivial⟩ ?_
      refine Run.loopP (σ := Int) (fun s_ L_ w_ => L_ = [(1, u1), (3, u3), (4, .int .i64 s2), (7, .int .i64 s_)] ∧ St e w_ [(false, .val (Rep.slice Message_.rep) u3 y1)] [(false, .box 29 Responder_.rep u1 a0)]) hF ⟨rfl, (h14.facts (.atm .z .nil)).picks (.cons .z .nil)⟩ (fun k2 hk2 s4 _ w7 hI hF => ?_)
      obtain ⟨rfl, h15⟩ := hI
      refine Run.seq ?_
      refine Run.seq ?_
      refine Run.reg ?_
      refine op (OpS.mv rfl rfl rfl ?_)
      refine op (OpS.mv rfl rfl rfl ?_)
      refine op (OpS.bin rfl rfl rfl rfl rfl ?_)
      refine RunL.nil ?_
      refine Run.slim [(60, .bool (decide (s4 < s2))), (1, u1), (3, u3), (4, .int .i64 s2), (7, .int .i64 s4)] ⟨rfl, rfl, rfl, rfl, rfl, trivial⟩ ?_
      refine Run.ite rfl hF (fun e7 hF => ?_) (fun e7 hF => ?_)
      ·
       refine Run.skip ?_
       refine Run.seq ?_
       refine Run.block ?_
       refine Run.seq ?_
       obtain ⟨x2, e8, hF⟩ := bindP_use hF
       obtain ⟨x3, e9, hF⟩ := bindP_use hF
       obtain ⟨y3, e10, hF⟩ := bindP_use hF
       refine Run.drawV (Ωs := [(false, .box 29 Responder_.rep u1 a0)]) [⟨some 63, some (u3), fun _ => [], fun ds_ u_ => [], [], [], none⟩, ⟨some 64, some (.int .i64 s4), fun _ => [], fun ds_ u_ => [], [], [], none⟩, ⟨some 65, none, fun u_ => [(false, .ptr Message_.rep u_ x2)], fun ds_ u_ => [], [], [], none⟩, ⟨some 66, none, fun u_ => [(false, .val Message_.rep u_ x2)], fun ds_ u_ => [], [], [], none⟩, ⟨some 67, some (u3), fun _ => [], fun ds_ u_ => [], [], [], none⟩, ⟨some 68, some (.int .i64 s2), fun _ => [], fun ds_ u_ => [], [], [], none⟩, ⟨some 69, none, fun u_ => [(false, .ptr Message_.rep u_ x3)], fun ds_ u_ => [], [], [], none⟩, ⟨some 70, none, fun u_ => [(false, .val Message_.rep u_ x3)], fun ds_ u_ => [], [], [], none⟩, ⟨some 71, some (.bool y3), fun _ => [], fun ds_ u_ => [], [], [], none⟩] [[], [], [0, 1], [2], [], [], [4, 5], [6], [3, 7]] [] [0, 1, 2, 3, 4, 5, 6, 7, 8] Try_mixed rfl rfl rfl h15 (.cons ?_ (.cons ?_ (.cons ?_ (.cons ?_ (.cons ?_ (.cons ?_ (.cons ?_ (.cons ?_ (.cons ?_ .nil))))))))) (fun q1 w hq1 h => ?_)
       ·intro q1 w Γx Ωx h
        refine OpS.mv rfl rfl rfl ?_
        exact ⟨undef, rfl, trivial, h⟩
       ·intro q1 w Γx Ωx h
        refine OpS.mv rfl rfl rfl ?_
        exact ⟨undef, rfl, trivial, h⟩
       ·intro q1 w Γx Ωx h
        refine OpS.iptr h Try.underlying26 ty37 rfl rfl rfl rfl (V.at .z) e8 (fun u h22 => ?_)
        exact ⟨u, rfl, trivial, h22⟩
       ·intro q1 w Γx Ωx h
        refine OpS.load h ty37 rfl rfl rfl .z (fun u h23 => ?_)
        exact ⟨u, rfl, trivial, h23⟩
       ·intro q1 w Γx Ωx h
        refine OpS.mv rfl rfl rfl ?_
        exact ⟨undef, rfl, trivial, h⟩
       ·intro q1 w Γx Ωx h
        refine OpS.mv rfl rfl rfl ?_
        exact ⟨undef, rfl, trivial, h⟩
       ·intro q1 w Γx Ωx h
        refine OpS.iptr h Try.underlying26 ty37 rfl rfl rfl rfl (V.at .z) e9 (fun u h24 => ?_)
        exact ⟨u, rfl, trivial, h24⟩
       ·intro q1 w Γx Ωx h
        refine OpS.load h ty37 rfl rfl rfl .z (fun u h25 => ?_)
        exact ⟨u, rfl, trivial, h25⟩
       ·intro q1 w Γx Ωx h
        refine OpS.callP h Try.func30 rfl rfl rfl rfl (vs := [(q1 3), (q1 7)]) rfl (ref25_Same_ok e10) (.cons (f := false) (V.at .z) (.cons (f := false) (V.at (.s .z)) .nil)) ?_
        rintro _ w9 _ _ _ ⟨rfl, rfl, rfl, rfl⟩ h26
        have h27 := h26 rfl rfl
        simp only [List.cons_append, List.nil_append] at h27
        exact ⟨undef, rfl, trivial, h27⟩
       have h28 : St e w [(false, .ptr Message_.rep (q1 2) x2), (false, .val Message_.rep (q1 3) x2), (false, .ptr Message_.rep (q1 6) x3), (false, .val Message_.rep (q1 7) x3), (false, .val (Rep.slice Message_.rep) u3 y1)] [(false, .box 29 Responder_.rep u1 a0)] := h
       refine RunL.nil ?_
       refine Run.slim [(71, .bool y3), (1, u1), (3, u3), (4, .int .i64 s2), (7, .int .i64 s4)] ⟨rfl, rfl, rfl, rfl, rfl, trivial⟩ ?_
       refine Run.ite rfl hF (fun e11 hF => ?_) (fun e11 hF => ?_)
       ·
        refine Run.seq ?_
        refine Run.reg ?_
        refine op (OpS.as rfl rfl rfl ?_)
        refine RunL.nil ?_
        refine Run.slim [(2, .bool false)] ⟨rfl, trivial⟩ ?_
        refine Run.retP rfl (.tmp rfl .nil) ?_
        cases hF
        exact Post.mk' ⟨rfl, rfl, rfl, rfl⟩ (h28.picks .nil) .nil
       ·
        refine Run.skip ?_
        refine Run.endBlock ?_
        refine Run.reg ?_
        refine op (OpS.mv rfl rfl rfl ?_)
        refine op (OpS.bin rfl rfl rfl rfl rfl ?_)
        refine op (OpS.as rfl rfl rfl ?_)
        obtain ⟨x4, e12, hF⟩ := letP_use hF
        refine RunL.name e12 ?_
        refine RunL.nil ?_
        refine Run.slim [(7, .int .i64 x4), (1, u1), (3, u3), (4, .int .i64 s2)] ⟨rfl, rfl, rfl, rfl, trivial⟩ ?_
        refine Run.slim [(1, u1), (3, u3), (4, .int .i64 s2), (7, .int .i64 x4)] ⟨rfl, rfl, rfl, rfl, trivial⟩ ?_
        exact hk2 (x4) _ _ ⟨rfl, (h28.facts (.atm (.s (.s (.s (.s .z)))) .nil)).picks (.cons .z .nil)⟩ hF
      ·
       refine Run.exit rfl ?_
       refine Run.endBlock ?_
       refine Run.reg ?_
       refine op (OpS.mv rfl rfl rfl ?_)
       refine op (OpS.bin rfl rfl rfl rfl rfl ?_)
       refine op (OpS.as rfl rfl rfl ?_)
       obtain ⟨x5, e13, hF⟩ := letP_use hF
       refine RunL.name e13 ?_
       refine RunL.nil ?_
       refine Run.slim [(4, .int .i64 x5), (1, u1), (3, u3)] ⟨rfl, rfl, rfl, trivial⟩ ?_
       refine Run.slim [(1, u1), (3, u3), (4, .int .i64 x5)] ⟨rfl, rfl, rfl, trivial⟩ ?_
       exact hk1 (x5) _ _ ⟨rfl, (h15.facts (.atm .z .nil)).picks (.cons .z .nil)⟩ hF
    ·
     obtain ⟨x6, e14, hF⟩ := letP_use hF
     refine iteP_use hF (fun e15 hF => ?_) (fun e15 hF => ?_)
     ·
      have hG := hF
      subst e15
      have hF := hG
      refine Run.drawV (Ωs := []) [⟨some 46, some (.int .i64 y2.2), fun _ => [], fun ds_ u_ => [], [], [], none⟩, ⟨some 47, some (.bool (y2.2 != 0)), fun _ => [], fun ds_ u_ => [], [], [], none⟩, ⟨some 48, some (.bool true), fun _ => [], fun ds_ u_ => [], [], [], none⟩, ⟨some 49, some undef, fun _ => [], fun _ _ => [], [], [], none⟩, ⟨some 50, some undef, fun _ => [], fun _ _ => [], [], [], none⟩, ⟨some 51, some undef, fun _ => [], fun _ _ => [], [], [], none⟩, ⟨some 52, some undef, fun _ => [], fun _ _ => [], [], [], none⟩, ⟨some 53, some undef, fun _ => [], fun _ _ => [], [], [], none⟩, ⟨some 54, some undef, fun _ => [], fun _ _ => [], [], [], none⟩, ⟨some 55, some undef, fun _ => [], fun _ _ => [], [], [], none⟩, ⟨some 56, some undef, fun _ => [], fun _ _ => [], [], [], none⟩, ⟨some 57, some (.bool true), fun _ => [], fun ds_ u_ => [], [], [], none⟩] [[], [0], [1], [2], [2], [2], [2], [2], [2], [2], [2], [2, 10]] [[(false, .box 29 Responder_.rep u1 a0)]] [0, 1, 2, 3, 4, 5, 6, 7, 8, 9, 10, 11, 12] Try_mixed rfl rfl rfl h13 (.cons ?_ (.cons ?_ (.cons ?_ (.cons ?_ (.cons ?_ (.cons ?_ (.cons ?_ (.cons ?_ (.cons ?_ (.cons ?_ (.cons ?_ (.cons ?_ .nil)))))))))))) (fun q2 w hq2 h => ?_)
      ·intro q2 w Γx Ωx h
       refine OpS.mv rfl rfl rfl ?_
       exact ⟨undef, rfl, trivial, h⟩
      ·intro q2 w Γx Ωx h
       refine OpS.bin rfl rfl rfl rfl rfl ?_
       exact ⟨undef, rfl, trivial, h⟩
      ·intro q2 w Γx Ωx h
       refine OpS.mv rfl rfl rfl ?_
       exact ⟨undef, (congrArg (fun z_ => some (Value.bool z_)) e14), trivial, h⟩
      ·intro q2 w Γx Ωx h
       exact OpS.pass rfl rfl rfl ⟨undef, rfl, trivial, h⟩
      ·intro q2 w Γx Ωx h
       exact OpS.pass rfl rfl rfl ⟨undef, rfl, trivial, h⟩
      ·intro q2 w Γx Ωx h
       exact OpS.pass rfl rfl rfl ⟨undef, rfl, trivial, h⟩
      ·intro q2 w Γx Ωx h
       exact OpS.pass rfl rfl rfl ⟨undef, rfl, trivial, h⟩
      ·intro q2 w Γx Ωx h
       exact OpS.pass rfl rfl rfl ⟨undef, rfl, trivial, h⟩
      ·intro q2 w Γx Ωx h
       exact OpS.pass rfl rfl rfl ⟨undef, rfl, trivial, h⟩
      ·intro q2 w Γx Ωx h
       exact OpS.pass rfl rfl rfl ⟨undef, rfl, trivial, h⟩
      ·intro q2 w Γx Ωx h
       exact OpS.pass rfl rfl rfl ⟨undef, rfl, trivial, h⟩
      ·intro q2 w Γx Ωx h
       refine OpS.pick rfl rfl rfl rfl ?_
       exact ⟨undef, rfl, trivial, h⟩
      have h29 : St e w [(true, .val (Rep.slice (Rep.int .u8)) u6 y2.1), (false, .val Message_.rep u5 x1), (false, .ptr Message_.rep u4 x1), (false, .val (Rep.slice Message_.rep) u3 y1)] [(false, .box 29 Responder_.rep u1 a0)] := h
      refine RunL.nil ?_
      refine Run.slim [(57, .bool true), (1, u1), (3, u3), (4, .int .i64 s2)] ⟨rfl, rfl, rfl, rfl, trivial⟩ ?_
      refine Run.slim [(1, u1), (3, u3), (4, .int .i64 s2), (57, .bool true)] ⟨rfl, rfl, rfl, rfl, trivial⟩ ?_
      exact hj2 (true) _ _ ⟨rfl, (h29.facts (.atm (.s (.s (.s .z))) .nil)).picks (.cons .z .nil)⟩ hF
     ·
      have hG := hF
      subst e15
      have hF := hG
      obtain ⟨x7, e16, hF⟩ := bindP_use hF
      refine Run.drawV (Ωs := []) [⟨some 46, some (.int .i64 y2.2), fun _ => [], fun ds_ u_ => [], [], [], none⟩, ⟨some 47, some (.bool (y2.2 != 0)), fun _ => [], fun ds_ u_ => [], [], [], none⟩, ⟨some 48, some (.bool false), fun _ => [], fun ds_ u_ => [], [], [], none⟩, ⟨some 49, some (u3), fun _ => [], fun ds_ u_ => [], [], [], none⟩, ⟨some 50, some (.int .i64 s2), fun _ => [], fun ds_ u_ => [], [], [], none⟩, ⟨some 51, none, fun u_ => [(false, .ptr Message_.rep u_ x7)], fun ds_ u_ => [], [], [], none⟩, ⟨some 52, none, fun u_ => [(false, .ptr (Rep.int .u8) u_ x7.To)], fun ds_ u_ => [], [], [], none⟩, ⟨some 53, some (.int .u8 x7.To), fun _ => [], fun ds_ u_ => [], [], [], none⟩, ⟨some 54, some ((padd u1 0)), fun _ => [], fun ds_ u_ => [], [], [(0, [])], none⟩, ⟨some 55, some (.int .u8 a0.Own), fun _ => [], fun ds_ u_ => [], [], [(0, [])], none⟩, ⟨some 56, some (.bool (x7.To != a0.Own)), fun _ => [], fun ds_ u_ => [], [], [], none⟩, ⟨some 57, some (.bool (x7.To != a0.Own)), fun _ => [], fun ds_ u_ => [], [], [], none⟩] [[], [0], [1], [2], [2], [3, 4, 2], [5, 2], [6, 2], [2], [8, 2], [7, 9, 2], [2, 10]] [[(false, .box 29 Responder_.rep u1 a0)]] [0, 1, 2, 3, 4, 5, 6, 7, 8, 9, 10, 11, 12] Try_mixed rfl rfl rfl h13 (.cons ?_ (.cons ?_ (.cons ?_ (.cons ?_ (.cons ?_ (.cons ?_ (.cons ?_ (.cons ?_ (.cons ?_ (.cons ?_ (.cons ?_ (.cons ?_ .nil)))))))))))) (fun q2 w hq3 h => ?_)
      ·intro q2 w Γx Ωx h
       refine OpS.mv rfl rfl rfl ?_
       exact ⟨undef, rfl, trivial, h⟩
      ·intro q2 w Γx Ωx h
       refine OpS.bin rfl rfl rfl rfl rfl ?_
       exact ⟨undef, rfl, trivial, h⟩
      ·intro q2 w Γx Ωx h
       refine OpS.mv rfl rfl rfl ?_
       exact ⟨undef, (congrArg (fun z_ => some (Value.bool z_)) e14), trivial, h⟩
      ·intro q2 w Γx Ωx h
       refine OpS.mv rfl rfl rfl ?_
       exact ⟨undef, rfl, trivial, h⟩
      ·intro q2 w Γx Ωx h
       refine OpS.mv rfl rfl rfl ?_
       exact ⟨undef, rfl, trivial, h⟩
      ·intro q2 w Γx Ωx h
       refine OpS.iptr h Try.underlying26 ty37 rfl rfl rfl rfl (V.at (.s (.s (.s .z)))) e16 (fun u h32 => ?_)
       exact ⟨u, rfl, trivial, h32⟩
      ·intro q2 w Γx Ωx h
       refine OpS.fptr h fa37_0 Message_.f0 rfl rfl rfl .z (fun u h33 => ?_)
       exact ⟨u, rfl, trivial, h33⟩
      ·intro q2 w Γx Ωx h
       refine OpS.loadi h ty5 rfl rfl rfl .z ?_
       exact ⟨undef, rfl, trivial, h⟩
      ·intro q2 w Γx Ωx h
       have h : St e w ([(true, .val (Rep.slice (Rep.int .u8)) u6 y2.1), (false, .val Message_.rep u5 x1), (false, .ptr Message_.rep u4 x1), (false, .val (Rep.slice Message_.rep) u3 y1)] ++ Γx) ([(false, .box 29 Responder_.rep u1 a0)] ++ Ωx) := h
       refine OpS.fbox (o3 := 0) h .z PA.z fa29_0 rfl rfl rfl rfl ?_
       exact ⟨undef, rfl, trivial, h⟩
      ·intro q2 w Γx Ωx h
       have h : St e w ([(true, .val (Rep.slice (Rep.int .u8)) u6 y2.1), (false, .val Message_.rep u5 x1), (false, .ptr Message_.rep u4 x1), (false, .val (Rep.slice Message_.rep) u3 y1)] ++ Γx) ([(false, .box 29 Responder_.rep u1 a0)] ++ Ωx) := h
       refine OpS.loadBi h .z PA.a (Get.fld Responder_.f0) ty5 rfl rfl rfl ?_
       exact ⟨undef, rfl, trivial, h⟩
      ·intro q2 w Γx Ωx h
       refine OpS.bin rfl rfl rfl rfl rfl ?_
       exact ⟨undef, rfl, trivial, h⟩
      ·intro q2 w Γx Ωx h
       refine OpS.pick rfl rfl rfl rfl ?_
       exact ⟨undef, rfl, trivial, h⟩
      have h34 : St e w [(false, .ptr Message_.rep (q2 5) x7), (false, .ptr (Rep.int .u8) (q2 6) x7.To), (true, .val (Rep.slice (Rep.int .u8)) u6 y2.1), (false, .val Message_.rep u5 x1), (false, .ptr Message_.rep u4 x1), (false, .val (Rep.slice Message_.rep) u3 y1)] [(false, .box 29 Responder_.rep u1 a0)] := h
      refine RunL.nil ?_
      refine Run.slim [(57, .bool (x7.To != a0.Own)), (1, u1), (3, u3), (4, .int .i64 s2)] ⟨rfl, rfl, rfl, rfl, trivial⟩ ?_
      refine Run.slim [(1, u1), (3, u3), (4, .int .i64 s2), (57, .bool (x7.To != a0.Own))] ⟨rfl, rfl, rfl, rfl, trivial⟩ ?_
      exact hj2 (x7.To != a0.Own) _ _ ⟨rfl, (h34.facts (.atm (.s (.s (.s (.s (.s .z))))) .nil)).picks (.cons .z .nil)⟩ hF
   ·
    refine Run.exit rfl ?_
    refine Run.seq ?_
    refine Run.seq ?_
    refine Run.reg ?_
    refine op (OpS.as rfl rfl rfl ?_)
    refine RunL.nil ?_
    refine Run.slim [(8, .int .i64 0), (1, u1)] ⟨rfl, rfl, trivial⟩ ?_
    refine Run.block ?_
    refine Run.slim [(1, u1), (8, .int .i64 0)] ⟨rfl, rfl, trivial⟩ ?_
    refine Run.loopP (σ := Int) (fun s_ L_ w_ => L_ = [(1, u1), (8, .int .i64 s_)] ∧ St e w_ [] [(false, .box 29 Responder_.rep u1 a0)]) hF ⟨rfl, (h8.facts .nil).picks (.cons .z .nil)⟩ (fun k3 hk3 s5 _ w10 hI hF => ?_)
    obtain ⟨rfl, h35⟩ := hI
    refine Run.seq ?_
    refine Run.seq ?_
    refine Run.reg ?_
    refine op (OpS.mv rfl rfl rfl ?_)
    refine op (OpS.fbox (o3 := 2) h35 .z PA.z fa29_2 rfl rfl rfl rfl ?_)
    refine op (OpS.loadB h35 .z PA.a (Get.fld Responder_.f2) ty27 rfl rfl rfl (fun u7 h36 => ?_))
    refine op (OpS.len h36 Try.underlying27 rfl rfl rfl (V.at .z) ?_)
    refine op (OpS.bin rfl rfl rfl rfl rfl ?_)
    refine RunL.nil ?_
    refine Run.slim [(76, .bool (decide (s5 < (a0.Memory.length : Int)))), (1, u1), (8, .int .i64 s5)] ⟨rfl, rfl, rfl, trivial⟩ ?_
    refine Run.ite rfl hF (fun e17 hF => ?_) (fun e17 hF => ?_)
    ·
     refine Run.skip ?_
     refine Run.seq ?_
     refine Run.block ?_
     refine Run.seq ?_
     refine Run.reg ?_
     refine op (OpS.fbox (o3 := 2) h36 .z PA.z fa29_2 rfl rfl rfl rfl ?_)
     refine op (OpS.loadB h36 .z PA.a (Get.fld Responder_.f2) ty27 rfl rfl rfl (fun u8 h37 => ?_))
     refine op (OpS.mv rfl rfl rfl ?_)
     obtain ⟨x8, e18, hF⟩ := bindP_use hF
     refine op (OpS.iptr h37 Try.underlying27 ty72 rfl rfl rfl rfl (V.at .z) e18 (fun u9 h38 => ?_))
     refine op (OpS.fptr h38 fa72_1 Memory_.f1 rfl rfl rfl .z (fun u10 h39 => ?_))
     refine op (OpS.load h39 ty22 rfl rfl rfl .z (fun u11 h40 => ?_))
     obtain ⟨y4, e19, hF⟩ := bindP_use hF
     refine op (OpS.callP h40 Try.func56 rfl rfl rfl rfl (vs := [u11]) rfl (ref23_ParseResponse_ok e19) (.cons (f := false) (V.at .z) .nil) ?_)
     rintro _ w11 _ _ _ ⟨u12, rfl, rfl, rfl, rfl⟩ h41
     have h42 := h41 rfl rfl
     simp only [List.cons_append, List.nil_append] at h42
     refine op (OpS.mv rfl rfl rfl ?_)
     refine op (OpS.ext rfl rfl rfl rfl ?_)
     refine op (OpS.ext rfl rfl rfl rfl ?_)
     refine op (OpS.alloc h42 ti37 Message_.zr rfl rfl (fun u13 w12 h43 => ?_))
     refine op (OpS.storeB (f' := true) h43 .z PA.z Put.id ty37 rfl rfl rfl (V.at .z) (.inl rfl) (fun w13 h44 => ?_))
     refine op (OpS.as rfl rfl rfl ?_)
     refine RunL.nil ?_
     refine Run.slim [(10, .int .i64 y4.2), (9, u13), (1, u1), (8, .int .i64 s5)] ⟨rfl, rfl, rfl, rfl, trivial⟩ ?_
     refine Run.seq ?_
     refine Run.join (σ := Bool) (fun s_ L_ w_ => L_ = [(1, u1), (8, .int .i64 s5), (110, .bool s_)] ∧ St e w_ [] [(false, .box 29 Responder_.rep u1 a0)]) hF (fun s6 _ w14 hI hF => ?_) (fun j3 hj3 hF => ?_)
     ·
      obtain ⟨rfl, h45⟩ := hI
      refine Run.ite rfl hF (fun e20 hF => ?_) (fun e20 hF => ?_)
      ·
       refine Run.seq ?_
       refine Run.reg ?_
       refine op (OpS.as rfl rfl rfl ?_)
       refine RunL.nil ?_
       refine Run.slim [(2, .bool false)] ⟨rfl, trivial⟩ ?_
       refine Run.retP rfl (.tmp rfl .nil) ?_
       cases hF
       exact Post.mk' ⟨rfl, rfl, rfl, rfl⟩ (h45.picks .nil) .nil
      ·
       refine Run.skip ?_
       refine Run.endBlock ?_
       refine Run.reg ?_
       refine op (OpS.mv rfl rfl rfl ?_)
       refine op (OpS.bin rfl rfl rfl rfl rfl ?_)
       refine op (OpS.as rfl rfl rfl ?_)
       obtain ⟨x9, e21, hF⟩ := letP_use hF
       refine RunL.name e21 ?_
       refine RunL.nil ?_
       refine Run.slim [(8, .int .i64 x9), (1, u1)] ⟨rfl, rfl, trivial⟩ ?_
       refine Run.slim [(1, u1), (8, .int .i64 x9)] ⟨rfl, rfl, trivial⟩ ?_
       exact hk3 (x9) _ _ ⟨rfl, (h45.facts .nil).picks (.cons .z .nil)⟩ hF
     ·
      obtain ⟨x10, e22, hF⟩ := letP_use hF
      refine iteP_use hF (fun e23 hF => ?_) (fun e23 hF => ?_)
      ·
       have hG := hF
       subst e23
       have hF := hG
       refine Run.drawV (Ωs := []) [⟨some 89, some (.int .i64 y4.2), fun _ => [], fun ds_ u_ => [], [], [], none⟩, ⟨some 90, some (.bool (y4.2 != 0)), fun _ => [], fun ds_ u_ => [], [], [], none⟩, ⟨some 91, some (.bool true), fun _ => [], fun ds_ u_ => [], [], [], none⟩, ⟨some 92, some undef, fun _ => [], fun _ _ => [], [], [], none⟩, ⟨some 93, some undef, fun _ => [], fun _ _ => [], [], [], none⟩, ⟨some 94, some undef, fun _ => [], fun _ _ => [], [], [], none⟩, ⟨some 95, some undef, fun _ => [], fun _ _ => [], [], [], none⟩, ⟨some 96, some undef, fun _ => [], fun _ _ => [], [], [], none⟩, ⟨some 97, some undef, fun _ => [], fun _ _ => [], [], [], none⟩, ⟨some 98, some undef, fun _ => [], fun _ _ => [], [], [], none⟩, ⟨some 99, some (.bool true), fun _ => [], fun ds_ u_ => [], [], [], none⟩, ⟨some 100, some (.bool true), fun _ => [], fun ds_ u_ => [], [], [], none⟩, ⟨some 101, some undef, fun _ => [], fun _ _ => [], [], [], none⟩, ⟨some 102, some undef, fun _ => [], fun _ _ => [], [], [], none⟩, ⟨some 103, some undef, fun _ => [], fun _ _ => [], [], [], none⟩, ⟨some 104, some undef, fun _ => [], fun _ _ => [], [], [], none⟩, ⟨some 105, some undef, fun _ => [], fun _ _ => [], [], [], none⟩, ⟨some 106, some undef, fun _ => [], fun _ _ => [], [], [], none⟩, ⟨some 107, some undef, fun _ => [], fun _ _ => [], [], [], none⟩, ⟨some 108, some undef, fun _ => [], fun _ _ => [], [], [], none⟩, ⟨some 109, some undef, fun _ => [], fun _ _ => [], [], [], none⟩, ⟨some 110, some (.bool true), fun _ => [], fun ds_ u_ => [], [], [], none⟩] [[], [0], [1], [2], [2], [2], [2], [2], [2], [2], [2, 9], [10], [11], [11], [11], [11], [11], [11], [11], [11], [11], [11, 20]] [[(true, .box 37 Message_.rep u13 y4.1)], [(false, .box 29 Responder_.rep u1 a0)]] [0, 1, 2, 3, 4, 5, 6, 7, 8, 9, 10, 11, 12, 13, 14, 15, 16, 17, 18, 19, 20, 21, 22, 23] Try_mixed rfl rfl rfl h44 (.cons ?_ (.cons ?_ (.cons ?_ (.cons ?_ (.cons ?_ (.cons ?_ (.cons ?_ (.cons ?_ (.cons ?_ (.cons ?_ (.cons ?_ (.cons ?_ (.cons ?_ (.cons ?_ (.cons ?_ (.cons ?_ (.cons ?_ (.cons ?_ (.cons ?_ (.cons ?_ (.cons ?_ (.cons ?_ .nil)))))))))))))))))))))) (fun q3 w hq4 h => ?_)
       ·intro q3 w Γx Ωx h
        refine OpS.mv rfl rfl rfl ?_
        exact ⟨undef, rfl, trivial, h⟩
       ·intro q3 w Γx Ωx h
        refine OpS.bin rfl rfl rfl rfl rfl ?_
        exact ⟨undef, rfl, trivial, h⟩
       ·intro q3 w Γx Ωx h
        refine OpS.mv rfl rfl rfl ?_
        exact ⟨undef, (congrArg (fun z_ => some (Value.bool z_)) e22), trivial, h⟩
       ·intro q3 w Γx Ωx h
        exact OpS.pass rfl rfl rfl ⟨undef, rfl, trivial, h⟩
       ·intro q3 w Γx Ωx h
        exact OpS.pass rfl rfl rfl ⟨undef, rfl, trivial, h⟩
       ·intro q3 w Γx Ωx h
        exact OpS.pass rfl rfl rfl ⟨undef, rfl, trivial, h⟩
       ·intro q3 w Γx Ωx h
        exact OpS.pass rfl rfl rfl ⟨undef, rfl, trivial, h⟩
       ·intro q3 w Γx Ωx h
        exact OpS.pass rfl rfl rfl ⟨undef, rfl, trivial, h⟩
       ·intro q3 w Γx Ωx h
        exact OpS.pass rfl rfl rfl ⟨undef, rfl, trivial, h⟩
       ·intro q3 w Γx Ωx h
        exact OpS.pass rfl rfl rfl ⟨undef, rfl, trivial, h⟩
       ·intro q3 w Γx Ωx h
        refine OpS.pick rfl rfl rfl rfl ?_
        exact ⟨undef, rfl, trivial, h⟩
       ·intro q3 w Γx Ωx h
        refine OpS.mv rfl rfl rfl ?_
        exact ⟨undef, rfl, trivial, h⟩
       ·intro q3 w Γx Ωx h
        exact OpS.pass rfl rfl rfl ⟨undef, rfl, trivial, h⟩
       ·intro q3 w Γx Ωx h
        exact OpS.pass rfl rfl rfl ⟨undef, rfl, trivial, h⟩
       ·intro q3 w Γx Ωx h
        exact OpS.pass rfl rfl rfl ⟨undef, rfl, trivial, h⟩
       ·intro q3 w Γx Ωx h
        exact OpS.pass rfl rfl rfl ⟨undef, rfl, trivial, h⟩
       ·intro q3 w Γx Ωx h
        exact OpS.pass rfl rfl rfl ⟨undef, rfl, trivial, h⟩
       ·intro q3 w Γx Ωx h
        exact OpS.pass rfl rfl rfl ⟨undef, rfl, trivial, h⟩
       ·intro q3 w Γx Ωx h
        exact OpS.pass rfl rfl rfl ⟨undef, rfl, trivial, h⟩
       ·intro q3 w Γx Ωx h
        exact OpS.pass rfl rfl rfl ⟨undef, rfl, trivial, h⟩
       ·intro q3 w Γx Ωx h
        exact OpS.pass rfl rfl rfl ⟨undef, rfl, trivial, h⟩
       ·intro q3 w Γx Ωx h
        refine OpS.pick rfl rfl rfl rfl ?_
        exact ⟨undef, rfl, trivial, h⟩
       have h46 : St e w [(true, .val Message_.rep u12 y4.1), (false, .val (Rep.slice (Rep.int .u8)) u11 x8.Reply), (false, .ptr (Rep.slice (Rep.int .u8)) u10 x8.Reply), (false, .ptr Memory_.rep u9 x8), (false, .val (Rep.slice Memory_.rep) u8 a0.Memory), (false, .val (Rep.slice Memory_.rep) u7 a0.Memory)] [(true, .box 37 Message_.rep u13 y4.1), (false, .box 29 Responder_.rep u1 a0)] := h
       refine RunL.nil ?_
       refine Run.slim [(110, .bool true), (1, u1), (8, .int .i64 s5)] ⟨rfl, rfl, rfl, trivial⟩ ?_
       refine Run.slim [(1, u1), (8, .int .i64 s5), (110, .bool true)] ⟨rfl, rfl, rfl, trivial⟩ ?_
       exact hj3 (true) _ _ ⟨rfl, (h46.facts .nil).picks (.cons (.s .z) .nil)⟩ hF
      ·
       have hG := hF
       subst e23
       have hF := hG
       obtain ⟨x11, e24, hF⟩ := bindP_use hF
       obtain ⟨x12, e25, hF⟩ := letP_use hF
       refine iteP_use hF (fun e26 hF => ?_) (fun e26 hF => ?_)
       ·
        have hG := hF
        subst e26
        have hF := hG
        refine Run.drawV (Ωs := []) [⟨some 89, some (.int .i64 y4.2), fun _ => [], fun ds_ u_ => [], [], [], none⟩, ⟨some 90, some (.bool (y4.2 != 0)), fun _ => [], fun ds_ u_ => [], [], [], none⟩, ⟨some 91, some (.bool false), fun _ => [], fun ds_ u_ => [], [], [], none⟩, ⟨some 92, some ((padd u1 2)), fun _ => [], fun ds_ u_ => [], [], [(1, [])], none⟩, ⟨some 93, none, fun u_ => [(false, .val (Rep.slice Memory_.rep) u_ a0.Memory)], fun ds_ u_ => [], [], [(1, [])], none⟩, ⟨some 94, some (.int .i64 s5), fun _ => [], fun ds_ u_ => [], [], [], none⟩, ⟨some 95, none, fun u_ => [(false, .ptr Memory_.rep u_ x11)], fun ds_ u_ => [], [], [], none⟩, ⟨some 96, none, fun u_ => [(false, .ptr (Rep.int .i64) u_ x11.Until)], fun ds_ u_ => [], [], [], none⟩, ⟨some 97, some (.int .i64 x11.Until), fun _ => [], fun ds_ u_ => [], [], [], none⟩, ⟨some 98, some (.bool (decide (x11.Until < 0))), fun _ => [], fun ds_ u_ => [], [], [], none⟩, ⟨some 99, some (.bool (decide (x11.Until < 0))), fun _ => [], fun ds_ u_ => [], [], [], none⟩, ⟨some 100, some (.bool true), fun _ => [], fun ds_ u_ => [], [], [], none⟩, ⟨some 101, some undef, fun _ => [], fun _ _ => [], [], [], none⟩, ⟨some 102, some undef, fun _ => [], fun _ _ => [], [], [], none⟩, ⟨some 103, some undef, fun _ => [], fun _ _ => [], [], [], none⟩, ⟨some 104, some undef, fun _ => [], fun _ _ => [], [], [], none⟩, ⟨some 105, some undef, fun _ => [], fun _ _ => [], [], [], none⟩, ⟨some 106, some undef, fun _ => [], fun _ _ => [], [], [], none⟩, ⟨some 107, some undef, fun _ => [], fun _ _ => [], [], [], none⟩, ⟨some 108, some undef, fun _ => [], fun _ _ => [], [], [], none⟩, ⟨some 109, some undef, fun _ => [], fun _ _ => [], [], [], none⟩, ⟨some 110, some (.bool true), fun _ => [], fun ds_ u_ => [], [], [], none⟩] [[], [0], [1], [2], [3, 2], [2], [4, 5, 2], [6, 2], [7, 2], [8, 2], [2, 9], [10], [11], [11], [11], [11], [11], [11], [11], [11], [11], [11, 20]] [[(true, .box 37 Message_.rep u13 y4.1)], [(false, .box 29 Responder_.rep u1 a0)]] [0, 1, 2, 3, 4, 5, 6, 7, 8, 9, 10, 11, 12, 13, 14, 15, 16, 17, 18, 19, 20, 21, 22, 23] Try_mixed rfl rfl rfl h44 (.cons ?_ (.cons ?_ (.cons ?_ (.cons ?_ (.cons ?_ (.cons ?_ (.cons ?_ (.cons ?_ (.cons ?_ (.cons ?_ (.cons ?_ (.cons ?_ (.cons ?_ (.cons ?_ (.cons ?_ (.cons ?_ (.cons ?_ (.cons ?_ (.cons ?_ (.cons ?_ (.cons ?_ (.cons ?_ .nil)))))))))))))))))))))) (fun q3 w hq5 h => ?_)
        ·intro q3 w Γx Ωx h
         refine OpS.mv rfl rfl rfl ?_
         exact ⟨undef, rfl, trivial, h⟩
        ·intro q3 w Γx Ωx h
         refine OpS.bin rfl rfl rfl rfl rfl ?_
         exact ⟨undef, rfl, trivial, h⟩
        ·intro q3 w Γx Ωx h
         refine OpS.mv rfl rfl rfl ?_
         exact ⟨undef, (congrArg (fun z_ => some (Value.bool z_)) e22), trivial, h⟩
        ·intro q3 w Γx Ωx h
         have h : St e w ([(true, .val Message_.rep u12 y4.1), (false, .val (Rep.slice (Rep.int .u8)) u11 x8.Reply), (false, .ptr (Rep.slice (Rep.int .u8)) u10 x8.Reply), (false, .ptr Memory_.rep u9 x8), (false, .val (Rep.slice Memory_.rep) u8 a0.Memory), (false, .val (Rep.slice Memory_.rep) u7 a0.Memory)] ++ Γx) ([(false, .box 29 Responder_.rep u1 a0)] ++ Ωx) := h
         refine OpS.fbox (o3 := 2) h .z PA.z fa29_2 rfl rfl rfl rfl ?_
         exact ⟨undef, rfl, trivial, h⟩
        ·intro q3 w Γx Ωx h
         have h : St e w ([(true, .val Message_.rep u12 y4.1), (false, .val (Rep.slice (Rep.int .u8)) u11 x8.Reply), (false, .ptr (Rep.slice (Rep.int .u8)) u10 x8.Reply), (false, .ptr Memory_.rep u9 x8), (false, .val (Rep.slice Memory_.rep) u8 a0.Memory), (false, .val (Rep.slice Memory_.rep) u7 a0.Memory)] ++ Γx) ([(false, .box 29 Responder_.rep u1 a0)] ++ Ωx) := h
         refine OpS.loadB h .z PA.a (Get.fld Responder_.f2) ty27 rfl rfl rfl (fun u h50 => ?_)
         exact ⟨u, rfl, trivial, h50⟩
        ·intro q3 w Γx Ωx h
         refine OpS.mv rfl rfl rfl ?_
         exact ⟨undef, rfl, trivial, h⟩
        ·intro q3 w Γx Ωx h
         refine OpS.iptr h Try.underlying27 ty72 rfl rfl rfl rfl (V.at .z) e24 (fun u h51 => ?_)
         exact ⟨u, rfl, trivial, h51⟩
        ·intro q3 w Γx Ωx h
         refine OpS.fptr h fa72_2 Memory_.f2 rfl rfl rfl .z (fun u h52 => ?_)
         exact ⟨u, rfl, trivial, h52⟩
        ·intro q3 w Γx Ωx h
         refine OpS.loadi h ty2 rfl rfl rfl .z ?_
         exact ⟨undef, rfl, trivial, h⟩
        ·intro q3 w Γx Ωx h
         refine OpS.bin rfl rfl rfl rfl rfl ?_
         exact ⟨undef, rfl, trivial, h⟩
        ·intro q3 w Γx Ωx h
         refine OpS.pick rfl rfl rfl rfl ?_
         exact ⟨undef, rfl, trivial, h⟩
        ·intro q3 w Γx Ωx h
         refine OpS.mv rfl rfl rfl ?_
         exact ⟨undef, (congrArg (fun z_ => some (Value.bool z_)) e25), trivial, h⟩
        ·intro q3 w Γx Ωx h
         exact OpS.pass rfl rfl rfl ⟨undef, rfl, trivial, h⟩
        ·intro q3 w Γx Ωx h
         exact OpS.pass rfl rfl rfl ⟨undef, rfl, trivial, h⟩
        ·intro q3 w Γx Ωx h
         exact OpS.pass rfl rfl rfl ⟨undef, rfl, trivial, h⟩
        ·intro q3 w Γx Ωx h
         exact OpS.pass rfl rfl rfl ⟨undef, rfl, trivial, h⟩
        ·intro q3 w Γx Ωx h
         exact OpS.pass rfl rfl rfl ⟨undef, rfl, trivial, h⟩
        ·intro q3 w Γx Ωx h
         exact OpS.pass rfl rfl rfl ⟨undef, rfl, trivial, h⟩
        ·intro q3 w Γx Ωx h
         exact OpS.pass rfl rfl rfl ⟨undef, rfl, trivial, h⟩
        ·intro q3 w Γx Ωx h
         exact OpS.pass rfl rfl rfl ⟨undef, rfl, trivial, h⟩
        ·intro q3 w Γx Ωx h
         exact OpS.pass rfl rfl rfl ⟨undef, rfl, trivial, h⟩
        ·intro q3 w Γx Ωx h
         refine OpS.pick rfl rfl rfl rfl ?_
         exact ⟨undef, rfl, trivial, h⟩
        have h53 : St e w [(false, .val (Rep.slice Memory_.rep) (q3 4) a0.Memory), (false, .ptr Memory_.rep (q3 6) x11), (false, .ptr (Rep.int .i64) (q3 7) x11.Until), (true, .val Message_.rep u12 y4.1), (false, .val (Rep.slice (Rep.int .u8)) u11 x8.Reply), (false, .ptr (Rep.slice (Rep.int .u8)) u10 x8.Reply), (false, .ptr Memory_.rep u9 x8), (false, .val (Rep.slice Memory_.rep) u8 a0.Memory), (false, .val (Rep.slice Memory_.rep) u7 a0.Memory)] [(true, .box 37 Message_.rep u13 y4.1), (false, .box 29 Responder_.rep u1 a0)] := h
        refine RunL.nil ?_
        refine Run.slim [(110, .bool true), (1, u1), (8, .int .i64 s5)] ⟨rfl, rfl, rfl, trivial⟩ ?_
        refine Run.slim [(1, u1), (8, .int .i64 s5), (110, .bool true)] ⟨rfl, rfl, rfl, trivial⟩ ?_
        exact hj3 (true) _ _ ⟨rfl, (h53.facts .nil).picks (.cons (.s .z) .nil)⟩ hF
       ·
        have hG := hF
        subst e26
        have hF := hG
        obtain ⟨x13, e27, hF⟩ := bindP_use hF
        obtain ⟨y5, e28, hF⟩ := bindP_use hF
        refine Run.drawV (Ωs := []) [⟨some 89, some (.int .i64 y4.2), fun _ => [], fun ds_ u_ => [], [], [], none⟩, ⟨some 90, some (.bool (y4.2 != 0)), fun _ => [], fun ds_ u_ => [], [], [], none⟩, ⟨some 91, some (.bool false), fun _ => [], fun ds_ u_ => [], [], [], none⟩, ⟨some 92, some ((padd u1 2)), fun _ => [], fun ds_ u_ => [], [], [(1, [])], none⟩, ⟨some 93, none, fun u_ => [(false, .val (Rep.slice Memory_.rep) u_ a0.Memory)], fun ds_ u_ => [], [], [(1, [])], none⟩, ⟨some 94, some (.int .i64 s5), fun _ => [], fun ds_ u_ => [], [], [], none⟩, ⟨some 95, none, fun u_ => [(false, .ptr Memory_.rep u_ x11)], fun ds_ u_ => [], [], [], none⟩, ⟨some 96, none, fun u_ => [(false, .ptr (Rep.int .i64) u_ x11.Until)], fun ds_ u_ => [], [], [], none⟩, ⟨some 97, some (.int .i64 x11.Until), fun _ => [], fun ds_ u_ => [], [], [], none⟩, ⟨some 98, some (.bool (decide (x11.Until < 0))), fun _ => [], fun ds_ u_ => [], [], [], none⟩, ⟨some 99, some (.bool (decide (x11.Until < 0))), fun _ => [], fun ds_ u_ => [], [], [], none⟩, ⟨some 100, some (.bool false), fun _ => [], fun ds_ u_ => [], [], [], none⟩, ⟨some 101, some ((padd u1 2)), fun _ => [], fun ds_ u_ => [], [], [(1, [])], none⟩, ⟨some 102, none, fun u_ => [(false, .val (Rep.slice Memory_.rep) u_ a0.Memory)], fun ds_ u_ => [], [], [(1, [])], none⟩, ⟨some 103, some (.int .i64 s5), fun _ => [], fun ds_ u_ => [], [], [], none⟩, ⟨some 104, none, fun u_ => [(false, .ptr Memory_.rep u_ x13)], fun ds_ u_ => [], [], [], none⟩, ⟨some 105, none, fun u_ => [(false, .ptr Message_.rep u_ x13.Request)], fun ds_ u_ => [], [], [], none⟩, ⟨some 106, none, fun u_ => [(false, .val Message_.rep u_ x13.Request)], fun ds_ u_ => [], [], [], none⟩, ⟨some 107, none, fun u_ => [(true, .val Message_.rep u_ y4.1)], fun ds_ u_ => [], [], [(0, [])], none⟩, ⟨some 108, some (.bool y5), fun _ => [], fun ds_ u_ => [], [], [], none⟩, ⟨some 109, some (.bool (!y5)), fun _ => [], fun ds_ u_ => [], [], [], none⟩, ⟨some 110, some (.bool (!y5)), fun _ => [], fun ds_ u_ => [], [], [], none⟩] [[], [0], [1], [2], [3, 2], [2], [4, 5, 2], [6, 2], [7, 2], [8, 2], [2, 9], [10], [11], [12, 11], [11], [13, 14, 11], [15, 11], [16, 11], [11], [17, 18, 11], [19, 11], [11, 20]] [[(true, .box 37 Message_.rep u13 y4.1)], [(false, .box 29 Responder_.rep u1 a0)]] [0, 1, 2, 3, 4, 5, 6, 7, 8, 9, 10, 11, 12, 13, 14, 15, 16, 17, 18, 19, 20, 21, 22, 23] Try_mixed rfl rfl rfl h44 (.cons ?_ (.cons ?_ (.cons ?_ (.cons ?_ (.cons ?_ (.cons ?_ (.cons ?_ (.cons ?_ (.cons ?_ (.cons ?_ (.cons ?_ (.cons ?_ (.cons ?_ (.cons ?_ (.cons ?_ (.cons ?_ (.cons ?_ (.cons ?_ (.cons ?_ (.cons ?_ (.cons ?_ (.cons ?_ .nil)))))))))))))))))))))) (fun q3 w hq6 h => ?_)
        ·intro q3 w Γx Ωx h
         refine OpS.mv rfl rfl rfl ?_
         exact ⟨undef, rfl, trivial, h⟩
        ·intro q3 w Γx Ωx h
         refine OpS.bin rfl rfl rfl rfl rfl ?_
         exact ⟨undef, rfl, trivial, h⟩
        ·intro q3 w Γx Ωx h
         refine OpS.mv rfl rfl rfl ?_
         exact ⟨undef, (congrArg (fun z_ => some (Value.bool z_)) e22), trivial, h⟩
        ·intro q3 w Γx Ωx h
         have h : St e w ([(true, .val Message_.rep u12 y4.1), (false, .val (Rep.slice (Rep.int .u8)) u11 x8.Reply), (false, .ptr (Rep.slice (Rep.int .u8)) u10 x8.Reply), (false, .ptr Memory_.rep u9 x8), (false, .val (Rep.slice Memory_.rep) u8 a0.Memory), (false, .val (Rep.slice Memory_.rep) u7 a0.Memory)] ++ Γx) ([(false, .box 29 Responder_.rep u1 a0)] ++ Ωx) := h
         refine OpS.fbox (o3 := 2) h .z PA.z fa29_2 rfl rfl rfl rfl ?_
         exact ⟨undef, rfl, trivial, h⟩
        ·intro q3 w Γx Ωx h
         have h : St e w ([(true, .val Message_.rep u12 y4.1), (false, .val (Rep.slice (Rep.int .u8)) u11 x8.Reply), (false, .ptr (Rep.slice (Rep.int .u8)) u10 x8.Reply), (false, .ptr Memory_.rep u9 x8), (false, .val (Rep.slice Memory_.rep) u8 a0.Memory), (false, .val (Rep.slice Memory_.rep) u7 a0.Memory)] ++ Γx) ([(false, .box 29 Responder_.rep u1 a0)] ++ Ωx) := h
         refine OpS.loadB h .z PA.a (Get.fld Responder_.f2) ty27 rfl rfl rfl (fun u h61 => ?_)
         exact ⟨u, rfl, trivial, h61⟩
        ·intro q3 w Γx Ωx h
         refine OpS.mv rfl rfl rfl ?_
         exact ⟨undef, rfl, trivial, h⟩
        ·intro q3 w Γx Ωx h
         refine OpS.iptr h Try.underlying27 ty72 rfl rfl rfl rfl (V.at .z) e24 (fun u h62 => ?_)
         exact ⟨u, rfl, trivial, h62⟩
        ·intro q3 w Γx Ωx h
         refine OpS.fptr h fa72_2 Memory_.f2 rfl rfl rfl .z (fun u h63 => ?_)
         exact ⟨u, rfl, trivial, h63⟩
        ·intro q3 w Γx Ωx h
         refine OpS.loadi h ty2 rfl rfl rfl .z ?_
         exact ⟨undef, rfl, trivial, h⟩
        ·intro q3 w Γx Ωx h
         refine OpS.bin rfl rfl rfl rfl rfl ?_
         exact ⟨undef, rfl, trivial, h⟩
        ·intro q3 w Γx Ωx h
         refine OpS.pick rfl rfl rfl rfl ?_
         exact ⟨undef, rfl, trivial, h⟩
        ·intro q3 w Γx Ωx h
         refine OpS.mv rfl rfl rfl ?_
         exact ⟨undef, (congrArg (fun z_ => some (Value.bool z_)) e25), trivial, h⟩
        ·intro q3 w Γx Ωx h
         have h : St e w ([(true, .val Message_.rep u12 y4.1), (false, .val (Rep.slice (Rep.int .u8)) u11 x8.Reply), (false, .ptr (Rep.slice (Rep.int .u8)) u10 x8.Reply), (false, .ptr Memory_.rep u9 x8), (false, .val (Rep.slice Memory_.rep) u8 a0.Memory), (false, .val (Rep.slice Memory_.rep) u7 a0.Memory)] ++ Γx) ([(false, .box 29 Responder_.rep u1 a0)] ++ Ωx) := h
         refine OpS.fbox (o3 := 2) h .z PA.z fa29_2 rfl rfl rfl rfl ?_
         exact ⟨undef, rfl, trivial, h⟩
        ·intro q3 w Γx Ωx h
         have h : St e w ([(true, .val Message_.rep u12 y4.1), (false, .val (Rep.slice (Rep.int .u8)) u11 x8.Reply), (false, .ptr (Rep.slice (Rep.int .u8)) u10 x8.Reply), (false, .ptr Memory_.rep u9 x8), (false, .val (Rep.slice Memory_.rep) u8 a0.Memory), (false, .val (Rep.slice Memory_.rep) u7 a0.Memory)] ++ Γx) ([(false, .box 29 Responder_.rep u1 a0)] ++ Ωx) := h
         refine OpS.loadB h .z PA.a (Get.fld Responder_.f2) ty27 rfl rfl rfl (fun u h64 => ?_)
         exact ⟨u, rfl, trivial, h64⟩
        ·intro q3 w Γx Ωx h
         refine OpS.mv rfl rfl rfl ?_
         exact ⟨undef, rfl, trivial, h⟩
        ·intro q3 w Γx Ωx h
         refine OpS.iptr h Try.underlying27 ty72 rfl rfl rfl rfl (V.at .z) e27 (fun u h65 => ?_)
         exact ⟨u, rfl, trivial, h65⟩
        ·intro q3 w Γx Ωx h
         refine OpS.fptr h fa72_0 Memory_.f0 rfl rfl rfl .z (fun u h66 => ?_)
         exact ⟨u, rfl, trivial, h66⟩
        ·intro q3 w Γx Ωx h
         refine OpS.load h ty37 rfl rfl rfl .z (fun u h67 => ?_)
         exact ⟨u, rfl, trivial, h67⟩
        ·intro q3 w Γx Ωx h
         have h : St e w ([(true, .val Message_.rep u12 y4.1), (false, .val (Rep.slice (Rep.int .u8)) u11 x8.Reply), (false, .ptr (Rep.slice (Rep.int .u8)) u10 x8.Reply), (false, .ptr Memory_.rep u9 x8), (false, .val (Rep.slice Memory_.rep) u8 a0.Memory), (false, .val (Rep.slice Memory_.rep) u7 a0.Memory)] ++ Γx) ([(true, .box 37 Message_.rep u13 y4.1)] ++ Ωx) := h
         refine OpS.loadB h .z PA.z Get.id ty37 rfl rfl rfl (fun u h68 => ?_)
         exact ⟨u, rfl, trivial, h68⟩
        ·intro q3 w Γx Ωx h
         refine OpS.callP h Try.func57 rfl rfl rfl rfl (vs := [(q3 17), (q3 18)]) rfl (ref23_Matches_ok e28) (.cons (f := false) (V.at .z) (.cons (f := true) (V.at (.s .z)) .nil)) ?_
         rintro _ w16 _ _ _ ⟨rfl, rfl, rfl, rfl⟩ h69
         have h70 := h69 rfl rfl
         simp only [List.cons_append, List.nil_append] at h70
         exact ⟨undef, rfl, trivial, h70⟩
        ·intro q3 w Γx Ωx h
         refine OpS.not rfl rfl rfl ?_
         exact ⟨undef, rfl, trivial, h⟩
        ·intro q3 w Γx Ωx h
         refine OpS.pick rfl rfl rfl rfl ?_
         exact ⟨undef, rfl, trivial, h⟩
        have h71 : St e w [(false, .val (Rep.slice Memory_.rep) (q3 4) a0.Memory), (false, .ptr Memory_.rep (q3 6) x11), (false, .ptr (Rep.int .i64) (q3 7) x11.Until), (false, .val (Rep.slice Memory_.rep) (q3 13) a0.Memory), (false, .ptr Memory_.rep (q3 15) x13), (false, .ptr Message_.rep (q3 16) x13.Request), (false, .val Message_.rep (q3 17) x13.Request), (true, .val Message_.rep (q3 18) y4.1), (true, .val Message_.rep u12 y4.1), (false, .val (Rep.slice (Rep.int .u8)) u11 x8.Reply), (false, .ptr (Rep.slice (Rep.int .u8)) u10 x8.Reply), (false, .ptr Memory_.rep u9 x8), (false, .val (Rep.slice Memory_.rep) u8 a0.Memory), (false, .val (Rep.slice Memory_.rep) u7 a0.Memory)] [(true, .box 37 Message_.rep u13 y4.1), (false, .box 29 Responder_.rep u1 a0)] := h
        refine RunL.nil ?_
        refine Run.slim [(110, .bool (!y5)), (1, u1), (8, .int .i64 s5)] ⟨rfl, rfl, rfl, trivial⟩ ?_
        refine Run.slim [(1, u1), (8, .int .i64 s5), (110, .bool (!y5))] ⟨rfl, rfl, rfl, trivial⟩ ?_
        exact hj3 (!y5) _ _ ⟨rfl, (h71.facts .nil).picks (.cons (.s .z) .nil)⟩ hF
    ·
     refine Run.exit rfl ?_
     refine Run.seq ?_
     refine Run.reg ?_
     refine op (OpS.as rfl rfl rfl ?_)
     refine RunL.nil ?_
     refine Run.slim [(2, .bool true)] ⟨rfl, trivial⟩ ?_
     refine Run.retP rfl (.tmp rfl .nil) ?_
     cases hF
     exact Post.mk' ⟨rfl, rfl, rfl, rfl⟩ (h36.picks .nil) .nil
 ·
  refine RunL.caseb hF (fun e29 hF => ?_) (fun e29 hF => ?_)
  ·
   refine op (OpS.pass rfl rfl rfl ?_)
   refine op (OpS.pass rfl rfl rfl ?_)
   refine op (OpS.pass rfl rfl rfl ?_)
   refine op (OpS.pick rfl rfl rfl rfl ?_)
   refine op (OpS.mv rfl rfl rfl ?_)
   refine op (OpS.pass rfl rfl rfl ?_)
   refine op (OpS.pass rfl rfl rfl ?_)
   refine op (OpS.pass rfl rfl rfl ?_)
   refine op (OpS.pass rfl rfl rfl ?_)
   refine op (OpS.pick rfl rfl rfl rfl ?_)
   refine op (OpS.mv rfl rfl rfl ?_)
   refine op (OpS.pass rfl rfl rfl ?_)
   refine op (OpS.pass rfl rfl rfl ?_)
   refine op (OpS.pass rfl rfl rfl ?_)
   refine op (OpS.pick rfl rfl rfl rfl ?_)
   refine RunL.nil ?_
   refine Run.slim [(31, .bool true), (3, u3), (1, u1)] ⟨rfl, rfl, rfl, trivial⟩ ?_
   refine Run.slim [(1, u1), (3, u3), (31, .bool true)] ⟨rfl, rfl, rfl, trivial⟩ ?_
   exact hj1 (true) _ _ ⟨rfl, (h6.facts (.atm .z .nil)).picks (.cons .z .nil)⟩ hF
  ·
   refine op (OpS.fbox (o3 := 0) h6 .z PA.z fa29_0 rfl rfl rfl rfl ?_)
   refine op (OpS.loadBi h6 .z PA.a (Get.fld Responder_.f0) ty5 rfl rfl rfl ?_)
   refine op (OpS.bin rfl rfl rfl rfl rfl ?_)
   refine op (OpS.pick rfl rfl rfl rfl ?_)
   refine op (OpS.mv rfl rfl rfl ?_)
   refine RunL.caseb hF (fun e30 hF => ?_) (fun e30 hF => ?_)
   ·
    refine op (OpS.pass rfl rfl rfl ?_)
    refine op (OpS.pass rfl rfl rfl ?_)
    refine op (OpS.pass rfl rfl rfl ?_)
    refine op (OpS.pass rfl rfl rfl ?_)
    refine op (OpS.pick rfl rfl rfl rfl ?_)
    refine op (OpS.mv rfl rfl rfl ?_)
    refine op (OpS.pass rfl rfl rfl ?_)
    refine op (OpS.pass rfl rfl rfl ?_)
    refine op (OpS.pass rfl rfl rfl ?_)
    refine op (OpS.pick rfl rfl rfl rfl ?_)
    refine RunL.nil ?_
    refine Run.slim [(31, .bool true), (3, u3), (1, u1)] ⟨rfl, rfl, rfl, trivial⟩ ?_
    refine Run.slim [(1, u1), (3, u3), (31, .bool true)] ⟨rfl, rfl, rfl, trivial⟩ ?_
    exact hj1 (true) _ _ ⟨rfl, (h6.facts (.atm .z .nil)).picks (.cons .z .nil)⟩ hF
   ·
    refine op (OpS.fbox (o3 := 1) h6 .z PA.z fa29_1 rfl rfl rfl rfl ?_)
    refine op (OpS.loadB h6 .z PA.a (Get.fld Responder_.f1) ty26 rfl rfl rfl (fun u14 h72 => ?_))
    refine op (OpS.len h72 Try.underlying26 rfl rfl rfl (V.at .z) ?_)
    refine op (OpS.bin rfl rfl rfl rfl rfl ?_)
    refine op (OpS.pick rfl rfl rfl rfl ?_)
    refine op (OpS.mv rfl rfl rfl ?_)
    refine RunL.caseb hF (fun e31 hF => ?_) (fun e31 hF => ?_)
    ·
     refine op (OpS.pass rfl rfl rfl ?_)
     refine op (OpS.pass rfl rfl rfl ?_)
     refine op (OpS.pass rfl rfl rfl ?_)
     refine op (OpS.pick rfl rfl rfl rfl ?_)
     refine RunL.nil ?_
     refine Run.slim [(31, .bool true), (3, u3), (1, u1)] ⟨rfl, rfl, rfl, trivial⟩ ?_
     refine Run.slim [(1, u1), (3, u3), (31, .bool true)] ⟨rfl, rfl, rfl, trivial⟩ ?_
     exact hj1 (true) _ _ ⟨rfl, (h72.facts (.atm (.s .z) .nil)).picks (.cons .z .nil)⟩ hF
    ·
     refine op (OpS.mv rfl rfl rfl ?_)
     refine op (OpS.len h72 Try.underlying26 rfl rfl rfl (V.at (.s .z)) ?_)
     refine op (OpS.bin rfl rfl rfl rfl rfl ?_)
     refine op (OpS.pick rfl rfl rfl rfl ?_)
     refine RunL.nil ?_
     refine Run.slim [(31, .bool (decide ((y1.length : Int) > 16))), (3, u3), (1, u1)] ⟨rfl, rfl, rfl, trivial⟩ ?_
     refine Run.slim [(1, u1), (3, u3), (31, .bool (decide ((y1.length : Int) > 16)))] ⟨rfl, rfl, rfl, trivial⟩ ?_
     exact hj1 (decide ((y1.length : Int) > 16)) _ _ ⟨rfl, (h72.facts (.atm (.s .z) .nil)).picks (.cons .z .nil)⟩ hF
theorem ref24_Time_ok {fuel : Nat} {a0 : Int} {y : Bool} (hF : ref24_Time fuel a0 = some y) {w : World} :
  Spec Try.prog 58 [.int .i64 a0].toArray w [] [] (fun v Γr Ωr Ωo => v = .bool y ∧ Γr = [] ∧ Ωr = [] ∧ Ωo = []) := by
 refine Spec.of (L := [(0, .int .i64 a0)]) Try.func58 rfl ⟨rfl, trivial⟩ rfl (fun e h => ?_)
 unfold ref24_Time at hF
 refine Run.seq ?_
 refine Run.reg ?_
 refine op (OpS.as rfl rfl rfl ?_)
 refine RunL.nil ?_
 refine Run.slim [(0, .int .i64 a0)] ⟨rfl, trivial⟩ ?_
 refine Run.seq ?_
 refine Run.reg ?_
 refine op (OpS.mv rfl rfl rfl ?_)
 refine op (OpS.bin rfl rfl rfl rfl rfl ?_)
 refine op (OpS.mv rfl rfl rfl ?_)
 refine RunL.caseb hF (fun e1 hF => ?_) (fun e1 hF => ?_)
 ·
  refine op (OpS.mv rfl rfl rfl ?_)
  refine op (OpS.bin rfl rfl rfl rfl rfl ?_)
  refine op (OpS.pick rfl rfl rfl rfl ?_)
  refine op (OpS.as rfl rfl rfl ?_)
  obtain ⟨x1, e2, hF⟩ := letP_use hF
  refine RunL.nameb e2 ?_
  refine RunL.nil ?_
  refine Run.slim [(2, .bool x1)] ⟨rfl, trivial⟩ ?_
  refine Run.retP rfl (.tmp rfl .nil) ?_
  cases hF
  exact Post.mk' ⟨rfl, rfl, rfl, rfl⟩ (h.picks .nil) .nil
 ·
  refine op (OpS.pass rfl rfl rfl ?_)
  refine op (OpS.pass rfl rfl rfl ?_)
  refine op (OpS.pick rfl rfl rfl rfl ?_)
  refine op (OpS.as rfl rfl rfl ?_)
  refine RunL.nil ?_
  refine Run.slim [(2, .bool false)] ⟨rfl, trivial⟩ ?_
  refine Run.retP rfl (.tmp rfl .nil) ?_
  cases hF
  exact Post.mk' ⟨rfl, rfl, rfl, rfl⟩ (h.picks .nil) .nil
theorem ref23_ParseRequest_ok {fuel : Nat} {a0 : List Int} {y : Message_ × Int} (hF : ref23_ParseRequest fuel a0 = some y) {w : World} {v0 : Value} :
  Spec Try.prog 59 [v0].toArray w [(false, .val (Rep.slice (Rep.int .u8)) v0 a0)] [] (fun v Γr Ωr Ωo => ∃ u0 : Value, v = .tuple #[u0, .int .i64 y.2] ∧ Γr = [(true, .val Message_.rep u0 y.1)] ∧ Ωr = [] ∧ Ωo = []) := by
 refine Spec.of (L := [(0, v0)]) Try.func59 rfl ⟨rfl, trivial⟩ rfl (fun e h => ?_)
 unfold ref23_ParseRequest at hF
 refine Run.seq ?_
 refine Run.reg ?_
 refine op (OpS.alloc h ti37 Message_.zr rfl rfl (fun u1 w1 h1 => ?_))
 refine op (OpS.as rfl rfl rfl ?_)
 refine RunL.nil ?_
 refine Run.slim [(2, u1), (0, v0)] ⟨rfl, rfl, trivial⟩ ?_
 refine Run.seq ?_
 refine Run.reg ?_
 refine op (OpS.mv rfl rfl rfl ?_)
 obtain ⟨y1, e1, hF⟩ := bindP_use hF
 refine op (OpS.callP h1 Try.func71 rfl rfl rfl rfl (vs := [v0, .int .i64 0]) rfl (ref23_parse_ok e1) (.cons (f := false) (V.at .z) .nil) ?_)
 rintro _ w2 _ _ _ ⟨u2, rfl, rfl, rfl, rfl⟩ h2
 have h3 := h2 rfl rfl
 simp only [List.cons_append, List.nil_append] at h3
 refine op (OpS.ext rfl rfl rfl rfl ?_)
 refine op (OpS.ext rfl rfl rfl rfl ?_)
 refine op (OpS.storeB (f' := true) h3 .z PA.z Put.id ty37 rfl rfl rfl (V.at .z) (.inl rfl) (fun w3 h4 => ?_))
 refine op (OpS.as rfl rfl rfl ?_)
 refine RunL.nil ?_
 refine Run.slim [(3, .int .i64 y1.2), (2, u1)] ⟨rfl, rfl, trivial⟩ ?_
 obtain ⟨u3, hu1, h5⟩ := res_box h4 .z ty37
 refine Run.retP rfl (.cell rfl hu1 (.tmp rfl .nil)) ?_
 cases hF
 exact Post.mk' ⟨u3, rfl, rfl, rfl, rfl⟩ (h5.picks .nil) (.val (V.at .z) .nil)
set_option maxHeartbeats 8000000 in
theorem ref25_Fresh_ok {fuel : Nat} {a0 : Responder_} {a1 : Int} {y : Responder_} (hF : ref25_Fresh fuel a0 a1 = some y) {w : World} {v0 : Value} :
  Spec Try.prog 52 [v0, .int .i64 a1].toArray w [(false, .val Responder_.rep v0 a0)] [] (fun v Γr Ωr Ωo => ∃ u0 u0_0 u0_1 : Value, v = u0 ∧ Γr = [(false, .val (Rep.iso (fun s : Responder_ => (s.Own, s.Queue, s.Memory, ())) (Rep.prod (Rep.int .u8) (Rep.prod (Rep.raw u0_0) (Rep.prod (Rep.raw u0_1) Rep.unit)))) u0 y)] ∧ Ωr = [(false, .slice 37 Message_.rep u0_0 y.Queue), (false, .slice 72 Memory_.rep u0_1 y.Memory)] ∧ Ωo = []) := by
 refine Spec.of (L := [(0, v0), (1, .int .i64 a1)]) Try.func52 rfl ⟨rfl, rfl, trivial⟩ rfl (fun e h => ?_)
 unfold ref25_Fresh at hF
 refine Run.seq ?_
 refine Run.reg ?_
 refine op (OpS.boxF h rfl rfl rfl (V.at .z) (fun u1 w1 h1 => ?_))
 refine op (OpS.alloc h1 ti29 Responder_.zr rfl rfl (fun u2 w2 h2 => ?_))
 refine RunL.nil ?_
 refine Run.slim [(4, u2), (2, u1), (1, .int .i64 a1)] ⟨rfl, rfl, rfl, trivial⟩ ?_
 refine Run.seq ?_
 refine Run.reg ?_
 refine op (OpS.fbox (o3 := 0) h2 (.s .z) PA.z fa29_0 rfl rfl rfl rfl ?_)
 refine op (OpS.loadBi h2 (.s .z) PA.a (Get.fld Responder_.f0) ty5 rfl rfl rfl ?_)
 have h3 := St.nil 37 Message_.rep h2
 have h4 := St.nil 72 Memory_.rep h3
 refine op (OpS.build (r := (Rep.iso (fun s : Responder_ => (s.Own, s.Queue, s.Memory, ())) (Rep.prod (Rep.int .u8) (Rep.prod (Rep.raw (.slice none 0 0)) (Rep.prod (Rep.raw (.slice none 0 0)) Rep.unit))))) (f := true) (x' := (⟨a0.Own, [], []⟩ : Responder_)) h4 pl29 ti29 (Zr.iso (y := Responder_.z) _ (Zr.of (Zr.prod (Zr.int .u8 0) (Zr.prod (Zr.raw rfl _) (Zr.prod (Zr.raw rfl _) Zr.unit))) (by rfl))) rfl rfl rfl (.cons rfl (Fld.iso (g' := Responder_.Own) (st' := fun s y => { s with Own := y }) (fun s : Responder_ => (s.Own, s.Queue, s.Memory, ())) Fld.here (fun _ => rfl) (fun _ _ => rfl)) rfl V.int .nil) (fun u3 h5 => ?_))
 have h6 := St.nil 37 Message_.rep h5
 have h7 := St.nil 72 Memory_.rep h6
 refine op (OpS.alloc (r := (Rep.iso (fun s : Responder_ => (s.Own, s.Queue, s.Memory, ())) (Rep.prod (Rep.int .u8) (Rep.prod (Rep.raw (.slice none 0 0)) (Rep.prod (Rep.raw (.slice none 0 0)) Rep.unit))))) h7 ti29 (Zr.iso (y := Responder_.z) _ (Zr.of (Zr.prod (Zr.int .u8 0) (Zr.prod (Zr.raw rfl _) (Zr.prod (Zr.raw rfl _) Zr.unit))) (by rfl))) rfl rfl (fun u4 w3 h8 => ?_))
 refine op (OpS.storeC (f' := true) (fr := (Rep.iso (fun s : Responder_ => (s.Own, s.Queue, s.Memory, ())) (Rep.prod (Rep.int .u8) (Rep.prod (Rep.raw (.slice none 0 0)) (Rep.prod (Rep.raw (.slice none 0 0)) Rep.unit))))) (r' := (Rep.iso (fun s : Responder_ => (s.Own, s.Queue, s.Memory, ())) (Rep.prod (Rep.int .u8) (Rep.prod (Rep.raw (.slice none 0 0)) (Rep.prod (Rep.raw (.slice none 0 0)) Rep.unit))))) (x' := (⟨a0.Own, [], []⟩ : Responder_)) h8 .z PA.z (Chg.id (by rfl)) (Ty.like ty29 (by rfl) (by rfl)) rfl rfl rfl (V.at .z) (.inl rfl) (fun w4 h9 => ?_))
 refine RunL.nil ?_
 refine Run.slim [(5, u4), (4, u2), (2, u1), (1, .int .i64 a1)] ⟨rfl, rfl, rfl, rfl, trivial⟩ ?_
 refine Run.seq ?_
 refine Run.seq ?_
 refine Run.reg ?_
 refine op (OpS.as rfl rfl rfl ?_)
 refine RunL.nil ?_
 refine Run.block ?_
 refine Run.slim [(1, .int .i64 a1), (2, u1), (4, u2), (5, u4), (6, .int .i64 0)] ⟨rfl, rfl, rfl, rfl, rfl, trivial⟩ ?_
 refine Run.loopP (σ := (Int × (List Message_))) (fun s_ L_ w_ => ∃ u0_ : Value, L_ = [(1, .int .i64 a1), (2, u1), (4, u2), (5, u4), (6, .int .i64 s_.1)] ∧ St e w_ [] [(false, .box 29 Responder_.rep u1 a0), (true, .box 29 Responder_.rep u2 Responder_.z), (true, .box 29 (Rep.iso (fun s : Responder_ => (s.Own, s.Queue, s.Memory, ())) (Rep.prod (Rep.int .u8) (Rep.prod (Rep.raw u0_) (Rep.prod (Rep.raw (.slice none 0 0)) Rep.unit)))) u4 (⟨a0.Own, [], []⟩ : Responder_)), (true, .slice 37 Message_.rep u0_ s_.2), (true, .slice 72 Memory_.rep (.slice none 0 0) ([]))]) hF ⟨(.slice none 0 0), rfl, (h9.facts .nil).picks (.cons (.s (.s (.s (.s (.s (.s .z)))))) (.cons (.s (.s (.s (.s (.s .z))))) (.cons .z (.cons (.s (.s (.s .z))) (.cons (.s (.s .z)) .nil)))))⟩ (fun k1 hk1 s1 _ w5 hI hF => ?_)
 obtain ⟨u5, rfl, h10⟩ := hI
 refine Run.seq ?_
 refine Run.seq ?_
 refine Run.reg ?_
 refine op (OpS.mv rfl rfl rfl ?_)
 refine op (OpS.fbox (o3 := 1) h10 .z PA.z fa29_1 rfl rfl rfl rfl ?_)
 refine op (OpS.loadB h10 .z PA.a (Get.fld Responder_.f1) ty26 rfl rfl rfl (fun u6 h11 => ?_))
 refine op (OpS.len h11 Try.underlying26 rfl rfl rfl (V.at .z) ?_)
 refine op (OpS.bin rfl rfl rfl rfl rfl ?_)
 refine RunL.nil ?_
 refine Run.slim [(17, .bool (decide (s1.1 < (a0.Queue.length : Int)))), (1, .int .i64 a1), (2, u1), (4, u2), (5, u4), (6, .int .i64 s1.1)] ⟨rfl, rfl, rfl, rfl, rfl, rfl, trivial⟩ ?_
 refine Run.ite rfl hF (fun e1 hF => ?_) (fun e1 hF => ?_)
 ·
  refine Run.skip ?_
  refine Run.seq ?_
  refine Run.block ?_
  refine Run.seq ?_
  refine Run.reg ?_
  refine op (OpS.fbox (o3 := 1) h11 .z PA.z fa29_1 rfl rfl rfl rfl ?_)
  refine op (OpS.loadB h11 .z PA.a (Get.fld Responder_.f1) ty26 rfl rfl rfl (fun u7 h12 => ?_))
  refine op (OpS.mv rfl rfl rfl ?_)
  obtain ⟨x1, e2, hF⟩ := bindP_use hF
  refine op (OpS.iptr h12 Try.underlying26 ty37 rfl rfl rfl rfl (V.at .z) e2 (fun u8 h13 => ?_))
  refine op (OpS.load h13 ty37 rfl rfl rfl .z (fun u9 h14 => ?_))
  refine op (OpS.alloc h14 ti37 Message_.zr rfl rfl (fun u10 w6 h15 => ?_))
  have h16 := (h15.pick .z).weak
  refine op (OpS.storeB (f' := false) h16 .z PA.z Put.id ty37 rfl rfl rfl (V.at .z) (.inr rfl) (fun w7 h17 => ?_))
  refine RunL.nil ?_
  refine Run.slim [(7, u10), (1, .int .i64 a1), (2, u1), (4, u2), (5, u4), (6, .int .i64 s1.1)] ⟨rfl, rfl, rfl, rfl, rfl, rfl, trivial⟩ ?_
  refine Run.seq ?_
  refine Run.reg ?_
  refine op (OpS.fbox (o3 := 8) h17 .z PA.z fa37_8 rfl rfl rfl rfl ?_)
  refine op (OpS.loadB h17 .z PA.a (Get.fld Message_.f8) ty22 rfl rfl rfl (fun u11 h18 => ?_))
  have h19 := St.nil 5 (Rep.int .u8) h18
  obtain ⟨x2, e3, hF⟩ := bindP_use hF
  refine op (OpS.app (f' := false) h19 .z Try.underlying22 ti5 rfl rfl rfl rfl rfl rfl rfl (V.at .z) (.inr Pure.int) e3 (fun u12 w8 h20 => ?_))
  refine op (OpS.fbox (o3 := 8) h20 (.s .z) PA.z fa37_8 rfl rfl rfl rfl ?_)
  refine op (OpS.storeC (f' := false) (fr := (Rep.raw u12)) (r' := (Rep.iso (fun s : Message_ => (s.To, s.From, s.Function, s.Command, s.ToUnit, s.FromUnit, s.Sequence, s.Code, s.Data, ())) (Rep.prod (Rep.int .u8) (Rep.prod (Rep.int .u8) (Rep.prod (Rep.int .u8) (Rep.prod (Rep.int .u8) (Rep.prod (Rep.int .i64) (Rep.prod (Rep.int .i64) (Rep.prod (Rep.int .i64) (Rep.prod (Rep.int .u8) (Rep.prod (Rep.raw u12) Rep.unit))))))))))) (x' := x1) h20 (.s .z) PA.a (Chg.iso _ (Chg.there (Chg.there (Chg.there (Chg.there (Chg.there (Chg.there (Chg.there (Chg.there (Chg.here (Chg.id (by rfl)))))))))))) (Ty.like ty22 (by rfl) (by rfl)) rfl rfl rfl (V.raw (f := false) (St.own1 h20 .z) x1.Data) (.inr rfl) (fun w9 h21 => ?_))
  refine RunL.nil ?_
  refine Run.slim [(7, u10), (1, .int .i64 a1), (2, u1), (4, u2), (5, u4), (6, .int .i64 s1.1)] ⟨rfl, rfl, rfl, rfl, rfl, rfl, trivial⟩ ?_
  refine Run.reg ?_
  refine op (OpS.fbox (o3 := 1) h21 (.s (.s (.s (.s .z)))) PA.z fa29_1 rfl rfl rfl rfl ?_)
  refine op (OpS.loadR h21 (.s (.s (.s (.s .z)))) PA.a (GetS.ok (GetS.iso _ (GetS.there (GetS.here GetS.id)))) ty26 rfl rfl rfl rfl rfl ?_)
  refine op (OpS.loadB (fr := (Rep.iso (fun s : Message_ => (s.To, s.From, s.Function, s.Command, s.ToUnit, s.FromUnit, s.Sequence, s.Code, s.Data, ())) (Rep.prod (Rep.int .u8) (Rep.prod (Rep.int .u8) (Rep.prod (Rep.int .u8) (Rep.prod (Rep.int .u8) (Rep.prod (Rep.int .i64) (Rep.prod (Rep.int .i64) (Rep.prod (Rep.int .i64) (Rep.prod (Rep.int .u8) (Rep.prod (Rep.raw u12) Rep.unit))))))))))) h21 .z PA.z (GetS.ok GetS.id) (Ty.like ty37 (by rfl) (by rfl)) rfl rfl rfl (fun u13 h22 => ?_))
  have h23 := (h22.pick (.s .z)).freeze
  have h24 := h23.pick .z
  have h25 := St.boxJ (r' := Message_.rep) (x' := { x1 with Data := x2 }) h24 (fun _ _ hs_ => (Jn.iso _ (Jn.prod Jn.refl (Jn.prod Jn.refl (Jn.prod Jn.refl (Jn.prod Jn.refl (Jn.prod Jn.refl (Jn.prod Jn.refl (Jn.prod Jn.refl (Jn.prod Jn.refl (Jn.prod (Jn.raw ((V.weak (V.at .z)) _ _ hs_) rfl) Jn.refl)))))))))))
  have h26 := St.addV (f := true) (r := Message_.rep) (x := { x1 with Data := x2 }) h25 (V.jn (r := (Rep.iso (fun s : Message_ => (s.To, s.From, s.Function, s.Command, s.ToUnit, s.FromUnit, s.Sequence, s.Code, s.Data, ())) (Rep.prod (Rep.int .u8) (Rep.prod (Rep.int .u8) (Rep.prod (Rep.int .u8) (Rep.prod (Rep.int .u8) (Rep.prod (Rep.int .i64) (Rep.prod (Rep.int .i64) (Rep.prod (Rep.int .i64) (Rep.prod (Rep.int .u8) (Rep.prod (Rep.raw u12) Rep.unit))))))))))) (x := x1) (V.pure (V.at (.s .z)) (Pure.iso (Pure.prod Pure.int (Pure.prod Pure.int (Pure.prod Pure.int (Pure.prod Pure.int (Pure.prod Pure.int (Pure.prod Pure.int (Pure.prod Pure.int (Pure.prod Pure.int (Pure.prod Pure.raw Pure.unit))))))))))) rfl (fun _ _ hs_ => (Jn.iso _ (Jn.prod Jn.refl (Jn.prod Jn.refl (Jn.prod Jn.refl (Jn.prod Jn.refl (Jn.prod Jn.refl (Jn.prod Jn.refl (Jn.prod Jn.refl (Jn.prod Jn.refl (Jn.prod (Jn.raw ((V.at .z) _ _ hs_) rfl) Jn.refl))))))))))))
  refine op (OpS.lit (r := Message_.rep) (f := true) h26 Try.underlying26 ti37 rfl rfl rfl rfl rfl (.cons rfl (V.at .z) .nil) rfl rfl (fun u14 w10 h27 => ?_))
  obtain ⟨x3, e4, hF⟩ := bindP_use hF
  refine op (OpS.app (f' := true) h27 (.s (.s (.s (.s .z)))) Try.underlying26 ti37 rfl rfl rfl rfl rfl rfl rfl (V.at .z) (.inl (.inl rfl)) e4 (fun u15 w11 h28 => ?_))
  refine op (OpS.fbox (o3 := 1) h28 (.s (.s (.s (.s .z)))) PA.z fa29_1 rfl rfl rfl rfl ?_)
  refine op (OpS.storeC (f' := true) (fr := (Rep.raw u15)) (r' := (Rep.iso (fun s : Responder_ => (s.Own, s.Queue, s.Memory, ())) (Rep.prod (Rep.int .u8) (Rep.prod (Rep.raw u15) (Rep.prod (Rep.raw (.slice none 0 0)) Rep.unit))))) (x' := (⟨a0.Own, [], []⟩ : Responder_)) h28 (.s (.s (.s (.s .z)))) PA.a (Chg.iso _ (Chg.there (Chg.here (Chg.id (by rfl))))) (Ty.like ty26 (by rfl) (by rfl)) rfl rfl rfl (V.raw (f := true) (St.own1 h28 .z) ((⟨a0.Own, [], []⟩ : Responder_).Queue)) (.inl rfl) (fun w12 h29 => ?_))
  refine RunL.nil ?_
  refine Run.slim [(1, .int .i64 a1), (2, u1), (4, u2), (5, u4), (6, .int .i64 s1.1)] ⟨rfl, rfl, rfl, rfl, rfl, trivial⟩ ?_
  refine Run.endBlock ?_
  refine Run.reg ?_
  refine op (OpS.mv rfl rfl rfl ?_)
  refine op (OpS.bin rfl rfl rfl rfl rfl ?_)
  refine op (OpS.as rfl rfl rfl ?_)
  obtain ⟨x4, e5, hF⟩ := letP_use hF
  refine RunL.name e5 ?_
  refine RunL.nil ?_
  refine Run.slim [(6, .int .i64 x4), (1, .int .i64 a1), (2, u1), (4, u2), (5, u4)] ⟨rfl, rfl, rfl, rfl, rfl, trivial⟩ ?_
  refine Run.slim [(1, .int .i64 a1), (2, u1), (4, u2), (5, u4), (6, .int .i64 x4)] ⟨rfl, rfl, rfl, rfl, rfl, trivial⟩ ?_
  exact hk1 (x4, x3) _ _ ⟨u15, rfl, (h29.facts .nil).picks (.cons (.s (.s (.s .z))) (.cons (.s (.s (.s .z))) (.cons .z (.cons .z (.cons (.s .z) .nil)))))⟩ hF
 ·
  refine Run.exit rfl ?_
  refine Run.seq ?_
  refine Run.seq ?_
  refine Run.reg ?_
  refine op (OpS.as rfl rfl rfl ?_)
  refine RunL.nil ?_
  refine Run.slim [(8, .int .i64 0), (1, .int .i64 a1), (2, u1), (4, u2), (5, u4)] ⟨rfl, rfl, rfl, rfl, rfl, trivial⟩ ?_
  refine Run.block ?_
  have h30 := (h11.pick (.s (.s (.s (.s .z))))).weak
  refine Run.slim [(1, .int .i64 a1), (2, u1), (4, u2), (5, u4), (8, .int .i64 0)] ⟨rfl, rfl, rfl, rfl, rfl, trivial⟩ ?_
  refine Run.loopP (σ := (Int × (List Memory_))) (fun s_ L_ w_ => ∃ u0_ : Value, L_ = [(1, .int .i64 a1), (2, u1), (4, u2), (5, u4), (8, .int .i64 s_.1)] ∧ St e w_ [] [(false, .box 29 Responder_.rep u1 a0), (true, .box 29 Responder_.rep u2 Responder_.z), (true, .box 29 (Rep.iso (fun s : Responder_ => (s.Own, s.Queue, s.Memory, ())) (Rep.prod (Rep.int .u8) (Rep.prod (Rep.raw u5) (Rep.prod (Rep.raw u0_) Rep.unit)))) u4 (⟨a0.Own, [], []⟩ : Responder_)), (true, .slice 37 Message_.rep u5 s1.2), (false, .slice 72 Memory_.rep u0_ s_.2)]) hF ⟨(.slice none 0 0), rfl, (h30.facts .nil).picks (.cons (.s .z) (.cons (.s .z) (.cons (.s .z) (.cons (.s .z) (.cons .z .nil)))))⟩ (fun k2 hk2 s2 _ w13 hI hF => ?_)
  obtain ⟨u16, rfl, h31⟩ := hI
  refine Run.seq ?_
  refine Run.seq ?_
  refine Run.reg ?_
  refine op (OpS.mv rfl rfl rfl ?_)
  refine op (OpS.fbox (o3 := 2) h31 .z PA.z fa29_2 rfl rfl rfl rfl ?_)
  refine op (OpS.loadB h31 .z PA.a (Get.fld Responder_.f2) ty27 rfl rfl rfl (fun u17 h32 => ?_))
  refine op (OpS.len h32 Try.underlying27 rfl rfl rfl (V.at .z) ?_)
  refine op (OpS.bin rfl rfl rfl rfl rfl ?_)
  refine RunL.nil ?_
  refine Run.slim [(39, .bool (decide (s2.1 < (a0.Memory.length : Int)))), (1, .int .i64 a1), (2, u1), (4, u2), (5, u4), (8, .int .i64 s2.1)] ⟨rfl, rfl, rfl, rfl, rfl, rfl, trivial⟩ ?_
  refine Run.ite rfl hF (fun e6 hF => ?_) (fun e6 hF => ?_)
  ·
   refine Run.skip ?_
   refine Run.seq ?_
   refine Run.block ?_
   refine Run.seq ?_
   refine Run.seq ?_
   refine Run.reg ?_
   refine op (OpS.fbox (o3 := 2) h32 .z PA.z fa29_2 rfl rfl rfl rfl ?_)
   refine op (OpS.loadB h32 .z PA.a (Get.fld Responder_.f2) ty27 rfl rfl rfl (fun u18 h33 => ?_))
   refine op (OpS.mv rfl rfl rfl ?_)
   obtain ⟨x5, e7, hF⟩ := bindP_use hF
   refine op (OpS.iptr h33 Try.underlying27 ty72 rfl rfl rfl rfl (V.at .z) e7 (fun u19 h34 => ?_))
   refine op (OpS.fptr h34 fa72_2 Memory_.f2 rfl rfl rfl .z (fun u20 h35 => ?_))
   refine op (OpS.loadi h35 ty2 rfl rfl rfl .z ?_)
   refine op (OpS.mv rfl rfl rfl ?_)
   refine op (OpS.bin rfl rfl rfl rfl rfl ?_)
   refine RunL.nil ?_
   refine Run.slim [(49, .bool (decide (x5.Until ≤ a1))), (1, .int .i64 a1), (2, u1), (4, u2), (5, u4), (8, .int .i64 s2.1)] ⟨rfl, rfl, rfl, rfl, rfl, rfl, trivial⟩ ?_
   refine Run.ite rfl hF (fun e8 hF => ?_) (fun e8 hF => ?_)
   ·
    refine Run.exit rfl ?_
    refine Run.reg ?_
    refine op (OpS.mv rfl rfl rfl ?_)
    refine op (OpS.bin rfl rfl rfl rfl rfl ?_)
    refine op (OpS.as rfl rfl rfl ?_)
    obtain ⟨x6, e9, hF⟩ := letP_use hF
    refine RunL.name e9 ?_
    refine RunL.nil ?_
    refine Run.slim [(8, .int .i64 x6), (1, .int .i64 a1), (2, u1), (4, u2), (5, u4)] ⟨rfl, rfl, rfl, rfl, rfl, trivial⟩ ?_
    refine Run.slim [(1, .int .i64 a1), (2, u1), (4, u2), (5, u4), (8, .int .i64 x6)] ⟨rfl, rfl, rfl, rfl, rfl, trivial⟩ ?_
    exact hk2 (x6, s2.2) _ _ ⟨u16, rfl, (h35.facts .nil).picks (.cons .z (.cons .z (.cons .z (.cons .z (.cons .z .nil)))))⟩ hF
   ·
    refine Run.skip ?_
    refine Run.seq ?_
    refine Run.reg ?_
    refine op (OpS.fbox (o3 := 2) h35 .z PA.z fa29_2 rfl rfl rfl rfl ?_)
    refine op (OpS.loadB h35 .z PA.a (Get.fld Responder_.f2) ty27 rfl rfl rfl (fun u21 h36 => ?_))
    refine op (OpS.mv rfl rfl rfl ?_)
    obtain ⟨x7, e10, hF⟩ := bindP_use hF
    refine op (OpS.iptr h36 Try.underlying27 ty72 rfl rfl rfl rfl (V.at .z) e10 (fun u22 h37 => ?_))
    refine op (OpS.load h37 ty72 rfl rfl rfl .z (fun u23 h38 => ?_))
    refine op (OpS.alloc h38 ti72 Memory_.zr rfl rfl (fun u24 w14 h39 => ?_))
    have h40 := (h39.pick .z).weak
    refine op (OpS.storeB (f' := false) h40 .z PA.z Put.id ty72 rfl rfl rfl (V.at .z) (.inr rfl) (fun w15 h41 => ?_))
    refine RunL.nil ?_
    refine Run.slim [(9, u24), (1, .int .i64 a1), (2, u1), (4, u2), (5, u4), (8, .int .i64 s2.1)] ⟨rfl, rfl, rfl, rfl, rfl, rfl, trivial⟩ ?_
    refine Run.seq ?_
    obtain ⟨x8, e11, hF⟩ := bindP_use hF
    obtain ⟨x9, e12, hF⟩ := bindP_use hF
    obtain ⟨d1, e13, hF⟩ := letP_use hF
    refine Run.drawV (Ωs := [(false, .box 29 Responder_.rep u1 a0), (true, .box 29 Responder_.rep u2 Responder_.z), (true, .box 29 (Rep.iso (fun s : Responder_ => (s.Own, s.Queue, s.Memory, ())) (Rep.prod (Rep.int .u8) (Rep.prod (Rep.raw u5) (Rep.prod (Rep.raw u16) Rep.unit)))) u4 (⟨a0.Own, [], []⟩ : Responder_)), (true, .slice 37 Message_.rep u5 s1.2), (false, .slice 72 Memory_.rep u16 s2.2)]) [⟨some 55, some ((padd u24 0)), fun _ => [], fun ds_ u_ => [], [], [(0, [9, 0])], none⟩, ⟨some 56, some ((padd u24 8)), fun _ => [], fun ds_ u_ => [], [], [(0, [9, 1])], none⟩, ⟨some 57, none, fun u_ => [(false, .val (Rep.slice (Rep.int .u8)) u_ x7.Request.Data)], fun ds_ u_ => [], [], [(0, [9, 2])], none⟩, ⟨some 58, none, fun u_ => [(true, .val (Rep.slice (Rep.int .u8)) u_ x8)], fun ds_ u_ => [], [], [], none⟩, ⟨some 59, some ((padd u24 9)), fun _ => [], fun ds_ u_ => [], [], [(0, [9, 4])], none⟩, ⟨some 60, none, fun u_ => [(false, .val (Rep.slice (Rep.int .u8)) u_ x7.Reply)], fun ds_ u_ => [], [], [(0, [9, 5])], none⟩, ⟨some 61, none, fun u_ => [(true, .val (Rep.slice (Rep.int .u8)) u_ x9)], fun ds_ u_ => [], [], [], none⟩, ⟨some 62, some ((padd u24 0)), fun _ => [], fun ds_ u_ => [], [], [(0, [9, 8, 7])], none⟩, ⟨some 63, some ((padd u24 8)), fun _ => [], fun ds_ u_ => [], [], [(0, [9, 8])], none⟩, ⟨none, some undef, fun _ => [], fun ds_ u_ => [(false, .box 72 Memory_.rep u24 d1)], [0], [], none⟩] [[], [0], [1], [2], [], [4], [5], [], [7], [8, 3]] [[(false, .box 72 Memory_.rep u24 x7)]] [1, 2, 3, 4, 5, 6, 7, 8, 9, 10] Try_mixed rfl rfl rfl h41 (.cons ?_ (.cons ?_ (.cons ?_ (.cons ?_ (.cons ?_ (.cons ?_ (.cons ?_ (.cons ?_ (.cons ?_ (.cons ?_ .nil)))))))))) (fun q1 w hq1 h => ?_)
    ·intro q1 w Γx Ωx h
     have h : St e w ([(false, .val Memory_.rep u23 x7), (false, .ptr Memory_.rep u22 x7), (false, .val (Rep.slice Memory_.rep) u21 a0.Memory), (false, .ptr (Rep.int .i64) u20 x5.Until), (false, .ptr Memory_.rep u19 x5), (false, .val (Rep.slice Memory_.rep) u18 a0.Memory), (false, .val (Rep.slice Memory_.rep) u17 a0.Memory)] ++ Γx) ([(false, .box 72 Memory_.rep u24 x7), (false, .box 29 Responder_.rep u1 a0), (true, .box 29 Responder_.rep u2 Responder_.z), (true, .box 29 (Rep.iso (fun s : Responder_ => (s.Own, s.Queue, s.Memory, ())) (Rep.prod (Rep.int .u8) (Rep.prod (Rep.raw u5) (Rep.prod (Rep.raw u16) Rep.unit)))) u4 (⟨a0.Own, [], []⟩ : Responder_)), (true, .slice 37 Message_.rep u5 s1.2), (false, .slice 72 Memory_.rep u16 s2.2)] ++ Ωx) := h
     refine OpS.fbox (o3 := 0) h .z PA.z fa72_0 rfl rfl rfl rfl ?_
     exact ⟨undef, rfl, trivial, h⟩
    ·intro q1 w Γx Ωx h
     have h : St e w ([(false, .val Memory_.rep u23 x7), (false, .ptr Memory_.rep u22 x7), (false, .val (Rep.slice Memory_.rep) u21 a0.Memory), (false, .ptr (Rep.int .i64) u20 x5.Until), (false, .ptr Memory_.rep u19 x5), (false, .val (Rep.slice Memory_.rep) u18 a0.Memory), (false, .val (Rep.slice Memory_.rep) u17 a0.Memory)] ++ Γx) ([(false, .box 72 Memory_.rep u24 x7), (false, .box 29 Responder_.rep u1 a0), (true, .box 29 Responder_.rep u2 Responder_.z), (true, .box 29 (Rep.iso (fun s : Responder_ => (s.Own, s.Queue, s.Memory, ())) (Rep.prod (Rep.int .u8) (Rep.prod (Rep.raw u5) (Rep.prod (Rep.raw u16) Rep.unit)))) u4 (⟨a0.Own, [], []⟩ : Responder_)), (true, .slice 37 Message_.rep u5 s1.2), (false, .slice 72 Memory_.rep u16 s2.2)] ++ Ωx) := h
     refine OpS.fbox (o3 := 8) h .z PA.a fa37_8 rfl rfl rfl rfl ?_
     exact ⟨undef, rfl, trivial, h⟩
    ·intro q1 w Γx Ωx h
     have h : St e w ([(false, .val Memory_.rep u23 x7), (false, .ptr Memory_.rep u22 x7), (false, .val (Rep.slice Memory_.rep) u21 a0.Memory), (false, .ptr (Rep.int .i64) u20 x5.Until), (false, .ptr Memory_.rep u19 x5), (false, .val (Rep.slice Memory_.rep) u18 a0.Memory), (false, .val (Rep.slice Memory_.rep) u17 a0.Memory)] ++ Γx) ([(false, .box 72 Memory_.rep u24 x7), (false, .box 29 Responder_.rep u1 a0), (true, .box 29 Responder_.rep u2 Responder_.z), (true, .box 29 (Rep.iso (fun s : Responder_ => (s.Own, s.Queue, s.Memory, ())) (Rep.prod (Rep.int .u8) (Rep.prod (Rep.raw u5) (Rep.prod (Rep.raw u16) Rep.unit)))) u4 (⟨a0.Own, [], []⟩ : Responder_)), (true, .slice 37 Message_.rep u5 s1.2), (false, .slice 72 Memory_.rep u16 s2.2)] ++ Ωx) := h
     refine OpS.loadB h .z PA.a (Get.comp (Get.fld Memory_.f0) (Get.fld Message_.f8)) ty22 rfl rfl rfl (fun u h49 => ?_)
     exact ⟨u, rfl, trivial, h49⟩
    ·intro q1 w Γx Ωx h
     have h50 := St.nil 5 (Rep.int .u8) h
     refine OpS.app (f' := false) h50 .z Try.underlying22 ti5 rfl rfl rfl rfl rfl rfl rfl (V.at .z) (.inr Pure.int) e11 (fun u w19 h51 => ?_)
     exact ⟨u, rfl, trivial, (h51.freeze)⟩
    ·intro q1 w Γx Ωx h
     have h : St e w ([(false, .val Memory_.rep u23 x7), (false, .ptr Memory_.rep u22 x7), (false, .val (Rep.slice Memory_.rep) u21 a0.Memory), (false, .ptr (Rep.int .i64) u20 x5.Until), (false, .ptr Memory_.rep u19 x5), (false, .val (Rep.slice Memory_.rep) u18 a0.Memory), (false, .val (Rep.slice Memory_.rep) u17 a0.Memory)] ++ Γx) ([(false, .box 72 Memory_.rep u24 x7), (false, .box 29 Responder_.rep u1 a0), (true, .box 29 Responder_.rep u2 Responder_.z), (true, .box 29 (Rep.iso (fun s : Responder_ => (s.Own, s.Queue, s.Memory, ())) (Rep.prod (Rep.int .u8) (Rep.prod (Rep.raw u5) (Rep.prod (Rep.raw u16) Rep.unit)))) u4 (⟨a0.Own, [], []⟩ : Responder_)), (true, .slice 37 Message_.rep u5 s1.2), (false, .slice 72 Memory_.rep u16 s2.2)] ++ Ωx) := h
     refine OpS.fbox (o3 := 9) h .z PA.z fa72_1 rfl rfl rfl rfl ?_
     exact ⟨undef, rfl, trivial, h⟩
    ·intro q1 w Γx Ωx h
     have h : St e w ([(false, .val Memory_.rep u23 x7), (false, .ptr Memory_.rep u22 x7), (false, .val (Rep.slice Memory_.rep) u21 a0.Memory), (false, .ptr (Rep.int .i64) u20 x5.Until), (false, .ptr Memory_.rep u19 x5), (false, .val (Rep.slice Memory_.rep) u18 a0.Memory), (false, .val (Rep.slice Memory_.rep) u17 a0.Memory)] ++ Γx) ([(false, .box 72 Memory_.rep u24 x7), (false, .box 29 Responder_.rep u1 a0), (true, .box 29 Responder_.rep u2 Responder_.z), (true, .box 29 (Rep.iso (fun s : Responder_ => (s.Own, s.Queue, s.Memory, ())) (Rep.prod (Rep.int .u8) (Rep.prod (Rep.raw u5) (Rep.prod (Rep.raw u16) Rep.unit)))) u4 (⟨a0.Own, [], []⟩ : Responder_)), (true, .slice 37 Message_.rep u5 s1.2), (false, .slice 72 Memory_.rep u16 s2.2)] ++ Ωx) := h
     refine OpS.loadB h .z PA.a (Get.fld Memory_.f1) ty22 rfl rfl rfl (fun u h52 => ?_)
     exact ⟨u, rfl, trivial, h52⟩
    ·intro q1 w Γx Ωx h
     have h53 := St.nil 5 (Rep.int .u8) h
     refine OpS.app (f' := false) h53 .z Try.underlying22 ti5 rfl rfl rfl rfl rfl rfl rfl (V.at .z) (.inr Pure.int) e12 (fun u w20 h54 => ?_)
     exact ⟨u, rfl, trivial, (h54.freeze)⟩
    ·intro q1 w Γx Ωx h
     have h : St e w ([(false, .val Memory_.rep u23 x7), (false, .ptr Memory_.rep u22 x7), (false, .val (Rep.slice Memory_.rep) u21 a0.Memory), (false, .ptr (Rep.int .i64) u20 x5.Until), (false, .ptr Memory_.rep u19 x5), (false, .val (Rep.slice Memory_.rep) u18 a0.Memory), (false, .val (Rep.slice Memory_.rep) u17 a0.Memory)] ++ Γx) ([(false, .box 72 Memory_.rep u24 x7), (false, .box 29 Responder_.rep u1 a0), (true, .box 29 Responder_.rep u2 Responder_.z), (true, .box 29 (Rep.iso (fun s : Responder_ => (s.Own, s.Queue, s.Memory, ())) (Rep.prod (Rep.int .u8) (Rep.prod (Rep.raw u5) (Rep.prod (Rep.raw u16) Rep.unit)))) u4 (⟨a0.Own, [], []⟩ : Responder_)), (true, .slice 37 Message_.rep u5 s1.2), (false, .slice 72 Memory_.rep u16 s2.2)] ++ Ωx) := h
     refine OpS.fbox (o3 := 0) h .z PA.z fa72_0 rfl rfl rfl rfl ?_
     exact ⟨undef, rfl, trivial, h⟩
    ·intro q1 w Γx Ωx h
     have h : St e w ([(false, .val Memory_.rep u23 x7), (false, .ptr Memory_.rep u22 x7), (false, .val (Rep.slice Memory_.rep) u21 a0.Memory), (false, .ptr (Rep.int .i64) u20 x5.Until), (false, .ptr Memory_.rep u19 x5), (false, .val (Rep.slice Memory_.rep) u18 a0.Memory), (false, .val (Rep.slice Memory_.rep) u17 a0.Memory)] ++ Γx) ([(false, .box 72 Memory_.rep u24 x7), (false, .box 29 Responder_.rep u1 a0), (true, .box 29 Responder_.rep u2 Responder_.z), (true, .box 29 (Rep.iso (fun s : Responder_ => (s.Own, s.Queue, s.Memory, ())) (Rep.prod (Rep.int .u8) (Rep.prod (Rep.raw u5) (Rep.prod (Rep.raw u16) Rep.unit)))) u4 (⟨a0.Own, [], []⟩ : Responder_)), (true, .slice 37 Message_.rep u5 s1.2), (false, .slice 72 Memory_.rep u16 s2.2)] ++ Ωx) := h
     refine OpS.fbox (o3 := 8) h .z PA.a fa37_8 rfl rfl rfl rfl ?_
     exact ⟨undef, rfl, trivial, h⟩
    ·intro q1 w Γx Ωx h
     have h : St e w ([(true, .val (Rep.slice (Rep.int .u8)) (q1 3) x8), (false, .val Memory_.rep u23 x7), (false, .ptr Memory_.rep u22 x7), (false, .val (Rep.slice Memory_.rep) u21 a0.Memory), (false, .ptr (Rep.int .i64) u20 x5.Until), (false, .ptr Memory_.rep u19 x5), (false, .val (Rep.slice Memory_.rep) u18 a0.Memory), (false, .val (Rep.slice Memory_.rep) u17 a0.Memory)] ++ Γx) ([(false, .box 72 Memory_.rep u24 x7), (false, .box 29 Responder_.rep u1 a0), (true, .box 29 Responder_.rep u2 Responder_.z), (true, .box 29 (Rep.iso (fun s : Responder_ => (s.Own, s.Queue, s.Memory, ())) (Rep.prod (Rep.int .u8) (Rep.prod (Rep.raw u5) (Rep.prod (Rep.raw u16) Rep.unit)))) u4 (⟨a0.Own, [], []⟩ : Responder_)), (true, .slice 37 Message_.rep u5 s1.2), (false, .slice 72 Memory_.rep u16 s2.2)] ++ Ωx) := h
     refine OpS.storeB (f' := false) h .z PA.a (Put.of (Put.comp (Get.fld Memory_.f0) (Put.fld Message_.f8) (Put.fld Memory_.f0)) e13) ty22 rfl rfl rfl (V.weak (V.at .z)) (.inr rfl) (fun w21 h55 => ?_)
     exact ⟨undef, trivial, trivial, h55⟩
    have h56 : St e w [(false, .val (Rep.slice (Rep.int .u8)) (q1 2) x7.Request.Data), (true, .val (Rep.slice (Rep.int .u8)) (q1 3) x8), (false, .val (Rep.slice (Rep.int .u8)) (q1 5) x7.Reply), (true, .val (Rep.slice (Rep.int .u8)) (q1 6) x9), (false, .val Memory_.rep u23 x7), (false, .ptr Memory_.rep u22 x7), (false, .val (Rep.slice Memory_.rep) u21 a0.Memory), (false, .ptr (Rep.int .i64) u20 x5.Until), (false, .ptr Memory_.rep u19 x5), (false, .val (Rep.slice Memory_.rep) u18 a0.Memory), (false, .val (Rep.slice Memory_.rep) u17 a0.Memory)] [(false, .box 72 Memory_.rep u24 d1), (false, .box 29 Responder_.rep u1 a0), (true, .box 29 Responder_.rep u2 Responder_.z), (true, .box 29 (Rep.iso (fun s : Responder_ => (s.Own, s.Queue, s.Memory, ())) (Rep.prod (Rep.int .u8) (Rep.prod (Rep.raw u5) (Rep.prod (Rep.raw u16) Rep.unit)))) u4 (⟨a0.Own, [], []⟩ : Responder_)), (true, .slice 37 Message_.rep u5 s1.2), (false, .slice 72 Memory_.rep u16 s2.2)] := h
    refine op (OpS.fbox (o3 := 9) h56 .z PA.z fa72_1 rfl rfl rfl rfl ?_)
    obtain ⟨d2, e14, hF⟩ := letP_use hF
    refine op (OpS.storeB (f' := false) h56 .z PA.a (Put.of (Put.fld Memory_.f1) e14) ty22 rfl rfl rfl (V.weak (V.at (.s (.s (.s .z))))) (.inr rfl) (fun w22 h57 => ?_))
    refine RunL.nil ?_
    refine Run.slim [(9, u24), (1, .int .i64 a1), (2, u1), (4, u2), (5, u4), (8, .int .i64 s2.1)] ⟨rfl, rfl, rfl, rfl, rfl, rfl, trivial⟩ ?_
    refine Run.reg ?_
    refine op (OpS.fbox (o3 := 2) h57 (.s (.s (.s .z))) PA.z fa29_2 rfl rfl rfl rfl ?_)
    refine op (OpS.loadR h57 (.s (.s (.s .z))) PA.a (GetS.ok (GetS.iso _ (GetS.there (GetS.there (GetS.here GetS.id))))) ty27 rfl rfl rfl rfl rfl ?_)
    refine op (OpS.loadB h57 .z PA.z Get.id ty72 rfl rfl rfl (fun u25 h58 => ?_))
    refine op (OpS.lit (r := Memory_.rep) (f := false) h58 Try.underlying27 ti72 rfl rfl rfl rfl rfl (.cons rfl (V.at .z) .nil) rfl rfl (fun u26 w23 h59 => ?_))
    obtain ⟨x10, e15, hF⟩ := bindP_use hF
    refine op (OpS.app (f' := false) h59 (.s (.s (.s (.s (.s .z))))) Try.underlying27 ti72 rfl rfl rfl rfl rfl rfl rfl (V.at .z) (.inl (.inr rfl)) e15 (fun u27 w24 h60 => ?_))
    refine op (OpS.fbox (o3 := 2) h60 (.s (.s (.s (.s .z)))) PA.z fa29_2 rfl rfl rfl rfl ?_)
    refine op (OpS.storeC (f' := true) (fr := (Rep.raw u27)) (r' := (Rep.iso (fun s : Responder_ => (s.Own, s.Queue, s.Memory, ())) (Rep.prod (Rep.int .u8) (Rep.prod (Rep.raw u5) (Rep.prod (Rep.raw u27) Rep.unit))))) (x' := (⟨a0.Own, [], []⟩ : Responder_)) h60 (.s (.s (.s (.s .z)))) PA.a (Chg.iso _ (Chg.there (Chg.there (Chg.here (Chg.id (by rfl)))))) (Ty.like ty27 (by rfl) (by rfl)) rfl rfl rfl (V.raw (f := true) (St.own1 h60 .z) ((⟨a0.Own, [], []⟩ : Responder_).Memory)) (.inl rfl) (fun w25 h61 => ?_))
    refine RunL.nil ?_
    refine Run.slim [(1, .int .i64 a1), (2, u1), (4, u2), (5, u4), (8, .int .i64 s2.1)] ⟨rfl, rfl, rfl, rfl, rfl, trivial⟩ ?_
    refine Run.endBlock ?_
    refine Run.reg ?_
    refine op (OpS.mv rfl rfl rfl ?_)
    refine op (OpS.bin rfl rfl rfl rfl rfl ?_)
    refine op (OpS.as rfl rfl rfl ?_)
    obtain ⟨x11, e16, hF⟩ := letP_use hF
    refine RunL.name e16 ?_
    refine RunL.nil ?_
    refine Run.slim [(8, .int .i64 x11), (1, .int .i64 a1), (2, u1), (4, u2), (5, u4)] ⟨rfl, rfl, rfl, rfl, rfl, trivial⟩ ?_
    refine Run.slim [(1, .int .i64 a1), (2, u1), (4, u2), (5, u4), (8, .int .i64 x11)] ⟨rfl, rfl, rfl, rfl, rfl, trivial⟩ ?_
    exact hk2 (x11, x10) _ _ ⟨u27, rfl, (h61.facts .nil).picks (.cons (.s (.s (.s .z))) (.cons (.s (.s (.s .z))) (.cons .z (.cons (.s (.s .z)) (.cons .z .nil)))))⟩ hF
  ·
   refine Run.exit rfl ?_
   refine Run.seq ?_
   refine Run.reg ?_
   refine op (OpS.loadB (fr := (Rep.iso (fun s : Responder_ => (s.Own, s.Queue, s.Memory, ())) (Rep.prod (Rep.int .u8) (Rep.prod (Rep.raw u5) (Rep.prod (Rep.raw u16) Rep.unit))))) h32 (.s (.s .z)) PA.z (GetS.ok GetS.id) (Ty.like ty29 (by rfl) (by rfl)) rfl rfl rfl (fun u28 h62 => ?_))
   refine op (OpS.storeC (f' := true) (fr := (Rep.iso (fun s : Responder_ => (s.Own, s.Queue, s.Memory, ())) (Rep.prod (Rep.int .u8) (Rep.prod (Rep.raw u5) (Rep.prod (Rep.raw u16) Rep.unit))))) (r' := (Rep.iso (fun s : Responder_ => (s.Own, s.Queue, s.Memory, ())) (Rep.prod (Rep.int .u8) (Rep.prod (Rep.raw u5) (Rep.prod (Rep.raw u16) Rep.unit))))) (x' := (⟨a0.Own, [], []⟩ : Responder_)) h62 (.s .z) PA.z (Chg.id (by rfl)) (Ty.like ty29 (by rfl) (by rfl)) rfl rfl rfl (V.at .z) (.inl rfl) (fun w26 h63 => ?_))
   refine RunL.nil ?_
   refine Run.slim [(4, u2)] ⟨rfl, trivial⟩ ?_
   obtain ⟨u29, hu1, h64⟩ := res_box h63 .z (Ty.like ty29 (by rfl) (by rfl))
   have h65 := (h64.pick (.s (.s (.s .z)))).weak
   refine Run.retP rfl (.cell rfl hu1 .nil) ?_
   cases hF
   exact Post.mk' ⟨u29, u5, u16, rfl, rfl, rfl, rfl⟩ (h65.picks (.cons .z (.cons (.s (.s (.s .z))) .nil))) (.val (V.jn (r := (Rep.iso (fun s : Responder_ => (s.Own, s.Queue, s.Memory, ())) (Rep.prod (Rep.int .u8) (Rep.prod (Rep.raw u5) (Rep.prod (Rep.raw u16) Rep.unit))))) (x := (⟨a0.Own, [], []⟩ : Responder_)) (x' := { { (⟨a0.Own, [], []⟩ : Responder_) with Queue := s1.2 } with Memory := s2.2 }) (V.weak (V.at .z)) rfl (fun _ _ _ => (Jn.iso _ (Jn.prod Jn.refl (Jn.prod Jn.same (Jn.prod Jn.same Jn.refl)))))) .nil)
theorem ref23_Response_ok {fuel : Nat} {a0 : Message_} {y : (List Int) × Int} (hF : ref23_Response fuel a0 = some y) {w : World} {v0 : Value} :
  Spec Try.prog 61 [v0].toArray w [(false, .val Message_.rep v0 a0)] [] (fun v Γr Ωr Ωo => ∃ u0 : Value, v = .tuple #[u0, .int .i64 y.2] ∧ Γr = [] ∧ Ωr = [(true, .slice 5 (Rep.int .u8) u0 y.1)] ∧ Ωo = []) := by
 refine Spec.of (L := [(0, v0)]) Try.func61 rfl ⟨rfl, trivial⟩ rfl (fun e h => ?_)
 unfold ref23_Response at hF
 refine Run.seq ?_
 refine Run.reg ?_
 refine op (OpS.boxF h rfl rfl rfl (V.at .z) (fun u1 w1 h1 => ?_))
 refine op (OpS.as rfl rfl rfl ?_)
 refine op (OpS.as rfl rfl rfl ?_)
 refine RunL.nil ?_
 refine Run.slim [(1, u1)] ⟨rfl, trivial⟩ ?_
 refine Run.seq ?_
 refine Run.seq ?_
 refine Run.reg ?_
 refine op (OpS.loadB h1 .z PA.z Get.id ty37 rfl rfl rfl (fun u2 h2 => ?_))
 obtain ⟨y1, e1, hF⟩ := bindP_use hF
 refine op (OpS.callP h2 Try.func53 rfl rfl rfl rfl (vs := [u2]) rfl (ref23_Valid_ok e1) (.cons (f := false) (V.at .z) .nil) ?_)
 rintro _ w2 _ _ _ ⟨rfl, rfl, rfl, rfl⟩ h3
 have h4 := h3 rfl rfl
 simp only [List.cons_append, List.nil_append] at h4
 refine op (OpS.not rfl rfl rfl ?_)
 refine op (OpS.mv rfl rfl rfl ?_)
 refine RunL.join (σ := Bool) (fun s_ L_ w_ => L_ = [(1, u1), (12, .bool s_)] ∧ St e w_ [] [(false, .box 37 Message_.rep u1 a0)]) hF (fun s1 _ w3 hI hF => ?_) (fun j1 hj1 hF => ?_)
 ·
  obtain ⟨rfl, h5⟩ := hI
  refine Run.ite rfl hF (fun e2 hF => ?_) (fun e2 hF => ?_)
  ·
   refine Run.seq ?_
   refine Run.reg ?_
   refine op (OpS.as rfl rfl rfl ?_)
   refine op (OpS.as rfl rfl rfl ?_)
   refine RunL.nil ?_
   refine Run.slim [(3, .int .i64 1), (2, .slice none 0 0)] ⟨rfl, rfl, trivial⟩ ?_
   have h6 := St.nil 5 (Rep.int .u8) h5
   refine Run.retP rfl (.tmp rfl (.tmp rfl .nil)) ?_
   cases hF
   exact Post.mk' ⟨(.slice none 0 0), rfl, rfl, rfl, rfl⟩ (h6.picks (.cons .z .nil)) .nil
  ·
   refine Run.skip ?_
   refine Run.seq ?_
   refine Run.reg ?_
   refine op (OpS.loadB h5 .z PA.z Get.id ty37 rfl rfl rfl (fun u3 h7 => ?_))
   obtain ⟨y2, e3, hF⟩ := bindP_use hF
   refine op (OpS.callP h7 Try.func54 rfl rfl rfl rfl (vs := [u3]) rfl (ref23_encode_ok e3) (.cons (f := false) (V.at .z) .nil) ?_)
   rintro u4 w4 _ _ _ ⟨_, rfl, rfl, rfl, rfl⟩ h8
   have h9 := h8 rfl rfl
   simp only [List.cons_append, List.nil_append] at h9
   refine op (OpS.as rfl rfl rfl ?_)
   refine op (OpS.as rfl rfl rfl ?_)
   refine RunL.nil ?_
   refine Run.slim [(3, .int .i64 0), (2, u4)] ⟨rfl, rfl, trivial⟩ ?_
   refine Run.retP rfl (.tmp rfl (.tmp rfl .nil)) ?_
   cases hF
   exact Post.mk' ⟨u4, rfl, rfl, rfl, rfl⟩ (h9.picks (.cons .z .nil)) .nil
 ·
  refine RunL.caseb hF (fun e4 hF => ?_) (fun e4 hF => ?_)
  ·
   refine op (OpS.pass rfl rfl rfl ?_)
   refine op (OpS.pass rfl rfl rfl ?_)
   refine op (OpS.pass rfl rfl rfl ?_)
   refine op (OpS.pass rfl rfl rfl ?_)
   refine op (OpS.pick rfl rfl rfl rfl ?_)
   refine RunL.nil ?_
   refine Run.slim [(12, .bool true), (1, u1)] ⟨rfl, rfl, trivial⟩ ?_
   refine Run.slim [(1, u1), (12, .bool true)] ⟨rfl, rfl, trivial⟩ ?_
   exact hj1 (true) _ _ ⟨rfl, (h4.facts .nil).picks (.cons .z .nil)⟩ hF
  ·
   refine op (OpS.fbox (o3 := 2) h4 .z PA.z fa37_2 rfl rfl rfl rfl ?_)
   refine op (OpS.loadBi h4 .z PA.a (Get.fld Message_.f2) ty5 rfl rfl rfl ?_)
   refine op (OpS.rem rfl rfl rfl rfl (by decide) ?_)
   refine op (OpS.bin rfl rfl rfl rfl rfl ?_)
   refine op (OpS.pick rfl rfl rfl rfl ?_)
   refine RunL.nil ?_
   refine Run.slim [(12, .bool ((Int.tmod a0.Function 2) != 1)), (1, u1)] ⟨rfl, rfl, trivial⟩ ?_
   refine Run.slim [(1, u1), (12, .bool ((Int.tmod a0.Function 2) != 1))] ⟨rfl, rfl, trivial⟩ ?_
   exact hj1 ((Int.tmod a0.Function 2) != 1) _ _ ⟨rfl, (h4.facts .nil).picks (.cons .z .nil)⟩ hF
end Lift
