/- Each Go function computes its plain function. Written by lift.py. -/
import Derived.Test.YtmjilnfeddaekaaFacts
namespace Lift
open Go Go.Proofs
theorem made_Light_ok {fuel : Nat} {a0 : List Int} {y : Bool} (hF : made_Light fuel a0 = some y) {w : World} {v0 : Value} :
    Spec Try.prog 8 [v0].toArray w [(false, .val (Rep.slice (Rep.int .i64)) v0 a0)] [] (fun v Γr Ωr Ωo => v = .bool y ∧ Γr = [] ∧ Ωr = [] ∧ Ωo = []) := by
  refine Spec.of (L := [(0, v0)]) Try.func8 rfl ⟨rfl, trivial⟩ rfl (fun e h => ?_)
  unfold made_Light at hF
  refine Run.seq ?_
  refine Run.reg ?_
  refine RunL.op (OpS.as rfl rfl rfl ?_)
  refine RunL.nil ?_
  refine Run.slim [(0, v0)] ⟨rfl, trivial⟩ ?_
  refine Run.seq ?_
  refine Run.reg ?_
  refine RunL.op (OpS.mv rfl rfl rfl ?_)
  refine RunL.op (OpS.len h Try.underlying23 rfl rfl rfl (V.at .z) ?_)
  refine RunL.op (OpS.bin rfl rfl rfl rfl rfl ?_)
  refine RunL.op (OpS.as rfl rfl rfl ?_)
  obtain ⟨x1, e1, hF⟩ := letP_use hF
  refine RunL.nameb e1 ?_
  refine RunL.nil ?_
  refine Run.slim [(2, .bool x1)] ⟨rfl, trivial⟩ ?_
  refine Run.retP rfl (.tmp rfl .nil) ?_
  cases hF
  exact Post.mk' ⟨rfl, rfl, rfl, rfl⟩ (h.picks .nil) .nil
theorem frame_address_ok {fuel : Nat} {a0 : Int} {y : Bool} (hF : frame_address fuel a0 = some y) {w : World} :
    Spec Try.prog 30 [.int .u8 a0].toArray w [] [] (fun v Γr Ωr Ωo => v = .bool y ∧ Γr = [] ∧ Ωr = [] ∧ Ωo = []) := by
  refine Spec.of (L := [(0, .int .u8 a0)]) Try.func30 rfl ⟨rfl, trivial⟩ rfl (fun e h => ?_)
  unfold frame_address at hF
  refine Run.seq ?_
  refine Run.reg ?_
  refine RunL.op (OpS.as rfl rfl rfl ?_)
  refine RunL.nil ?_
  refine Run.slim [(0, .int .u8 a0)] ⟨rfl, trivial⟩ ?_
  refine Run.seq ?_
  refine Run.reg ?_
  refine RunL.op (OpS.mv rfl rfl rfl ?_)
  refine RunL.op (OpS.bin rfl rfl rfl rfl rfl ?_)
  refine RunL.op (OpS.mv rfl rfl rfl ?_)
  refine RunL.caseb hF (fun e1 hF => ?_) (fun e1 hF => ?_)
  ·
    refine RunL.op (OpS.mv rfl rfl rfl ?_)
    refine RunL.op (OpS.bin rfl rfl rfl rfl rfl ?_)
    refine RunL.op (OpS.pick rfl rfl rfl rfl ?_)
    refine RunL.op (OpS.as rfl rfl rfl ?_)
    obtain ⟨x1, e2, hF⟩ := letP_use hF
    refine RunL.nameb e2 ?_
    refine RunL.nil ?_
    refine Run.slim [(2, .bool x1)] ⟨rfl, trivial⟩ ?_
    refine Run.retP rfl (.tmp rfl .nil) ?_
    cases hF
    exact Post.mk' ⟨rfl, rfl, rfl, rfl⟩ (h.picks .nil) .nil
  ·
    refine RunL.op (OpS.pass rfl rfl rfl ?_)
    refine RunL.op (OpS.pass rfl rfl rfl ?_)
    refine RunL.op (OpS.pick rfl rfl rfl rfl ?_)
    refine RunL.op (OpS.as rfl rfl rfl ?_)
    refine RunL.nil ?_
    refine Run.slim [(2, .bool false)] ⟨rfl, trivial⟩ ?_
    refine Run.retP rfl (.tmp rfl .nil) ?_
    cases hF
    exact Post.mk' ⟨rfl, rfl, rfl, rfl⟩ (h.picks .nil) .nil
theorem frame_Valid_ok {fuel : Nat} {a0 : Frame_} {y : Bool} (hF : frame_Valid fuel a0 = some y) {w : World} {v0 : Value} :
    Spec Try.prog 19 [v0].toArray w [(false, .val Frame_.rep v0 a0)] [] (fun v Γr Ωr Ωo => v = .bool y ∧ Γr = [] ∧ Ωr = [] ∧ Ωo = []) := by
  refine Spec.of (L := [(0, v0)]) Try.func19 rfl ⟨rfl, trivial⟩ rfl (fun e h => ?_)
  unfold frame_Valid at hF
  refine Run.seq ?_
  refine Run.reg ?_
  refine RunL.op (OpS.boxF h rfl rfl rfl (V.at .z) (fun u1 w1 h1 => ?_))
  refine RunL.op (OpS.as rfl rfl rfl ?_)
  refine RunL.nil ?_
  refine Run.slim [(1, u1)] ⟨rfl, trivial⟩ ?_
  refine Run.seq ?_
  refine Run.reg ?_
  refine RunL.op (OpS.fbox (o3 := 0) h1 .z PA.z fa30_0 rfl rfl rfl rfl ?_)
  refine RunL.op (OpS.loadBi h1 .z PA.a (Get.fld Frame_.f0) ty5 rfl rfl rfl ?_)
  obtain ⟨y1, e1, hF⟩ := bindP_use hF
  refine RunL.op (OpS.callP h1 Try.func30 rfl rfl rfl rfl (vs := [.int .u8 a0.To]) rfl (frame_address_ok e1) .nil ?_)
  rintro _ w2 _ _ _ ⟨rfl, rfl, rfl, rfl⟩ h2
  have h3 := h2 rfl rfl
  simp only [List.cons_append, List.nil_append] at h3
  refine RunL.op (OpS.mv rfl rfl rfl ?_)
  refine RunL.caseb hF (fun e2 hF => ?_) (fun e2 hF => ?_)
  ·
    refine RunL.op (OpS.fbox (o3 := 1) h3 .z PA.z fa30_1 rfl rfl rfl rfl ?_)
    refine RunL.op (OpS.loadBi h3 .z PA.a (Get.fld Frame_.f1) ty5 rfl rfl rfl ?_)
    obtain ⟨y2, e3, hF⟩ := bindP_use hF
    refine RunL.op (OpS.callP h3 Try.func30 rfl rfl rfl rfl (vs := [.int .u8 a0.From]) rfl (frame_address_ok e3) .nil ?_)
    rintro _ w3 _ _ _ ⟨rfl, rfl, rfl, rfl⟩ h4
    have h5 := h4 rfl rfl
    simp only [List.cons_append, List.nil_append] at h5
    refine RunL.op (OpS.pick rfl rfl rfl rfl ?_)
    refine RunL.op (OpS.mv rfl rfl rfl ?_)
    refine RunL.caseb hF (fun e4 hF => ?_) (fun e4 hF => ?_)
    ·
      refine RunL.op (OpS.fbox (o3 := 2) h5 .z PA.z fa30_2 rfl rfl rfl rfl ?_)
      refine RunL.op (OpS.loadB h5 .z PA.a (Get.fld Frame_.f2) ty22 rfl rfl rfl (fun u2 h6 => ?_))
      refine RunL.op (OpS.len h6 Try.underlying22 rfl rfl rfl (V.at .z) ?_)
      refine RunL.op (OpS.bin rfl rfl rfl rfl rfl ?_)
      refine RunL.op (OpS.pick rfl rfl rfl rfl ?_)
      refine RunL.op (OpS.as rfl rfl rfl ?_)
      obtain ⟨x1, e5, hF⟩ := letP_use hF
      refine RunL.nameb e5 ?_
      refine RunL.nil ?_
      refine Run.slim [(2, .bool x1)] ⟨rfl, trivial⟩ ?_
      refine Run.retP rfl (.tmp rfl .nil) ?_
      cases hF
      exact Post.mk' ⟨rfl, rfl, rfl, rfl⟩ (h6.picks .nil) .nil
    ·
      refine RunL.op (OpS.pass rfl rfl rfl ?_)
      refine RunL.op (OpS.pass rfl rfl rfl ?_)
      refine RunL.op (OpS.pass rfl rfl rfl ?_)
      refine RunL.op (OpS.pass rfl rfl rfl ?_)
      refine RunL.op (OpS.pick rfl rfl rfl rfl ?_)
      refine RunL.op (OpS.as rfl rfl rfl ?_)
      refine RunL.nil ?_
      refine Run.slim [(2, .bool false)] ⟨rfl, trivial⟩ ?_
      refine Run.retP rfl (.tmp rfl .nil) ?_
      cases hF
      exact Post.mk' ⟨rfl, rfl, rfl, rfl⟩ (h5.picks .nil) .nil
  ·
    refine RunL.op (OpS.pass rfl rfl rfl ?_)
    refine RunL.op (OpS.pass rfl rfl rfl ?_)
    refine RunL.op (OpS.pass rfl rfl rfl ?_)
    refine RunL.op (OpS.pick rfl rfl rfl rfl ?_)
    refine RunL.op (OpS.mv rfl rfl rfl ?_)
    refine RunL.op (OpS.pass rfl rfl rfl ?_)
    refine RunL.op (OpS.pass rfl rfl rfl ?_)
    refine RunL.op (OpS.pass rfl rfl rfl ?_)
    refine RunL.op (OpS.pass rfl rfl rfl ?_)
    refine RunL.op (OpS.pick rfl rfl rfl rfl ?_)
    refine RunL.op (OpS.as rfl rfl rfl ?_)
    refine RunL.nil ?_
    refine Run.slim [(2, .bool false)] ⟨rfl, trivial⟩ ?_
    refine Run.retP rfl (.tmp rfl .nil) ?_
    cases hF
    exact Post.mk' ⟨rfl, rfl, rfl, rfl⟩ (h3.picks .nil) .nil
theorem slices_Clone_byte_byte_ok {fuel : Nat} {a0 : List Int} {y : (List Int)} (hF : slices_Clone_byte_byte fuel a0 = some y) {w : World} {v0 : Value} :
    Spec Try.prog 35 [v0].toArray w [(false, .val (Rep.slice (Rep.int .u8)) v0 a0)] [] (fun v Γr Ωr Ωo => ∃ u0 : Value, v = u0 ∧ Γr = [] ∧ Ωr = [(true, .slice 5 (Rep.int .u8) u0 y)] ∧ Ωo = []) := by
  refine Spec.of (L := [(0, v0)]) Try.func35 rfl ⟨rfl, trivial⟩ rfl (fun e h => ?_)
  unfold slices_Clone_byte_byte at hF
  refine Run.seq ?_
  refine Run.reg ?_
  refine RunL.op (OpS.as rfl rfl rfl ?_)
  refine RunL.nil ?_
  refine Run.slim [(0, v0)] ⟨rfl, trivial⟩ ?_
  refine Run.seq ?_
  refine Run.seq ?_
  refine Run.reg ?_
  refine RunL.op (OpS.mv rfl rfl rfl ?_)
  refine RunL.op (OpS.snil h Try.underlying22 rfl rfl rfl (V.at .z) (fun b1 hb1 => ?_))
  refine RunL.nil ?_
  refine Run.slim [(4, .bool b1), (0, v0)] ⟨rfl, rfl, trivial⟩ ?_
  cases b1
  ·
    refine Run.condF rfl ?_
    refine Run.skip ?_
    refine Run.seq ?_
    refine Run.reg ?_
    refine RunL.op (OpS.litO (r := (Rep.int .u8)) (f := true) h Try.underlying22 ti5 rfl rfl rfl rfl rfl .nil rfl rfl (fun u1 w1 h1 => ?_))
    refine RunL.op (OpS.mv rfl rfl rfl ?_)
    obtain ⟨x1, e1, hF⟩ := bindP_use hF
    refine RunL.op (OpS.app (f' := false) h1 .z Try.underlying22 ti5 rfl rfl rfl rfl rfl rfl rfl (V.at .z) (.inr Pure.int) e1 (fun u2 w2 h2 => ?_))
    refine RunL.op (OpS.as rfl rfl rfl ?_)
    refine RunL.nil ?_
    refine Run.slim [(2, u2)] ⟨rfl, trivial⟩ ?_
    refine Run.retP rfl (.tmp rfl .nil) ?_
    cases hF
    exact Post.mk' ⟨u2, rfl, rfl, rfl, rfl⟩ (h2.picks (.cons .z .nil)) .nil
  ·
    obtain rfl := hb1 rfl
    have hF : some ([] : List Int) = some y := by simpa [bindP, app] using hF
    refine Run.condT rfl ?_
    refine Run.seq ?_
    refine Run.reg ?_
    refine RunL.op (OpS.as rfl rfl rfl ?_)
    refine RunL.nil ?_
    refine Run.slim [(2, .slice none 0 0)] ⟨rfl, trivial⟩ ?_
    have h3 := St.nil 5 (Rep.int .u8) h
    refine Run.retP rfl (.tmp rfl .nil) ?_
    cases hF
    exact Post.mk' ⟨(.slice none 0 0), rfl, rfl, rfl, rfl⟩ (h3.picks (.cons .z .nil)) .nil
theorem checksum_CRC8_ok {fuel : Nat} {a0 : List Int} {y : Int} (hF : checksum_CRC8 fuel a0 = some y) {w : World} {v0 : Value} :
    Spec Try.prog 38 [v0].toArray w [(false, .val (Rep.slice (Rep.int .u8)) v0 a0)] [] (fun v Γr Ωr Ωo => v = .int .u8 y ∧ Γr = [] ∧ Ωr = [] ∧ Ωo = []) := by
  refine Spec.of (L := [(0, v0)]) Try.func38 rfl ⟨rfl, trivial⟩ rfl (fun e h => ?_)
  unfold checksum_CRC8 at hF
  refine Run.seq ?_
  refine Run.reg ?_
  refine RunL.op (OpS.as rfl rfl rfl ?_)
  refine RunL.nil ?_
  refine Run.slim [(0, v0)] ⟨rfl, trivial⟩ ?_
  refine Run.seq ?_
  refine Run.reg ?_
  refine RunL.op (OpS.as rfl rfl rfl ?_)
  refine RunL.nil ?_
  refine Run.seq ?_
  refine Run.seq ?_
  refine Run.reg ?_
  refine RunL.op (OpS.mv rfl rfl rfl ?_)
  refine RunL.op (OpS.len h Try.underlying22 rfl rfl rfl (V.at .z) ?_)
  refine RunL.op (OpS.mv rfl rfl rfl ?_)
  refine RunL.nil ?_
  refine Run.slim [(9, .int .i64 0), (8, .int .i64 (a0.length : Int)), (7, v0), (3, .int .u8 0)] ⟨rfl, rfl, rfl, rfl, trivial⟩ ?_
  refine Run.block ?_
  refine Run.slim [(3, .int .u8 0), (7, v0), (8, .int .i64 (a0.length : Int)), (9, .int .i64 0)] ⟨rfl, rfl, rfl, rfl, trivial⟩ ?_
  refine Run.loopP (σ := (Int × Int)) (fun s_ L_ w_ => L_ = [(3, .int .u8 s_.1), (7, v0), (8, .int .i64 (a0.length : Int)), (9, .int .i64 s_.2)] ∧ St e w_ [(false, .val (Rep.slice (Rep.int .u8)) v0 a0)] []) hF ⟨rfl, (h.facts (.atm .z .nil)).picks .nil⟩ (fun k1 hk1 s1 _ w1 hI hF => ?_)
  obtain ⟨rfl, h1⟩ := hI
  refine Run.seq ?_
  refine Run.reg ?_
  refine RunL.op (OpS.bin rfl rfl rfl rfl rfl ?_)
  refine RunL.nil ?_
  refine Run.seq ?_
  refine Run.ite rfl hF (fun e1 hF => ?_) (fun e1 hF => ?_)
  ·
    refine Run.skip ?_
    refine Run.seq ?_
    refine Run.block ?_
    refine Run.seq ?_
    refine Run.reg ?_
    obtain ⟨x1, e2, hF⟩ := bindP_use hF
    refine RunL.op (OpS.iptr h1 Try.underlying22 ty5 rfl rfl rfl rfl (V.at .z) e2 (fun u1 h2 => ?_))
    refine RunL.op (OpS.loadi h2 ty5 rfl rfl rfl .z ?_)
    refine RunL.op (OpS.as rfl rfl rfl ?_)
    refine RunL.nil ?_
    refine Run.slim [(5, .int .u8 x1), (3, .int .u8 s1.1), (7, v0), (8, .int .i64 (a0.length : Int)), (9, .int .i64 s1.2)] ⟨rfl, rfl, rfl, rfl, rfl, trivial⟩ ?_
    refine Run.seq ?_
    refine Run.reg ?_
    refine RunL.op (OpS.mv rfl rfl rfl ?_)
    refine RunL.op (OpS.mv rfl rfl rfl ?_)
    refine RunL.op (OpS.bin rfl rfl rfl rfl rfl ?_)
    refine RunL.op (OpS.as rfl rfl rfl ?_)
    refine RunL.nil ?_
    refine Run.slim [(3, .int .u8 (bXor .u8 s1.1 x1)), (7, v0), (8, .int .i64 (a0.length : Int)), (9, .int .i64 s1.2)] ⟨rfl, rfl, rfl, rfl, trivial⟩ ?_
    refine Run.seq ?_
    refine Run.reg ?_
    refine RunL.op (OpS.mv rfl rfl rfl ?_)
    refine RunL.nil ?_
    refine Run.block ?_
    refine Run.slim [(3, .int .u8 (bXor .u8 s1.1 x1)), (7, v0), (8, .int .i64 (a0.length : Int)), (9, .int .i64 s1.2), (16, .int .i64 0)] ⟨rfl, rfl, rfl, rfl, rfl, trivial⟩ ?_
    refine Run.loopP (σ := (Int × Int)) (fun s_ L_ w_ => L_ = [(3, .int .u8 s_.1), (7, v0), (8, .int .i64 (a0.length : Int)), (9, .int .i64 s1.2), (16, .int .i64 s_.2)] ∧ St e w_ [(false, .val (Rep.slice (Rep.int .u8)) v0 a0)] []) hF ⟨rfl, (h2.facts (.atm (.s .z) .nil)).picks .nil⟩ (fun k2 hk2 s2 _ w2 hI hF => ?_)
    obtain ⟨rfl, h3⟩ := hI
    refine Run.seq ?_
    refine Run.reg ?_
    refine RunL.op (OpS.bin rfl rfl rfl rfl rfl ?_)
    refine RunL.nil ?_
    refine Run.seq ?_
    refine Run.ite rfl hF (fun e3 hF => ?_) (fun e3 hF => ?_)
    ·
      refine Run.skip ?_
      refine Run.seq ?_
      refine Run.block ?_
      refine Run.seq ?_
      refine Run.reg ?_
      refine RunL.op (OpS.mv rfl rfl rfl ?_)
      refine RunL.op (OpS.shr rfl rfl rfl rfl (by decide) ?_)
      refine RunL.op (OpS.as rfl rfl rfl ?_)
      refine RunL.nil ?_
      refine Run.slim [(6, .int .u8 (bShr .u8 s2.1 7)), (3, .int .u8 s2.1), (7, v0), (8, .int .i64 (a0.length : Int)), (9, .int .i64 s1.2), (16, .int .i64 s2.2)] ⟨rfl, rfl, rfl, rfl, rfl, rfl, trivial⟩ ?_
      refine Run.reg ?_
      refine RunL.op (OpS.mv rfl rfl rfl ?_)
      refine RunL.op (OpS.shl rfl rfl rfl rfl (by decide) ?_)
      refine RunL.op (OpS.mv rfl rfl rfl ?_)
      refine RunL.op (OpS.bin rfl rfl rfl rfl rfl ?_)
      refine RunL.op (OpS.bin rfl rfl rfl rfl rfl ?_)
      refine RunL.op (OpS.as rfl rfl rfl ?_)
      obtain ⟨x2, e4, hF⟩ := letP_use hF
      refine RunL.name e4 ?_
      refine RunL.nil ?_
      refine Run.slim [(3, .int .u8 x2), (7, v0), (8, .int .i64 (a0.length : Int)), (9, .int .i64 s1.2), (16, .int .i64 s2.2)] ⟨rfl, rfl, rfl, rfl, rfl, trivial⟩ ?_
      refine Run.endBlock ?_
      refine Run.reg ?_
      refine RunL.op (OpS.bin rfl rfl rfl rfl rfl ?_)
      refine RunL.op (OpS.mv rfl rfl rfl ?_)
      refine RunL.nil ?_
      refine Run.slim [(16, .int .i64 (IntKind.i64.wrap (s2.2 + 1))), (3, .int .u8 x2), (7, v0), (8, .int .i64 (a0.length : Int)), (9, .int .i64 s1.2)] ⟨rfl, rfl, rfl, rfl, rfl, trivial⟩ ?_
      refine Run.slim [(3, .int .u8 x2), (7, v0), (8, .int .i64 (a0.length : Int)), (9, .int .i64 s1.2), (16, .int .i64 (IntKind.i64.wrap (s2.2 + 1)))] ⟨rfl, rfl, rfl, rfl, rfl, trivial⟩ ?_
      exact hk2 (x2, (IntKind.i64.wrap (s2.2 + 1))) _ _ ⟨rfl, (h3.facts (.atm .z .nil)).picks .nil⟩ hF
    ·
      refine Run.exit rfl ?_
      refine Run.endBlock ?_
      refine Run.reg ?_
      refine RunL.op (OpS.bin rfl rfl rfl rfl rfl ?_)
      refine RunL.op (OpS.mv rfl rfl rfl ?_)
      refine RunL.nil ?_
      refine Run.slim [(9, .int .i64 (IntKind.i64.wrap (s1.2 + 1))), (3, .int .u8 s2.1), (7, v0), (8, .int .i64 (a0.length : Int))] ⟨rfl, rfl, rfl, rfl, trivial⟩ ?_
      refine Run.slim [(3, .int .u8 s2.1), (7, v0), (8, .int .i64 (a0.length : Int)), (9, .int .i64 (IntKind.i64.wrap (s1.2 + 1)))] ⟨rfl, rfl, rfl, rfl, trivial⟩ ?_
      exact hk1 (s2.1, (IntKind.i64.wrap (s1.2 + 1))) _ _ ⟨rfl, (h3.facts (.atm .z .nil)).picks .nil⟩ hF
  ·
    refine Run.exit rfl ?_
    refine Run.seq ?_
    refine Run.reg ?_
    refine RunL.op (OpS.mv rfl rfl rfl ?_)
    refine RunL.op (OpS.as rfl rfl rfl ?_)
    refine RunL.nil ?_
    refine Run.slim [(2, .int .u8 s1.1)] ⟨rfl, trivial⟩ ?_
    refine Run.retP rfl (.tmp rfl .nil) ?_
    cases hF
    exact Post.mk' ⟨rfl, rfl, rfl, rfl⟩ (h1.picks .nil) .nil
theorem checksum_SealCRC8_ok {fuel : Nat} {a0 : List Int} {y : (List Int)} (hF : checksum_SealCRC8 fuel a0 = some y) {w : World} {v0 : Value} :
    Spec Try.prog 29 [v0].toArray w [(false, .val (Rep.slice (Rep.int .u8)) v0 a0)] [] (fun v Γr Ωr Ωo => ∃ u0 : Value, v = u0 ∧ Γr = [] ∧ Ωr = [(true, .slice 5 (Rep.int .u8) u0 y)] ∧ Ωo = []) := by
  refine Spec.of (L := [(0, v0)]) Try.func29 rfl ⟨rfl, trivial⟩ rfl (fun e h => ?_)
  unfold checksum_SealCRC8 at hF
  refine Run.seq ?_
  refine Run.reg ?_
  refine RunL.op (OpS.as rfl rfl rfl ?_)
  refine RunL.nil ?_
  refine Run.slim [(0, v0)] ⟨rfl, trivial⟩ ?_
  refine Run.seq ?_
  refine Run.reg ?_
  refine RunL.op (OpS.mv rfl rfl rfl ?_)
  obtain ⟨y1, e1, hF⟩ := bindP_use hF
  refine RunL.op (OpS.callP h Try.func35 rfl rfl rfl rfl (vs := [v0]) rfl (slices_Clone_byte_byte_ok e1) (.cons (V.at .z) .nil) ?_)
  rintro u1 w1 _ _ _ ⟨_, rfl, rfl, rfl, rfl⟩ h1
  have h2 := h1 rfl rfl
  simp only [List.cons_append, List.nil_append] at h2
  refine RunL.op (OpS.mv rfl rfl rfl ?_)
  obtain ⟨y2, e2, hF⟩ := bindP_use hF
  refine RunL.op (OpS.callP h2 Try.func38 rfl rfl rfl rfl (vs := [v0]) rfl (checksum_CRC8_ok e2) (.cons (V.at .z) .nil) ?_)
  rintro _ w2 _ _ _ ⟨rfl, rfl, rfl, rfl⟩ h3
  have h4 := h3 rfl rfl
  simp only [List.cons_append, List.nil_append] at h4
  refine RunL.op (OpS.lit (r := (Rep.int .u8)) (f := true) h4 Try.underlying22 ti5 rfl rfl rfl rfl rfl (.cons rfl V.int .nil) rfl rfl (fun u2 w3 h5 => ?_))
  obtain ⟨x1, e3, hF⟩ := bindP_use hF
  refine RunL.op (OpS.app (f' := true) h5 .z Try.underlying22 ti5 rfl rfl rfl rfl rfl rfl rfl (V.at .z) (.inr Pure.int) e3 (fun u3 w4 h6 => ?_))
  refine RunL.op (OpS.as rfl rfl rfl ?_)
  refine RunL.nil ?_
  refine Run.slim [(2, u3)] ⟨rfl, trivial⟩ ?_
  refine Run.retP rfl (.tmp rfl .nil) ?_
  cases hF
  exact Post.mk' ⟨u3, rfl, rfl, rfl, rfl⟩ (h6.picks (.cons .z .nil)) .nil
theorem frame_Encode_ok {fuel : Nat} {a0 : Frame_} {y : (List Int) × Int} (hF : frame_Encode fuel a0 = some y) {w : World} {v0 : Value} :
    Spec Try.prog 15 [v0].toArray w [(false, .val Frame_.rep v0 a0)] [] (fun v Γr Ωr Ωo => ∃ u0 : Value, v = .tuple #[u0, .int .i64 y.2] ∧ Γr = [] ∧ Ωr = [(true, .slice 5 (Rep.int .u8) u0 y.1)] ∧ Ωo = []) := by
  refine Spec.of (L := [(0, v0)]) Try.func15 rfl ⟨rfl, trivial⟩ rfl (fun e h => ?_)
  unfold frame_Encode at hF
  refine Run.seq ?_
  refine Run.reg ?_
  refine RunL.op (OpS.boxF h rfl rfl rfl (V.at .z) (fun u1 w1 h1 => ?_))
  refine RunL.op (OpS.as rfl rfl rfl ?_)
  refine RunL.op (OpS.as rfl rfl rfl ?_)
  refine RunL.nil ?_
  refine Run.slim [(1, u1)] ⟨rfl, trivial⟩ ?_
  refine Run.seq ?_
  refine Run.seq ?_
  refine Run.reg ?_
  refine RunL.op (OpS.loadB h1 .z PA.z Get.id ty30 rfl rfl rfl (fun u2 h2 => ?_))
  obtain ⟨y1, e1, hF⟩ := bindP_use hF
  refine RunL.op (OpS.callP h2 Try.func19 rfl rfl rfl rfl (vs := [u2]) rfl (frame_Valid_ok e1) (.cons (V.at .z) .nil) ?_)
  rintro _ w2 _ _ _ ⟨rfl, rfl, rfl, rfl⟩ h3
  have h4 := h3 rfl rfl
  simp only [List.cons_append, List.nil_append] at h4
  refine RunL.op (OpS.not rfl rfl rfl ?_)
  refine RunL.nil ?_
  refine Run.slim [(6, .bool (!y1)), (1, u1)] ⟨rfl, rfl, trivial⟩ ?_
  refine Run.ite rfl hF (fun e2 hF => ?_) (fun e2 hF => ?_)
  ·
    refine Run.seq ?_
    refine Run.reg ?_
    refine RunL.op (OpS.as rfl rfl rfl ?_)
    refine RunL.op (OpS.as rfl rfl rfl ?_)
    refine RunL.nil ?_
    refine Run.slim [(3, .int .i64 1), (2, .slice none 0 0)] ⟨rfl, rfl, trivial⟩ ?_
    have h5 := St.nil 5 (Rep.int .u8) h4
    refine Run.retP rfl (.tmp rfl (.tmp rfl .nil)) ?_
    cases hF
    exact Post.mk' ⟨(.slice none 0 0), rfl, rfl, rfl, rfl⟩ (h5.picks (.cons .z .nil)) .nil
  ·
    refine Run.skip ?_
    refine Run.seq ?_
    refine Run.reg ?_
    refine RunL.op (OpS.fbox (o3 := 0) h4 .z PA.z fa30_0 rfl rfl rfl rfl ?_)
    refine RunL.op (OpS.loadBi h4 .z PA.a (Get.fld Frame_.f0) ty5 rfl rfl rfl ?_)
    refine RunL.op (OpS.bin rfl rfl rfl rfl rfl ?_)
    refine RunL.op (OpS.fbox (o3 := 2) h4 .z PA.z fa30_2 rfl rfl rfl rfl ?_)
    refine RunL.op (OpS.loadB h4 .z PA.a (Get.fld Frame_.f2) ty22 rfl rfl rfl (fun u3 h6 => ?_))
    refine RunL.op (OpS.len h6 Try.underlying22 rfl rfl rfl (V.at .z) ?_)
    refine RunL.op (OpS.bin rfl rfl rfl rfl rfl ?_)
    refine RunL.op (OpS.conv Try.underlying3 Try.underlying5 rfl rfl rfl ?_)
    refine RunL.op (OpS.fbox (o3 := 1) h6 .z PA.z fa30_1 rfl rfl rfl rfl ?_)
    refine RunL.op (OpS.loadBi h6 .z PA.a (Get.fld Frame_.f1) ty5 rfl rfl rfl ?_)
    refine RunL.op (OpS.bin rfl rfl rfl rfl rfl ?_)
    refine RunL.op (OpS.bin rfl rfl rfl rfl rfl ?_)
    refine RunL.op (OpS.litO (r := (Rep.int .u8)) (f := true) h6 Try.underlying22 ti5 rfl rfl rfl rfl rfl (.cons rfl V.int (.cons rfl V.int (.cons rfl V.int (.cons rfl V.int .nil)))) rfl rfl (fun u4 w3 h7 => ?_))
    refine RunL.op (OpS.fbox (o3 := 2) h7 (.s .z) PA.z fa30_2 rfl rfl rfl rfl ?_)
    refine RunL.op (OpS.loadB h7 (.s .z) PA.a (Get.fld Frame_.f2) ty22 rfl rfl rfl (fun u5 h8 => ?_))
    obtain ⟨x1, e3, hF⟩ := bindP_use hF
    refine RunL.op (OpS.app (f' := false) h8 .z Try.underlying22 ti5 rfl rfl rfl rfl rfl rfl rfl (V.at .z) (.inr Pure.int) e3 (fun u6 w4 h9 => ?_))
    obtain ⟨y2, e4, hF⟩ := bindP_use hF
    refine RunL.op (OpS.callP h9 Try.func29 rfl rfl rfl rfl (vs := [u6]) rfl (checksum_SealCRC8_ok e4) (.own .z .nil) ?_)
    rintro u7 w5 _ _ _ ⟨_, rfl, rfl, rfl, rfl⟩ h10
    have h11 := h10 rfl rfl
    simp only [List.cons_append, List.nil_append] at h11
    refine RunL.op (OpS.as rfl rfl rfl ?_)
    refine RunL.op (OpS.as rfl rfl rfl ?_)
    refine RunL.nil ?_
    refine Run.slim [(3, .int .i64 0), (2, u7)] ⟨rfl, rfl, trivial⟩ ?_
    refine Run.retP rfl (.tmp rfl (.tmp rfl .nil)) ?_
    cases hF
    exact Post.mk' ⟨u7, rfl, rfl, rfl, rfl⟩ (h11.picks (.cons .z .nil)) .nil
theorem ref01_Same_ok {fuel : Nat} {a0 : List Int} {a1 : List Int} {y : Bool} (hF : ref01_Same fuel a0 a1 = some y) {w : World} {v0 v1 : Value} :
    Spec Try.prog 21 [v0, v1].toArray w [(false, .val (Rep.slice (Rep.int .u8)) v0 a0), (false, .val (Rep.slice (Rep.int .u8)) v1 a1)] [] (fun v Γr Ωr Ωo => v = .bool y ∧ Γr = [] ∧ Ωr = [] ∧ Ωo = []) := by
  refine Spec.of (L := [(0, v0), (1, v1)]) Try.func21 rfl ⟨rfl, rfl, trivial⟩ rfl (fun e h => ?_)
  unfold ref01_Same at hF
  refine Run.seq ?_
  refine Run.reg ?_
  refine RunL.op (OpS.as rfl rfl rfl ?_)
  refine RunL.nil ?_
  refine Run.slim [(0, v0), (1, v1)] ⟨rfl, rfl, trivial⟩ ?_
  refine Run.seq ?_
  refine Run.seq ?_
  refine Run.reg ?_
  refine RunL.op (OpS.mv rfl rfl rfl ?_)
  refine RunL.op (OpS.len h Try.underlying22 rfl rfl rfl (V.at .z) ?_)
  refine RunL.op (OpS.mv rfl rfl rfl ?_)
  refine RunL.op (OpS.len h Try.underlying22 rfl rfl rfl (V.at (.s .z)) ?_)
  refine RunL.op (OpS.bin rfl rfl rfl rfl rfl ?_)
  refine RunL.nil ?_
  refine Run.slim [(10, .bool ((a0.length : Int) != (a1.length : Int))), (0, v0), (1, v1)] ⟨rfl, rfl, rfl, trivial⟩ ?_
  refine Run.ite rfl hF (fun e1 hF => ?_) (fun e1 hF => ?_)
  ·
    refine Run.seq ?_
    refine Run.reg ?_
    refine RunL.op (OpS.as rfl rfl rfl ?_)
    refine RunL.nil ?_
    refine Run.slim [(4, .bool false)] ⟨rfl, trivial⟩ ?_
    refine Run.retP rfl (.tmp rfl .nil) ?_
    cases hF
    exact Post.mk' ⟨rfl, rfl, rfl, rfl⟩ (h.picks .nil) .nil
  ·
    refine Run.skip ?_
    refine Run.seq ?_
    refine Run.seq ?_
    refine Run.reg ?_
    refine RunL.op (OpS.as rfl rfl rfl ?_)
    refine RunL.nil ?_
    refine Run.slim [(5, .int .i64 0), (0, v0), (1, v1)] ⟨rfl, rfl, rfl, trivial⟩ ?_
    refine Run.block ?_
    refine Run.slim [(0, v0), (1, v1), (5, .int .i64 0)] ⟨rfl, rfl, rfl, trivial⟩ ?_
    refine Run.loopP (σ := Int) (fun s_ L_ w_ => L_ = [(0, v0), (1, v1), (5, .int .i64 s_)] ∧ St e w_ [(false, .val (Rep.slice (Rep.int .u8)) v0 a0), (false, .val (Rep.slice (Rep.int .u8)) v1 a1)] []) hF ⟨rfl, (h.facts (.atm .z (.atm (.s .z) .nil))).picks .nil⟩ (fun k1 hk1 s1 _ w1 hI hF => ?_)
    obtain ⟨rfl, h1⟩ := hI
    refine Run.seq ?_
    refine Run.seq ?_
    refine Run.reg ?_
    refine RunL.op (OpS.mv rfl rfl rfl ?_)
    refine RunL.op (OpS.mv rfl rfl rfl ?_)
    refine RunL.op (OpS.len h1 Try.underlying22 rfl rfl rfl (V.at .z) ?_)
    refine RunL.op (OpS.bin rfl rfl rfl rfl rfl ?_)
    refine RunL.nil ?_
    refine Run.slim [(14, .bool (decide (s1 < (a0.length : Int)))), (0, v0), (1, v1), (5, .int .i64 s1)] ⟨rfl, rfl, rfl, rfl, trivial⟩ ?_
    refine Run.ite rfl hF (fun e2 hF => ?_) (fun e2 hF => ?_)
    ·
      refine Run.skip ?_
      refine Run.seq ?_
      refine Run.block ?_
      refine Run.seq ?_
      obtain ⟨x1, e3, hF⟩ := bindP_use hF
      obtain ⟨x2, e4, hF⟩ := bindP_use hF
      refine Run.drawV (Ωs := []) [⟨some 17, some (v0), fun _ => [], fun ds_ u_ => [], [], [], none⟩, ⟨some 18, some (.int .i64 s1), fun _ => [], fun ds_ u_ => [], [], [], none⟩, ⟨some 19, none, fun u_ => [(false, .ptr (Rep.int .u8) u_ x1)], fun ds_ u_ => [], [], [], none⟩, ⟨some 20, some (.int .u8 x1), fun _ => [], fun ds_ u_ => [], [], [], none⟩, ⟨some 21, some (v1), fun _ => [], fun ds_ u_ => [], [], [], none⟩, ⟨some 22, some (.int .i64 s1), fun _ => [], fun ds_ u_ => [], [], [], none⟩, ⟨some 23, none, fun u_ => [(false, .ptr (Rep.int .u8) u_ x2)], fun ds_ u_ => [], [], [], none⟩, ⟨some 24, some (.int .u8 x2), fun _ => [], fun ds_ u_ => [], [], [], none⟩, ⟨some 25, some (.bool (x1 != x2)), fun _ => [], fun ds_ u_ => [], [], [], none⟩] [[], [], [0, 1], [2], [], [], [4, 5], [6], [3, 7]] [] [0, 1, 2, 3, 4, 5, 6, 7, 8] Try_mixed rfl rfl rfl h1 (.cons ?_ (.cons ?_ (.cons ?_ (.cons ?_ (.cons ?_ (.cons ?_ (.cons ?_ (.cons ?_ (.cons ?_ .nil))))))))) (fun q1 w hq1 h => ?_)
      · intro q1 w Γx Ωx h
        refine OpS.mv rfl rfl rfl ?_
        exact ⟨undef, rfl, trivial, h⟩
      · intro q1 w Γx Ωx h
        refine OpS.mv rfl rfl rfl ?_
        exact ⟨undef, rfl, trivial, h⟩
      · intro q1 w Γx Ωx h
        refine OpS.iptr h Try.underlying22 ty5 rfl rfl rfl rfl (V.at .z) e3 (fun u h4 => ?_)
        exact ⟨u, rfl, trivial, h4⟩
      · intro q1 w Γx Ωx h
        refine OpS.loadi h ty5 rfl rfl rfl .z ?_
        exact ⟨undef, rfl, trivial, h⟩
      · intro q1 w Γx Ωx h
        refine OpS.mv rfl rfl rfl ?_
        exact ⟨undef, rfl, trivial, h⟩
      · intro q1 w Γx Ωx h
        refine OpS.mv rfl rfl rfl ?_
        exact ⟨undef, rfl, trivial, h⟩
      · intro q1 w Γx Ωx h
        refine OpS.iptr h Try.underlying22 ty5 rfl rfl rfl rfl (V.at (.s .z)) e4 (fun u h5 => ?_)
        exact ⟨u, rfl, trivial, h5⟩
      · intro q1 w Γx Ωx h
        refine OpS.loadi h ty5 rfl rfl rfl .z ?_
        exact ⟨undef, rfl, trivial, h⟩
      · intro q1 w Γx Ωx h
        refine OpS.bin rfl rfl rfl rfl rfl ?_
        exact ⟨undef, rfl, trivial, h⟩
      have h6 : St e w [(false, .ptr (Rep.int .u8) (q1 2) x1), (false, .ptr (Rep.int .u8) (q1 6) x2), (false, .val (Rep.slice (Rep.int .u8)) v0 a0), (false, .val (Rep.slice (Rep.int .u8)) v1 a1)] [] := h
      refine RunL.nil ?_
      refine Run.slim [(25, .bool (x1 != x2)), (0, v0), (1, v1), (5, .int .i64 s1)] ⟨rfl, rfl, rfl, rfl, trivial⟩ ?_
      refine Run.ite rfl hF (fun e5 hF => ?_) (fun e5 hF => ?_)
      ·
        refine Run.seq ?_
        refine Run.reg ?_
        refine RunL.op (OpS.as rfl rfl rfl ?_)
        refine RunL.nil ?_
        refine Run.slim [(4, .bool false)] ⟨rfl, trivial⟩ ?_
        refine Run.retP rfl (.tmp rfl .nil) ?_
        cases hF
        exact Post.mk' ⟨rfl, rfl, rfl, rfl⟩ (h6.picks .nil) .nil
      ·
        refine Run.skip ?_
        refine Run.endBlock ?_
        refine Run.reg ?_
        refine RunL.op (OpS.mv rfl rfl rfl ?_)
        refine RunL.op (OpS.bin rfl rfl rfl rfl rfl ?_)
        refine RunL.op (OpS.as rfl rfl rfl ?_)
        obtain ⟨x3, e6, hF⟩ := letP_use hF
        refine RunL.name e6 ?_
        refine RunL.nil ?_
        refine Run.slim [(5, .int .i64 x3), (0, v0), (1, v1)] ⟨rfl, rfl, rfl, trivial⟩ ?_
        refine Run.slim [(0, v0), (1, v1), (5, .int .i64 x3)] ⟨rfl, rfl, rfl, trivial⟩ ?_
        exact hk1 (x3) _ _ ⟨rfl, (h6.facts (.atm (.s (.s .z)) (.atm (.s (.s (.s .z))) .nil))).picks .nil⟩ hF
    ·
      refine Run.exit rfl ?_
      refine Run.seq ?_
      refine Run.reg ?_
      refine RunL.op (OpS.as rfl rfl rfl ?_)
      refine RunL.nil ?_
      refine Run.slim [(4, .bool true)] ⟨rfl, trivial⟩ ?_
      refine Run.retP rfl (.tmp rfl .nil) ?_
      cases hF
      exact Post.mk' ⟨rfl, rfl, rfl, rfl⟩ (h1.picks .nil) .nil
theorem bytes_Compare_ok {fuel : Nat} {a0 : List Int} {a1 : List Int} {y : Int} (hF : bytes_Compare fuel a0 a1 = some y) {w : World} {v0 v1 : Value} :
    Spec Try.prog 28 [v0, v1].toArray w [(false, .val (Rep.slice (Rep.int .u8)) v0 a0), (false, .val (Rep.slice (Rep.int .u8)) v1 a1)] [] (fun v Γr Ωr Ωo => v = .int .i64 y ∧ Γr = [] ∧ Ωr = [] ∧ Ωo = []) := by
  refine Spec.of (L := [(0, v0), (1, v1)]) Try.func28 rfl ⟨rfl, rfl, trivial⟩ rfl (fun e h => ?_)
  unfold bytes_Compare at hF
  refine Run.seq ?_
  refine Run.reg ?_
  refine RunL.op (OpS.as rfl rfl rfl ?_)
  refine RunL.nil ?_
  refine Run.slim [(0, v0), (1, v1)] ⟨rfl, rfl, trivial⟩ ?_
  refine Run.seq ?_
  refine Run.reg ?_
  refine RunL.op (OpS.mv rfl rfl rfl ?_)
  refine RunL.op (OpS.mv rfl rfl rfl ?_)
  refine RunL.op (OpS.cmpB h Try.func37 rfl rfl ext37n ext37 rfl rfl rfl rfl (V.at .z) (V.at (.s .z)) ?_)
  refine RunL.op (OpS.as rfl rfl rfl ?_)
  refine RunL.nil ?_
  refine Run.slim [(4, .int .i64 (cmpB a0 a1))] ⟨rfl, trivial⟩ ?_
  refine Run.retP rfl (.tmp rfl .nil) ?_
  cases hF
  exact Post.mk' ⟨rfl, rfl, rfl, rfl⟩ (h.picks .nil) .nil
theorem frame_Compare_ok {fuel : Nat} {a0 : List Int} {a1 : List Int} {y : Int} (hF : frame_Compare fuel a0 a1 = some y) {w : World} {v0 v1 : Value} :
    Spec Try.prog 13 [v0, v1].toArray w [(false, .val (Rep.slice (Rep.int .u8)) v0 a0), (false, .val (Rep.slice (Rep.int .u8)) v1 a1)] [] (fun v Γr Ωr Ωo => v = .int .i64 y ∧ Γr = [] ∧ Ωr = [] ∧ Ωo = []) := by
  refine Spec.of (L := [(0, v0), (1, v1)]) Try.func13 rfl ⟨rfl, rfl, trivial⟩ rfl (fun e h => ?_)
  unfold frame_Compare at hF
  refine Run.seq ?_
  refine Run.reg ?_
  refine RunL.op (OpS.as rfl rfl rfl ?_)
  refine RunL.nil ?_
  refine Run.slim [(0, v0), (1, v1)] ⟨rfl, rfl, trivial⟩ ?_
  refine Run.seq ?_
  refine Run.reg ?_
  refine RunL.op (OpS.mv rfl rfl rfl ?_)
  refine RunL.op (OpS.mv rfl rfl rfl ?_)
  obtain ⟨y1, e1, hF⟩ := bindP_use hF
  refine RunL.op (OpS.callP h Try.func28 rfl rfl rfl rfl (vs := [v0, v1]) rfl (bytes_Compare_ok e1) (.cons (V.at .z) (.cons (V.at (.s .z)) .nil)) ?_)
  rintro _ w1 _ _ _ ⟨rfl, rfl, rfl, rfl⟩ h1
  have h2 := h1 rfl rfl
  simp only [List.cons_append, List.nil_append] at h2
  refine RunL.op (OpS.as rfl rfl rfl ?_)
  refine RunL.nil ?_
  refine Run.slim [(4, .int .i64 y1)] ⟨rfl, trivial⟩ ?_
  refine Run.retP rfl (.tmp rfl .nil) ?_
  cases hF
  exact Post.mk' ⟨rfl, rfl, rfl, rfl⟩ (h2.picks .nil) .nil
theorem law20_awake_ok {fuel : Nat}  {y : Bool} (hF : law20_awake fuel  = some y) {w : World} :
    Spec Try.prog 9 [].toArray w [] [] (fun v Γr Ωr Ωo => v = .bool y ∧ Γr = [] ∧ Ωr = [] ∧ Ωo = []) := by
  refine Spec.of (L := []) Try.func9 rfl trivial rfl (fun e h => ?_)
  unfold law20_awake at hF
  refine Run.seq ?_
  refine Run.reg ?_
  refine RunL.op (OpS.as rfl rfl rfl ?_)
  refine RunL.nil ?_
  refine Run.slim [] trivial ?_
  refine Run.seq ?_
  refine Run.reg ?_
  refine RunL.op (OpS.lit (r := (Rep.int .u8)) (f := true) h Try.underlying22 ti5 rfl rfl rfl rfl rfl (.cons rfl V.int .nil) rfl rfl (fun u1 w1 h1 => ?_))
  refine RunL.op (OpS.build (f := true) (x' := (⟨16, 32, [171]⟩ : Frame_)) h1 pl30 ti30 Frame_.zr rfl rfl rfl (.cons rfl Frame_.f0 rfl V.int (.cons rfl Frame_.f1 rfl V.int (.cons rfl Frame_.f2 rfl (V.at .z) .nil))) (fun u2 h2 => ?_))
  obtain ⟨y1, e1, hF⟩ := bindP_use hF
  refine RunL.op (OpS.callP h2 Try.func15 rfl rfl rfl rfl (vs := [u2]) rfl (frame_Encode_ok e1) (.cons (V.at .z) .nil) ?_)
  rintro _ w2 _ _ _ ⟨u3, rfl, rfl, rfl, rfl⟩ h3
  have h4 := h3 rfl rfl
  simp only [List.cons_append, List.nil_append] at h4
  refine RunL.op (OpS.mv rfl rfl rfl ?_)
  refine RunL.op (OpS.ext rfl rfl rfl rfl ?_)
  refine RunL.op (OpS.ext rfl rfl rfl rfl ?_)
  refine RunL.op (OpS.as rfl rfl rfl ?_)
  have h5 := (h4.pick .z).freeze
  refine RunL.op (OpS.as rfl rfl rfl ?_)
  refine RunL.nil ?_
  refine Run.slim [(2, .int .i64 y1.2), (1, u3)] ⟨rfl, rfl, trivial⟩ ?_
  refine Run.seq ?_
  refine Run.reg ?_
  refine RunL.op (OpS.mv rfl rfl rfl ?_)
  refine RunL.op (OpS.bin rfl rfl rfl rfl rfl ?_)
  refine RunL.op (OpS.mv rfl rfl rfl ?_)
  refine RunL.caseb hF (fun e2 hF => ?_) (fun e2 hF => ?_)
  ·
    refine RunL.op (OpS.mv rfl rfl rfl ?_)
    refine RunL.op (OpS.len h5 Try.underlying22 rfl rfl rfl (V.at .z) ?_)
    refine RunL.op (OpS.bin rfl rfl rfl rfl rfl ?_)
    refine RunL.op (OpS.pick rfl rfl rfl rfl ?_)
    refine RunL.op (OpS.mv rfl rfl rfl ?_)
    refine RunL.caseb hF (fun e3 hF => ?_) (fun e3 hF => ?_)
    ·
      refine RunL.op (OpS.mv rfl rfl rfl ?_)
      obtain ⟨x1, e4, hF⟩ := bindP_use hF
      refine RunL.op (OpS.sub h5 Try.underlying22 ty5 rfl rfl rfl rfl rfl (V.at .z) e4 (fun u4 h6 => ?_))
      refine RunL.op (OpS.lit (r := (Rep.int .u8)) (f := true) h6 Try.underlying22 ti5 rfl rfl rfl rfl rfl (.cons rfl V.int (.cons rfl V.int (.cons rfl V.int (.cons rfl V.int (.cons rfl V.int .nil))))) rfl rfl (fun u5 w3 h7 => ?_))
      obtain ⟨y2, e5, hF⟩ := bindP_use hF
      refine RunL.op (OpS.callP h7 Try.func21 rfl rfl rfl rfl (vs := [u4, u5]) rfl (ref01_Same_ok e5) (.cons (V.at (.s .z)) (.cons (V.at .z) .nil)) ?_)
      rintro _ w4 _ _ _ ⟨rfl, rfl, rfl, rfl⟩ h8
      have h9 := h8 rfl rfl
      simp only [List.cons_append, List.nil_append] at h9
      refine RunL.op (OpS.pick rfl rfl rfl rfl ?_)
      refine RunL.op (OpS.mv rfl rfl rfl ?_)
      refine RunL.caseb hF (fun e6 hF => ?_) (fun e6 hF => ?_)
      ·
        refine RunL.op (OpS.lit (r := (Rep.int .u8)) (f := true) h9 Try.underlying22 ti5 rfl rfl rfl rfl rfl (.cons rfl V.int .nil) rfl rfl (fun u6 w5 h10 => ?_))
        refine RunL.op (OpS.lit (r := (Rep.int .u8)) (f := true) h10 Try.underlying22 ti5 rfl rfl rfl rfl rfl (.cons rfl V.int .nil) rfl rfl (fun u7 w6 h11 => ?_))
        obtain ⟨y3, e7, hF⟩ := bindP_use hF
        refine RunL.op (OpS.callP h11 Try.func13 rfl rfl rfl rfl (vs := [u6, u7]) rfl (frame_Compare_ok e7) (.cons (V.at (.s .z)) (.cons (V.at .z) .nil)) ?_)
        rintro _ w7 _ _ _ ⟨rfl, rfl, rfl, rfl⟩ h12
        have h13 := h12 rfl rfl
        simp only [List.cons_append, List.nil_append] at h13
        refine RunL.op (OpS.bin rfl rfl rfl rfl rfl ?_)
        refine RunL.op (OpS.pick rfl rfl rfl rfl ?_)
        refine RunL.op (OpS.as rfl rfl rfl ?_)
        obtain ⟨x2, e8, hF⟩ := letP_use hF
        refine RunL.nameb e8 ?_
        refine RunL.nil ?_
        refine Run.slim [(0, .bool x2)] ⟨rfl, trivial⟩ ?_
        refine Run.retP rfl (.tmp rfl .nil) ?_
        cases hF
        exact Post.mk' ⟨rfl, rfl, rfl, rfl⟩ (h13.picks .nil) .nil
      ·
        refine RunL.op (OpS.pass rfl rfl rfl ?_)
        refine RunL.op (OpS.pass rfl rfl rfl ?_)
        refine RunL.op (OpS.pass rfl rfl rfl ?_)
        refine RunL.op (OpS.pass rfl rfl rfl ?_)
        refine RunL.op (OpS.pick rfl rfl rfl rfl ?_)
        refine RunL.op (OpS.as rfl rfl rfl ?_)
        refine RunL.nil ?_
        refine Run.slim [(0, .bool false)] ⟨rfl, trivial⟩ ?_
        refine Run.retP rfl (.tmp rfl .nil) ?_
        cases hF
        exact Post.mk' ⟨rfl, rfl, rfl, rfl⟩ (h9.picks .nil) .nil
    ·
      refine RunL.op (OpS.pass rfl rfl rfl ?_)
      refine RunL.op (OpS.pass rfl rfl rfl ?_)
      refine RunL.op (OpS.pass rfl rfl rfl ?_)
      refine RunL.op (OpS.pass rfl rfl rfl ?_)
      refine RunL.op (OpS.pick rfl rfl rfl rfl ?_)
      refine RunL.op (OpS.mv rfl rfl rfl ?_)
      refine RunL.op (OpS.pass rfl rfl rfl ?_)
      refine RunL.op (OpS.pass rfl rfl rfl ?_)
      refine RunL.op (OpS.pass rfl rfl rfl ?_)
      refine RunL.op (OpS.pass rfl rfl rfl ?_)
      refine RunL.op (OpS.pick rfl rfl rfl rfl ?_)
      refine RunL.op (OpS.as rfl rfl rfl ?_)
      refine RunL.nil ?_
      refine Run.slim [(0, .bool false)] ⟨rfl, trivial⟩ ?_
      refine Run.retP rfl (.tmp rfl .nil) ?_
      cases hF
      exact Post.mk' ⟨rfl, rfl, rfl, rfl⟩ (h5.picks .nil) .nil
  ·
    refine RunL.op (OpS.pass rfl rfl rfl ?_)
    refine RunL.op (OpS.pass rfl rfl rfl ?_)
    refine RunL.op (OpS.pass rfl rfl rfl ?_)
    refine RunL.op (OpS.pick rfl rfl rfl rfl ?_)
    refine RunL.op (OpS.mv rfl rfl rfl ?_)
    refine RunL.op (OpS.pass rfl rfl rfl ?_)
    refine RunL.op (OpS.pass rfl rfl rfl ?_)
    refine RunL.op (OpS.pass rfl rfl rfl ?_)
    refine RunL.op (OpS.pass rfl rfl rfl ?_)
    refine RunL.op (OpS.pick rfl rfl rfl rfl ?_)
    refine RunL.op (OpS.mv rfl rfl rfl ?_)
    refine RunL.op (OpS.pass rfl rfl rfl ?_)
    refine RunL.op (OpS.pass rfl rfl rfl ?_)
    refine RunL.op (OpS.pass rfl rfl rfl ?_)
    refine RunL.op (OpS.pass rfl rfl rfl ?_)
    refine RunL.op (OpS.pick rfl rfl rfl rfl ?_)
    refine RunL.op (OpS.as rfl rfl rfl ?_)
    refine RunL.nil ?_
    refine Run.slim [(0, .bool false)] ⟨rfl, trivial⟩ ?_
    refine Run.retP rfl (.tmp rfl .nil) ?_
    cases hF
    exact Post.mk' ⟨rfl, rfl, rfl, rfl⟩ (h5.picks .nil) .nil
theorem made_Roll_ok {fuel : Nat} {a0 : List Int} {y : made_Dice} (hF : made_Roll fuel a0 = some y) {w : World} {v0 : Value} :
    Spec Try.prog 11 [v0].toArray w [(false, .val (Rep.slice (Rep.int .i64)) v0 a0)] [] (fun v Γr Ωr Ωo => ∃ u0 : Value, v = u0 ∧ Γr = [] ∧ Ωr = [(false, .box 54 made_Dice.rep u0 y)] ∧ Ωo = []) := by
  refine Spec.of (L := [(0, v0)]) Try.func11 rfl ⟨rfl, trivial⟩ rfl (fun e h => ?_)
  unfold made_Roll at hF
  refine Run.seq ?_
  refine Run.reg ?_
  refine RunL.op (OpS.as rfl rfl rfl ?_)
  refine RunL.nil ?_
  refine Run.slim [(0, v0)] ⟨rfl, trivial⟩ ?_
  refine Run.seq ?_
  refine Run.reg ?_
  refine RunL.op (OpS.mv rfl rfl rfl ?_)
  refine RunL.op (OpS.build (f := false) (x' := (⟨a0, 0⟩ : made_Dice)) h pl54 ti54 made_Dice.zr rfl rfl rfl (.cons rfl made_Dice.f0 rfl (V.at .z) .nil) (fun u1 h1 => ?_))
  refine RunL.op (OpS.boxF h1 rfl rfl rfl (V.at .z) (fun u2 w1 h2 => ?_))
  refine RunL.op (OpS.as rfl rfl rfl ?_)
  refine RunL.nil ?_
  refine Run.slim [(2, u2)] ⟨rfl, trivial⟩ ?_
  refine Run.retP rfl (.tmp rfl .nil) ?_
  cases hF
  exact Post.mk' ⟨u2, rfl, rfl, rfl, rfl⟩ (h2.picks (.cons .z .nil)) .nil
theorem made_Mod_ok {fuel : Nat} {a0 : Int} {a1 : Int} {y : Int} (hF : made_Mod fuel a0 a1 = some y) {w : World} :
    Spec Try.prog 26 [.int .i64 a0, .int .i64 a1].toArray w [] [] (fun v Γr Ωr Ωo => v = .int .i64 y ∧ Γr = [] ∧ Ωr = [] ∧ Ωo = []) := by
  refine Spec.of (L := [(0, .int .i64 a0), (1, .int .i64 a1)]) Try.func26 rfl ⟨rfl, rfl, trivial⟩ rfl (fun e h => ?_)
  unfold made_Mod at hF
  refine Run.seq ?_
  refine Run.reg ?_
  refine RunL.op (OpS.as rfl rfl rfl ?_)
  refine RunL.nil ?_
  refine Run.slim [(0, .int .i64 a0), (1, .int .i64 a1)] ⟨rfl, rfl, trivial⟩ ?_
  refine Run.seq ?_
  refine Run.reg ?_
  refine RunL.op (OpS.mv rfl rfl rfl ?_)
  refine RunL.op (OpS.mv rfl rfl rfl ?_)
  obtain ⟨e1, hF⟩ := chk_use hF
  refine RunL.op (OpS.rem rfl rfl rfl rfl e1 ?_)
  refine RunL.op (OpS.as rfl rfl rfl ?_)
  refine RunL.nil ?_
  refine Run.slim [(0, .int .i64 (Int.tmod a0 a1)), (1, .int .i64 a1)] ⟨rfl, rfl, trivial⟩ ?_
  refine Run.seq ?_
  refine Run.seq ?_
  refine Run.reg ?_
  refine RunL.op (OpS.mv rfl rfl rfl ?_)
  refine RunL.op (OpS.bin rfl rfl rfl rfl rfl ?_)
  refine RunL.nil ?_
  refine Run.slim [(9, .bool (decide ((Int.tmod a0 a1) < 0))), (0, .int .i64 (Int.tmod a0 a1)), (1, .int .i64 a1)] ⟨rfl, rfl, rfl, trivial⟩ ?_
  refine Run.ite rfl hF (fun e2 hF => ?_) (fun e2 hF => ?_)
  ·
    refine Run.reg ?_
    refine RunL.op (OpS.mv rfl rfl rfl ?_)
    refine RunL.op (OpS.mv rfl rfl rfl ?_)
    refine RunL.op (OpS.bin rfl rfl rfl rfl rfl ?_)
    refine RunL.op (OpS.as rfl rfl rfl ?_)
    obtain ⟨x1, e3, hF⟩ := letP_use hF
    refine RunL.name e3 ?_
    refine RunL.nil ?_
    refine Run.slim [(0, .int .i64 x1)] ⟨rfl, trivial⟩ ?_
    refine Run.seq ?_
    refine Run.reg ?_
    refine RunL.op (OpS.mv rfl rfl rfl ?_)
    refine RunL.op (OpS.as rfl rfl rfl ?_)
    refine RunL.nil ?_
    refine Run.slim [(4, .int .i64 x1)] ⟨rfl, trivial⟩ ?_
    refine Run.retP rfl (.tmp rfl .nil) ?_
    cases hF
    exact Post.mk' ⟨rfl, rfl, rfl, rfl⟩ (h.picks .nil) .nil
  ·
    refine Run.skip ?_
    refine Run.seq ?_
    refine Run.reg ?_
    refine RunL.op (OpS.mv rfl rfl rfl ?_)
    refine RunL.op (OpS.as rfl rfl rfl ?_)
    refine RunL.nil ?_
    refine Run.slim [(4, .int .i64 (Int.tmod a0 a1))] ⟨rfl, trivial⟩ ?_
    refine Run.retP rfl (.tmp rfl .nil) ?_
    cases hF
    exact Post.mk' ⟨rfl, rfl, rfl, rfl⟩ (h.picks .nil) .nil
theorem made_Dice_Next_ok {fuel : Nat} {a0 : made_Dice} {a1 : Int} {y : Int × made_Dice} (hF : made_Dice_Next fuel a0 a1 = some y) {w : World} {v0 : Value} :
    Spec Try.prog 22 [v0, .int .i64 a1].toArray w [] [(false, .box 54 made_Dice.rep v0 a0)] (fun v Γr Ωr Ωo => v = .int .i64 y.1 ∧ Γr = [] ∧ Ωr = [] ∧ Ωo = [(false, .box 54 made_Dice.rep v0 y.2)]) := by
  refine Spec.of (L := [(0, v0), (1, .int .i64 a1)]) Try.func22 rfl ⟨rfl, rfl, trivial⟩ rfl (fun e h => ?_)
  unfold made_Dice_Next at hF
  refine Run.seq ?_
  refine Run.reg ?_
  refine RunL.op (OpS.as rfl rfl rfl ?_)
  refine RunL.nil ?_
  refine Run.slim [(0, v0), (1, .int .i64 a1)] ⟨rfl, rfl, trivial⟩ ?_
  refine Run.seq ?_
  refine Run.seq ?_
  refine Run.drawV (Ωs := []) [⟨some 5, some (v0), fun _ => [], fun ds_ u_ => [], [], [], none⟩, ⟨some 6, some (v0), fun _ => [], fun ds_ u_ => [], [], [(0, [])], none⟩, ⟨some 7, some ((padd v0 1)), fun _ => [], fun ds_ u_ => [], [], [(0, [])], none⟩, ⟨some 8, some (.int .i64 a0.At), fun _ => [], fun ds_ u_ => [], [], [(0, [])], none⟩, ⟨some 9, some (v0), fun _ => [], fun ds_ u_ => [], [], [], none⟩, ⟨some 10, some (v0), fun _ => [], fun ds_ u_ => [], [], [(0, [])], none⟩, ⟨some 11, some ((padd v0 0)), fun _ => [], fun ds_ u_ => [], [], [(0, [])], none⟩, ⟨some 12, none, fun u_ => [(false, .val (Rep.slice (Rep.int .i64)) u_ a0.L)], fun ds_ u_ => [], [], [(0, [])], none⟩, ⟨some 13, some (.int .i64 (a0.L.length : Int)), fun _ => [], fun ds_ u_ => [], [], [], none⟩, ⟨some 14, some (.bool (decide (a0.At ≥ (a0.L.length : Int)))), fun _ => [], fun ds_ u_ => [], [], [], none⟩] [[], [0], [1], [2], [], [4], [5], [6], [7], [3, 8]] [[(false, .box 54 made_Dice.rep v0 a0)]] [0, 1, 2, 3, 4, 5, 6, 7, 8, 9, 10] Try_mixed rfl rfl rfl h (.cons ?_ (.cons ?_ (.cons ?_ (.cons ?_ (.cons ?_ (.cons ?_ (.cons ?_ (.cons ?_ (.cons ?_ (.cons ?_ .nil)))))))))) (fun q1 w hq1 h => ?_)
  · intro q1 w Γx Ωx h
    refine OpS.mv rfl rfl rfl ?_
    exact ⟨undef, rfl, trivial, h⟩
  · intro q1 w Γx Ωx h
    have h : St e w ([] ++ Γx) ([(false, .box 54 made_Dice.rep v0 a0)] ++ Ωx) := h
    refine OpS.nchk h .z rfl rfl rfl ?_
    exact ⟨undef, rfl, trivial, h⟩
  · intro q1 w Γx Ωx h
    have h : St e w ([] ++ Γx) ([(false, .box 54 made_Dice.rep v0 a0)] ++ Ωx) := h
    refine OpS.fbox (o3 := 1) h .z PA.z fa54_1 rfl rfl rfl rfl ?_
    exact ⟨undef, rfl, trivial, h⟩
  · intro q1 w Γx Ωx h
    have h : St e w ([] ++ Γx) ([(false, .box 54 made_Dice.rep v0 a0)] ++ Ωx) := h
    refine OpS.loadBi h .z PA.a (Get.fld made_Dice.f1) ty3 rfl rfl rfl ?_
    exact ⟨undef, rfl, trivial, h⟩
  · intro q1 w Γx Ωx h
    refine OpS.mv rfl rfl rfl ?_
    exact ⟨undef, rfl, trivial, h⟩
  · intro q1 w Γx Ωx h
    have h : St e w ([] ++ Γx) ([(false, .box 54 made_Dice.rep v0 a0)] ++ Ωx) := h
    refine OpS.nchk h .z rfl rfl rfl ?_
    exact ⟨undef, rfl, trivial, h⟩
  · intro q1 w Γx Ωx h
    have h : St e w ([] ++ Γx) ([(false, .box 54 made_Dice.rep v0 a0)] ++ Ωx) := h
    refine OpS.fbox (o3 := 0) h .z PA.z fa54_0 rfl rfl rfl rfl ?_
    exact ⟨undef, rfl, trivial, h⟩
  · intro q1 w Γx Ωx h
    have h : St e w ([] ++ Γx) ([(false, .box 54 made_Dice.rep v0 a0)] ++ Ωx) := h
    refine OpS.loadB h .z PA.a (Get.fld made_Dice.f0) ty23 rfl rfl rfl (fun u h2 => ?_)
    exact ⟨u, rfl, trivial, h2⟩
  · intro q1 w Γx Ωx h
    refine OpS.len h Try.underlying23 rfl rfl rfl (V.at .z) ?_
    exact ⟨undef, rfl, trivial, h⟩
  · intro q1 w Γx Ωx h
    refine OpS.bin rfl rfl rfl rfl rfl ?_
    exact ⟨undef, rfl, trivial, h⟩
  have h3 : St e w [(false, .val (Rep.slice (Rep.int .i64)) (q1 7) a0.L)] [(false, .box 54 made_Dice.rep v0 a0)] := h
  refine RunL.nil ?_
  refine Run.slim [(14, .bool (decide (a0.At ≥ (a0.L.length : Int)))), (0, v0), (1, .int .i64 a1)] ⟨rfl, rfl, rfl, trivial⟩ ?_
  refine Run.ite rfl hF (fun e1 hF => ?_) (fun e1 hF => ?_)
  ·
    refine Run.seq ?_
    refine Run.reg ?_
    refine RunL.op (OpS.as rfl rfl rfl ?_)
    refine RunL.nil ?_
    refine Run.slim [(4, .int .i64 0)] ⟨rfl, trivial⟩ ?_
    refine Run.retP rfl (.tmp rfl .nil) ?_
    cases hF
    exact Post.mk' ⟨rfl, rfl, rfl, rfl⟩ (h3.picks (.cons .z .nil)) .nil
  ·
    refine Run.skip ?_
    refine Run.seq ?_
    refine Run.reg ?_
    refine RunL.op (OpS.mv rfl rfl rfl ?_)
    refine RunL.op (OpS.nchk h3 .z rfl rfl rfl ?_)
    refine RunL.op (OpS.fbox (o3 := 1) h3 .z PA.z fa54_1 rfl rfl rfl rfl ?_)
    refine RunL.op (OpS.loadBi h3 .z PA.a (Get.fld made_Dice.f1) ty3 rfl rfl rfl ?_)
    refine RunL.op (OpS.bin rfl rfl rfl rfl rfl ?_)
    refine RunL.op (OpS.nchk h3 .z rfl rfl rfl ?_)
    refine RunL.op (OpS.fbox (o3 := 1) h3 .z PA.z fa54_1 rfl rfl rfl rfl ?_)
    obtain ⟨d1, e2, hF⟩ := letP_use hF
    refine RunL.op (OpS.storeB (f' := true) h3 .z PA.a (Put.of (Put.fld made_Dice.f1) e2) ty3 rfl rfl rfl V.int (.inr rfl) (fun w1 h4 => ?_))
    refine RunL.nil ?_
    refine Run.slim [(0, v0), (1, .int .i64 a1)] ⟨rfl, rfl, trivial⟩ ?_
    refine Run.seq ?_
    obtain ⟨x1, e3, hF⟩ := bindP_use hF
    obtain ⟨y1, e4, hF⟩ := bindP_use hF
    refine Run.drawV (Ωs := []) [⟨some 22, some (v0), fun _ => [], fun ds_ u_ => [], [], [], none⟩, ⟨some 23, some (v0), fun _ => [], fun ds_ u_ => [], [], [(0, [])], none⟩, ⟨some 24, some ((padd v0 0)), fun _ => [], fun ds_ u_ => [], [], [(0, [])], none⟩, ⟨some 25, none, fun u_ => [(false, .val (Rep.slice (Rep.int .i64)) u_ d1.L)], fun ds_ u_ => [], [], [(0, [])], none⟩, ⟨some 26, some (v0), fun _ => [], fun ds_ u_ => [], [], [], none⟩, ⟨some 27, some (v0), fun _ => [], fun ds_ u_ => [], [], [(0, [])], none⟩, ⟨some 28, some ((padd v0 1)), fun _ => [], fun ds_ u_ => [], [], [(0, [])], none⟩, ⟨some 29, some (.int .i64 d1.At), fun _ => [], fun ds_ u_ => [], [], [(0, [])], none⟩, ⟨some 30, some (.int .i64 (IntKind.i64.wrap (d1.At - 1))), fun _ => [], fun ds_ u_ => [], [], [], none⟩, ⟨some 31, none, fun u_ => [(false, .ptr (Rep.int .i64) u_ x1)], fun ds_ u_ => [], [], [], none⟩, ⟨some 32, some (.int .i64 x1), fun _ => [], fun ds_ u_ => [], [], [], none⟩, ⟨some 33, some (.int .i64 a1), fun _ => [], fun ds_ u_ => [], [], [], none⟩, ⟨some 34, some (.int .i64 y1), fun _ => [], fun ds_ u_ => [], [], [], none⟩] [[], [0], [1], [2], [], [4], [5], [6], [7], [3, 8], [9], [], [10, 11]] [[(false, .box 54 made_Dice.rep v0 d1)]] [0, 1, 2, 3, 4, 5, 6, 7, 8, 9, 10, 11, 12, 13] Try_mixed rfl rfl rfl h4 (.cons ?_ (.cons ?_ (.cons ?_ (.cons ?_ (.cons ?_ (.cons ?_ (.cons ?_ (.cons ?_ (.cons ?_ (.cons ?_ (.cons ?_ (.cons ?_ (.cons ?_ .nil))))))))))))) (fun q2 w hq2 h => ?_)
    · intro q2 w Γx Ωx h
      refine OpS.mv rfl rfl rfl ?_
      exact ⟨undef, rfl, trivial, h⟩
    · intro q2 w Γx Ωx h
      have h : St e w ([(false, .val (Rep.slice (Rep.int .i64)) (q1 7) a0.L)] ++ Γx) ([(false, .box 54 made_Dice.rep v0 d1)] ++ Ωx) := h
      refine OpS.nchk h .z rfl rfl rfl ?_
      exact ⟨undef, rfl, trivial, h⟩
    · intro q2 w Γx Ωx h
      have h : St e w ([(false, .val (Rep.slice (Rep.int .i64)) (q1 7) a0.L)] ++ Γx) ([(false, .box 54 made_Dice.rep v0 d1)] ++ Ωx) := h
      refine OpS.fbox (o3 := 0) h .z PA.z fa54_0 rfl rfl rfl rfl ?_
      exact ⟨undef, rfl, trivial, h⟩
    · intro q2 w Γx Ωx h
      have h : St e w ([(false, .val (Rep.slice (Rep.int .i64)) (q1 7) a0.L)] ++ Γx) ([(false, .box 54 made_Dice.rep v0 d1)] ++ Ωx) := h
      refine OpS.loadB h .z PA.a (Get.fld made_Dice.f0) ty23 rfl rfl rfl (fun u h9 => ?_)
      exact ⟨u, rfl, trivial, h9⟩
    · intro q2 w Γx Ωx h
      refine OpS.mv rfl rfl rfl ?_
      exact ⟨undef, rfl, trivial, h⟩
    · intro q2 w Γx Ωx h
      have h : St e w ([(false, .val (Rep.slice (Rep.int .i64)) (q1 7) a0.L)] ++ Γx) ([(false, .box 54 made_Dice.rep v0 d1)] ++ Ωx) := h
      refine OpS.nchk h .z rfl rfl rfl ?_
      exact ⟨undef, rfl, trivial, h⟩
    · intro q2 w Γx Ωx h
      have h : St e w ([(false, .val (Rep.slice (Rep.int .i64)) (q1 7) a0.L)] ++ Γx) ([(false, .box 54 made_Dice.rep v0 d1)] ++ Ωx) := h
      refine OpS.fbox (o3 := 1) h .z PA.z fa54_1 rfl rfl rfl rfl ?_
      exact ⟨undef, rfl, trivial, h⟩
    · intro q2 w Γx Ωx h
      have h : St e w ([(false, .val (Rep.slice (Rep.int .i64)) (q1 7) a0.L)] ++ Γx) ([(false, .box 54 made_Dice.rep v0 d1)] ++ Ωx) := h
      refine OpS.loadBi h .z PA.a (Get.fld made_Dice.f1) ty3 rfl rfl rfl ?_
      exact ⟨undef, rfl, trivial, h⟩
    · intro q2 w Γx Ωx h
      refine OpS.bin rfl rfl rfl rfl rfl ?_
      exact ⟨undef, rfl, trivial, h⟩
    · intro q2 w Γx Ωx h
      refine OpS.iptr h Try.underlying23 ty3 rfl rfl rfl rfl (V.at .z) e3 (fun u h10 => ?_)
      exact ⟨u, rfl, trivial, h10⟩
    · intro q2 w Γx Ωx h
      refine OpS.loadi h ty3 rfl rfl rfl .z ?_
      exact ⟨undef, rfl, trivial, h⟩
    · intro q2 w Γx Ωx h
      refine OpS.mv rfl rfl rfl ?_
      exact ⟨undef, rfl, trivial, h⟩
    · intro q2 w Γx Ωx h
      refine OpS.callP h Try.func26 rfl rfl rfl rfl (vs := [.int .i64 x1, .int .i64 a1]) rfl (made_Mod_ok e4) .nil ?_
      rintro _ w3 _ _ _ ⟨rfl, rfl, rfl, rfl⟩ h11
      have h12 := h11 rfl rfl
      simp only [List.cons_append, List.nil_append] at h12
      exact ⟨undef, rfl, trivial, h12⟩
    have h13 : St e w [(false, .val (Rep.slice (Rep.int .i64)) (q2 3) d1.L), (false, .ptr (Rep.int .i64) (q2 9) x1), (false, .val (Rep.slice (Rep.int .i64)) (q1 7) a0.L)] [(false, .box 54 made_Dice.rep v0 d1)] := h
    refine RunL.op (OpS.as rfl rfl rfl ?_)
    refine RunL.nil ?_
    refine Run.slim [(4, .int .i64 y1)] ⟨rfl, trivial⟩ ?_
    refine Run.retP rfl (.tmp rfl .nil) ?_
    cases hF
    exact Post.mk' ⟨rfl, rfl, rfl, rfl⟩ (h13.picks (.cons .z .nil)) .nil
theorem made_Dice_Bool_ok {fuel : Nat} {a0 : made_Dice} {a1 : Int} {y : Bool × made_Dice} (hF : made_Dice_Bool fuel a0 a1 = some y) {w : World} {v0 : Value} :
    Spec Try.prog 27 [v0, .int .i64 a1].toArray w [] [(false, .box 54 made_Dice.rep v0 a0)] (fun v Γr Ωr Ωo => v = .bool y.1 ∧ Γr = [] ∧ Ωr = [] ∧ Ωo = [(false, .box 54 made_Dice.rep v0 y.2)]) := by
  refine Spec.of (L := [(0, v0), (1, .int .i64 a1)]) Try.func27 rfl ⟨rfl, rfl, trivial⟩ rfl (fun e h => ?_)
  unfold made_Dice_Bool at hF
  refine Run.seq ?_
  refine Run.reg ?_
  refine RunL.op (OpS.as rfl rfl rfl ?_)
  refine RunL.nil ?_
  refine Run.slim [(0, v0), (1, .int .i64 a1)] ⟨rfl, rfl, trivial⟩ ?_
  refine Run.seq ?_
  refine Run.reg ?_
  refine RunL.op (OpS.mv rfl rfl rfl ?_)
  refine RunL.op (OpS.mv rfl rfl rfl ?_)
  obtain ⟨y1, e1, hF⟩ := bindP_use hF
  have h1 := h.front (.cons .z .nil)
  refine RunL.op (OpS.callO h1 Try.func22 rfl rfl rfl rfl (vs := [v0, .int .i64 a1]) rfl (made_Dice_Next_ok e1) rfl .nil ?_)
  rintro _ w1 _ _ _ ⟨rfl, rfl, rfl, rfl⟩ h2
  have h3 := h2
  simp only [List.cons_append, List.nil_append] at h3
  refine RunL.op (OpS.mv rfl rfl rfl ?_)
  refine RunL.op (OpS.bin rfl rfl rfl rfl rfl ?_)
  refine RunL.op (OpS.bin rfl rfl rfl rfl rfl ?_)
  refine RunL.op (OpS.as rfl rfl rfl ?_)
  obtain ⟨x1, e2, hF⟩ := letP_use hF
  refine RunL.nameb e2 ?_
  refine RunL.nil ?_
  refine Run.slim [(4, .bool x1)] ⟨rfl, trivial⟩ ?_
  refine Run.retP rfl (.tmp rfl .nil) ?_
  cases hF
  exact Post.mk' ⟨rfl, rfl, rfl, rfl⟩ (h3.picks (.cons .z .nil)) .nil
theorem made_Dice_Byte_ok {fuel : Nat} {a0 : made_Dice} {y : Int × made_Dice} (hF : made_Dice_Byte fuel a0 = some y) {w : World} {v0 : Value} :
    Spec Try.prog 17 [v0].toArray w [] [(false, .box 54 made_Dice.rep v0 a0)] (fun v Γr Ωr Ωo => v = .int .u8 y.1 ∧ Γr = [] ∧ Ωr = [] ∧ Ωo = [(false, .box 54 made_Dice.rep v0 y.2)]) := by
  refine Spec.of (L := [(0, v0)]) Try.func17 rfl ⟨rfl, trivial⟩ rfl (fun e h => ?_)
  unfold made_Dice_Byte at hF
  refine Run.seq ?_
  refine Run.reg ?_
  refine RunL.op (OpS.as rfl rfl rfl ?_)
  refine RunL.nil ?_
  refine Run.slim [(0, v0)] ⟨rfl, trivial⟩ ?_
  refine Run.seq ?_
  refine Run.reg ?_
  refine RunL.op (OpS.buildA (f := true) (r := (Rep.int .u8)) h Try.underlying56 ti5 rfl ti56 rfl rfl rfl (.cons rfl V.int (.cons rfl V.int (.cons rfl V.int (.cons rfl V.int (.cons rfl V.int (.cons rfl V.int (.cons rfl V.int (.cons rfl V.int .nil)))))))) rfl (fun u1 h1 => ?_))
  refine RunL.op (OpS.alloc h1 ti56 (Zr.of (Zr.arr (Zr.int .u8 0) 8) rfl) rfl rfl (fun u2 w1 h2 => ?_))
  obtain ⟨d1, e1, hF⟩ := letP_use hF
  refine RunL.op (OpS.storeB (f' := true) h2 .z PA.z (Put.of Put.id e1) ty56 rfl rfl rfl (V.at .z) (.inl rfl) (fun w2 h3 => ?_))
  refine RunL.nil ?_
  refine Run.slim [(3, u2), (0, v0)] ⟨rfl, rfl, trivial⟩ ?_
  refine Run.seq ?_
  refine Run.seq ?_
  refine Run.reg ?_
  refine RunL.op (OpS.mv rfl rfl rfl ?_)
  obtain ⟨y1, e2, hF⟩ := bindP_use hF
  have h4 := h3.front (.cons (.s .z) .nil)
  refine RunL.op (OpS.callO h4 Try.func27 rfl rfl rfl rfl (vs := [v0, .int .i64 3]) rfl (made_Dice_Bool_ok e2) rfl .nil ?_)
  rintro _ w3 _ _ _ ⟨rfl, rfl, rfl, rfl⟩ h5
  have h6 := h5
  simp only [List.cons_append, List.nil_append] at h6
  refine RunL.nil ?_
  refine Run.slim [(6, .bool y1.1), (3, u2), (0, v0)] ⟨rfl, rfl, rfl, trivial⟩ ?_
  refine Run.ite rfl hF (fun e3 hF => ?_) (fun e3 hF => ?_)
  ·
    refine Run.seq ?_
    refine Run.reg ?_
    refine RunL.op (OpS.mv rfl rfl rfl ?_)
    obtain ⟨y2, e4, hF⟩ := bindP_use hF
    have h7 := h6.front (.cons .z .nil)
    refine RunL.op (OpS.callO h7 Try.func22 rfl rfl rfl rfl (vs := [v0, .int .i64 8]) rfl (made_Dice_Next_ok e4) rfl .nil ?_)
    rintro _ w4 _ _ _ ⟨rfl, rfl, rfl, rfl⟩ h8
    have h9 := h8
    simp only [List.cons_append, List.nil_append] at h9
    obtain ⟨x1, e5, hF⟩ := bindP_use hF
    obtain ⟨e6, hF⟩ := chk_use hF
    refine RunL.op (OpS.ibox h9 (.s .z) PA.z Try.underlying56 ty5 (Nat.eq_of_beq_eq_true e6) rfl rfl rfl rfl e5 ?_)
    refine RunL.op (OpS.loadBi h9 (.s .z) PA.a (Get.comp Get.id (Get.arr e5)) ty5 rfl rfl rfl ?_)
    refine RunL.op (OpS.as rfl rfl rfl ?_)
    refine RunL.nil ?_
    refine Run.slim [(2, .int .u8 x1)] ⟨rfl, trivial⟩ ?_
    refine Run.retP rfl (.tmp rfl .nil) ?_
    cases hF
    exact Post.mk' ⟨rfl, rfl, rfl, rfl⟩ (h9.picks (.cons .z .nil)) .nil
  ·
    refine Run.skip ?_
    refine Run.seq ?_
    refine Run.reg ?_
    refine RunL.op (OpS.mv rfl rfl rfl ?_)
    obtain ⟨y3, e7, hF⟩ := bindP_use hF
    have h10 := h6.front (.cons .z .nil)
    refine RunL.op (OpS.callO h10 Try.func22 rfl rfl rfl rfl (vs := [v0, .int .i64 256]) rfl (made_Dice_Next_ok e7) rfl .nil ?_)
    rintro _ w5 _ _ _ ⟨rfl, rfl, rfl, rfl⟩ h11
    have h12 := h11
    simp only [List.cons_append, List.nil_append] at h12
    refine RunL.op (OpS.conv Try.underlying3 Try.underlying5 rfl rfl rfl ?_)
    refine RunL.op (OpS.as rfl rfl rfl ?_)
    refine RunL.nil ?_
    refine Run.slim [(2, .int .u8 (IntKind.u8.wrap y3.1))] ⟨rfl, trivial⟩ ?_
    refine Run.retP rfl (.tmp rfl .nil) ?_
    cases hF
    exact Post.mk' ⟨rfl, rfl, rfl, rfl⟩ (h12.picks (.cons .z .nil)) .nil
theorem made_Dice_Bytes_ok {fuel : Nat} {a0 : made_Dice} {a1 : Int} {y : (List Int) × made_Dice} (hF : made_Dice_Bytes fuel a0 a1 = some y) {w : World} {v0 : Value} :
    Spec Try.prog 18 [v0, .int .i64 a1].toArray w [] [(false, .box 54 made_Dice.rep v0 a0)] (fun v Γr Ωr Ωo => ∃ u0 : Value, v = u0 ∧ Γr = [] ∧ Ωr = [(true, .slice 5 (Rep.int .u8) u0 y.1)] ∧ Ωo = [(false, .box 54 made_Dice.rep v0 y.2)]) := by
  refine Spec.of (L := [(0, v0), (1, .int .i64 a1)]) Try.func18 rfl ⟨rfl, rfl, trivial⟩ rfl (fun e h => ?_)
  unfold made_Dice_Bytes at hF
  refine Run.seq ?_
  refine Run.reg ?_
  refine RunL.op (OpS.as rfl rfl rfl ?_)
  refine RunL.nil ?_
  refine Run.slim [(0, v0), (1, .int .i64 a1)] ⟨rfl, rfl, trivial⟩ ?_
  refine Run.seq ?_
  refine Run.reg ?_
  refine RunL.op (OpS.as rfl rfl rfl ?_)
  refine RunL.nil ?_
  refine Run.seq ?_
  refine Run.seq ?_
  refine Run.reg ?_
  refine RunL.op (OpS.mv rfl rfl rfl ?_)
  refine RunL.op (OpS.mv rfl rfl rfl ?_)
  refine RunL.op (OpS.bin rfl rfl rfl rfl rfl ?_)
  obtain ⟨y1, e1, hF⟩ := bindP_use hF
  have h1 := h.front (.cons .z .nil)
  refine RunL.op (OpS.callO h1 Try.func22 rfl rfl rfl rfl (vs := [v0, .int .i64 (IntKind.i64.wrap (a1 + 1))]) rfl (made_Dice_Next_ok e1) rfl .nil ?_)
  rintro _ w1 _ _ _ ⟨rfl, rfl, rfl, rfl⟩ h2
  have h3 := h2
  simp only [List.cons_append, List.nil_append] at h3
  refine RunL.op (OpS.as rfl rfl rfl ?_)
  refine RunL.nil ?_
  refine Run.slim [(6, .int .i64 y1.1), (5, .slice none 0 0), (0, v0)] ⟨rfl, rfl, rfl, trivial⟩ ?_
  refine Run.block ?_
  have h4 := St.nil 5 (Rep.int .u8) h3
  refine Run.slim [(0, v0), (5, (.slice none 0 0)), (6, .int .i64 y1.1)] ⟨rfl, rfl, rfl, trivial⟩ ?_
  refine Run.loopP (σ := (Int × made_Dice × (List Int))) (fun s_ L_ w_ => ∃ u0_ : Value, L_ = [(0, v0), (5, u0_), (6, .int .i64 s_.1)] ∧ St e w_ [] [(false, .box 54 made_Dice.rep v0 s_.2.1), (true, .slice 5 (Rep.int .u8) u0_ s_.2.2)]) hF ⟨(.slice none 0 0), rfl, (h4.facts .nil).picks (.cons (.s .z) (.cons .z .nil))⟩ (fun k1 hk1 s1 _ w2 hI hF => ?_)
  obtain ⟨u1, rfl, h5⟩ := hI
  refine Run.seq ?_
  refine Run.seq ?_
  refine Run.reg ?_
  refine RunL.op (OpS.mv rfl rfl rfl ?_)
  refine RunL.op (OpS.bin rfl rfl rfl rfl rfl ?_)
  refine RunL.nil ?_
  refine Run.slim [(12, .bool (decide (s1.1 > 0))), (0, v0), (5, u1), (6, .int .i64 s1.1)] ⟨rfl, rfl, rfl, rfl, trivial⟩ ?_
  refine Run.ite rfl hF (fun e2 hF => ?_) (fun e2 hF => ?_)
  ·
    refine Run.skip ?_
    refine Run.seq ?_
    refine Run.block ?_
    refine Run.reg ?_
    refine RunL.op (OpS.mv rfl rfl rfl ?_)
    refine RunL.op (OpS.mv rfl rfl rfl ?_)
    obtain ⟨y2, e3, hF⟩ := bindP_use hF
    have h6 := h5.front (.cons .z .nil)
    refine RunL.op (OpS.callO h6 Try.func17 rfl rfl rfl rfl (vs := [v0]) rfl (made_Dice_Byte_ok e3) rfl .nil ?_)
    rintro _ w3 _ _ _ ⟨rfl, rfl, rfl, rfl⟩ h7
    have h8 := h7
    simp only [List.cons_append, List.nil_append] at h8
    refine RunL.op (OpS.lit (r := (Rep.int .u8)) (f := true) h8 Try.underlying22 ti5 rfl rfl rfl rfl rfl (.cons rfl V.int .nil) rfl rfl (fun u2 w4 h9 => ?_))
    obtain ⟨x1, e4, hF⟩ := bindP_use hF
    refine RunL.op (OpS.app (f' := true) h9 (.s .z) Try.underlying22 ti5 rfl rfl rfl rfl rfl rfl rfl (V.at .z) (.inr Pure.int) e4 (fun u3 w5 h10 => ?_))
    refine RunL.op (OpS.as rfl rfl rfl ?_)
    refine RunL.nil ?_
    refine Run.slim [(5, u3), (0, v0), (6, .int .i64 s1.1)] ⟨rfl, rfl, rfl, trivial⟩ ?_
    refine Run.endBlock ?_
    refine Run.reg ?_
    refine RunL.op (OpS.mv rfl rfl rfl ?_)
    refine RunL.op (OpS.bin rfl rfl rfl rfl rfl ?_)
    refine RunL.op (OpS.as rfl rfl rfl ?_)
    obtain ⟨x2, e5, hF⟩ := letP_use hF
    refine RunL.name e5 ?_
    refine RunL.nil ?_
    refine Run.slim [(6, .int .i64 x2), (5, u3), (0, v0)] ⟨rfl, rfl, rfl, trivial⟩ ?_
    refine Run.slim [(0, v0), (5, u3), (6, .int .i64 x2)] ⟨rfl, rfl, rfl, trivial⟩ ?_
    exact hk1 (x2, y2.2, x1) _ _ ⟨u3, rfl, (h10.facts .nil).picks (.cons (.s .z) (.cons .z .nil))⟩ hF
  ·
    refine Run.exit rfl ?_
    refine Run.seq ?_
    refine Run.reg ?_
    refine RunL.op (OpS.mv rfl rfl rfl ?_)
    refine RunL.op (OpS.as rfl rfl rfl ?_)
    refine RunL.nil ?_
    refine Run.slim [(4, u1)] ⟨rfl, trivial⟩ ?_
    refine Run.retP rfl (.tmp rfl .nil) ?_
    cases hF
    exact Post.mk' ⟨u1, rfl, rfl, rfl, rfl⟩ (h5.picks (.cons (.s .z) (.cons .z .nil))) .nil
theorem made_Dice_Frame_ok {fuel : Nat} {a0 : made_Dice} {y : Frame_ × made_Dice} (hF : made_Dice_Frame fuel a0 = some y) {w : World} {v0 : Value} :
    Spec Try.prog 12 [v0].toArray w [] [(false, .box 54 made_Dice.rep v0 a0)] (fun v Γr Ωr Ωo => ∃ u0 : Value, v = u0 ∧ Γr = [(true, .val Frame_.rep u0 y.1)] ∧ Ωr = [] ∧ Ωo = [(false, .box 54 made_Dice.rep v0 y.2)]) := by
  refine Spec.of (L := [(0, v0)]) Try.func12 rfl ⟨rfl, trivial⟩ rfl (fun e h => ?_)
  unfold made_Dice_Frame at hF
  refine Run.seq ?_
  refine Run.reg ?_
  refine RunL.op (OpS.alloc h ti30 Frame_.zr rfl rfl (fun u1 w1 h1 => ?_))
  refine RunL.nil ?_
  refine Run.seq ?_
  refine Run.reg ?_
  refine RunL.op (OpS.mv rfl rfl rfl ?_)
  obtain ⟨y1, e1, hF⟩ := bindP_use hF
  have h2 := h1.front (.cons (.s .z) .nil)
  refine RunL.op (OpS.callO h2 Try.func22 rfl rfl rfl rfl (vs := [v0, .int .i64 4]) rfl (made_Dice_Next_ok e1) rfl .nil ?_)
  rintro _ w2 _ _ _ ⟨rfl, rfl, rfl, rfl⟩ h3
  have h4 := h3
  simp only [List.cons_append, List.nil_append] at h4
  refine RunL.op (OpS.bin rfl rfl rfl rfl rfl ?_)
  refine RunL.op (OpS.conv Try.underlying3 Try.underlying5 rfl rfl rfl ?_)
  refine RunL.op (OpS.mv rfl rfl rfl ?_)
  obtain ⟨y2, e2, hF⟩ := bindP_use hF
  have h5 := h4.front (.cons .z .nil)
  refine RunL.op (OpS.callO h5 Try.func22 rfl rfl rfl rfl (vs := [v0, .int .i64 3]) rfl (made_Dice_Next_ok e2) rfl .nil ?_)
  rintro _ w3 _ _ _ ⟨rfl, rfl, rfl, rfl⟩ h6
  have h7 := h6
  simp only [List.cons_append, List.nil_append] at h7
  refine RunL.op (OpS.bin rfl rfl rfl rfl rfl ?_)
  refine RunL.op (OpS.conv Try.underlying3 Try.underlying5 rfl rfl rfl ?_)
  refine RunL.op (OpS.mv rfl rfl rfl ?_)
  obtain ⟨y3, e3, hF⟩ := bindP_use hF
  have h8 := h7.front (.cons .z .nil)
  refine RunL.op (OpS.callO h8 Try.func18 rfl rfl rfl rfl (vs := [v0, .int .i64 6]) rfl (made_Dice_Bytes_ok e3) rfl .nil ?_)
  rintro u2 w4 _ _ _ ⟨_, rfl, rfl, rfl, rfl⟩ h9
  have h10 := h9
  simp only [List.cons_append, List.nil_append] at h10
  have h11 := (h10.pick .z).freeze
  refine RunL.op (OpS.build (f := true) (x' := (⟨(IntKind.u8.wrap (IntKind.i64.wrap (8 + y1.1))), (IntKind.u8.wrap (IntKind.i64.wrap (32 + y2.1))), y3.1⟩ : Frame_)) h11 pl30 ti30 Frame_.zr rfl rfl rfl (.cons rfl Frame_.f0 rfl V.int (.cons rfl Frame_.f1 rfl V.int (.cons rfl Frame_.f2 rfl (V.at .z) .nil))) (fun u3 h12 => ?_))
  refine RunL.op (OpS.alloc h12 ti30 Frame_.zr rfl rfl (fun u4 w5 h13 => ?_))
  refine RunL.op (OpS.storeB (f' := true) h13 .z PA.z Put.id ty30 rfl rfl rfl (V.at .z) (.inl rfl) (fun w6 h14 => ?_))
  refine RunL.nil ?_
  refine Run.slim [(3, u4), (2, u1), (0, v0)] ⟨rfl, rfl, rfl, trivial⟩ ?_
  refine Run.seq ?_
  refine Run.seq ?_
  refine Run.reg ?_
  refine RunL.op (OpS.mv rfl rfl rfl ?_)
  obtain ⟨y4, e4, hF⟩ := bindP_use hF
  have h15 := h14.front (.cons (.s .z) .nil)
  refine RunL.op (OpS.callO h15 Try.func27 rfl rfl rfl rfl (vs := [v0, .int .i64 30]) rfl (made_Dice_Bool_ok e4) rfl .nil ?_)
  rintro _ w7 _ _ _ ⟨rfl, rfl, rfl, rfl⟩ h16
  have h17 := h16
  simp only [List.cons_append, List.nil_append] at h17
  refine RunL.nil ?_
  refine Run.slim [(16, .bool y4.1), (3, u4), (2, u1)] ⟨rfl, rfl, rfl, trivial⟩ ?_
  refine Run.ite rfl hF (fun e5 hF => ?_) (fun e5 hF => ?_)
  ·
    refine Run.seq ?_
    refine Run.reg ?_
    obtain ⟨x1, e6, hF⟩ := bindP_use hF
    refine RunL.op (OpS.make h17 Try.underlying22 ti5 rfl rfl (Zr.int .u8 0) rfl rfl rfl rfl e6 (by simp) (mk_fits e6) rfl (fun u5 w8 h18 => ?_))
    refine RunL.op (OpS.fbox (o3 := 2) h18 (.s (.s .z)) PA.z fa30_2 rfl rfl rfl rfl ?_)
    have h19 := (h18.pick .z).freeze
    obtain ⟨d1, e7, hF⟩ := letP_use hF
    refine RunL.op (OpS.storeB (f' := true) h19 (.s .z) PA.a (Put.of (Put.fld Frame_.f2) e7) ty22 rfl rfl rfl (V.at .z) (.inl rfl) (fun w9 h20 => ?_))
    refine RunL.nil ?_
    refine Run.slim [(3, u4), (2, u1)] ⟨rfl, rfl, trivial⟩ ?_
    refine Run.reg ?_
    refine RunL.op (OpS.fbox (o3 := 0) h20 .z PA.z fa30_0 rfl rfl rfl rfl ?_)
    obtain ⟨d2, e8, hF⟩ := letP_use hF
    refine RunL.op (OpS.storeB (f' := true) h20 .z PA.a (Put.of (Put.fld Frame_.f0) e8) ty5 rfl rfl rfl V.int (.inl rfl) (fun w10 h21 => ?_))
    refine RunL.nil ?_
    refine Run.slim [(3, u4), (2, u1)] ⟨rfl, rfl, trivial⟩ ?_
    refine Run.seq ?_
    refine Run.reg ?_
    refine RunL.op (OpS.loadB h21 .z PA.z Get.id ty30 rfl rfl rfl (fun u6 h22 => ?_))
    refine RunL.op (OpS.storeB (f' := true) h22 (.s (.s .z)) PA.z Put.id ty30 rfl rfl rfl (V.at .z) (.inl rfl) (fun w11 h23 => ?_))
    refine RunL.nil ?_
    refine Run.slim [(2, u1)] ⟨rfl, trivial⟩ ?_
    obtain ⟨u7, hu1, h24⟩ := res_box h23 .z ty30
    refine Run.retP rfl (.cell rfl hu1 .nil) ?_
    cases hF
    exact Post.mk' ⟨u7, rfl, rfl, rfl, rfl⟩ (h24.picks (.cons (.s (.s .z)) .nil)) (.val (V.at .z) .nil)
  ·
    refine Run.skip ?_
    refine Run.seq ?_
    refine Run.reg ?_
    refine RunL.op (OpS.loadB h17 (.s .z) PA.z Get.id ty30 rfl rfl rfl (fun u8 h25 => ?_))
    refine RunL.op (OpS.storeB (f' := true) h25 (.s (.s .z)) PA.z Put.id ty30 rfl rfl rfl (V.at .z) (.inl rfl) (fun w12 h26 => ?_))
    refine RunL.nil ?_
    refine Run.slim [(2, u1)] ⟨rfl, trivial⟩ ?_
    obtain ⟨u9, hu2, h27⟩ := res_box h26 .z ty30
    refine Run.retP rfl (.cell rfl hu2 .nil) ?_
    cases hF
    exact Post.mk' ⟨u9, rfl, rfl, rfl, rfl⟩ (h27.picks (.cons (.s .z) .nil)) (.val (V.at .z) .nil)
theorem ref20_Address_ok {fuel : Nat} {a0 : Int} {y : Bool} (hF : ref20_Address fuel a0 = some y) {w : World} :
    Spec Try.prog 31 [.int .u8 a0].toArray w [] [] (fun v Γr Ωr Ωo => v = .bool y ∧ Γr = [] ∧ Ωr = [] ∧ Ωo = []) := by
  refine Spec.of (L := [(0, .int .u8 a0)]) Try.func31 rfl ⟨rfl, trivial⟩ rfl (fun e h => ?_)
  unfold ref20_Address at hF
  refine Run.seq ?_
  refine Run.reg ?_
  refine RunL.op (OpS.as rfl rfl rfl ?_)
  refine RunL.nil ?_
  refine Run.slim [(0, .int .u8 a0)] ⟨rfl, trivial⟩ ?_
  refine Run.seq ?_
  refine Run.reg ?_
  refine RunL.op (OpS.mv rfl rfl rfl ?_)
  refine RunL.op (OpS.bin rfl rfl rfl rfl rfl ?_)
  refine RunL.op (OpS.mv rfl rfl rfl ?_)
  refine RunL.caseb hF (fun e1 hF => ?_) (fun e1 hF => ?_)
  ·
    refine RunL.op (OpS.mv rfl rfl rfl ?_)
    refine RunL.op (OpS.bin rfl rfl rfl rfl rfl ?_)
    refine RunL.op (OpS.pick rfl rfl rfl rfl ?_)
    refine RunL.op (OpS.as rfl rfl rfl ?_)
    obtain ⟨x1, e2, hF⟩ := letP_use hF
    refine RunL.nameb e2 ?_
    refine RunL.nil ?_
    refine Run.slim [(2, .bool x1)] ⟨rfl, trivial⟩ ?_
    refine Run.retP rfl (.tmp rfl .nil) ?_
    cases hF
    exact Post.mk' ⟨rfl, rfl, rfl, rfl⟩ (h.picks .nil) .nil
  ·
    refine RunL.op (OpS.pass rfl rfl rfl ?_)
    refine RunL.op (OpS.pass rfl rfl rfl ?_)
    refine RunL.op (OpS.pick rfl rfl rfl rfl ?_)
    refine RunL.op (OpS.as rfl rfl rfl ?_)
    refine RunL.nil ?_
    refine Run.slim [(2, .bool false)] ⟨rfl, trivial⟩ ?_
    refine Run.retP rfl (.tmp rfl .nil) ?_
    cases hF
    exact Post.mk' ⟨rfl, rfl, rfl, rfl⟩ (h.picks .nil) .nil
theorem ref20_Valid_ok {fuel : Nat} {a0 : Frame_} {y : Bool} (hF : ref20_Valid fuel a0 = some y) {w : World} {v0 : Value} :
    Spec Try.prog 20 [v0].toArray w [(false, .val Frame_.rep v0 a0)] [] (fun v Γr Ωr Ωo => v = .bool y ∧ Γr = [] ∧ Ωr = [] ∧ Ωo = []) := by
  refine Spec.of (L := [(0, v0)]) Try.func20 rfl ⟨rfl, trivial⟩ rfl (fun e h => ?_)
  unfold ref20_Valid at hF
  refine Run.seq ?_
  refine Run.reg ?_
  refine RunL.op (OpS.boxF h rfl rfl rfl (V.at .z) (fun u1 w1 h1 => ?_))
  refine RunL.op (OpS.as rfl rfl rfl ?_)
  refine RunL.nil ?_
  refine Run.slim [(1, u1)] ⟨rfl, trivial⟩ ?_
  refine Run.seq ?_
  refine Run.reg ?_
  refine RunL.op (OpS.fbox (o3 := 0) h1 .z PA.z fa30_0 rfl rfl rfl rfl ?_)
  refine RunL.op (OpS.loadBi h1 .z PA.a (Get.fld Frame_.f0) ty5 rfl rfl rfl ?_)
  obtain ⟨y1, e1, hF⟩ := bindP_use hF
  refine RunL.op (OpS.callP h1 Try.func31 rfl rfl rfl rfl (vs := [.int .u8 a0.To]) rfl (ref20_Address_ok e1) .nil ?_)
  rintro _ w2 _ _ _ ⟨rfl, rfl, rfl, rfl⟩ h2
  have h3 := h2 rfl rfl
  simp only [List.cons_append, List.nil_append] at h3
  refine RunL.op (OpS.mv rfl rfl rfl ?_)
  refine RunL.caseb hF (fun e2 hF => ?_) (fun e2 hF => ?_)
  ·
    refine RunL.op (OpS.fbox (o3 := 1) h3 .z PA.z fa30_1 rfl rfl rfl rfl ?_)
    refine RunL.op (OpS.loadBi h3 .z PA.a (Get.fld Frame_.f1) ty5 rfl rfl rfl ?_)
    obtain ⟨y2, e3, hF⟩ := bindP_use hF
    refine RunL.op (OpS.callP h3 Try.func31 rfl rfl rfl rfl (vs := [.int .u8 a0.From]) rfl (ref20_Address_ok e3) .nil ?_)
    rintro _ w3 _ _ _ ⟨rfl, rfl, rfl, rfl⟩ h4
    have h5 := h4 rfl rfl
    simp only [List.cons_append, List.nil_append] at h5
    refine RunL.op (OpS.pick rfl rfl rfl rfl ?_)
    refine RunL.op (OpS.mv rfl rfl rfl ?_)
    refine RunL.caseb hF (fun e4 hF => ?_) (fun e4 hF => ?_)
    ·
      refine RunL.op (OpS.fbox (o3 := 2) h5 .z PA.z fa30_2 rfl rfl rfl rfl ?_)
      refine RunL.op (OpS.loadB h5 .z PA.a (Get.fld Frame_.f2) ty22 rfl rfl rfl (fun u2 h6 => ?_))
      refine RunL.op (OpS.len h6 Try.underlying22 rfl rfl rfl (V.at .z) ?_)
      refine RunL.op (OpS.bin rfl rfl rfl rfl rfl ?_)
      refine RunL.op (OpS.pick rfl rfl rfl rfl ?_)
      refine RunL.op (OpS.as rfl rfl rfl ?_)
      obtain ⟨x1, e5, hF⟩ := letP_use hF
      refine RunL.nameb e5 ?_
      refine RunL.nil ?_
      refine Run.slim [(2, .bool x1)] ⟨rfl, trivial⟩ ?_
      refine Run.retP rfl (.tmp rfl .nil) ?_
      cases hF
      exact Post.mk' ⟨rfl, rfl, rfl, rfl⟩ (h6.picks .nil) .nil
    ·
      refine RunL.op (OpS.pass rfl rfl rfl ?_)
      refine RunL.op (OpS.pass rfl rfl rfl ?_)
      refine RunL.op (OpS.pass rfl rfl rfl ?_)
      refine RunL.op (OpS.pass rfl rfl rfl ?_)
      refine RunL.op (OpS.pick rfl rfl rfl rfl ?_)
      refine RunL.op (OpS.as rfl rfl rfl ?_)
      refine RunL.nil ?_
      refine Run.slim [(2, .bool false)] ⟨rfl, trivial⟩ ?_
      refine Run.retP rfl (.tmp rfl .nil) ?_
      cases hF
      exact Post.mk' ⟨rfl, rfl, rfl, rfl⟩ (h5.picks .nil) .nil
  ·
    refine RunL.op (OpS.pass rfl rfl rfl ?_)
    refine RunL.op (OpS.pass rfl rfl rfl ?_)
    refine RunL.op (OpS.pass rfl rfl rfl ?_)
    refine RunL.op (OpS.pick rfl rfl rfl rfl ?_)
    refine RunL.op (OpS.mv rfl rfl rfl ?_)
    refine RunL.op (OpS.pass rfl rfl rfl ?_)
    refine RunL.op (OpS.pass rfl rfl rfl ?_)
    refine RunL.op (OpS.pass rfl rfl rfl ?_)
    refine RunL.op (OpS.pass rfl rfl rfl ?_)
    refine RunL.op (OpS.pick rfl rfl rfl rfl ?_)
    refine RunL.op (OpS.as rfl rfl rfl ?_)
    refine RunL.nil ?_
    refine Run.slim [(2, .bool false)] ⟨rfl, trivial⟩ ?_
    refine Run.retP rfl (.tmp rfl .nil) ?_
    cases hF
    exact Post.mk' ⟨rfl, rfl, rfl, rfl⟩ (h3.picks .nil) .nil
theorem ref01_Copy_ok {fuel : Nat} {a0 : List Int} {y : (List Int)} (hF : ref01_Copy fuel a0 = some y) {w : World} {v0 : Value} :
    Spec Try.prog 32 [v0].toArray w [(false, .val (Rep.slice (Rep.int .u8)) v0 a0)] [] (fun v Γr Ωr Ωo => ∃ u0 : Value, v = u0 ∧ Γr = [] ∧ Ωr = [(true, .slice 5 (Rep.int .u8) u0 y)] ∧ Ωo = []) := by
  refine Spec.of (L := [(0, v0)]) Try.func32 rfl ⟨rfl, trivial⟩ rfl (fun e h => ?_)
  unfold ref01_Copy at hF
  refine Run.seq ?_
  refine Run.reg ?_
  refine RunL.op (OpS.as rfl rfl rfl ?_)
  refine RunL.nil ?_
  refine Run.slim [(0, v0)] ⟨rfl, trivial⟩ ?_
  refine Run.seq ?_
  refine Run.reg ?_
  refine RunL.op (OpS.as rfl rfl rfl ?_)
  refine RunL.nil ?_
  refine Run.seq ?_
  refine Run.seq ?_
  refine Run.reg ?_
  refine RunL.op (OpS.as rfl rfl rfl ?_)
  refine RunL.nil ?_
  refine Run.block ?_
  have h1 := St.nil 5 (Rep.int .u8) h
  refine Run.slim [(0, v0), (3, (.slice none 0 0)), (4, .int .i64 0)] ⟨rfl, rfl, rfl, trivial⟩ ?_
  refine Run.loopP (σ := (Int × (List Int))) (fun s_ L_ w_ => ∃ u0_ : Value, L_ = [(0, v0), (3, u0_), (4, .int .i64 s_.1)] ∧ St e w_ [(false, .val (Rep.slice (Rep.int .u8)) v0 a0)] [(true, .slice 5 (Rep.int .u8) u0_ s_.2)]) hF ⟨(.slice none 0 0), rfl, (h1.facts (.atm .z .nil)).picks (.cons .z .nil)⟩ (fun k1 hk1 s1 _ w1 hI hF => ?_)
  obtain ⟨u1, rfl, h2⟩ := hI
  refine Run.seq ?_
  refine Run.seq ?_
  refine Run.reg ?_
  refine RunL.op (OpS.mv rfl rfl rfl ?_)
  refine RunL.op (OpS.mv rfl rfl rfl ?_)
  refine RunL.op (OpS.len h2 Try.underlying22 rfl rfl rfl (V.at .z) ?_)
  refine RunL.op (OpS.bin rfl rfl rfl rfl rfl ?_)
  refine RunL.nil ?_
  refine Run.slim [(8, .bool (decide (s1.1 < (a0.length : Int)))), (0, v0), (3, u1), (4, .int .i64 s1.1)] ⟨rfl, rfl, rfl, rfl, trivial⟩ ?_
  refine Run.ite rfl hF (fun e1 hF => ?_) (fun e1 hF => ?_)
  ·
    refine Run.skip ?_
    refine Run.seq ?_
    refine Run.block ?_
    refine Run.reg ?_
    refine RunL.op (OpS.mv rfl rfl rfl ?_)
    refine RunL.op (OpS.mv rfl rfl rfl ?_)
    refine RunL.op (OpS.mv rfl rfl rfl ?_)
    obtain ⟨x1, e2, hF⟩ := bindP_use hF
    refine RunL.op (OpS.iptr h2 Try.underlying22 ty5 rfl rfl rfl rfl (V.at .z) e2 (fun u2 h3 => ?_))
    refine RunL.op (OpS.loadi h3 ty5 rfl rfl rfl .z ?_)
    refine RunL.op (OpS.lit (r := (Rep.int .u8)) (f := true) h3 Try.underlying22 ti5 rfl rfl rfl rfl rfl (.cons rfl V.int .nil) rfl rfl (fun u3 w2 h4 => ?_))
    obtain ⟨x2, e3, hF⟩ := bindP_use hF
    refine RunL.op (OpS.app (f' := true) h4 .z Try.underlying22 ti5 rfl rfl rfl rfl rfl rfl rfl (V.at .z) (.inr Pure.int) e3 (fun u4 w3 h5 => ?_))
    refine RunL.op (OpS.as rfl rfl rfl ?_)
    refine RunL.nil ?_
    refine Run.slim [(3, u4), (0, v0), (4, .int .i64 s1.1)] ⟨rfl, rfl, rfl, trivial⟩ ?_
    refine Run.endBlock ?_
    refine Run.reg ?_
    refine RunL.op (OpS.mv rfl rfl rfl ?_)
    refine RunL.op (OpS.bin rfl rfl rfl rfl rfl ?_)
    refine RunL.op (OpS.as rfl rfl rfl ?_)
    obtain ⟨x3, e4, hF⟩ := letP_use hF
    refine RunL.name e4 ?_
    refine RunL.nil ?_
    refine Run.slim [(4, .int .i64 x3), (3, u4), (0, v0)] ⟨rfl, rfl, rfl, trivial⟩ ?_
    refine Run.slim [(0, v0), (3, u4), (4, .int .i64 x3)] ⟨rfl, rfl, rfl, trivial⟩ ?_
    exact hk1 (x3, x2) _ _ ⟨u4, rfl, (h5.facts (.atm (.s (.s .z)) .nil)).picks (.cons .z .nil)⟩ hF
  ·
    refine Run.exit rfl ?_
    refine Run.seq ?_
    refine Run.reg ?_
    refine RunL.op (OpS.mv rfl rfl rfl ?_)
    refine RunL.op (OpS.as rfl rfl rfl ?_)
    refine RunL.nil ?_
    refine Run.slim [(2, u1)] ⟨rfl, trivial⟩ ?_
    refine Run.retP rfl (.tmp rfl .nil) ?_
    cases hF
    exact Post.mk' ⟨u1, rfl, rfl, rfl, rfl⟩ (h2.picks (.cons .z .nil)) .nil
theorem ref01_CRC8_ok {fuel : Nat} {a0 : List Int} {y : Int} (hF : ref01_CRC8 fuel a0 = some y) {w : World} {v0 : Value} :
    Spec Try.prog 33 [v0].toArray w [(false, .val (Rep.slice (Rep.int .u8)) v0 a0)] [] (fun v Γr Ωr Ωo => v = .int .u8 y ∧ Γr = [] ∧ Ωr = [] ∧ Ωo = []) := by
  refine Spec.of (L := [(0, v0)]) Try.func33 rfl ⟨rfl, trivial⟩ rfl (fun e h => ?_)
  unfold ref01_CRC8 at hF
  refine Run.seq ?_
  refine Run.reg ?_
  refine RunL.op (OpS.as rfl rfl rfl ?_)
  refine RunL.nil ?_
  refine Run.slim [(0, v0)] ⟨rfl, trivial⟩ ?_
  refine Run.seq ?_
  refine Run.reg ?_
  refine RunL.op (OpS.as rfl rfl rfl ?_)
  refine RunL.nil ?_
  refine Run.seq ?_
  refine Run.seq ?_
  refine Run.reg ?_
  refine RunL.op (OpS.as rfl rfl rfl ?_)
  refine RunL.nil ?_
  refine Run.block ?_
  refine Run.slim [(0, v0), (3, .int .i64 0), (4, .int .i64 0)] ⟨rfl, rfl, rfl, trivial⟩ ?_
  refine Run.loopP (σ := (Int × Int)) (fun s_ L_ w_ => L_ = [(0, v0), (3, .int .i64 s_.1), (4, .int .i64 s_.2)] ∧ St e w_ [(false, .val (Rep.slice (Rep.int .u8)) v0 a0)] []) hF ⟨rfl, (h.facts (.atm .z .nil)).picks .nil⟩ (fun k1 hk1 s1 _ w1 hI hF => ?_)
  obtain ⟨rfl, h1⟩ := hI
  refine Run.seq ?_
  refine Run.seq ?_
  refine Run.reg ?_
  refine RunL.op (OpS.mv rfl rfl rfl ?_)
  refine RunL.op (OpS.mv rfl rfl rfl ?_)
  refine RunL.op (OpS.len h1 Try.underlying22 rfl rfl rfl (V.at .z) ?_)
  refine RunL.op (OpS.bin rfl rfl rfl rfl rfl ?_)
  refine RunL.nil ?_
  refine Run.slim [(9, .bool (decide (s1.2 < (a0.length : Int)))), (0, v0), (3, .int .i64 s1.1), (4, .int .i64 s1.2)] ⟨rfl, rfl, rfl, rfl, trivial⟩ ?_
  refine Run.ite rfl hF (fun e1 hF => ?_) (fun e1 hF => ?_)
  ·
    refine Run.skip ?_
    refine Run.seq ?_
    refine Run.block ?_
    refine Run.seq ?_
    refine Run.reg ?_
    refine RunL.op (OpS.mv rfl rfl rfl ?_)
    refine RunL.op (OpS.mv rfl rfl rfl ?_)
    refine RunL.op (OpS.mv rfl rfl rfl ?_)
    obtain ⟨x1, e2, hF⟩ := bindP_use hF
    refine RunL.op (OpS.iptr h1 Try.underlying22 ty5 rfl rfl rfl rfl (V.at .z) e2 (fun u1 h2 => ?_))
    refine RunL.op (OpS.loadi h2 ty5 rfl rfl rfl .z ?_)
    refine RunL.op (OpS.conv Try.underlying5 Try.underlying3 rfl rfl rfl ?_)
    refine RunL.op (OpS.bin rfl rfl rfl rfl rfl ?_)
    refine RunL.op (OpS.as rfl rfl rfl ?_)
    obtain ⟨x2, e3, hF⟩ := letP_use hF
    refine RunL.name e3 ?_
    refine RunL.nil ?_
    refine Run.slim [(3, .int .i64 x2), (0, v0), (4, .int .i64 s1.2)] ⟨rfl, rfl, rfl, trivial⟩ ?_
    refine Run.seq ?_
    refine Run.reg ?_
    refine RunL.op (OpS.as rfl rfl rfl ?_)
    refine RunL.nil ?_
    refine Run.block ?_
    refine Run.slim [(0, v0), (3, .int .i64 x2), (4, .int .i64 s1.2), (5, .int .i64 0)] ⟨rfl, rfl, rfl, rfl, trivial⟩ ?_
    refine Run.loopP (σ := (Int × Int)) (fun s_ L_ w_ => L_ = [(0, v0), (3, .int .i64 s_.1), (4, .int .i64 s1.2), (5, .int .i64 s_.2)] ∧ St e w_ [(false, .val (Rep.slice (Rep.int .u8)) v0 a0)] []) hF ⟨rfl, (h2.facts (.atm (.s .z) .nil)).picks .nil⟩ (fun k2 hk2 s2 _ w2 hI hF => ?_)
    obtain ⟨rfl, h3⟩ := hI
    refine Run.seq ?_
    refine Run.seq ?_
    refine Run.reg ?_
    refine RunL.op (OpS.mv rfl rfl rfl ?_)
    refine RunL.op (OpS.bin rfl rfl rfl rfl rfl ?_)
    refine RunL.nil ?_
    refine Run.slim [(20, .bool (decide (s2.2 < 8))), (0, v0), (3, .int .i64 s2.1), (4, .int .i64 s1.2), (5, .int .i64 s2.2)] ⟨rfl, rfl, rfl, rfl, rfl, trivial⟩ ?_
    refine Run.ite rfl hF (fun e4 hF => ?_) (fun e4 hF => ?_)
    ·
      refine Run.skip ?_
      refine Run.seq ?_
      refine Run.block ?_
      refine Run.seq ?_
      refine Run.reg ?_
      refine RunL.op (OpS.mv rfl rfl rfl ?_)
      refine RunL.op (OpS.bin rfl rfl rfl rfl rfl ?_)
      refine RunL.op (OpS.as rfl rfl rfl ?_)
      obtain ⟨x3, e5, hF⟩ := letP_use hF
      refine RunL.name e5 ?_
      refine RunL.nil ?_
      refine Run.slim [(3, .int .i64 x3), (0, v0), (4, .int .i64 s1.2), (5, .int .i64 s2.2)] ⟨rfl, rfl, rfl, rfl, trivial⟩ ?_
      refine Run.seq ?_
      refine Run.reg ?_
      refine RunL.op (OpS.mv rfl rfl rfl ?_)
      refine RunL.op (OpS.bin rfl rfl rfl rfl rfl ?_)
      refine RunL.nil ?_
      refine Run.slim [(26, .bool (decide (x3 ≥ 256))), (3, .int .i64 x3), (0, v0), (4, .int .i64 s1.2), (5, .int .i64 s2.2)] ⟨rfl, rfl, rfl, rfl, rfl, trivial⟩ ?_
      refine Run.ite rfl hF (fun e6 hF => ?_) (fun e6 hF => ?_)
      ·
        refine Run.reg ?_
        refine RunL.op (OpS.mv rfl rfl rfl ?_)
        refine RunL.op (OpS.bin rfl rfl rfl rfl rfl ?_)
        refine RunL.op (OpS.bin rfl rfl rfl rfl rfl ?_)
        refine RunL.op (OpS.as rfl rfl rfl ?_)
        obtain ⟨x4, e7, hF⟩ := letP_use hF
        refine RunL.name e7 ?_
        refine RunL.nil ?_
        refine Run.slim [(3, .int .i64 x4), (0, v0), (4, .int .i64 s1.2), (5, .int .i64 s2.2)] ⟨rfl, rfl, rfl, rfl, trivial⟩ ?_
        refine Run.endBlock ?_
        refine Run.reg ?_
        refine RunL.op (OpS.mv rfl rfl rfl ?_)
        refine RunL.op (OpS.bin rfl rfl rfl rfl rfl ?_)
        refine RunL.op (OpS.as rfl rfl rfl ?_)
        obtain ⟨x5, e8, hF⟩ := letP_use hF
        refine RunL.name e8 ?_
        refine RunL.nil ?_
        refine Run.slim [(5, .int .i64 x5), (3, .int .i64 x4), (0, v0), (4, .int .i64 s1.2)] ⟨rfl, rfl, rfl, rfl, trivial⟩ ?_
        refine Run.slim [(0, v0), (3, .int .i64 x4), (4, .int .i64 s1.2), (5, .int .i64 x5)] ⟨rfl, rfl, rfl, rfl, trivial⟩ ?_
        exact hk2 (x4, x5) _ _ ⟨rfl, (h3.facts (.atm .z .nil)).picks .nil⟩ hF
      ·
        refine Run.skip ?_
        refine Run.endBlock ?_
        refine Run.reg ?_
        refine RunL.op (OpS.mv rfl rfl rfl ?_)
        refine RunL.op (OpS.bin rfl rfl rfl rfl rfl ?_)
        refine RunL.op (OpS.as rfl rfl rfl ?_)
        obtain ⟨x6, e9, hF⟩ := letP_use hF
        refine RunL.name e9 ?_
        refine RunL.nil ?_
        refine Run.slim [(5, .int .i64 x6), (3, .int .i64 x3), (0, v0), (4, .int .i64 s1.2)] ⟨rfl, rfl, rfl, rfl, trivial⟩ ?_
        refine Run.slim [(0, v0), (3, .int .i64 x3), (4, .int .i64 s1.2), (5, .int .i64 x6)] ⟨rfl, rfl, rfl, rfl, trivial⟩ ?_
        exact hk2 (x3, x6) _ _ ⟨rfl, (h3.facts (.atm .z .nil)).picks .nil⟩ hF
    ·
      refine Run.exit rfl ?_
      refine Run.endBlock ?_
      refine Run.reg ?_
      refine RunL.op (OpS.mv rfl rfl rfl ?_)
      refine RunL.op (OpS.bin rfl rfl rfl rfl rfl ?_)
      refine RunL.op (OpS.as rfl rfl rfl ?_)
      obtain ⟨x7, e10, hF⟩ := letP_use hF
      refine RunL.name e10 ?_
      refine RunL.nil ?_
      refine Run.slim [(4, .int .i64 x7), (0, v0), (3, .int .i64 s2.1)] ⟨rfl, rfl, rfl, trivial⟩ ?_
      refine Run.slim [(0, v0), (3, .int .i64 s2.1), (4, .int .i64 x7)] ⟨rfl, rfl, rfl, trivial⟩ ?_
      exact hk1 (s2.1, x7) _ _ ⟨rfl, (h3.facts (.atm .z .nil)).picks .nil⟩ hF
  ·
    refine Run.exit rfl ?_
    refine Run.seq ?_
    refine Run.reg ?_
    refine RunL.op (OpS.mv rfl rfl rfl ?_)
    refine RunL.op (OpS.conv Try.underlying3 Try.underlying5 rfl rfl rfl ?_)
    refine RunL.op (OpS.as rfl rfl rfl ?_)
    refine RunL.nil ?_
    refine Run.slim [(2, .int .u8 (IntKind.u8.wrap s1.1))] ⟨rfl, trivial⟩ ?_
    refine Run.retP rfl (.tmp rfl .nil) ?_
    cases hF
    exact Post.mk' ⟨rfl, rfl, rfl, rfl⟩ (h1.picks .nil) .nil
theorem ref01_SealCRC8_ok {fuel : Nat} {a0 : List Int} {y : (List Int)} (hF : ref01_SealCRC8 fuel a0 = some y) {w : World} {v0 : Value} :
    Spec Try.prog 23 [v0].toArray w [(false, .val (Rep.slice (Rep.int .u8)) v0 a0)] [] (fun v Γr Ωr Ωo => ∃ u0 : Value, v = u0 ∧ Γr = [] ∧ Ωr = [(true, .slice 5 (Rep.int .u8) u0 y)] ∧ Ωo = []) := by
  refine Spec.of (L := [(0, v0)]) Try.func23 rfl ⟨rfl, trivial⟩ rfl (fun e h => ?_)
  unfold ref01_SealCRC8 at hF
  refine Run.seq ?_
  refine Run.reg ?_
  refine RunL.op (OpS.as rfl rfl rfl ?_)
  refine RunL.nil ?_
  refine Run.slim [(0, v0)] ⟨rfl, trivial⟩ ?_
  refine Run.seq ?_
  refine Run.reg ?_
  refine RunL.op (OpS.mv rfl rfl rfl ?_)
  obtain ⟨y1, e1, hF⟩ := bindP_use hF
  refine RunL.op (OpS.callP h Try.func32 rfl rfl rfl rfl (vs := [v0]) rfl (ref01_Copy_ok e1) (.cons (V.at .z) .nil) ?_)
  rintro u1 w1 _ _ _ ⟨_, rfl, rfl, rfl, rfl⟩ h1
  have h2 := h1 rfl rfl
  simp only [List.cons_append, List.nil_append] at h2
  refine RunL.op (OpS.mv rfl rfl rfl ?_)
  obtain ⟨y2, e2, hF⟩ := bindP_use hF
  refine RunL.op (OpS.callP h2 Try.func33 rfl rfl rfl rfl (vs := [v0]) rfl (ref01_CRC8_ok e2) (.cons (V.at .z) .nil) ?_)
  rintro _ w2 _ _ _ ⟨rfl, rfl, rfl, rfl⟩ h3
  have h4 := h3 rfl rfl
  simp only [List.cons_append, List.nil_append] at h4
  refine RunL.op (OpS.lit (r := (Rep.int .u8)) (f := true) h4 Try.underlying22 ti5 rfl rfl rfl rfl rfl (.cons rfl V.int .nil) rfl rfl (fun u2 w3 h5 => ?_))
  obtain ⟨x1, e3, hF⟩ := bindP_use hF
  refine RunL.op (OpS.app (f' := true) h5 .z Try.underlying22 ti5 rfl rfl rfl rfl rfl rfl rfl (V.at .z) (.inr Pure.int) e3 (fun u3 w4 h6 => ?_))
  refine RunL.op (OpS.as rfl rfl rfl ?_)
  refine RunL.nil ?_
  refine Run.slim [(2, u3)] ⟨rfl, trivial⟩ ?_
  refine Run.retP rfl (.tmp rfl .nil) ?_
  cases hF
  exact Post.mk' ⟨u3, rfl, rfl, rfl, rfl⟩ (h6.picks (.cons .z .nil)) .nil
theorem ref20_Encode_ok {fuel : Nat} {a0 : Frame_} {y : (List Int) × Int} (hF : ref20_Encode fuel a0 = some y) {w : World} {v0 : Value} :
    Spec Try.prog 10 [v0].toArray w [(false, .val Frame_.rep v0 a0)] [] (fun v Γr Ωr Ωo => ∃ u0 : Value, v = .tuple #[u0, .int .i64 y.2] ∧ Γr = [] ∧ Ωr = [(true, .slice 5 (Rep.int .u8) u0 y.1)] ∧ Ωo = []) := by
  refine Spec.of (L := [(0, v0)]) Try.func10 rfl ⟨rfl, trivial⟩ rfl (fun e h => ?_)
  unfold ref20_Encode at hF
  refine Run.seq ?_
  refine Run.reg ?_
  refine RunL.op (OpS.boxF h rfl rfl rfl (V.at .z) (fun u1 w1 h1 => ?_))
  refine RunL.op (OpS.as rfl rfl rfl ?_)
  refine RunL.op (OpS.as rfl rfl rfl ?_)
  refine RunL.nil ?_
  refine Run.slim [(1, u1)] ⟨rfl, trivial⟩ ?_
  refine Run.seq ?_
  refine Run.seq ?_
  refine Run.reg ?_
  refine RunL.op (OpS.loadB h1 .z PA.z Get.id ty30 rfl rfl rfl (fun u2 h2 => ?_))
  obtain ⟨y1, e1, hF⟩ := bindP_use hF
  refine RunL.op (OpS.callP h2 Try.func20 rfl rfl rfl rfl (vs := [u2]) rfl (ref20_Valid_ok e1) (.cons (V.at .z) .nil) ?_)
  rintro _ w2 _ _ _ ⟨rfl, rfl, rfl, rfl⟩ h3
  have h4 := h3 rfl rfl
  simp only [List.cons_append, List.nil_append] at h4
  refine RunL.op (OpS.not rfl rfl rfl ?_)
  refine RunL.nil ?_
  refine Run.slim [(7, .bool (!y1)), (1, u1)] ⟨rfl, rfl, trivial⟩ ?_
  refine Run.ite rfl hF (fun e2 hF => ?_) (fun e2 hF => ?_)
  ·
    refine Run.seq ?_
    refine Run.reg ?_
    refine RunL.op (OpS.as rfl rfl rfl ?_)
    refine RunL.op (OpS.as rfl rfl rfl ?_)
    refine RunL.nil ?_
    refine Run.slim [(3, .int .i64 1), (2, .slice none 0 0)] ⟨rfl, rfl, trivial⟩ ?_
    have h5 := St.nil 5 (Rep.int .u8) h4
    refine Run.retP rfl (.tmp rfl (.tmp rfl .nil)) ?_
    cases hF
    exact Post.mk' ⟨(.slice none 0 0), rfl, rfl, rfl, rfl⟩ (h5.picks (.cons .z .nil)) .nil
  ·
    refine Run.skip ?_
    refine Run.seq ?_
    refine Run.reg ?_
    refine RunL.op (OpS.fbox (o3 := 0) h4 .z PA.z fa30_0 rfl rfl rfl rfl ?_)
    refine RunL.op (OpS.loadBi h4 .z PA.a (Get.fld Frame_.f0) ty5 rfl rfl rfl ?_)
    refine RunL.op (OpS.bin rfl rfl rfl rfl rfl ?_)
    refine RunL.op (OpS.fbox (o3 := 2) h4 .z PA.z fa30_2 rfl rfl rfl rfl ?_)
    refine RunL.op (OpS.loadB h4 .z PA.a (Get.fld Frame_.f2) ty22 rfl rfl rfl (fun u3 h6 => ?_))
    refine RunL.op (OpS.len h6 Try.underlying22 rfl rfl rfl (V.at .z) ?_)
    refine RunL.op (OpS.bin rfl rfl rfl rfl rfl ?_)
    refine RunL.op (OpS.conv Try.underlying3 Try.underlying5 rfl rfl rfl ?_)
    refine RunL.op (OpS.fbox (o3 := 1) h6 .z PA.z fa30_1 rfl rfl rfl rfl ?_)
    refine RunL.op (OpS.loadBi h6 .z PA.a (Get.fld Frame_.f1) ty5 rfl rfl rfl ?_)
    refine RunL.op (OpS.bin rfl rfl rfl rfl rfl ?_)
    refine RunL.op (OpS.bin rfl rfl rfl rfl rfl ?_)
    refine RunL.op (OpS.litO (r := (Rep.int .u8)) (f := true) h6 Try.underlying22 ti5 rfl rfl rfl rfl rfl (.cons rfl V.int (.cons rfl V.int (.cons rfl V.int (.cons rfl V.int .nil)))) rfl rfl (fun u4 w3 h7 => ?_))
    refine RunL.op (OpS.as rfl rfl rfl ?_)
    refine RunL.nil ?_
    refine Run.slim [(4, u4), (1, u1)] ⟨rfl, rfl, trivial⟩ ?_
    refine Run.seq ?_
    refine Run.reg ?_
    refine RunL.op (OpS.mv rfl rfl rfl ?_)
    refine RunL.op (OpS.fbox (o3 := 2) h7 (.s .z) PA.z fa30_2 rfl rfl rfl rfl ?_)
    refine RunL.op (OpS.loadB h7 (.s .z) PA.a (Get.fld Frame_.f2) ty22 rfl rfl rfl (fun u5 h8 => ?_))
    obtain ⟨x1, e3, hF⟩ := bindP_use hF
    refine RunL.op (OpS.app (f' := false) h8 .z Try.underlying22 ti5 rfl rfl rfl rfl rfl rfl rfl (V.at .z) (.inr Pure.int) e3 (fun u6 w4 h9 => ?_))
    obtain ⟨y2, e4, hF⟩ := bindP_use hF
    refine RunL.op (OpS.callP h9 Try.func23 rfl rfl rfl rfl (vs := [u6]) rfl (ref01_SealCRC8_ok e4) (.own .z .nil) ?_)
    rintro u7 w5 _ _ _ ⟨_, rfl, rfl, rfl, rfl⟩ h10
    have h11 := h10 rfl rfl
    simp only [List.cons_append, List.nil_append] at h11
    refine RunL.op (OpS.as rfl rfl rfl ?_)
    refine RunL.op (OpS.as rfl rfl rfl ?_)
    refine RunL.nil ?_
    refine Run.slim [(3, .int .i64 0), (2, u7)] ⟨rfl, rfl, trivial⟩ ?_
    refine Run.retP rfl (.tmp rfl (.tmp rfl .nil)) ?_
    cases hF
    exact Post.mk' ⟨u7, rfl, rfl, rfl, rfl⟩ (h11.picks (.cons .z .nil)) .nil
theorem checksum_OpenCRC8_ok {fuel : Nat} {a0 : List Int} {y : (List Int) × Int} (hF : checksum_OpenCRC8 fuel a0 = some y) {w : World} {v0 : Value} :
    Spec Try.prog 34 [v0].toArray w [(false, .val (Rep.slice (Rep.int .u8)) v0 a0)] [] (fun v Γr Ωr Ωo => ∃ u0 : Value, v = .tuple #[u0, .int .i64 y.2] ∧ Γr = [] ∧ Ωr = [(true, .slice 5 (Rep.int .u8) u0 y.1)] ∧ Ωo = []) := by
  refine Spec.of (L := [(0, v0)]) Try.func34 rfl ⟨rfl, trivial⟩ rfl (fun e h => ?_)
  unfold checksum_OpenCRC8 at hF
  refine Run.seq ?_
  refine Run.reg ?_
  refine RunL.op (OpS.as rfl rfl rfl ?_)
  refine RunL.op (OpS.as rfl rfl rfl ?_)
  refine RunL.nil ?_
  refine Run.slim [(0, v0)] ⟨rfl, trivial⟩ ?_
  refine Run.seq ?_
  refine Run.reg ?_
  refine RunL.op (OpS.mv rfl rfl rfl ?_)
  refine RunL.op (OpS.len h Try.underlying22 rfl rfl rfl (V.at .z) ?_)
  refine RunL.op (OpS.bin rfl rfl rfl rfl rfl ?_)
  refine RunL.op (OpS.as rfl rfl rfl ?_)
  obtain ⟨x1, e1, hF⟩ := letP_use hF
  refine RunL.name e1 ?_
  refine RunL.nil ?_
  refine Run.slim [(4, .int .i64 x1), (0, v0)] ⟨rfl, rfl, trivial⟩ ?_
  refine Run.seq ?_
  refine Run.block ?_
  refine Run.seq ?_
  refine Run.reg ?_
  refine RunL.op (OpS.mv rfl rfl rfl ?_)
  refine RunL.op (OpS.bin rfl rfl rfl rfl rfl ?_)
  refine RunL.op (OpS.as rfl rfl rfl ?_)
  obtain ⟨x2, e2, hF⟩ := letP_use hF
  refine RunL.nameb e2 ?_
  refine RunL.nil ?_
  refine Run.slim [(8, .bool x2), (4, .int .i64 x1), (0, v0)] ⟨rfl, rfl, rfl, trivial⟩ ?_
  refine Run.ite rfl hF (fun e3 hF => ?_) (fun e3 hF => ?_)
  ·
    refine Run.seq ?_
    refine Run.reg ?_
    refine RunL.op (OpS.as rfl rfl rfl ?_)
    refine RunL.op (OpS.as rfl rfl rfl ?_)
    refine RunL.nil ?_
    refine Run.slim [(3, .int .i64 4), (2, .slice none 0 0)] ⟨rfl, rfl, trivial⟩ ?_
    have h1 := St.nil 5 (Rep.int .u8) h
    refine Run.retP rfl (.tmp rfl (.tmp rfl .nil)) ?_
    cases hF
    exact Post.mk' ⟨(.slice none 0 0), rfl, rfl, rfl, rfl⟩ (h1.picks (.cons .z .nil)) .nil
  ·
    refine Run.seq ?_
    obtain ⟨x3, e4, hF⟩ := bindP_use hF
    obtain ⟨y1, e5, hF⟩ := bindP_use hF
    obtain ⟨x4, e6, hF⟩ := bindP_use hF
    refine Run.drawV (Ωs := []) [⟨some 12, some (v0), fun _ => [], fun ds_ u_ => [], [], [], none⟩, ⟨some 13, some (.int .i64 x1), fun _ => [], fun ds_ u_ => [], [], [], none⟩, ⟨some 14, none, fun u_ => [(false, .val (Rep.slice (Rep.int .u8)) u_ x3)], fun ds_ u_ => [], [], [], none⟩, ⟨some 15, some (.int .u8 y1), fun _ => [], fun ds_ u_ => [], [], [], none⟩, ⟨some 16, some (v0), fun _ => [], fun ds_ u_ => [], [], [], none⟩, ⟨some 17, some (.int .i64 x1), fun _ => [], fun ds_ u_ => [], [], [], none⟩, ⟨some 18, none, fun u_ => [(false, .ptr (Rep.int .u8) u_ x4)], fun ds_ u_ => [], [], [], none⟩, ⟨some 19, some (.int .u8 x4), fun _ => [], fun ds_ u_ => [], [], [], none⟩, ⟨some 20, some (.bool (y1 != x4)), fun _ => [], fun ds_ u_ => [], [], [], none⟩, ⟨some 11, some (.bool (y1 != x4)), fun _ => [], fun ds_ u_ => [], [], [], none⟩] [[], [], [0, 1], [2], [], [], [4, 5], [6], [3, 7], [8]] [] [0, 1, 2, 3, 4, 5, 6, 7, 8, 9] Try_mixed rfl rfl rfl h (.cons ?_ (.cons ?_ (.cons ?_ (.cons ?_ (.cons ?_ (.cons ?_ (.cons ?_ (.cons ?_ (.cons ?_ (.cons ?_ .nil)))))))))) (fun q1 w hq1 h => ?_)
    · intro q1 w Γx Ωx h
      refine OpS.mv rfl rfl rfl ?_
      exact ⟨undef, rfl, trivial, h⟩
    · intro q1 w Γx Ωx h
      refine OpS.mv rfl rfl rfl ?_
      exact ⟨undef, rfl, trivial, h⟩
    · intro q1 w Γx Ωx h
      refine OpS.sub h Try.underlying22 ty5 rfl rfl rfl rfl rfl (V.at .z) e4 (fun u h6 => ?_)
      exact ⟨u, rfl, trivial, h6⟩
    · intro q1 w Γx Ωx h
      refine OpS.callP h Try.func38 rfl rfl rfl rfl (vs := [(q1 2)]) rfl (checksum_CRC8_ok e5) (.cons (V.at .z) .nil) ?_
      rintro _ w2 _ _ _ ⟨rfl, rfl, rfl, rfl⟩ h7
      have h8 := h7 rfl rfl
      simp only [List.cons_append, List.nil_append] at h8
      exact ⟨undef, rfl, trivial, h8⟩
    · intro q1 w Γx Ωx h
      refine OpS.mv rfl rfl rfl ?_
      exact ⟨undef, rfl, trivial, h⟩
    · intro q1 w Γx Ωx h
      refine OpS.mv rfl rfl rfl ?_
      exact ⟨undef, rfl, trivial, h⟩
    · intro q1 w Γx Ωx h
      refine OpS.iptr h Try.underlying22 ty5 rfl rfl rfl rfl (V.at .z) e6 (fun u h9 => ?_)
      exact ⟨u, rfl, trivial, h9⟩
    · intro q1 w Γx Ωx h
      refine OpS.loadi h ty5 rfl rfl rfl .z ?_
      exact ⟨undef, rfl, trivial, h⟩
    · intro q1 w Γx Ωx h
      refine OpS.bin rfl rfl rfl rfl rfl ?_
      exact ⟨undef, rfl, trivial, h⟩
    · intro q1 w Γx Ωx h
      refine OpS.as rfl rfl rfl ?_
      exact ⟨undef, rfl, trivial, h⟩
    have h10 : St e w [(false, .val (Rep.slice (Rep.int .u8)) (q1 2) x3), (false, .ptr (Rep.int .u8) (q1 6) x4), (false, .val (Rep.slice (Rep.int .u8)) v0 a0)] [] := h
    refine RunL.nil ?_
    refine Run.slim [(11, .bool (y1 != x4)), (4, .int .i64 x1), (0, v0)] ⟨rfl, rfl, rfl, trivial⟩ ?_
    refine Run.ite rfl hF (fun e7 hF => ?_) (fun e7 hF => ?_)
    ·
      refine Run.seq ?_
      refine Run.reg ?_
      refine RunL.op (OpS.as rfl rfl rfl ?_)
      refine RunL.op (OpS.as rfl rfl rfl ?_)
      refine RunL.nil ?_
      refine Run.slim [(3, .int .i64 5), (2, .slice none 0 0)] ⟨rfl, rfl, trivial⟩ ?_
      have h11 := St.nil 5 (Rep.int .u8) h10
      refine Run.retP rfl (.tmp rfl (.tmp rfl .nil)) ?_
      cases hF
      exact Post.mk' ⟨(.slice none 0 0), rfl, rfl, rfl, rfl⟩ (h11.picks (.cons .z .nil)) .nil
    ·
      refine Run.skip ?_
      refine Run.endBlock ?_
      refine Run.seq ?_
      refine Run.reg ?_
      refine RunL.op (OpS.mv rfl rfl rfl ?_)
      refine RunL.op (OpS.mv rfl rfl rfl ?_)
      obtain ⟨x5, e8, hF⟩ := bindP_use hF
      refine RunL.op (OpS.sub h10 Try.underlying22 ty5 rfl rfl rfl rfl rfl (V.at (.s (.s .z))) e8 (fun u1 h12 => ?_))
      obtain ⟨y2, e9, hF⟩ := bindP_use hF
      refine RunL.op (OpS.callP h12 Try.func35 rfl rfl rfl rfl (vs := [u1]) rfl (slices_Clone_byte_byte_ok e9) (.cons (V.at .z) .nil) ?_)
      rintro u2 w3 _ _ _ ⟨_, rfl, rfl, rfl, rfl⟩ h13
      have h14 := h13 rfl rfl
      simp only [List.cons_append, List.nil_append] at h14
      refine RunL.op (OpS.as rfl rfl rfl ?_)
      refine RunL.op (OpS.as rfl rfl rfl ?_)
      refine RunL.nil ?_
      refine Run.slim [(3, .int .i64 0), (2, u2)] ⟨rfl, rfl, trivial⟩ ?_
      refine Run.retP rfl (.tmp rfl (.tmp rfl .nil)) ?_
      cases hF
      exact Post.mk' ⟨u2, rfl, rfl, rfl, rfl⟩ (h14.picks (.cons .z .nil)) .nil
set_option maxHeartbeats 8000000 in
theorem frame_Decode_ok {fuel : Nat} {a0 : List Int} {y : Frame_ × Int} (hF : frame_Decode fuel a0 = some y) {w : World} {v0 : Value} :
    Spec Try.prog 24 [v0].toArray w [(false, .val (Rep.slice (Rep.int .u8)) v0 a0)] [] (fun v Γr Ωr Ωo => ∃ u0 : Value, v = .tuple #[u0, .int .i64 y.2] ∧ Γr = [(true, .val Frame_.rep u0 y.1)] ∧ Ωr = [] ∧ Ωo = []) := by
  refine Spec.of (L := [(0, v0)]) Try.func24 rfl ⟨rfl, trivial⟩ rfl (fun e h => ?_)
  unfold frame_Decode at hF
  refine Run.seq ?_
  refine Run.reg ?_
  refine RunL.op (OpS.alloc h ti30 Frame_.zr rfl rfl (fun u1 w1 h1 => ?_))
  refine RunL.op (OpS.as rfl rfl rfl ?_)
  refine RunL.nil ?_
  refine Run.slim [(2, u1), (0, v0)] ⟨rfl, rfl, trivial⟩ ?_
  refine Run.seq ?_
  refine Run.seq ?_
  refine Run.reg ?_
  refine RunL.op (OpS.mv rfl rfl rfl ?_)
  refine RunL.op (OpS.len h1 Try.underlying22 rfl rfl rfl (V.at .z) ?_)
  refine RunL.op (OpS.bin rfl rfl rfl rfl rfl ?_)
  refine RunL.nil ?_
  refine Run.slim [(9, .bool (decide ((a0.length : Int) < 5))), (2, u1), (0, v0)] ⟨rfl, rfl, rfl, trivial⟩ ?_
  refine Run.ite rfl hF (fun e1 hF => ?_) (fun e1 hF => ?_)
  ·
    refine Run.seq ?_
    refine Run.reg ?_
    refine RunL.op (OpS.build (f := true) (x' := Frame_.z) h1 pl30 ti30 Frame_.zr rfl rfl rfl .nil (fun u2 h2 => ?_))
    refine RunL.op (OpS.storeB (f' := true) h2 .z PA.z Put.id ty30 rfl rfl rfl (V.at .z) (.inl rfl) (fun w2 h3 => ?_))
    refine RunL.op (OpS.as rfl rfl rfl ?_)
    refine RunL.nil ?_
    refine Run.slim [(3, .int .i64 4), (2, u1)] ⟨rfl, rfl, trivial⟩ ?_
    obtain ⟨u3, hu1, h4⟩ := res_box h3 .z ty30
    refine Run.retP rfl (.cell rfl hu1 (.tmp rfl .nil)) ?_
    cases hF
    exact Post.mk' ⟨u3, rfl, rfl, rfl, rfl⟩ (h4.picks .nil) (.val (V.at .z) .nil)
  ·
    refine Run.skip ?_
    refine Run.seq ?_
    refine Run.reg ?_
    refine RunL.op (OpS.mv rfl rfl rfl ?_)
    refine RunL.op (OpS.len h1 Try.underlying22 rfl rfl rfl (V.at .z) ?_)
    refine RunL.op (OpS.as rfl rfl rfl ?_)
    refine RunL.nil ?_
    refine Run.slim [(4, .int .i64 (a0.length : Int)), (2, u1), (0, v0)] ⟨rfl, rfl, rfl, trivial⟩ ?_
    refine Run.seq ?_
    refine Run.reg ?_
    refine RunL.op (OpS.mv rfl rfl rfl ?_)
    obtain ⟨y1, e2, hF⟩ := bindP_use hF
    refine RunL.op (OpS.callP h1 Try.func34 rfl rfl rfl rfl (vs := [v0]) rfl (checksum_OpenCRC8_ok e2) (.cons (V.at .z) .nil) ?_)
    rintro _ w3 _ _ _ ⟨u4, rfl, rfl, rfl, rfl⟩ h5
    have h6 := h5 rfl rfl
    simp only [List.cons_append, List.nil_append] at h6
    refine RunL.op (OpS.mv rfl rfl rfl ?_)
    refine RunL.op (OpS.ext rfl rfl rfl rfl ?_)
    refine RunL.op (OpS.ext rfl rfl rfl rfl ?_)
    refine RunL.op (OpS.as rfl rfl rfl ?_)
    have h7 := (h6.pick .z).freeze
    refine RunL.op (OpS.as rfl rfl rfl ?_)
    refine RunL.nil ?_
    refine Run.slim [(5, .int .i64 y1.2), (0, u4), (4, .int .i64 (a0.length : Int)), (2, u1)] ⟨rfl, rfl, rfl, rfl, trivial⟩ ?_
    refine Run.seq ?_
    refine Run.seq ?_
    refine Run.reg ?_
    refine RunL.op (OpS.mv rfl rfl rfl ?_)
    refine RunL.op (OpS.bin rfl rfl rfl rfl rfl ?_)
    refine RunL.nil ?_
    refine Run.slim [(19, .bool (y1.2 != 0)), (5, .int .i64 y1.2), (0, u4), (4, .int .i64 (a0.length : Int)), (2, u1)] ⟨rfl, rfl, rfl, rfl, rfl, trivial⟩ ?_
    refine Run.ite rfl hF (fun e3 hF => ?_) (fun e3 hF => ?_)
    ·
      refine Run.seq ?_
      refine Run.reg ?_
      refine RunL.op (OpS.build (f := true) (x' := Frame_.z) h7 pl30 ti30 Frame_.zr rfl rfl rfl .nil (fun u5 h8 => ?_))
      refine RunL.op (OpS.mv rfl rfl rfl ?_)
      refine RunL.op (OpS.storeB (f' := true) h8 .z PA.z Put.id ty30 rfl rfl rfl (V.at .z) (.inl rfl) (fun w4 h9 => ?_))
      refine RunL.op (OpS.as rfl rfl rfl ?_)
      refine RunL.nil ?_
      refine Run.slim [(3, .int .i64 y1.2), (2, u1)] ⟨rfl, rfl, trivial⟩ ?_
      obtain ⟨u6, hu2, h10⟩ := res_box h9 .z ty30
      refine Run.retP rfl (.cell rfl hu2 (.tmp rfl .nil)) ?_
      cases hF
      exact Post.mk' ⟨u6, rfl, rfl, rfl, rfl⟩ (h10.picks .nil) (.val (V.at .z) .nil)
    ·
      refine Run.skip ?_
      refine Run.seq ?_
      obtain ⟨x1, e4, hF⟩ := bindP_use hF
      obtain ⟨x2, e5, hF⟩ := bindP_use hF
      obtain ⟨x3, e6, hF⟩ := bindP_use hF
      obtain ⟨y2, e7, hF⟩ := bindP_use hF
      refine Run.drawV (Ωs := [(true, .box 30 Frame_.rep u1 Frame_.z)]) [⟨some 22, some (u4), fun _ => [], fun ds_ u_ => [], [], [], none⟩, ⟨some 23, none, fun u_ => [(true, .ptr (Rep.int .u8) u_ x1)], fun ds_ u_ => [], [], [], none⟩, ⟨some 24, some (.int .u8 x1), fun _ => [], fun ds_ u_ => [], [], [], none⟩, ⟨some 25, some (.int .u8 (IntKind.u8.wrap (Int.tdiv x1 2))), fun _ => [], fun ds_ u_ => [], [], [], none⟩, ⟨some 26, some (u4), fun _ => [], fun ds_ u_ => [], [], [], none⟩, ⟨some 27, none, fun u_ => [(true, .ptr (Rep.int .u8) u_ x2)], fun ds_ u_ => [], [], [], none⟩, ⟨some 28, some (.int .u8 x2), fun _ => [], fun ds_ u_ => [], [], [], none⟩, ⟨some 29, some (.int .u8 (IntKind.u8.wrap (Int.tdiv x2 2))), fun _ => [], fun ds_ u_ => [], [], [], none⟩, ⟨some 30, some (u4), fun _ => [], fun ds_ u_ => [], [], [], none⟩, ⟨some 31, none, fun u_ => [(true, .val (Rep.slice (Rep.int .u8)) u_ x3)], fun ds_ u_ => [], [], [], none⟩, ⟨some 32, none, fun u_ => [(true, .val (Rep.slice (Rep.int .u8)) u_ y2)], fun ds_ u_ => [], [], [], none⟩, ⟨some 33, none, fun u_ => [(true, .val Frame_.rep u_ (⟨(IntKind.u8.wrap (Int.tdiv x1 2)), (IntKind.u8.wrap (Int.tdiv x2 2)), y2⟩ : Frame_))], fun ds_ u_ => [], [], [], none⟩, ⟨some 6, none, fun u_ => [], fun ds_ u_ => [(true, .box 30 Frame_.rep u_ Frame_.z)], [], [], none⟩] [[], [0], [1], [2], [], [4], [5], [6], [], [8], [9], [3, 7, 10], []] [] [0, 1, 2, 3, 4, 5, 6, 7, 8, 9, 10, 11, 12] Try_mixed rfl rfl rfl h7 (.cons ?_ (.cons ?_ (.cons ?_ (.cons ?_ (.cons ?_ (.cons ?_ (.cons ?_ (.cons ?_ (.cons ?_ (.cons ?_ (.cons ?_ (.cons ?_ (.cons ?_ .nil))))))))))))) (fun q1 w hq1 h => ?_)
      · intro q1 w Γx Ωx h
        refine OpS.mv rfl rfl rfl ?_
        exact ⟨undef, rfl, trivial, h⟩
      · intro q1 w Γx Ωx h
        refine OpS.iptr h Try.underlying22 ty5 rfl rfl rfl rfl (V.at .z) e4 (fun u h19 => ?_)
        exact ⟨u, rfl, trivial, h19⟩
      · intro q1 w Γx Ωx h
        refine OpS.loadi h ty5 rfl rfl rfl .z ?_
        exact ⟨undef, rfl, trivial, h⟩
      · intro q1 w Γx Ωx h
        refine OpS.quo rfl rfl rfl rfl (by decide) ?_
        exact ⟨undef, rfl, trivial, h⟩
      · intro q1 w Γx Ωx h
        refine OpS.mv rfl rfl rfl ?_
        exact ⟨undef, rfl, trivial, h⟩
      · intro q1 w Γx Ωx h
        refine OpS.iptr h Try.underlying22 ty5 rfl rfl rfl rfl (V.at .z) e5 (fun u h20 => ?_)
        exact ⟨u, rfl, trivial, h20⟩
      · intro q1 w Γx Ωx h
        refine OpS.loadi h ty5 rfl rfl rfl .z ?_
        exact ⟨undef, rfl, trivial, h⟩
      · intro q1 w Γx Ωx h
        refine OpS.quo rfl rfl rfl rfl (by decide) ?_
        exact ⟨undef, rfl, trivial, h⟩
      · intro q1 w Γx Ωx h
        refine OpS.mv rfl rfl rfl ?_
        exact ⟨undef, rfl, trivial, h⟩
      · intro q1 w Γx Ωx h
        refine OpS.sub h Try.underlying22 ty5 rfl rfl rfl rfl rfl (V.at .z) e6 (fun u h21 => ?_)
        exact ⟨u, rfl, trivial, h21⟩
      · intro q1 w Γx Ωx h
        refine OpS.callP h Try.func35 rfl rfl rfl rfl (vs := [(q1 9)]) rfl (slices_Clone_byte_byte_ok e7) (.cons (V.at .z) .nil) ?_
        rintro u w7 _ _ _ ⟨_, rfl, rfl, rfl, rfl⟩ h22
        have h23 := h22 rfl rfl
        simp only [List.cons_append, List.nil_append] at h23
        have h24 := h23.freeze
        exact ⟨u, rfl, trivial, h24⟩
      · intro q1 w Γx Ωx h
        refine OpS.build (f := true) (x' := (⟨(IntKind.u8.wrap (Int.tdiv x1 2)), (IntKind.u8.wrap (Int.tdiv x2 2)), y2⟩ : Frame_)) h pl30 ti30 Frame_.zr rfl rfl rfl (.cons rfl Frame_.f0 rfl V.int (.cons rfl Frame_.f1 rfl V.int (.cons rfl Frame_.f2 rfl (V.at .z) .nil))) (fun u h25 => ?_)
        exact ⟨u, rfl, trivial, h25⟩
      · intro q1 w Γx Ωx h
        refine OpS.alloc h ti30 Frame_.zr rfl rfl (fun u w8 h26 => ?_)
        exact ⟨u, rfl, trivial, h26⟩
      have h27 : St e w [(true, .ptr (Rep.int .u8) (q1 1) x1), (true, .ptr (Rep.int .u8) (q1 5) x2), (true, .val (Rep.slice (Rep.int .u8)) (q1 9) x3), (true, .val (Rep.slice (Rep.int .u8)) (q1 10) y2), (true, .val Frame_.rep (q1 11) (⟨(IntKind.u8.wrap (Int.tdiv x1 2)), (IntKind.u8.wrap (Int.tdiv x2 2)), y2⟩ : Frame_)), (true, .val (Rep.slice (Rep.int .u8)) u4 y1.1), (false, .val (Rep.slice (Rep.int .u8)) v0 a0)] [(true, .box 30 Frame_.rep (q1 12) Frame_.z), (true, .box 30 Frame_.rep u1 Frame_.z)] := h
      refine RunL.op (OpS.storeB (f' := true) h27 .z PA.z Put.id ty30 rfl rfl rfl (V.at (.s (.s (.s (.s .z))))) (.inl rfl) (fun w9 h28 => ?_))
      refine RunL.nil ?_
      refine Run.slim [(6, (q1 12)), (0, u4), (4, .int .i64 (a0.length : Int)), (2, u1)] ⟨rfl, rfl, rfl, rfl, trivial⟩ ?_
      refine Run.seq ?_
      refine Run.block ?_
      refine Run.seq ?_
      refine Run.reg ?_
      refine RunL.op (OpS.mv rfl rfl rfl ?_)
      obtain ⟨x4, e8, hF⟩ := bindP_use hF
      refine RunL.op (OpS.iptr h28 Try.underlying22 ty5 rfl rfl rfl rfl (V.at (.s (.s (.s (.s (.s .z)))))) e8 (fun u7 h29 => ?_))
      refine RunL.op (OpS.loadi h29 ty5 rfl rfl rfl .z ?_)
      refine RunL.op (OpS.rem rfl rfl rfl rfl (by decide) ?_)
      refine RunL.op (OpS.bin rfl rfl rfl rfl rfl ?_)
      refine RunL.op (OpS.mv rfl rfl rfl ?_)
      refine RunL.join (σ := Bool) (fun s_ L_ w_ => L_ = [(2, u1), (6, (q1 12)), (34, .bool s_)] ∧ St e w_ [] [(true, .box 30 Frame_.rep u1 Frame_.z), (true, .box 30 Frame_.rep (q1 12) (⟨(IntKind.u8.wrap (Int.tdiv x1 2)), (IntKind.u8.wrap (Int.tdiv x2 2)), y2⟩ : Frame_))]) hF (fun s1 _ w10 hI hF => ?_) (fun j1 hj1 hF => ?_)
      ·
        obtain ⟨rfl, h30⟩ := hI
        refine Run.ite rfl hF (fun e9 hF => ?_) (fun e9 hF => ?_)
        ·
          refine Run.seq ?_
          refine Run.reg ?_
          refine RunL.op (OpS.build (f := true) (x' := Frame_.z) h30 pl30 ti30 Frame_.zr rfl rfl rfl .nil (fun u8 h31 => ?_))
          refine RunL.op (OpS.storeB (f' := true) h31 .z PA.z Put.id ty30 rfl rfl rfl (V.at .z) (.inl rfl) (fun w11 h32 => ?_))
          refine RunL.op (OpS.as rfl rfl rfl ?_)
          refine RunL.nil ?_
          refine Run.slim [(3, .int .i64 6), (2, u1)] ⟨rfl, rfl, trivial⟩ ?_
          obtain ⟨u9, hu3, h33⟩ := res_box h32 .z ty30
          refine Run.retP rfl (.cell rfl hu3 (.tmp rfl .nil)) ?_
          cases hF
          exact Post.mk' ⟨u9, rfl, rfl, rfl, rfl⟩ (h33.picks .nil) (.val (V.at .z) .nil)
        ·
          refine Run.seq ?_
          refine Run.reg ?_
          refine RunL.op (OpS.fbox (o3 := 0) h30 (.s .z) PA.z fa30_0 rfl rfl rfl rfl ?_)
          refine RunL.op (OpS.loadBi h30 (.s .z) PA.a (Get.fld Frame_.f0) ty5 rfl rfl rfl ?_)
          obtain ⟨y3, e10, hF⟩ := bindP_use hF
          refine RunL.op (OpS.callP h30 Try.func30 rfl rfl rfl rfl (vs := [.int .u8 ((⟨(IntKind.u8.wrap (Int.tdiv x1 2)), (IntKind.u8.wrap (Int.tdiv x2 2)), y2⟩ : Frame_).To)]) rfl (frame_address_ok e10) .nil ?_)
          rintro _ w12 _ _ _ ⟨rfl, rfl, rfl, rfl⟩ h34
          have h35 := h34 rfl rfl
          simp only [List.cons_append, List.nil_append] at h35
          refine RunL.op (OpS.not rfl rfl rfl ?_)
          refine RunL.op (OpS.mv rfl rfl rfl ?_)
          refine RunL.join (σ := Bool) (fun s_ L_ w_ => L_ = [(2, u1), (6, (q1 12)), (63, .bool s_)] ∧ St e w_ [] [(true, .box 30 Frame_.rep u1 Frame_.z), (true, .box 30 Frame_.rep (q1 12) (⟨(IntKind.u8.wrap (Int.tdiv x1 2)), (IntKind.u8.wrap (Int.tdiv x2 2)), y2⟩ : Frame_))]) hF (fun s2 _ w13 hI hF => ?_) (fun j2 hj2 hF => ?_)
          ·
            obtain ⟨rfl, h36⟩ := hI
            refine Run.ite rfl hF (fun e11 hF => ?_) (fun e11 hF => ?_)
            ·
              refine Run.seq ?_
              refine Run.reg ?_
              refine RunL.op (OpS.build (f := true) (x' := Frame_.z) h36 pl30 ti30 Frame_.zr rfl rfl rfl .nil (fun u10 h37 => ?_))
              refine RunL.op (OpS.storeB (f' := true) h37 .z PA.z Put.id ty30 rfl rfl rfl (V.at .z) (.inl rfl) (fun w14 h38 => ?_))
              refine RunL.op (OpS.as rfl rfl rfl ?_)
              refine RunL.nil ?_
              refine Run.slim [(3, .int .i64 13), (2, u1)] ⟨rfl, rfl, trivial⟩ ?_
              obtain ⟨u11, hu4, h39⟩ := res_box h38 .z ty30
              refine Run.retP rfl (.cell rfl hu4 (.tmp rfl .nil)) ?_
              cases hF
              exact Post.mk' ⟨u11, rfl, rfl, rfl, rfl⟩ (h39.picks .nil) (.val (V.at .z) .nil)
            ·
              refine Run.seq ?_
              refine Run.reg ?_
              refine RunL.op (OpS.fbox (o3 := 2) h36 (.s .z) PA.z fa30_2 rfl rfl rfl rfl ?_)
              refine RunL.op (OpS.loadB h36 (.s .z) PA.a (Get.fld Frame_.f2) ty22 rfl rfl rfl (fun u12 h40 => ?_))
              refine RunL.op (OpS.len h40 Try.underlying22 rfl rfl rfl (V.at .z) ?_)
              refine RunL.op (OpS.bin rfl rfl rfl rfl rfl ?_)
              refine RunL.op (OpS.as rfl rfl rfl ?_)
              obtain ⟨x5, e12, hF⟩ := letP_use hF
              refine RunL.nameb e12 ?_
              refine RunL.nil ?_
              refine Run.slim [(75, .bool x5), (2, u1), (6, (q1 12))] ⟨rfl, rfl, rfl, trivial⟩ ?_
              refine Run.ite rfl hF (fun e13 hF => ?_) (fun e13 hF => ?_)
              ·
                refine Run.seq ?_
                refine Run.reg ?_
                refine RunL.op (OpS.build (f := true) (x' := Frame_.z) h40 pl30 ti30 Frame_.zr rfl rfl rfl .nil (fun u13 h41 => ?_))
                refine RunL.op (OpS.storeB (f' := true) h41 .z PA.z Put.id ty30 rfl rfl rfl (V.at .z) (.inl rfl) (fun w15 h42 => ?_))
                refine RunL.op (OpS.as rfl rfl rfl ?_)
                refine RunL.nil ?_
                refine Run.slim [(3, .int .i64 3), (2, u1)] ⟨rfl, rfl, trivial⟩ ?_
                obtain ⟨u14, hu5, h43⟩ := res_box h42 .z ty30
                refine Run.retP rfl (.cell rfl hu5 (.tmp rfl .nil)) ?_
                cases hF
                exact Post.mk' ⟨u14, rfl, rfl, rfl, rfl⟩ (h43.picks .nil) (.val (V.at .z) .nil)
              ·
                refine Run.skip ?_
                refine Run.endBlock ?_
                refine Run.seq ?_
                refine Run.reg ?_
                refine RunL.op (OpS.loadB h40 (.s .z) PA.z Get.id ty30 rfl rfl rfl (fun u15 h44 => ?_))
                refine RunL.op (OpS.storeB (f' := true) h44 .z PA.z Put.id ty30 rfl rfl rfl (V.at .z) (.inl rfl) (fun w16 h45 => ?_))
                refine RunL.op (OpS.as rfl rfl rfl ?_)
                refine RunL.nil ?_
                refine Run.slim [(3, .int .i64 0), (2, u1)] ⟨rfl, rfl, trivial⟩ ?_
                obtain ⟨u16, hu6, h46⟩ := res_box h45 .z ty30
                refine Run.retP rfl (.cell rfl hu6 (.tmp rfl .nil)) ?_
                cases hF
                exact Post.mk' ⟨u16, rfl, rfl, rfl, rfl⟩ (h46.picks .nil) (.val (V.at .z) .nil)
          ·
            refine RunL.caseb hF (fun e14 hF => ?_) (fun e14 hF => ?_)
            ·
              refine RunL.op (OpS.pass rfl rfl rfl ?_)
              refine RunL.op (OpS.pass rfl rfl rfl ?_)
              refine RunL.op (OpS.pass rfl rfl rfl ?_)
              refine RunL.op (OpS.pass rfl rfl rfl ?_)
              refine RunL.op (OpS.pick rfl rfl rfl rfl ?_)
              refine RunL.op (OpS.as rfl rfl rfl ?_)
              refine RunL.nil ?_
              refine Run.slim [(63, .bool true), (2, u1), (6, (q1 12))] ⟨rfl, rfl, rfl, trivial⟩ ?_
              refine Run.slim [(2, u1), (6, (q1 12)), (63, .bool true)] ⟨rfl, rfl, rfl, trivial⟩ ?_
              exact hj2 (true) _ _ ⟨rfl, (h35.facts .nil).picks (.cons .z (.cons .z .nil))⟩ hF
            ·
              refine RunL.op (OpS.fbox (o3 := 1) h35 (.s .z) PA.z fa30_1 rfl rfl rfl rfl ?_)
              refine RunL.op (OpS.loadBi h35 (.s .z) PA.a (Get.fld Frame_.f1) ty5 rfl rfl rfl ?_)
              obtain ⟨y4, e15, hF⟩ := bindP_use hF
              refine RunL.op (OpS.callP h35 Try.func30 rfl rfl rfl rfl (vs := [.int .u8 ((⟨(IntKind.u8.wrap (Int.tdiv x1 2)), (IntKind.u8.wrap (Int.tdiv x2 2)), y2⟩ : Frame_).From)]) rfl (frame_address_ok e15) .nil ?_)
              rintro _ w17 _ _ _ ⟨rfl, rfl, rfl, rfl⟩ h47
              have h48 := h47 rfl rfl
              simp only [List.cons_append, List.nil_append] at h48
              refine RunL.op (OpS.not rfl rfl rfl ?_)
              refine RunL.op (OpS.pick rfl rfl rfl rfl ?_)
              refine RunL.op (OpS.as rfl rfl rfl ?_)
              obtain ⟨x6, e16, hF⟩ := letP_use hF
              refine RunL.nameb e16 ?_
              refine RunL.nil ?_
              refine Run.slim [(63, .bool x6), (2, u1), (6, (q1 12))] ⟨rfl, rfl, rfl, trivial⟩ ?_
              refine Run.slim [(2, u1), (6, (q1 12)), (63, .bool x6)] ⟨rfl, rfl, rfl, trivial⟩ ?_
              exact hj2 (x6) _ _ ⟨rfl, (h48.facts .nil).picks (.cons .z (.cons .z .nil))⟩ hF
      ·
        refine RunL.caseb hF (fun e17 hF => ?_) (fun e17 hF => ?_)
        ·
          refine RunL.op (OpS.pass rfl rfl rfl ?_)
          refine RunL.op (OpS.pass rfl rfl rfl ?_)
          refine RunL.op (OpS.pass rfl rfl rfl ?_)
          refine RunL.op (OpS.pass rfl rfl rfl ?_)
          refine RunL.op (OpS.pick rfl rfl rfl rfl ?_)
          refine RunL.op (OpS.mv rfl rfl rfl ?_)
          refine RunL.op (OpS.pass rfl rfl rfl ?_)
          refine RunL.op (OpS.pass rfl rfl rfl ?_)
          refine RunL.op (OpS.pass rfl rfl rfl ?_)
          refine RunL.op (OpS.pass rfl rfl rfl ?_)
          refine RunL.op (OpS.pass rfl rfl rfl ?_)
          refine RunL.op (OpS.pass rfl rfl rfl ?_)
          refine RunL.op (OpS.pass rfl rfl rfl ?_)
          refine RunL.op (OpS.pick rfl rfl rfl rfl ?_)
          refine RunL.op (OpS.mv rfl rfl rfl ?_)
          refine RunL.op (OpS.pass rfl rfl rfl ?_)
          refine RunL.op (OpS.pass rfl rfl rfl ?_)
          refine RunL.op (OpS.pass rfl rfl rfl ?_)
          refine RunL.op (OpS.pass rfl rfl rfl ?_)
          refine RunL.op (OpS.pass rfl rfl rfl ?_)
          refine RunL.op (OpS.pick rfl rfl rfl rfl ?_)
          refine RunL.op (OpS.as rfl rfl rfl ?_)
          refine RunL.nil ?_
          refine Run.slim [(34, .bool true), (6, (q1 12)), (2, u1)] ⟨rfl, rfl, rfl, trivial⟩ ?_
          refine Run.slim [(2, u1), (6, (q1 12)), (34, .bool true)] ⟨rfl, rfl, rfl, trivial⟩ ?_
          exact hj1 (true) _ _ ⟨rfl, (h29.facts .nil).picks (.cons (.s .z) (.cons .z .nil))⟩ hF
        ·
          refine RunL.op (OpS.mv rfl rfl rfl ?_)
          obtain ⟨x7, e18, hF⟩ := bindP_use hF
          refine RunL.op (OpS.iptr h29 Try.underlying22 ty5 rfl rfl rfl rfl (V.at (.s (.s (.s (.s (.s (.s .z))))))) e18 (fun u17 h49 => ?_))
          refine RunL.op (OpS.loadi h49 ty5 rfl rfl rfl .z ?_)
          refine RunL.op (OpS.bin rfl rfl rfl rfl rfl ?_)
          refine RunL.op (OpS.pick rfl rfl rfl rfl ?_)
          refine RunL.op (OpS.mv rfl rfl rfl ?_)
          refine RunL.caseb hF (fun e19 hF => ?_) (fun e19 hF => ?_)
          ·
            refine RunL.op (OpS.pass rfl rfl rfl ?_)
            refine RunL.op (OpS.pass rfl rfl rfl ?_)
            refine RunL.op (OpS.pass rfl rfl rfl ?_)
            refine RunL.op (OpS.pass rfl rfl rfl ?_)
            refine RunL.op (OpS.pass rfl rfl rfl ?_)
            refine RunL.op (OpS.pass rfl rfl rfl ?_)
            refine RunL.op (OpS.pass rfl rfl rfl ?_)
            refine RunL.op (OpS.pick rfl rfl rfl rfl ?_)
            refine RunL.op (OpS.mv rfl rfl rfl ?_)
            refine RunL.op (OpS.pass rfl rfl rfl ?_)
            refine RunL.op (OpS.pass rfl rfl rfl ?_)
            refine RunL.op (OpS.pass rfl rfl rfl ?_)
            refine RunL.op (OpS.pass rfl rfl rfl ?_)
            refine RunL.op (OpS.pass rfl rfl rfl ?_)
            refine RunL.op (OpS.pick rfl rfl rfl rfl ?_)
            refine RunL.op (OpS.as rfl rfl rfl ?_)
            refine RunL.nil ?_
            refine Run.slim [(34, .bool true), (6, (q1 12)), (2, u1)] ⟨rfl, rfl, rfl, trivial⟩ ?_
            refine Run.slim [(2, u1), (6, (q1 12)), (34, .bool true)] ⟨rfl, rfl, rfl, trivial⟩ ?_
            exact hj1 (true) _ _ ⟨rfl, (h49.facts .nil).picks (.cons (.s .z) (.cons .z .nil))⟩ hF
          ·
            refine RunL.op (OpS.mv rfl rfl rfl ?_)
            obtain ⟨x8, e20, hF⟩ := bindP_use hF
            refine RunL.op (OpS.iptr h49 Try.underlying22 ty5 rfl rfl rfl rfl (V.at (.s (.s (.s (.s (.s (.s (.s .z)))))))) e20 (fun u18 h50 => ?_))
            refine RunL.op (OpS.loadi h50 ty5 rfl rfl rfl .z ?_)
            refine RunL.op (OpS.conv Try.underlying5 Try.underlying3 rfl rfl rfl ?_)
            refine RunL.op (OpS.mv rfl rfl rfl ?_)
            refine RunL.op (OpS.bin rfl rfl rfl rfl rfl ?_)
            refine RunL.op (OpS.bin rfl rfl rfl rfl rfl ?_)
            refine RunL.op (OpS.pick rfl rfl rfl rfl ?_)
            refine RunL.op (OpS.mv rfl rfl rfl ?_)
            refine RunL.caseb hF (fun e21 hF => ?_) (fun e21 hF => ?_)
            ·
              refine RunL.op (OpS.pass rfl rfl rfl ?_)
              refine RunL.op (OpS.pass rfl rfl rfl ?_)
              refine RunL.op (OpS.pass rfl rfl rfl ?_)
              refine RunL.op (OpS.pass rfl rfl rfl ?_)
              refine RunL.op (OpS.pass rfl rfl rfl ?_)
              refine RunL.op (OpS.pick rfl rfl rfl rfl ?_)
              refine RunL.op (OpS.as rfl rfl rfl ?_)
              refine RunL.nil ?_
              refine Run.slim [(34, .bool true), (6, (q1 12)), (2, u1)] ⟨rfl, rfl, rfl, trivial⟩ ?_
              refine Run.slim [(2, u1), (6, (q1 12)), (34, .bool true)] ⟨rfl, rfl, rfl, trivial⟩ ?_
              exact hj1 (true) _ _ ⟨rfl, (h50.facts .nil).picks (.cons (.s .z) (.cons .z .nil))⟩ hF
            ·
              refine RunL.op (OpS.mv rfl rfl rfl ?_)
              obtain ⟨x9, e22, hF⟩ := bindP_use hF
              refine RunL.op (OpS.iptr h50 Try.underlying22 ty5 rfl rfl rfl rfl (V.at (.s (.s (.s (.s (.s (.s (.s (.s .z))))))))) e22 (fun u19 h51 => ?_))
              refine RunL.op (OpS.loadi h51 ty5 rfl rfl rfl .z ?_)
              refine RunL.op (OpS.rem rfl rfl rfl rfl (by decide) ?_)
              refine RunL.op (OpS.bin rfl rfl rfl rfl rfl ?_)
              refine RunL.op (OpS.pick rfl rfl rfl rfl ?_)
              refine RunL.op (OpS.as rfl rfl rfl ?_)
              obtain ⟨x10, e23, hF⟩ := letP_use hF
              refine RunL.nameb e23 ?_
              refine RunL.nil ?_
              refine Run.slim [(34, .bool x10), (6, (q1 12)), (2, u1)] ⟨rfl, rfl, rfl, trivial⟩ ?_
              refine Run.slim [(2, u1), (6, (q1 12)), (34, .bool x10)] ⟨rfl, rfl, rfl, trivial⟩ ?_
              exact hj1 (x10) _ _ ⟨rfl, (h51.facts .nil).picks (.cons (.s .z) (.cons .z .nil))⟩ hF
theorem ref01_OpenCRC8_ok {fuel : Nat} {a0 : List Int} {y : (List Int) × Int} (hF : ref01_OpenCRC8 fuel a0 = some y) {w : World} {v0 : Value} :
    Spec Try.prog 36 [v0].toArray w [(false, .val (Rep.slice (Rep.int .u8)) v0 a0)] [] (fun v Γr Ωr Ωo => ∃ u0 : Value, v = .tuple #[u0, .int .i64 y.2] ∧ Γr = [] ∧ Ωr = [(true, .slice 5 (Rep.int .u8) u0 y.1)] ∧ Ωo = []) := by
  refine Spec.of (L := [(0, v0)]) Try.func36 rfl ⟨rfl, trivial⟩ rfl (fun e h => ?_)
  unfold ref01_OpenCRC8 at hF
  refine Run.seq ?_
  refine Run.reg ?_
  refine RunL.op (OpS.as rfl rfl rfl ?_)
  refine RunL.op (OpS.as rfl rfl rfl ?_)
  refine RunL.nil ?_
  refine Run.slim [(0, v0)] ⟨rfl, trivial⟩ ?_
  refine Run.seq ?_
  refine Run.seq ?_
  refine Run.reg ?_
  refine RunL.op (OpS.mv rfl rfl rfl ?_)
  refine RunL.op (OpS.len h Try.underlying22 rfl rfl rfl (V.at .z) ?_)
  refine RunL.op (OpS.bin rfl rfl rfl rfl rfl ?_)
  refine RunL.nil ?_
  refine Run.slim [(7, .bool ((a0.length : Int) == 0)), (0, v0)] ⟨rfl, rfl, trivial⟩ ?_
  refine Run.ite rfl hF (fun e1 hF => ?_) (fun e1 hF => ?_)
  ·
    refine Run.seq ?_
    refine Run.reg ?_
    refine RunL.op (OpS.as rfl rfl rfl ?_)
    refine RunL.op (OpS.as rfl rfl rfl ?_)
    refine RunL.nil ?_
    refine Run.slim [(3, .int .i64 4), (2, .slice none 0 0)] ⟨rfl, rfl, trivial⟩ ?_
    have h1 := St.nil 5 (Rep.int .u8) h
    refine Run.retP rfl (.tmp rfl (.tmp rfl .nil)) ?_
    cases hF
    exact Post.mk' ⟨(.slice none 0 0), rfl, rfl, rfl, rfl⟩ (h1.picks (.cons .z .nil)) .nil
  ·
    refine Run.skip ?_
    refine Run.seq ?_
    refine Run.reg ?_
    refine RunL.op (OpS.mv rfl rfl rfl ?_)
    refine RunL.op (OpS.len h Try.underlying22 rfl rfl rfl (V.at .z) ?_)
    refine RunL.op (OpS.bin rfl rfl rfl rfl rfl ?_)
    refine RunL.op (OpS.as rfl rfl rfl ?_)
    obtain ⟨x1, e2, hF⟩ := letP_use hF
    refine RunL.name e2 ?_
    refine RunL.nil ?_
    refine Run.slim [(4, .int .i64 x1), (0, v0)] ⟨rfl, rfl, trivial⟩ ?_
    refine Run.seq ?_
    refine Run.seq ?_
    obtain ⟨x2, e3, hF⟩ := bindP_use hF
    obtain ⟨y1, e4, hF⟩ := bindP_use hF
    obtain ⟨x3, e5, hF⟩ := bindP_use hF
    refine Run.drawV (Ωs := []) [⟨some 11, some (v0), fun _ => [], fun ds_ u_ => [], [], [], none⟩, ⟨some 12, some (.int .i64 x1), fun _ => [], fun ds_ u_ => [], [], [], none⟩, ⟨some 13, none, fun u_ => [(false, .val (Rep.slice (Rep.int .u8)) u_ x2)], fun ds_ u_ => [], [], [], none⟩, ⟨some 14, some (.int .u8 y1), fun _ => [], fun ds_ u_ => [], [], [], none⟩, ⟨some 15, some (v0), fun _ => [], fun ds_ u_ => [], [], [], none⟩, ⟨some 16, some (.int .i64 x1), fun _ => [], fun ds_ u_ => [], [], [], none⟩, ⟨some 17, none, fun u_ => [(false, .ptr (Rep.int .u8) u_ x3)], fun ds_ u_ => [], [], [], none⟩, ⟨some 18, some (.int .u8 x3), fun _ => [], fun ds_ u_ => [], [], [], none⟩, ⟨some 19, some (.bool (y1 != x3)), fun _ => [], fun ds_ u_ => [], [], [], none⟩] [[], [], [0, 1], [2], [], [], [4, 5], [6], [3, 7]] [] [0, 1, 2, 3, 4, 5, 6, 7, 8] Try_mixed rfl rfl rfl h (.cons ?_ (.cons ?_ (.cons ?_ (.cons ?_ (.cons ?_ (.cons ?_ (.cons ?_ (.cons ?_ (.cons ?_ .nil))))))))) (fun q1 w hq1 h => ?_)
    · intro q1 w Γx Ωx h
      refine OpS.mv rfl rfl rfl ?_
      exact ⟨undef, rfl, trivial, h⟩
    · intro q1 w Γx Ωx h
      refine OpS.mv rfl rfl rfl ?_
      exact ⟨undef, rfl, trivial, h⟩
    · intro q1 w Γx Ωx h
      refine OpS.sub h Try.underlying22 ty5 rfl rfl rfl rfl rfl (V.at .z) e3 (fun u h6 => ?_)
      exact ⟨u, rfl, trivial, h6⟩
    · intro q1 w Γx Ωx h
      refine OpS.callP h Try.func33 rfl rfl rfl rfl (vs := [(q1 2)]) rfl (ref01_CRC8_ok e4) (.cons (V.at .z) .nil) ?_
      rintro _ w2 _ _ _ ⟨rfl, rfl, rfl, rfl⟩ h7
      have h8 := h7 rfl rfl
      simp only [List.cons_append, List.nil_append] at h8
      exact ⟨undef, rfl, trivial, h8⟩
    · intro q1 w Γx Ωx h
      refine OpS.mv rfl rfl rfl ?_
      exact ⟨undef, rfl, trivial, h⟩
    · intro q1 w Γx Ωx h
      refine OpS.mv rfl rfl rfl ?_
      exact ⟨undef, rfl, trivial, h⟩
    · intro q1 w Γx Ωx h
      refine OpS.iptr h Try.underlying22 ty5 rfl rfl rfl rfl (V.at .z) e5 (fun u h9 => ?_)
      exact ⟨u, rfl, trivial, h9⟩
    · intro q1 w Γx Ωx h
      refine OpS.loadi h ty5 rfl rfl rfl .z ?_
      exact ⟨undef, rfl, trivial, h⟩
    · intro q1 w Γx Ωx h
      refine OpS.bin rfl rfl rfl rfl rfl ?_
      exact ⟨undef, rfl, trivial, h⟩
    have h10 : St e w [(false, .val (Rep.slice (Rep.int .u8)) (q1 2) x2), (false, .ptr (Rep.int .u8) (q1 6) x3), (false, .val (Rep.slice (Rep.int .u8)) v0 a0)] [] := h
    refine RunL.nil ?_
    refine Run.slim [(19, .bool (y1 != x3)), (4, .int .i64 x1), (0, v0)] ⟨rfl, rfl, rfl, trivial⟩ ?_
    refine Run.ite rfl hF (fun e6 hF => ?_) (fun e6 hF => ?_)
    ·
      refine Run.seq ?_
      refine Run.reg ?_
      refine RunL.op (OpS.as rfl rfl rfl ?_)
      refine RunL.op (OpS.as rfl rfl rfl ?_)
      refine RunL.nil ?_
      refine Run.slim [(3, .int .i64 5), (2, .slice none 0 0)] ⟨rfl, rfl, trivial⟩ ?_
      have h11 := St.nil 5 (Rep.int .u8) h10
      refine Run.retP rfl (.tmp rfl (.tmp rfl .nil)) ?_
      cases hF
      exact Post.mk' ⟨(.slice none 0 0), rfl, rfl, rfl, rfl⟩ (h11.picks (.cons .z .nil)) .nil
    ·
      refine Run.skip ?_
      refine Run.seq ?_
      refine Run.reg ?_
      refine RunL.op (OpS.mv rfl rfl rfl ?_)
      refine RunL.op (OpS.mv rfl rfl rfl ?_)
      obtain ⟨x4, e7, hF⟩ := bindP_use hF
      refine RunL.op (OpS.sub h10 Try.underlying22 ty5 rfl rfl rfl rfl rfl (V.at (.s (.s .z))) e7 (fun u1 h12 => ?_))
      obtain ⟨y2, e8, hF⟩ := bindP_use hF
      refine RunL.op (OpS.callP h12 Try.func32 rfl rfl rfl rfl (vs := [u1]) rfl (ref01_Copy_ok e8) (.cons (V.at .z) .nil) ?_)
      rintro u2 w3 _ _ _ ⟨_, rfl, rfl, rfl, rfl⟩ h13
      have h14 := h13 rfl rfl
      simp only [List.cons_append, List.nil_append] at h14
      refine RunL.op (OpS.as rfl rfl rfl ?_)
      refine RunL.op (OpS.as rfl rfl rfl ?_)
      refine RunL.nil ?_
      refine Run.slim [(3, .int .i64 0), (2, u2)] ⟨rfl, rfl, trivial⟩ ?_
      refine Run.retP rfl (.tmp rfl (.tmp rfl .nil)) ?_
      cases hF
      exact Post.mk' ⟨u2, rfl, rfl, rfl, rfl⟩ (h14.picks (.cons .z .nil)) .nil
set_option maxHeartbeats 8000000 in
theorem ref20_Decode_ok {fuel : Nat} {a0 : List Int} {y : Frame_ × Int} (hF : ref20_Decode fuel a0 = some y) {w : World} {v0 : Value} :
    Spec Try.prog 25 [v0].toArray w [(false, .val (Rep.slice (Rep.int .u8)) v0 a0)] [] (fun v Γr Ωr Ωo => ∃ u0 : Value, v = .tuple #[u0, .int .i64 y.2] ∧ Γr = [(true, .val Frame_.rep u0 y.1)] ∧ Ωr = [] ∧ Ωo = []) := by
  refine Spec.of (L := [(0, v0)]) Try.func25 rfl ⟨rfl, trivial⟩ rfl (fun e h => ?_)
  unfold ref20_Decode at hF
  refine Run.seq ?_
  refine Run.reg ?_
  refine RunL.op (OpS.alloc h ti30 Frame_.zr rfl rfl (fun u1 w1 h1 => ?_))
  refine RunL.op (OpS.as rfl rfl rfl ?_)
  refine RunL.nil ?_
  refine Run.slim [(2, u1), (0, v0)] ⟨rfl, rfl, trivial⟩ ?_
  refine Run.seq ?_
  refine Run.reg ?_
  refine RunL.op (OpS.build (f := true) (x' := Frame_.z) h1 pl30 ti30 Frame_.zr rfl rfl rfl .nil (fun u2 h2 => ?_))
  refine RunL.op (OpS.alloc h2 ti30 Frame_.zr rfl rfl (fun u3 w2 h3 => ?_))
  refine RunL.op (OpS.storeB (f' := true) h3 .z PA.z Put.id ty30 rfl rfl rfl (V.at .z) (.inl rfl) (fun w3 h4 => ?_))
  refine RunL.nil ?_
  refine Run.slim [(4, u3), (2, u1), (0, v0)] ⟨rfl, rfl, rfl, trivial⟩ ?_
  refine Run.seq ?_
  refine Run.seq ?_
  refine Run.reg ?_
  refine RunL.op (OpS.mv rfl rfl rfl ?_)
  refine RunL.op (OpS.len h4 Try.underlying22 rfl rfl rfl (V.at (.s .z)) ?_)
  refine RunL.op (OpS.bin rfl rfl rfl rfl rfl ?_)
  refine RunL.nil ?_
  refine Run.slim [(11, .bool (decide ((a0.length : Int) < 5))), (4, u3), (2, u1), (0, v0)] ⟨rfl, rfl, rfl, rfl, trivial⟩ ?_
  refine Run.ite rfl hF (fun e1 hF => ?_) (fun e1 hF => ?_)
  ·
    refine Run.seq ?_
    refine Run.reg ?_
    refine RunL.op (OpS.loadB h4 .z PA.z Get.id ty30 rfl rfl rfl (fun u4 h5 => ?_))
    refine RunL.op (OpS.storeB (f' := true) h5 (.s .z) PA.z Put.id ty30 rfl rfl rfl (V.at .z) (.inl rfl) (fun w4 h6 => ?_))
    refine RunL.op (OpS.as rfl rfl rfl ?_)
    refine RunL.nil ?_
    refine Run.slim [(3, .int .i64 4), (2, u1)] ⟨rfl, rfl, trivial⟩ ?_
    obtain ⟨u5, hu1, h7⟩ := res_box h6 .z ty30
    refine Run.retP rfl (.cell rfl hu1 (.tmp rfl .nil)) ?_
    cases hF
    exact Post.mk' ⟨u5, rfl, rfl, rfl, rfl⟩ (h7.picks .nil) (.val (V.at .z) .nil)
  ·
    refine Run.skip ?_
    refine Run.seq ?_
    refine Run.reg ?_
    refine RunL.op (OpS.mv rfl rfl rfl ?_)
    obtain ⟨y1, e2, hF⟩ := bindP_use hF
    refine RunL.op (OpS.callP h4 Try.func36 rfl rfl rfl rfl (vs := [v0]) rfl (ref01_OpenCRC8_ok e2) (.cons (V.at (.s .z)) .nil) ?_)
    rintro _ w5 _ _ _ ⟨u6, rfl, rfl, rfl, rfl⟩ h8
    have h9 := h8 rfl rfl
    simp only [List.cons_append, List.nil_append] at h9
    refine RunL.op (OpS.mv rfl rfl rfl ?_)
    refine RunL.op (OpS.ext rfl rfl rfl rfl ?_)
    refine RunL.op (OpS.ext rfl rfl rfl rfl ?_)
    refine RunL.op (OpS.as rfl rfl rfl ?_)
    have h10 := (h9.pick .z).freeze
    refine RunL.op (OpS.as rfl rfl rfl ?_)
    refine RunL.nil ?_
    refine Run.slim [(6, .int .i64 y1.2), (5, u6), (4, u3), (2, u1), (0, v0)] ⟨rfl, rfl, rfl, rfl, rfl, trivial⟩ ?_
    refine Run.seq ?_
    refine Run.seq ?_
    refine Run.reg ?_
    refine RunL.op (OpS.mv rfl rfl rfl ?_)
    refine RunL.op (OpS.bin rfl rfl rfl rfl rfl ?_)
    refine RunL.nil ?_
    refine Run.slim [(19, .bool (y1.2 != 0)), (6, .int .i64 y1.2), (5, u6), (4, u3), (2, u1), (0, v0)] ⟨rfl, rfl, rfl, rfl, rfl, rfl, trivial⟩ ?_
    refine Run.ite rfl hF (fun e3 hF => ?_) (fun e3 hF => ?_)
    ·
      refine Run.seq ?_
      refine Run.reg ?_
      refine RunL.op (OpS.loadB h10 .z PA.z Get.id ty30 rfl rfl rfl (fun u7 h11 => ?_))
      refine RunL.op (OpS.mv rfl rfl rfl ?_)
      refine RunL.op (OpS.storeB (f' := true) h11 (.s .z) PA.z Put.id ty30 rfl rfl rfl (V.at .z) (.inl rfl) (fun w6 h12 => ?_))
      refine RunL.op (OpS.as rfl rfl rfl ?_)
      refine RunL.nil ?_
      refine Run.slim [(3, .int .i64 y1.2), (2, u1)] ⟨rfl, rfl, trivial⟩ ?_
      obtain ⟨u8, hu2, h13⟩ := res_box h12 .z ty30
      refine Run.retP rfl (.cell rfl hu2 (.tmp rfl .nil)) ?_
      cases hF
      exact Post.mk' ⟨u8, rfl, rfl, rfl, rfl⟩ (h13.picks .nil) (.val (V.at .z) .nil)
    ·
      refine Run.skip ?_
      refine Run.seq ?_
      refine Run.seq ?_
      refine Run.reg ?_
      refine RunL.op (OpS.mv rfl rfl rfl ?_)
      obtain ⟨x1, e4, hF⟩ := bindP_use hF
      refine RunL.op (OpS.iptr h10 Try.underlying22 ty5 rfl rfl rfl rfl (V.at .z) e4 (fun u9 h14 => ?_))
      refine RunL.op (OpS.loadi h14 ty5 rfl rfl rfl .z ?_)
      refine RunL.op (OpS.rem rfl rfl rfl rfl (by decide) ?_)
      refine RunL.op (OpS.bin rfl rfl rfl rfl rfl ?_)
      refine RunL.op (OpS.mv rfl rfl rfl ?_)
      refine RunL.join (σ := Bool) (fun s_ L_ w_ => L_ = [(2, u1), (4, u3), (5, u6), (49, .bool s_)] ∧ St e w_ [(true, .val (Rep.slice (Rep.int .u8)) u6 y1.1)] [(true, .box 30 Frame_.rep u1 Frame_.z), (true, .box 30 Frame_.rep u3 Frame_.z)]) hF (fun s1 _ w7 hI hF => ?_) (fun j1 hj1 hF => ?_)
      ·
        obtain ⟨rfl, h15⟩ := hI
        refine Run.ite rfl hF (fun e5 hF => ?_) (fun e5 hF => ?_)
        ·
          refine Run.seq ?_
          refine Run.reg ?_
          refine RunL.op (OpS.loadB h15 (.s .z) PA.z Get.id ty30 rfl rfl rfl (fun u10 h16 => ?_))
          refine RunL.op (OpS.storeB (f' := true) h16 .z PA.z Put.id ty30 rfl rfl rfl (V.at .z) (.inl rfl) (fun w8 h17 => ?_))
          refine RunL.op (OpS.as rfl rfl rfl ?_)
          refine RunL.nil ?_
          refine Run.slim [(3, .int .i64 6), (2, u1)] ⟨rfl, rfl, trivial⟩ ?_
          obtain ⟨u11, hu3, h18⟩ := res_box h17 .z ty30
          refine Run.retP rfl (.cell rfl hu3 (.tmp rfl .nil)) ?_
          cases hF
          exact Post.mk' ⟨u11, rfl, rfl, rfl, rfl⟩ (h18.picks .nil) (.val (V.at .z) .nil)
        ·
          refine Run.skip ?_
          refine Run.seq ?_
          obtain ⟨x2, e6, hF⟩ := bindP_use hF
          obtain ⟨x3, e7, hF⟩ := bindP_use hF
          obtain ⟨x4, e8, hF⟩ := bindP_use hF
          obtain ⟨y2, e9, hF⟩ := bindP_use hF
          refine Run.drawV (Ωs := [(true, .box 30 Frame_.rep u1 Frame_.z), (true, .box 30 Frame_.rep u3 Frame_.z)]) [⟨some 51, some (u6), fun _ => [], fun ds_ u_ => [], [], [], none⟩, ⟨some 52, none, fun u_ => [(true, .ptr (Rep.int .u8) u_ x2)], fun ds_ u_ => [], [], [], none⟩, ⟨some 53, some (.int .u8 x2), fun _ => [], fun ds_ u_ => [], [], [], none⟩, ⟨some 54, some (.int .u8 (IntKind.u8.wrap (Int.tdiv x2 2))), fun _ => [], fun ds_ u_ => [], [], [], none⟩, ⟨some 55, some (u6), fun _ => [], fun ds_ u_ => [], [], [], none⟩, ⟨some 56, none, fun u_ => [(true, .ptr (Rep.int .u8) u_ x3)], fun ds_ u_ => [], [], [], none⟩, ⟨some 57, some (.int .u8 x3), fun _ => [], fun ds_ u_ => [], [], [], none⟩, ⟨some 58, some (.int .u8 (IntKind.u8.wrap (Int.tdiv x3 2))), fun _ => [], fun ds_ u_ => [], [], [], none⟩, ⟨some 59, some (u6), fun _ => [], fun ds_ u_ => [], [], [], none⟩, ⟨some 60, none, fun u_ => [(true, .val (Rep.slice (Rep.int .u8)) u_ x4)], fun ds_ u_ => [], [], [], none⟩, ⟨some 61, none, fun u_ => [(true, .val (Rep.slice (Rep.int .u8)) u_ y2)], fun ds_ u_ => [], [], [], none⟩, ⟨some 62, none, fun u_ => [(true, .val Frame_.rep u_ (⟨(IntKind.u8.wrap (Int.tdiv x2 2)), (IntKind.u8.wrap (Int.tdiv x3 2)), y2⟩ : Frame_))], fun ds_ u_ => [], [], [], none⟩, ⟨some 7, none, fun u_ => [], fun ds_ u_ => [(true, .box 30 Frame_.rep u_ Frame_.z)], [], [], none⟩] [[], [0], [1], [2], [], [4], [5], [6], [], [8], [9], [3, 7, 10], []] [] [0, 1, 2, 3, 4, 5, 6, 7, 8, 9, 10, 11, 12] Try_mixed rfl rfl rfl h15 (.cons ?_ (.cons ?_ (.cons ?_ (.cons ?_ (.cons ?_ (.cons ?_ (.cons ?_ (.cons ?_ (.cons ?_ (.cons ?_ (.cons ?_ (.cons ?_ (.cons ?_ .nil))))))))))))) (fun q1 w hq1 h => ?_)
          · intro q1 w Γx Ωx h
            refine OpS.mv rfl rfl rfl ?_
            exact ⟨undef, rfl, trivial, h⟩
          · intro q1 w Γx Ωx h
            refine OpS.iptr h Try.underlying22 ty5 rfl rfl rfl rfl (V.at .z) e6 (fun u h27 => ?_)
            exact ⟨u, rfl, trivial, h27⟩
          · intro q1 w Γx Ωx h
            refine OpS.loadi h ty5 rfl rfl rfl .z ?_
            exact ⟨undef, rfl, trivial, h⟩
          · intro q1 w Γx Ωx h
            refine OpS.quo rfl rfl rfl rfl (by decide) ?_
            exact ⟨undef, rfl, trivial, h⟩
          · intro q1 w Γx Ωx h
            refine OpS.mv rfl rfl rfl ?_
            exact ⟨undef, rfl, trivial, h⟩
          · intro q1 w Γx Ωx h
            refine OpS.iptr h Try.underlying22 ty5 rfl rfl rfl rfl (V.at .z) e7 (fun u h28 => ?_)
            exact ⟨u, rfl, trivial, h28⟩
          · intro q1 w Γx Ωx h
            refine OpS.loadi h ty5 rfl rfl rfl .z ?_
            exact ⟨undef, rfl, trivial, h⟩
          · intro q1 w Γx Ωx h
            refine OpS.quo rfl rfl rfl rfl (by decide) ?_
            exact ⟨undef, rfl, trivial, h⟩
          · intro q1 w Γx Ωx h
            refine OpS.mv rfl rfl rfl ?_
            exact ⟨undef, rfl, trivial, h⟩
          · intro q1 w Γx Ωx h
            refine OpS.sub h Try.underlying22 ty5 rfl rfl rfl rfl rfl (V.at .z) e8 (fun u h29 => ?_)
            exact ⟨u, rfl, trivial, h29⟩
          · intro q1 w Γx Ωx h
            refine OpS.callP h Try.func32 rfl rfl rfl rfl (vs := [(q1 9)]) rfl (ref01_Copy_ok e9) (.cons (V.at .z) .nil) ?_
            rintro u w11 _ _ _ ⟨_, rfl, rfl, rfl, rfl⟩ h30
            have h31 := h30 rfl rfl
            simp only [List.cons_append, List.nil_append] at h31
            have h32 := h31.freeze
            exact ⟨u, rfl, trivial, h32⟩
          · intro q1 w Γx Ωx h
            refine OpS.build (f := true) (x' := (⟨(IntKind.u8.wrap (Int.tdiv x2 2)), (IntKind.u8.wrap (Int.tdiv x3 2)), y2⟩ : Frame_)) h pl30 ti30 Frame_.zr rfl rfl rfl (.cons rfl Frame_.f0 rfl V.int (.cons rfl Frame_.f1 rfl V.int (.cons rfl Frame_.f2 rfl (V.at .z) .nil))) (fun u h33 => ?_)
            exact ⟨u, rfl, trivial, h33⟩
          · intro q1 w Γx Ωx h
            refine OpS.alloc h ti30 Frame_.zr rfl rfl (fun u w12 h34 => ?_)
            exact ⟨u, rfl, trivial, h34⟩
          have h35 : St e w [(true, .ptr (Rep.int .u8) (q1 1) x2), (true, .ptr (Rep.int .u8) (q1 5) x3), (true, .val (Rep.slice (Rep.int .u8)) (q1 9) x4), (true, .val (Rep.slice (Rep.int .u8)) (q1 10) y2), (true, .val Frame_.rep (q1 11) (⟨(IntKind.u8.wrap (Int.tdiv x2 2)), (IntKind.u8.wrap (Int.tdiv x3 2)), y2⟩ : Frame_)), (true, .val (Rep.slice (Rep.int .u8)) u6 y1.1)] [(true, .box 30 Frame_.rep (q1 12) Frame_.z), (true, .box 30 Frame_.rep u1 Frame_.z), (true, .box 30 Frame_.rep u3 Frame_.z)] := h
          refine RunL.op (OpS.storeB (f' := true) h35 .z PA.z Put.id ty30 rfl rfl rfl (V.at (.s (.s (.s (.s .z))))) (.inl rfl) (fun w13 h36 => ?_))
          refine RunL.nil ?_
          refine Run.slim [(7, (q1 12)), (2, u1), (4, u3)] ⟨rfl, rfl, rfl, trivial⟩ ?_
          refine Run.seq ?_
          refine Run.seq ?_
          refine Run.reg ?_
          refine RunL.op (OpS.fbox (o3 := 0) h36 .z PA.z fa30_0 rfl rfl rfl rfl ?_)
          refine RunL.op (OpS.loadBi h36 .z PA.a (Get.fld Frame_.f0) ty5 rfl rfl rfl ?_)
          obtain ⟨y3, e10, hF⟩ := bindP_use hF
          refine RunL.op (OpS.callP h36 Try.func31 rfl rfl rfl rfl (vs := [.int .u8 ((⟨(IntKind.u8.wrap (Int.tdiv x2 2)), (IntKind.u8.wrap (Int.tdiv x3 2)), y2⟩ : Frame_).To)]) rfl (ref20_Address_ok e10) .nil ?_)
          rintro _ w14 _ _ _ ⟨rfl, rfl, rfl, rfl⟩ h37
          have h38 := h37 rfl rfl
          simp only [List.cons_append, List.nil_append] at h38
          refine RunL.op (OpS.not rfl rfl rfl ?_)
          refine RunL.op (OpS.mv rfl rfl rfl ?_)
          refine RunL.join (σ := Bool) (fun s_ L_ w_ => L_ = [(2, u1), (4, u3), (7, (q1 12)), (72, .bool s_)] ∧ St e w_ [] [(true, .box 30 Frame_.rep u1 Frame_.z), (true, .box 30 Frame_.rep u3 Frame_.z), (true, .box 30 Frame_.rep (q1 12) (⟨(IntKind.u8.wrap (Int.tdiv x2 2)), (IntKind.u8.wrap (Int.tdiv x3 2)), y2⟩ : Frame_))]) hF (fun s2 _ w15 hI hF => ?_) (fun j2 hj2 hF => ?_)
          ·
            obtain ⟨rfl, h39⟩ := hI
            refine Run.ite rfl hF (fun e11 hF => ?_) (fun e11 hF => ?_)
            ·
              refine Run.seq ?_
              refine Run.reg ?_
              refine RunL.op (OpS.loadB h39 (.s .z) PA.z Get.id ty30 rfl rfl rfl (fun u12 h40 => ?_))
              refine RunL.op (OpS.storeB (f' := true) h40 .z PA.z Put.id ty30 rfl rfl rfl (V.at .z) (.inl rfl) (fun w16 h41 => ?_))
              refine RunL.op (OpS.as rfl rfl rfl ?_)
              refine RunL.nil ?_
              refine Run.slim [(3, .int .i64 13), (2, u1)] ⟨rfl, rfl, trivial⟩ ?_
              obtain ⟨u13, hu4, h42⟩ := res_box h41 .z ty30
              refine Run.retP rfl (.cell rfl hu4 (.tmp rfl .nil)) ?_
              cases hF
              exact Post.mk' ⟨u13, rfl, rfl, rfl, rfl⟩ (h42.picks .nil) (.val (V.at .z) .nil)
            ·
              refine Run.skip ?_
              refine Run.seq ?_
              refine Run.seq ?_
              refine Run.reg ?_
              refine RunL.op (OpS.fbox (o3 := 2) h39 (.s (.s .z)) PA.z fa30_2 rfl rfl rfl rfl ?_)
              refine RunL.op (OpS.loadB h39 (.s (.s .z)) PA.a (Get.fld Frame_.f2) ty22 rfl rfl rfl (fun u14 h43 => ?_))
              refine RunL.op (OpS.len h43 Try.underlying22 rfl rfl rfl (V.at .z) ?_)
              refine RunL.op (OpS.bin rfl rfl rfl rfl rfl ?_)
              refine RunL.nil ?_
              refine Run.slim [(77, .bool (decide ((((⟨(IntKind.u8.wrap (Int.tdiv x2 2)), (IntKind.u8.wrap (Int.tdiv x3 2)), y2⟩ : Frame_).Data).length : Int) > 72))), (2, u1), (4, u3), (7, (q1 12))] ⟨rfl, rfl, rfl, rfl, trivial⟩ ?_
              refine Run.ite rfl hF (fun e12 hF => ?_) (fun e12 hF => ?_)
              ·
                refine Run.seq ?_
                refine Run.reg ?_
                refine RunL.op (OpS.loadB h43 (.s .z) PA.z Get.id ty30 rfl rfl rfl (fun u15 h44 => ?_))
                refine RunL.op (OpS.storeB (f' := true) h44 .z PA.z Put.id ty30 rfl rfl rfl (V.at .z) (.inl rfl) (fun w17 h45 => ?_))
                refine RunL.op (OpS.as rfl rfl rfl ?_)
                refine RunL.nil ?_
                refine Run.slim [(3, .int .i64 3), (2, u1)] ⟨rfl, rfl, trivial⟩ ?_
                obtain ⟨u16, hu5, h46⟩ := res_box h45 .z ty30
                refine Run.retP rfl (.cell rfl hu5 (.tmp rfl .nil)) ?_
                cases hF
                exact Post.mk' ⟨u16, rfl, rfl, rfl, rfl⟩ (h46.picks .nil) (.val (V.at .z) .nil)
              ·
                refine Run.skip ?_
                refine Run.seq ?_
                refine Run.reg ?_
                refine RunL.op (OpS.loadB h43 (.s (.s .z)) PA.z Get.id ty30 rfl rfl rfl (fun u17 h47 => ?_))
                refine RunL.op (OpS.storeB (f' := true) h47 .z PA.z Put.id ty30 rfl rfl rfl (V.at .z) (.inl rfl) (fun w18 h48 => ?_))
                refine RunL.op (OpS.as rfl rfl rfl ?_)
                refine RunL.nil ?_
                refine Run.slim [(3, .int .i64 0), (2, u1)] ⟨rfl, rfl, trivial⟩ ?_
                obtain ⟨u18, hu6, h49⟩ := res_box h48 .z ty30
                refine Run.retP rfl (.cell rfl hu6 (.tmp rfl .nil)) ?_
                cases hF
                exact Post.mk' ⟨u18, rfl, rfl, rfl, rfl⟩ (h49.picks .nil) (.val (V.at .z) .nil)
          ·
            refine RunL.caseb hF (fun e13 hF => ?_) (fun e13 hF => ?_)
            ·
              refine RunL.op (OpS.pass rfl rfl rfl ?_)
              refine RunL.op (OpS.pass rfl rfl rfl ?_)
              refine RunL.op (OpS.pass rfl rfl rfl ?_)
              refine RunL.op (OpS.pass rfl rfl rfl ?_)
              refine RunL.op (OpS.pick rfl rfl rfl rfl ?_)
              refine RunL.nil ?_
              refine Run.slim [(72, .bool true), (7, (q1 12)), (2, u1), (4, u3)] ⟨rfl, rfl, rfl, rfl, trivial⟩ ?_
              refine Run.slim [(2, u1), (4, u3), (7, (q1 12)), (72, .bool true)] ⟨rfl, rfl, rfl, rfl, trivial⟩ ?_
              exact hj2 (true) _ _ ⟨rfl, (h38.facts .nil).picks (.cons (.s .z) (.cons (.s .z) (.cons .z .nil)))⟩ hF
            ·
              refine RunL.op (OpS.fbox (o3 := 1) h38 .z PA.z fa30_1 rfl rfl rfl rfl ?_)
              refine RunL.op (OpS.loadBi h38 .z PA.a (Get.fld Frame_.f1) ty5 rfl rfl rfl ?_)
              obtain ⟨y4, e14, hF⟩ := bindP_use hF
              refine RunL.op (OpS.callP h38 Try.func31 rfl rfl rfl rfl (vs := [.int .u8 ((⟨(IntKind.u8.wrap (Int.tdiv x2 2)), (IntKind.u8.wrap (Int.tdiv x3 2)), y2⟩ : Frame_).From)]) rfl (ref20_Address_ok e14) .nil ?_)
              rintro _ w19 _ _ _ ⟨rfl, rfl, rfl, rfl⟩ h50
              have h51 := h50 rfl rfl
              simp only [List.cons_append, List.nil_append] at h51
              refine RunL.op (OpS.not rfl rfl rfl ?_)
              refine RunL.op (OpS.pick rfl rfl rfl rfl ?_)
              refine RunL.nil ?_
              refine Run.slim [(72, .bool (!y4)), (7, (q1 12)), (2, u1), (4, u3)] ⟨rfl, rfl, rfl, rfl, trivial⟩ ?_
              refine Run.slim [(2, u1), (4, u3), (7, (q1 12)), (72, .bool (!y4))] ⟨rfl, rfl, rfl, rfl, trivial⟩ ?_
              exact hj2 (!y4) _ _ ⟨rfl, (h51.facts .nil).picks (.cons (.s .z) (.cons (.s .z) (.cons .z .nil)))⟩ hF
      ·
        refine RunL.caseb hF (fun e15 hF => ?_) (fun e15 hF => ?_)
        ·
          refine RunL.op (OpS.pass rfl rfl rfl ?_)
          refine RunL.op (OpS.pass rfl rfl rfl ?_)
          refine RunL.op (OpS.pass rfl rfl rfl ?_)
          refine RunL.op (OpS.pass rfl rfl rfl ?_)
          refine RunL.op (OpS.pick rfl rfl rfl rfl ?_)
          refine RunL.op (OpS.mv rfl rfl rfl ?_)
          refine RunL.op (OpS.pass rfl rfl rfl ?_)
          refine RunL.op (OpS.pass rfl rfl rfl ?_)
          refine RunL.op (OpS.pass rfl rfl rfl ?_)
          refine RunL.op (OpS.pass rfl rfl rfl ?_)
          refine RunL.op (OpS.pass rfl rfl rfl ?_)
          refine RunL.op (OpS.pass rfl rfl rfl ?_)
          refine RunL.op (OpS.pass rfl rfl rfl ?_)
          refine RunL.op (OpS.pass rfl rfl rfl ?_)
          refine RunL.op (OpS.pick rfl rfl rfl rfl ?_)
          refine RunL.op (OpS.mv rfl rfl rfl ?_)
          refine RunL.op (OpS.pass rfl rfl rfl ?_)
          refine RunL.op (OpS.pass rfl rfl rfl ?_)
          refine RunL.op (OpS.pass rfl rfl rfl ?_)
          refine RunL.op (OpS.pass rfl rfl rfl ?_)
          refine RunL.op (OpS.pass rfl rfl rfl ?_)
          refine RunL.op (OpS.pick rfl rfl rfl rfl ?_)
          refine RunL.nil ?_
          refine Run.slim [(49, .bool true), (5, u6), (4, u3), (2, u1)] ⟨rfl, rfl, rfl, rfl, trivial⟩ ?_
          refine Run.slim [(2, u1), (4, u3), (5, u6), (49, .bool true)] ⟨rfl, rfl, rfl, rfl, trivial⟩ ?_
          exact hj1 (true) _ _ ⟨rfl, (h14.facts (.atm (.s .z) .nil)).picks (.cons (.s .z) (.cons .z .nil))⟩ hF
        ·
          refine RunL.op (OpS.mv rfl rfl rfl ?_)
          obtain ⟨x5, e16, hF⟩ := bindP_use hF
          refine RunL.op (OpS.iptr h14 Try.underlying22 ty5 rfl rfl rfl rfl (V.at (.s .z)) e16 (fun u19 h52 => ?_))
          refine RunL.op (OpS.loadi h52 ty5 rfl rfl rfl .z ?_)
          refine RunL.op (OpS.bin rfl rfl rfl rfl rfl ?_)
          refine RunL.op (OpS.pick rfl rfl rfl rfl ?_)
          refine RunL.op (OpS.mv rfl rfl rfl ?_)
          refine RunL.caseb hF (fun e17 hF => ?_) (fun e17 hF => ?_)
          ·
            refine RunL.op (OpS.pass rfl rfl rfl ?_)
            refine RunL.op (OpS.pass rfl rfl rfl ?_)
            refine RunL.op (OpS.pass rfl rfl rfl ?_)
            refine RunL.op (OpS.pass rfl rfl rfl ?_)
            refine RunL.op (OpS.pass rfl rfl rfl ?_)
            refine RunL.op (OpS.pass rfl rfl rfl ?_)
            refine RunL.op (OpS.pass rfl rfl rfl ?_)
            refine RunL.op (OpS.pass rfl rfl rfl ?_)
            refine RunL.op (OpS.pick rfl rfl rfl rfl ?_)
            refine RunL.op (OpS.mv rfl rfl rfl ?_)
            refine RunL.op (OpS.pass rfl rfl rfl ?_)
            refine RunL.op (OpS.pass rfl rfl rfl ?_)
            refine RunL.op (OpS.pass rfl rfl rfl ?_)
            refine RunL.op (OpS.pass rfl rfl rfl ?_)
            refine RunL.op (OpS.pass rfl rfl rfl ?_)
            refine RunL.op (OpS.pick rfl rfl rfl rfl ?_)
            refine RunL.nil ?_
            refine Run.slim [(49, .bool true), (5, u6), (4, u3), (2, u1)] ⟨rfl, rfl, rfl, rfl, trivial⟩ ?_
            refine Run.slim [(2, u1), (4, u3), (5, u6), (49, .bool true)] ⟨rfl, rfl, rfl, rfl, trivial⟩ ?_
            exact hj1 (true) _ _ ⟨rfl, (h52.facts (.atm (.s (.s .z)) .nil)).picks (.cons (.s .z) (.cons .z .nil))⟩ hF
          ·
            refine RunL.op (OpS.mv rfl rfl rfl ?_)
            obtain ⟨x6, e18, hF⟩ := bindP_use hF
            refine RunL.op (OpS.iptr h52 Try.underlying22 ty5 rfl rfl rfl rfl (V.at (.s (.s .z))) e18 (fun u20 h53 => ?_))
            refine RunL.op (OpS.loadi h53 ty5 rfl rfl rfl .z ?_)
            refine RunL.op (OpS.conv Try.underlying5 Try.underlying3 rfl rfl rfl ?_)
            refine RunL.op (OpS.mv rfl rfl rfl ?_)
            refine RunL.op (OpS.len h53 Try.underlying22 rfl rfl rfl (V.at (.s (.s (.s (.s (.s .z)))))) ?_)
            refine RunL.op (OpS.bin rfl rfl rfl rfl rfl ?_)
            refine RunL.op (OpS.bin rfl rfl rfl rfl rfl ?_)
            refine RunL.op (OpS.pick rfl rfl rfl rfl ?_)
            refine RunL.op (OpS.mv rfl rfl rfl ?_)
            refine RunL.caseb hF (fun e19 hF => ?_) (fun e19 hF => ?_)
            ·
              refine RunL.op (OpS.pass rfl rfl rfl ?_)
              refine RunL.op (OpS.pass rfl rfl rfl ?_)
              refine RunL.op (OpS.pass rfl rfl rfl ?_)
              refine RunL.op (OpS.pass rfl rfl rfl ?_)
              refine RunL.op (OpS.pass rfl rfl rfl ?_)
              refine RunL.op (OpS.pick rfl rfl rfl rfl ?_)
              refine RunL.nil ?_
              refine Run.slim [(49, .bool true), (5, u6), (4, u3), (2, u1)] ⟨rfl, rfl, rfl, rfl, trivial⟩ ?_
              refine Run.slim [(2, u1), (4, u3), (5, u6), (49, .bool true)] ⟨rfl, rfl, rfl, rfl, trivial⟩ ?_
              exact hj1 (true) _ _ ⟨rfl, (h53.facts (.atm (.s (.s (.s .z))) .nil)).picks (.cons (.s .z) (.cons .z .nil))⟩ hF
            ·
              refine RunL.op (OpS.mv rfl rfl rfl ?_)
              obtain ⟨x7, e20, hF⟩ := bindP_use hF
              refine RunL.op (OpS.iptr h53 Try.underlying22 ty5 rfl rfl rfl rfl (V.at (.s (.s (.s .z)))) e20 (fun u21 h54 => ?_))
              refine RunL.op (OpS.loadi h54 ty5 rfl rfl rfl .z ?_)
              refine RunL.op (OpS.rem rfl rfl rfl rfl (by decide) ?_)
              refine RunL.op (OpS.bin rfl rfl rfl rfl rfl ?_)
              refine RunL.op (OpS.pick rfl rfl rfl rfl ?_)
              refine RunL.nil ?_
              refine Run.slim [(49, .bool ((Int.tmod x7 2) != 1)), (5, u6), (4, u3), (2, u1)] ⟨rfl, rfl, rfl, rfl, trivial⟩ ?_
              refine Run.slim [(2, u1), (4, u3), (5, u6), (49, .bool ((Int.tmod x7 2) != 1))] ⟨rfl, rfl, rfl, rfl, trivial⟩ ?_
              exact hj1 ((Int.tmod x7 2) != 1) _ _ ⟨rfl, (h54.facts (.atm (.s (.s (.s (.s .z)))) .nil)).picks (.cons (.s .z) (.cons .z .nil))⟩ hF
theorem ref20_Same_ok {fuel : Nat} {a0 : Frame_} {a1 : Frame_} {y : Bool} (hF : ref20_Same fuel a0 a1 = some y) {w : World} {v0 v1 : Value} :
    Spec Try.prog 16 [v0, v1].toArray w [(false, .val Frame_.rep v0 a0), (false, .val Frame_.rep v1 a1)] [] (fun v Γr Ωr Ωo => v = .bool y ∧ Γr = [] ∧ Ωr = [] ∧ Ωo = []) := by
  refine Spec.of (L := [(0, v0), (1, v1)]) Try.func16 rfl ⟨rfl, rfl, trivial⟩ rfl (fun e h => ?_)
  unfold ref20_Same at hF
  refine Run.seq ?_
  refine Run.reg ?_
  refine RunL.op (OpS.boxF h rfl rfl rfl (V.at .z) (fun u1 w1 h1 => ?_))
  refine RunL.op (OpS.boxF h1 rfl rfl rfl (V.at (.s .z)) (fun u2 w2 h2 => ?_))
  refine RunL.op (OpS.as rfl rfl rfl ?_)
  refine RunL.nil ?_
  refine Run.slim [(3, u2), (2, u1)] ⟨rfl, rfl, trivial⟩ ?_
  refine Run.seq ?_
  refine Run.reg ?_
  refine RunL.op (OpS.fbox (o3 := 0) h2 (.s .z) PA.z fa30_0 rfl rfl rfl rfl ?_)
  refine RunL.op (OpS.loadBi h2 (.s .z) PA.a (Get.fld Frame_.f0) ty5 rfl rfl rfl ?_)
  refine RunL.op (OpS.fbox (o3 := 0) h2 .z PA.z fa30_0 rfl rfl rfl rfl ?_)
  refine RunL.op (OpS.loadBi h2 .z PA.a (Get.fld Frame_.f0) ty5 rfl rfl rfl ?_)
  refine RunL.op (OpS.bin rfl rfl rfl rfl rfl ?_)
  refine RunL.op (OpS.mv rfl rfl rfl ?_)
  refine RunL.caseb hF (fun e1 hF => ?_) (fun e1 hF => ?_)
  ·
    refine RunL.op (OpS.fbox (o3 := 1) h2 (.s .z) PA.z fa30_1 rfl rfl rfl rfl ?_)
    refine RunL.op (OpS.loadBi h2 (.s .z) PA.a (Get.fld Frame_.f1) ty5 rfl rfl rfl ?_)
    refine RunL.op (OpS.fbox (o3 := 1) h2 .z PA.z fa30_1 rfl rfl rfl rfl ?_)
    refine RunL.op (OpS.loadBi h2 .z PA.a (Get.fld Frame_.f1) ty5 rfl rfl rfl ?_)
    refine RunL.op (OpS.bin rfl rfl rfl rfl rfl ?_)
    refine RunL.op (OpS.pick rfl rfl rfl rfl ?_)
    refine RunL.op (OpS.mv rfl rfl rfl ?_)
    refine RunL.caseb hF (fun e2 hF => ?_) (fun e2 hF => ?_)
    ·
      refine RunL.op (OpS.fbox (o3 := 2) h2 (.s .z) PA.z fa30_2 rfl rfl rfl rfl ?_)
      refine RunL.op (OpS.loadB h2 (.s .z) PA.a (Get.fld Frame_.f2) ty22 rfl rfl rfl (fun u3 h3 => ?_))
      refine RunL.op (OpS.fbox (o3 := 2) h3 .z PA.z fa30_2 rfl rfl rfl rfl ?_)
      refine RunL.op (OpS.loadB h3 .z PA.a (Get.fld Frame_.f2) ty22 rfl rfl rfl (fun u4 h4 => ?_))
      obtain ⟨y1, e3, hF⟩ := bindP_use hF
      refine RunL.op (OpS.callP h4 Try.func21 rfl rfl rfl rfl (vs := [u3, u4]) rfl (ref01_Same_ok e3) (.cons (V.at (.s .z)) (.cons (V.at .z) .nil)) ?_)
      rintro _ w3 _ _ _ ⟨rfl, rfl, rfl, rfl⟩ h5
      have h6 := h5 rfl rfl
      simp only [List.cons_append, List.nil_append] at h6
      refine RunL.op (OpS.pick rfl rfl rfl rfl ?_)
      refine RunL.op (OpS.as rfl rfl rfl ?_)
      refine RunL.nil ?_
      refine Run.slim [(4, .bool y1)] ⟨rfl, trivial⟩ ?_
      refine Run.retP rfl (.tmp rfl .nil) ?_
      cases hF
      exact Post.mk' ⟨rfl, rfl, rfl, rfl⟩ (h6.picks .nil) .nil
    ·
      refine RunL.op (OpS.pass rfl rfl rfl ?_)
      refine RunL.op (OpS.pass rfl rfl rfl ?_)
      refine RunL.op (OpS.pass rfl rfl rfl ?_)
      refine RunL.op (OpS.pass rfl rfl rfl ?_)
      refine RunL.op (OpS.pass rfl rfl rfl ?_)
      refine RunL.op (OpS.pick rfl rfl rfl rfl ?_)
      refine RunL.op (OpS.as rfl rfl rfl ?_)
      refine RunL.nil ?_
      refine Run.slim [(4, .bool false)] ⟨rfl, trivial⟩ ?_
      refine Run.retP rfl (.tmp rfl .nil) ?_
      cases hF
      exact Post.mk' ⟨rfl, rfl, rfl, rfl⟩ (h2.picks .nil) .nil
  ·
    refine RunL.op (OpS.pass rfl rfl rfl ?_)
    refine RunL.op (OpS.pass rfl rfl rfl ?_)
    refine RunL.op (OpS.pass rfl rfl rfl ?_)
    refine RunL.op (OpS.pass rfl rfl rfl ?_)
    refine RunL.op (OpS.pass rfl rfl rfl ?_)
    refine RunL.op (OpS.pick rfl rfl rfl rfl ?_)
    refine RunL.op (OpS.mv rfl rfl rfl ?_)
    refine RunL.op (OpS.pass rfl rfl rfl ?_)
    refine RunL.op (OpS.pass rfl rfl rfl ?_)
    refine RunL.op (OpS.pass rfl rfl rfl ?_)
    refine RunL.op (OpS.pass rfl rfl rfl ?_)
    refine RunL.op (OpS.pass rfl rfl rfl ?_)
    refine RunL.op (OpS.pick rfl rfl rfl rfl ?_)
    refine RunL.op (OpS.as rfl rfl rfl ?_)
    refine RunL.nil ?_
    refine Run.slim [(4, .bool false)] ⟨rfl, trivial⟩ ?_
    refine Run.retP rfl (.tmp rfl .nil) ?_
    cases hF
    exact Post.mk' ⟨rfl, rfl, rfl, rfl⟩ (h2.picks .nil) .nil
set_option maxHeartbeats 8000000 in
theorem law20_FrameBytes_ok {fuel : Nat} {a0 : Frame_} {a1 : List Int} {a2 : List Int} {y : Bool} (hF : law20_FrameBytes fuel a0 a1 a2 = some y) {w : World} {v0 v1 v2 : Value} :
    Spec Try.prog 5 [v0, v1, v2].toArray w [(false, .val Frame_.rep v0 a0), (false, .val (Rep.slice (Rep.int .u8)) v1 a1), (false, .val (Rep.slice (Rep.int .i64)) v2 a2)] [] (fun v Γr Ωr Ωo => v = .bool y ∧ Γr = [] ∧ Ωr = [] ∧ Ωo = []) := by
  refine Spec.of (L := [(0, v0), (1, v1), (2, v2)]) Try.func5 rfl ⟨rfl, rfl, rfl, trivial⟩ rfl (fun e h => ?_)
  unfold law20_FrameBytes at hF
  refine Run.seq ?_
  refine Run.reg ?_
  refine RunL.op (OpS.boxF h rfl rfl rfl (V.at .z) (fun u1 w1 h1 => ?_))
  refine RunL.op (OpS.as rfl rfl rfl ?_)
  refine RunL.nil ?_
  refine Run.slim [(3, u1), (1, v1), (2, v2)] ⟨rfl, rfl, rfl, trivial⟩ ?_
  refine Run.seq ?_
  refine Run.seq ?_
  refine Run.reg ?_
  refine RunL.op (OpS.fbox (o3 := 2) h1 .z PA.z fa30_2 rfl rfl rfl rfl ?_)
  refine RunL.op (OpS.loadB h1 .z PA.a (Get.fld Frame_.f2) ty22 rfl rfl rfl (fun u2 h2 => ?_))
  refine RunL.op (OpS.len h2 Try.underlying22 rfl rfl rfl (V.at .z) ?_)
  refine RunL.op (OpS.bin rfl rfl rfl rfl rfl ?_)
  refine RunL.op (OpS.mv rfl rfl rfl ?_)
  refine RunL.join (σ := Bool) (fun s_ L_ w_ => L_ = [(1, v1), (2, v2), (3, u1), (39, .bool s_)] ∧ St e w_ [(false, .val (Rep.slice (Rep.int .u8)) v1 a1), (false, .val (Rep.slice (Rep.int .i64)) v2 a2)] [(false, .box 30 Frame_.rep u1 a0)]) hF (fun s1 _ w2 hI hF => ?_) (fun j1 hj1 hF => ?_)
  ·
    obtain ⟨rfl, h3⟩ := hI
    refine Run.ite rfl hF (fun e1 hF => ?_) (fun e1 hF => ?_)
    ·
      refine Run.seq ?_
      refine Run.reg ?_
      obtain ⟨y1, e2, hF⟩ := bindP_use hF
      refine RunL.op (OpS.callP h3 Try.func9 rfl rfl rfl rfl (vs := []) rfl (law20_awake_ok e2) .nil ?_)
      rintro _ w3 _ _ _ ⟨rfl, rfl, rfl, rfl⟩ h4
      have h5 := h4 rfl rfl
      simp only [List.cons_append, List.nil_append] at h5
      refine RunL.op (OpS.as rfl rfl rfl ?_)
      refine RunL.nil ?_
      refine Run.slim [(6, .bool y1)] ⟨rfl, trivial⟩ ?_
      refine Run.retP rfl (.tmp rfl .nil) ?_
      cases hF
      exact Post.mk' ⟨rfl, rfl, rfl, rfl⟩ (h5.picks .nil) .nil
    ·
      refine Run.skip ?_
      refine Run.seq ?_
      refine Run.reg ?_
      refine RunL.op (OpS.mv rfl rfl rfl ?_)
      obtain ⟨y2, e3, hF⟩ := bindP_use hF
      have h6 := h3.front .nil
      refine RunL.op (OpS.callO h6 Try.func11 rfl rfl rfl rfl (vs := [v2]) rfl (made_Roll_ok e3) rfl (.cons (V.at (.s .z)) .nil) ?_)
      rintro u3 w4 _ _ _ ⟨_, rfl, rfl, rfl, rfl⟩ h7
      have h8 := h7
      simp only [List.cons_append, List.nil_append] at h8
      refine RunL.op (OpS.as rfl rfl rfl ?_)
      refine RunL.nil ?_
      refine Run.slim [(7, u3), (1, v1), (3, u1)] ⟨rfl, rfl, rfl, trivial⟩ ?_
      refine Run.seq ?_
      refine Run.reg ?_
      refine RunL.op (OpS.mv rfl rfl rfl ?_)
      obtain ⟨y3, e4, hF⟩ := bindP_use hF
      have h9 := h8.front (.cons .z .nil)
      refine RunL.op (OpS.callO h9 Try.func12 rfl rfl rfl rfl (vs := [u3]) rfl (made_Dice_Frame_ok e4) rfl .nil ?_)
      rintro u4 w5 _ _ _ ⟨_, rfl, rfl, rfl, rfl⟩ h10
      have h11 := h10
      simp only [List.cons_append, List.nil_append] at h11
      refine RunL.op (OpS.alloc h11 ti30 Frame_.zr rfl rfl (fun u5 w6 h12 => ?_))
      refine RunL.op (OpS.storeB (f' := true) h12 .z PA.z Put.id ty30 rfl rfl rfl (V.at .z) (.inl rfl) (fun w7 h13 => ?_))
      refine RunL.nil ?_
      refine Run.slim [(8, u5), (7, u3), (1, v1), (3, u1)] ⟨rfl, rfl, rfl, rfl, trivial⟩ ?_
      refine Run.seq ?_
      refine Run.reg ?_
      refine RunL.op (OpS.loadB h13 .z PA.z Get.id ty30 rfl rfl rfl (fun u6 h14 => ?_))
      refine RunL.op (OpS.alloc h14 ti30 Frame_.zr rfl rfl (fun u7 w8 h15 => ?_))
      refine RunL.op (OpS.storeB (f' := true) h15 .z PA.z Put.id ty30 rfl rfl rfl (V.at .z) (.inl rfl) (fun w9 h16 => ?_))
      refine RunL.nil ?_
      refine Run.slim [(9, u7), (8, u5), (7, u3), (1, v1), (3, u1)] ⟨rfl, rfl, rfl, rfl, rfl, trivial⟩ ?_
      refine Run.seq ?_
      refine Run.reg ?_
      refine RunL.op (OpS.mv rfl rfl rfl ?_)
      obtain ⟨y4, e5, hF⟩ := bindP_use hF
      have h17 := h16.front (.cons (.s (.s .z)) .nil)
      refine RunL.op (OpS.callO h17 Try.func17 rfl rfl rfl rfl (vs := [u3]) rfl (made_Dice_Byte_ok e5) rfl .nil ?_)
      rintro _ w10 _ _ _ ⟨rfl, rfl, rfl, rfl⟩ h18
      have h19 := h18
      simp only [List.cons_append, List.nil_append] at h19
      refine RunL.op (OpS.fbox (o3 := 0) h19 (.s .z) PA.z fa30_0 rfl rfl rfl rfl ?_)
      obtain ⟨d1, e6, hF⟩ := letP_use hF
      refine RunL.op (OpS.storeB (f' := true) h19 (.s .z) PA.a (Put.of (Put.fld Frame_.f0) e6) ty5 rfl rfl rfl V.int (.inl rfl) (fun w11 h20 => ?_))
      refine RunL.nil ?_
      refine Run.slim [(9, u7), (8, u5), (7, u3), (1, v1), (3, u1)] ⟨rfl, rfl, rfl, rfl, rfl, trivial⟩ ?_
      refine Run.seq ?_
      refine Run.reg ?_
      refine RunL.op (OpS.mv rfl rfl rfl ?_)
      obtain ⟨y5, e7, hF⟩ := bindP_use hF
      have h21 := h20.front (.cons (.s .z) .nil)
      refine RunL.op (OpS.callO h21 Try.func18 rfl rfl rfl rfl (vs := [u3, .int .i64 80]) rfl (made_Dice_Bytes_ok e7) rfl .nil ?_)
      rintro u8 w12 _ _ _ ⟨_, rfl, rfl, rfl, rfl⟩ h22
      have h23 := h22
      simp only [List.cons_append, List.nil_append] at h23
      refine RunL.op (OpS.fbox (o3 := 2) h23 (.s (.s .z)) PA.z fa30_2 rfl rfl rfl rfl ?_)
      have h24 := (h23.pick .z).freeze
      obtain ⟨d2, e8, hF⟩ := letP_use hF
      refine RunL.op (OpS.storeB (f' := true) h24 (.s .z) PA.a (Put.of (Put.fld Frame_.f2) e8) ty22 rfl rfl rfl (V.at .z) (.inl rfl) (fun w13 h25 => ?_))
      refine RunL.nil ?_
      refine Run.slim [(9, u7), (8, u5), (7, u3), (1, v1), (3, u1)] ⟨rfl, rfl, rfl, rfl, rfl, trivial⟩ ?_
      refine Run.seq ?_
      refine Run.seq ?_
      refine Run.reg ?_
      refine RunL.op (OpS.loadB h25 (.s (.s (.s .z))) PA.z Get.id ty30 rfl rfl rfl (fun u9 h26 => ?_))
      refine RunL.op (OpS.loadB h26 (.s (.s .z)) PA.z Get.id ty30 rfl rfl rfl (fun u10 h27 => ?_))
      refine RunL.op (OpS.loadB h27 .z PA.z Get.id ty30 rfl rfl rfl (fun u11 h28 => ?_))
      refine RunL.op (OpS.lit (r := Frame_.rep) (f := false) h28 Try.underlying40 ti30 rfl rfl rfl rfl rfl (.cons rfl (V.at (.s (.s .z))) (.cons rfl (V.weak (V.at (.s .z))) (.cons rfl (V.weak (V.at .z)) .nil))) rfl rfl (fun u12 w14 h29 => ?_))
      refine RunL.op (OpS.len h29 Try.underlying40 rfl rfl rfl (V.at .z) ?_)
      refine RunL.op (OpS.mv rfl rfl rfl ?_)
      refine RunL.nil ?_
      refine Run.slim [(57, .int .i64 0), (56, .int .i64 (([a0, y3.1, d2]).length : Int)), (55, u12), (8, u5), (7, u3), (1, v1)] ⟨rfl, rfl, rfl, rfl, rfl, rfl, trivial⟩ ?_
      refine Run.block ?_
      refine Run.slim [(1, v1), (7, u3), (8, u5), (55, u12), (56, .int .i64 (([a0, y3.1, d2]).length : Int)), (57, .int .i64 0)] ⟨rfl, rfl, rfl, rfl, rfl, rfl, trivial⟩ ?_
      refine Run.loopP (σ := Int) (fun s_ L_ w_ => L_ = [(1, v1), (7, u3), (8, u5), (55, u12), (56, .int .i64 (([a0, y3.1, d2]).length : Int)), (57, .int .i64 s_)] ∧ St e w_ [(false, .val (Rep.slice (Rep.int .u8)) v1 a1), (false, .val (Rep.slice Frame_.rep) u12 ([a0, y3.1, d2]))] [(false, .box 54 made_Dice.rep u3 y5.2), (true, .box 30 Frame_.rep u5 y3.1)]) hF ⟨rfl, (h29.facts (.atm (.s (.s (.s (.s (.s (.s (.s .z))))))) (.atm .z .nil))).picks (.cons (.s .z) (.cons (.s .z) .nil))⟩ (fun k1 hk1 s2 _ w15 hI hF => ?_)
      obtain ⟨rfl, h30⟩ := hI
      refine Run.seq ?_
      refine Run.reg ?_
      refine RunL.op (OpS.bin rfl rfl rfl rfl rfl ?_)
      refine RunL.nil ?_
      refine Run.seq ?_
      refine Run.ite rfl hF (fun e9 hF => ?_) (fun e9 hF => ?_)
      ·
        refine Run.skip ?_
        refine Run.seq ?_
        refine Run.block ?_
        refine Run.seq ?_
        refine Run.reg ?_
        obtain ⟨x1, e10, hF⟩ := bindP_use hF
        refine RunL.op (OpS.iptr h30 Try.underlying40 ty30 rfl rfl rfl rfl (V.at (.s .z)) e10 (fun u13 h31 => ?_))
        refine RunL.op (OpS.load h31 ty30 rfl rfl rfl .z (fun u14 h32 => ?_))
        refine RunL.op (OpS.alloc h32 ti30 Frame_.zr rfl rfl (fun u15 w16 h33 => ?_))
        have h34 := (h33.pick .z).weak
        refine RunL.op (OpS.storeB (f' := false) h34 .z PA.z Put.id ty30 rfl rfl rfl (V.at .z) (.inr rfl) (fun w17 h35 => ?_))
        refine RunL.nil ?_
        refine Run.slim [(11, u15), (1, v1), (7, u3), (8, u5), (55, u12), (56, .int .i64 (([a0, y3.1, d2]).length : Int)), (57, .int .i64 s2)] ⟨rfl, rfl, rfl, rfl, rfl, rfl, rfl, trivial⟩ ?_
        refine Run.seq ?_
        refine Run.reg ?_
        refine RunL.op (OpS.loadB h35 .z PA.z Get.id ty30 rfl rfl rfl (fun u16 h36 => ?_))
        obtain ⟨y6, e11, hF⟩ := bindP_use hF
        refine RunL.op (OpS.callP h36 Try.func15 rfl rfl rfl rfl (vs := [u16]) rfl (frame_Encode_ok e11) (.cons (V.at .z) .nil) ?_)
        rintro _ w18 _ _ _ ⟨u17, rfl, rfl, rfl, rfl⟩ h37
        have h38 := h37 rfl rfl
        simp only [List.cons_append, List.nil_append] at h38
        refine RunL.op (OpS.mv rfl rfl rfl ?_)
        refine RunL.op (OpS.ext rfl rfl rfl rfl ?_)
        refine RunL.op (OpS.ext rfl rfl rfl rfl ?_)
        refine RunL.op (OpS.as rfl rfl rfl ?_)
        have h39 := (h38.pick .z).freeze
        refine RunL.op (OpS.as rfl rfl rfl ?_)
        refine RunL.nil ?_
        refine Run.slim [(13, .int .i64 y6.2), (12, u17), (11, u15), (1, v1), (7, u3), (8, u5), (55, u12), (56, .int .i64 (([a0, y3.1, d2]).length : Int)), (57, .int .i64 s2)] ⟨rfl, rfl, rfl, rfl, rfl, rfl, rfl, rfl, rfl, trivial⟩ ?_
        refine Run.seq ?_
        refine Run.reg ?_
        refine RunL.op (OpS.loadB h39 .z PA.z Get.id ty30 rfl rfl rfl (fun u18 h40 => ?_))
        obtain ⟨y7, e12, hF⟩ := bindP_use hF
        refine RunL.op (OpS.callP h40 Try.func10 rfl rfl rfl rfl (vs := [u18]) rfl (ref20_Encode_ok e12) (.cons (V.at .z) .nil) ?_)
        rintro _ w19 _ _ _ ⟨u19, rfl, rfl, rfl, rfl⟩ h41
        have h42 := h41 rfl rfl
        simp only [List.cons_append, List.nil_append] at h42
        refine RunL.op (OpS.mv rfl rfl rfl ?_)
        refine RunL.op (OpS.ext rfl rfl rfl rfl ?_)
        refine RunL.op (OpS.ext rfl rfl rfl rfl ?_)
        refine RunL.op (OpS.as rfl rfl rfl ?_)
        have h43 := (h42.pick .z).freeze
        refine RunL.op (OpS.as rfl rfl rfl ?_)
        refine RunL.nil ?_
        refine Run.slim [(15, .int .i64 y7.2), (14, u19), (13, .int .i64 y6.2), (12, u17), (11, u15), (1, v1), (7, u3), (8, u5), (55, u12), (56, .int .i64 (([a0, y3.1, d2]).length : Int)), (57, .int .i64 s2)] ⟨rfl, rfl, rfl, rfl, rfl, rfl, rfl, rfl, rfl, rfl, rfl, trivial⟩ ?_
        refine Run.seq ?_
        refine Run.join (σ := Bool) (fun s_ L_ w_ => L_ = [(1, v1), (7, u3), (8, u5), (55, u12), (56, .int .i64 (([a0, y3.1, d2]).length : Int)), (57, .int .i64 s2), (86, .bool s_)] ∧ St e w_ [(false, .val (Rep.slice (Rep.int .u8)) v1 a1), (false, .val (Rep.slice Frame_.rep) u12 ([a0, y3.1, d2]))] [(false, .box 54 made_Dice.rep u3 y5.2), (true, .box 30 Frame_.rep u5 y3.1)]) hF (fun s3 _ w20 hI hF => ?_) (fun j2 hj2 hF => ?_)
        ·
          obtain ⟨rfl, h44⟩ := hI
          refine Run.ite rfl hF (fun e13 hF => ?_) (fun e13 hF => ?_)
          ·
            refine Run.seq ?_
            refine Run.reg ?_
            refine RunL.op (OpS.as rfl rfl rfl ?_)
            refine RunL.nil ?_
            refine Run.slim [(6, .bool false)] ⟨rfl, trivial⟩ ?_
            refine Run.retP rfl (.tmp rfl .nil) ?_
            cases hF
            exact Post.mk' ⟨rfl, rfl, rfl, rfl⟩ (h44.picks .nil) .nil
          ·
            refine Run.skip ?_
            refine Run.endBlock ?_
            refine Run.reg ?_
            refine RunL.op (OpS.bin rfl rfl rfl rfl rfl ?_)
            refine RunL.op (OpS.mv rfl rfl rfl ?_)
            refine RunL.nil ?_
            refine Run.slim [(57, .int .i64 (IntKind.i64.wrap (s2 + 1))), (1, v1), (7, u3), (8, u5), (55, u12), (56, .int .i64 (([a0, y3.1, d2]).length : Int))] ⟨rfl, rfl, rfl, rfl, rfl, rfl, trivial⟩ ?_
            refine Run.slim [(1, v1), (7, u3), (8, u5), (55, u12), (56, .int .i64 (([a0, y3.1, d2]).length : Int)), (57, .int .i64 (IntKind.i64.wrap (s2 + 1)))] ⟨rfl, rfl, rfl, rfl, rfl, rfl, trivial⟩ ?_
            exact hk1 ((IntKind.i64.wrap (s2 + 1))) _ _ ⟨rfl, (h44.facts (.atm .z (.atm (.s .z) .nil))).picks (.cons .z (.cons .z .nil))⟩ hF
        ·
          obtain ⟨y8, e14, hF⟩ := bindP_use hF
          obtain ⟨y9, e15, hF⟩ := bindP_use hF
          obtain ⟨x2, e16, hF⟩ := letP_use hF
          refine iteP_use hF (fun e17 hF => ?_) (fun e17 hF => ?_)
          ·
            have hG := hF
            subst e17
            have hF := hG
            refine Run.drawV (Ωs := [(false, .box 54 made_Dice.rep u3 y5.2), (true, .box 30 Frame_.rep u5 y3.1)]) [⟨some 71, none, fun u_ => [(false, .val Frame_.rep u_ x1)], fun ds_ u_ => [], [], [(0, [])], none⟩, ⟨some 72, some (.bool y8), fun _ => [], fun ds_ u_ => [], [], [], none⟩, ⟨some 73, none, fun u_ => [(false, .val Frame_.rep u_ x1)], fun ds_ u_ => [], [], [(0, [])], none⟩, ⟨some 74, some (.bool y9), fun _ => [], fun ds_ u_ => [], [], [], none⟩, ⟨some 75, some (.bool (y8 != y9)), fun _ => [], fun ds_ u_ => [], [], [], none⟩, ⟨some 76, some (.bool true), fun _ => [], fun ds_ u_ => [], [], [], none⟩, ⟨some 77, some undef, fun _ => [], fun _ _ => [], [], [], none⟩, ⟨some 78, some undef, fun _ => [], fun _ _ => [], [], [], none⟩, ⟨some 79, some undef, fun _ => [], fun _ _ => [], [], [], none⟩, ⟨some 80, some (.bool true), fun _ => [], fun ds_ u_ => [], [], [], none⟩, ⟨some 81, some (.bool true), fun _ => [], fun ds_ u_ => [], [], [], none⟩, ⟨some 82, some undef, fun _ => [], fun _ _ => [], [], [], none⟩, ⟨some 83, some undef, fun _ => [], fun _ _ => [], [], [], none⟩, ⟨some 84, some undef, fun _ => [], fun _ _ => [], [], [], none⟩, ⟨some 85, some undef, fun _ => [], fun _ _ => [], [], [], none⟩, ⟨some 86, some (.bool true), fun _ => [], fun ds_ u_ => [], [], [], none⟩] [[], [0], [], [2], [1, 3], [4], [5], [5], [5], [5, 8], [9], [10], [10], [10], [10], [10, 14]] [[(false, .box 30 Frame_.rep u15 x1)]] [0, 1, 2, 3, 4, 5, 6, 7, 8, 9, 10, 11, 12, 13, 14, 15, 16] Try_mixed rfl rfl rfl h43 (.cons ?_ (.cons ?_ (.cons ?_ (.cons ?_ (.cons ?_ (.cons ?_ (.cons ?_ (.cons ?_ (.cons ?_ (.cons ?_ (.cons ?_ (.cons ?_ (.cons ?_ (.cons ?_ (.cons ?_ (.cons ?_ .nil)))))))))))))))) (fun q1 w hq1 h => ?_)
            · intro q1 w Γx Ωx h
              have h : St e w ([(true, .val (Rep.slice (Rep.int .u8)) u19 y7.1), (false, .val Frame_.rep u18 x1), (true, .val (Rep.slice (Rep.int .u8)) u17 y6.1), (false, .val Frame_.rep u16 x1), (false, .val Frame_.rep u14 x1), (false, .ptr Frame_.rep u13 x1), (false, .val (Rep.slice (Rep.int .u8)) v1 a1), (false, .val (Rep.slice Frame_.rep) u12 ([a0, y3.1, d2]))] ++ Γx) ([(false, .box 30 Frame_.rep u15 x1), (false, .box 54 made_Dice.rep u3 y5.2), (true, .box 30 Frame_.rep u5 y3.1)] ++ Ωx) := h
              refine OpS.loadB h .z PA.z Get.id ty30 rfl rfl rfl (fun u h51 => ?_)
              exact ⟨u, rfl, trivial, h51⟩
            · intro q1 w Γx Ωx h
              refine OpS.callP h Try.func19 rfl rfl rfl rfl (vs := [(q1 0)]) rfl (frame_Valid_ok e14) (.cons (V.at .z) .nil) ?_
              rintro _ w23 _ _ _ ⟨rfl, rfl, rfl, rfl⟩ h52
              have h53 := h52 rfl rfl
              simp only [List.cons_append, List.nil_append] at h53
              exact ⟨undef, rfl, trivial, h53⟩
            · intro q1 w Γx Ωx h
              have h : St e w ([(true, .val (Rep.slice (Rep.int .u8)) u19 y7.1), (false, .val Frame_.rep u18 x1), (true, .val (Rep.slice (Rep.int .u8)) u17 y6.1), (false, .val Frame_.rep u16 x1), (false, .val Frame_.rep u14 x1), (false, .ptr Frame_.rep u13 x1), (false, .val (Rep.slice (Rep.int .u8)) v1 a1), (false, .val (Rep.slice Frame_.rep) u12 ([a0, y3.1, d2]))] ++ Γx) ([(false, .box 30 Frame_.rep u15 x1), (false, .box 54 made_Dice.rep u3 y5.2), (true, .box 30 Frame_.rep u5 y3.1)] ++ Ωx) := h
              refine OpS.loadB h .z PA.z Get.id ty30 rfl rfl rfl (fun u h54 => ?_)
              exact ⟨u, rfl, trivial, h54⟩
            · intro q1 w Γx Ωx h
              refine OpS.callP h Try.func20 rfl rfl rfl rfl (vs := [(q1 2)]) rfl (ref20_Valid_ok e15) (.cons (V.at .z) .nil) ?_
              rintro _ w24 _ _ _ ⟨rfl, rfl, rfl, rfl⟩ h55
              have h56 := h55 rfl rfl
              simp only [List.cons_append, List.nil_append] at h56
              exact ⟨undef, rfl, trivial, h56⟩
            · intro q1 w Γx Ωx h
              refine OpS.neb Try.underlying4 rfl rfl rfl rfl ?_
              exact ⟨undef, rfl, trivial, h⟩
            · intro q1 w Γx Ωx h
              refine OpS.mv rfl rfl rfl ?_
              exact ⟨undef, (congrArg (fun z_ => some (Value.bool z_)) e16), trivial, h⟩
            · intro q1 w Γx Ωx h
              exact OpS.pass rfl rfl rfl ⟨undef, rfl, trivial, h⟩
            · intro q1 w Γx Ωx h
              exact OpS.pass rfl rfl rfl ⟨undef, rfl, trivial, h⟩
            · intro q1 w Γx Ωx h
              exact OpS.pass rfl rfl rfl ⟨undef, rfl, trivial, h⟩
            · intro q1 w Γx Ωx h
              refine OpS.pick rfl rfl rfl rfl ?_
              exact ⟨undef, rfl, trivial, h⟩
            · intro q1 w Γx Ωx h
              refine OpS.mv rfl rfl rfl ?_
              exact ⟨undef, rfl, trivial, h⟩
            · intro q1 w Γx Ωx h
              exact OpS.pass rfl rfl rfl ⟨undef, rfl, trivial, h⟩
            · intro q1 w Γx Ωx h
              exact OpS.pass rfl rfl rfl ⟨undef, rfl, trivial, h⟩
            · intro q1 w Γx Ωx h
              exact OpS.pass rfl rfl rfl ⟨undef, rfl, trivial, h⟩
            · intro q1 w Γx Ωx h
              exact OpS.pass rfl rfl rfl ⟨undef, rfl, trivial, h⟩
            · intro q1 w Γx Ωx h
              refine OpS.pick rfl rfl rfl rfl ?_
              exact ⟨undef, rfl, trivial, h⟩
            have h57 : St e w [(false, .val Frame_.rep (q1 0) x1), (false, .val Frame_.rep (q1 2) x1), (true, .val (Rep.slice (Rep.int .u8)) u19 y7.1), (false, .val Frame_.rep u18 x1), (true, .val (Rep.slice (Rep.int .u8)) u17 y6.1), (false, .val Frame_.rep u16 x1), (false, .val Frame_.rep u14 x1), (false, .ptr Frame_.rep u13 x1), (false, .val (Rep.slice (Rep.int .u8)) v1 a1), (false, .val (Rep.slice Frame_.rep) u12 ([a0, y3.1, d2]))] [(false, .box 30 Frame_.rep u15 x1), (false, .box 54 made_Dice.rep u3 y5.2), (true, .box 30 Frame_.rep u5 y3.1)] := h
            refine RunL.nil ?_
            refine Run.slim [(86, .bool true), (1, v1), (7, u3), (8, u5), (55, u12), (56, .int .i64 (([a0, y3.1, d2]).length : Int)), (57, .int .i64 s2)] ⟨rfl, rfl, rfl, rfl, rfl, rfl, rfl, trivial⟩ ?_
            refine Run.slim [(1, v1), (7, u3), (8, u5), (55, u12), (56, .int .i64 (([a0, y3.1, d2]).length : Int)), (57, .int .i64 s2), (86, .bool true)] ⟨rfl, rfl, rfl, rfl, rfl, rfl, rfl, trivial⟩ ?_
            exact hj2 (true) _ _ ⟨rfl, (h57.facts (.atm (.s (.s (.s (.s (.s (.s (.s (.s .z)))))))) (.atm (.s (.s (.s (.s (.s (.s (.s (.s (.s .z))))))))) .nil))).picks (.cons (.s .z) (.cons (.s .z) .nil))⟩ hF
          ·
            have hG := hF
            subst e17
            have hF := hG
            obtain ⟨x3, e18, hF⟩ := letP_use hF
            refine iteP_use hF (fun e19 hF => ?_) (fun e19 hF => ?_)
            ·
              have hG := hF
              subst e19
              have hF := hG
              refine Run.drawV (Ωs := [(false, .box 54 made_Dice.rep u3 y5.2), (true, .box 30 Frame_.rep u5 y3.1)]) [⟨some 71, none, fun u_ => [(false, .val Frame_.rep u_ x1)], fun ds_ u_ => [], [], [(0, [])], none⟩, ⟨some 72, some (.bool y8), fun _ => [], fun ds_ u_ => [], [], [], none⟩, ⟨some 73, none, fun u_ => [(false, .val Frame_.rep u_ x1)], fun ds_ u_ => [], [], [(0, [])], none⟩, ⟨some 74, some (.bool y9), fun _ => [], fun ds_ u_ => [], [], [], none⟩, ⟨some 75, some (.bool (y8 != y9)), fun _ => [], fun ds_ u_ => [], [], [], none⟩, ⟨some 76, some (.bool false), fun _ => [], fun ds_ u_ => [], [], [], none⟩, ⟨some 77, some (.int .i64 y6.2), fun _ => [], fun ds_ u_ => [], [], [], none⟩, ⟨some 78, some (.int .i64 y7.2), fun _ => [], fun ds_ u_ => [], [], [], none⟩, ⟨some 79, some (.bool (y6.2 != y7.2)), fun _ => [], fun ds_ u_ => [], [], [], none⟩, ⟨some 80, some (.bool (y6.2 != y7.2)), fun _ => [], fun ds_ u_ => [], [], [], none⟩, ⟨some 81, some (.bool true), fun _ => [], fun ds_ u_ => [], [], [], none⟩, ⟨some 82, some undef, fun _ => [], fun _ _ => [], [], [], none⟩, ⟨some 83, some undef, fun _ => [], fun _ _ => [], [], [], none⟩, ⟨some 84, some undef, fun _ => [], fun _ _ => [], [], [], none⟩, ⟨some 85, some undef, fun _ => [], fun _ _ => [], [], [], none⟩, ⟨some 86, some (.bool true), fun _ => [], fun ds_ u_ => [], [], [], none⟩] [[], [0], [], [2], [1, 3], [4], [5], [5], [6, 7, 5], [5, 8], [9], [10], [10], [10], [10], [10, 14]] [[(false, .box 30 Frame_.rep u15 x1)]] [0, 1, 2, 3, 4, 5, 6, 7, 8, 9, 10, 11, 12, 13, 14, 15, 16] Try_mixed rfl rfl rfl h43 (.cons ?_ (.cons ?_ (.cons ?_ (.cons ?_ (.cons ?_ (.cons ?_ (.cons ?_ (.cons ?_ (.cons ?_ (.cons ?_ (.cons ?_ (.cons ?_ (.cons ?_ (.cons ?_ (.cons ?_ (.cons ?_ .nil)))))))))))))))) (fun q1 w hq2 h => ?_)
              · intro q1 w Γx Ωx h
                have h : St e w ([(true, .val (Rep.slice (Rep.int .u8)) u19 y7.1), (false, .val Frame_.rep u18 x1), (true, .val (Rep.slice (Rep.int .u8)) u17 y6.1), (false, .val Frame_.rep u16 x1), (false, .val Frame_.rep u14 x1), (false, .ptr Frame_.rep u13 x1), (false, .val (Rep.slice (Rep.int .u8)) v1 a1), (false, .val (Rep.slice Frame_.rep) u12 ([a0, y3.1, d2]))] ++ Γx) ([(false, .box 30 Frame_.rep u15 x1), (false, .box 54 made_Dice.rep u3 y5.2), (true, .box 30 Frame_.rep u5 y3.1)] ++ Ωx) := h
                refine OpS.loadB h .z PA.z Get.id ty30 rfl rfl rfl (fun u h58 => ?_)
                exact ⟨u, rfl, trivial, h58⟩
              · intro q1 w Γx Ωx h
                refine OpS.callP h Try.func19 rfl rfl rfl rfl (vs := [(q1 0)]) rfl (frame_Valid_ok e14) (.cons (V.at .z) .nil) ?_
                rintro _ w25 _ _ _ ⟨rfl, rfl, rfl, rfl⟩ h59
                have h60 := h59 rfl rfl
                simp only [List.cons_append, List.nil_append] at h60
                exact ⟨undef, rfl, trivial, h60⟩
              · intro q1 w Γx Ωx h
                have h : St e w ([(true, .val (Rep.slice (Rep.int .u8)) u19 y7.1), (false, .val Frame_.rep u18 x1), (true, .val (Rep.slice (Rep.int .u8)) u17 y6.1), (false, .val Frame_.rep u16 x1), (false, .val Frame_.rep u14 x1), (false, .ptr Frame_.rep u13 x1), (false, .val (Rep.slice (Rep.int .u8)) v1 a1), (false, .val (Rep.slice Frame_.rep) u12 ([a0, y3.1, d2]))] ++ Γx) ([(false, .box 30 Frame_.rep u15 x1), (false, .box 54 made_Dice.rep u3 y5.2), (true, .box 30 Frame_.rep u5 y3.1)] ++ Ωx) := h
                refine OpS.loadB h .z PA.z Get.id ty30 rfl rfl rfl (fun u h61 => ?_)
                exact ⟨u, rfl, trivial, h61⟩
              · intro q1 w Γx Ωx h
                refine OpS.callP h Try.func20 rfl rfl rfl rfl (vs := [(q1 2)]) rfl (ref20_Valid_ok e15) (.cons (V.at .z) .nil) ?_
                rintro _ w26 _ _ _ ⟨rfl, rfl, rfl, rfl⟩ h62
                have h63 := h62 rfl rfl
                simp only [List.cons_append, List.nil_append] at h63
                exact ⟨undef, rfl, trivial, h63⟩
              · intro q1 w Γx Ωx h
                refine OpS.neb Try.underlying4 rfl rfl rfl rfl ?_
                exact ⟨undef, rfl, trivial, h⟩
              · intro q1 w Γx Ωx h
                refine OpS.mv rfl rfl rfl ?_
                exact ⟨undef, (congrArg (fun z_ => some (Value.bool z_)) e16), trivial, h⟩
              · intro q1 w Γx Ωx h
                refine OpS.mv rfl rfl rfl ?_
                exact ⟨undef, rfl, trivial, h⟩
              · intro q1 w Γx Ωx h
                refine OpS.mv rfl rfl rfl ?_
                exact ⟨undef, rfl, trivial, h⟩
              · intro q1 w Γx Ωx h
                refine OpS.bin rfl rfl rfl rfl rfl ?_
                exact ⟨undef, rfl, trivial, h⟩
              · intro q1 w Γx Ωx h
                refine OpS.pick rfl rfl rfl rfl ?_
                exact ⟨undef, rfl, trivial, h⟩
              · intro q1 w Γx Ωx h
                refine OpS.mv rfl rfl rfl ?_
                exact ⟨undef, (congrArg (fun z_ => some (Value.bool z_)) e18), trivial, h⟩
              · intro q1 w Γx Ωx h
                exact OpS.pass rfl rfl rfl ⟨undef, rfl, trivial, h⟩
              · intro q1 w Γx Ωx h
                exact OpS.pass rfl rfl rfl ⟨undef, rfl, trivial, h⟩
              · intro q1 w Γx Ωx h
                exact OpS.pass rfl rfl rfl ⟨undef, rfl, trivial, h⟩
              · intro q1 w Γx Ωx h
                exact OpS.pass rfl rfl rfl ⟨undef, rfl, trivial, h⟩
              · intro q1 w Γx Ωx h
                refine OpS.pick rfl rfl rfl rfl ?_
                exact ⟨undef, rfl, trivial, h⟩
              have h64 : St e w [(false, .val Frame_.rep (q1 0) x1), (false, .val Frame_.rep (q1 2) x1), (true, .val (Rep.slice (Rep.int .u8)) u19 y7.1), (false, .val Frame_.rep u18 x1), (true, .val (Rep.slice (Rep.int .u8)) u17 y6.1), (false, .val Frame_.rep u16 x1), (false, .val Frame_.rep u14 x1), (false, .ptr Frame_.rep u13 x1), (false, .val (Rep.slice (Rep.int .u8)) v1 a1), (false, .val (Rep.slice Frame_.rep) u12 ([a0, y3.1, d2]))] [(false, .box 30 Frame_.rep u15 x1), (false, .box 54 made_Dice.rep u3 y5.2), (true, .box 30 Frame_.rep u5 y3.1)] := h
              refine RunL.nil ?_
              refine Run.slim [(86, .bool true), (1, v1), (7, u3), (8, u5), (55, u12), (56, .int .i64 (([a0, y3.1, d2]).length : Int)), (57, .int .i64 s2)] ⟨rfl, rfl, rfl, rfl, rfl, rfl, rfl, trivial⟩ ?_
              refine Run.slim [(1, v1), (7, u3), (8, u5), (55, u12), (56, .int .i64 (([a0, y3.1, d2]).length : Int)), (57, .int .i64 s2), (86, .bool true)] ⟨rfl, rfl, rfl, rfl, rfl, rfl, rfl, trivial⟩ ?_
              exact hj2 (true) _ _ ⟨rfl, (h64.facts (.atm (.s (.s (.s (.s (.s (.s (.s (.s .z)))))))) (.atm (.s (.s (.s (.s (.s (.s (.s (.s (.s .z))))))))) .nil))).picks (.cons (.s .z) (.cons (.s .z) .nil))⟩ hF
            ·
              have hG := hF
              subst e19
              have hF := hG
              obtain ⟨y10, e20, hF⟩ := bindP_use hF
              refine Run.drawV (Ωs := [(false, .box 54 made_Dice.rep u3 y5.2), (true, .box 30 Frame_.rep u5 y3.1)]) [⟨some 71, none, fun u_ => [(false, .val Frame_.rep u_ x1)], fun ds_ u_ => [], [], [(0, [])], none⟩, ⟨some 72, some (.bool y8), fun _ => [], fun ds_ u_ => [], [], [], none⟩, ⟨some 73, none, fun u_ => [(false, .val Frame_.rep u_ x1)], fun ds_ u_ => [], [], [(0, [])], none⟩, ⟨some 74, some (.bool y9), fun _ => [], fun ds_ u_ => [], [], [], none⟩, ⟨some 75, some (.bool (y8 != y9)), fun _ => [], fun ds_ u_ => [], [], [], none⟩, ⟨some 76, some (.bool false), fun _ => [], fun ds_ u_ => [], [], [], none⟩, ⟨some 77, some (.int .i64 y6.2), fun _ => [], fun ds_ u_ => [], [], [], none⟩, ⟨some 78, some (.int .i64 y7.2), fun _ => [], fun ds_ u_ => [], [], [], none⟩, ⟨some 79, some (.bool (y6.2 != y7.2)), fun _ => [], fun ds_ u_ => [], [], [], none⟩, ⟨some 80, some (.bool (y6.2 != y7.2)), fun _ => [], fun ds_ u_ => [], [], [], none⟩, ⟨some 81, some (.bool false), fun _ => [], fun ds_ u_ => [], [], [], none⟩, ⟨some 82, some (u17), fun _ => [], fun ds_ u_ => [], [], [], none⟩, ⟨some 83, some (u19), fun _ => [], fun ds_ u_ => [], [], [], none⟩, ⟨some 84, some (.bool y10), fun _ => [], fun ds_ u_ => [], [], [], none⟩, ⟨some 85, some (.bool (!y10)), fun _ => [], fun ds_ u_ => [], [], [], none⟩, ⟨some 86, some (.bool (!y10)), fun _ => [], fun ds_ u_ => [], [], [], none⟩] [[], [0], [], [2], [1, 3], [4], [5], [5], [6, 7, 5], [5, 8], [9], [10], [10], [11, 12, 10], [13, 10], [10, 14]] [[(false, .box 30 Frame_.rep u15 x1)]] [0, 1, 2, 3, 4, 5, 6, 7, 8, 9, 10, 11, 12, 13, 14, 15, 16] Try_mixed rfl rfl rfl h43 (.cons ?_ (.cons ?_ (.cons ?_ (.cons ?_ (.cons ?_ (.cons ?_ (.cons ?_ (.cons ?_ (.cons ?_ (.cons ?_ (.cons ?_ (.cons ?_ (.cons ?_ (.cons ?_ (.cons ?_ (.cons ?_ .nil)))))))))))))))) (fun q1 w hq3 h => ?_)
              · intro q1 w Γx Ωx h
                have h : St e w ([(true, .val (Rep.slice (Rep.int .u8)) u19 y7.1), (false, .val Frame_.rep u18 x1), (true, .val (Rep.slice (Rep.int .u8)) u17 y6.1), (false, .val Frame_.rep u16 x1), (false, .val Frame_.rep u14 x1), (false, .ptr Frame_.rep u13 x1), (false, .val (Rep.slice (Rep.int .u8)) v1 a1), (false, .val (Rep.slice Frame_.rep) u12 ([a0, y3.1, d2]))] ++ Γx) ([(false, .box 30 Frame_.rep u15 x1), (false, .box 54 made_Dice.rep u3 y5.2), (true, .box 30 Frame_.rep u5 y3.1)] ++ Ωx) := h
                refine OpS.loadB h .z PA.z Get.id ty30 rfl rfl rfl (fun u h67 => ?_)
                exact ⟨u, rfl, trivial, h67⟩
              · intro q1 w Γx Ωx h
                refine OpS.callP h Try.func19 rfl rfl rfl rfl (vs := [(q1 0)]) rfl (frame_Valid_ok e14) (.cons (V.at .z) .nil) ?_
                rintro _ w28 _ _ _ ⟨rfl, rfl, rfl, rfl⟩ h68
                have h69 := h68 rfl rfl
                simp only [List.cons_append, List.nil_append] at h69
                exact ⟨undef, rfl, trivial, h69⟩
              · intro q1 w Γx Ωx h
                have h : St e w ([(true, .val (Rep.slice (Rep.int .u8)) u19 y7.1), (false, .val Frame_.rep u18 x1), (true, .val (Rep.slice (Rep.int .u8)) u17 y6.1), (false, .val Frame_.rep u16 x1), (false, .val Frame_.rep u14 x1), (false, .ptr Frame_.rep u13 x1), (false, .val (Rep.slice (Rep.int .u8)) v1 a1), (false, .val (Rep.slice Frame_.rep) u12 ([a0, y3.1, d2]))] ++ Γx) ([(false, .box 30 Frame_.rep u15 x1), (false, .box 54 made_Dice.rep u3 y5.2), (true, .box 30 Frame_.rep u5 y3.1)] ++ Ωx) := h
                refine OpS.loadB h .z PA.z Get.id ty30 rfl rfl rfl (fun u h70 => ?_)
                exact ⟨u, rfl, trivial, h70⟩
              · intro q1 w Γx Ωx h
                refine OpS.callP h Try.func20 rfl rfl rfl rfl (vs := [(q1 2)]) rfl (ref20_Valid_ok e15) (.cons (V.at .z) .nil) ?_
                rintro _ w29 _ _ _ ⟨rfl, rfl, rfl, rfl⟩ h71
                have h72 := h71 rfl rfl
                simp only [List.cons_append, List.nil_append] at h72
                exact ⟨undef, rfl, trivial, h72⟩
              · intro q1 w Γx Ωx h
                refine OpS.neb Try.underlying4 rfl rfl rfl rfl ?_
                exact ⟨undef, rfl, trivial, h⟩
              · intro q1 w Γx Ωx h
                refine OpS.mv rfl rfl rfl ?_
                exact ⟨undef, (congrArg (fun z_ => some (Value.bool z_)) e16), trivial, h⟩
              · intro q1 w Γx Ωx h
                refine OpS.mv rfl rfl rfl ?_
                exact ⟨undef, rfl, trivial, h⟩
              · intro q1 w Γx Ωx h
                refine OpS.mv rfl rfl rfl ?_
                exact ⟨undef, rfl, trivial, h⟩
              · intro q1 w Γx Ωx h
                refine OpS.bin rfl rfl rfl rfl rfl ?_
                exact ⟨undef, rfl, trivial, h⟩
              · intro q1 w Γx Ωx h
                refine OpS.pick rfl rfl rfl rfl ?_
                exact ⟨undef, rfl, trivial, h⟩
              · intro q1 w Γx Ωx h
                refine OpS.mv rfl rfl rfl ?_
                exact ⟨undef, (congrArg (fun z_ => some (Value.bool z_)) e18), trivial, h⟩
              · intro q1 w Γx Ωx h
                refine OpS.mv rfl rfl rfl ?_
                exact ⟨undef, rfl, trivial, h⟩
              · intro q1 w Γx Ωx h
                refine OpS.mv rfl rfl rfl ?_
                exact ⟨undef, rfl, trivial, h⟩
              · intro q1 w Γx Ωx h
                refine OpS.callP h Try.func21 rfl rfl rfl rfl (vs := [u17, u19]) rfl (ref01_Same_ok e20) (.cons (V.at (.s (.s .z))) (.cons (V.at .z) .nil)) ?_
                rintro _ w30 _ _ _ ⟨rfl, rfl, rfl, rfl⟩ h73
                have h74 := h73 rfl rfl
                simp only [List.cons_append, List.nil_append] at h74
                exact ⟨undef, rfl, trivial, h74⟩
              · intro q1 w Γx Ωx h
                refine OpS.not rfl rfl rfl ?_
                exact ⟨undef, rfl, trivial, h⟩
              · intro q1 w Γx Ωx h
                refine OpS.pick rfl rfl rfl rfl ?_
                exact ⟨undef, rfl, trivial, h⟩
              have h75 : St e w [(false, .val Frame_.rep (q1 0) x1), (false, .val Frame_.rep (q1 2) x1), (true, .val (Rep.slice (Rep.int .u8)) u19 y7.1), (false, .val Frame_.rep u18 x1), (true, .val (Rep.slice (Rep.int .u8)) u17 y6.1), (false, .val Frame_.rep u16 x1), (false, .val Frame_.rep u14 x1), (false, .ptr Frame_.rep u13 x1), (false, .val (Rep.slice (Rep.int .u8)) v1 a1), (false, .val (Rep.slice Frame_.rep) u12 ([a0, y3.1, d2]))] [(false, .box 30 Frame_.rep u15 x1), (false, .box 54 made_Dice.rep u3 y5.2), (true, .box 30 Frame_.rep u5 y3.1)] := h
              refine RunL.nil ?_
              refine Run.slim [(86, .bool (!y10)), (1, v1), (7, u3), (8, u5), (55, u12), (56, .int .i64 (([a0, y3.1, d2]).length : Int)), (57, .int .i64 s2)] ⟨rfl, rfl, rfl, rfl, rfl, rfl, rfl, trivial⟩ ?_
              refine Run.slim [(1, v1), (7, u3), (8, u5), (55, u12), (56, .int .i64 (([a0, y3.1, d2]).length : Int)), (57, .int .i64 s2), (86, .bool (!y10))] ⟨rfl, rfl, rfl, rfl, rfl, rfl, rfl, trivial⟩ ?_
              exact hj2 (!y10) _ _ ⟨rfl, (h75.facts (.atm (.s (.s (.s (.s (.s (.s (.s (.s .z)))))))) (.atm (.s (.s (.s (.s (.s (.s (.s (.s (.s .z))))))))) .nil))).picks (.cons (.s .z) (.cons (.s .z) .nil))⟩ hF
      ·
        refine Run.exit rfl ?_
        refine Run.seq ?_
        refine Run.reg ?_
        refine RunL.op (OpS.loadB h30 (.s .z) PA.z Get.id ty30 rfl rfl rfl (fun u20 h76 => ?_))
        obtain ⟨y11, e21, hF⟩ := bindP_use hF
        refine RunL.op (OpS.callP h76 Try.func10 rfl rfl rfl rfl (vs := [u20]) rfl (ref20_Encode_ok e21) (.cons (V.at .z) .nil) ?_)
        rintro _ w31 _ _ _ ⟨u21, rfl, rfl, rfl, rfl⟩ h77
        have h78 := h77 rfl rfl
        simp only [List.cons_append, List.nil_append] at h78
        refine RunL.op (OpS.mv rfl rfl rfl ?_)
        refine RunL.op (OpS.ext rfl rfl rfl rfl ?_)
        refine RunL.op (OpS.ext rfl rfl rfl rfl ?_)
        refine RunL.op (OpS.as rfl rfl rfl ?_)
        have h79 := (h78.pick .z).freeze
        refine RunL.op (OpS.as rfl rfl rfl ?_)
        refine RunL.nil ?_
        refine Run.slim [(16, u21), (1, v1), (7, u3)] ⟨rfl, rfl, rfl, trivial⟩ ?_
        refine Run.seq ?_
        refine Run.reg ?_
        refine RunL.op (OpS.mv rfl rfl rfl ?_)
        refine RunL.op (OpS.mv rfl rfl rfl ?_)
        refine RunL.op (OpS.len h79 Try.underlying22 rfl rfl rfl (V.at .z) ?_)
        refine RunL.op (OpS.bin rfl rfl rfl rfl rfl ?_)
        obtain ⟨x4, e22, hF⟩ := bindP_use hF
        refine RunL.op (OpS.sub h79 Try.underlying22 ty5 rfl rfl rfl rfl rfl (V.at .z) e22 (fun u22 h80 => ?_))
        have h81 := St.nil 5 (Rep.int .u8) h80
        obtain ⟨x5, e23, hF⟩ := bindP_use hF
        refine RunL.op (OpS.app (f' := true) h81 .z Try.underlying22 ti5 rfl rfl rfl rfl rfl rfl rfl (V.at .z) (.inr Pure.int) e23 (fun u23 w32 h82 => ?_))
        refine RunL.op (OpS.as rfl rfl rfl ?_)
        refine RunL.nil ?_
        refine Run.slim [(18, u23), (16, u21), (1, v1), (7, u3)] ⟨rfl, rfl, rfl, rfl, trivial⟩ ?_
        refine Run.seq ?_
        refine Run.reg ?_
        refine RunL.op (OpS.mv rfl rfl rfl ?_)
        refine RunL.op (OpS.mv rfl rfl rfl ?_)
        refine RunL.op (OpS.mv rfl rfl rfl ?_)
        refine RunL.op (OpS.lenO h82 .z Try.underlying22 rfl rfl rfl ?_)
        obtain ⟨y12, e24, hF⟩ := bindP_use hF
        have h83 := h82.front (.cons (.s .z) .nil)
        refine RunL.op (OpS.callO h83 Try.func22 rfl rfl rfl rfl (vs := [u3, .int .i64 (x5.length : Int)]) rfl (made_Dice_Next_ok e24) rfl .nil ?_)
        rintro _ w33 _ _ _ ⟨rfl, rfl, rfl, rfl⟩ h84
        have h85 := h84
        simp only [List.cons_append, List.nil_append] at h85
        refine RunL.op (OpS.mv rfl rfl rfl ?_)
        obtain ⟨y13, e25, hF⟩ := bindP_use hF
        have h86 := h85.front (.cons .z .nil)
        refine RunL.op (OpS.callO h86 Try.func17 rfl rfl rfl rfl (vs := [u3]) rfl (made_Dice_Byte_ok e25) rfl .nil ?_)
        rintro _ w34 _ _ _ ⟨rfl, rfl, rfl, rfl⟩ h87
        have h88 := h87
        simp only [List.cons_append, List.nil_append] at h88
        obtain ⟨x6, e26, hF⟩ := bindP_use hF
        refine RunL.op (OpS.iown h88 (.s .z) Try.underlying22 ty5 rfl rfl rfl rfl e26 ?_)
        obtain ⟨d3, e27, hF⟩ := letP_use hF
        refine RunL.op (OpS.storeO (f' := true) h88 (.s .z) (idx_ne e26) PA.a (Put.of (Put.arr e26) e27) ty5 rfl rfl rfl V.int (.inl rfl) (fun w35 h89 => ?_))
        refine RunL.nil ?_
        refine Run.slim [(18, u23), (16, u21), (1, v1), (7, u3)] ⟨rfl, rfl, rfl, rfl, trivial⟩ ?_
        refine Run.seq ?_
        refine Run.reg ?_
        refine RunL.op (OpS.mv rfl rfl rfl ?_)
        obtain ⟨y14, e28, hF⟩ := bindP_use hF
        have h90 := h89.front (.cons (.s .z) .nil)
        refine RunL.op (OpS.callO h90 Try.func22 rfl rfl rfl rfl (vs := [u3, .int .i64 3]) rfl (made_Dice_Next_ok e28) rfl .nil ?_)
        rintro _ w36 _ _ _ ⟨rfl, rfl, rfl, rfl⟩ h91
        have h92 := h91
        simp only [List.cons_append, List.nil_append] at h92
        refine RunL.op (OpS.bin rfl rfl rfl rfl rfl ?_)
        refine RunL.op (OpS.conv Try.underlying3 Try.underlying5 rfl rfl rfl ?_)
        refine RunL.op (OpS.litO (r := (Rep.int .u8)) (f := true) h92 Try.underlying22 ti5 rfl rfl rfl rfl rfl (.cons rfl V.int (.cons rfl V.int (.cons rfl V.int (.cons rfl V.int .nil)))) rfl rfl (fun u24 w37 h93 => ?_))
        obtain ⟨x7, e29, hF⟩ := bindP_use hF
        obtain ⟨x8, e30, hF⟩ := bindP_use hF
        refine RunL.op (OpS.appZ h93 .z Try.underlying22 Try.underlying3 ti5 (Zr.int .u8 0) rfl rfl rfl rfl rfl rfl rfl e29 e30 (fun u25 w38 h94 => ?_))
        refine RunL.op (OpS.as rfl rfl rfl ?_)
        have h95 := (h94.pick .z).freeze
        refine RunL.nil ?_
        refine Run.slim [(19, u25), (18, u23), (16, u21), (1, v1), (7, u3)] ⟨rfl, rfl, rfl, rfl, rfl, trivial⟩ ?_
        refine Run.seq ?_
        refine Run.seq ?_
        refine Run.reg ?_
        refine RunL.op (OpS.mv rfl rfl rfl ?_)
        refine RunL.op (OpS.mv rfl rfl rfl ?_)
        refine RunL.op (OpS.mv rfl rfl rfl ?_)
        refine RunL.op (OpS.mv rfl rfl rfl ?_)
        obtain ⟨y15, e31, hF⟩ := bindP_use hF
        refine RunL.op (OpS.callP h95 Try.func23 rfl rfl rfl rfl (vs := [u23]) rfl (ref01_SealCRC8_ok e31) (.own (.s .z) .nil) ?_)
        rintro u26 w39 _ _ _ ⟨_, rfl, rfl, rfl, rfl⟩ h96
        have h97 := h96 rfl rfl
        simp only [List.cons_append, List.nil_append] at h97
        refine RunL.op (OpS.mv rfl rfl rfl ?_)
        obtain ⟨y16, e32, hF⟩ := bindP_use hF
        refine RunL.op (OpS.callP h97 Try.func23 rfl rfl rfl rfl (vs := [v1]) rfl (ref01_SealCRC8_ok e32) (.cons (V.at (.s (.s (.s (.s .z))))) .nil) ?_)
        rintro u27 w40 _ _ _ ⟨_, rfl, rfl, rfl, rfl⟩ h98
        have h99 := h98 rfl rfl
        simp only [List.cons_append, List.nil_append] at h99
        refine RunL.op (OpS.mv rfl rfl rfl ?_)
        obtain ⟨y17, e33, hF⟩ := bindP_use hF
        refine RunL.op (OpS.callP h99 Try.func23 rfl rfl rfl rfl (vs := [u25]) rfl (ref01_SealCRC8_ok e33) (.cons (V.at .z) .nil) ?_)
        rintro u28 w41 _ _ _ ⟨_, rfl, rfl, rfl, rfl⟩ h100
        have h101 := h100 rfl rfl
        simp only [List.cons_append, List.nil_append] at h101
        refine RunL.op (OpS.mv rfl rfl rfl ?_)
        refine RunL.op (OpS.mv rfl rfl rfl ?_)
        refine RunL.op (OpS.mv rfl rfl rfl ?_)
        refine RunL.op (OpS.len h101 Try.underlying22 rfl rfl rfl (V.at (.s (.s .z))) ?_)
        obtain ⟨y18, e34, hF⟩ := bindP_use hF
        have h102 := h101.front (.cons (.s (.s (.s .z))) .nil)
        refine RunL.op (OpS.callO h102 Try.func22 rfl rfl rfl rfl (vs := [u3, .int .i64 (y11.1.length : Int)]) rfl (made_Dice_Next_ok e34) rfl .nil ?_)
        rintro _ w42 _ _ _ ⟨rfl, rfl, rfl, rfl⟩ h103
        have h104 := h103
        simp only [List.cons_append, List.nil_append] at h104
        obtain ⟨x9, e35, hF⟩ := bindP_use hF
        refine RunL.op (OpS.sub h104 Try.underlying22 ty5 rfl rfl rfl rfl rfl (V.at (.s (.s .z))) e35 (fun u29 h105 => ?_))
        have h106 := (h105.pick (.s (.s (.s (.s .z))))).freeze
        have h107 := (h106.pick (.s (.s (.s .z)))).freeze
        have h108 := (h107.pick (.s (.s .z))).freeze
        have h109 := (h108.pick (.s .z)).freeze
        refine RunL.op (OpS.lit (r := (Rep.slice (Rep.int .u8))) (f := false) h109 Try.underlying45 ti22 rfl rfl rfl rfl rfl (.cons rfl (V.at (.s (.s (.s (.s (.s (.s (.s (.s (.s .z)))))))))) (.cons rfl (V.weak (V.at (.s (.s (.s (.s (.s (.s (.s .z))))))))) (.cons rfl (V.weak (V.at (.s (.s (.s .z))))) (.cons rfl (V.weak (V.at (.s (.s .z)))) (.cons rfl (V.weak (V.at (.s .z))) (.cons rfl (V.weak (V.at .z)) (.cons rfl (V.weak (V.at (.s (.s (.s (.s .z)))))) .nil))))))) rfl rfl (fun u30 w43 h110 => ?_))
        refine RunL.op (OpS.len h110 Try.underlying45 rfl rfl rfl (V.at .z) ?_)
        refine RunL.op (OpS.mv rfl rfl rfl ?_)
        refine RunL.nil ?_
        refine Run.slim [(130, .int .i64 0), (129, .int .i64 (([a1, y11.1, d3, y15, y16, y17, x9]).length : Int)), (128, u30)] ⟨rfl, rfl, rfl, trivial⟩ ?_
        refine Run.block ?_
        refine Run.slim [(128, u30), (129, .int .i64 (([a1, y11.1, d3, y15, y16, y17, x9]).length : Int)), (130, .int .i64 0)] ⟨rfl, rfl, rfl, trivial⟩ ?_
        refine Run.loopP (σ := Int) (fun s_ L_ w_ => L_ = [(128, u30), (129, .int .i64 (([a1, y11.1, d3, y15, y16, y17, x9]).length : Int)), (130, .int .i64 s_)] ∧ St e w_ [(false, .val (Rep.slice (Rep.slice (Rep.int .u8))) u30 ([a1, y11.1, d3, y15, y16, y17, x9]))] []) hF ⟨rfl, (h110.facts (.atm .z .nil)).picks .nil⟩ (fun k2 hk2 s4 _ w44 hI hF => ?_)
        obtain ⟨rfl, h111⟩ := hI
        refine Run.seq ?_
        refine Run.reg ?_
        refine RunL.op (OpS.bin rfl rfl rfl rfl rfl ?_)
        refine RunL.nil ?_
        refine Run.seq ?_
        refine Run.ite rfl hF (fun e36 hF => ?_) (fun e36 hF => ?_)
        ·
          refine Run.skip ?_
          refine Run.seq ?_
          refine Run.block ?_
          refine Run.seq ?_
          refine Run.reg ?_
          obtain ⟨x10, e37, hF⟩ := bindP_use hF
          refine RunL.op (OpS.iptr h111 Try.underlying45 ty22 rfl rfl rfl rfl (V.at .z) e37 (fun u31 h112 => ?_))
          refine RunL.op (OpS.load h112 ty22 rfl rfl rfl .z (fun u32 h113 => ?_))
          refine RunL.op (OpS.as rfl rfl rfl ?_)
          refine RunL.nil ?_
          refine Run.slim [(21, u32), (128, u30), (129, .int .i64 (([a1, y11.1, d3, y15, y16, y17, x9]).length : Int)), (130, .int .i64 s4)] ⟨rfl, rfl, rfl, rfl, trivial⟩ ?_
          refine Run.seq ?_
          refine Run.reg ?_
          refine RunL.op (OpS.mv rfl rfl rfl ?_)
          obtain ⟨y19, e38, hF⟩ := bindP_use hF
          refine RunL.op (OpS.callP h113 Try.func24 rfl rfl rfl rfl (vs := [u32]) rfl (frame_Decode_ok e38) (.cons (V.at .z) .nil) ?_)
          rintro _ w45 _ _ _ ⟨u33, rfl, rfl, rfl, rfl⟩ h114
          have h115 := h114 rfl rfl
          simp only [List.cons_append, List.nil_append] at h115
          refine RunL.op (OpS.mv rfl rfl rfl ?_)
          refine RunL.op (OpS.ext rfl rfl rfl rfl ?_)
          refine RunL.op (OpS.ext rfl rfl rfl rfl ?_)
          refine RunL.op (OpS.alloc h115 ti30 Frame_.zr rfl rfl (fun u34 w46 h116 => ?_))
          refine RunL.op (OpS.storeB (f' := true) h116 .z PA.z Put.id ty30 rfl rfl rfl (V.at .z) (.inl rfl) (fun w47 h117 => ?_))
          refine RunL.op (OpS.as rfl rfl rfl ?_)
          refine RunL.nil ?_
          refine Run.slim [(23, .int .i64 y19.2), (22, u34), (21, u32), (128, u30), (129, .int .i64 (([a1, y11.1, d3, y15, y16, y17, x9]).length : Int)), (130, .int .i64 s4)] ⟨rfl, rfl, rfl, rfl, rfl, rfl, trivial⟩ ?_
          refine Run.seq ?_
          refine Run.reg ?_
          refine RunL.op (OpS.mv rfl rfl rfl ?_)
          obtain ⟨y20, e39, hF⟩ := bindP_use hF
          refine RunL.op (OpS.callP h117 Try.func25 rfl rfl rfl rfl (vs := [u32]) rfl (ref20_Decode_ok e39) (.cons (V.at (.s .z)) .nil) ?_)
          rintro _ w48 _ _ _ ⟨u35, rfl, rfl, rfl, rfl⟩ h118
          have h119 := h118 rfl rfl
          simp only [List.cons_append, List.nil_append] at h119
          refine RunL.op (OpS.mv rfl rfl rfl ?_)
          refine RunL.op (OpS.ext rfl rfl rfl rfl ?_)
          refine RunL.op (OpS.ext rfl rfl rfl rfl ?_)
          refine RunL.op (OpS.alloc h119 ti30 Frame_.zr rfl rfl (fun u36 w49 h120 => ?_))
          refine RunL.op (OpS.storeB (f' := true) h120 .z PA.z Put.id ty30 rfl rfl rfl (V.at .z) (.inl rfl) (fun w50 h121 => ?_))
          refine RunL.op (OpS.as rfl rfl rfl ?_)
          refine RunL.nil ?_
          refine Run.slim [(25, .int .i64 y20.2), (24, u36), (23, .int .i64 y19.2), (22, u34), (128, u30), (129, .int .i64 (([a1, y11.1, d3, y15, y16, y17, x9]).length : Int)), (130, .int .i64 s4)] ⟨rfl, rfl, rfl, rfl, rfl, rfl, rfl, trivial⟩ ?_
          refine Run.seq ?_
          refine Run.reg ?_
          refine RunL.op (OpS.mv rfl rfl rfl ?_)
          refine RunL.op (OpS.mv rfl rfl rfl ?_)
          refine RunL.op (OpS.bin rfl rfl rfl rfl rfl ?_)
          refine RunL.op (OpS.mv rfl rfl rfl ?_)
          refine RunL.join (σ := Bool) (fun s_ L_ w_ => L_ = [(128, u30), (129, .int .i64 (([a1, y11.1, d3, y15, y16, y17, x9]).length : Int)), (130, .int .i64 s4), (152, .bool s_)] ∧ St e w_ [(false, .val (Rep.slice (Rep.slice (Rep.int .u8))) u30 ([a1, y11.1, d3, y15, y16, y17, x9]))] []) hF (fun s5 _ w51 hI hF => ?_) (fun j3 hj3 hF => ?_)
          ·
            obtain ⟨rfl, h122⟩ := hI
            refine Run.ite rfl hF (fun e40 hF => ?_) (fun e40 hF => ?_)
            ·
              refine Run.seq ?_
              refine Run.reg ?_
              refine RunL.op (OpS.as rfl rfl rfl ?_)
              refine RunL.nil ?_
              refine Run.slim [(6, .bool false)] ⟨rfl, trivial⟩ ?_
              refine Run.retP rfl (.tmp rfl .nil) ?_
              cases hF
              exact Post.mk' ⟨rfl, rfl, rfl, rfl⟩ (h122.picks .nil) .nil
            ·
              refine Run.skip ?_
              refine Run.endBlock ?_
              refine Run.reg ?_
              refine RunL.op (OpS.bin rfl rfl rfl rfl rfl ?_)
              refine RunL.op (OpS.mv rfl rfl rfl ?_)
              refine RunL.nil ?_
              refine Run.slim [(130, .int .i64 (IntKind.i64.wrap (s4 + 1))), (128, u30), (129, .int .i64 (([a1, y11.1, d3, y15, y16, y17, x9]).length : Int))] ⟨rfl, rfl, rfl, trivial⟩ ?_
              refine Run.slim [(128, u30), (129, .int .i64 (([a1, y11.1, d3, y15, y16, y17, x9]).length : Int)), (130, .int .i64 (IntKind.i64.wrap (s4 + 1)))] ⟨rfl, rfl, rfl, trivial⟩ ?_
              exact hk2 ((IntKind.i64.wrap (s4 + 1))) _ _ ⟨rfl, (h122.facts (.atm .z .nil)).picks .nil⟩ hF
          ·
            refine RunL.caseb hF (fun e41 hF => ?_) (fun e41 hF => ?_)
            ·
              refine RunL.op (OpS.pass rfl rfl rfl ?_)
              refine RunL.op (OpS.pass rfl rfl rfl ?_)
              refine RunL.op (OpS.pass rfl rfl rfl ?_)
              refine RunL.op (OpS.pass rfl rfl rfl ?_)
              refine RunL.op (OpS.pick rfl rfl rfl rfl ?_)
              refine RunL.nil ?_
              refine Run.slim [(152, .bool true), (128, u30), (129, .int .i64 (([a1, y11.1, d3, y15, y16, y17, x9]).length : Int)), (130, .int .i64 s4)] ⟨rfl, rfl, rfl, rfl, trivial⟩ ?_
              refine Run.slim [(128, u30), (129, .int .i64 (([a1, y11.1, d3, y15, y16, y17, x9]).length : Int)), (130, .int .i64 s4), (152, .bool true)] ⟨rfl, rfl, rfl, rfl, trivial⟩ ?_
              exact hj3 (true) _ _ ⟨rfl, (h121.facts (.atm (.s (.s (.s (.s .z)))) .nil)).picks .nil⟩ hF
            ·
              refine RunL.op (OpS.loadB h121 (.s .z) PA.z Get.id ty30 rfl rfl rfl (fun u37 h123 => ?_))
              refine RunL.op (OpS.loadB h123 .z PA.z Get.id ty30 rfl rfl rfl (fun u38 h124 => ?_))
              obtain ⟨y21, e42, hF⟩ := bindP_use hF
              refine RunL.op (OpS.callP h124 Try.func16 rfl rfl rfl rfl (vs := [u37, u38]) rfl (ref20_Same_ok e42) (.cons (V.at (.s .z)) (.cons (V.at .z) .nil)) ?_)
              rintro _ w52 _ _ _ ⟨rfl, rfl, rfl, rfl⟩ h125
              have h126 := h125 rfl rfl
              simp only [List.cons_append, List.nil_append] at h126
              refine RunL.op (OpS.not rfl rfl rfl ?_)
              refine RunL.op (OpS.pick rfl rfl rfl rfl ?_)
              refine RunL.nil ?_
              refine Run.slim [(152, .bool (!y21)), (128, u30), (129, .int .i64 (([a1, y11.1, d3, y15, y16, y17, x9]).length : Int)), (130, .int .i64 s4)] ⟨rfl, rfl, rfl, rfl, trivial⟩ ?_
              refine Run.slim [(128, u30), (129, .int .i64 (([a1, y11.1, d3, y15, y16, y17, x9]).length : Int)), (130, .int .i64 s4), (152, .bool (!y21))] ⟨rfl, rfl, rfl, rfl, trivial⟩ ?_
              exact hj3 (!y21) _ _ ⟨rfl, (h126.facts (.atm (.s (.s (.s (.s (.s (.s .z)))))) .nil)).picks .nil⟩ hF
        ·
          refine Run.exit rfl ?_
          refine Run.seq ?_
          refine Run.reg ?_
          obtain ⟨y22, e43, hF⟩ := bindP_use hF
          refine RunL.op (OpS.callP h111 Try.func9 rfl rfl rfl rfl (vs := []) rfl (law20_awake_ok e43) .nil ?_)
          rintro _ w53 _ _ _ ⟨rfl, rfl, rfl, rfl⟩ h127
          have h128 := h127 rfl rfl
          simp only [List.cons_append, List.nil_append] at h128
          refine RunL.op (OpS.as rfl rfl rfl ?_)
          refine RunL.nil ?_
          refine Run.slim [(6, .bool y22)] ⟨rfl, trivial⟩ ?_
          refine Run.retP rfl (.tmp rfl .nil) ?_
          cases hF
          exact Post.mk' ⟨rfl, rfl, rfl, rfl⟩ (h128.picks .nil) .nil
  ·
    refine RunL.caseb hF (fun e44 hF => ?_) (fun e44 hF => ?_)
    ·
      refine RunL.op (OpS.pass rfl rfl rfl ?_)
      refine RunL.op (OpS.pass rfl rfl rfl ?_)
      refine RunL.op (OpS.pass rfl rfl rfl ?_)
      refine RunL.op (OpS.pick rfl rfl rfl rfl ?_)
      refine RunL.op (OpS.mv rfl rfl rfl ?_)
      refine RunL.op (OpS.pass rfl rfl rfl ?_)
      refine RunL.op (OpS.pass rfl rfl rfl ?_)
      refine RunL.op (OpS.pass rfl rfl rfl ?_)
      refine RunL.op (OpS.pick rfl rfl rfl rfl ?_)
      refine RunL.nil ?_
      refine Run.slim [(39, .bool true), (3, u1), (1, v1), (2, v2)] ⟨rfl, rfl, rfl, rfl, trivial⟩ ?_
      refine Run.slim [(1, v1), (2, v2), (3, u1), (39, .bool true)] ⟨rfl, rfl, rfl, rfl, trivial⟩ ?_
      exact hj1 (true) _ _ ⟨rfl, (h2.facts (.atm (.s (.s .z)) (.atm (.s (.s (.s .z))) .nil))).picks (.cons .z .nil)⟩ hF
    ·
      refine RunL.op (OpS.mv rfl rfl rfl ?_)
      refine RunL.op (OpS.len h2 Try.underlying22 rfl rfl rfl (V.at (.s (.s .z))) ?_)
      refine RunL.op (OpS.bin rfl rfl rfl rfl rfl ?_)
      refine RunL.op (OpS.pick rfl rfl rfl rfl ?_)
      refine RunL.op (OpS.mv rfl rfl rfl ?_)
      refine RunL.caseb hF (fun e45 hF => ?_) (fun e45 hF => ?_)
      ·
        refine RunL.op (OpS.pass rfl rfl rfl ?_)
        refine RunL.op (OpS.pass rfl rfl rfl ?_)
        refine RunL.op (OpS.pass rfl rfl rfl ?_)
        refine RunL.op (OpS.pick rfl rfl rfl rfl ?_)
        refine RunL.nil ?_
        refine Run.slim [(39, .bool true), (3, u1), (1, v1), (2, v2)] ⟨rfl, rfl, rfl, rfl, trivial⟩ ?_
        refine Run.slim [(1, v1), (2, v2), (3, u1), (39, .bool true)] ⟨rfl, rfl, rfl, rfl, trivial⟩ ?_
        exact hj1 (true) _ _ ⟨rfl, (h2.facts (.atm (.s (.s .z)) (.atm (.s (.s (.s .z))) .nil))).picks (.cons .z .nil)⟩ hF
      ·
        refine RunL.op (OpS.mv rfl rfl rfl ?_)
        obtain ⟨y23, e46, hF⟩ := bindP_use hF
        refine RunL.op (OpS.callP h2 Try.func8 rfl rfl rfl rfl (vs := [v2]) rfl (made_Light_ok e46) (.cons (V.at (.s (.s (.s .z)))) .nil) ?_)
        rintro _ w54 _ _ _ ⟨rfl, rfl, rfl, rfl⟩ h129
        have h130 := h129 rfl rfl
        simp only [List.cons_append, List.nil_append] at h130
        refine RunL.op (OpS.not rfl rfl rfl ?_)
        refine RunL.op (OpS.pick rfl rfl rfl rfl ?_)
        refine RunL.nil ?_
        refine Run.slim [(39, .bool (!y23)), (3, u1), (1, v1), (2, v2)] ⟨rfl, rfl, rfl, rfl, trivial⟩ ?_
        refine Run.slim [(1, v1), (2, v2), (3, u1), (39, .bool (!y23))] ⟨rfl, rfl, rfl, rfl, trivial⟩ ?_
        exact hj1 (!y23) _ _ ⟨rfl, (h130.facts (.atm (.s (.s .z)) (.atm (.s (.s (.s .z))) .nil))).picks (.cons .z .nil)⟩ hF
end Lift
