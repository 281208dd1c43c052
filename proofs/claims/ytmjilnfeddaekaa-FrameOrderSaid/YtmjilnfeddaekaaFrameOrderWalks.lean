/- Each Go function computes its plain function. Written by lift.py. -/
import Derived.Test.YtmjilnfeddaekaaFacts
namespace Lift
open Go Go.Proofs
theorem made_Light_ok {fuel : Nat} {a0 : List Int} {y : Bool} (hF : made_Light fuel a0 = some y) {w : World} {v0 : Value} :
    Spec Try.prog 8 [v0].toArray w [(false, .val (Rep.slice (Rep.int .i64)) v0 a0)] [] (fun v Γr Ωr Ωo => v = .bool y ∧ Γr = [] ∧ Ωr = [] ∧ Ωo = []) := by
  refine Spec.of (L := [(0, v0)]) Try.func8 rfl ⟨rfl, trivial⟩ rfl (fun e h => ?_)
  unfold made_Light at hF
  refine Run.seq ?_
  refine Run.reg ?_
  refine RunL.op (OpS.as rfl rfl rfl ?_)
  refine RunL.nil ?_
  refine Run.slim [(0, v0)] ⟨rfl, trivial⟩ ?_
  refine Run.seq ?_
  refine Run.reg ?_
  refine RunL.op (OpS.mv rfl rfl rfl ?_)
  refine RunL.op (OpS.len h Try.underlying23 rfl rfl rfl (V.at .z) ?_)
  refine RunL.op (OpS.bin rfl rfl rfl rfl rfl ?_)
  refine RunL.op (OpS.as rfl rfl rfl ?_)
  obtain ⟨x1, e1, hF⟩ := letP_use hF
  refine RunL.nameb e1 ?_
  refine RunL.nil ?_
  refine Run.slim [(2, .bool x1)] ⟨rfl, trivial⟩ ?_
  refine Run.retP rfl (.tmp rfl .nil) ?_
  cases hF
  exact Post.mk' ⟨rfl, rfl, rfl, rfl⟩ (h.picks .nil) .nil
theorem frame_address_ok {fuel : Nat} {a0 : Int} {y : Bool} (hF : frame_address fuel a0 = some y) {w : World} :
    Spec Try.prog 30 [.int .u8 a0].toArray w [] [] (fun v Γr Ωr Ωo => v = .bool y ∧ Γr = [] ∧ Ωr = [] ∧ Ωo = []) := by
  refine Spec.of (L := [(0, .int .u8 a0)]) Try.func30 rfl ⟨rfl, trivial⟩ rfl (fun e h => ?_)
  unfold frame_address at hF
  refine Run.seq ?_
  refine Run.reg ?_
  refine RunL.op (OpS.as rfl rfl rfl ?_)
  refine RunL.nil ?_
  refine Run.slim [(0, .int .u8 a0)] ⟨rfl, trivial⟩ ?_
  refine Run.seq ?_
  refine Run.reg ?_
  refine RunL.op (OpS.mv rfl rfl rfl ?_)
  refine RunL.op (OpS.bin rfl rfl rfl rfl rfl ?_)
  refine RunL.op (OpS.mv rfl rfl rfl ?_)
  refine RunL.caseb hF (fun e1 hF => ?_) (fun e1 hF => ?_)
  ·
    refine RunL.op (OpS.mv rfl rfl rfl ?_)
    refine RunL.op (OpS.bin rfl rfl rfl rfl rfl ?_)
    refine RunL.op (OpS.pick rfl rfl rfl rfl ?_)
    refine RunL.op (OpS.as rfl rfl rfl ?_)
    obtain ⟨x1, e2, hF⟩ := letP_use hF
    refine RunL.nameb e2 ?_
    refine RunL.nil ?_
    refine Run.slim [(2, .bool x1)] ⟨rfl, trivial⟩ ?_
    refine Run.retP rfl (.tmp rfl .nil) ?_
    cases hF
    exact Post.mk' ⟨rfl, rfl, rfl, rfl⟩ (h.picks .nil) .nil
  ·
    refine RunL.op (OpS.pass rfl rfl rfl ?_)
    refine RunL.op (OpS.pass rfl rfl rfl ?_)
    refine RunL.op (OpS.pick rfl rfl rfl rfl ?_)
    refine RunL.op (OpS.as rfl rfl rfl ?_)
    refine RunL.nil ?_
    refine Run.slim [(2, .bool false)] ⟨rfl, trivial⟩ ?_
    refine Run.retP rfl (.tmp rfl .nil) ?_
    cases hF
    exact Post.mk' ⟨rfl, rfl, rfl, rfl⟩ (h.picks .nil) .nil
theorem frame_Valid_ok {fuel : Nat} {a0 : Frame_} {y : Bool} (hF : frame_Valid fuel a0 = some y) {w : World} {v0 : Value} :
    Spec Try.prog 19 [v0].toArray w [(false, .val Frame_.rep v0 a0)] [] (fun v Γr Ωr Ωo => v = .bool y ∧ Γr = [] ∧ Ωr = [] ∧ Ωo = []) := by
  refine Spec.of (L := [(0, v0)]) Try.func19 rfl ⟨rfl, trivial⟩ rfl (fun e h => ?_)
  unfold frame_Valid at hF
  refine Run.seq ?_
  refine Run.reg ?_
  refine RunL.op (OpS.boxF h rfl rfl rfl (V.at .z) (fun u1 w1 h1 => ?_))
  refine RunL.op (OpS.as rfl rfl rfl ?_)
  refine RunL.nil ?_
  refine Run.slim [(1, u1)] ⟨rfl, trivial⟩ ?_
  refine Run.seq ?_
  refine Run.reg ?_
  refine RunL.op (OpS.fbox (o3 := 0) h1 .z PA.z fa30_0 rfl rfl rfl rfl ?_)
  refine RunL.op (OpS.loadBi h1 .z PA.a (Get.fld Frame_.f0) ty5 rfl rfl rfl ?_)
  obtain ⟨y1, e1, hF⟩ := bindP_use hF
  refine RunL.op (OpS.callP h1 Try.func30 rfl rfl rfl rfl (vs := [.int .u8 a0.To]) rfl (frame_address_ok e1) .nil ?_)
  rintro _ w2 _ _ _ ⟨rfl, rfl, rfl, rfl⟩ h2
  have h3 := h2 rfl rfl
  simp only [List.cons_append, List.nil_append] at h3
  refine RunL.op (OpS.mv rfl rfl rfl ?_)
  refine RunL.caseb hF (fun e2 hF => ?_) (fun e2 hF => ?_)
  ·
    refine RunL.op (OpS.fbox (o3 := 1) h3 .z PA.z fa30_1 rfl rfl rfl rfl ?_)
    refine RunL.op (OpS.loadBi h3 .z PA.a (Get.fld Frame_.f1) ty5 rfl rfl rfl ?_)
    obtain ⟨y2, e3, hF⟩ := bindP_use hF
    refine RunL.op (OpS.callP h3 Try.func30 rfl rfl rfl rfl (vs := [.int .u8 a0.From]) rfl (frame_address_ok e3) .nil ?_)
    rintro _ w3 _ _ _ ⟨rfl, rfl, rfl, rfl⟩ h4
    have h5 := h4 rfl rfl
    simp only [List.cons_append, List.nil_append] at h5
    refine RunL.op (OpS.pick rfl rfl rfl rfl ?_)
    refine RunL.op (OpS.mv rfl rfl rfl ?_)
    refine RunL.caseb hF (fun e4 hF => ?_) (fun e4 hF => ?_)
    ·
      refine RunL.op (OpS.fbox (o3 := 2) h5 .z PA.z fa30_2 rfl rfl rfl rfl ?_)
      refine RunL.op (OpS.loadB h5 .z PA.a (Get.fld Frame_.f2) ty22 rfl rfl rfl (fun u2 h6 => ?_))
      refine RunL.op (OpS.len h6 Try.underlying22 rfl rfl rfl (V.at .z) ?_)
      refine RunL.op (OpS.bin rfl rfl rfl rfl rfl ?_)
      refine RunL.op (OpS.pick rfl rfl rfl rfl ?_)
      refine RunL.op (OpS.as rfl rfl rfl ?_)
      obtain ⟨x1, e5, hF⟩ := letP_use hF
      refine RunL.nameb e5 ?_
      refine RunL.nil ?_
      refine Run.slim [(2, .bool x1)] ⟨rfl, trivial⟩ ?_
      refine Run.retP rfl (.tmp rfl .nil) ?_
      cases hF
      exact Post.mk' ⟨rfl, rfl, rfl, rfl⟩ (h6.picks .nil) .nil
    ·
      refine RunL.op (OpS.pass rfl rfl rfl ?_)
      refine RunL.op (OpS.pass rfl rfl rfl ?_)
      refine RunL.op (OpS.pass rfl rfl rfl ?_)
      refine RunL.op (OpS.pass rfl rfl rfl ?_)
      refine RunL.op (OpS.pick rfl rfl rfl rfl ?_)
      refine RunL.op (OpS.as rfl rfl rfl ?_)
      refine RunL.nil ?_
      refine Run.slim [(2, .bool false)] ⟨rfl, trivial⟩ ?_
      refine Run.retP rfl (.tmp rfl .nil) ?_
      cases hF
      exact Post.mk' ⟨rfl, rfl, rfl, rfl⟩ (h5.picks .nil) .nil
  ·
    refine RunL.op (OpS.pass rfl rfl rfl ?_)
    refine RunL.op (OpS.pass rfl rfl rfl ?_)
    refine RunL.op (OpS.pass rfl rfl rfl ?_)
    refine RunL.op (OpS.pick rfl rfl rfl rfl ?_)
    refine RunL.op (OpS.mv rfl rfl rfl ?_)
    refine RunL.op (OpS.pass rfl rfl rfl ?_)
    refine RunL.op (OpS.pass rfl rfl rfl ?_)
    refine RunL.op (OpS.pass rfl rfl rfl ?_)
    refine RunL.op (OpS.pass rfl rfl rfl ?_)
    refine RunL.op (OpS.pick rfl rfl rfl rfl ?_)
    refine RunL.op (OpS.as rfl rfl rfl ?_)
    refine RunL.nil ?_
    refine Run.slim [(2, .bool false)] ⟨rfl, trivial⟩ ?_
    refine Run.retP rfl (.tmp rfl .nil) ?_
    cases hF
    exact Post.mk' ⟨rfl, rfl, rfl, rfl⟩ (h3.picks .nil) .nil
theorem slices_Clone_byte_byte_ok {fuel : Nat} {a0 : List Int} {y : (List Int)} (hF : slices_Clone_byte_byte fuel a0 = some y) {w : World} {v0 : Value} :
    Spec Try.prog 35 [v0].toArray w [(false, .val (Rep.slice (Rep.int .u8)) v0 a0)] [] (fun v Γr Ωr Ωo => ∃ u0 : Value, v = u0 ∧ Γr = [] ∧ Ωr = [(true, .slice 5 (Rep.int .u8) u0 y)] ∧ Ωo = []) := by
  refine Spec.of (L := [(0, v0)]) Try.func35 rfl ⟨rfl, trivial⟩ rfl (fun e h => ?_)
  unfold slices_Clone_byte_byte at hF
  refine Run.seq ?_
  refine Run.reg ?_
  refine RunL.op (OpS.as rfl rfl rfl ?_)
  refine RunL.nil ?_
  refine Run.slim [(0, v0)] ⟨rfl, trivial⟩ ?_
  refine Run.seq ?_
  refine Run.seq ?_
  refine Run.reg ?_
  refine RunL.op (OpS.mv rfl rfl rfl ?_)
  refine RunL.op (OpS.snil h Try.underlying22 rfl rfl rfl (V.at .z) (fun b1 hb1 => ?_))
  refine RunL.nil ?_
  refine Run.slim [(4, .bool b1), (0, v0)] ⟨rfl, rfl, trivial⟩ ?_
  cases b1
  ·
    refine Run.condF rfl ?_
    refine Run.skip ?_
    refine Run.seq ?_
    refine Run.reg ?_
    refine RunL.op (OpS.litO (r := (Rep.int .u8)) (f := true) h Try.underlying22 ti5 rfl rfl rfl rfl rfl .nil rfl rfl (fun u1 w1 h1 => ?_))
    refine RunL.op (OpS.mv rfl rfl rfl ?_)
    obtain ⟨x1, e1, hF⟩ := bindP_use hF
    refine RunL.op (OpS.app (f' := false) h1 .z Try.underlying22 ti5 rfl rfl rfl rfl rfl rfl rfl (V.at .z) (.inr Pure.int) e1 (fun u2 w2 h2 => ?_))
    refine RunL.op (OpS.as rfl rfl rfl ?_)
    refine RunL.nil ?_
    refine Run.slim [(2, u2)] ⟨rfl, trivial⟩ ?_
    refine Run.retP rfl (.tmp rfl .nil) ?_
    cases hF
    exact Post.mk' ⟨u2, rfl, rfl, rfl, rfl⟩ (h2.picks (.cons .z .nil)) .nil
  ·
    obtain rfl := hb1 rfl
    have hF : some ([] : List Int) = some y := by simpa [bindP, app] using hF
    refine Run.condT rfl ?_
    refine Run.seq ?_
    refine Run.reg ?_
    refine RunL.op (OpS.as rfl rfl rfl ?_)
    refine RunL.nil ?_
    refine Run.slim [(2, .slice none 0 0)] ⟨rfl, trivial⟩ ?_
    have h3 := St.nil 5 (Rep.int .u8) h
    refine Run.retP rfl (.tmp rfl .nil) ?_
    cases hF
    exact Post.mk' ⟨(.slice none 0 0), rfl, rfl, rfl, rfl⟩ (h3.picks (.cons .z .nil)) .nil
theorem checksum_CRC8_ok {fuel : Nat} {a0 : List Int} {y : Int} (hF : checksum_CRC8 fuel a0 = some y) {w : World} {v0 : Value} :
    Spec Try.prog 38 [v0].toArray w [(false, .val (Rep.slice (Rep.int .u8)) v0 a0)] [] (fun v Γr Ωr Ωo => v = .int .u8 y ∧ Γr = [] ∧ Ωr = [] ∧ Ωo = []) := by
  refine Spec.of (L := [(0, v0)]) Try.func38 rfl ⟨rfl, trivial⟩ rfl (fun e h => ?_)
  unfold checksum_CRC8 at hF
  refine Run.seq ?_
  refine Run.reg ?_
  refine RunL.op (OpS.as rfl rfl rfl ?_)
  refine RunL.nil ?_
  refine Run.slim [(0, v0)] ⟨rfl, trivial⟩ ?_
  refine Run.seq ?_
  refine Run.reg ?_
  refine RunL.op (OpS.as rfl rfl rfl ?_)
  refine RunL.nil ?_
  refine Run.seq ?_
  refine Run.seq ?_
  refine Run.reg ?_
  refine RunL.op (OpS.mv rfl rfl rfl ?_)
  refine RunL.op (OpS.len h Try.underlying22 rfl rfl rfl (V.at .z) ?_)
  refine RunL.op (OpS.mv rfl rfl rfl ?_)
  refine RunL.nil ?_
  refine Run.slim [(9, .int .i64 0), (8, .int .i64 (a0.length : Int)), (7, v0), (3, .int .u8 0)] ⟨rfl, rfl, rfl, rfl, trivial⟩ ?_
  refine Run.block ?_
  refine Run.slim [(3, .int .u8 0), (7, v0), (8, .int .i64 (a0.length : Int)), (9, .int .i64 0)] ⟨rfl, rfl, rfl, rfl, trivial⟩ ?_
  refine Run.loopP (σ := (Int × Int)) (fun s_ L_ w_ => L_ = [(3, .int .u8 s_.1), (7, v0), (8, .int .i64 (a0.length : Int)), (9, .int .i64 s_.2)] ∧ St e w_ [(false, .val (Rep.slice (Rep.int .u8)) v0 a0)] []) hF ⟨rfl, (h.facts (.atm .z .nil)).picks .nil⟩ (fun k1 hk1 s1 _ w1 hI hF => ?_)
  obtain ⟨rfl, h1⟩ := hI
  refine Run.seq ?_
  refine Run.reg ?_
  refine RunL.op (OpS.bin rfl rfl rfl rfl rfl ?_)
  refine RunL.nil ?_
  refine Run.seq ?_
  refine Run.ite rfl hF (fun e1 hF => ?_) (fun e1 hF => ?_)
  ·
    refine Run.skip ?_
    refine Run.seq ?_
    refine Run.block ?_
    refine Run.seq ?_
    refine Run.reg ?_
    obtain ⟨x1, e2, hF⟩ := bindP_use hF
    refine RunL.op (OpS.iptr h1 Try.underlying22 ty5 rfl rfl rfl rfl (V.at .z) e2 (fun u1 h2 => ?_))
    refine RunL.op (OpS.loadi h2 ty5 rfl rfl rfl .z ?_)
    refine RunL.op (OpS.as rfl rfl rfl ?_)
    refine RunL.nil ?_
    refine Run.slim [(5, .int .u8 x1), (3, .int .u8 s1.1), (7, v0), (8, .int .i64 (a0.length : Int)), (9, .int .i64 s1.2)] ⟨rfl, rfl, rfl, rfl, rfl, trivial⟩ ?_
    refine Run.seq ?_
    refine Run.reg ?_
    refine RunL.op (OpS.mv rfl rfl rfl ?_)
    refine RunL.op (OpS.mv rfl rfl rfl ?_)
    refine RunL.op (OpS.bin rfl rfl rfl rfl rfl ?_)
    refine RunL.op (OpS.as rfl rfl rfl ?_)
    refine RunL.nil ?_
    refine Run.slim [(3, .int .u8 (bXor .u8 s1.1 x1)), (7, v0), (8, .int .i64 (a0.length : Int)), (9, .int .i64 s1.2)] ⟨rfl, rfl, rfl, rfl, trivial⟩ ?_
    refine Run.seq ?_
    refine Run.reg ?_
    refine RunL.op (OpS.mv rfl rfl rfl ?_)
    refine RunL.nil ?_
    refine Run.block ?_
    refine Run.slim [(3, .int .u8 (bXor .u8 s1.1 x1)), (7, v0), (8, .int .i64 (a0.length : Int)), (9, .int .i64 s1.2), (16, .int .i64 0)] ⟨rfl, rfl, rfl, rfl, rfl, trivial⟩ ?_
    refine Run.loopP (σ := (Int × Int)) (fun s_ L_ w_ => L_ = [(3, .int .u8 s_.1), (7, v0), (8, .int .i64 (a0.length : Int)), (9, .int .i64 s1.2), (16, .int .i64 s_.2)] ∧ St e w_ [(false, .val (Rep.slice (Rep.int .u8)) v0 a0)] []) hF ⟨rfl, (h2.facts (.atm (.s .z) .nil)).picks .nil⟩ (fun k2 hk2 s2 _ w2 hI hF => ?_)
    obtain ⟨rfl, h3⟩ := hI
    refine Run.seq ?_
    refine Run.reg ?_
    refine RunL.op (OpS.bin rfl rfl rfl rfl rfl ?_)
    refine RunL.nil ?_
    refine Run.seq ?_
    refine Run.ite rfl hF (fun e3 hF => ?_) (fun e3 hF => ?_)
    ·
      refine Run.skip ?_
      refine Run.seq ?_
      refine Run.block ?_
      refine Run.seq ?_
      refine Run.reg ?_
      refine RunL.op (OpS.mv rfl rfl rfl ?_)
      refine RunL.op (OpS.shr rfl rfl rfl rfl (by decide) ?_)
      refine RunL.op (OpS.as rfl rfl rfl ?_)
      refine RunL.nil ?_
      refine Run.slim [(6, .int .u8 (bShr .u8 s2.1 7)), (3, .int .u8 s2.1), (7, v0), (8, .int .i64 (a0.length : Int)), (9, .int .i64 s1.2), (16, .int .i64 s2.2)] ⟨rfl, rfl, rfl, rfl, rfl, rfl, trivial⟩ ?_
      refine Run.reg ?_
      refine RunL.op (OpS.mv rfl rfl rfl ?_)
      refine RunL.op (OpS.shl rfl rfl rfl rfl (by decide) ?_)
      refine RunL.op (OpS.mv rfl rfl rfl ?_)
      refine RunL.op (OpS.bin rfl rfl rfl rfl rfl ?_)
      refine RunL.op (OpS.bin rfl rfl rfl rfl rfl ?_)
      refine RunL.op (OpS.as rfl rfl rfl ?_)
      obtain ⟨x2, e4, hF⟩ := letP_use hF
      refine RunL.name e4 ?_
      refine RunL.nil ?_
      refine Run.slim [(3, .int .u8 x2), (7, v0), (8, .int .i64 (a0.length : Int)), (9, .int .i64 s1.2), (16, .int .i64 s2.2)] ⟨rfl, rfl, rfl, rfl, rfl, trivial⟩ ?_
      refine Run.endBlock ?_
      refine Run.reg ?_
      refine RunL.op (OpS.bin rfl rfl rfl rfl rfl ?_)
      refine RunL.op (OpS.mv rfl rfl rfl ?_)
      refine RunL.nil ?_
      refine Run.slim [(16, .int .i64 (IntKind.i64.wrap (s2.2 + 1))), (3, .int .u8 x2), (7, v0), (8, .int .i64 (a0.length : Int)), (9, .int .i64 s1.2)] ⟨rfl, rfl, rfl, rfl, rfl, trivial⟩ ?_
      refine Run.slim [(3, .int .u8 x2), (7, v0), (8, .int .i64 (a0.length : Int)), (9, .int .i64 s1.2), (16, .int .i64 (IntKind.i64.wrap (s2.2 + 1)))] ⟨rfl, rfl, rfl, rfl, rfl, trivial⟩ ?_
      exact hk2 (x2, (IntKind.i64.wrap (s2.2 + 1))) _ _ ⟨rfl, (h3.facts (.atm .z .nil)).picks .nil⟩ hF
    ·
      refine Run.exit rfl ?_
      refine Run.endBlock ?_
      refine Run.reg ?_
      refine RunL.op (OpS.bin rfl rfl rfl rfl rfl ?_)
      refine RunL.op (OpS.mv rfl rfl rfl ?_)
      refine RunL.nil ?_
      refine Run.slim [(9, .int .i64 (IntKind.i64.wrap (s1.2 + 1))), (3, .int .u8 s2.1), (7, v0), (8, .int .i64 (a0.length : Int))] ⟨rfl, rfl, rfl, rfl, trivial⟩ ?_
      refine Run.slim [(3, .int .u8 s2.1), (7, v0), (8, .int .i64 (a0.length : Int)), (9, .int .i64 (IntKind.i64.wrap (s1.2 + 1)))] ⟨rfl, rfl, rfl, rfl, trivial⟩ ?_
      exact hk1 (s2.1, (IntKind.i64.wrap (s1.2 + 1))) _ _ ⟨rfl, (h3.facts (.atm .z .nil)).picks .nil⟩ hF
  ·
    refine Run.exit rfl ?_
    refine Run.seq ?_
    refine Run.reg ?_
    refine RunL.op (OpS.mv rfl rfl rfl ?_)
    refine RunL.op (OpS.as rfl rfl rfl ?_)
    refine RunL.nil ?_
    refine Run.slim [(2, .int .u8 s1.1)] ⟨rfl, trivial⟩ ?_
    refine Run.retP rfl (.tmp rfl .nil) ?_
    cases hF
    exact Post.mk' ⟨rfl, rfl, rfl, rfl⟩ (h1.picks .nil) .nil
theorem checksum_SealCRC8_ok {fuel : Nat} {a0 : List Int} {y : (List Int)} (hF : checksum_SealCRC8 fuel a0 = some y) {w : World} {v0 : Value} :
    Spec Try.prog 29 [v0].toArray w [(false, .val (Rep.slice (Rep.int .u8)) v0 a0)] [] (fun v Γr Ωr Ωo => ∃ u0 : Value, v = u0 ∧ Γr = [] ∧ Ωr = [(true, .slice 5 (Rep.int .u8) u0 y)] ∧ Ωo = []) := by
  refine Spec.of (L := [(0, v0)]) Try.func29 rfl ⟨rfl, trivial⟩ rfl (fun e h => ?_)
  unfold checksum_SealCRC8 at hF
  refine Run.seq ?_
  refine Run.reg ?_
  refine RunL.op (OpS.as rfl rfl rfl ?_)
  refine RunL.nil ?_
  refine Run.slim [(0, v0)] ⟨rfl, trivial⟩ ?_
  refine Run.seq ?_
  refine Run.reg ?_
  refine RunL.op (OpS.mv rfl rfl rfl ?_)
  obtain ⟨y1, e1, hF⟩ := bindP_use hF
  refine RunL.op (OpS.callP h Try.func35 rfl rfl rfl rfl (vs := [v0]) rfl (slices_Clone_byte_byte_ok e1) (.cons (V.at .z) .nil) ?_)
  rintro u1 w1 _ _ _ ⟨_, rfl, rfl, rfl, rfl⟩ h1
  have h2 := h1 rfl rfl
  simp only [List.cons_append, List.nil_append] at h2
  refine RunL.op (OpS.mv rfl rfl rfl ?_)
  obtain ⟨y2, e2, hF⟩ := bindP_use hF
  refine RunL.op (OpS.callP h2 Try.func38 rfl rfl rfl rfl (vs := [v0]) rfl (checksum_CRC8_ok e2) (.cons (V.at .z) .nil) ?_)
  rintro _ w2 _ _ _ ⟨rfl, rfl, rfl, rfl⟩ h3
  have h4 := h3 rfl rfl
  simp only [List.cons_append, List.nil_append] at h4
  refine RunL.op (OpS.lit (r := (Rep.int .u8)) (f := true) h4 Try.underlying22 ti5 rfl rfl rfl rfl rfl (.cons rfl V.int .nil) rfl rfl (fun u2 w3 h5 => ?_))
  obtain ⟨x1, e3, hF⟩ := bindP_use hF
  refine RunL.op (OpS.app (f' := true) h5 .z Try.underlying22 ti5 rfl rfl rfl rfl rfl rfl rfl (V.at .z) (.inr Pure.int) e3 (fun u3 w4 h6 => ?_))
  refine RunL.op (OpS.as rfl rfl rfl ?_)
  refine RunL.nil ?_
  refine Run.slim [(2, u3)] ⟨rfl, trivial⟩ ?_
  refine Run.retP rfl (.tmp rfl .nil) ?_
  cases hF
  exact Post.mk' ⟨u3, rfl, rfl, rfl, rfl⟩ (h6.picks (.cons .z .nil)) .nil
theorem frame_Encode_ok {fuel : Nat} {a0 : Frame_} {y : (List Int) × Int} (hF : frame_Encode fuel a0 = some y) {w : World} {v0 : Value} :
    Spec Try.prog 15 [v0].toArray w [(false, .val Frame_.rep v0 a0)] [] (fun v Γr Ωr Ωo => ∃ u0 : Value, v = .tuple #[u0, .int .i64 y.2] ∧ Γr = [] ∧ Ωr = [(true, .slice 5 (Rep.int .u8) u0 y.1)] ∧ Ωo = []) := by
  refine Spec.of (L := [(0, v0)]) Try.func15 rfl ⟨rfl, trivial⟩ rfl (fun e h => ?_)
  unfold frame_Encode at hF
  refine Run.seq ?_
  refine Run.reg ?_
  refine RunL.op (OpS.boxF h rfl rfl rfl (V.at .z) (fun u1 w1 h1 => ?_))
  refine RunL.op (OpS.as rfl rfl rfl ?_)
  refine RunL.op (OpS.as rfl rfl rfl ?_)
  refine RunL.nil ?_
  refine Run.slim [(1, u1)] ⟨rfl, trivial⟩ ?_
  refine Run.seq ?_
  refine Run.seq ?_
  refine Run.reg ?_
  refine RunL.op (OpS.loadB h1 .z PA.z Get.id ty30 rfl rfl rfl (fun u2 h2 => ?_))
  obtain ⟨y1, e1, hF⟩ := bindP_use hF
  refine RunL.op (OpS.callP h2 Try.func19 rfl rfl rfl rfl (vs := [u2]) rfl (frame_Valid_ok e1) (.cons (V.at .z) .nil) ?_)
  rintro _ w2 _ _ _ ⟨rfl, rfl, rfl, rfl⟩ h3
  have h4 := h3 rfl rfl
  simp only [List.cons_append, List.nil_append] at h4
  refine RunL.op (OpS.not rfl rfl rfl ?_)
  refine RunL.nil ?_
  refine Run.slim [(6, .bool (!y1)), (1, u1)] ⟨rfl, rfl, trivial⟩ ?_
  refine Run.ite rfl hF (fun e2 hF => ?_) (fun e2 hF => ?_)
  ·
    refine Run.seq ?_
    refine Run.reg ?_
    refine RunL.op (OpS.as rfl rfl rfl ?_)
    refine RunL.op (OpS.as rfl rfl rfl ?_)
    refine RunL.nil ?_
    refine Run.slim [(3, .int .i64 1), (2, .slice none 0 0)] ⟨rfl, rfl, trivial⟩ ?_
    have h5 := St.nil 5 (Rep.int .u8) h4
    refine Run.retP rfl (.tmp rfl (.tmp rfl .nil)) ?_
    cases hF
    exact Post.mk' ⟨(.slice none 0 0), rfl, rfl, rfl, rfl⟩ (h5.picks (.cons .z .nil)) .nil
  ·
    refine Run.skip ?_
    refine Run.seq ?_
    refine Run.reg ?_
    refine RunL.op (OpS.fbox (o3 := 0) h4 .z PA.z fa30_0 rfl rfl rfl rfl ?_)
    refine RunL.op (OpS.loadBi h4 .z PA.a (Get.fld Frame_.f0) ty5 rfl rfl rfl ?_)
    refine RunL.op (OpS.bin rfl rfl rfl rfl rfl ?_)
    refine RunL.op (OpS.fbox (o3 := 2) h4 .z PA.z fa30_2 rfl rfl rfl rfl ?_)
    refine RunL.op (OpS.loadB h4 .z PA.a (Get.fld Frame_.f2) ty22 rfl rfl rfl (fun u3 h6 => ?_))
    refine RunL.op (OpS.len h6 Try.underlying22 rfl rfl rfl (V.at .z) ?_)
    refine RunL.op (OpS.bin rfl rfl rfl rfl rfl ?_)
    refine RunL.op (OpS.conv Try.underlying3 Try.underlying5 rfl rfl rfl ?_)
    refine RunL.op (OpS.fbox (o3 := 1) h6 .z PA.z fa30_1 rfl rfl rfl rfl ?_)
    refine RunL.op (OpS.loadBi h6 .z PA.a (Get.fld Frame_.f1) ty5 rfl rfl rfl ?_)
    refine RunL.op (OpS.bin rfl rfl rfl rfl rfl ?_)
    refine RunL.op (OpS.bin rfl rfl rfl rfl rfl ?_)
    refine RunL.op (OpS.litO (r := (Rep.int .u8)) (f := true) h6 Try.underlying22 ti5 rfl rfl rfl rfl rfl (.cons rfl V.int (.cons rfl V.int (.cons rfl V.int (.cons rfl V.int .nil)))) rfl rfl (fun u4 w3 h7 => ?_))
    refine RunL.op (OpS.fbox (o3 := 2) h7 (.s .z) PA.z fa30_2 rfl rfl rfl rfl ?_)
    refine RunL.op (OpS.loadB h7 (.s .z) PA.a (Get.fld Frame_.f2) ty22 rfl rfl rfl (fun u5 h8 => ?_))
    obtain ⟨x1, e3, hF⟩ := bindP_use hF
    refine RunL.op (OpS.app (f' := false) h8 .z Try.underlying22 ti5 rfl rfl rfl rfl rfl rfl rfl (V.at .z) (.inr Pure.int) e3 (fun u6 w4 h9 => ?_))
    obtain ⟨y2, e4, hF⟩ := bindP_use hF
    refine RunL.op (OpS.callP h9 Try.func29 rfl rfl rfl rfl (vs := [u6]) rfl (checksum_SealCRC8_ok e4) (.own .z .nil) ?_)
    rintro u7 w5 _ _ _ ⟨_, rfl, rfl, rfl, rfl⟩ h10
    have h11 := h10 rfl rfl
    simp only [List.cons_append, List.nil_append] at h11
    refine RunL.op (OpS.as rfl rfl rfl ?_)
    refine RunL.op (OpS.as rfl rfl rfl ?_)
    refine RunL.nil ?_
    refine Run.slim [(3, .int .i64 0), (2, u7)] ⟨rfl, rfl, trivial⟩ ?_
    refine Run.retP rfl (.tmp rfl (.tmp rfl .nil)) ?_
    cases hF
    exact Post.mk' ⟨u7, rfl, rfl, rfl, rfl⟩ (h11.picks (.cons .z .nil)) .nil
theorem ref01_Same_ok {fuel : Nat} {a0 : List Int} {a1 : List Int} {y : Bool} (hF : ref01_Same fuel a0 a1 = some y) {w : World} {v0 v1 : Value} :
    Spec Try.prog 21 [v0, v1].toArray w [(false, .val (Rep.slice (Rep.int .u8)) v0 a0), (false, .val (Rep.slice (Rep.int .u8)) v1 a1)] [] (fun v Γr Ωr Ωo => v = .bool y ∧ Γr = [] ∧ Ωr = [] ∧ Ωo = []) := by
  refine Spec.of (L := [(0, v0), (1, v1)]) Try.func21 rfl ⟨rfl, rfl, trivial⟩ rfl (fun e h => ?_)
  unfold ref01_Same at hF
  refine Run.seq ?_
  refine Run.reg ?_
  refine RunL.op (OpS.as rfl rfl rfl ?_)
  refine RunL.nil ?_
  refine Run.slim [(0, v0), (1, v1)] ⟨rfl, rfl, trivial⟩ ?_
  refine Run.seq ?_
  refine Run.seq ?_
  refine Run.reg ?_
  refine RunL.op (OpS.mv rfl rfl rfl ?_)
  refine RunL.op (OpS.len h Try.underlying22 rfl rfl rfl (V.at .z) ?_)
  refine RunL.op (OpS.mv rfl rfl rfl ?_)
  refine RunL.op (OpS.len h Try.underlying22 rfl rfl rfl (V.at (.s .z)) ?_)
  refine RunL.op (OpS.bin rfl rfl rfl rfl rfl ?_)
  refine RunL.nil ?_
  refine Run.slim [(10, .bool ((a0.length : Int) != (a1.length : Int))), (0, v0), (1, v1)] ⟨rfl, rfl, rfl, trivial⟩ ?_
  refine Run.ite rfl hF (fun e1 hF => ?_) (fun e1 hF => ?_)
  ·
    refine Run.seq ?_
    refine Run.reg ?_
    refine RunL.op (OpS.as rfl rfl rfl ?_)
    refine RunL.nil ?_
    refine Run.slim [(4, .bool false)] ⟨rfl, trivial⟩ ?_
    refine Run.retP rfl (.tmp rfl .nil) ?_
    cases hF
    exact Post.mk' ⟨rfl, rfl, rfl, rfl⟩ (h.picks .nil) .nil
  ·
    refine Run.skip ?_
    refine Run.seq ?_
    refine Run.seq ?_
    refine Run.reg ?_
    refine RunL.op (OpS.as rfl rfl rfl ?_)
    refine RunL.nil ?_
    refine Run.slim [(5, .int .i64 0), (0, v0), (1, v1)] ⟨rfl, rfl, rfl, trivial⟩ ?_
    refine Run.block ?_
    refine Run.slim [(0, v0), (1, v1), (5, .int .i64 0)] ⟨rfl, rfl, rfl, trivial⟩ ?_
    refine Run.loopP (σ := Int) (fun s_ L_ w_ => L_ = [(0, v0), (1, v1), (5, .int .i64 s_)] ∧ St e w_ [(false, .val (Rep.slice (Rep.int .u8)) v0 a0), (false, .val (Rep.slice (Rep.int .u8)) v1 a1)] []) hF ⟨rfl, (h.facts (.atm .z (.atm (.s .z) .nil))).picks .nil⟩ (fun k1 hk1 s1 _ w1 hI hF => ?_)
    obtain ⟨rfl, h1⟩ := hI
    refine Run.seq ?_
    refine Run.seq ?_
    refine Run.reg ?_
    refine RunL.op (OpS.mv rfl rfl rfl ?_)
    refine RunL.op (OpS.mv rfl rfl rfl ?_)
    refine RunL.op (OpS.len h1 Try.underlying22 rfl rfl rfl (V.at .z) ?_)
    refine RunL.op (OpS.bin rfl rfl rfl rfl rfl ?_)
    refine RunL.nil ?_
    refine Run.slim [(14, .bool (decide (s1 < (a0.length : Int)))), (0, v0), (1, v1), (5, .int .i64 s1)] ⟨rfl, rfl, rfl, rfl, trivial⟩ ?_
    refine Run.ite rfl hF (fun e2 hF => ?_) (fun e2 hF => ?_)
    ·
      refine Run.skip ?_
      refine Run.seq ?_
      refine Run.block ?_
      refine Run.seq ?_
      obtain ⟨x1, e3, hF⟩ := bindP_use hF
      obtain ⟨x2, e4, hF⟩ := bindP_use hF
      refine Run.drawV (Ωs := []) [⟨17, some (v0), fun _ => [], fun _ => [], false⟩, ⟨18, some (.int .i64 s1), fun _ => [], fun _ => [], false⟩, ⟨19, none, fun u_ => [(false, .ptr (Rep.int .u8) u_ x1)], fun u_ => [], false⟩, ⟨20, some (.int .u8 x1), fun _ => [], fun _ => [], false⟩, ⟨21, some (v1), fun _ => [], fun _ => [], false⟩, ⟨22, some (.int .i64 s1), fun _ => [], fun _ => [], false⟩, ⟨23, none, fun u_ => [(false, .ptr (Rep.int .u8) u_ x2)], fun u_ => [], false⟩, ⟨24, some (.int .u8 x2), fun _ => [], fun _ => [], false⟩, ⟨25, some (.bool (x1 != x2)), fun _ => [], fun _ => [], false⟩] [[], [], [0, 1], [2], [], [], [4, 5], [6], [3, 7]] Try_mixed rfl rfl h1 (.cons ?_ (.cons ?_ (.cons ?_ (.cons ?_ (.cons ?_ (.cons ?_ (.cons ?_ (.cons ?_ (.cons ?_ .nil))))))))) (fun q1 w h => ?_)
      · intro q1 w Γx Ωx h
        refine OpS.mv rfl rfl rfl ?_
        exact ⟨undef, rfl, h⟩
      · intro q1 w Γx Ωx h
        refine OpS.mv rfl rfl rfl ?_
        exact ⟨undef, rfl, h⟩
      · intro q1 w Γx Ωx h
        refine OpS.iptr h Try.underlying22 ty5 rfl rfl rfl rfl (V.at .z) e3 (fun u h4 => ?_)
        exact ⟨u, rfl, h4⟩
      · intro q1 w Γx Ωx h
        refine OpS.loadi h ty5 rfl rfl rfl .z ?_
        exact ⟨undef, rfl, h⟩
      · intro q1 w Γx Ωx h
        refine OpS.mv rfl rfl rfl ?_
        exact ⟨undef, rfl, h⟩
      · intro q1 w Γx Ωx h
        refine OpS.mv rfl rfl rfl ?_
        exact ⟨undef, rfl, h⟩
      · intro q1 w Γx Ωx h
        refine OpS.iptr h Try.underlying22 ty5 rfl rfl rfl rfl (V.at (.s .z)) e4 (fun u h5 => ?_)
        exact ⟨u, rfl, h5⟩
      · intro q1 w Γx Ωx h
        refine OpS.loadi h ty5 rfl rfl rfl .z ?_
        exact ⟨undef, rfl, h⟩
      · intro q1 w Γx Ωx h
        refine OpS.bin rfl rfl rfl rfl rfl ?_
        exact ⟨undef, rfl, h⟩
      have h6 : St e w [(false, .ptr (Rep.int .u8) (q1 2) x1), (false, .ptr (Rep.int .u8) (q1 6) x2), (false, .val (Rep.slice (Rep.int .u8)) v0 a0), (false, .val (Rep.slice (Rep.int .u8)) v1 a1)] [] := h
      refine RunL.nil ?_
      refine Run.slim [(25, .bool (x1 != x2)), (0, v0), (1, v1), (5, .int .i64 s1)] ⟨rfl, rfl, rfl, rfl, trivial⟩ ?_
      refine Run.ite rfl hF (fun e5 hF => ?_) (fun e5 hF => ?_)
      ·
        refine Run.seq ?_
        refine Run.reg ?_
        refine RunL.op (OpS.as rfl rfl rfl ?_)
        refine RunL.nil ?_
        refine Run.slim [(4, .bool false)] ⟨rfl, trivial⟩ ?_
        refine Run.retP rfl (.tmp rfl .nil) ?_
        cases hF
        exact Post.mk' ⟨rfl, rfl, rfl, rfl⟩ (h6.picks .nil) .nil
      ·
        refine Run.skip ?_
        refine Run.endBlock ?_
        refine Run.reg ?_
        refine RunL.op (OpS.mv rfl rfl rfl ?_)
        refine RunL.op (OpS.bin rfl rfl rfl rfl rfl ?_)
        refine RunL.op (OpS.as rfl rfl rfl ?_)
        obtain ⟨x3, e6, hF⟩ := letP_use hF
        refine RunL.name e6 ?_
        refine RunL.nil ?_
        refine Run.slim [(5, .int .i64 x3), (0, v0), (1, v1)] ⟨rfl, rfl, rfl, trivial⟩ ?_
        refine Run.slim [(0, v0), (1, v1), (5, .int .i64 x3)] ⟨rfl, rfl, rfl, trivial⟩ ?_
        exact hk1 (x3) _ _ ⟨rfl, (h6.facts (.atm (.s (.s .z)) (.atm (.s (.s (.s .z))) .nil))).picks .nil⟩ hF
    ·
      refine Run.exit rfl ?_
      refine Run.seq ?_
      refine Run.reg ?_
      refine RunL.op (OpS.as rfl rfl rfl ?_)
      refine RunL.nil ?_
      refine Run.slim [(4, .bool true)] ⟨rfl, trivial⟩ ?_
      refine Run.retP rfl (.tmp rfl .nil) ?_
      cases hF
      exact Post.mk' ⟨rfl, rfl, rfl, rfl⟩ (h1.picks .nil) .nil
theorem bytes_Compare_ok {fuel : Nat} {a0 : List Int} {a1 : List Int} {y : Int} (hF : bytes_Compare fuel a0 a1 = some y) {w : World} {v0 v1 : Value} :
    Spec Try.prog 28 [v0, v1].toArray w [(false, .val (Rep.slice (Rep.int .u8)) v0 a0), (false, .val (Rep.slice (Rep.int .u8)) v1 a1)] [] (fun v Γr Ωr Ωo => v = .int .i64 y ∧ Γr = [] ∧ Ωr = [] ∧ Ωo = []) := by
  refine Spec.of (L := [(0, v0), (1, v1)]) Try.func28 rfl ⟨rfl, rfl, trivial⟩ rfl (fun e h => ?_)
  unfold bytes_Compare at hF
  refine Run.seq ?_
  refine Run.reg ?_
  refine RunL.op (OpS.as rfl rfl rfl ?_)
  refine RunL.nil ?_
  refine Run.slim [(0, v0), (1, v1)] ⟨rfl, rfl, trivial⟩ ?_
  refine Run.seq ?_
  refine Run.reg ?_
  refine RunL.op (OpS.mv rfl rfl rfl ?_)
  refine RunL.op (OpS.mv rfl rfl rfl ?_)
  refine RunL.op (OpS.cmpB h Try.func37 rfl rfl ext37n ext37 rfl rfl rfl rfl (V.at .z) (V.at (.s .z)) ?_)
  refine RunL.op (OpS.as rfl rfl rfl ?_)
  refine RunL.nil ?_
  refine Run.slim [(4, .int .i64 (cmpB a0 a1))] ⟨rfl, trivial⟩ ?_
  refine Run.retP rfl (.tmp rfl .nil) ?_
  cases hF
  exact Post.mk' ⟨rfl, rfl, rfl, rfl⟩ (h.picks .nil) .nil
theorem frame_Compare_ok {fuel : Nat} {a0 : List Int} {a1 : List Int} {y : Int} (hF : frame_Compare fuel a0 a1 = some y) {w : World} {v0 v1 : Value} :
    Spec Try.prog 13 [v0, v1].toArray w [(false, .val (Rep.slice (Rep.int .u8)) v0 a0), (false, .val (Rep.slice (Rep.int .u8)) v1 a1)] [] (fun v Γr Ωr Ωo => v = .int .i64 y ∧ Γr = [] ∧ Ωr = [] ∧ Ωo = []) := by
  refine Spec.of (L := [(0, v0), (1, v1)]) Try.func13 rfl ⟨rfl, rfl, trivial⟩ rfl (fun e h => ?_)
  unfold frame_Compare at hF
  refine Run.seq ?_
  refine Run.reg ?_
  refine RunL.op (OpS.as rfl rfl rfl ?_)
  refine RunL.nil ?_
  refine Run.slim [(0, v0), (1, v1)] ⟨rfl, rfl, trivial⟩ ?_
  refine Run.seq ?_
  refine Run.reg ?_
  refine RunL.op (OpS.mv rfl rfl rfl ?_)
  refine RunL.op (OpS.mv rfl rfl rfl ?_)
  obtain ⟨y1, e1, hF⟩ := bindP_use hF
  refine RunL.op (OpS.callP h Try.func28 rfl rfl rfl rfl (vs := [v0, v1]) rfl (bytes_Compare_ok e1) (.cons (V.at .z) (.cons (V.at (.s .z)) .nil)) ?_)
  rintro _ w1 _ _ _ ⟨rfl, rfl, rfl, rfl⟩ h1
  have h2 := h1 rfl rfl
  simp only [List.cons_append, List.nil_append] at h2
  refine RunL.op (OpS.as rfl rfl rfl ?_)
  refine RunL.nil ?_
  refine Run.slim [(4, .int .i64 y1)] ⟨rfl, trivial⟩ ?_
  refine Run.retP rfl (.tmp rfl .nil) ?_
  cases hF
  exact Post.mk' ⟨rfl, rfl, rfl, rfl⟩ (h2.picks .nil) .nil
theorem law20_awake_ok {fuel : Nat}  {y : Bool} (hF : law20_awake fuel  = some y) {w : World} :
    Spec Try.prog 9 [].toArray w [] [] (fun v Γr Ωr Ωo => v = .bool y ∧ Γr = [] ∧ Ωr = [] ∧ Ωo = []) := by
  refine Spec.of (L := []) Try.func9 rfl trivial rfl (fun e h => ?_)
  unfold law20_awake at hF
  refine Run.seq ?_
  refine Run.reg ?_
  refine RunL.op (OpS.as rfl rfl rfl ?_)
  refine RunL.nil ?_
  refine Run.slim [] trivial ?_
  refine Run.seq ?_
  refine Run.reg ?_
  refine RunL.op (OpS.lit (r := (Rep.int .u8)) (f := true) h Try.underlying22 ti5 rfl rfl rfl rfl rfl (.cons rfl V.int .nil) rfl rfl (fun u1 w1 h1 => ?_))
  refine RunL.op (OpS.build (f := true) (x' := (⟨16, 32, [171]⟩ : Frame_)) h1 pl30 ti30 Frame_.zr rfl rfl rfl (.cons rfl Frame_.f0 rfl V.int (.cons rfl Frame_.f1 rfl V.int (.cons rfl Frame_.f2 rfl (V.at .z) .nil))) (fun u2 h2 => ?_))
  obtain ⟨y1, e1, hF⟩ := bindP_use hF
  refine RunL.op (OpS.callP h2 Try.func15 rfl rfl rfl rfl (vs := [u2]) rfl (frame_Encode_ok e1) (.cons (V.at .z) .nil) ?_)
  rintro _ w2 _ _ _ ⟨u3, rfl, rfl, rfl, rfl⟩ h3
  have h4 := h3 rfl rfl
  simp only [List.cons_append, List.nil_append] at h4
  refine RunL.op (OpS.mv rfl rfl rfl ?_)
  refine RunL.op (OpS.ext rfl rfl rfl rfl ?_)
  refine RunL.op (OpS.ext rfl rfl rfl rfl ?_)
  refine RunL.op (OpS.as rfl rfl rfl ?_)
  have h5 := (h4.pick .z).freeze
  refine RunL.op (OpS.as rfl rfl rfl ?_)
  refine RunL.nil ?_
  refine Run.slim [(2, .int .i64 y1.2), (1, u3)] ⟨rfl, rfl, trivial⟩ ?_
  refine Run.seq ?_
  refine Run.reg ?_
  refine RunL.op (OpS.mv rfl rfl rfl ?_)
  refine RunL.op (OpS.bin rfl rfl rfl rfl rfl ?_)
  refine RunL.op (OpS.mv rfl rfl rfl ?_)
  refine RunL.caseb hF (fun e2 hF => ?_) (fun e2 hF => ?_)
  ·
    refine RunL.op (OpS.mv rfl rfl rfl ?_)
    refine RunL.op (OpS.len h5 Try.underlying22 rfl rfl rfl (V.at .z) ?_)
    refine RunL.op (OpS.bin rfl rfl rfl rfl rfl ?_)
    refine RunL.op (OpS.pick rfl rfl rfl rfl ?_)
    refine RunL.op (OpS.mv rfl rfl rfl ?_)
    refine RunL.caseb hF (fun e3 hF => ?_) (fun e3 hF => ?_)
    ·
      refine RunL.op (OpS.mv rfl rfl rfl ?_)
      obtain ⟨x1, e4, hF⟩ := bindP_use hF
      refine RunL.op (OpS.sub h5 Try.underlying22 ty5 rfl rfl rfl rfl rfl (V.at .z) e4 (fun u4 h6 => ?_))
      refine RunL.op (OpS.lit (r := (Rep.int .u8)) (f := true) h6 Try.underlying22 ti5 rfl rfl rfl rfl rfl (.cons rfl V.int (.cons rfl V.int (.cons rfl V.int (.cons rfl V.int (.cons rfl V.int .nil))))) rfl rfl (fun u5 w3 h7 => ?_))
      obtain ⟨y2, e5, hF⟩ := bindP_use hF
      refine RunL.op (OpS.callP h7 Try.func21 rfl rfl rfl rfl (vs := [u4, u5]) rfl (ref01_Same_ok e5) (.cons (V.at (.s .z)) (.cons (V.at .z) .nil)) ?_)
      rintro _ w4 _ _ _ ⟨rfl, rfl, rfl, rfl⟩ h8
      have h9 := h8 rfl rfl
      simp only [List.cons_append, List.nil_append] at h9
      refine RunL.op (OpS.pick rfl rfl rfl rfl ?_)
      refine RunL.op (OpS.mv rfl rfl rfl ?_)
      refine RunL.caseb hF (fun e6 hF => ?_) (fun e6 hF => ?_)
      ·
        refine RunL.op (OpS.lit (r := (Rep.int .u8)) (f := true) h9 Try.underlying22 ti5 rfl rfl rfl rfl rfl (.cons rfl V.int .nil) rfl rfl (fun u6 w5 h10 => ?_))
        refine RunL.op (OpS.lit (r := (Rep.int .u8)) (f := true) h10 Try.underlying22 ti5 rfl rfl rfl rfl rfl (.cons rfl V.int .nil) rfl rfl (fun u7 w6 h11 => ?_))
        obtain ⟨y3, e7, hF⟩ := bindP_use hF
        refine RunL.op (OpS.callP h11 Try.func13 rfl rfl rfl rfl (vs := [u6, u7]) rfl (frame_Compare_ok e7) (.cons (V.at (.s .z)) (.cons (V.at .z) .nil)) ?_)
        rintro _ w7 _ _ _ ⟨rfl, rfl, rfl, rfl⟩ h12
        have h13 := h12 rfl rfl
        simp only [List.cons_append, List.nil_append] at h13
        refine RunL.op (OpS.bin rfl rfl rfl rfl rfl ?_)
        refine RunL.op (OpS.pick rfl rfl rfl rfl ?_)
        refine RunL.op (OpS.as rfl rfl rfl ?_)
        obtain ⟨x2, e8, hF⟩ := letP_use hF
        refine RunL.nameb e8 ?_
        refine RunL.nil ?_
        refine Run.slim [(0, .bool x2)] ⟨rfl, trivial⟩ ?_
        refine Run.retP rfl (.tmp rfl .nil) ?_
        cases hF
        exact Post.mk' ⟨rfl, rfl, rfl, rfl⟩ (h13.picks .nil) .nil
      ·
        refine RunL.op (OpS.pass rfl rfl rfl ?_)
        refine RunL.op (OpS.pass rfl rfl rfl ?_)
        refine RunL.op (OpS.pass rfl rfl rfl ?_)
        refine RunL.op (OpS.pass rfl rfl rfl ?_)
        refine RunL.op (OpS.pick rfl rfl rfl rfl ?_)
        refine RunL.op (OpS.as rfl rfl rfl ?_)
        refine RunL.nil ?_
        refine Run.slim [(0, .bool false)] ⟨rfl, trivial⟩ ?_
        refine Run.retP rfl (.tmp rfl .nil) ?_
        cases hF
        exact Post.mk' ⟨rfl, rfl, rfl, rfl⟩ (h9.picks .nil) .nil
    ·
      refine RunL.op (OpS.pass rfl rfl rfl ?_)
      refine RunL.op (OpS.pass rfl rfl rfl ?_)
      refine RunL.op (OpS.pass rfl rfl rfl ?_)
      refine RunL.op (OpS.pass rfl rfl rfl ?_)
      refine RunL.op (OpS.pick rfl rfl rfl rfl ?_)
      refine RunL.op (OpS.mv rfl rfl rfl ?_)
      refine RunL.op (OpS.pass rfl rfl rfl ?_)
      refine RunL.op (OpS.pass rfl rfl rfl ?_)
      refine RunL.op (OpS.pass rfl rfl rfl ?_)
      refine RunL.op (OpS.pass rfl rfl rfl ?_)
      refine RunL.op (OpS.pick rfl rfl rfl rfl ?_)
      refine RunL.op (OpS.as rfl rfl rfl ?_)
      refine RunL.nil ?_
      refine Run.slim [(0, .bool false)] ⟨rfl, trivial⟩ ?_
      refine Run.retP rfl (.tmp rfl .nil) ?_
      cases hF
      exact Post.mk' ⟨rfl, rfl, rfl, rfl⟩ (h5.picks .nil) .nil
  ·
    refine RunL.op (OpS.pass rfl rfl rfl ?_)
    refine RunL.op (OpS.pass rfl rfl rfl ?_)
    refine RunL.op (OpS.pass rfl rfl rfl ?_)
    refine RunL.op (OpS.pick rfl rfl rfl rfl ?_)
    refine RunL.op (OpS.mv rfl rfl rfl ?_)
    refine RunL.op (OpS.pass rfl rfl rfl ?_)
    refine RunL.op (OpS.pass rfl rfl rfl ?_)
    refine RunL.op (OpS.pass rfl rfl rfl ?_)
    refine RunL.op (OpS.pass rfl rfl rfl ?_)
    refine RunL.op (OpS.pick rfl rfl rfl rfl ?_)
    refine RunL.op (OpS.mv rfl rfl rfl ?_)
    refine RunL.op (OpS.pass rfl rfl rfl ?_)
    refine RunL.op (OpS.pass rfl rfl rfl ?_)
    refine RunL.op (OpS.pass rfl rfl rfl ?_)
    refine RunL.op (OpS.pass rfl rfl rfl ?_)
    refine RunL.op (OpS.pick rfl rfl rfl rfl ?_)
    refine RunL.op (OpS.as rfl rfl rfl ?_)
    refine RunL.nil ?_
    refine Run.slim [(0, .bool false)] ⟨rfl, trivial⟩ ?_
    refine Run.retP rfl (.tmp rfl .nil) ?_
    cases hF
    exact Post.mk' ⟨rfl, rfl, rfl, rfl⟩ (h5.picks .nil) .nil
theorem made_Roll_ok {fuel : Nat} {a0 : List Int} {y : made_Dice} (hF : made_Roll fuel a0 = some y) {w : World} {v0 : Value} :
    Spec Try.prog 11 [v0].toArray w [(false, .val (Rep.slice (Rep.int .i64)) v0 a0)] [] (fun v Γr Ωr Ωo => ∃ u0 : Value, v = u0 ∧ Γr = [] ∧ Ωr = [(false, .box 54 made_Dice.rep u0 y)] ∧ Ωo = []) := by
  refine Spec.of (L := [(0, v0)]) Try.func11 rfl ⟨rfl, trivial⟩ rfl (fun e h => ?_)
  unfold made_Roll at hF
  refine Run.seq ?_
  refine Run.reg ?_
  refine RunL.op (OpS.as rfl rfl rfl ?_)
  refine RunL.nil ?_
  refine Run.slim [(0, v0)] ⟨rfl, trivial⟩ ?_
  refine Run.seq ?_
  refine Run.reg ?_
  refine RunL.op (OpS.mv rfl rfl rfl ?_)
  refine RunL.op (OpS.build (f := false) (x' := (⟨a0, 0⟩ : made_Dice)) h pl54 ti54 made_Dice.zr rfl rfl rfl (.cons rfl made_Dice.f0 rfl (V.at .z) .nil) (fun u1 h1 => ?_))
  refine RunL.op (OpS.boxF h1 rfl rfl rfl (V.at .z) (fun u2 w1 h2 => ?_))
  refine RunL.op (OpS.as rfl rfl rfl ?_)
  refine RunL.nil ?_
  refine Run.slim [(2, u2)] ⟨rfl, trivial⟩ ?_
  refine Run.retP rfl (.tmp rfl .nil) ?_
  cases hF
  exact Post.mk' ⟨u2, rfl, rfl, rfl, rfl⟩ (h2.picks (.cons .z .nil)) .nil
theorem made_Mod_ok {fuel : Nat} {a0 : Int} {a1 : Int} {y : Int} (hF : made_Mod fuel a0 a1 = some y) {w : World} :
    Spec Try.prog 26 [.int .i64 a0, .int .i64 a1].toArray w [] [] (fun v Γr Ωr Ωo => v = .int .i64 y ∧ Γr = [] ∧ Ωr = [] ∧ Ωo = []) := by
  refine Spec.of (L := [(0, .int .i64 a0), (1, .int .i64 a1)]) Try.func26 rfl ⟨rfl, rfl, trivial⟩ rfl (fun e h => ?_)
  unfold made_Mod at hF
  refine Run.seq ?_
  refine Run.reg ?_
  refine RunL.op (OpS.as rfl rfl rfl ?_)
  refine RunL.nil ?_
  refine Run.slim [(0, .int .i64 a0), (1, .int .i64 a1)] ⟨rfl, rfl, trivial⟩ ?_
  refine Run.seq ?_
  refine Run.reg ?_
  refine RunL.op (OpS.mv rfl rfl rfl ?_)
  refine RunL.op (OpS.mv rfl rfl rfl ?_)
  obtain ⟨e1, hF⟩ := chk_use hF
  refine RunL.op (OpS.rem rfl rfl rfl rfl e1 ?_)
  refine RunL.op (OpS.as rfl rfl rfl ?_)
  refine RunL.nil ?_
  refine Run.slim [(0, .int .i64 (Int.tmod a0 a1)), (1, .int .i64 a1)] ⟨rfl, rfl, trivial⟩ ?_
  refine Run.seq ?_
  refine Run.seq ?_
  refine Run.reg ?_
  refine RunL.op (OpS.mv rfl rfl rfl ?_)
  refine RunL.op (OpS.bin rfl rfl rfl rfl rfl ?_)
  refine RunL.nil ?_
  refine Run.slim [(9, .bool (decide ((Int.tmod a0 a1) < 0))), (0, .int .i64 (Int.tmod a0 a1)), (1, .int .i64 a1)] ⟨rfl, rfl, rfl, trivial⟩ ?_
  refine Run.ite rfl hF (fun e2 hF => ?_) (fun e2 hF => ?_)
  ·
    refine Run.reg ?_
    refine RunL.op (OpS.mv rfl rfl rfl ?_)
    refine RunL.op (OpS.mv rfl rfl rfl ?_)
    refine RunL.op (OpS.bin rfl rfl rfl rfl rfl ?_)
    refine RunL.op (OpS.as rfl rfl rfl ?_)
    obtain ⟨x1, e3, hF⟩ := letP_use hF
    refine RunL.name e3 ?_
    refine RunL.nil ?_
    refine Run.slim [(0, .int .i64 x1)] ⟨rfl, trivial⟩ ?_
    refine Run.seq ?_
    refine Run.reg ?_
    refine RunL.op (OpS.mv rfl rfl rfl ?_)
    refine RunL.op (OpS.as rfl rfl rfl ?_)
    refine RunL.nil ?_
    refine Run.slim [(4, .int .i64 x1)] ⟨rfl, trivial⟩ ?_
    refine Run.retP rfl (.tmp rfl .nil) ?_
    cases hF
    exact Post.mk' ⟨rfl, rfl, rfl, rfl⟩ (h.picks .nil) .nil
  ·
    refine Run.skip ?_
    refine Run.seq ?_
    refine Run.reg ?_
    refine RunL.op (OpS.mv rfl rfl rfl ?_)
    refine RunL.op (OpS.as rfl rfl rfl ?_)
    refine RunL.nil ?_
    refine Run.slim [(4, .int .i64 (Int.tmod a0 a1))] ⟨rfl, trivial⟩ ?_
    refine Run.retP rfl (.tmp rfl .nil) ?_
    cases hF
    exact Post.mk' ⟨rfl, rfl, rfl, rfl⟩ (h.picks .nil) .nil
theorem made_Dice_Next_ok {fuel : Nat} {a0 : made_Dice} {a1 : Int} {y : Int × made_Dice} (hF : made_Dice_Next fuel a0 a1 = some y) {w : World} {v0 : Value} :
    Spec Try.prog 22 [v0, .int .i64 a1].toArray w [] [(false, .box 54 made_Dice.rep v0 a0)] (fun v Γr Ωr Ωo => v = .int .i64 y.1 ∧ Γr = [] ∧ Ωr = [] ∧ Ωo = [(false, .box 54 made_Dice.rep v0 y.2)]) := by
  refine Spec.of (L := [(0, v0), (1, .int .i64 a1)]) Try.func22 rfl ⟨rfl, rfl, trivial⟩ rfl (fun e h => ?_)
  unfold made_Dice_Next at hF
  refine Run.seq ?_
  refine Run.reg ?_
  refine RunL.op (OpS.as rfl rfl rfl ?_)
  refine RunL.nil ?_
  refine Run.slim [(0, v0), (1, .int .i64 a1)] ⟨rfl, rfl, trivial⟩ ?_
  refine Run.seq ?_
  refine Run.seq ?_
  refine Run.drawV (Ωs := [(false, .box 54 made_Dice.rep v0 a0)]) [⟨5, some (v0), fun _ => [], fun _ => [], false⟩, ⟨6, some (v0), fun _ => [], fun _ => [], false⟩, ⟨7, some ((padd v0 1)), fun _ => [], fun _ => [], false⟩, ⟨8, some (.int .i64 a0.At), fun _ => [], fun _ => [], false⟩, ⟨9, some (v0), fun _ => [], fun _ => [], false⟩, ⟨10, some (v0), fun _ => [], fun _ => [], false⟩, ⟨11, some ((padd v0 0)), fun _ => [], fun _ => [], false⟩, ⟨12, none, fun u_ => [(false, .val (Rep.slice (Rep.int .i64)) u_ a0.L)], fun u_ => [], false⟩, ⟨13, some (.int .i64 (a0.L.length : Int)), fun _ => [], fun _ => [], false⟩, ⟨14, some (.bool (decide (a0.At ≥ (a0.L.length : Int)))), fun _ => [], fun _ => [], false⟩] [[], [0], [1], [2], [], [4], [5], [6], [7], [3, 8]] Try_mixed rfl rfl h (.cons ?_ (.cons ?_ (.cons ?_ (.cons ?_ (.cons ?_ (.cons ?_ (.cons ?_ (.cons ?_ (.cons ?_ (.cons ?_ .nil)))))))))) (fun q1 w h => ?_)
  · intro q1 w Γx Ωx h
    refine OpS.mv rfl rfl rfl ?_
    exact ⟨undef, rfl, h⟩
  · intro q1 w Γx Ωx h
    refine OpS.nchk h .z rfl rfl rfl ?_
    exact ⟨undef, rfl, h⟩
  · intro q1 w Γx Ωx h
    refine OpS.fbox (o3 := 1) h .z PA.z fa54_1 rfl rfl rfl rfl ?_
    exact ⟨undef, rfl, h⟩
  · intro q1 w Γx Ωx h
    refine OpS.loadBi h .z PA.a (Get.fld made_Dice.f1) ty3 rfl rfl rfl ?_
    exact ⟨undef, rfl, h⟩
  · intro q1 w Γx Ωx h
    refine OpS.mv rfl rfl rfl ?_
    exact ⟨undef, rfl, h⟩
  · intro q1 w Γx Ωx h
    refine OpS.nchk h .z rfl rfl rfl ?_
    exact ⟨undef, rfl, h⟩
  · intro q1 w Γx Ωx h
    refine OpS.fbox (o3 := 0) h .z PA.z fa54_0 rfl rfl rfl rfl ?_
    exact ⟨undef, rfl, h⟩
  · intro q1 w Γx Ωx h
    refine OpS.loadB h .z PA.a (Get.fld made_Dice.f0) ty23 rfl rfl rfl (fun u h2 => ?_)
    exact ⟨u, rfl, h2⟩
  · intro q1 w Γx Ωx h
    refine OpS.len h Try.underlying23 rfl rfl rfl (V.at .z) ?_
    exact ⟨undef, rfl, h⟩
  · intro q1 w Γx Ωx h
    refine OpS.bin rfl rfl rfl rfl rfl ?_
    exact ⟨undef, rfl, h⟩
  have h3 : St e w [(false, .val (Rep.slice (Rep.int .i64)) (q1 7) a0.L)] [(false, .box 54 made_Dice.rep v0 a0)] := h
  refine RunL.nil ?_
  refine Run.slim [(14, .bool (decide (a0.At ≥ (a0.L.length : Int)))), (0, v0), (1, .int .i64 a1)] ⟨rfl, rfl, rfl, trivial⟩ ?_
  refine Run.ite rfl hF (fun e1 hF => ?_) (fun e1 hF => ?_)
  ·
    refine Run.seq ?_
    refine Run.reg ?_
    refine RunL.op (OpS.as rfl rfl rfl ?_)
    refine RunL.nil ?_
    refine Run.slim [(4, .int .i64 0)] ⟨rfl, trivial⟩ ?_
    refine Run.retP rfl (.tmp rfl .nil) ?_
    cases hF
    exact Post.mk' ⟨rfl, rfl, rfl, rfl⟩ (h3.picks (.cons .z .nil)) .nil
  ·
    refine Run.skip ?_
    refine Run.seq ?_
    refine Run.reg ?_
    refine RunL.op (OpS.mv rfl rfl rfl ?_)
    refine RunL.op (OpS.nchk h3 .z rfl rfl rfl ?_)
    refine RunL.op (OpS.fbox (o3 := 1) h3 .z PA.z fa54_1 rfl rfl rfl rfl ?_)
    refine RunL.op (OpS.loadBi h3 .z PA.a (Get.fld made_Dice.f1) ty3 rfl rfl rfl ?_)
    refine RunL.op (OpS.bin rfl rfl rfl rfl rfl ?_)
    refine RunL.op (OpS.nchk h3 .z rfl rfl rfl ?_)
    refine RunL.op (OpS.fbox (o3 := 1) h3 .z PA.z fa54_1 rfl rfl rfl rfl ?_)
    obtain ⟨d1, e2, hF⟩ := letP_use hF
    refine RunL.op (OpS.storeB (f' := true) h3 .z PA.a (Put.of (Put.fld made_Dice.f1) e2) ty3 rfl rfl rfl V.int (.inr rfl) (fun w1 h4 => ?_))
    refine RunL.nil ?_
    refine Run.slim [(0, v0), (1, .int .i64 a1)] ⟨rfl, rfl, trivial⟩ ?_
    refine Run.seq ?_
    obtain ⟨x1, e3, hF⟩ := bindP_use hF
    obtain ⟨y1, e4, hF⟩ := bindP_use hF
    refine Run.drawV (Ωs := [(false, .box 54 made_Dice.rep v0 d1)]) [⟨22, some (v0), fun _ => [], fun _ => [], false⟩, ⟨23, some (v0), fun _ => [], fun _ => [], false⟩, ⟨24, some ((padd v0 0)), fun _ => [], fun _ => [], false⟩, ⟨25, none, fun u_ => [(false, .val (Rep.slice (Rep.int .i64)) u_ d1.L)], fun u_ => [], false⟩, ⟨26, some (v0), fun _ => [], fun _ => [], false⟩, ⟨27, some (v0), fun _ => [], fun _ => [], false⟩, ⟨28, some ((padd v0 1)), fun _ => [], fun _ => [], false⟩, ⟨29, some (.int .i64 d1.At), fun _ => [], fun _ => [], false⟩, ⟨30, some (.int .i64 (IntKind.i64.wrap (d1.At - 1))), fun _ => [], fun _ => [], false⟩, ⟨31, none, fun u_ => [(false, .ptr (Rep.int .i64) u_ x1)], fun u_ => [], false⟩, ⟨32, some (.int .i64 x1), fun _ => [], fun _ => [], false⟩, ⟨33, some (.int .i64 a1), fun _ => [], fun _ => [], false⟩, ⟨34, some (.int .i64 y1), fun _ => [], fun _ => [], false⟩] [[], [0], [1], [2], [], [4], [5], [6], [7], [3, 8], [9], [], [10, 11]] Try_mixed rfl rfl h4 (.cons ?_ (.cons ?_ (.cons ?_ (.cons ?_ (.cons ?_ (.cons ?_ (.cons ?_ (.cons ?_ (.cons ?_ (.cons ?_ (.cons ?_ (.cons ?_ (.cons ?_ .nil))))))))))))) (fun q2 w h => ?_)
    · intro q2 w Γx Ωx h
      refine OpS.mv rfl rfl rfl ?_
      exact ⟨undef, rfl, h⟩
    · intro q2 w Γx Ωx h
      refine OpS.nchk h .z rfl rfl rfl ?_
      exact ⟨undef, rfl, h⟩
    · intro q2 w Γx Ωx h
      refine OpS.fbox (o3 := 0) h .z PA.z fa54_0 rfl rfl rfl rfl ?_
      exact ⟨undef, rfl, h⟩
    · intro q2 w Γx Ωx h
      refine OpS.loadB h .z PA.a (Get.fld made_Dice.f0) ty23 rfl rfl rfl (fun u h9 => ?_)
      exact ⟨u, rfl, h9⟩
    · intro q2 w Γx Ωx h
      refine OpS.mv rfl rfl rfl ?_
      exact ⟨undef, rfl, h⟩
    · intro q2 w Γx Ωx h
      refine OpS.nchk h .z rfl rfl rfl ?_
      exact ⟨undef, rfl, h⟩
    · intro q2 w Γx Ωx h
      refine OpS.fbox (o3 := 1) h .z PA.z fa54_1 rfl rfl rfl rfl ?_
      exact ⟨undef, rfl, h⟩
    · intro q2 w Γx Ωx h
      refine OpS.loadBi h .z PA.a (Get.fld made_Dice.f1) ty3 rfl rfl rfl ?_
      exact ⟨undef, rfl, h⟩
    · intro q2 w Γx Ωx h
      refine OpS.bin rfl rfl rfl rfl rfl ?_
      exact ⟨undef, rfl, h⟩
    · intro q2 w Γx Ωx h
      refine OpS.iptr h Try.underlying23 ty3 rfl rfl rfl rfl (V.at .z) e3 (fun u h10 => ?_)
      exact ⟨u, rfl, h10⟩
    · intro q2 w Γx Ωx h
      refine OpS.loadi h ty3 rfl rfl rfl .z ?_
      exact ⟨undef, rfl, h⟩
    · intro q2 w Γx Ωx h
      refine OpS.mv rfl rfl rfl ?_
      exact ⟨undef, rfl, h⟩
    · intro q2 w Γx Ωx h
      refine OpS.callP h Try.func26 rfl rfl rfl rfl (vs := [.int .i64 x1, .int .i64 a1]) rfl (made_Mod_ok e4) .nil ?_
      rintro _ w3 _ _ _ ⟨rfl, rfl, rfl, rfl⟩ h11
      have h12 := h11 rfl rfl
      simp only [List.cons_append, List.nil_append] at h12
      exact ⟨undef, rfl, h12⟩
    have h13 : St e w [(false, .val (Rep.slice (Rep.int .i64)) (q2 3) d1.L), (false, .ptr (Rep.int .i64) (q2 9) x1), (false, .val (Rep.slice (Rep.int .i64)) (q1 7) a0.L)] [(false, .box 54 made_Dice.rep v0 d1)] := h
    refine RunL.op (OpS.as rfl rfl rfl ?_)
    refine RunL.nil ?_
    refine Run.slim [(4, .int .i64 y1)] ⟨rfl, trivial⟩ ?_
    refine Run.retP rfl (.tmp rfl .nil) ?_
    cases hF
    exact Post.mk' ⟨rfl, rfl, rfl, rfl⟩ (h13.picks (.cons .z .nil)) .nil
theorem made_Dice_Bool_ok {fuel : Nat} {a0 : made_Dice} {a1 : Int} {y : Bool × made_Dice} (hF : made_Dice_Bool fuel a0 a1 = some y) {w : World} {v0 : Value} :
    Spec Try.prog 27 [v0, .int .i64 a1].toArray w [] [(false, .box 54 made_Dice.rep v0 a0)] (fun v Γr Ωr Ωo => v = .bool y.1 ∧ Γr = [] ∧ Ωr = [] ∧ Ωo = [(false, .box 54 made_Dice.rep v0 y.2)]) := by
  refine Spec.of (L := [(0, v0), (1, .int .i64 a1)]) Try.func27 rfl ⟨rfl, rfl, trivial⟩ rfl (fun e h => ?_)
  unfold made_Dice_Bool at hF
  refine Run.seq ?_
  refine Run.reg ?_
  refine RunL.op (OpS.as rfl rfl rfl ?_)
  refine RunL.nil ?_
  refine Run.slim [(0, v0), (1, .int .i64 a1)] ⟨rfl, rfl, trivial⟩ ?_
  refine Run.seq ?_
  refine Run.reg ?_
  refine RunL.op (OpS.mv rfl rfl rfl ?_)
  refine RunL.op (OpS.mv rfl rfl rfl ?_)
  obtain ⟨y1, e1, hF⟩ := bindP_use hF
  have h1 := h.front (.cons .z .nil)
  refine RunL.op (OpS.callO h1 Try.func22 rfl rfl rfl rfl (vs := [v0, .int .i64 a1]) rfl (made_Dice_Next_ok e1) rfl .nil ?_)
  rintro _ w1 _ _ _ ⟨rfl, rfl, rfl, rfl⟩ h2
  have h3 := h2
  simp only [List.cons_append, List.nil_append] at h3
  refine RunL.op (OpS.mv rfl rfl rfl ?_)
  refine RunL.op (OpS.bin rfl rfl rfl rfl rfl ?_)
  refine RunL.op (OpS.bin rfl rfl rfl rfl rfl ?_)
  refine RunL.op (OpS.as rfl rfl rfl ?_)
  obtain ⟨x1, e2, hF⟩ := letP_use hF
  refine RunL.nameb e2 ?_
  refine RunL.nil ?_
  refine Run.slim [(4, .bool x1)] ⟨rfl, trivial⟩ ?_
  refine Run.retP rfl (.tmp rfl .nil) ?_
  cases hF
  exact Post.mk' ⟨rfl, rfl, rfl, rfl⟩ (h3.picks (.cons .z .nil)) .nil
theorem made_Dice_Byte_ok {fuel : Nat} {a0 : made_Dice} {y : Int × made_Dice} (hF : made_Dice_Byte fuel a0 = some y) {w : World} {v0 : Value} :
    Spec Try.prog 17 [v0].toArray w [] [(false, .box 54 made_Dice.rep v0 a0)] (fun v Γr Ωr Ωo => v = .int .u8 y.1 ∧ Γr = [] ∧ Ωr = [] ∧ Ωo = [(false, .box 54 made_Dice.rep v0 y.2)]) := by
  refine Spec.of (L := [(0, v0)]) Try.func17 rfl ⟨rfl, trivial⟩ rfl (fun e h => ?_)
  unfold made_Dice_Byte at hF
  refine Run.seq ?_
  refine Run.reg ?_
  refine RunL.op (OpS.as rfl rfl rfl ?_)
  refine RunL.nil ?_
  refine Run.slim [(0, v0)] ⟨rfl, trivial⟩ ?_
  refine Run.seq ?_
  refine Run.reg ?_
  refine RunL.op (OpS.buildA (f := true) (r := (Rep.int .u8)) h Try.underlying56 ti5 rfl ti56 rfl rfl rfl (.cons rfl V.int (.cons rfl V.int (.cons rfl V.int (.cons rfl V.int (.cons rfl V.int (.cons rfl V.int (.cons rfl V.int (.cons rfl V.int .nil)))))))) rfl (fun u1 h1 => ?_))
  refine RunL.op (OpS.alloc h1 ti56 (Zr.of (Zr.arr (Zr.int .u8 0) 8) rfl) rfl rfl (fun u2 w1 h2 => ?_))
  obtain ⟨d1, e1, hF⟩ := letP_use hF
  refine RunL.op (OpS.storeB (f' := true) h2 .z PA.z (Put.of Put.id e1) ty56 rfl rfl rfl (V.at .z) (.inl rfl) (fun w2 h3 => ?_))
  refine RunL.nil ?_
  refine Run.slim [(3, u2), (0, v0)] ⟨rfl, rfl, trivial⟩ ?_
  refine Run.seq ?_
  refine Run.seq ?_
  refine Run.reg ?_
  refine RunL.op (OpS.mv rfl rfl rfl ?_)
  obtain ⟨y1, e2, hF⟩ := bindP_use hF
  have h4 := h3.front (.cons (.s .z) .nil)
  refine RunL.op (OpS.callO h4 Try.func27 rfl rfl rfl rfl (vs := [v0, .int .i64 3]) rfl (made_Dice_Bool_ok e2) rfl .nil ?_)
  rintro _ w3 _ _ _ ⟨rfl, rfl, rfl, rfl⟩ h5
  have h6 := h5
  simp only [List.cons_append, List.nil_append] at h6
  refine RunL.nil ?_
  refine Run.slim [(6, .bool y1.1), (3, u2), (0, v0)] ⟨rfl, rfl, rfl, trivial⟩ ?_
  refine Run.ite rfl hF (fun e3 hF => ?_) (fun e3 hF => ?_)
  ·
    refine Run.seq ?_
    refine Run.reg ?_
    refine RunL.op (OpS.mv rfl rfl rfl ?_)
    obtain ⟨y2, e4, hF⟩ := bindP_use hF
    have h7 := h6.front (.cons .z .nil)
    refine RunL.op (OpS.callO h7 Try.func22 rfl rfl rfl rfl (vs := [v0, .int .i64 8]) rfl (made_Dice_Next_ok e4) rfl .nil ?_)
    rintro _ w4 _ _ _ ⟨rfl, rfl, rfl, rfl⟩ h8
    have h9 := h8
    simp only [List.cons_append, List.nil_append] at h9
    obtain ⟨x1, e5, hF⟩ := bindP_use hF
    obtain ⟨e6, hF⟩ := chk_use hF
    refine RunL.op (OpS.ibox h9 (.s .z) PA.z Try.underlying56 ty5 (Nat.eq_of_beq_eq_true e6) rfl rfl rfl rfl e5 ?_)
    refine RunL.op (OpS.loadBi h9 (.s .z) PA.a (Get.comp Get.id (Get.arr e5)) ty5 rfl rfl rfl ?_)
    refine RunL.op (OpS.as rfl rfl rfl ?_)
    refine RunL.nil ?_
    refine Run.slim [(2, .int .u8 x1)] ⟨rfl, trivial⟩ ?_
    refine Run.retP rfl (.tmp rfl .nil) ?_
    cases hF
    exact Post.mk' ⟨rfl, rfl, rfl, rfl⟩ (h9.picks (.cons .z .nil)) .nil
  ·
    refine Run.skip ?_
    refine Run.seq ?_
    refine Run.reg ?_
    refine RunL.op (OpS.mv rfl rfl rfl ?_)
    obtain ⟨y3, e7, hF⟩ := bindP_use hF
    have h10 := h6.front (.cons .z .nil)
    refine RunL.op (OpS.callO h10 Try.func22 rfl rfl rfl rfl (vs := [v0, .int .i64 256]) rfl (made_Dice_Next_ok e7) rfl .nil ?_)
    rintro _ w5 _ _ _ ⟨rfl, rfl, rfl, rfl⟩ h11
    have h12 := h11
    simp only [List.cons_append, List.nil_append] at h12
    refine RunL.op (OpS.conv Try.underlying3 Try.underlying5 rfl rfl rfl ?_)
    refine RunL.op (OpS.as rfl rfl rfl ?_)
    refine RunL.nil ?_
    refine Run.slim [(2, .int .u8 (IntKind.u8.wrap y3.1))] ⟨rfl, trivial⟩ ?_
    refine Run.retP rfl (.tmp rfl .nil) ?_
    cases hF
    exact Post.mk' ⟨rfl, rfl, rfl, rfl⟩ (h12.picks (.cons .z .nil)) .nil
theorem made_Dice_Bytes_ok {fuel : Nat} {a0 : made_Dice} {a1 : Int} {y : (List Int) × made_Dice} (hF : made_Dice_Bytes fuel a0 a1 = some y) {w : World} {v0 : Value} :
    Spec Try.prog 18 [v0, .int .i64 a1].toArray w [] [(false, .box 54 made_Dice.rep v0 a0)] (fun v Γr Ωr Ωo => ∃ u0 : Value, v = u0 ∧ Γr = [] ∧ Ωr = [(true, .slice 5 (Rep.int .u8) u0 y.1)] ∧ Ωo = [(false, .box 54 made_Dice.rep v0 y.2)]) := by
  refine Spec.of (L := [(0, v0), (1, .int .i64 a1)]) Try.func18 rfl ⟨rfl, rfl, trivial⟩ rfl (fun e h => ?_)
  unfold made_Dice_Bytes at hF
  refine Run.seq ?_
  refine Run.reg ?_
  refine RunL.op (OpS.as rfl rfl rfl ?_)
  refine RunL.nil ?_
  refine Run.slim [(0, v0), (1, .int .i64 a1)] ⟨rfl, rfl, trivial⟩ ?_
  refine Run.seq ?_
  refine Run.reg ?_
  refine RunL.op (OpS.as rfl rfl rfl ?_)
  refine RunL.nil ?_
  refine Run.seq ?_
  refine Run.seq ?_
  refine Run.reg ?_
  refine RunL.op (OpS.mv rfl rfl rfl ?_)
  refine RunL.op (OpS.mv rfl rfl rfl ?_)
  refine RunL.op (OpS.bin rfl rfl rfl rfl rfl ?_)
  obtain ⟨y1, e1, hF⟩ := bindP_use hF
  have h1 := h.front (.cons .z .nil)
  refine RunL.op (OpS.callO h1 Try.func22 rfl rfl rfl rfl (vs := [v0, .int .i64 (IntKind.i64.wrap (a1 + 1))]) rfl (made_Dice_Next_ok e1) rfl .nil ?_)
  rintro _ w1 _ _ _ ⟨rfl, rfl, rfl, rfl⟩ h2
  have h3 := h2
  simp only [List.cons_append, List.nil_append] at h3
  refine RunL.op (OpS.as rfl rfl rfl ?_)
  refine RunL.nil ?_
  refine Run.slim [(6, .int .i64 y1.1), (5, .slice none 0 0), (0, v0)] ⟨rfl, rfl, rfl, trivial⟩ ?_
  refine Run.block ?_
  have h4 := St.nil 5 (Rep.int .u8) h3
  refine Run.slim [(0, v0), (5, (.slice none 0 0)), (6, .int .i64 y1.1)] ⟨rfl, rfl, rfl, trivial⟩ ?_
  refine Run.loopP (σ := (Int × made_Dice × (List Int))) (fun s_ L_ w_ => ∃ u0_ : Value, L_ = [(0, v0), (5, u0_), (6, .int .i64 s_.1)] ∧ St e w_ [] [(false, .box 54 made_Dice.rep v0 s_.2.1), (true, .slice 5 (Rep.int .u8) u0_ s_.2.2)]) hF ⟨(.slice none 0 0), rfl, (h4.facts .nil).picks (.cons (.s .z) (.cons .z .nil))⟩ (fun k1 hk1 s1 _ w2 hI hF => ?_)
  obtain ⟨u1, rfl, h5⟩ := hI
  refine Run.seq ?_
  refine Run.seq ?_
  refine Run.reg ?_
  refine RunL.op (OpS.mv rfl rfl rfl ?_)
  refine RunL.op (OpS.bin rfl rfl rfl rfl rfl ?_)
  refine RunL.nil ?_
  refine Run.slim [(12, .bool (decide (s1.1 > 0))), (0, v0), (5, u1), (6, .int .i64 s1.1)] ⟨rfl, rfl, rfl, rfl, trivial⟩ ?_
  refine Run.ite rfl hF (fun e2 hF => ?_) (fun e2 hF => ?_)
  ·
    refine Run.skip ?_
    refine Run.seq ?_
    refine Run.block ?_
    refine Run.reg ?_
    refine RunL.op (OpS.mv rfl rfl rfl ?_)
    refine RunL.op (OpS.mv rfl rfl rfl ?_)
    obtain ⟨y2, e3, hF⟩ := bindP_use hF
    have h6 := h5.front (.cons .z .nil)
    refine RunL.op (OpS.callO h6 Try.func17 rfl rfl rfl rfl (vs := [v0]) rfl (made_Dice_Byte_ok e3) rfl .nil ?_)
    rintro _ w3 _ _ _ ⟨rfl, rfl, rfl, rfl⟩ h7
    have h8 := h7
    simp only [List.cons_append, List.nil_append] at h8
    refine RunL.op (OpS.lit (r := (Rep.int .u8)) (f := true) h8 Try.underlying22 ti5 rfl rfl rfl rfl rfl (.cons rfl V.int .nil) rfl rfl (fun u2 w4 h9 => ?_))
    obtain ⟨x1, e4, hF⟩ := bindP_use hF
    refine RunL.op (OpS.app (f' := true) h9 (.s .z) Try.underlying22 ti5 rfl rfl rfl rfl rfl rfl rfl (V.at .z) (.inr Pure.int) e4 (fun u3 w5 h10 => ?_))
    refine RunL.op (OpS.as rfl rfl rfl ?_)
    refine RunL.nil ?_
    refine Run.slim [(5, u3), (0, v0), (6, .int .i64 s1.1)] ⟨rfl, rfl, rfl, trivial⟩ ?_
    refine Run.endBlock ?_
    refine Run.reg ?_
    refine RunL.op (OpS.mv rfl rfl rfl ?_)
    refine RunL.op (OpS.bin rfl rfl rfl rfl rfl ?_)
    refine RunL.op (OpS.as rfl rfl rfl ?_)
    obtain ⟨x2, e5, hF⟩ := letP_use hF
    refine RunL.name e5 ?_
    refine RunL.nil ?_
    refine Run.slim [(6, .int .i64 x2), (5, u3), (0, v0)] ⟨rfl, rfl, rfl, trivial⟩ ?_
    refine Run.slim [(0, v0), (5, u3), (6, .int .i64 x2)] ⟨rfl, rfl, rfl, trivial⟩ ?_
    exact hk1 (x2, y2.2, x1) _ _ ⟨u3, rfl, (h10.facts .nil).picks (.cons (.s .z) (.cons .z .nil))⟩ hF
  ·
    refine Run.exit rfl ?_
    refine Run.seq ?_
    refine Run.reg ?_
    refine RunL.op (OpS.mv rfl rfl rfl ?_)
    refine RunL.op (OpS.as rfl rfl rfl ?_)
    refine RunL.nil ?_
    refine Run.slim [(4, u1)] ⟨rfl, trivial⟩ ?_
    refine Run.retP rfl (.tmp rfl .nil) ?_
    cases hF
    exact Post.mk' ⟨u1, rfl, rfl, rfl, rfl⟩ (h5.picks (.cons (.s .z) (.cons .z .nil))) .nil
theorem made_Dice_Frame_ok {fuel : Nat} {a0 : made_Dice} {y : Frame_ × made_Dice} (hF : made_Dice_Frame fuel a0 = some y) {w : World} {v0 : Value} :
    Spec Try.prog 12 [v0].toArray w [] [(false, .box 54 made_Dice.rep v0 a0)] (fun v Γr Ωr Ωo => ∃ u0 : Value, v = u0 ∧ Γr = [(true, .val Frame_.rep u0 y.1)] ∧ Ωr = [] ∧ Ωo = [(false, .box 54 made_Dice.rep v0 y.2)]) := by
  refine Spec.of (L := [(0, v0)]) Try.func12 rfl ⟨rfl, trivial⟩ rfl (fun e h => ?_)
  unfold made_Dice_Frame at hF
  refine Run.seq ?_
  refine Run.reg ?_
  refine RunL.op (OpS.alloc h ti30 Frame_.zr rfl rfl (fun u1 w1 h1 => ?_))
  refine RunL.nil ?_
  refine Run.seq ?_
  refine Run.reg ?_
  refine RunL.op (OpS.mv rfl rfl rfl ?_)
  obtain ⟨y1, e1, hF⟩ := bindP_use hF
  have h2 := h1.front (.cons (.s .z) .nil)
  refine RunL.op (OpS.callO h2 Try.func22 rfl rfl rfl rfl (vs := [v0, .int .i64 4]) rfl (made_Dice_Next_ok e1) rfl .nil ?_)
  rintro _ w2 _ _ _ ⟨rfl, rfl, rfl, rfl⟩ h3
  have h4 := h3
  simp only [List.cons_append, List.nil_append] at h4
  refine RunL.op (OpS.bin rfl rfl rfl rfl rfl ?_)
  refine RunL.op (OpS.conv Try.underlying3 Try.underlying5 rfl rfl rfl ?_)
  refine RunL.op (OpS.mv rfl rfl rfl ?_)
  obtain ⟨y2, e2, hF⟩ := bindP_use hF
  have h5 := h4.front (.cons .z .nil)
  refine RunL.op (OpS.callO h5 Try.func22 rfl rfl rfl rfl (vs := [v0, .int .i64 3]) rfl (made_Dice_Next_ok e2) rfl .nil ?_)
  rintro _ w3 _ _ _ ⟨rfl, rfl, rfl, rfl⟩ h6
  have h7 := h6
  simp only [List.cons_append, List.nil_append] at h7
  refine RunL.op (OpS.bin rfl rfl rfl rfl rfl ?_)
  refine RunL.op (OpS.conv Try.underlying3 Try.underlying5 rfl rfl rfl ?_)
  refine RunL.op (OpS.mv rfl rfl rfl ?_)
  obtain ⟨y3, e3, hF⟩ := bindP_use hF
  have h8 := h7.front (.cons .z .nil)
  refine RunL.op (OpS.callO h8 Try.func18 rfl rfl rfl rfl (vs := [v0, .int .i64 6]) rfl (made_Dice_Bytes_ok e3) rfl .nil ?_)
  rintro u2 w4 _ _ _ ⟨_, rfl, rfl, rfl, rfl⟩ h9
  have h10 := h9
  simp only [List.cons_append, List.nil_append] at h10
  have h11 := (h10.pick .z).freeze
  refine RunL.op (OpS.build (f := true) (x' := (⟨(IntKind.u8.wrap (IntKind.i64.wrap (8 + y1.1))), (IntKind.u8.wrap (IntKind.i64.wrap (32 + y2.1))), y3.1⟩ : Frame_)) h11 pl30 ti30 Frame_.zr rfl rfl rfl (.cons rfl Frame_.f0 rfl V.int (.cons rfl Frame_.f1 rfl V.int (.cons rfl Frame_.f2 rfl (V.at .z) .nil))) (fun u3 h12 => ?_))
  refine RunL.op (OpS.alloc h12 ti30 Frame_.zr rfl rfl (fun u4 w5 h13 => ?_))
  refine RunL.op (OpS.storeB (f' := true) h13 .z PA.z Put.id ty30 rfl rfl rfl (V.at .z) (.inl rfl) (fun w6 h14 => ?_))
  refine RunL.nil ?_
  refine Run.slim [(3, u4), (2, u1), (0, v0)] ⟨rfl, rfl, rfl, trivial⟩ ?_
  refine Run.seq ?_
  refine Run.seq ?_
  refine Run.reg ?_
  refine RunL.op (OpS.mv rfl rfl rfl ?_)
  obtain ⟨y4, e4, hF⟩ := bindP_use hF
  have h15 := h14.front (.cons (.s .z) .nil)
  refine RunL.op (OpS.callO h15 Try.func27 rfl rfl rfl rfl (vs := [v0, .int .i64 30]) rfl (made_Dice_Bool_ok e4) rfl .nil ?_)
  rintro _ w7 _ _ _ ⟨rfl, rfl, rfl, rfl⟩ h16
  have h17 := h16
  simp only [List.cons_append, List.nil_append] at h17
  refine RunL.nil ?_
  refine Run.slim [(16, .bool y4.1), (3, u4), (2, u1)] ⟨rfl, rfl, rfl, trivial⟩ ?_
  refine Run.ite rfl hF (fun e5 hF => ?_) (fun e5 hF => ?_)
  ·
    refine Run.seq ?_
    refine Run.reg ?_
    obtain ⟨x1, e6, hF⟩ := bindP_use hF
    refine RunL.op (OpS.make h17 Try.underlying22 ti5 rfl rfl (Zr.int .u8 0) rfl rfl rfl rfl e6 (by simp) (mk_fits e6) rfl (fun u5 w8 h18 => ?_))
    refine RunL.op (OpS.fbox (o3 := 2) h18 (.s (.s .z)) PA.z fa30_2 rfl rfl rfl rfl ?_)
    have h19 := (h18.pick .z).freeze
    obtain ⟨d1, e7, hF⟩ := letP_use hF
    refine RunL.op (OpS.storeB (f' := true) h19 (.s .z) PA.a (Put.of (Put.fld Frame_.f2) e7) ty22 rfl rfl rfl (V.at .z) (.inl rfl) (fun w9 h20 => ?_))
    refine RunL.nil ?_
    refine Run.slim [(3, u4), (2, u1)] ⟨rfl, rfl, trivial⟩ ?_
    refine Run.reg ?_
    refine RunL.op (OpS.fbox (o3 := 0) h20 .z PA.z fa30_0 rfl rfl rfl rfl ?_)
    obtain ⟨d2, e8, hF⟩ := letP_use hF
    refine RunL.op (OpS.storeB (f' := true) h20 .z PA.a (Put.of (Put.fld Frame_.f0) e8) ty5 rfl rfl rfl V.int (.inl rfl) (fun w10 h21 => ?_))
    refine RunL.nil ?_
    refine Run.slim [(3, u4), (2, u1)] ⟨rfl, rfl, trivial⟩ ?_
    refine Run.seq ?_
    refine Run.reg ?_
    refine RunL.op (OpS.loadB h21 .z PA.z Get.id ty30 rfl rfl rfl (fun u6 h22 => ?_))
    refine RunL.op (OpS.storeB (f' := true) h22 (.s (.s .z)) PA.z Put.id ty30 rfl rfl rfl (V.at .z) (.inl rfl) (fun w11 h23 => ?_))
    refine RunL.nil ?_
    refine Run.slim [(2, u1)] ⟨rfl, trivial⟩ ?_
    obtain ⟨u7, hu1, h24⟩ := res_box h23 .z ty30
    refine Run.retP rfl (.cell rfl hu1 .nil) ?_
    cases hF
    exact Post.mk' ⟨u7, rfl, rfl, rfl, rfl⟩ (h24.picks (.cons (.s (.s .z)) .nil)) (.val (V.at .z) .nil)
  ·
    refine Run.skip ?_
    refine Run.seq ?_
    refine Run.reg ?_
    refine RunL.op (OpS.loadB h17 (.s .z) PA.z Get.id ty30 rfl rfl rfl (fun u8 h25 => ?_))
    refine RunL.op (OpS.storeB (f' := true) h25 (.s (.s .z)) PA.z Put.id ty30 rfl rfl rfl (V.at .z) (.inl rfl) (fun w12 h26 => ?_))
    refine RunL.nil ?_
    refine Run.slim [(2, u1)] ⟨rfl, trivial⟩ ?_
    obtain ⟨u9, hu2, h27⟩ := res_box h26 .z ty30
    refine Run.retP rfl (.cell rfl hu2 .nil) ?_
    cases hF
    exact Post.mk' ⟨u9, rfl, rfl, rfl, rfl⟩ (h27.picks (.cons (.s .z) .nil)) (.val (V.at .z) .nil)
theorem ref20_Same_ok {fuel : Nat} {a0 : Frame_} {a1 : Frame_} {y : Bool} (hF : ref20_Same fuel a0 a1 = some y) {w : World} {v0 v1 : Value} :
    Spec Try.prog 16 [v0, v1].toArray w [(false, .val Frame_.rep v0 a0), (false, .val Frame_.rep v1 a1)] [] (fun v Γr Ωr Ωo => v = .bool y ∧ Γr = [] ∧ Ωr = [] ∧ Ωo = []) := by
  refine Spec.of (L := [(0, v0), (1, v1)]) Try.func16 rfl ⟨rfl, rfl, trivial⟩ rfl (fun e h => ?_)
  unfold ref20_Same at hF
  refine Run.seq ?_
  refine Run.reg ?_
  refine RunL.op (OpS.boxF h rfl rfl rfl (V.at .z) (fun u1 w1 h1 => ?_))
  refine RunL.op (OpS.boxF h1 rfl rfl rfl (V.at (.s .z)) (fun u2 w2 h2 => ?_))
  refine RunL.op (OpS.as rfl rfl rfl ?_)
  refine RunL.nil ?_
  refine Run.slim [(3, u2), (2, u1)] ⟨rfl, rfl, trivial⟩ ?_
  refine Run.seq ?_
  refine Run.reg ?_
  refine RunL.op (OpS.fbox (o3 := 0) h2 (.s .z) PA.z fa30_0 rfl rfl rfl rfl ?_)
  refine RunL.op (OpS.loadBi h2 (.s .z) PA.a (Get.fld Frame_.f0) ty5 rfl rfl rfl ?_)
  refine RunL.op (OpS.fbox (o3 := 0) h2 .z PA.z fa30_0 rfl rfl rfl rfl ?_)
  refine RunL.op (OpS.loadBi h2 .z PA.a (Get.fld Frame_.f0) ty5 rfl rfl rfl ?_)
  refine RunL.op (OpS.bin rfl rfl rfl rfl rfl ?_)
  refine RunL.op (OpS.mv rfl rfl rfl ?_)
  refine RunL.caseb hF (fun e1 hF => ?_) (fun e1 hF => ?_)
  ·
    refine RunL.op (OpS.fbox (o3 := 1) h2 (.s .z) PA.z fa30_1 rfl rfl rfl rfl ?_)
    refine RunL.op (OpS.loadBi h2 (.s .z) PA.a (Get.fld Frame_.f1) ty5 rfl rfl rfl ?_)
    refine RunL.op (OpS.fbox (o3 := 1) h2 .z PA.z fa30_1 rfl rfl rfl rfl ?_)
    refine RunL.op (OpS.loadBi h2 .z PA.a (Get.fld Frame_.f1) ty5 rfl rfl rfl ?_)
    refine RunL.op (OpS.bin rfl rfl rfl rfl rfl ?_)
    refine RunL.op (OpS.pick rfl rfl rfl rfl ?_)
    refine RunL.op (OpS.mv rfl rfl rfl ?_)
    refine RunL.caseb hF (fun e2 hF => ?_) (fun e2 hF => ?_)
    ·
      refine RunL.op (OpS.fbox (o3 := 2) h2 (.s .z) PA.z fa30_2 rfl rfl rfl rfl ?_)
      refine RunL.op (OpS.loadB h2 (.s .z) PA.a (Get.fld Frame_.f2) ty22 rfl rfl rfl (fun u3 h3 => ?_))
      refine RunL.op (OpS.fbox (o3 := 2) h3 .z PA.z fa30_2 rfl rfl rfl rfl ?_)
      refine RunL.op (OpS.loadB h3 .z PA.a (Get.fld Frame_.f2) ty22 rfl rfl rfl (fun u4 h4 => ?_))
      obtain ⟨y1, e3, hF⟩ := bindP_use hF
      refine RunL.op (OpS.callP h4 Try.func21 rfl rfl rfl rfl (vs := [u3, u4]) rfl (ref01_Same_ok e3) (.cons (V.at (.s .z)) (.cons (V.at .z) .nil)) ?_)
      rintro _ w3 _ _ _ ⟨rfl, rfl, rfl, rfl⟩ h5
      have h6 := h5 rfl rfl
      simp only [List.cons_append, List.nil_append] at h6
      refine RunL.op (OpS.pick rfl rfl rfl rfl ?_)
      refine RunL.op (OpS.as rfl rfl rfl ?_)
      refine RunL.nil ?_
      refine Run.slim [(4, .bool y1)] ⟨rfl, trivial⟩ ?_
      refine Run.retP rfl (.tmp rfl .nil) ?_
      cases hF
      exact Post.mk' ⟨rfl, rfl, rfl, rfl⟩ (h6.picks .nil) .nil
    ·
      refine RunL.op (OpS.pass rfl rfl rfl ?_)
      refine RunL.op (OpS.pass rfl rfl rfl ?_)
      refine RunL.op (OpS.pass rfl rfl rfl ?_)
      refine RunL.op (OpS.pass rfl rfl rfl ?_)
      refine RunL.op (OpS.pass rfl rfl rfl ?_)
      refine RunL.op (OpS.pick rfl rfl rfl rfl ?_)
      refine RunL.op (OpS.as rfl rfl rfl ?_)
      refine RunL.nil ?_
      refine Run.slim [(4, .bool false)] ⟨rfl, trivial⟩ ?_
      refine Run.retP rfl (.tmp rfl .nil) ?_
      cases hF
      exact Post.mk' ⟨rfl, rfl, rfl, rfl⟩ (h2.picks .nil) .nil
  ·
    refine RunL.op (OpS.pass rfl rfl rfl ?_)
    refine RunL.op (OpS.pass rfl rfl rfl ?_)
    refine RunL.op (OpS.pass rfl rfl rfl ?_)
    refine RunL.op (OpS.pass rfl rfl rfl ?_)
    refine RunL.op (OpS.pass rfl rfl rfl ?_)
    refine RunL.op (OpS.pick rfl rfl rfl rfl ?_)
    refine RunL.op (OpS.mv rfl rfl rfl ?_)
    refine RunL.op (OpS.pass rfl rfl rfl ?_)
    refine RunL.op (OpS.pass rfl rfl rfl ?_)
    refine RunL.op (OpS.pass rfl rfl rfl ?_)
    refine RunL.op (OpS.pass rfl rfl rfl ?_)
    refine RunL.op (OpS.pass rfl rfl rfl ?_)
    refine RunL.op (OpS.pick rfl rfl rfl rfl ?_)
    refine RunL.op (OpS.as rfl rfl rfl ?_)
    refine RunL.nil ?_
    refine Run.slim [(4, .bool false)] ⟨rfl, trivial⟩ ?_
    refine Run.retP rfl (.tmp rfl .nil) ?_
    cases hF
    exact Post.mk' ⟨rfl, rfl, rfl, rfl⟩ (h2.picks .nil) .nil
theorem law20_FrameOrder_ok {fuel : Nat} {a0 : List Int} {a1 : List Int} {a2 : List Int} {y : Bool} (hF : law20_FrameOrder fuel a0 a1 a2 = some y) {w : World} {v0 v1 v2 : Value} :
    Spec Try.prog 4 [v0, v1, v2].toArray w [(false, .val (Rep.slice (Rep.int .i64)) v0 a0), (false, .val (Rep.slice (Rep.int .i64)) v1 a1), (false, .val (Rep.slice (Rep.int .i64)) v2 a2)] [] (fun v Γr Ωr Ωo => v = .bool y ∧ Γr = [] ∧ Ωr = [] ∧ Ωo = []) := by
  refine Spec.of (L := [(0, v0), (1, v1), (2, v2)]) Try.func4 rfl ⟨rfl, rfl, rfl, trivial⟩ rfl (fun e h => ?_)
  unfold law20_FrameOrder at hF
  refine Run.seq ?_
  refine Run.reg ?_
  refine RunL.op (OpS.as rfl rfl rfl ?_)
  refine RunL.nil ?_
  refine Run.slim [(0, v0), (1, v1), (2, v2)] ⟨rfl, rfl, rfl, trivial⟩ ?_
  refine Run.seq ?_
  refine Run.seq ?_
  refine Run.reg ?_
  refine RunL.op (OpS.mv rfl rfl rfl ?_)
  obtain ⟨y1, e1, hF⟩ := bindP_use hF
  refine RunL.op (OpS.callP h Try.func8 rfl rfl rfl rfl (vs := [v0]) rfl (made_Light_ok e1) (.cons (V.at .z) .nil) ?_)
  rintro _ w1 _ _ _ ⟨rfl, rfl, rfl, rfl⟩ h1
  have h2 := h1 rfl rfl
  simp only [List.cons_append, List.nil_append] at h2
  refine RunL.op (OpS.not rfl rfl rfl ?_)
  refine RunL.op (OpS.mv rfl rfl rfl ?_)
  refine RunL.join (σ := Bool) (fun s_ L_ w_ => L_ = [(0, v0), (1, v1), (2, v2), (31, .bool s_)] ∧ St e w_ [(false, .val (Rep.slice (Rep.int .i64)) v0 a0), (false, .val (Rep.slice (Rep.int .i64)) v1 a1), (false, .val (Rep.slice (Rep.int .i64)) v2 a2)] []) hF (fun s1 _ w2 hI hF => ?_) (fun j1 hj1 hF => ?_)
  ·
    obtain ⟨rfl, h3⟩ := hI
    refine Run.ite rfl hF (fun e2 hF => ?_) (fun e2 hF => ?_)
    ·
      refine Run.seq ?_
      refine Run.reg ?_
      obtain ⟨y2, e3, hF⟩ := bindP_use hF
      refine RunL.op (OpS.callP h3 Try.func9 rfl rfl rfl rfl (vs := []) rfl (law20_awake_ok e3) .nil ?_)
      rintro _ w3 _ _ _ ⟨rfl, rfl, rfl, rfl⟩ h4
      have h5 := h4 rfl rfl
      simp only [List.cons_append, List.nil_append] at h5
      refine RunL.op (OpS.as rfl rfl rfl ?_)
      refine RunL.nil ?_
      refine Run.slim [(6, .bool y2)] ⟨rfl, trivial⟩ ?_
      refine Run.retP rfl (.tmp rfl .nil) ?_
      cases hF
      exact Post.mk' ⟨rfl, rfl, rfl, rfl⟩ (h5.picks .nil) .nil
    ·
      refine Run.skip ?_
      refine Run.seq ?_
      refine Run.reg ?_
      refine RunL.op (OpS.mv rfl rfl rfl ?_)
      obtain ⟨y3, e4, hF⟩ := bindP_use hF
      have h6 := h3.front .nil
      refine RunL.op (OpS.callO h6 Try.func11 rfl rfl rfl rfl (vs := [v0]) rfl (made_Roll_ok e4) rfl (.cons (V.at .z) .nil) ?_)
      rintro u1 w4 _ _ _ ⟨_, rfl, rfl, rfl, rfl⟩ h7
      have h8 := h7
      simp only [List.cons_append, List.nil_append] at h8
      obtain ⟨y4, e5, hF⟩ := bindP_use hF
      have h9 := h8.front (.cons .z .nil)
      refine RunL.op (OpS.callO h9 Try.func12 rfl rfl rfl rfl (vs := [u1]) rfl (made_Dice_Frame_ok e5) rfl .nil ?_)
      rintro u2 w5 _ _ _ ⟨_, rfl, rfl, rfl, rfl⟩ h10
      have h11 := h10
      simp only [List.cons_append, List.nil_append] at h11
      refine RunL.op (OpS.mv rfl rfl rfl ?_)
      obtain ⟨y5, e6, hF⟩ := bindP_use hF
      have h12 := h11.front .nil
      refine RunL.op (OpS.callO h12 Try.func11 rfl rfl rfl rfl (vs := [v1]) rfl (made_Roll_ok e6) rfl (.cons (V.at (.s (.s .z))) .nil) ?_)
      rintro u3 w6 _ _ _ ⟨_, rfl, rfl, rfl, rfl⟩ h13
      have h14 := h13
      simp only [List.cons_append, List.nil_append] at h14
      obtain ⟨y6, e7, hF⟩ := bindP_use hF
      have h15 := h14.front (.cons .z .nil)
      refine RunL.op (OpS.callO h15 Try.func12 rfl rfl rfl rfl (vs := [u3]) rfl (made_Dice_Frame_ok e7) rfl .nil ?_)
      rintro u4 w7 _ _ _ ⟨_, rfl, rfl, rfl, rfl⟩ h16
      have h17 := h16
      simp only [List.cons_append, List.nil_append] at h17
      refine RunL.op (OpS.mv rfl rfl rfl ?_)
      obtain ⟨y7, e8, hF⟩ := bindP_use hF
      have h18 := h17.front .nil
      refine RunL.op (OpS.callO h18 Try.func11 rfl rfl rfl rfl (vs := [v2]) rfl (made_Roll_ok e8) rfl (.cons (V.at (.s (.s (.s (.s .z))))) .nil) ?_)
      rintro u5 w8 _ _ _ ⟨_, rfl, rfl, rfl, rfl⟩ h19
      have h20 := h19
      simp only [List.cons_append, List.nil_append] at h20
      obtain ⟨y8, e9, hF⟩ := bindP_use hF
      have h21 := h20.front (.cons .z .nil)
      refine RunL.op (OpS.callO h21 Try.func12 rfl rfl rfl rfl (vs := [u5]) rfl (made_Dice_Frame_ok e9) rfl .nil ?_)
      rintro u6 w9 _ _ _ ⟨_, rfl, rfl, rfl, rfl⟩ h22
      have h23 := h22
      simp only [List.cons_append, List.nil_append] at h23
      refine RunL.op (OpS.alloc h23 ti30 Frame_.zr rfl rfl (fun u7 w10 h24 => ?_))
      refine RunL.op (OpS.alloc h24 ti30 Frame_.zr rfl rfl (fun u8 w11 h25 => ?_))
      refine RunL.op (OpS.alloc h25 ti30 Frame_.zr rfl rfl (fun u9 w12 h26 => ?_))
      refine RunL.op (OpS.storeB (f' := true) h26 (.s (.s .z)) PA.z Put.id ty30 rfl rfl rfl (V.at (.s (.s .z))) (.inl rfl) (fun w13 h27 => ?_))
      refine RunL.op (OpS.storeB (f' := true) h27 (.s (.s .z)) PA.z Put.id ty30 rfl rfl rfl (V.at (.s .z)) (.inl rfl) (fun w14 h28 => ?_))
      refine RunL.op (OpS.storeB (f' := true) h28 (.s (.s .z)) PA.z Put.id ty30 rfl rfl rfl (V.at .z) (.inl rfl) (fun w15 h29 => ?_))
      refine RunL.nil ?_
      refine Run.slim [(9, u9), (8, u8), (7, u7)] ⟨rfl, rfl, rfl, trivial⟩ ?_
      refine Run.seq ?_
      refine Run.reg ?_
      refine RunL.op (OpS.loadB h29 (.s (.s .z)) PA.z Get.id ty30 rfl rfl rfl (fun u10 h30 => ?_))
      obtain ⟨y9, e10, hF⟩ := bindP_use hF
      refine RunL.op (OpS.callP h30 Try.func15 rfl rfl rfl rfl (vs := [u10]) rfl (frame_Encode_ok e10) (.cons (V.at .z) .nil) ?_)
      rintro _ w16 _ _ _ ⟨u11, rfl, rfl, rfl, rfl⟩ h31
      have h32 := h31 rfl rfl
      simp only [List.cons_append, List.nil_append] at h32
      refine RunL.op (OpS.mv rfl rfl rfl ?_)
      refine RunL.op (OpS.ext rfl rfl rfl rfl ?_)
      refine RunL.op (OpS.ext rfl rfl rfl rfl ?_)
      refine RunL.op (OpS.as rfl rfl rfl ?_)
      have h33 := (h32.pick .z).freeze
      refine RunL.op (OpS.as rfl rfl rfl ?_)
      refine RunL.nil ?_
      refine Run.slim [(11, .int .i64 y9.2), (10, u11), (9, u9), (8, u8), (7, u7)] ⟨rfl, rfl, rfl, rfl, rfl, trivial⟩ ?_
      refine Run.seq ?_
      refine Run.reg ?_
      refine RunL.op (OpS.loadB h33 (.s .z) PA.z Get.id ty30 rfl rfl rfl (fun u12 h34 => ?_))
      obtain ⟨y10, e11, hF⟩ := bindP_use hF
      refine RunL.op (OpS.callP h34 Try.func15 rfl rfl rfl rfl (vs := [u12]) rfl (frame_Encode_ok e11) (.cons (V.at .z) .nil) ?_)
      rintro _ w17 _ _ _ ⟨u13, rfl, rfl, rfl, rfl⟩ h35
      have h36 := h35 rfl rfl
      simp only [List.cons_append, List.nil_append] at h36
      refine RunL.op (OpS.mv rfl rfl rfl ?_)
      refine RunL.op (OpS.ext rfl rfl rfl rfl ?_)
      refine RunL.op (OpS.ext rfl rfl rfl rfl ?_)
      refine RunL.op (OpS.as rfl rfl rfl ?_)
      have h37 := (h36.pick .z).freeze
      refine RunL.op (OpS.as rfl rfl rfl ?_)
      refine RunL.nil ?_
      refine Run.slim [(13, .int .i64 y10.2), (12, u13), (11, .int .i64 y9.2), (10, u11), (9, u9), (8, u8), (7, u7)] ⟨rfl, rfl, rfl, rfl, rfl, rfl, rfl, trivial⟩ ?_
      refine Run.seq ?_
      refine Run.reg ?_
      refine RunL.op (OpS.loadB h37 .z PA.z Get.id ty30 rfl rfl rfl (fun u14 h38 => ?_))
      obtain ⟨y11, e12, hF⟩ := bindP_use hF
      refine RunL.op (OpS.callP h38 Try.func15 rfl rfl rfl rfl (vs := [u14]) rfl (frame_Encode_ok e12) (.cons (V.at .z) .nil) ?_)
      rintro _ w18 _ _ _ ⟨u15, rfl, rfl, rfl, rfl⟩ h39
      have h40 := h39 rfl rfl
      simp only [List.cons_append, List.nil_append] at h40
      refine RunL.op (OpS.mv rfl rfl rfl ?_)
      refine RunL.op (OpS.ext rfl rfl rfl rfl ?_)
      refine RunL.op (OpS.ext rfl rfl rfl rfl ?_)
      refine RunL.op (OpS.as rfl rfl rfl ?_)
      have h41 := (h40.pick .z).freeze
      refine RunL.op (OpS.as rfl rfl rfl ?_)
      refine RunL.nil ?_
      refine Run.slim [(15, .int .i64 y11.2), (14, u15), (13, .int .i64 y10.2), (12, u13), (11, .int .i64 y9.2), (10, u11), (8, u8), (7, u7)] ⟨rfl, rfl, rfl, rfl, rfl, rfl, rfl, rfl, trivial⟩ ?_
      refine Run.seq ?_
      refine Run.seq ?_
      refine Run.reg ?_
      refine RunL.op (OpS.mv rfl rfl rfl ?_)
      refine RunL.op (OpS.bin rfl rfl rfl rfl rfl ?_)
      refine RunL.op (OpS.mv rfl rfl rfl ?_)
      refine RunL.join (σ := Bool) (fun s_ L_ w_ => L_ = [(7, u7), (8, u8), (10, u11), (12, u13), (14, u15), (66, .bool s_)] ∧ St e w_ [(true, .val (Rep.slice (Rep.int .u8)) u11 y9.1), (true, .val (Rep.slice (Rep.int .u8)) u13 y10.1), (true, .val (Rep.slice (Rep.int .u8)) u15 y11.1)] [(true, .box 30 Frame_.rep u7 y4.1), (true, .box 30 Frame_.rep u8 y6.1)]) hF (fun s2 _ w19 hI hF => ?_) (fun j2 hj2 hF => ?_)
      ·
        obtain ⟨rfl, h42⟩ := hI
        refine Run.ite rfl hF (fun e13 hF => ?_) (fun e13 hF => ?_)
        ·
          refine Run.seq ?_
          refine Run.reg ?_
          refine RunL.op (OpS.as rfl rfl rfl ?_)
          refine RunL.nil ?_
          refine Run.slim [(6, .bool false)] ⟨rfl, trivial⟩ ?_
          refine Run.retP rfl (.tmp rfl .nil) ?_
          cases hF
          exact Post.mk' ⟨rfl, rfl, rfl, rfl⟩ (h42.picks .nil) .nil
        ·
          refine Run.skip ?_
          refine Run.seq ?_
          refine Run.reg ?_
          refine RunL.op (OpS.mv rfl rfl rfl ?_)
          refine RunL.op (OpS.mv rfl rfl rfl ?_)
          obtain ⟨y12, e14, hF⟩ := bindP_use hF
          refine RunL.op (OpS.callP h42 Try.func13 rfl rfl rfl rfl (vs := [u11, u13]) rfl (frame_Compare_ok e14) (.cons (V.at .z) (.cons (V.at (.s .z)) .nil)) ?_)
          rintro _ w20 _ _ _ ⟨rfl, rfl, rfl, rfl⟩ h43
          have h44 := h43 rfl rfl
          simp only [List.cons_append, List.nil_append] at h44
          refine RunL.op (OpS.mv rfl rfl rfl ?_)
          refine RunL.op (OpS.mv rfl rfl rfl ?_)
          obtain ⟨y13, e15, hF⟩ := bindP_use hF
          refine RunL.op (OpS.callP h44 Try.func13 rfl rfl rfl rfl (vs := [u13, u15]) rfl (frame_Compare_ok e15) (.cons (V.at (.s .z)) (.cons (V.at (.s (.s .z))) .nil)) ?_)
          rintro _ w21 _ _ _ ⟨rfl, rfl, rfl, rfl⟩ h45
          have h46 := h45 rfl rfl
          simp only [List.cons_append, List.nil_append] at h46
          refine RunL.op (OpS.mv rfl rfl rfl ?_)
          refine RunL.op (OpS.mv rfl rfl rfl ?_)
          obtain ⟨y14, e16, hF⟩ := bindP_use hF
          refine RunL.op (OpS.callP h46 Try.func13 rfl rfl rfl rfl (vs := [u11, u15]) rfl (frame_Compare_ok e16) (.cons (V.at .z) (.cons (V.at (.s (.s .z))) .nil)) ?_)
          rintro _ w22 _ _ _ ⟨rfl, rfl, rfl, rfl⟩ h47
          have h48 := h47 rfl rfl
          simp only [List.cons_append, List.nil_append] at h48
          refine RunL.op (OpS.as rfl rfl rfl ?_)
          refine RunL.op (OpS.as rfl rfl rfl ?_)
          refine RunL.op (OpS.as rfl rfl rfl ?_)
          refine RunL.nil ?_
          refine Run.slim [(18, .int .i64 y14), (17, .int .i64 y13), (16, .int .i64 y12), (7, u7), (8, u8), (10, u11), (12, u13)] ⟨rfl, rfl, rfl, rfl, rfl, rfl, rfl, trivial⟩ ?_
          refine Run.seq ?_
          refine Run.seq ?_
          refine Run.reg ?_
          refine RunL.op (OpS.mv rfl rfl rfl ?_)
          refine RunL.op (OpS.mv rfl rfl rfl ?_)
          refine RunL.op (OpS.mv rfl rfl rfl ?_)
          obtain ⟨y15, e17, hF⟩ := bindP_use hF
          refine RunL.op (OpS.callP h48 Try.func13 rfl rfl rfl rfl (vs := [u13, u11]) rfl (frame_Compare_ok e17) (.cons (V.at (.s .z)) (.cons (V.at .z) .nil)) ?_)
          rintro _ w23 _ _ _ ⟨rfl, rfl, rfl, rfl⟩ h49
          have h50 := h49 rfl rfl
          simp only [List.cons_append, List.nil_append] at h50
          refine RunL.op (OpS.neg rfl rfl rfl ?_)
          refine RunL.op (OpS.bin rfl rfl rfl rfl rfl ?_)
          refine RunL.op (OpS.mv rfl rfl rfl ?_)
          refine RunL.join (σ := Bool) (fun s_ L_ w_ => L_ = [(7, u7), (8, u8), (16, .int .i64 y12), (17, .int .i64 y13), (18, .int .i64 y14), (97, .bool s_)] ∧ St e w_ [] [(true, .box 30 Frame_.rep u7 y4.1), (true, .box 30 Frame_.rep u8 y6.1)]) hF (fun s3 _ w24 hI hF => ?_) (fun j3 hj3 hF => ?_)
          ·
            obtain ⟨rfl, h51⟩ := hI
            refine Run.ite rfl hF (fun e18 hF => ?_) (fun e18 hF => ?_)
            ·
              refine Run.seq ?_
              refine Run.reg ?_
              refine RunL.op (OpS.as rfl rfl rfl ?_)
              refine RunL.nil ?_
              refine Run.slim [(6, .bool false)] ⟨rfl, trivial⟩ ?_
              refine Run.retP rfl (.tmp rfl .nil) ?_
              cases hF
              exact Post.mk' ⟨rfl, rfl, rfl, rfl⟩ (h51.picks .nil) .nil
            ·
              refine Run.skip ?_
              refine Run.seq ?_
              refine Run.seq ?_
              refine Run.reg ?_
              refine RunL.op (OpS.fbox (o3 := 0) h51 .z PA.z fa30_0 rfl rfl rfl rfl ?_)
              refine RunL.op (OpS.loadBi h51 .z PA.a (Get.fld Frame_.f0) ty5 rfl rfl rfl ?_)
              refine RunL.op (OpS.fbox (o3 := 0) h51 (.s .z) PA.z fa30_0 rfl rfl rfl rfl ?_)
              refine RunL.op (OpS.loadBi h51 (.s .z) PA.a (Get.fld Frame_.f0) ty5 rfl rfl rfl ?_)
              refine RunL.op (OpS.bin rfl rfl rfl rfl rfl ?_)
              refine RunL.op (OpS.mv rfl rfl rfl ?_)
              refine RunL.join (σ := Bool) (fun s_ L_ w_ => L_ = [(16, .int .i64 y12), (17, .int .i64 y13), (18, .int .i64 y14), (112, .bool s_)] ∧ St e w_ [] []) hF (fun s4 _ w25 hI hF => ?_) (fun j4 hj4 hF => ?_)
              ·
                obtain ⟨rfl, h52⟩ := hI
                refine Run.ite rfl hF (fun e19 hF => ?_) (fun e19 hF => ?_)
                ·
                  refine Run.seq ?_
                  refine Run.reg ?_
                  refine RunL.op (OpS.as rfl rfl rfl ?_)
                  refine RunL.nil ?_
                  refine Run.slim [(6, .bool false)] ⟨rfl, trivial⟩ ?_
                  refine Run.retP rfl (.tmp rfl .nil) ?_
                  cases hF
                  exact Post.mk' ⟨rfl, rfl, rfl, rfl⟩ (h52.picks .nil) .nil
                ·
                  refine Run.skip ?_
                  refine Run.seq ?_
                  refine Run.reg ?_
                  refine RunL.op (OpS.mv rfl rfl rfl ?_)
                  refine RunL.op (OpS.bin rfl rfl rfl rfl rfl ?_)
                  refine RunL.op (OpS.mv rfl rfl rfl ?_)
                  refine RunL.caseb hF (fun e20 hF => ?_) (fun e20 hF => ?_)
                  ·
                    refine RunL.op (OpS.pass rfl rfl rfl ?_)
                    refine RunL.op (OpS.pass rfl rfl rfl ?_)
                    refine RunL.op (OpS.pick rfl rfl rfl rfl ?_)
                    refine RunL.op (OpS.mv rfl rfl rfl ?_)
                    refine RunL.op (OpS.pass rfl rfl rfl ?_)
                    refine RunL.op (OpS.pass rfl rfl rfl ?_)
                    refine RunL.op (OpS.pass rfl rfl rfl ?_)
                    refine RunL.op (OpS.pass rfl rfl rfl ?_)
                    refine RunL.op (OpS.pass rfl rfl rfl ?_)
                    refine RunL.op (OpS.pass rfl rfl rfl ?_)
                    refine RunL.op (OpS.pass rfl rfl rfl ?_)
                    refine RunL.op (OpS.pass rfl rfl rfl ?_)
                    refine RunL.op (OpS.pass rfl rfl rfl ?_)
                    refine RunL.op (OpS.pass rfl rfl rfl ?_)
                    refine RunL.op (OpS.pass rfl rfl rfl ?_)
                    refine RunL.op (OpS.pass rfl rfl rfl ?_)
                    refine RunL.op (OpS.pass rfl rfl rfl ?_)
                    refine RunL.op (OpS.pass rfl rfl rfl ?_)
                    refine RunL.op (OpS.pick rfl rfl rfl rfl ?_)
                    refine RunL.op (OpS.mv rfl rfl rfl ?_)
                    obtain ⟨y16, e21, hF⟩ := bindP_use hF
                    refine RunL.op (OpS.callP h52 Try.func9 rfl rfl rfl rfl (vs := []) rfl (law20_awake_ok e21) .nil ?_)
                    rintro _ w26 _ _ _ ⟨rfl, rfl, rfl, rfl⟩ h53
                    have h54 := h53 rfl rfl
                    simp only [List.cons_append, List.nil_append] at h54
                    refine RunL.op (OpS.pick rfl rfl rfl rfl ?_)
                    refine RunL.op (OpS.as rfl rfl rfl ?_)
                    refine RunL.nil ?_
                    refine Run.slim [(6, .bool y16)] ⟨rfl, trivial⟩ ?_
                    refine Run.retP rfl (.tmp rfl .nil) ?_
                    cases hF
                    exact Post.mk' ⟨rfl, rfl, rfl, rfl⟩ (h54.picks .nil) .nil
                  ·
                    refine RunL.op (OpS.mv rfl rfl rfl ?_)
                    refine RunL.op (OpS.bin rfl rfl rfl rfl rfl ?_)
                    refine RunL.op (OpS.pick rfl rfl rfl rfl ?_)
                    refine RunL.op (OpS.mv rfl rfl rfl ?_)
                    refine RunL.caseb hF (fun e22 hF => ?_) (fun e22 hF => ?_)
                    ·
                      refine RunL.op (OpS.pass rfl rfl rfl ?_)
                      refine RunL.op (OpS.pass rfl rfl rfl ?_)
                      refine RunL.op (OpS.pass rfl rfl rfl ?_)
                      refine RunL.op (OpS.pass rfl rfl rfl ?_)
                      refine RunL.op (OpS.pass rfl rfl rfl ?_)
                      refine RunL.op (OpS.pass rfl rfl rfl ?_)
                      refine RunL.op (OpS.pass rfl rfl rfl ?_)
                      refine RunL.op (OpS.pass rfl rfl rfl ?_)
                      refine RunL.op (OpS.pass rfl rfl rfl ?_)
                      refine RunL.op (OpS.pass rfl rfl rfl ?_)
                      refine RunL.op (OpS.pass rfl rfl rfl ?_)
                      refine RunL.op (OpS.pass rfl rfl rfl ?_)
                      refine RunL.op (OpS.pass rfl rfl rfl ?_)
                      refine RunL.op (OpS.pass rfl rfl rfl ?_)
                      refine RunL.op (OpS.pick rfl rfl rfl rfl ?_)
                      refine RunL.op (OpS.mv rfl rfl rfl ?_)
                      obtain ⟨y17, e23, hF⟩ := bindP_use hF
                      refine RunL.op (OpS.callP h52 Try.func9 rfl rfl rfl rfl (vs := []) rfl (law20_awake_ok e23) .nil ?_)
                      rintro _ w27 _ _ _ ⟨rfl, rfl, rfl, rfl⟩ h55
                      have h56 := h55 rfl rfl
                      simp only [List.cons_append, List.nil_append] at h56
                      refine RunL.op (OpS.pick rfl rfl rfl rfl ?_)
                      refine RunL.op (OpS.as rfl rfl rfl ?_)
                      refine RunL.nil ?_
                      refine Run.slim [(6, .bool y17)] ⟨rfl, trivial⟩ ?_
                      refine Run.retP rfl (.tmp rfl .nil) ?_
                      cases hF
                      exact Post.mk' ⟨rfl, rfl, rfl, rfl⟩ (h56.picks .nil) .nil
                    ·
                      refine RunL.op (OpS.mv rfl rfl rfl ?_)
                      refine RunL.op (OpS.bin rfl rfl rfl rfl rfl ?_)
                      refine RunL.op (OpS.mv rfl rfl rfl ?_)
                      refine RunL.caseb hF (fun e24 hF => ?_) (fun e24 hF => ?_)
                      ·
                        refine RunL.op (OpS.mv rfl rfl rfl ?_)
                        refine RunL.op (OpS.bin rfl rfl rfl rfl rfl ?_)
                        refine RunL.op (OpS.mv rfl rfl rfl ?_)
                        refine RunL.caseb hF (fun e25 hF => ?_) (fun e25 hF => ?_)
                        ·
                          refine RunL.op (OpS.pass rfl rfl rfl ?_)
                          refine RunL.op (OpS.pass rfl rfl rfl ?_)
                          refine RunL.op (OpS.pass rfl rfl rfl ?_)
                          refine RunL.op (OpS.pass rfl rfl rfl ?_)
                          refine RunL.op (OpS.pass rfl rfl rfl ?_)
                          refine RunL.op (OpS.pass rfl rfl rfl ?_)
                          refine RunL.op (OpS.pick rfl rfl rfl rfl ?_)
                          refine RunL.op (OpS.pick rfl rfl rfl rfl ?_)
                          refine RunL.op (OpS.pick rfl rfl rfl rfl ?_)
                          refine RunL.op (OpS.mv rfl rfl rfl ?_)
                          obtain ⟨y18, e26, hF⟩ := bindP_use hF
                          refine RunL.op (OpS.callP h52 Try.func9 rfl rfl rfl rfl (vs := []) rfl (law20_awake_ok e26) .nil ?_)
                          rintro _ w28 _ _ _ ⟨rfl, rfl, rfl, rfl⟩ h57
                          have h58 := h57 rfl rfl
                          simp only [List.cons_append, List.nil_append] at h58
                          refine RunL.op (OpS.pick rfl rfl rfl rfl ?_)
                          refine RunL.op (OpS.as rfl rfl rfl ?_)
                          refine RunL.nil ?_
                          refine Run.slim [(6, .bool y18)] ⟨rfl, trivial⟩ ?_
                          refine Run.retP rfl (.tmp rfl .nil) ?_
                          cases hF
                          exact Post.mk' ⟨rfl, rfl, rfl, rfl⟩ (h58.picks .nil) .nil
                        ·
                          refine RunL.op (OpS.mv rfl rfl rfl ?_)
                          refine RunL.op (OpS.bin rfl rfl rfl rfl rfl ?_)
                          refine RunL.op (OpS.mv rfl rfl rfl ?_)
                          refine RunL.caseb hF (fun e27 hF => ?_) (fun e27 hF => ?_)
                          ·
                            refine RunL.op (OpS.mv rfl rfl rfl ?_)
                            refine RunL.op (OpS.bin rfl rfl rfl rfl rfl ?_)
                            refine RunL.op (OpS.pick rfl rfl rfl rfl ?_)
                            refine RunL.op (OpS.pick rfl rfl rfl rfl ?_)
                            refine RunL.op (OpS.pick rfl rfl rfl rfl ?_)
                            refine RunL.op (OpS.pick rfl rfl rfl rfl ?_)
                            refine RunL.op (OpS.mv rfl rfl rfl ?_)
                            refine RunL.caseb hF (fun e28 hF => ?_) (fun e28 hF => ?_)
                            ·
                              obtain ⟨y19, e29, hF⟩ := bindP_use hF
                              refine RunL.op (OpS.callP h52 Try.func9 rfl rfl rfl rfl (vs := []) rfl (law20_awake_ok e29) .nil ?_)
                              rintro _ w29 _ _ _ ⟨rfl, rfl, rfl, rfl⟩ h59
                              have h60 := h59 rfl rfl
                              simp only [List.cons_append, List.nil_append] at h60
                              refine RunL.op (OpS.pick rfl rfl rfl rfl ?_)
                              refine RunL.op (OpS.as rfl rfl rfl ?_)
                              refine RunL.nil ?_
                              refine Run.slim [(6, .bool y19)] ⟨rfl, trivial⟩ ?_
                              refine Run.retP rfl (.tmp rfl .nil) ?_
                              cases hF
                              exact Post.mk' ⟨rfl, rfl, rfl, rfl⟩ (h60.picks .nil) .nil
                            ·
                              refine RunL.op (OpS.pass rfl rfl rfl ?_)
                              refine RunL.op (OpS.pick rfl rfl rfl rfl ?_)
                              refine RunL.op (OpS.as rfl rfl rfl ?_)
                              refine RunL.nil ?_
                              refine Run.slim [(6, .bool false)] ⟨rfl, trivial⟩ ?_
                              refine Run.retP rfl (.tmp rfl .nil) ?_
                              cases hF
                              exact Post.mk' ⟨rfl, rfl, rfl, rfl⟩ (h52.picks .nil) .nil
                          ·
                            refine RunL.op (OpS.pass rfl rfl rfl ?_)
                            refine RunL.op (OpS.pass rfl rfl rfl ?_)
                            refine RunL.op (OpS.pick rfl rfl rfl rfl ?_)
                            refine RunL.op (OpS.pick rfl rfl rfl rfl ?_)
                            refine RunL.op (OpS.pick rfl rfl rfl rfl ?_)
                            refine RunL.op (OpS.pick rfl rfl rfl rfl ?_)
                            refine RunL.op (OpS.mv rfl rfl rfl ?_)
                            refine RunL.op (OpS.pass rfl rfl rfl ?_)
                            refine RunL.op (OpS.pick rfl rfl rfl rfl ?_)
                            refine RunL.op (OpS.as rfl rfl rfl ?_)
                            refine RunL.nil ?_
                            refine Run.slim [(6, .bool false)] ⟨rfl, trivial⟩ ?_
                            refine Run.retP rfl (.tmp rfl .nil) ?_
                            cases hF
                            exact Post.mk' ⟨rfl, rfl, rfl, rfl⟩ (h52.picks .nil) .nil
                      ·
                        refine RunL.op (OpS.pass rfl rfl rfl ?_)
                        refine RunL.op (OpS.pass rfl rfl rfl ?_)
                        refine RunL.op (OpS.pass rfl rfl rfl ?_)
                        refine RunL.op (OpS.pass rfl rfl rfl ?_)
                        refine RunL.op (OpS.pass rfl rfl rfl ?_)
                        refine RunL.op (OpS.pass rfl rfl rfl ?_)
                        refine RunL.op (OpS.pass rfl rfl rfl ?_)
                        refine RunL.op (OpS.pass rfl rfl rfl ?_)
                        refine RunL.op (OpS.pass rfl rfl rfl ?_)
                        refine RunL.op (OpS.pass rfl rfl rfl ?_)
                        refine RunL.op (OpS.pick rfl rfl rfl rfl ?_)
                        refine RunL.op (OpS.pick rfl rfl rfl rfl ?_)
                        refine RunL.op (OpS.mv rfl rfl rfl ?_)
                        refine RunL.op (OpS.pass rfl rfl rfl ?_)
                        refine RunL.op (OpS.pick rfl rfl rfl rfl ?_)
                        refine RunL.op (OpS.as rfl rfl rfl ?_)
                        refine RunL.nil ?_
                        refine Run.slim [(6, .bool false)] ⟨rfl, trivial⟩ ?_
                        refine Run.retP rfl (.tmp rfl .nil) ?_
                        cases hF
                        exact Post.mk' ⟨rfl, rfl, rfl, rfl⟩ (h52.picks .nil) .nil
              ·
                refine RunL.caseb hF (fun e30 hF => ?_) (fun e30 hF => ?_)
                ·
                  refine RunL.op (OpS.mv rfl rfl rfl ?_)
                  refine RunL.op (OpS.bin rfl rfl rfl rfl rfl ?_)
                  refine RunL.op (OpS.fbox (o3 := 0) h51 .z PA.z fa30_0 rfl rfl rfl rfl ?_)
                  refine RunL.op (OpS.loadBi h51 .z PA.a (Get.fld Frame_.f0) ty5 rfl rfl rfl ?_)
                  refine RunL.op (OpS.fbox (o3 := 0) h51 (.s .z) PA.z fa30_0 rfl rfl rfl rfl ?_)
                  refine RunL.op (OpS.loadBi h51 (.s .z) PA.a (Get.fld Frame_.f0) ty5 rfl rfl rfl ?_)
                  refine RunL.op (OpS.bin rfl rfl rfl rfl rfl ?_)
                  refine RunL.op (OpS.neb Try.underlying4 rfl rfl rfl rfl ?_)
                  refine RunL.op (OpS.pick rfl rfl rfl rfl ?_)
                  refine RunL.nil ?_
                  refine Run.slim [(112, .bool ((y12 == (-1)) != (decide (y4.1.To < y6.1.To)))), (16, .int .i64 y12), (17, .int .i64 y13), (18, .int .i64 y14)] ⟨rfl, rfl, rfl, rfl, trivial⟩ ?_
                  refine Run.slim [(16, .int .i64 y12), (17, .int .i64 y13), (18, .int .i64 y14), (112, .bool ((y12 == (-1)) != (decide (y4.1.To < y6.1.To))))] ⟨rfl, rfl, rfl, rfl, trivial⟩ ?_
                  exact hj4 ((y12 == (-1)) != (decide (y4.1.To < y6.1.To))) _ _ ⟨rfl, (h51.facts .nil).picks .nil⟩ hF
                ·
                  refine RunL.op (OpS.pass rfl rfl rfl ?_)
                  refine RunL.op (OpS.pass rfl rfl rfl ?_)
                  refine RunL.op (OpS.pass rfl rfl rfl ?_)
                  refine RunL.op (OpS.pass rfl rfl rfl ?_)
                  refine RunL.op (OpS.pass rfl rfl rfl ?_)
                  refine RunL.op (OpS.pass rfl rfl rfl ?_)
                  refine RunL.op (OpS.pass rfl rfl rfl ?_)
                  refine RunL.op (OpS.pass rfl rfl rfl ?_)
                  refine RunL.op (OpS.pick rfl rfl rfl rfl ?_)
                  refine RunL.nil ?_
                  refine Run.slim [(112, .bool false), (16, .int .i64 y12), (17, .int .i64 y13), (18, .int .i64 y14)] ⟨rfl, rfl, rfl, rfl, trivial⟩ ?_
                  refine Run.slim [(16, .int .i64 y12), (17, .int .i64 y13), (18, .int .i64 y14), (112, .bool false)] ⟨rfl, rfl, rfl, rfl, trivial⟩ ?_
                  exact hj4 (false) _ _ ⟨rfl, (h51.facts .nil).picks .nil⟩ hF
          ·
            refine RunL.caseb hF (fun e31 hF => ?_) (fun e31 hF => ?_)
            ·
              refine RunL.op (OpS.pass rfl rfl rfl ?_)
              refine RunL.op (OpS.pass rfl rfl rfl ?_)
              refine RunL.op (OpS.pick rfl rfl rfl rfl ?_)
              refine RunL.op (OpS.mv rfl rfl rfl ?_)
              refine RunL.op (OpS.pass rfl rfl rfl ?_)
              refine RunL.op (OpS.pass rfl rfl rfl ?_)
              refine RunL.op (OpS.pick rfl rfl rfl rfl ?_)
              refine RunL.op (OpS.mv rfl rfl rfl ?_)
              refine RunL.op (OpS.pass rfl rfl rfl ?_)
              refine RunL.op (OpS.pass rfl rfl rfl ?_)
              refine RunL.op (OpS.pass rfl rfl rfl ?_)
              refine RunL.op (OpS.pass rfl rfl rfl ?_)
              refine RunL.op (OpS.pass rfl rfl rfl ?_)
              refine RunL.op (OpS.pass rfl rfl rfl ?_)
              refine RunL.op (OpS.pick rfl rfl rfl rfl ?_)
              refine RunL.nil ?_
              refine Run.slim [(97, .bool true), (18, .int .i64 y14), (17, .int .i64 y13), (16, .int .i64 y12), (7, u7), (8, u8)] ⟨rfl, rfl, rfl, rfl, rfl, rfl, trivial⟩ ?_
              refine Run.slim [(7, u7), (8, u8), (16, .int .i64 y12), (17, .int .i64 y13), (18, .int .i64 y14), (97, .bool true)] ⟨rfl, rfl, rfl, rfl, rfl, rfl, trivial⟩ ?_
              exact hj3 (true) _ _ ⟨rfl, (h50.facts .nil).picks (.cons .z (.cons .z .nil))⟩ hF
            ·
              refine RunL.op (OpS.mv rfl rfl rfl ?_)
              refine RunL.op (OpS.bin rfl rfl rfl rfl rfl ?_)
              refine RunL.op (OpS.pick rfl rfl rfl rfl ?_)
              refine RunL.op (OpS.mv rfl rfl rfl ?_)
              refine RunL.caseb hF (fun e32 hF => ?_) (fun e32 hF => ?_)
              ·
                refine RunL.op (OpS.pass rfl rfl rfl ?_)
                refine RunL.op (OpS.pass rfl rfl rfl ?_)
                refine RunL.op (OpS.pick rfl rfl rfl rfl ?_)
                refine RunL.op (OpS.mv rfl rfl rfl ?_)
                refine RunL.op (OpS.pass rfl rfl rfl ?_)
                refine RunL.op (OpS.pass rfl rfl rfl ?_)
                refine RunL.op (OpS.pass rfl rfl rfl ?_)
                refine RunL.op (OpS.pass rfl rfl rfl ?_)
                refine RunL.op (OpS.pass rfl rfl rfl ?_)
                refine RunL.op (OpS.pass rfl rfl rfl ?_)
                refine RunL.op (OpS.pick rfl rfl rfl rfl ?_)
                refine RunL.nil ?_
                refine Run.slim [(97, .bool true), (18, .int .i64 y14), (17, .int .i64 y13), (16, .int .i64 y12), (7, u7), (8, u8)] ⟨rfl, rfl, rfl, rfl, rfl, rfl, trivial⟩ ?_
                refine Run.slim [(7, u7), (8, u8), (16, .int .i64 y12), (17, .int .i64 y13), (18, .int .i64 y14), (97, .bool true)] ⟨rfl, rfl, rfl, rfl, rfl, rfl, trivial⟩ ?_
                exact hj3 (true) _ _ ⟨rfl, (h50.facts .nil).picks (.cons .z (.cons .z .nil))⟩ hF
              ·
                refine RunL.op (OpS.mv rfl rfl rfl ?_)
                refine RunL.op (OpS.bin rfl rfl rfl rfl rfl ?_)
                refine RunL.op (OpS.pick rfl rfl rfl rfl ?_)
                refine RunL.op (OpS.mv rfl rfl rfl ?_)
                refine RunL.caseb hF (fun e33 hF => ?_) (fun e33 hF => ?_)
                ·
                  refine RunL.op (OpS.pass rfl rfl rfl ?_)
                  refine RunL.op (OpS.pass rfl rfl rfl ?_)
                  refine RunL.op (OpS.pass rfl rfl rfl ?_)
                  refine RunL.op (OpS.pass rfl rfl rfl ?_)
                  refine RunL.op (OpS.pass rfl rfl rfl ?_)
                  refine RunL.op (OpS.pass rfl rfl rfl ?_)
                  refine RunL.op (OpS.pick rfl rfl rfl rfl ?_)
                  refine RunL.nil ?_
                  refine Run.slim [(97, .bool true), (18, .int .i64 y14), (17, .int .i64 y13), (16, .int .i64 y12), (7, u7), (8, u8)] ⟨rfl, rfl, rfl, rfl, rfl, rfl, trivial⟩ ?_
                  refine Run.slim [(7, u7), (8, u8), (16, .int .i64 y12), (17, .int .i64 y13), (18, .int .i64 y14), (97, .bool true)] ⟨rfl, rfl, rfl, rfl, rfl, rfl, trivial⟩ ?_
                  exact hj3 (true) _ _ ⟨rfl, (h50.facts .nil).picks (.cons .z (.cons .z .nil))⟩ hF
                ·
                  refine RunL.op (OpS.mv rfl rfl rfl ?_)
                  refine RunL.op (OpS.bin rfl rfl rfl rfl rfl ?_)
                  refine RunL.op (OpS.loadB h50 .z PA.z Get.id ty30 rfl rfl rfl (fun u16 h61 => ?_))
                  refine RunL.op (OpS.loadB h61 (.s .z) PA.z Get.id ty30 rfl rfl rfl (fun u17 h62 => ?_))
                  obtain ⟨y20, e34, hF⟩ := bindP_use hF
                  refine RunL.op (OpS.callP h62 Try.func16 rfl rfl rfl rfl (vs := [u16, u17]) rfl (ref20_Same_ok e34) (.cons (V.at (.s .z)) (.cons (V.at .z) .nil)) ?_)
                  rintro _ w30 _ _ _ ⟨rfl, rfl, rfl, rfl⟩ h63
                  have h64 := h63 rfl rfl
                  simp only [List.cons_append, List.nil_append] at h64
                  refine RunL.op (OpS.neb Try.underlying4 rfl rfl rfl rfl ?_)
                  refine RunL.op (OpS.pick rfl rfl rfl rfl ?_)
                  refine RunL.nil ?_
                  refine Run.slim [(97, .bool ((y12 == 0) != y20)), (18, .int .i64 y14), (17, .int .i64 y13), (16, .int .i64 y12), (7, u7), (8, u8)] ⟨rfl, rfl, rfl, rfl, rfl, rfl, trivial⟩ ?_
                  refine Run.slim [(7, u7), (8, u8), (16, .int .i64 y12), (17, .int .i64 y13), (18, .int .i64 y14), (97, .bool ((y12 == 0) != y20))] ⟨rfl, rfl, rfl, rfl, rfl, rfl, trivial⟩ ?_
                  exact hj3 ((y12 == 0) != y20) _ _ ⟨rfl, (h64.facts .nil).picks (.cons .z (.cons .z .nil))⟩ hF
      ·
        refine RunL.caseb hF (fun e35 hF => ?_) (fun e35 hF => ?_)
        ·
          refine RunL.op (OpS.pass rfl rfl rfl ?_)
          refine RunL.op (OpS.pass rfl rfl rfl ?_)
          refine RunL.op (OpS.pick rfl rfl rfl rfl ?_)
          refine RunL.op (OpS.mv rfl rfl rfl ?_)
          refine RunL.op (OpS.pass rfl rfl rfl ?_)
          refine RunL.op (OpS.pass rfl rfl rfl ?_)
          refine RunL.op (OpS.pick rfl rfl rfl rfl ?_)
          refine RunL.nil ?_
          refine Run.slim [(66, .bool true), (14, u15), (12, u13), (10, u11), (8, u8), (7, u7)] ⟨rfl, rfl, rfl, rfl, rfl, rfl, trivial⟩ ?_
          refine Run.slim [(7, u7), (8, u8), (10, u11), (12, u13), (14, u15), (66, .bool true)] ⟨rfl, rfl, rfl, rfl, rfl, rfl, trivial⟩ ?_
          exact hj2 (true) _ _ ⟨rfl, (h41.facts (.atm (.s (.s (.s (.s .z)))) (.atm (.s (.s .z)) (.atm .z .nil)))).picks (.cons (.s (.s .z)) (.cons (.s .z) .nil))⟩ hF
        ·
          refine RunL.op (OpS.mv rfl rfl rfl ?_)
          refine RunL.op (OpS.bin rfl rfl rfl rfl rfl ?_)
          refine RunL.op (OpS.pick rfl rfl rfl rfl ?_)
          refine RunL.op (OpS.mv rfl rfl rfl ?_)
          refine RunL.caseb hF (fun e36 hF => ?_) (fun e36 hF => ?_)
          ·
            refine RunL.op (OpS.pass rfl rfl rfl ?_)
            refine RunL.op (OpS.pass rfl rfl rfl ?_)
            refine RunL.op (OpS.pick rfl rfl rfl rfl ?_)
            refine RunL.nil ?_
            refine Run.slim [(66, .bool true), (14, u15), (12, u13), (10, u11), (8, u8), (7, u7)] ⟨rfl, rfl, rfl, rfl, rfl, rfl, trivial⟩ ?_
            refine Run.slim [(7, u7), (8, u8), (10, u11), (12, u13), (14, u15), (66, .bool true)] ⟨rfl, rfl, rfl, rfl, rfl, rfl, trivial⟩ ?_
            exact hj2 (true) _ _ ⟨rfl, (h41.facts (.atm (.s (.s (.s (.s .z)))) (.atm (.s (.s .z)) (.atm .z .nil)))).picks (.cons (.s (.s .z)) (.cons (.s .z) .nil))⟩ hF
          ·
            refine RunL.op (OpS.mv rfl rfl rfl ?_)
            refine RunL.op (OpS.bin rfl rfl rfl rfl rfl ?_)
            refine RunL.op (OpS.pick rfl rfl rfl rfl ?_)
            refine RunL.nil ?_
            refine Run.slim [(66, .bool (y11.2 != 0)), (14, u15), (12, u13), (10, u11), (8, u8), (7, u7)] ⟨rfl, rfl, rfl, rfl, rfl, rfl, trivial⟩ ?_
            refine Run.slim [(7, u7), (8, u8), (10, u11), (12, u13), (14, u15), (66, .bool (y11.2 != 0))] ⟨rfl, rfl, rfl, rfl, rfl, rfl, trivial⟩ ?_
            exact hj2 (y11.2 != 0) _ _ ⟨rfl, (h41.facts (.atm (.s (.s (.s (.s .z)))) (.atm (.s (.s .z)) (.atm .z .nil)))).picks (.cons (.s (.s .z)) (.cons (.s .z) .nil))⟩ hF
  ·
    refine RunL.caseb hF (fun e37 hF => ?_) (fun e37 hF => ?_)
    ·
      refine RunL.op (OpS.pass rfl rfl rfl ?_)
      refine RunL.op (OpS.pass rfl rfl rfl ?_)
      refine RunL.op (OpS.pass rfl rfl rfl ?_)
      refine RunL.op (OpS.pick rfl rfl rfl rfl ?_)
      refine RunL.op (OpS.mv rfl rfl rfl ?_)
      refine RunL.op (OpS.pass rfl rfl rfl ?_)
      refine RunL.op (OpS.pass rfl rfl rfl ?_)
      refine RunL.op (OpS.pass rfl rfl rfl ?_)
      refine RunL.op (OpS.pick rfl rfl rfl rfl ?_)
      refine RunL.nil ?_
      refine Run.slim [(31, .bool true), (0, v0), (1, v1), (2, v2)] ⟨rfl, rfl, rfl, rfl, trivial⟩ ?_
      refine Run.slim [(0, v0), (1, v1), (2, v2), (31, .bool true)] ⟨rfl, rfl, rfl, rfl, trivial⟩ ?_
      exact hj1 (true) _ _ ⟨rfl, (h2.facts (.atm .z (.atm (.s .z) (.atm (.s (.s .z)) .nil)))).picks .nil⟩ hF
    ·
      refine RunL.op (OpS.mv rfl rfl rfl ?_)
      obtain ⟨y21, e38, hF⟩ := bindP_use hF
      refine RunL.op (OpS.callP h2 Try.func8 rfl rfl rfl rfl (vs := [v1]) rfl (made_Light_ok e38) (.cons (V.at (.s .z)) .nil) ?_)
      rintro _ w31 _ _ _ ⟨rfl, rfl, rfl, rfl⟩ h65
      have h66 := h65 rfl rfl
      simp only [List.cons_append, List.nil_append] at h66
      refine RunL.op (OpS.not rfl rfl rfl ?_)
      refine RunL.op (OpS.pick rfl rfl rfl rfl ?_)
      refine RunL.op (OpS.mv rfl rfl rfl ?_)
      refine RunL.caseb hF (fun e39 hF => ?_) (fun e39 hF => ?_)
      ·
        refine RunL.op (OpS.pass rfl rfl rfl ?_)
        refine RunL.op (OpS.pass rfl rfl rfl ?_)
        refine RunL.op (OpS.pass rfl rfl rfl ?_)
        refine RunL.op (OpS.pick rfl rfl rfl rfl ?_)
        refine RunL.nil ?_
        refine Run.slim [(31, .bool true), (0, v0), (1, v1), (2, v2)] ⟨rfl, rfl, rfl, rfl, trivial⟩ ?_
        refine Run.slim [(0, v0), (1, v1), (2, v2), (31, .bool true)] ⟨rfl, rfl, rfl, rfl, trivial⟩ ?_
        exact hj1 (true) _ _ ⟨rfl, (h66.facts (.atm .z (.atm (.s .z) (.atm (.s (.s .z)) .nil)))).picks .nil⟩ hF
      ·
        refine RunL.op (OpS.mv rfl rfl rfl ?_)
        obtain ⟨y22, e40, hF⟩ := bindP_use hF
        refine RunL.op (OpS.callP h66 Try.func8 rfl rfl rfl rfl (vs := [v2]) rfl (made_Light_ok e40) (.cons (V.at (.s (.s .z))) .nil) ?_)
        rintro _ w32 _ _ _ ⟨rfl, rfl, rfl, rfl⟩ h67
        have h68 := h67 rfl rfl
        simp only [List.cons_append, List.nil_append] at h68
        refine RunL.op (OpS.not rfl rfl rfl ?_)
        refine RunL.op (OpS.pick rfl rfl rfl rfl ?_)
        refine RunL.nil ?_
        refine Run.slim [(31, .bool (!y22)), (0, v0), (1, v1), (2, v2)] ⟨rfl, rfl, rfl, rfl, trivial⟩ ?_
        refine Run.slim [(0, v0), (1, v1), (2, v2), (31, .bool (!y22))] ⟨rfl, rfl, rfl, rfl, trivial⟩ ?_
        exact hj1 (!y22) _ _ ⟨rfl, (h68.facts (.atm .z (.atm (.s .z) (.atm (.s (.s .z)) .nil)))).picks .nil⟩ hF
end Lift
