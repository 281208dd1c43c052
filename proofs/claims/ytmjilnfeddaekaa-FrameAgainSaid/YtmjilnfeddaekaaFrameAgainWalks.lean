/- Each Go function computes its plain function. Written by lift.py. -/
import Derived.Test.YtmjilnfeddaekaaFacts
namespace Lift
open Go Go.Proofs
theorem frame_address_ok {fuel : Nat} {a0 : Int} {y : Bool} (hF : frame_address fuel a0 = some y) {w : World} :
    Spec Try.prog 30 [.int .u8 a0].toArray w [] [] (fun v Γr Ωr Ωo => v = .bool y ∧ Γr = [] ∧ Ωr = [] ∧ Ωo = []) := by
  refine Spec.of (L := [(0, .int .u8 a0)]) Try.func30 rfl ⟨rfl, trivial⟩ rfl (fun e h => ?_)
  unfold frame_address at hF
  refine Run.seq ?_
  refine Run.reg ?_
  refine RunL.op (OpS.as rfl rfl rfl ?_)
  refine RunL.nil ?_
  refine Run.slim [(0, .int .u8 a0)] ⟨rfl, trivial⟩ ?_
  refine Run.seq ?_
  refine Run.reg ?_
  refine RunL.op (OpS.mv rfl rfl rfl ?_)
  refine RunL.op (OpS.bin rfl rfl rfl rfl rfl ?_)
  refine RunL.op (OpS.mv rfl rfl rfl ?_)
  refine RunL.caseb hF (fun e1 hF => ?_) (fun e1 hF => ?_)
  ·
    refine RunL.op (OpS.mv rfl rfl rfl ?_)
    refine RunL.op (OpS.bin rfl rfl rfl rfl rfl ?_)
    refine RunL.op (OpS.pick rfl rfl rfl rfl ?_)
    refine RunL.op (OpS.as rfl rfl rfl ?_)
    obtain ⟨x1, e2, hF⟩ := letP_use hF
    refine RunL.nameb e2 ?_
    refine RunL.nil ?_
    refine Run.slim [(2, .bool x1)] ⟨rfl, trivial⟩ ?_
    refine Run.retP rfl (.tmp rfl .nil) ?_
    cases hF
    exact Post.mk' ⟨rfl, rfl, rfl, rfl⟩ (h.picks .nil) .nil
  ·
    refine RunL.op (OpS.pass rfl rfl rfl ?_)
    refine RunL.op (OpS.pass rfl rfl rfl ?_)
    refine RunL.op (OpS.pick rfl rfl rfl rfl ?_)
    refine RunL.op (OpS.as rfl rfl rfl ?_)
    refine RunL.nil ?_
    refine Run.slim [(2, .bool false)] ⟨rfl, trivial⟩ ?_
    refine Run.retP rfl (.tmp rfl .nil) ?_
    cases hF
    exact Post.mk' ⟨rfl, rfl, rfl, rfl⟩ (h.picks .nil) .nil
theorem frame_Valid_ok {fuel : Nat} {a0 : Frame_} {y : Bool} (hF : frame_Valid fuel a0 = some y) {w : World} {v0 : Value} :
    Spec Try.prog 19 [v0].toArray w [(false, .val Frame_.rep v0 a0)] [] (fun v Γr Ωr Ωo => v = .bool y ∧ Γr = [] ∧ Ωr = [] ∧ Ωo = []) := by
  refine Spec.of (L := [(0, v0)]) Try.func19 rfl ⟨rfl, trivial⟩ rfl (fun e h => ?_)
  unfold frame_Valid at hF
  refine Run.seq ?_
  refine Run.reg ?_
  refine RunL.op (OpS.boxF h rfl rfl rfl (V.at .z) (fun u1 w1 h1 => ?_))
  refine RunL.op (OpS.as rfl rfl rfl ?_)
  refine RunL.nil ?_
  refine Run.slim [(1, u1)] ⟨rfl, trivial⟩ ?_
  refine Run.seq ?_
  refine Run.reg ?_
  refine RunL.op (OpS.fbox (o3 := 0) h1 .z PA.z fa30_0 rfl rfl rfl rfl ?_)
  refine RunL.op (OpS.loadBi h1 .z PA.a (Get.fld Frame_.f0) ty5 rfl rfl rfl ?_)
  obtain ⟨y1, e1, hF⟩ := bindP_use hF
  refine RunL.op (OpS.callP h1 Try.func30 rfl rfl rfl rfl (vs := [.int .u8 a0.To]) rfl (frame_address_ok e1) .nil ?_)
  rintro _ w2 _ _ _ ⟨rfl, rfl, rfl, rfl⟩ h2
  have h3 := h2 rfl rfl
  simp only [List.cons_append, List.nil_append] at h3
  refine RunL.op (OpS.mv rfl rfl rfl ?_)
  refine RunL.caseb hF (fun e2 hF => ?_) (fun e2 hF => ?_)
  ·
    refine RunL.op (OpS.fbox (o3 := 1) h3 .z PA.z fa30_1 rfl rfl rfl rfl ?_)
    refine RunL.op (OpS.loadBi h3 .z PA.a (Get.fld Frame_.f1) ty5 rfl rfl rfl ?_)
    obtain ⟨y2, e3, hF⟩ := bindP_use hF
    refine RunL.op (OpS.callP h3 Try.func30 rfl rfl rfl rfl (vs := [.int .u8 a0.From]) rfl (frame_address_ok e3) .nil ?_)
    rintro _ w3 _ _ _ ⟨rfl, rfl, rfl, rfl⟩ h4
    have h5 := h4 rfl rfl
    simp only [List.cons_append, List.nil_append] at h5
    refine RunL.op (OpS.pick rfl rfl rfl rfl ?_)
    refine RunL.op (OpS.mv rfl rfl rfl ?_)
    refine RunL.caseb hF (fun e4 hF => ?_) (fun e4 hF => ?_)
    ·
      refine RunL.op (OpS.fbox (o3 := 2) h5 .z PA.z fa30_2 rfl rfl rfl rfl ?_)
      refine RunL.op (OpS.loadB h5 .z PA.a (Get.fld Frame_.f2) ty22 rfl rfl rfl (fun u2 h6 => ?_))
      refine RunL.op (OpS.len h6 Try.underlying22 rfl rfl rfl (V.at .z) ?_)
      refine RunL.op (OpS.bin rfl rfl rfl rfl rfl ?_)
      refine RunL.op (OpS.pick rfl rfl rfl rfl ?_)
      refine RunL.op (OpS.as rfl rfl rfl ?_)
      obtain ⟨x1, e5, hF⟩ := letP_use hF
      refine RunL.nameb e5 ?_
      refine RunL.nil ?_
      refine Run.slim [(2, .bool x1)] ⟨rfl, trivial⟩ ?_
      refine Run.retP rfl (.tmp rfl .nil) ?_
      cases hF
      exact Post.mk' ⟨rfl, rfl, rfl, rfl⟩ (h6.picks .nil) .nil
    ·
      refine RunL.op (OpS.pass rfl rfl rfl ?_)
      refine RunL.op (OpS.pass rfl rfl rfl ?_)
      refine RunL.op (OpS.pass rfl rfl rfl ?_)
      refine RunL.op (OpS.pass rfl rfl rfl ?_)
      refine RunL.op (OpS.pick rfl rfl rfl rfl ?_)
      refine RunL.op (OpS.as rfl rfl rfl ?_)
      refine RunL.nil ?_
      refine Run.slim [(2, .bool false)] ⟨rfl, trivial⟩ ?_
      refine Run.retP rfl (.tmp rfl .nil) ?_
      cases hF
      exact Post.mk' ⟨rfl, rfl, rfl, rfl⟩ (h5.picks .nil) .nil
  ·
    refine RunL.op (OpS.pass rfl rfl rfl ?_)
    refine RunL.op (OpS.pass rfl rfl rfl ?_)
    refine RunL.op (OpS.pass rfl rfl rfl ?_)
    refine RunL.op (OpS.pick rfl rfl rfl rfl ?_)
    refine RunL.op (OpS.mv rfl rfl rfl ?_)
    refine RunL.op (OpS.pass rfl rfl rfl ?_)
    refine RunL.op (OpS.pass rfl rfl rfl ?_)
    refine RunL.op (OpS.pass rfl rfl rfl ?_)
    refine RunL.op (OpS.pass rfl rfl rfl ?_)
    refine RunL.op (OpS.pick rfl rfl rfl rfl ?_)
    refine RunL.op (OpS.as rfl rfl rfl ?_)
    refine RunL.nil ?_
    refine Run.slim [(2, .bool false)] ⟨rfl, trivial⟩ ?_
    refine Run.retP rfl (.tmp rfl .nil) ?_
    cases hF
    exact Post.mk' ⟨rfl, rfl, rfl, rfl⟩ (h3.picks .nil) .nil
theorem slices_Clone_byte_byte_ok {fuel : Nat} {a0 : List Int} {y : (List Int)} (hF : slices_Clone_byte_byte fuel a0 = some y) {w : World} {v0 : Value} :
    Spec Try.prog 35 [v0].toArray w [(false, .val (Rep.slice (Rep.int .u8)) v0 a0)] [] (fun v Γr Ωr Ωo => ∃ u0 : Value, v = u0 ∧ Γr = [] ∧ Ωr = [(true, .slice 5 (Rep.int .u8) u0 y)] ∧ Ωo = []) := by
  refine Spec.of (L := [(0, v0)]) Try.func35 rfl ⟨rfl, trivial⟩ rfl (fun e h => ?_)
  unfold slices_Clone_byte_byte at hF
  refine Run.seq ?_
  refine Run.reg ?_
  refine RunL.op (OpS.as rfl rfl rfl ?_)
  refine RunL.nil ?_
  refine Run.slim [(0, v0)] ⟨rfl, trivial⟩ ?_
  refine Run.seq ?_
  refine Run.seq ?_
  refine Run.reg ?_
  refine RunL.op (OpS.mv rfl rfl rfl ?_)
  refine RunL.op (OpS.snil h Try.underlying22 rfl rfl rfl (V.at .z) (fun b1 hb1 => ?_))
  refine RunL.nil ?_
  refine Run.slim [(4, .bool b1), (0, v0)] ⟨rfl, rfl, trivial⟩ ?_
  cases b1
  ·
    refine Run.condF rfl ?_
    refine Run.skip ?_
    refine Run.seq ?_
    refine Run.reg ?_
    refine RunL.op (OpS.litO (r := (Rep.int .u8)) (f := true) h Try.underlying22 ti5 rfl rfl rfl rfl rfl .nil rfl rfl (fun u1 w1 h1 => ?_))
    refine RunL.op (OpS.mv rfl rfl rfl ?_)
    obtain ⟨x1, e1, hF⟩ := bindP_use hF
    refine RunL.op (OpS.app (f' := false) h1 .z Try.underlying22 ti5 rfl rfl rfl rfl rfl rfl rfl (V.at .z) (.inr Pure.int) e1 (fun u2 w2 h2 => ?_))
    refine RunL.op (OpS.as rfl rfl rfl ?_)
    refine RunL.nil ?_
    refine Run.slim [(2, u2)] ⟨rfl, trivial⟩ ?_
    refine Run.retP rfl (.tmp rfl .nil) ?_
    cases hF
    exact Post.mk' ⟨u2, rfl, rfl, rfl, rfl⟩ (h2.picks (.cons .z .nil)) .nil
  ·
    obtain rfl := hb1 rfl
    have hF : some ([] : List Int) = some y := by simpa [bindP, app] using hF
    refine Run.condT rfl ?_
    refine Run.seq ?_
    refine Run.reg ?_
    refine RunL.op (OpS.as rfl rfl rfl ?_)
    refine RunL.nil ?_
    refine Run.slim [(2, .slice none 0 0)] ⟨rfl, trivial⟩ ?_
    have h3 := St.nil 5 (Rep.int .u8) h
    refine Run.retP rfl (.tmp rfl .nil) ?_
    cases hF
    exact Post.mk' ⟨(.slice none 0 0), rfl, rfl, rfl, rfl⟩ (h3.picks (.cons .z .nil)) .nil
theorem checksum_CRC8_ok {fuel : Nat} {a0 : List Int} {y : Int} (hF : checksum_CRC8 fuel a0 = some y) {w : World} {v0 : Value} :
    Spec Try.prog 38 [v0].toArray w [(false, .val (Rep.slice (Rep.int .u8)) v0 a0)] [] (fun v Γr Ωr Ωo => v = .int .u8 y ∧ Γr = [] ∧ Ωr = [] ∧ Ωo = []) := by
  refine Spec.of (L := [(0, v0)]) Try.func38 rfl ⟨rfl, trivial⟩ rfl (fun e h => ?_)
  unfold checksum_CRC8 at hF
  refine Run.seq ?_
  refine Run.reg ?_
  refine RunL.op (OpS.as rfl rfl rfl ?_)
  refine RunL.nil ?_
  refine Run.slim [(0, v0)] ⟨rfl, trivial⟩ ?_
  refine Run.seq ?_
  refine Run.reg ?_
  refine RunL.op (OpS.as rfl rfl rfl ?_)
  refine RunL.nil ?_
  refine Run.seq ?_
  refine Run.seq ?_
  refine Run.reg ?_
  refine RunL.op (OpS.mv rfl rfl rfl ?_)
  refine RunL.op (OpS.len h Try.underlying22 rfl rfl rfl (V.at .z) ?_)
  refine RunL.op (OpS.mv rfl rfl rfl ?_)
  refine RunL.nil ?_
  refine Run.slim [(9, .int .i64 0), (8, .int .i64 (a0.length : Int)), (7, v0), (3, .int .u8 0)] ⟨rfl, rfl, rfl, rfl, trivial⟩ ?_
  refine Run.block ?_
  refine Run.slim [(3, .int .u8 0), (7, v0), (8, .int .i64 (a0.length : Int)), (9, .int .i64 0)] ⟨rfl, rfl, rfl, rfl, trivial⟩ ?_
  refine Run.loopP (σ := (Int × Int)) (fun s_ L_ w_ => L_ = [(3, .int .u8 s_.1), (7, v0), (8, .int .i64 (a0.length : Int)), (9, .int .i64 s_.2)] ∧ St e w_ [(false, .val (Rep.slice (Rep.int .u8)) v0 a0)] []) hF ⟨rfl, (h.facts (.atm .z .nil)).picks .nil⟩ (fun k1 hk1 s1 _ w1 hI hF => ?_)
  obtain ⟨rfl, h1⟩ := hI
  refine Run.seq ?_
  refine Run.reg ?_
  refine RunL.op (OpS.bin rfl rfl rfl rfl rfl ?_)
  refine RunL.nil ?_
  refine Run.seq ?_
  refine Run.ite rfl hF (fun e1 hF => ?_) (fun e1 hF => ?_)
  ·
    refine Run.skip ?_
    refine Run.seq ?_
    refine Run.block ?_
    refine Run.seq ?_
    refine Run.reg ?_
    obtain ⟨x1, e2, hF⟩ := bindP_use hF
    refine RunL.op (OpS.iptr h1 Try.underlying22 ty5 rfl rfl rfl rfl (V.at .z) e2 (fun u1 h2 => ?_))
    refine RunL.op (OpS.loadi h2 ty5 rfl rfl rfl .z ?_)
    refine RunL.op (OpS.as rfl rfl rfl ?_)
    refine RunL.nil ?_
    refine Run.slim [(5, .int .u8 x1), (3, .int .u8 s1.1), (7, v0), (8, .int .i64 (a0.length : Int)), (9, .int .i64 s1.2)] ⟨rfl, rfl, rfl, rfl, rfl, trivial⟩ ?_
    refine Run.seq ?_
    refine Run.reg ?_
    refine RunL.op (OpS.mv rfl rfl rfl ?_)
    refine RunL.op (OpS.mv rfl rfl rfl ?_)
    refine RunL.op (OpS.bin rfl rfl rfl rfl rfl ?_)
    refine RunL.op (OpS.as rfl rfl rfl ?_)
    refine RunL.nil ?_
    refine Run.slim [(3, .int .u8 (bXor .u8 s1.1 x1)), (7, v0), (8, .int .i64 (a0.length : Int)), (9, .int .i64 s1.2)] ⟨rfl, rfl, rfl, rfl, trivial⟩ ?_
    refine Run.seq ?_
    refine Run.reg ?_
    refine RunL.op (OpS.mv rfl rfl rfl ?_)
    refine RunL.nil ?_
    refine Run.block ?_
    refine Run.slim [(3, .int .u8 (bXor .u8 s1.1 x1)), (7, v0), (8, .int .i64 (a0.length : Int)), (9, .int .i64 s1.2), (16, .int .i64 0)] ⟨rfl, rfl, rfl, rfl, rfl, trivial⟩ ?_
    refine Run.loopP (σ := (Int × Int)) (fun s_ L_ w_ => L_ = [(3, .int .u8 s_.1), (7, v0), (8, .int .i64 (a0.length : Int)), (9, .int .i64 s1.2), (16, .int .i64 s_.2)] ∧ St e w_ [(false, .val (Rep.slice (Rep.int .u8)) v0 a0)] []) hF ⟨rfl, (h2.facts (.atm (.s .z) .nil)).picks .nil⟩ (fun k2 hk2 s2 _ w2 hI hF => ?_)
    obtain ⟨rfl, h3⟩ := hI
    refine Run.seq ?_
    refine Run.reg ?_
    refine RunL.op (OpS.bin rfl rfl rfl rfl rfl ?_)
    refine RunL.nil ?_
    refine Run.seq ?_
    refine Run.ite rfl hF (fun e3 hF => ?_) (fun e3 hF => ?_)
    ·
      refine Run.skip ?_
      refine Run.seq ?_
      refine Run.block ?_
      refine Run.seq ?_
      refine Run.reg ?_
      refine RunL.op (OpS.mv rfl rfl rfl ?_)
      refine RunL.op (OpS.shr rfl rfl rfl rfl (by decide) ?_)
      refine RunL.op (OpS.as rfl rfl rfl ?_)
      refine RunL.nil ?_
      refine Run.slim [(6, .int .u8 (bShr .u8 s2.1 7)), (3, .int .u8 s2.1), (7, v0), (8, .int .i64 (a0.length : Int)), (9, .int .i64 s1.2), (16, .int .i64 s2.2)] ⟨rfl, rfl, rfl, rfl, rfl, rfl, trivial⟩ ?_
      refine Run.reg ?_
      refine RunL.op (OpS.mv rfl rfl rfl ?_)
      refine RunL.op (OpS.shl rfl rfl rfl rfl (by decide) ?_)
      refine RunL.op (OpS.mv rfl rfl rfl ?_)
      refine RunL.op (OpS.bin rfl rfl rfl rfl rfl ?_)
      refine RunL.op (OpS.bin rfl rfl rfl rfl rfl ?_)
      refine RunL.op (OpS.as rfl rfl rfl ?_)
      obtain ⟨x2, e4, hF⟩ := letP_use hF
      refine RunL.name e4 ?_
      refine RunL.nil ?_
      refine Run.slim [(3, .int .u8 x2), (7, v0), (8, .int .i64 (a0.length : Int)), (9, .int .i64 s1.2), (16, .int .i64 s2.2)] ⟨rfl, rfl, rfl, rfl, rfl, trivial⟩ ?_
      refine Run.endBlock ?_
      refine Run.reg ?_
      refine RunL.op (OpS.bin rfl rfl rfl rfl rfl ?_)
      refine RunL.op (OpS.mv rfl rfl rfl ?_)
      refine RunL.nil ?_
      refine Run.slim [(16, .int .i64 (IntKind.i64.wrap (s2.2 + 1))), (3, .int .u8 x2), (7, v0), (8, .int .i64 (a0.length : Int)), (9, .int .i64 s1.2)] ⟨rfl, rfl, rfl, rfl, rfl, trivial⟩ ?_
      refine Run.slim [(3, .int .u8 x2), (7, v0), (8, .int .i64 (a0.length : Int)), (9, .int .i64 s1.2), (16, .int .i64 (IntKind.i64.wrap (s2.2 + 1)))] ⟨rfl, rfl, rfl, rfl, rfl, trivial⟩ ?_
      exact hk2 (x2, (IntKind.i64.wrap (s2.2 + 1))) _ _ ⟨rfl, (h3.facts (.atm .z .nil)).picks .nil⟩ hF
    ·
      refine Run.exit rfl ?_
      refine Run.endBlock ?_
      refine Run.reg ?_
      refine RunL.op (OpS.bin rfl rfl rfl rfl rfl ?_)
      refine RunL.op (OpS.mv rfl rfl rfl ?_)
      refine RunL.nil ?_
      refine Run.slim [(9, .int .i64 (IntKind.i64.wrap (s1.2 + 1))), (3, .int .u8 s2.1), (7, v0), (8, .int .i64 (a0.length : Int))] ⟨rfl, rfl, rfl, rfl, trivial⟩ ?_
      refine Run.slim [(3, .int .u8 s2.1), (7, v0), (8, .int .i64 (a0.length : Int)), (9, .int .i64 (IntKind.i64.wrap (s1.2 + 1)))] ⟨rfl, rfl, rfl, rfl, trivial⟩ ?_
      exact hk1 (s2.1, (IntKind.i64.wrap (s1.2 + 1))) _ _ ⟨rfl, (h3.facts (.atm .z .nil)).picks .nil⟩ hF
  ·
    refine Run.exit rfl ?_
    refine Run.seq ?_
    refine Run.reg ?_
    refine RunL.op (OpS.mv rfl rfl rfl ?_)
    refine RunL.op (OpS.as rfl rfl rfl ?_)
    refine RunL.nil ?_
    refine Run.slim [(2, .int .u8 s1.1)] ⟨rfl, trivial⟩ ?_
    refine Run.retP rfl (.tmp rfl .nil) ?_
    cases hF
    exact Post.mk' ⟨rfl, rfl, rfl, rfl⟩ (h1.picks .nil) .nil
theorem checksum_SealCRC8_ok {fuel : Nat} {a0 : List Int} {y : (List Int)} (hF : checksum_SealCRC8 fuel a0 = some y) {w : World} {v0 : Value} :
    Spec Try.prog 29 [v0].toArray w [(false, .val (Rep.slice (Rep.int .u8)) v0 a0)] [] (fun v Γr Ωr Ωo => ∃ u0 : Value, v = u0 ∧ Γr = [] ∧ Ωr = [(true, .slice 5 (Rep.int .u8) u0 y)] ∧ Ωo = []) := by
  refine Spec.of (L := [(0, v0)]) Try.func29 rfl ⟨rfl, trivial⟩ rfl (fun e h => ?_)
  unfold checksum_SealCRC8 at hF
  refine Run.seq ?_
  refine Run.reg ?_
  refine RunL.op (OpS.as rfl rfl rfl ?_)
  refine RunL.nil ?_
  refine Run.slim [(0, v0)] ⟨rfl, trivial⟩ ?_
  refine Run.seq ?_
  refine Run.reg ?_
  refine RunL.op (OpS.mv rfl rfl rfl ?_)
  obtain ⟨y1, e1, hF⟩ := bindP_use hF
  refine RunL.op (OpS.callP h Try.func35 rfl rfl rfl rfl (vs := [v0]) rfl (slices_Clone_byte_byte_ok e1) (.cons (V.at .z) .nil) ?_)
  rintro u1 w1 _ _ _ ⟨_, rfl, rfl, rfl, rfl⟩ h1
  have h2 := h1 rfl rfl
  simp only [List.cons_append, List.nil_append] at h2
  refine RunL.op (OpS.mv rfl rfl rfl ?_)
  obtain ⟨y2, e2, hF⟩ := bindP_use hF
  refine RunL.op (OpS.callP h2 Try.func38 rfl rfl rfl rfl (vs := [v0]) rfl (checksum_CRC8_ok e2) (.cons (V.at .z) .nil) ?_)
  rintro _ w2 _ _ _ ⟨rfl, rfl, rfl, rfl⟩ h3
  have h4 := h3 rfl rfl
  simp only [List.cons_append, List.nil_append] at h4
  refine RunL.op (OpS.lit (r := (Rep.int .u8)) (f := true) h4 Try.underlying22 ti5 rfl rfl rfl rfl rfl (.cons rfl V.int .nil) rfl rfl (fun u2 w3 h5 => ?_))
  obtain ⟨x1, e3, hF⟩ := bindP_use hF
  refine RunL.op (OpS.app (f' := true) h5 .z Try.underlying22 ti5 rfl rfl rfl rfl rfl rfl rfl (V.at .z) (.inr Pure.int) e3 (fun u3 w4 h6 => ?_))
  refine RunL.op (OpS.as rfl rfl rfl ?_)
  refine RunL.nil ?_
  refine Run.slim [(2, u3)] ⟨rfl, trivial⟩ ?_
  refine Run.retP rfl (.tmp rfl .nil) ?_
  cases hF
  exact Post.mk' ⟨u3, rfl, rfl, rfl, rfl⟩ (h6.picks (.cons .z .nil)) .nil
theorem frame_Encode_ok {fuel : Nat} {a0 : Frame_} {y : (List Int) × Int} (hF : frame_Encode fuel a0 = some y) {w : World} {v0 : Value} :
    Spec Try.prog 15 [v0].toArray w [(false, .val Frame_.rep v0 a0)] [] (fun v Γr Ωr Ωo => ∃ u0 : Value, v = .tuple #[u0, .int .i64 y.2] ∧ Γr = [] ∧ Ωr = [(true, .slice 5 (Rep.int .u8) u0 y.1)] ∧ Ωo = []) := by
  refine Spec.of (L := [(0, v0)]) Try.func15 rfl ⟨rfl, trivial⟩ rfl (fun e h => ?_)
  unfold frame_Encode at hF
  refine Run.seq ?_
  refine Run.reg ?_
  refine RunL.op (OpS.boxF h rfl rfl rfl (V.at .z) (fun u1 w1 h1 => ?_))
  refine RunL.op (OpS.as rfl rfl rfl ?_)
  refine RunL.op (OpS.as rfl rfl rfl ?_)
  refine RunL.nil ?_
  refine Run.slim [(1, u1)] ⟨rfl, trivial⟩ ?_
  refine Run.seq ?_
  refine Run.seq ?_
  refine Run.reg ?_
  refine RunL.op (OpS.loadB h1 .z PA.z Get.id ty30 rfl rfl rfl (fun u2 h2 => ?_))
  obtain ⟨y1, e1, hF⟩ := bindP_use hF
  refine RunL.op (OpS.callP h2 Try.func19 rfl rfl rfl rfl (vs := [u2]) rfl (frame_Valid_ok e1) (.cons (V.at .z) .nil) ?_)
  rintro _ w2 _ _ _ ⟨rfl, rfl, rfl, rfl⟩ h3
  have h4 := h3 rfl rfl
  simp only [List.cons_append, List.nil_append] at h4
  refine RunL.op (OpS.not rfl rfl rfl ?_)
  refine RunL.nil ?_
  refine Run.slim [(6, .bool (!y1)), (1, u1)] ⟨rfl, rfl, trivial⟩ ?_
  refine Run.ite rfl hF (fun e2 hF => ?_) (fun e2 hF => ?_)
  ·
    refine Run.seq ?_
    refine Run.reg ?_
    refine RunL.op (OpS.as rfl rfl rfl ?_)
    refine RunL.op (OpS.as rfl rfl rfl ?_)
    refine RunL.nil ?_
    refine Run.slim [(3, .int .i64 1), (2, .slice none 0 0)] ⟨rfl, rfl, trivial⟩ ?_
    have h5 := St.nil 5 (Rep.int .u8) h4
    refine Run.retP rfl (.tmp rfl (.tmp rfl .nil)) ?_
    cases hF
    exact Post.mk' ⟨(.slice none 0 0), rfl, rfl, rfl, rfl⟩ (h5.picks (.cons .z .nil)) .nil
  ·
    refine Run.skip ?_
    refine Run.seq ?_
    refine Run.reg ?_
    refine RunL.op (OpS.fbox (o3 := 0) h4 .z PA.z fa30_0 rfl rfl rfl rfl ?_)
    refine RunL.op (OpS.loadBi h4 .z PA.a (Get.fld Frame_.f0) ty5 rfl rfl rfl ?_)
    refine RunL.op (OpS.bin rfl rfl rfl rfl rfl ?_)
    refine RunL.op (OpS.fbox (o3 := 2) h4 .z PA.z fa30_2 rfl rfl rfl rfl ?_)
    refine RunL.op (OpS.loadB h4 .z PA.a (Get.fld Frame_.f2) ty22 rfl rfl rfl (fun u3 h6 => ?_))
    refine RunL.op (OpS.len h6 Try.underlying22 rfl rfl rfl (V.at .z) ?_)
    refine RunL.op (OpS.bin rfl rfl rfl rfl rfl ?_)
    refine RunL.op (OpS.conv Try.underlying3 Try.underlying5 rfl rfl rfl ?_)
    refine RunL.op (OpS.fbox (o3 := 1) h6 .z PA.z fa30_1 rfl rfl rfl rfl ?_)
    refine RunL.op (OpS.loadBi h6 .z PA.a (Get.fld Frame_.f1) ty5 rfl rfl rfl ?_)
    refine RunL.op (OpS.bin rfl rfl rfl rfl rfl ?_)
    refine RunL.op (OpS.bin rfl rfl rfl rfl rfl ?_)
    refine RunL.op (OpS.litO (r := (Rep.int .u8)) (f := true) h6 Try.underlying22 ti5 rfl rfl rfl rfl rfl (.cons rfl V.int (.cons rfl V.int (.cons rfl V.int (.cons rfl V.int .nil)))) rfl rfl (fun u4 w3 h7 => ?_))
    refine RunL.op (OpS.fbox (o3 := 2) h7 (.s .z) PA.z fa30_2 rfl rfl rfl rfl ?_)
    refine RunL.op (OpS.loadB h7 (.s .z) PA.a (Get.fld Frame_.f2) ty22 rfl rfl rfl (fun u5 h8 => ?_))
    obtain ⟨x1, e3, hF⟩ := bindP_use hF
    refine RunL.op (OpS.app (f' := false) h8 .z Try.underlying22 ti5 rfl rfl rfl rfl rfl rfl rfl (V.at .z) (.inr Pure.int) e3 (fun u6 w4 h9 => ?_))
    obtain ⟨y2, e4, hF⟩ := bindP_use hF
    refine RunL.op (OpS.callP h9 Try.func29 rfl rfl rfl rfl (vs := [u6]) rfl (checksum_SealCRC8_ok e4) (.own .z .nil) ?_)
    rintro u7 w5 _ _ _ ⟨_, rfl, rfl, rfl, rfl⟩ h10
    have h11 := h10 rfl rfl
    simp only [List.cons_append, List.nil_append] at h11
    refine RunL.op (OpS.as rfl rfl rfl ?_)
    refine RunL.op (OpS.as rfl rfl rfl ?_)
    refine RunL.nil ?_
    refine Run.slim [(3, .int .i64 0), (2, u7)] ⟨rfl, rfl, trivial⟩ ?_
    refine Run.retP rfl (.tmp rfl (.tmp rfl .nil)) ?_
    cases hF
    exact Post.mk' ⟨u7, rfl, rfl, rfl, rfl⟩ (h11.picks (.cons .z .nil)) .nil
theorem ref01_Same_ok {fuel : Nat} {a0 : List Int} {a1 : List Int} {y : Bool} (hF : ref01_Same fuel a0 a1 = some y) {w : World} {v0 v1 : Value} :
    Spec Try.prog 21 [v0, v1].toArray w [(false, .val (Rep.slice (Rep.int .u8)) v0 a0), (false, .val (Rep.slice (Rep.int .u8)) v1 a1)] [] (fun v Γr Ωr Ωo => v = .bool y ∧ Γr = [] ∧ Ωr = [] ∧ Ωo = []) := by
  refine Spec.of (L := [(0, v0), (1, v1)]) Try.func21 rfl ⟨rfl, rfl, trivial⟩ rfl (fun e h => ?_)
  unfold ref01_Same at hF
  refine Run.seq ?_
  refine Run.reg ?_
  refine RunL.op (OpS.as rfl rfl rfl ?_)
  refine RunL.nil ?_
  refine Run.slim [(0, v0), (1, v1)] ⟨rfl, rfl, trivial⟩ ?_
  refine Run.seq ?_
  refine Run.seq ?_
  refine Run.reg ?_
  refine RunL.op (OpS.mv rfl rfl rfl ?_)
  refine RunL.op (OpS.len h Try.underlying22 rfl rfl rfl (V.at .z) ?_)
  refine RunL.op (OpS.mv rfl rfl rfl ?_)
  refine RunL.op (OpS.len h Try.underlying22 rfl rfl rfl (V.at (.s .z)) ?_)
  refine RunL.op (OpS.bin rfl rfl rfl rfl rfl ?_)
  refine RunL.nil ?_
  refine Run.slim [(10, .bool ((a0.length : Int) != (a1.length : Int))), (0, v0), (1, v1)] ⟨rfl, rfl, rfl, trivial⟩ ?_
  refine Run.ite rfl hF (fun e1 hF => ?_) (fun e1 hF => ?_)
  ·
    refine Run.seq ?_
    refine Run.reg ?_
    refine RunL.op (OpS.as rfl rfl rfl ?_)
    refine RunL.nil ?_
    refine Run.slim [(4, .bool false)] ⟨rfl, trivial⟩ ?_
    refine Run.retP rfl (.tmp rfl .nil) ?_
    cases hF
    exact Post.mk' ⟨rfl, rfl, rfl, rfl⟩ (h.picks .nil) .nil
  ·
    refine Run.skip ?_
    refine Run.seq ?_
    refine Run.seq ?_
    refine Run.reg ?_
    refine RunL.op (OpS.as rfl rfl rfl ?_)
    refine RunL.nil ?_
    refine Run.slim [(5, .int .i64 0), (0, v0), (1, v1)] ⟨rfl, rfl, rfl, trivial⟩ ?_
    refine Run.block ?_
    refine Run.slim [(0, v0), (1, v1), (5, .int .i64 0)] ⟨rfl, rfl, rfl, trivial⟩ ?_
    refine Run.loopP (σ := Int) (fun s_ L_ w_ => L_ = [(0, v0), (1, v1), (5, .int .i64 s_)] ∧ St e w_ [(false, .val (Rep.slice (Rep.int .u8)) v0 a0), (false, .val (Rep.slice (Rep.int .u8)) v1 a1)] []) hF ⟨rfl, (h.facts (.atm .z (.atm (.s .z) .nil))).picks .nil⟩ (fun k1 hk1 s1 _ w1 hI hF => ?_)
    obtain ⟨rfl, h1⟩ := hI
    refine Run.seq ?_
    refine Run.seq ?_
    refine Run.reg ?_
    refine RunL.op (OpS.mv rfl rfl rfl ?_)
    refine RunL.op (OpS.mv rfl rfl rfl ?_)
    refine RunL.op (OpS.len h1 Try.underlying22 rfl rfl rfl (V.at .z) ?_)
    refine RunL.op (OpS.bin rfl rfl rfl rfl rfl ?_)
    refine RunL.nil ?_
    refine Run.slim [(14, .bool (decide (s1 < (a0.length : Int)))), (0, v0), (1, v1), (5, .int .i64 s1)] ⟨rfl, rfl, rfl, rfl, trivial⟩ ?_
    refine Run.ite rfl hF (fun e2 hF => ?_) (fun e2 hF => ?_)
    ·
      refine Run.skip ?_
      refine Run.seq ?_
      refine Run.block ?_
      refine Run.seq ?_
      obtain ⟨x1, e3, hF⟩ := bindP_use hF
      obtain ⟨x2, e4, hF⟩ := bindP_use hF
      refine Run.drawV (Ωs := []) [⟨17, some (v0), fun _ => [], fun _ => [], false⟩, ⟨18, some (.int .i64 s1), fun _ => [], fun _ => [], false⟩, ⟨19, none, fun u_ => [(false, .ptr (Rep.int .u8) u_ x1)], fun u_ => [], false⟩, ⟨20, some (.int .u8 x1), fun _ => [], fun _ => [], false⟩, ⟨21, some (v1), fun _ => [], fun _ => [], false⟩, ⟨22, some (.int .i64 s1), fun _ => [], fun _ => [], false⟩, ⟨23, none, fun u_ => [(false, .ptr (Rep.int .u8) u_ x2)], fun u_ => [], false⟩, ⟨24, some (.int .u8 x2), fun _ => [], fun _ => [], false⟩, ⟨25, some (.bool (x1 != x2)), fun _ => [], fun _ => [], false⟩] [[], [], [0, 1], [2], [], [], [4, 5], [6], [3, 7]] Try_mixed rfl rfl h1 (.cons ?_ (.cons ?_ (.cons ?_ (.cons ?_ (.cons ?_ (.cons ?_ (.cons ?_ (.cons ?_ (.cons ?_ .nil))))))))) (fun q1 w h => ?_)
      · intro q1 w Γx Ωx h
        refine OpS.mv rfl rfl rfl ?_
        exact ⟨undef, rfl, h⟩
      · intro q1 w Γx Ωx h
        refine OpS.mv rfl rfl rfl ?_
        exact ⟨undef, rfl, h⟩
      · intro q1 w Γx Ωx h
        refine OpS.iptr h Try.underlying22 ty5 rfl rfl rfl rfl (V.at .z) e3 (fun u h4 => ?_)
        exact ⟨u, rfl, h4⟩
      · intro q1 w Γx Ωx h
        refine OpS.loadi h ty5 rfl rfl rfl .z ?_
        exact ⟨undef, rfl, h⟩
      · intro q1 w Γx Ωx h
        refine OpS.mv rfl rfl rfl ?_
        exact ⟨undef, rfl, h⟩
      · intro q1 w Γx Ωx h
        refine OpS.mv rfl rfl rfl ?_
        exact ⟨undef, rfl, h⟩
      · intro q1 w Γx Ωx h
        refine OpS.iptr h Try.underlying22 ty5 rfl rfl rfl rfl (V.at (.s .z)) e4 (fun u h5 => ?_)
        exact ⟨u, rfl, h5⟩
      · intro q1 w Γx Ωx h
        refine OpS.loadi h ty5 rfl rfl rfl .z ?_
        exact ⟨undef, rfl, h⟩
      · intro q1 w Γx Ωx h
        refine OpS.bin rfl rfl rfl rfl rfl ?_
        exact ⟨undef, rfl, h⟩
      have h6 : St e w [(false, .ptr (Rep.int .u8) (q1 2) x1), (false, .ptr (Rep.int .u8) (q1 6) x2), (false, .val (Rep.slice (Rep.int .u8)) v0 a0), (false, .val (Rep.slice (Rep.int .u8)) v1 a1)] [] := h
      refine RunL.nil ?_
      refine Run.slim [(25, .bool (x1 != x2)), (0, v0), (1, v1), (5, .int .i64 s1)] ⟨rfl, rfl, rfl, rfl, trivial⟩ ?_
      refine Run.ite rfl hF (fun e5 hF => ?_) (fun e5 hF => ?_)
      ·
        refine Run.seq ?_
        refine Run.reg ?_
        refine RunL.op (OpS.as rfl rfl rfl ?_)
        refine RunL.nil ?_
        refine Run.slim [(4, .bool false)] ⟨rfl, trivial⟩ ?_
        refine Run.retP rfl (.tmp rfl .nil) ?_
        cases hF
        exact Post.mk' ⟨rfl, rfl, rfl, rfl⟩ (h6.picks .nil) .nil
      ·
        refine Run.skip ?_
        refine Run.endBlock ?_
        refine Run.reg ?_
        refine RunL.op (OpS.mv rfl rfl rfl ?_)
        refine RunL.op (OpS.bin rfl rfl rfl rfl rfl ?_)
        refine RunL.op (OpS.as rfl rfl rfl ?_)
        obtain ⟨x3, e6, hF⟩ := letP_use hF
        refine RunL.name e6 ?_
        refine RunL.nil ?_
        refine Run.slim [(5, .int .i64 x3), (0, v0), (1, v1)] ⟨rfl, rfl, rfl, trivial⟩ ?_
        refine Run.slim [(0, v0), (1, v1), (5, .int .i64 x3)] ⟨rfl, rfl, rfl, trivial⟩ ?_
        exact hk1 (x3) _ _ ⟨rfl, (h6.facts (.atm (.s (.s .z)) (.atm (.s (.s (.s .z))) .nil))).picks .nil⟩ hF
    ·
      refine Run.exit rfl ?_
      refine Run.seq ?_
      refine Run.reg ?_
      refine RunL.op (OpS.as rfl rfl rfl ?_)
      refine RunL.nil ?_
      refine Run.slim [(4, .bool true)] ⟨rfl, trivial⟩ ?_
      refine Run.retP rfl (.tmp rfl .nil) ?_
      cases hF
      exact Post.mk' ⟨rfl, rfl, rfl, rfl⟩ (h1.picks .nil) .nil
theorem bytes_Compare_ok {fuel : Nat} {a0 : List Int} {a1 : List Int} {y : Int} (hF : bytes_Compare fuel a0 a1 = some y) {w : World} {v0 v1 : Value} :
    Spec Try.prog 28 [v0, v1].toArray w [(false, .val (Rep.slice (Rep.int .u8)) v0 a0), (false, .val (Rep.slice (Rep.int .u8)) v1 a1)] [] (fun v Γr Ωr Ωo => v = .int .i64 y ∧ Γr = [] ∧ Ωr = [] ∧ Ωo = []) := by
  refine Spec.of (L := [(0, v0), (1, v1)]) Try.func28 rfl ⟨rfl, rfl, trivial⟩ rfl (fun e h => ?_)
  unfold bytes_Compare at hF
  refine Run.seq ?_
  refine Run.reg ?_
  refine RunL.op (OpS.as rfl rfl rfl ?_)
  refine RunL.nil ?_
  refine Run.slim [(0, v0), (1, v1)] ⟨rfl, rfl, trivial⟩ ?_
  refine Run.seq ?_
  refine Run.reg ?_
  refine RunL.op (OpS.mv rfl rfl rfl ?_)
  refine RunL.op (OpS.mv rfl rfl rfl ?_)
  refine RunL.op (OpS.cmpB h Try.func37 rfl rfl ext37n ext37 rfl rfl rfl rfl (V.at .z) (V.at (.s .z)) ?_)
  refine RunL.op (OpS.as rfl rfl rfl ?_)
  refine RunL.nil ?_
  refine Run.slim [(4, .int .i64 (cmpB a0 a1))] ⟨rfl, trivial⟩ ?_
  refine Run.retP rfl (.tmp rfl .nil) ?_
  cases hF
  exact Post.mk' ⟨rfl, rfl, rfl, rfl⟩ (h.picks .nil) .nil
theorem frame_Compare_ok {fuel : Nat} {a0 : List Int} {a1 : List Int} {y : Int} (hF : frame_Compare fuel a0 a1 = some y) {w : World} {v0 v1 : Value} :
    Spec Try.prog 13 [v0, v1].toArray w [(false, .val (Rep.slice (Rep.int .u8)) v0 a0), (false, .val (Rep.slice (Rep.int .u8)) v1 a1)] [] (fun v Γr Ωr Ωo => v = .int .i64 y ∧ Γr = [] ∧ Ωr = [] ∧ Ωo = []) := by
  refine Spec.of (L := [(0, v0), (1, v1)]) Try.func13 rfl ⟨rfl, rfl, trivial⟩ rfl (fun e h => ?_)
  unfold frame_Compare at hF
  refine Run.seq ?_
  refine Run.reg ?_
  refine RunL.op (OpS.as rfl rfl rfl ?_)
  refine RunL.nil ?_
  refine Run.slim [(0, v0), (1, v1)] ⟨rfl, rfl, trivial⟩ ?_
  refine Run.seq ?_
  refine Run.reg ?_
  refine RunL.op (OpS.mv rfl rfl rfl ?_)
  refine RunL.op (OpS.mv rfl rfl rfl ?_)
  obtain ⟨y1, e1, hF⟩ := bindP_use hF
  refine RunL.op (OpS.callP h Try.func28 rfl rfl rfl rfl (vs := [v0, v1]) rfl (bytes_Compare_ok e1) (.cons (V.at .z) (.cons (V.at (.s .z)) .nil)) ?_)
  rintro _ w1 _ _ _ ⟨rfl, rfl, rfl, rfl⟩ h1
  have h2 := h1 rfl rfl
  simp only [List.cons_append, List.nil_append] at h2
  refine RunL.op (OpS.as rfl rfl rfl ?_)
  refine RunL.nil ?_
  refine Run.slim [(4, .int .i64 y1)] ⟨rfl, trivial⟩ ?_
  refine Run.retP rfl (.tmp rfl .nil) ?_
  cases hF
  exact Post.mk' ⟨rfl, rfl, rfl, rfl⟩ (h2.picks .nil) .nil
theorem law20_awake_ok {fuel : Nat}  {y : Bool} (hF : law20_awake fuel  = some y) {w : World} :
    Spec Try.prog 9 [].toArray w [] [] (fun v Γr Ωr Ωo => v = .bool y ∧ Γr = [] ∧ Ωr = [] ∧ Ωo = []) := by
  refine Spec.of (L := []) Try.func9 rfl trivial rfl (fun e h => ?_)
  unfold law20_awake at hF
  refine Run.seq ?_
  refine Run.reg ?_
  refine RunL.op (OpS.as rfl rfl rfl ?_)
  refine RunL.nil ?_
  refine Run.slim [] trivial ?_
  refine Run.seq ?_
  refine Run.reg ?_
  refine RunL.op (OpS.lit (r := (Rep.int .u8)) (f := true) h Try.underlying22 ti5 rfl rfl rfl rfl rfl (.cons rfl V.int .nil) rfl rfl (fun u1 w1 h1 => ?_))
  refine RunL.op (OpS.build (f := true) (x' := (⟨16, 32, [171]⟩ : Frame_)) h1 pl30 ti30 Frame_.zr rfl rfl rfl (.cons rfl Frame_.f0 rfl V.int (.cons rfl Frame_.f1 rfl V.int (.cons rfl Frame_.f2 rfl (V.at .z) .nil))) (fun u2 h2 => ?_))
  obtain ⟨y1, e1, hF⟩ := bindP_use hF
  refine RunL.op (OpS.callP h2 Try.func15 rfl rfl rfl rfl (vs := [u2]) rfl (frame_Encode_ok e1) (.cons (V.at .z) .nil) ?_)
  rintro _ w2 _ _ _ ⟨u3, rfl, rfl, rfl, rfl⟩ h3
  have h4 := h3 rfl rfl
  simp only [List.cons_append, List.nil_append] at h4
  refine RunL.op (OpS.mv rfl rfl rfl ?_)
  refine RunL.op (OpS.ext rfl rfl rfl rfl ?_)
  refine RunL.op (OpS.ext rfl rfl rfl rfl ?_)
  refine RunL.op (OpS.as rfl rfl rfl ?_)
  have h5 := (h4.pick .z).freeze
  refine RunL.op (OpS.as rfl rfl rfl ?_)
  refine RunL.nil ?_
  refine Run.slim [(2, .int .i64 y1.2), (1, u3)] ⟨rfl, rfl, trivial⟩ ?_
  refine Run.seq ?_
  refine Run.reg ?_
  refine RunL.op (OpS.mv rfl rfl rfl ?_)
  refine RunL.op (OpS.bin rfl rfl rfl rfl rfl ?_)
  refine RunL.op (OpS.mv rfl rfl rfl ?_)
  refine RunL.caseb hF (fun e2 hF => ?_) (fun e2 hF => ?_)
  ·
    refine RunL.op (OpS.mv rfl rfl rfl ?_)
    refine RunL.op (OpS.len h5 Try.underlying22 rfl rfl rfl (V.at .z) ?_)
    refine RunL.op (OpS.bin rfl rfl rfl rfl rfl ?_)
    refine RunL.op (OpS.pick rfl rfl rfl rfl ?_)
    refine RunL.op (OpS.mv rfl rfl rfl ?_)
    refine RunL.caseb hF (fun e3 hF => ?_) (fun e3 hF => ?_)
    ·
      refine RunL.op (OpS.mv rfl rfl rfl ?_)
      obtain ⟨x1, e4, hF⟩ := bindP_use hF
      refine RunL.op (OpS.sub h5 Try.underlying22 ty5 rfl rfl rfl rfl rfl (V.at .z) e4 (fun u4 h6 => ?_))
      refine RunL.op (OpS.lit (r := (Rep.int .u8)) (f := true) h6 Try.underlying22 ti5 rfl rfl rfl rfl rfl (.cons rfl V.int (.cons rfl V.int (.cons rfl V.int (.cons rfl V.int (.cons rfl V.int .nil))))) rfl rfl (fun u5 w3 h7 => ?_))
      obtain ⟨y2, e5, hF⟩ := bindP_use hF
      refine RunL.op (OpS.callP h7 Try.func21 rfl rfl rfl rfl (vs := [u4, u5]) rfl (ref01_Same_ok e5) (.cons (V.at (.s .z)) (.cons (V.at .z) .nil)) ?_)
      rintro _ w4 _ _ _ ⟨rfl, rfl, rfl, rfl⟩ h8
      have h9 := h8 rfl rfl
      simp only [List.cons_append, List.nil_append] at h9
      refine RunL.op (OpS.pick rfl rfl rfl rfl ?_)
      refine RunL.op (OpS.mv rfl rfl rfl ?_)
      refine RunL.caseb hF (fun e6 hF => ?_) (fun e6 hF => ?_)
      ·
        refine RunL.op (OpS.lit (r := (Rep.int .u8)) (f := true) h9 Try.underlying22 ti5 rfl rfl rfl rfl rfl (.cons rfl V.int .nil) rfl rfl (fun u6 w5 h10 => ?_))
        refine RunL.op (OpS.lit (r := (Rep.int .u8)) (f := true) h10 Try.underlying22 ti5 rfl rfl rfl rfl rfl (.cons rfl V.int .nil) rfl rfl (fun u7 w6 h11 => ?_))
        obtain ⟨y3, e7, hF⟩ := bindP_use hF
        refine RunL.op (OpS.callP h11 Try.func13 rfl rfl rfl rfl (vs := [u6, u7]) rfl (frame_Compare_ok e7) (.cons (V.at (.s .z)) (.cons (V.at .z) .nil)) ?_)
        rintro _ w7 _ _ _ ⟨rfl, rfl, rfl, rfl⟩ h12
        have h13 := h12 rfl rfl
        simp only [List.cons_append, List.nil_append] at h13
        refine RunL.op (OpS.bin rfl rfl rfl rfl rfl ?_)
        refine RunL.op (OpS.pick rfl rfl rfl rfl ?_)
        refine RunL.op (OpS.as rfl rfl rfl ?_)
        obtain ⟨x2, e8, hF⟩ := letP_use hF
        refine RunL.nameb e8 ?_
        refine RunL.nil ?_
        refine Run.slim [(0, .bool x2)] ⟨rfl, trivial⟩ ?_
        refine Run.retP rfl (.tmp rfl .nil) ?_
        cases hF
        exact Post.mk' ⟨rfl, rfl, rfl, rfl⟩ (h13.picks .nil) .nil
      ·
        refine RunL.op (OpS.pass rfl rfl rfl ?_)
        refine RunL.op (OpS.pass rfl rfl rfl ?_)
        refine RunL.op (OpS.pass rfl rfl rfl ?_)
        refine RunL.op (OpS.pass rfl rfl rfl ?_)
        refine RunL.op (OpS.pick rfl rfl rfl rfl ?_)
        refine RunL.op (OpS.as rfl rfl rfl ?_)
        refine RunL.nil ?_
        refine Run.slim [(0, .bool false)] ⟨rfl, trivial⟩ ?_
        refine Run.retP rfl (.tmp rfl .nil) ?_
        cases hF
        exact Post.mk' ⟨rfl, rfl, rfl, rfl⟩ (h9.picks .nil) .nil
    ·
      refine RunL.op (OpS.pass rfl rfl rfl ?_)
      refine RunL.op (OpS.pass rfl rfl rfl ?_)
      refine RunL.op (OpS.pass rfl rfl rfl ?_)
      refine RunL.op (OpS.pass rfl rfl rfl ?_)
      refine RunL.op (OpS.pick rfl rfl rfl rfl ?_)
      refine RunL.op (OpS.mv rfl rfl rfl ?_)
      refine RunL.op (OpS.pass rfl rfl rfl ?_)
      refine RunL.op (OpS.pass rfl rfl rfl ?_)
      refine RunL.op (OpS.pass rfl rfl rfl ?_)
      refine RunL.op (OpS.pass rfl rfl rfl ?_)
      refine RunL.op (OpS.pick rfl rfl rfl rfl ?_)
      refine RunL.op (OpS.as rfl rfl rfl ?_)
      refine RunL.nil ?_
      refine Run.slim [(0, .bool false)] ⟨rfl, trivial⟩ ?_
      refine Run.retP rfl (.tmp rfl .nil) ?_
      cases hF
      exact Post.mk' ⟨rfl, rfl, rfl, rfl⟩ (h5.picks .nil) .nil
  ·
    refine RunL.op (OpS.pass rfl rfl rfl ?_)
    refine RunL.op (OpS.pass rfl rfl rfl ?_)
    refine RunL.op (OpS.pass rfl rfl rfl ?_)
    refine RunL.op (OpS.pick rfl rfl rfl rfl ?_)
    refine RunL.op (OpS.mv rfl rfl rfl ?_)
    refine RunL.op (OpS.pass rfl rfl rfl ?_)
    refine RunL.op (OpS.pass rfl rfl rfl ?_)
    refine RunL.op (OpS.pass rfl rfl rfl ?_)
    refine RunL.op (OpS.pass rfl rfl rfl ?_)
    refine RunL.op (OpS.pick rfl rfl rfl rfl ?_)
    refine RunL.op (OpS.mv rfl rfl rfl ?_)
    refine RunL.op (OpS.pass rfl rfl rfl ?_)
    refine RunL.op (OpS.pass rfl rfl rfl ?_)
    refine RunL.op (OpS.pass rfl rfl rfl ?_)
    refine RunL.op (OpS.pass rfl rfl rfl ?_)
    refine RunL.op (OpS.pick rfl rfl rfl rfl ?_)
    refine RunL.op (OpS.as rfl rfl rfl ?_)
    refine RunL.nil ?_
    refine Run.slim [(0, .bool false)] ⟨rfl, trivial⟩ ?_
    refine Run.retP rfl (.tmp rfl .nil) ?_
    cases hF
    exact Post.mk' ⟨rfl, rfl, rfl, rfl⟩ (h5.picks .nil) .nil
theorem ref01_Copy_ok {fuel : Nat} {a0 : List Int} {y : (List Int)} (hF : ref01_Copy fuel a0 = some y) {w : World} {v0 : Value} :
    Spec Try.prog 32 [v0].toArray w [(false, .val (Rep.slice (Rep.int .u8)) v0 a0)] [] (fun v Γr Ωr Ωo => ∃ u0 : Value, v = u0 ∧ Γr = [] ∧ Ωr = [(true, .slice 5 (Rep.int .u8) u0 y)] ∧ Ωo = []) := by
  refine Spec.of (L := [(0, v0)]) Try.func32 rfl ⟨rfl, trivial⟩ rfl (fun e h => ?_)
  unfold ref01_Copy at hF
  refine Run.seq ?_
  refine Run.reg ?_
  refine RunL.op (OpS.as rfl rfl rfl ?_)
  refine RunL.nil ?_
  refine Run.slim [(0, v0)] ⟨rfl, trivial⟩ ?_
  refine Run.seq ?_
  refine Run.reg ?_
  refine RunL.op (OpS.as rfl rfl rfl ?_)
  refine RunL.nil ?_
  refine Run.seq ?_
  refine Run.seq ?_
  refine Run.reg ?_
  refine RunL.op (OpS.as rfl rfl rfl ?_)
  refine RunL.nil ?_
  refine Run.block ?_
  have h1 := St.nil 5 (Rep.int .u8) h
  refine Run.slim [(0, v0), (3, (.slice none 0 0)), (4, .int .i64 0)] ⟨rfl, rfl, rfl, trivial⟩ ?_
  refine Run.loopP (σ := (Int × (List Int))) (fun s_ L_ w_ => ∃ u0_ : Value, L_ = [(0, v0), (3, u0_), (4, .int .i64 s_.1)] ∧ St e w_ [(false, .val (Rep.slice (Rep.int .u8)) v0 a0)] [(true, .slice 5 (Rep.int .u8) u0_ s_.2)]) hF ⟨(.slice none 0 0), rfl, (h1.facts (.atm .z .nil)).picks (.cons .z .nil)⟩ (fun k1 hk1 s1 _ w1 hI hF => ?_)
  obtain ⟨u1, rfl, h2⟩ := hI
  refine Run.seq ?_
  refine Run.seq ?_
  refine Run.reg ?_
  refine RunL.op (OpS.mv rfl rfl rfl ?_)
  refine RunL.op (OpS.mv rfl rfl rfl ?_)
  refine RunL.op (OpS.len h2 Try.underlying22 rfl rfl rfl (V.at .z) ?_)
  refine RunL.op (OpS.bin rfl rfl rfl rfl rfl ?_)
  refine RunL.nil ?_
  refine Run.slim [(8, .bool (decide (s1.1 < (a0.length : Int)))), (0, v0), (3, u1), (4, .int .i64 s1.1)] ⟨rfl, rfl, rfl, rfl, trivial⟩ ?_
  refine Run.ite rfl hF (fun e1 hF => ?_) (fun e1 hF => ?_)
  ·
    refine Run.skip ?_
    refine Run.seq ?_
    refine Run.block ?_
    refine Run.reg ?_
    refine RunL.op (OpS.mv rfl rfl rfl ?_)
    refine RunL.op (OpS.mv rfl rfl rfl ?_)
    refine RunL.op (OpS.mv rfl rfl rfl ?_)
    obtain ⟨x1, e2, hF⟩ := bindP_use hF
    refine RunL.op (OpS.iptr h2 Try.underlying22 ty5 rfl rfl rfl rfl (V.at .z) e2 (fun u2 h3 => ?_))
    refine RunL.op (OpS.loadi h3 ty5 rfl rfl rfl .z ?_)
    refine RunL.op (OpS.lit (r := (Rep.int .u8)) (f := true) h3 Try.underlying22 ti5 rfl rfl rfl rfl rfl (.cons rfl V.int .nil) rfl rfl (fun u3 w2 h4 => ?_))
    obtain ⟨x2, e3, hF⟩ := bindP_use hF
    refine RunL.op (OpS.app (f' := true) h4 .z Try.underlying22 ti5 rfl rfl rfl rfl rfl rfl rfl (V.at .z) (.inr Pure.int) e3 (fun u4 w3 h5 => ?_))
    refine RunL.op (OpS.as rfl rfl rfl ?_)
    refine RunL.nil ?_
    refine Run.slim [(3, u4), (0, v0), (4, .int .i64 s1.1)] ⟨rfl, rfl, rfl, trivial⟩ ?_
    refine Run.endBlock ?_
    refine Run.reg ?_
    refine RunL.op (OpS.mv rfl rfl rfl ?_)
    refine RunL.op (OpS.bin rfl rfl rfl rfl rfl ?_)
    refine RunL.op (OpS.as rfl rfl rfl ?_)
    obtain ⟨x3, e4, hF⟩ := letP_use hF
    refine RunL.name e4 ?_
    refine RunL.nil ?_
    refine Run.slim [(4, .int .i64 x3), (3, u4), (0, v0)] ⟨rfl, rfl, rfl, trivial⟩ ?_
    refine Run.slim [(0, v0), (3, u4), (4, .int .i64 x3)] ⟨rfl, rfl, rfl, trivial⟩ ?_
    exact hk1 (x3, x2) _ _ ⟨u4, rfl, (h5.facts (.atm (.s (.s .z)) .nil)).picks (.cons .z .nil)⟩ hF
  ·
    refine Run.exit rfl ?_
    refine Run.seq ?_
    refine Run.reg ?_
    refine RunL.op (OpS.mv rfl rfl rfl ?_)
    refine RunL.op (OpS.as rfl rfl rfl ?_)
    refine RunL.nil ?_
    refine Run.slim [(2, u1)] ⟨rfl, trivial⟩ ?_
    refine Run.retP rfl (.tmp rfl .nil) ?_
    cases hF
    exact Post.mk' ⟨u1, rfl, rfl, rfl, rfl⟩ (h2.picks (.cons .z .nil)) .nil
theorem ref01_CRC8_ok {fuel : Nat} {a0 : List Int} {y : Int} (hF : ref01_CRC8 fuel a0 = some y) {w : World} {v0 : Value} :
    Spec Try.prog 33 [v0].toArray w [(false, .val (Rep.slice (Rep.int .u8)) v0 a0)] [] (fun v Γr Ωr Ωo => v = .int .u8 y ∧ Γr = [] ∧ Ωr = [] ∧ Ωo = []) := by
  refine Spec.of (L := [(0, v0)]) Try.func33 rfl ⟨rfl, trivial⟩ rfl (fun e h => ?_)
  unfold ref01_CRC8 at hF
  refine Run.seq ?_
  refine Run.reg ?_
  refine RunL.op (OpS.as rfl rfl rfl ?_)
  refine RunL.nil ?_
  refine Run.slim [(0, v0)] ⟨rfl, trivial⟩ ?_
  refine Run.seq ?_
  refine Run.reg ?_
  refine RunL.op (OpS.as rfl rfl rfl ?_)
  refine RunL.nil ?_
  refine Run.seq ?_
  refine Run.seq ?_
  refine Run.reg ?_
  refine RunL.op (OpS.as rfl rfl rfl ?_)
  refine RunL.nil ?_
  refine Run.block ?_
  refine Run.slim [(0, v0), (3, .int .i64 0), (4, .int .i64 0)] ⟨rfl, rfl, rfl, trivial⟩ ?_
  refine Run.loopP (σ := (Int × Int)) (fun s_ L_ w_ => L_ = [(0, v0), (3, .int .i64 s_.1), (4, .int .i64 s_.2)] ∧ St e w_ [(false, .val (Rep.slice (Rep.int .u8)) v0 a0)] []) hF ⟨rfl, (h.facts (.atm .z .nil)).picks .nil⟩ (fun k1 hk1 s1 _ w1 hI hF => ?_)
  obtain ⟨rfl, h1⟩ := hI
  refine Run.seq ?_
  refine Run.seq ?_
  refine Run.reg ?_
  refine RunL.op (OpS.mv rfl rfl rfl ?_)
  refine RunL.op (OpS.mv rfl rfl rfl ?_)
  refine RunL.op (OpS.len h1 Try.underlying22 rfl rfl rfl (V.at .z) ?_)
  refine RunL.op (OpS.bin rfl rfl rfl rfl rfl ?_)
  refine RunL.nil ?_
  refine Run.slim [(9, .bool (decide (s1.2 < (a0.length : Int)))), (0, v0), (3, .int .i64 s1.1), (4, .int .i64 s1.2)] ⟨rfl, rfl, rfl, rfl, trivial⟩ ?_
  refine Run.ite rfl hF (fun e1 hF => ?_) (fun e1 hF => ?_)
  ·
    refine Run.skip ?_
    refine Run.seq ?_
    refine Run.block ?_
    refine Run.seq ?_
    refine Run.reg ?_
    refine RunL.op (OpS.mv rfl rfl rfl ?_)
    refine RunL.op (OpS.mv rfl rfl rfl ?_)
    refine RunL.op (OpS.mv rfl rfl rfl ?_)
    obtain ⟨x1, e2, hF⟩ := bindP_use hF
    refine RunL.op (OpS.iptr h1 Try.underlying22 ty5 rfl rfl rfl rfl (V.at .z) e2 (fun u1 h2 => ?_))
    refine RunL.op (OpS.loadi h2 ty5 rfl rfl rfl .z ?_)
    refine RunL.op (OpS.conv Try.underlying5 Try.underlying3 rfl rfl rfl ?_)
    refine RunL.op (OpS.bin rfl rfl rfl rfl rfl ?_)
    refine RunL.op (OpS.as rfl rfl rfl ?_)
    obtain ⟨x2, e3, hF⟩ := letP_use hF
    refine RunL.name e3 ?_
    refine RunL.nil ?_
    refine Run.slim [(3, .int .i64 x2), (0, v0), (4, .int .i64 s1.2)] ⟨rfl, rfl, rfl, trivial⟩ ?_
    refine Run.seq ?_
    refine Run.reg ?_
    refine RunL.op (OpS.as rfl rfl rfl ?_)
    refine RunL.nil ?_
    refine Run.block ?_
    refine Run.slim [(0, v0), (3, .int .i64 x2), (4, .int .i64 s1.2), (5, .int .i64 0)] ⟨rfl, rfl, rfl, rfl, trivial⟩ ?_
    refine Run.loopP (σ := (Int × Int)) (fun s_ L_ w_ => L_ = [(0, v0), (3, .int .i64 s_.1), (4, .int .i64 s1.2), (5, .int .i64 s_.2)] ∧ St e w_ [(false, .val (Rep.slice (Rep.int .u8)) v0 a0)] []) hF ⟨rfl, (h2.facts (.atm (.s .z) .nil)).picks .nil⟩ (fun k2 hk2 s2 _ w2 hI hF => ?_)
    obtain ⟨rfl, h3⟩ := hI
    refine Run.seq ?_
    refine Run.seq ?_
    refine Run.reg ?_
    refine RunL.op (OpS.mv rfl rfl rfl ?_)
    refine RunL.op (OpS.bin rfl rfl rfl rfl rfl ?_)
    refine RunL.nil ?_
    refine Run.slim [(20, .bool (decide (s2.2 < 8))), (0, v0), (3, .int .i64 s2.1), (4, .int .i64 s1.2), (5, .int .i64 s2.2)] ⟨rfl, rfl, rfl, rfl, rfl, trivial⟩ ?_
    refine Run.ite rfl hF (fun e4 hF => ?_) (fun e4 hF => ?_)
    ·
      refine Run.skip ?_
      refine Run.seq ?_
      refine Run.block ?_
      refine Run.seq ?_
      refine Run.reg ?_
      refine RunL.op (OpS.mv rfl rfl rfl ?_)
      refine RunL.op (OpS.bin rfl rfl rfl rfl rfl ?_)
      refine RunL.op (OpS.as rfl rfl rfl ?_)
      obtain ⟨x3, e5, hF⟩ := letP_use hF
      refine RunL.name e5 ?_
      refine RunL.nil ?_
      refine Run.slim [(3, .int .i64 x3), (0, v0), (4, .int .i64 s1.2), (5, .int .i64 s2.2)] ⟨rfl, rfl, rfl, rfl, trivial⟩ ?_
      refine Run.seq ?_
      refine Run.reg ?_
      refine RunL.op (OpS.mv rfl rfl rfl ?_)
      refine RunL.op (OpS.bin rfl rfl rfl rfl rfl ?_)
      refine RunL.nil ?_
      refine Run.slim [(26, .bool (decide (x3 ≥ 256))), (3, .int .i64 x3), (0, v0), (4, .int .i64 s1.2), (5, .int .i64 s2.2)] ⟨rfl, rfl, rfl, rfl, rfl, trivial⟩ ?_
      refine Run.ite rfl hF (fun e6 hF => ?_) (fun e6 hF => ?_)
      ·
        refine Run.reg ?_
        refine RunL.op (OpS.mv rfl rfl rfl ?_)
        refine RunL.op (OpS.bin rfl rfl rfl rfl rfl ?_)
        refine RunL.op (OpS.bin rfl rfl rfl rfl rfl ?_)
        refine RunL.op (OpS.as rfl rfl rfl ?_)
        obtain ⟨x4, e7, hF⟩ := letP_use hF
        refine RunL.name e7 ?_
        refine RunL.nil ?_
        refine Run.slim [(3, .int .i64 x4), (0, v0), (4, .int .i64 s1.2), (5, .int .i64 s2.2)] ⟨rfl, rfl, rfl, rfl, trivial⟩ ?_
        refine Run.endBlock ?_
        refine Run.reg ?_
        refine RunL.op (OpS.mv rfl rfl rfl ?_)
        refine RunL.op (OpS.bin rfl rfl rfl rfl rfl ?_)
        refine RunL.op (OpS.as rfl rfl rfl ?_)
        obtain ⟨x5, e8, hF⟩ := letP_use hF
        refine RunL.name e8 ?_
        refine RunL.nil ?_
        refine Run.slim [(5, .int .i64 x5), (3, .int .i64 x4), (0, v0), (4, .int .i64 s1.2)] ⟨rfl, rfl, rfl, rfl, trivial⟩ ?_
        refine Run.slim [(0, v0), (3, .int .i64 x4), (4, .int .i64 s1.2), (5, .int .i64 x5)] ⟨rfl, rfl, rfl, rfl, trivial⟩ ?_
        exact hk2 (x4, x5) _ _ ⟨rfl, (h3.facts (.atm .z .nil)).picks .nil⟩ hF
      ·
        refine Run.skip ?_
        refine Run.endBlock ?_
        refine Run.reg ?_
        refine RunL.op (OpS.mv rfl rfl rfl ?_)
        refine RunL.op (OpS.bin rfl rfl rfl rfl rfl ?_)
        refine RunL.op (OpS.as rfl rfl rfl ?_)
        obtain ⟨x6, e9, hF⟩ := letP_use hF
        refine RunL.name e9 ?_
        refine RunL.nil ?_
        refine Run.slim [(5, .int .i64 x6), (3, .int .i64 x3), (0, v0), (4, .int .i64 s1.2)] ⟨rfl, rfl, rfl, rfl, trivial⟩ ?_
        refine Run.slim [(0, v0), (3, .int .i64 x3), (4, .int .i64 s1.2), (5, .int .i64 x6)] ⟨rfl, rfl, rfl, rfl, trivial⟩ ?_
        exact hk2 (x3, x6) _ _ ⟨rfl, (h3.facts (.atm .z .nil)).picks .nil⟩ hF
    ·
      refine Run.exit rfl ?_
      refine Run.endBlock ?_
      refine Run.reg ?_
      refine RunL.op (OpS.mv rfl rfl rfl ?_)
      refine RunL.op (OpS.bin rfl rfl rfl rfl rfl ?_)
      refine RunL.op (OpS.as rfl rfl rfl ?_)
      obtain ⟨x7, e10, hF⟩ := letP_use hF
      refine RunL.name e10 ?_
      refine RunL.nil ?_
      refine Run.slim [(4, .int .i64 x7), (0, v0), (3, .int .i64 s2.1)] ⟨rfl, rfl, rfl, trivial⟩ ?_
      refine Run.slim [(0, v0), (3, .int .i64 s2.1), (4, .int .i64 x7)] ⟨rfl, rfl, rfl, trivial⟩ ?_
      exact hk1 (s2.1, x7) _ _ ⟨rfl, (h3.facts (.atm .z .nil)).picks .nil⟩ hF
  ·
    refine Run.exit rfl ?_
    refine Run.seq ?_
    refine Run.reg ?_
    refine RunL.op (OpS.mv rfl rfl rfl ?_)
    refine RunL.op (OpS.conv Try.underlying3 Try.underlying5 rfl rfl rfl ?_)
    refine RunL.op (OpS.as rfl rfl rfl ?_)
    refine RunL.nil ?_
    refine Run.slim [(2, .int .u8 (IntKind.u8.wrap s1.1))] ⟨rfl, trivial⟩ ?_
    refine Run.retP rfl (.tmp rfl .nil) ?_
    cases hF
    exact Post.mk' ⟨rfl, rfl, rfl, rfl⟩ (h1.picks .nil) .nil
theorem ref01_SealCRC8_ok {fuel : Nat} {a0 : List Int} {y : (List Int)} (hF : ref01_SealCRC8 fuel a0 = some y) {w : World} {v0 : Value} :
    Spec Try.prog 23 [v0].toArray w [(false, .val (Rep.slice (Rep.int .u8)) v0 a0)] [] (fun v Γr Ωr Ωo => ∃ u0 : Value, v = u0 ∧ Γr = [] ∧ Ωr = [(true, .slice 5 (Rep.int .u8) u0 y)] ∧ Ωo = []) := by
  refine Spec.of (L := [(0, v0)]) Try.func23 rfl ⟨rfl, trivial⟩ rfl (fun e h => ?_)
  unfold ref01_SealCRC8 at hF
  refine Run.seq ?_
  refine Run.reg ?_
  refine RunL.op (OpS.as rfl rfl rfl ?_)
  refine RunL.nil ?_
  refine Run.slim [(0, v0)] ⟨rfl, trivial⟩ ?_
  refine Run.seq ?_
  refine Run.reg ?_
  refine RunL.op (OpS.mv rfl rfl rfl ?_)
  obtain ⟨y1, e1, hF⟩ := bindP_use hF
  refine RunL.op (OpS.callP h Try.func32 rfl rfl rfl rfl (vs := [v0]) rfl (ref01_Copy_ok e1) (.cons (V.at .z) .nil) ?_)
  rintro u1 w1 _ _ _ ⟨_, rfl, rfl, rfl, rfl⟩ h1
  have h2 := h1 rfl rfl
  simp only [List.cons_append, List.nil_append] at h2
  refine RunL.op (OpS.mv rfl rfl rfl ?_)
  obtain ⟨y2, e2, hF⟩ := bindP_use hF
  refine RunL.op (OpS.callP h2 Try.func33 rfl rfl rfl rfl (vs := [v0]) rfl (ref01_CRC8_ok e2) (.cons (V.at .z) .nil) ?_)
  rintro _ w2 _ _ _ ⟨rfl, rfl, rfl, rfl⟩ h3
  have h4 := h3 rfl rfl
  simp only [List.cons_append, List.nil_append] at h4
  refine RunL.op (OpS.lit (r := (Rep.int .u8)) (f := true) h4 Try.underlying22 ti5 rfl rfl rfl rfl rfl (.cons rfl V.int .nil) rfl rfl (fun u2 w3 h5 => ?_))
  obtain ⟨x1, e3, hF⟩ := bindP_use hF
  refine RunL.op (OpS.app (f' := true) h5 .z Try.underlying22 ti5 rfl rfl rfl rfl rfl rfl rfl (V.at .z) (.inr Pure.int) e3 (fun u3 w4 h6 => ?_))
  refine RunL.op (OpS.as rfl rfl rfl ?_)
  refine RunL.nil ?_
  refine Run.slim [(2, u3)] ⟨rfl, trivial⟩ ?_
  refine Run.retP rfl (.tmp rfl .nil) ?_
  cases hF
  exact Post.mk' ⟨u3, rfl, rfl, rfl, rfl⟩ (h6.picks (.cons .z .nil)) .nil
theorem checksum_OpenCRC8_ok {fuel : Nat} {a0 : List Int} {y : (List Int) × Int} (hF : checksum_OpenCRC8 fuel a0 = some y) {w : World} {v0 : Value} :
    Spec Try.prog 34 [v0].toArray w [(false, .val (Rep.slice (Rep.int .u8)) v0 a0)] [] (fun v Γr Ωr Ωo => ∃ u0 : Value, v = .tuple #[u0, .int .i64 y.2] ∧ Γr = [] ∧ Ωr = [(true, .slice 5 (Rep.int .u8) u0 y.1)] ∧ Ωo = []) := by
  refine Spec.of (L := [(0, v0)]) Try.func34 rfl ⟨rfl, trivial⟩ rfl (fun e h => ?_)
  unfold checksum_OpenCRC8 at hF
  refine Run.seq ?_
  refine Run.reg ?_
  refine RunL.op (OpS.as rfl rfl rfl ?_)
  refine RunL.op (OpS.as rfl rfl rfl ?_)
  refine RunL.nil ?_
  refine Run.slim [(0, v0)] ⟨rfl, trivial⟩ ?_
  refine Run.seq ?_
  refine Run.reg ?_
  refine RunL.op (OpS.mv rfl rfl rfl ?_)
  refine RunL.op (OpS.len h Try.underlying22 rfl rfl rfl (V.at .z) ?_)
  refine RunL.op (OpS.bin rfl rfl rfl rfl rfl ?_)
  refine RunL.op (OpS.as rfl rfl rfl ?_)
  obtain ⟨x1, e1, hF⟩ := letP_use hF
  refine RunL.name e1 ?_
  refine RunL.nil ?_
  refine Run.slim [(4, .int .i64 x1), (0, v0)] ⟨rfl, rfl, trivial⟩ ?_
  refine Run.seq ?_
  refine Run.block ?_
  refine Run.seq ?_
  refine Run.reg ?_
  refine RunL.op (OpS.mv rfl rfl rfl ?_)
  refine RunL.op (OpS.bin rfl rfl rfl rfl rfl ?_)
  refine RunL.op (OpS.as rfl rfl rfl ?_)
  obtain ⟨x2, e2, hF⟩ := letP_use hF
  refine RunL.nameb e2 ?_
  refine RunL.nil ?_
  refine Run.slim [(8, .bool x2), (4, .int .i64 x1), (0, v0)] ⟨rfl, rfl, rfl, trivial⟩ ?_
  refine Run.ite rfl hF (fun e3 hF => ?_) (fun e3 hF => ?_)
  ·
    refine Run.seq ?_
    refine Run.reg ?_
    refine RunL.op (OpS.as rfl rfl rfl ?_)
    refine RunL.op (OpS.as rfl rfl rfl ?_)
    refine RunL.nil ?_
    refine Run.slim [(3, .int .i64 4), (2, .slice none 0 0)] ⟨rfl, rfl, trivial⟩ ?_
    have h1 := St.nil 5 (Rep.int .u8) h
    refine Run.retP rfl (.tmp rfl (.tmp rfl .nil)) ?_
    cases hF
    exact Post.mk' ⟨(.slice none 0 0), rfl, rfl, rfl, rfl⟩ (h1.picks (.cons .z .nil)) .nil
  ·
    refine Run.seq ?_
    obtain ⟨x3, e4, hF⟩ := bindP_use hF
    obtain ⟨y1, e5, hF⟩ := bindP_use hF
    obtain ⟨x4, e6, hF⟩ := bindP_use hF
    refine Run.drawV (Ωs := []) [⟨12, some (v0), fun _ => [], fun _ => [], false⟩, ⟨13, some (.int .i64 x1), fun _ => [], fun _ => [], false⟩, ⟨14, none, fun u_ => [(false, .val (Rep.slice (Rep.int .u8)) u_ x3)], fun u_ => [], false⟩, ⟨15, some (.int .u8 y1), fun _ => [], fun _ => [], false⟩, ⟨16, some (v0), fun _ => [], fun _ => [], false⟩, ⟨17, some (.int .i64 x1), fun _ => [], fun _ => [], false⟩, ⟨18, none, fun u_ => [(false, .ptr (Rep.int .u8) u_ x4)], fun u_ => [], false⟩, ⟨19, some (.int .u8 x4), fun _ => [], fun _ => [], false⟩, ⟨20, some (.bool (y1 != x4)), fun _ => [], fun _ => [], false⟩, ⟨11, some (.bool (y1 != x4)), fun _ => [], fun _ => [], false⟩] [[], [], [0, 1], [2], [], [], [4, 5], [6], [3, 7], [8]] Try_mixed rfl rfl h (.cons ?_ (.cons ?_ (.cons ?_ (.cons ?_ (.cons ?_ (.cons ?_ (.cons ?_ (.cons ?_ (.cons ?_ (.cons ?_ .nil)))))))))) (fun q1 w h => ?_)
    · intro q1 w Γx Ωx h
      refine OpS.mv rfl rfl rfl ?_
      exact ⟨undef, rfl, h⟩
    · intro q1 w Γx Ωx h
      refine OpS.mv rfl rfl rfl ?_
      exact ⟨undef, rfl, h⟩
    · intro q1 w Γx Ωx h
      refine OpS.sub h Try.underlying22 ty5 rfl rfl rfl rfl rfl (V.at .z) e4 (fun u h6 => ?_)
      exact ⟨u, rfl, h6⟩
    · intro q1 w Γx Ωx h
      refine OpS.callP h Try.func38 rfl rfl rfl rfl (vs := [(q1 2)]) rfl (checksum_CRC8_ok e5) (.cons (V.at .z) .nil) ?_
      rintro _ w2 _ _ _ ⟨rfl, rfl, rfl, rfl⟩ h7
      have h8 := h7 rfl rfl
      simp only [List.cons_append, List.nil_append] at h8
      exact ⟨undef, rfl, h8⟩
    · intro q1 w Γx Ωx h
      refine OpS.mv rfl rfl rfl ?_
      exact ⟨undef, rfl, h⟩
    · intro q1 w Γx Ωx h
      refine OpS.mv rfl rfl rfl ?_
      exact ⟨undef, rfl, h⟩
    · intro q1 w Γx Ωx h
      refine OpS.iptr h Try.underlying22 ty5 rfl rfl rfl rfl (V.at .z) e6 (fun u h9 => ?_)
      exact ⟨u, rfl, h9⟩
    · intro q1 w Γx Ωx h
      refine OpS.loadi h ty5 rfl rfl rfl .z ?_
      exact ⟨undef, rfl, h⟩
    · intro q1 w Γx Ωx h
      refine OpS.bin rfl rfl rfl rfl rfl ?_
      exact ⟨undef, rfl, h⟩
    · intro q1 w Γx Ωx h
      refine OpS.as rfl rfl rfl ?_
      exact ⟨undef, rfl, h⟩
    have h10 : St e w [(false, .val (Rep.slice (Rep.int .u8)) (q1 2) x3), (false, .ptr (Rep.int .u8) (q1 6) x4), (false, .val (Rep.slice (Rep.int .u8)) v0 a0)] [] := h
    refine RunL.nil ?_
    refine Run.slim [(11, .bool (y1 != x4)), (4, .int .i64 x1), (0, v0)] ⟨rfl, rfl, rfl, trivial⟩ ?_
    refine Run.ite rfl hF (fun e7 hF => ?_) (fun e7 hF => ?_)
    ·
      refine Run.seq ?_
      refine Run.reg ?_
      refine RunL.op (OpS.as rfl rfl rfl ?_)
      refine RunL.op (OpS.as rfl rfl rfl ?_)
      refine RunL.nil ?_
      refine Run.slim [(3, .int .i64 5), (2, .slice none 0 0)] ⟨rfl, rfl, trivial⟩ ?_
      have h11 := St.nil 5 (Rep.int .u8) h10
      refine Run.retP rfl (.tmp rfl (.tmp rfl .nil)) ?_
      cases hF
      exact Post.mk' ⟨(.slice none 0 0), rfl, rfl, rfl, rfl⟩ (h11.picks (.cons .z .nil)) .nil
    ·
      refine Run.skip ?_
      refine Run.endBlock ?_
      refine Run.seq ?_
      refine Run.reg ?_
      refine RunL.op (OpS.mv rfl rfl rfl ?_)
      refine RunL.op (OpS.mv rfl rfl rfl ?_)
      obtain ⟨x5, e8, hF⟩ := bindP_use hF
      refine RunL.op (OpS.sub h10 Try.underlying22 ty5 rfl rfl rfl rfl rfl (V.at (.s (.s .z))) e8 (fun u1 h12 => ?_))
      obtain ⟨y2, e9, hF⟩ := bindP_use hF
      refine RunL.op (OpS.callP h12 Try.func35 rfl rfl rfl rfl (vs := [u1]) rfl (slices_Clone_byte_byte_ok e9) (.cons (V.at .z) .nil) ?_)
      rintro u2 w3 _ _ _ ⟨_, rfl, rfl, rfl, rfl⟩ h13
      have h14 := h13 rfl rfl
      simp only [List.cons_append, List.nil_append] at h14
      refine RunL.op (OpS.as rfl rfl rfl ?_)
      refine RunL.op (OpS.as rfl rfl rfl ?_)
      refine RunL.nil ?_
      refine Run.slim [(3, .int .i64 0), (2, u2)] ⟨rfl, rfl, trivial⟩ ?_
      refine Run.retP rfl (.tmp rfl (.tmp rfl .nil)) ?_
      cases hF
      exact Post.mk' ⟨u2, rfl, rfl, rfl, rfl⟩ (h14.picks (.cons .z .nil)) .nil
theorem frame_Decode_ok {fuel : Nat} {a0 : List Int} {y : Frame_ × Int} (hF : frame_Decode fuel a0 = some y) {w : World} {v0 : Value} :
    Spec Try.prog 24 [v0].toArray w [(false, .val (Rep.slice (Rep.int .u8)) v0 a0)] [] (fun v Γr Ωr Ωo => ∃ u0 : Value, v = .tuple #[u0, .int .i64 y.2] ∧ Γr = [(true, .val Frame_.rep u0 y.1)] ∧ Ωr = [] ∧ Ωo = []) := by
  refine Spec.of (L := [(0, v0)]) Try.func24 rfl ⟨rfl, trivial⟩ rfl (fun e h => ?_)
  unfold frame_Decode at hF
  refine Run.seq ?_
  refine Run.reg ?_
  refine RunL.op (OpS.alloc h ti30 Frame_.zr rfl rfl (fun u1 w1 h1 => ?_))
  refine RunL.op (OpS.as rfl rfl rfl ?_)
  refine RunL.nil ?_
  refine Run.slim [(2, u1), (0, v0)] ⟨rfl, rfl, trivial⟩ ?_
  refine Run.seq ?_
  refine Run.seq ?_
  refine Run.reg ?_
  refine RunL.op (OpS.mv rfl rfl rfl ?_)
  refine RunL.op (OpS.len h1 Try.underlying22 rfl rfl rfl (V.at .z) ?_)
  refine RunL.op (OpS.bin rfl rfl rfl rfl rfl ?_)
  refine RunL.nil ?_
  refine Run.slim [(9, .bool (decide ((a0.length : Int) < 5))), (2, u1), (0, v0)] ⟨rfl, rfl, rfl, trivial⟩ ?_
  refine Run.ite rfl hF (fun e1 hF => ?_) (fun e1 hF => ?_)
  ·
    refine Run.seq ?_
    refine Run.reg ?_
    refine RunL.op (OpS.build (f := true) (x' := Frame_.z) h1 pl30 ti30 Frame_.zr rfl rfl rfl .nil (fun u2 h2 => ?_))
    refine RunL.op (OpS.storeB (f' := true) h2 .z PA.z Put.id ty30 rfl rfl rfl (V.at .z) (.inl rfl) (fun w2 h3 => ?_))
    refine RunL.op (OpS.as rfl rfl rfl ?_)
    refine RunL.nil ?_
    refine Run.slim [(3, .int .i64 4), (2, u1)] ⟨rfl, rfl, trivial⟩ ?_
    obtain ⟨u3, hu1, h4⟩ := res_box h3 .z ty30
    refine Run.retP rfl (.cell rfl hu1 (.tmp rfl .nil)) ?_
    cases hF
    exact Post.mk' ⟨u3, rfl, rfl, rfl, rfl⟩ (h4.picks .nil) (.val (V.at .z) .nil)
  ·
    refine Run.skip ?_
    refine Run.seq ?_
    refine Run.reg ?_
    refine RunL.op (OpS.mv rfl rfl rfl ?_)
    refine RunL.op (OpS.len h1 Try.underlying22 rfl rfl rfl (V.at .z) ?_)
    refine RunL.op (OpS.as rfl rfl rfl ?_)
    refine RunL.nil ?_
    refine Run.slim [(4, .int .i64 (a0.length : Int)), (2, u1), (0, v0)] ⟨rfl, rfl, rfl, trivial⟩ ?_
    refine Run.seq ?_
    refine Run.reg ?_
    refine RunL.op (OpS.mv rfl rfl rfl ?_)
    obtain ⟨y1, e2, hF⟩ := bindP_use hF
    refine RunL.op (OpS.callP h1 Try.func34 rfl rfl rfl rfl (vs := [v0]) rfl (checksum_OpenCRC8_ok e2) (.cons (V.at .z) .nil) ?_)
    rintro _ w3 _ _ _ ⟨u4, rfl, rfl, rfl, rfl⟩ h5
    have h6 := h5 rfl rfl
    simp only [List.cons_append, List.nil_append] at h6
    refine RunL.op (OpS.mv rfl rfl rfl ?_)
    refine RunL.op (OpS.ext rfl rfl rfl rfl ?_)
    refine RunL.op (OpS.ext rfl rfl rfl rfl ?_)
    refine RunL.op (OpS.as rfl rfl rfl ?_)
    have h7 := (h6.pick .z).freeze
    refine RunL.op (OpS.as rfl rfl rfl ?_)
    refine RunL.nil ?_
    refine Run.slim [(5, .int .i64 y1.2), (0, u4), (4, .int .i64 (a0.length : Int)), (2, u1)] ⟨rfl, rfl, rfl, rfl, trivial⟩ ?_
    refine Run.seq ?_
    refine Run.seq ?_
    refine Run.reg ?_
    refine RunL.op (OpS.mv rfl rfl rfl ?_)
    refine RunL.op (OpS.bin rfl rfl rfl rfl rfl ?_)
    refine RunL.nil ?_
    refine Run.slim [(19, .bool (y1.2 != 0)), (5, .int .i64 y1.2), (0, u4), (4, .int .i64 (a0.length : Int)), (2, u1)] ⟨rfl, rfl, rfl, rfl, rfl, trivial⟩ ?_
    refine Run.ite rfl hF (fun e3 hF => ?_) (fun e3 hF => ?_)
    ·
      refine Run.seq ?_
      refine Run.reg ?_
      refine RunL.op (OpS.build (f := true) (x' := Frame_.z) h7 pl30 ti30 Frame_.zr rfl rfl rfl .nil (fun u5 h8 => ?_))
      refine RunL.op (OpS.mv rfl rfl rfl ?_)
      refine RunL.op (OpS.storeB (f' := true) h8 .z PA.z Put.id ty30 rfl rfl rfl (V.at .z) (.inl rfl) (fun w4 h9 => ?_))
      refine RunL.op (OpS.as rfl rfl rfl ?_)
      refine RunL.nil ?_
      refine Run.slim [(3, .int .i64 y1.2), (2, u1)] ⟨rfl, rfl, trivial⟩ ?_
      obtain ⟨u6, hu2, h10⟩ := res_box h9 .z ty30
      refine Run.retP rfl (.cell rfl hu2 (.tmp rfl .nil)) ?_
      cases hF
      exact Post.mk' ⟨u6, rfl, rfl, rfl, rfl⟩ (h10.picks .nil) (.val (V.at .z) .nil)
    ·
      refine Run.skip ?_
      refine Run.seq ?_
      obtain ⟨x1, e4, hF⟩ := bindP_use hF
      obtain ⟨x2, e5, hF⟩ := bindP_use hF
      obtain ⟨x3, e6, hF⟩ := bindP_use hF
      obtain ⟨y2, e7, hF⟩ := bindP_use hF
      refine Run.drawV (Ωs := [(true, .box 30 Frame_.rep u1 Frame_.z)]) [⟨22, some (u4), fun _ => [], fun _ => [], false⟩, ⟨23, none, fun u_ => [(true, .ptr (Rep.int .u8) u_ x1)], fun u_ => [], false⟩, ⟨24, some (.int .u8 x1), fun _ => [], fun _ => [], false⟩, ⟨25, some (.int .u8 (IntKind.u8.wrap (Int.tdiv x1 2))), fun _ => [], fun _ => [], false⟩, ⟨26, some (u4), fun _ => [], fun _ => [], false⟩, ⟨27, none, fun u_ => [(true, .ptr (Rep.int .u8) u_ x2)], fun u_ => [], false⟩, ⟨28, some (.int .u8 x2), fun _ => [], fun _ => [], false⟩, ⟨29, some (.int .u8 (IntKind.u8.wrap (Int.tdiv x2 2))), fun _ => [], fun _ => [], false⟩, ⟨30, some (u4), fun _ => [], fun _ => [], false⟩, ⟨31, none, fun u_ => [(true, .val (Rep.slice (Rep.int .u8)) u_ x3)], fun u_ => [], false⟩, ⟨32, none, fun u_ => [(true, .val (Rep.slice (Rep.int .u8)) u_ y2)], fun u_ => [], false⟩, ⟨33, none, fun u_ => [(true, .val Frame_.rep u_ (⟨(IntKind.u8.wrap (Int.tdiv x1 2)), (IntKind.u8.wrap (Int.tdiv x2 2)), y2⟩ : Frame_))], fun u_ => [], false⟩, ⟨6, none, fun u_ => [], fun u_ => [(true, .box 30 Frame_.rep u_ Frame_.z)], false⟩] [[], [0], [1], [2], [], [4], [5], [6], [], [8], [9], [3, 7, 10], []] Try_mixed rfl rfl h7 (.cons ?_ (.cons ?_ (.cons ?_ (.cons ?_ (.cons ?_ (.cons ?_ (.cons ?_ (.cons ?_ (.cons ?_ (.cons ?_ (.cons ?_ (.cons ?_ (.cons ?_ .nil))))))))))))) (fun q1 w h => ?_)
      · intro q1 w Γx Ωx h
        refine OpS.mv rfl rfl rfl ?_
        exact ⟨undef, rfl, h⟩
      · intro q1 w Γx Ωx h
        refine OpS.iptr h Try.underlying22 ty5 rfl rfl rfl rfl (V.at .z) e4 (fun u h19 => ?_)
        exact ⟨u, rfl, h19⟩
      · intro q1 w Γx Ωx h
        refine OpS.loadi h ty5 rfl rfl rfl .z ?_
        exact ⟨undef, rfl, h⟩
      · intro q1 w Γx Ωx h
        refine OpS.quo rfl rfl rfl rfl (by decide) ?_
        exact ⟨undef, rfl, h⟩
      · intro q1 w Γx Ωx h
        refine OpS.mv rfl rfl rfl ?_
        exact ⟨undef, rfl, h⟩
      · intro q1 w Γx Ωx h
        refine OpS.iptr h Try.underlying22 ty5 rfl rfl rfl rfl (V.at .z) e5 (fun u h20 => ?_)
        exact ⟨u, rfl, h20⟩
      · intro q1 w Γx Ωx h
        refine OpS.loadi h ty5 rfl rfl rfl .z ?_
        exact ⟨undef, rfl, h⟩
      · intro q1 w Γx Ωx h
        refine OpS.quo rfl rfl rfl rfl (by decide) ?_
        exact ⟨undef, rfl, h⟩
      · intro q1 w Γx Ωx h
        refine OpS.mv rfl rfl rfl ?_
        exact ⟨undef, rfl, h⟩
      · intro q1 w Γx Ωx h
        refine OpS.sub h Try.underlying22 ty5 rfl rfl rfl rfl rfl (V.at .z) e6 (fun u h21 => ?_)
        exact ⟨u, rfl, h21⟩
      · intro q1 w Γx Ωx h
        refine OpS.callP h Try.func35 rfl rfl rfl rfl (vs := [(q1 9)]) rfl (slices_Clone_byte_byte_ok e7) (.cons (V.at .z) .nil) ?_
        rintro u w7 _ _ _ ⟨_, rfl, rfl, rfl, rfl⟩ h22
        have h23 := h22 rfl rfl
        simp only [List.cons_append, List.nil_append] at h23
        have h24 := h23.freeze
        exact ⟨u, rfl, h24⟩
      · intro q1 w Γx Ωx h
        refine OpS.build (f := true) (x' := (⟨(IntKind.u8.wrap (Int.tdiv x1 2)), (IntKind.u8.wrap (Int.tdiv x2 2)), y2⟩ : Frame_)) h pl30 ti30 Frame_.zr rfl rfl rfl (.cons rfl Frame_.f0 rfl V.int (.cons rfl Frame_.f1 rfl V.int (.cons rfl Frame_.f2 rfl (V.at .z) .nil))) (fun u h25 => ?_)
        exact ⟨u, rfl, h25⟩
      · intro q1 w Γx Ωx h
        refine OpS.alloc h ti30 Frame_.zr rfl rfl (fun u w8 h26 => ?_)
        exact ⟨u, rfl, h26⟩
      have h27 : St e w [(true, .ptr (Rep.int .u8) (q1 1) x1), (true, .ptr (Rep.int .u8) (q1 5) x2), (true, .val (Rep.slice (Rep.int .u8)) (q1 9) x3), (true, .val (Rep.slice (Rep.int .u8)) (q1 10) y2), (true, .val Frame_.rep (q1 11) (⟨(IntKind.u8.wrap (Int.tdiv x1 2)), (IntKind.u8.wrap (Int.tdiv x2 2)), y2⟩ : Frame_)), (true, .val (Rep.slice (Rep.int .u8)) u4 y1.1), (false, .val (Rep.slice (Rep.int .u8)) v0 a0)] [(true, .box 30 Frame_.rep (q1 12) Frame_.z), (true, .box 30 Frame_.rep u1 Frame_.z)] := h
      refine RunL.op (OpS.storeB (f' := true) h27 .z PA.z Put.id ty30 rfl rfl rfl (V.at (.s (.s (.s (.s .z))))) (.inl rfl) (fun w9 h28 => ?_))
      refine RunL.nil ?_
      refine Run.slim [(6, (q1 12)), (0, u4), (4, .int .i64 (a0.length : Int)), (2, u1)] ⟨rfl, rfl, rfl, rfl, trivial⟩ ?_
      refine Run.seq ?_
      refine Run.block ?_
      refine Run.seq ?_
      refine Run.reg ?_
      refine RunL.op (OpS.mv rfl rfl rfl ?_)
      obtain ⟨x4, e8, hF⟩ := bindP_use hF
      refine RunL.op (OpS.iptr h28 Try.underlying22 ty5 rfl rfl rfl rfl (V.at (.s (.s (.s (.s (.s .z)))))) e8 (fun u7 h29 => ?_))
      refine RunL.op (OpS.loadi h29 ty5 rfl rfl rfl .z ?_)
      refine RunL.op (OpS.rem rfl rfl rfl rfl (by decide) ?_)
      refine RunL.op (OpS.bin rfl rfl rfl rfl rfl ?_)
      refine RunL.op (OpS.mv rfl rfl rfl ?_)
      refine RunL.join (σ := Bool) (fun s_ L_ w_ => L_ = [(2, u1), (6, (q1 12)), (34, .bool s_)] ∧ St e w_ [] [(true, .box 30 Frame_.rep u1 Frame_.z), (true, .box 30 Frame_.rep (q1 12) (⟨(IntKind.u8.wrap (Int.tdiv x1 2)), (IntKind.u8.wrap (Int.tdiv x2 2)), y2⟩ : Frame_))]) hF (fun s1 _ w10 hI hF => ?_) (fun j1 hj1 hF => ?_)
      ·
        obtain ⟨rfl, h30⟩ := hI
        refine Run.ite rfl hF (fun e9 hF => ?_) (fun e9 hF => ?_)
        ·
          refine Run.seq ?_
          refine Run.reg ?_
          refine RunL.op (OpS.build (f := true) (x' := Frame_.z) h30 pl30 ti30 Frame_.zr rfl rfl rfl .nil (fun u8 h31 => ?_))
          refine RunL.op (OpS.storeB (f' := true) h31 .z PA.z Put.id ty30 rfl rfl rfl (V.at .z) (.inl rfl) (fun w11 h32 => ?_))
          refine RunL.op (OpS.as rfl rfl rfl ?_)
          refine RunL.nil ?_
          refine Run.slim [(3, .int .i64 6), (2, u1)] ⟨rfl, rfl, trivial⟩ ?_
          obtain ⟨u9, hu3, h33⟩ := res_box h32 .z ty30
          refine Run.retP rfl (.cell rfl hu3 (.tmp rfl .nil)) ?_
          cases hF
          exact Post.mk' ⟨u9, rfl, rfl, rfl, rfl⟩ (h33.picks .nil) (.val (V.at .z) .nil)
        ·
          refine Run.seq ?_
          refine Run.reg ?_
          refine RunL.op (OpS.fbox (o3 := 0) h30 (.s .z) PA.z fa30_0 rfl rfl rfl rfl ?_)
          refine RunL.op (OpS.loadBi h30 (.s .z) PA.a (Get.fld Frame_.f0) ty5 rfl rfl rfl ?_)
          obtain ⟨y3, e10, hF⟩ := bindP_use hF
          refine RunL.op (OpS.callP h30 Try.func30 rfl rfl rfl rfl (vs := [.int .u8 ((⟨(IntKind.u8.wrap (Int.tdiv x1 2)), (IntKind.u8.wrap (Int.tdiv x2 2)), y2⟩ : Frame_).To)]) rfl (frame_address_ok e10) .nil ?_)
          rintro _ w12 _ _ _ ⟨rfl, rfl, rfl, rfl⟩ h34
          have h35 := h34 rfl rfl
          simp only [List.cons_append, List.nil_append] at h35
          refine RunL.op (OpS.not rfl rfl rfl ?_)
          refine RunL.op (OpS.mv rfl rfl rfl ?_)
          refine RunL.join (σ := Bool) (fun s_ L_ w_ => L_ = [(2, u1), (6, (q1 12)), (63, .bool s_)] ∧ St e w_ [] [(true, .box 30 Frame_.rep u1 Frame_.z), (true, .box 30 Frame_.rep (q1 12) (⟨(IntKind.u8.wrap (Int.tdiv x1 2)), (IntKind.u8.wrap (Int.tdiv x2 2)), y2⟩ : Frame_))]) hF (fun s2 _ w13 hI hF => ?_) (fun j2 hj2 hF => ?_)
          ·
            obtain ⟨rfl, h36⟩ := hI
            refine Run.ite rfl hF (fun e11 hF => ?_) (fun e11 hF => ?_)
            ·
              refine Run.seq ?_
              refine Run.reg ?_
              refine RunL.op (OpS.build (f := true) (x' := Frame_.z) h36 pl30 ti30 Frame_.zr rfl rfl rfl .nil (fun u10 h37 => ?_))
              refine RunL.op (OpS.storeB (f' := true) h37 .z PA.z Put.id ty30 rfl rfl rfl (V.at .z) (.inl rfl) (fun w14 h38 => ?_))
              refine RunL.op (OpS.as rfl rfl rfl ?_)
              refine RunL.nil ?_
              refine Run.slim [(3, .int .i64 13), (2, u1)] ⟨rfl, rfl, trivial⟩ ?_
              obtain ⟨u11, hu4, h39⟩ := res_box h38 .z ty30
              refine Run.retP rfl (.cell rfl hu4 (.tmp rfl .nil)) ?_
              cases hF
              exact Post.mk' ⟨u11, rfl, rfl, rfl, rfl⟩ (h39.picks .nil) (.val (V.at .z) .nil)
            ·
              refine Run.seq ?_
              refine Run.reg ?_
              refine RunL.op (OpS.fbox (o3 := 2) h36 (.s .z) PA.z fa30_2 rfl rfl rfl rfl ?_)
              refine RunL.op (OpS.loadB h36 (.s .z) PA.a (Get.fld Frame_.f2) ty22 rfl rfl rfl (fun u12 h40 => ?_))
              refine RunL.op (OpS.len h40 Try.underlying22 rfl rfl rfl (V.at .z) ?_)
              refine RunL.op (OpS.bin rfl rfl rfl rfl rfl ?_)
              refine RunL.op (OpS.as rfl rfl rfl ?_)
              obtain ⟨x5, e12, hF⟩ := letP_use hF
              refine RunL.nameb e12 ?_
              refine RunL.nil ?_
              refine Run.slim [(75, .bool x5), (2, u1), (6, (q1 12))] ⟨rfl, rfl, rfl, trivial⟩ ?_
              refine Run.ite rfl hF (fun e13 hF => ?_) (fun e13 hF => ?_)
              ·
                refine Run.seq ?_
                refine Run.reg ?_
                refine RunL.op (OpS.build (f := true) (x' := Frame_.z) h40 pl30 ti30 Frame_.zr rfl rfl rfl .nil (fun u13 h41 => ?_))
                refine RunL.op (OpS.storeB (f' := true) h41 .z PA.z Put.id ty30 rfl rfl rfl (V.at .z) (.inl rfl) (fun w15 h42 => ?_))
                refine RunL.op (OpS.as rfl rfl rfl ?_)
                refine RunL.nil ?_
                refine Run.slim [(3, .int .i64 3), (2, u1)] ⟨rfl, rfl, trivial⟩ ?_
                obtain ⟨u14, hu5, h43⟩ := res_box h42 .z ty30
                refine Run.retP rfl (.cell rfl hu5 (.tmp rfl .nil)) ?_
                cases hF
                exact Post.mk' ⟨u14, rfl, rfl, rfl, rfl⟩ (h43.picks .nil) (.val (V.at .z) .nil)
              ·
                refine Run.skip ?_
                refine Run.endBlock ?_
                refine Run.seq ?_
                refine Run.reg ?_
                refine RunL.op (OpS.loadB h40 (.s .z) PA.z Get.id ty30 rfl rfl rfl (fun u15 h44 => ?_))
                refine RunL.op (OpS.storeB (f' := true) h44 .z PA.z Put.id ty30 rfl rfl rfl (V.at .z) (.inl rfl) (fun w16 h45 => ?_))
                refine RunL.op (OpS.as rfl rfl rfl ?_)
                refine RunL.nil ?_
                refine Run.slim [(3, .int .i64 0), (2, u1)] ⟨rfl, rfl, trivial⟩ ?_
                obtain ⟨u16, hu6, h46⟩ := res_box h45 .z ty30
                refine Run.retP rfl (.cell rfl hu6 (.tmp rfl .nil)) ?_
                cases hF
                exact Post.mk' ⟨u16, rfl, rfl, rfl, rfl⟩ (h46.picks .nil) (.val (V.at .z) .nil)
          ·
            refine RunL.caseb hF (fun e14 hF => ?_) (fun e14 hF => ?_)
            ·
              refine RunL.op (OpS.pass rfl rfl rfl ?_)
              refine RunL.op (OpS.pass rfl rfl rfl ?_)
              refine RunL.op (OpS.pass rfl rfl rfl ?_)
              refine RunL.op (OpS.pass rfl rfl rfl ?_)
              refine RunL.op (OpS.pick rfl rfl rfl rfl ?_)
              refine RunL.op (OpS.as rfl rfl rfl ?_)
              refine RunL.nil ?_
              refine Run.slim [(63, .bool true), (2, u1), (6, (q1 12))] ⟨rfl, rfl, rfl, trivial⟩ ?_
              refine Run.slim [(2, u1), (6, (q1 12)), (63, .bool true)] ⟨rfl, rfl, rfl, trivial⟩ ?_
              exact hj2 (true) _ _ ⟨rfl, (h35.facts .nil).picks (.cons .z (.cons .z .nil))⟩ hF
            ·
              refine RunL.op (OpS.fbox (o3 := 1) h35 (.s .z) PA.z fa30_1 rfl rfl rfl rfl ?_)
              refine RunL.op (OpS.loadBi h35 (.s .z) PA.a (Get.fld Frame_.f1) ty5 rfl rfl rfl ?_)
              obtain ⟨y4, e15, hF⟩ := bindP_use hF
              refine RunL.op (OpS.callP h35 Try.func30 rfl rfl rfl rfl (vs := [.int .u8 ((⟨(IntKind.u8.wrap (Int.tdiv x1 2)), (IntKind.u8.wrap (Int.tdiv x2 2)), y2⟩ : Frame_).From)]) rfl (frame_address_ok e15) .nil ?_)
              rintro _ w17 _ _ _ ⟨rfl, rfl, rfl, rfl⟩ h47
              have h48 := h47 rfl rfl
              simp only [List.cons_append, List.nil_append] at h48
              refine RunL.op (OpS.not rfl rfl rfl ?_)
              refine RunL.op (OpS.pick rfl rfl rfl rfl ?_)
              refine RunL.op (OpS.as rfl rfl rfl ?_)
              obtain ⟨x6, e16, hF⟩ := letP_use hF
              refine RunL.nameb e16 ?_
              refine RunL.nil ?_
              refine Run.slim [(63, .bool x6), (2, u1), (6, (q1 12))] ⟨rfl, rfl, rfl, trivial⟩ ?_
              refine Run.slim [(2, u1), (6, (q1 12)), (63, .bool x6)] ⟨rfl, rfl, rfl, trivial⟩ ?_
              exact hj2 (x6) _ _ ⟨rfl, (h48.facts .nil).picks (.cons .z (.cons .z .nil))⟩ hF
      ·
        refine RunL.caseb hF (fun e17 hF => ?_) (fun e17 hF => ?_)
        ·
          refine RunL.op (OpS.pass rfl rfl rfl ?_)
          refine RunL.op (OpS.pass rfl rfl rfl ?_)
          refine RunL.op (OpS.pass rfl rfl rfl ?_)
          refine RunL.op (OpS.pass rfl rfl rfl ?_)
          refine RunL.op (OpS.pick rfl rfl rfl rfl ?_)
          refine RunL.op (OpS.mv rfl rfl rfl ?_)
          refine RunL.op (OpS.pass rfl rfl rfl ?_)
          refine RunL.op (OpS.pass rfl rfl rfl ?_)
          refine RunL.op (OpS.pass rfl rfl rfl ?_)
          refine RunL.op (OpS.pass rfl rfl rfl ?_)
          refine RunL.op (OpS.pass rfl rfl rfl ?_)
          refine RunL.op (OpS.pass rfl rfl rfl ?_)
          refine RunL.op (OpS.pass rfl rfl rfl ?_)
          refine RunL.op (OpS.pick rfl rfl rfl rfl ?_)
          refine RunL.op (OpS.mv rfl rfl rfl ?_)
          refine RunL.op (OpS.pass rfl rfl rfl ?_)
          refine RunL.op (OpS.pass rfl rfl rfl ?_)
          refine RunL.op (OpS.pass rfl rfl rfl ?_)
          refine RunL.op (OpS.pass rfl rfl rfl ?_)
          refine RunL.op (OpS.pass rfl rfl rfl ?_)
          refine RunL.op (OpS.pick rfl rfl rfl rfl ?_)
          refine RunL.op (OpS.as rfl rfl rfl ?_)
          refine RunL.nil ?_
          refine Run.slim [(34, .bool true), (6, (q1 12)), (2, u1)] ⟨rfl, rfl, rfl, trivial⟩ ?_
          refine Run.slim [(2, u1), (6, (q1 12)), (34, .bool true)] ⟨rfl, rfl, rfl, trivial⟩ ?_
          exact hj1 (true) _ _ ⟨rfl, (h29.facts .nil).picks (.cons (.s .z) (.cons .z .nil))⟩ hF
        ·
          refine RunL.op (OpS.mv rfl rfl rfl ?_)
          obtain ⟨x7, e18, hF⟩ := bindP_use hF
          refine RunL.op (OpS.iptr h29 Try.underlying22 ty5 rfl rfl rfl rfl (V.at (.s (.s (.s (.s (.s (.s .z))))))) e18 (fun u17 h49 => ?_))
          refine RunL.op (OpS.loadi h49 ty5 rfl rfl rfl .z ?_)
          refine RunL.op (OpS.bin rfl rfl rfl rfl rfl ?_)
          refine RunL.op (OpS.pick rfl rfl rfl rfl ?_)
          refine RunL.op (OpS.mv rfl rfl rfl ?_)
          refine RunL.caseb hF (fun e19 hF => ?_) (fun e19 hF => ?_)
          ·
            refine RunL.op (OpS.pass rfl rfl rfl ?_)
            refine RunL.op (OpS.pass rfl rfl rfl ?_)
            refine RunL.op (OpS.pass rfl rfl rfl ?_)
            refine RunL.op (OpS.pass rfl rfl rfl ?_)
            refine RunL.op (OpS.pass rfl rfl rfl ?_)
            refine RunL.op (OpS.pass rfl rfl rfl ?_)
            refine RunL.op (OpS.pass rfl rfl rfl ?_)
            refine RunL.op (OpS.pick rfl rfl rfl rfl ?_)
            refine RunL.op (OpS.mv rfl rfl rfl ?_)
            refine RunL.op (OpS.pass rfl rfl rfl ?_)
            refine RunL.op (OpS.pass rfl rfl rfl ?_)
            refine RunL.op (OpS.pass rfl rfl rfl ?_)
            refine RunL.op (OpS.pass rfl rfl rfl ?_)
            refine RunL.op (OpS.pass rfl rfl rfl ?_)
            refine RunL.op (OpS.pick rfl rfl rfl rfl ?_)
            refine RunL.op (OpS.as rfl rfl rfl ?_)
            refine RunL.nil ?_
            refine Run.slim [(34, .bool true), (6, (q1 12)), (2, u1)] ⟨rfl, rfl, rfl, trivial⟩ ?_
            refine Run.slim [(2, u1), (6, (q1 12)), (34, .bool true)] ⟨rfl, rfl, rfl, trivial⟩ ?_
            exact hj1 (true) _ _ ⟨rfl, (h49.facts .nil).picks (.cons (.s .z) (.cons .z .nil))⟩ hF
          ·
            refine RunL.op (OpS.mv rfl rfl rfl ?_)
            obtain ⟨x8, e20, hF⟩ := bindP_use hF
            refine RunL.op (OpS.iptr h49 Try.underlying22 ty5 rfl rfl rfl rfl (V.at (.s (.s (.s (.s (.s (.s (.s .z)))))))) e20 (fun u18 h50 => ?_))
            refine RunL.op (OpS.loadi h50 ty5 rfl rfl rfl .z ?_)
            refine RunL.op (OpS.conv Try.underlying5 Try.underlying3 rfl rfl rfl ?_)
            refine RunL.op (OpS.mv rfl rfl rfl ?_)
            refine RunL.op (OpS.bin rfl rfl rfl rfl rfl ?_)
            refine RunL.op (OpS.bin rfl rfl rfl rfl rfl ?_)
            refine RunL.op (OpS.pick rfl rfl rfl rfl ?_)
            refine RunL.op (OpS.mv rfl rfl rfl ?_)
            refine RunL.caseb hF (fun e21 hF => ?_) (fun e21 hF => ?_)
            ·
              refine RunL.op (OpS.pass rfl rfl rfl ?_)
              refine RunL.op (OpS.pass rfl rfl rfl ?_)
              refine RunL.op (OpS.pass rfl rfl rfl ?_)
              refine RunL.op (OpS.pass rfl rfl rfl ?_)
              refine RunL.op (OpS.pass rfl rfl rfl ?_)
              refine RunL.op (OpS.pick rfl rfl rfl rfl ?_)
              refine RunL.op (OpS.as rfl rfl rfl ?_)
              refine RunL.nil ?_
              refine Run.slim [(34, .bool true), (6, (q1 12)), (2, u1)] ⟨rfl, rfl, rfl, trivial⟩ ?_
              refine Run.slim [(2, u1), (6, (q1 12)), (34, .bool true)] ⟨rfl, rfl, rfl, trivial⟩ ?_
              exact hj1 (true) _ _ ⟨rfl, (h50.facts .nil).picks (.cons (.s .z) (.cons .z .nil))⟩ hF
            ·
              refine RunL.op (OpS.mv rfl rfl rfl ?_)
              obtain ⟨x9, e22, hF⟩ := bindP_use hF
              refine RunL.op (OpS.iptr h50 Try.underlying22 ty5 rfl rfl rfl rfl (V.at (.s (.s (.s (.s (.s (.s (.s (.s .z))))))))) e22 (fun u19 h51 => ?_))
              refine RunL.op (OpS.loadi h51 ty5 rfl rfl rfl .z ?_)
              refine RunL.op (OpS.rem rfl rfl rfl rfl (by decide) ?_)
              refine RunL.op (OpS.bin rfl rfl rfl rfl rfl ?_)
              refine RunL.op (OpS.pick rfl rfl rfl rfl ?_)
              refine RunL.op (OpS.as rfl rfl rfl ?_)
              obtain ⟨x10, e23, hF⟩ := letP_use hF
              refine RunL.nameb e23 ?_
              refine RunL.nil ?_
              refine Run.slim [(34, .bool x10), (6, (q1 12)), (2, u1)] ⟨rfl, rfl, rfl, trivial⟩ ?_
              refine Run.slim [(2, u1), (6, (q1 12)), (34, .bool x10)] ⟨rfl, rfl, rfl, trivial⟩ ?_
              exact hj1 (x10) _ _ ⟨rfl, (h51.facts .nil).picks (.cons (.s .z) (.cons .z .nil))⟩ hF
theorem law20_FrameAgain_ok {fuel : Nat} {a0 : List Int} {y : Bool} (hF : law20_FrameAgain fuel a0 = some y) {w : World} {v0 : Value} :
    Spec Try.prog 7 [v0].toArray w [(false, .val (Rep.slice (Rep.int .u8)) v0 a0)] [] (fun v Γr Ωr Ωo => v = .bool y ∧ Γr = [] ∧ Ωr = [] ∧ Ωo = []) := by
  refine Spec.of (L := [(0, v0)]) Try.func7 rfl ⟨rfl, trivial⟩ rfl (fun e h => ?_)
  unfold law20_FrameAgain at hF
  refine Run.seq ?_
  refine Run.reg ?_
  refine RunL.op (OpS.as rfl rfl rfl ?_)
  refine RunL.nil ?_
  refine Run.slim [(0, v0)] ⟨rfl, trivial⟩ ?_
  refine Run.seq ?_
  refine Run.seq ?_
  refine Run.reg ?_
  refine RunL.op (OpS.mv rfl rfl rfl ?_)
  refine RunL.op (OpS.len h Try.underlying22 rfl rfl rfl (V.at .z) ?_)
  refine RunL.op (OpS.bin rfl rfl rfl rfl rfl ?_)
  refine RunL.nil ?_
  refine Run.slim [(11, .bool (decide ((a0.length : Int) > 200))), (0, v0)] ⟨rfl, rfl, trivial⟩ ?_
  refine Run.ite rfl hF (fun e1 hF => ?_) (fun e1 hF => ?_)
  ·
    refine Run.seq ?_
    refine Run.reg ?_
    obtain ⟨y1, e2, hF⟩ := bindP_use hF
    refine RunL.op (OpS.callP h Try.func9 rfl rfl rfl rfl (vs := []) rfl (law20_awake_ok e2) .nil ?_)
    rintro _ w1 _ _ _ ⟨rfl, rfl, rfl, rfl⟩ h1
    have h2 := h1 rfl rfl
    simp only [List.cons_append, List.nil_append] at h2
    refine RunL.op (OpS.as rfl rfl rfl ?_)
    refine RunL.nil ?_
    refine Run.slim [(2, .bool y1)] ⟨rfl, trivial⟩ ?_
    refine Run.retP rfl (.tmp rfl .nil) ?_
    cases hF
    exact Post.mk' ⟨rfl, rfl, rfl, rfl⟩ (h2.picks .nil) .nil
  ·
    refine Run.skip ?_
    refine Run.seq ?_
    refine Run.seq ?_
    refine Run.reg ?_
    refine RunL.op (OpS.mv rfl rfl rfl ?_)
    refine RunL.op (OpS.mv rfl rfl rfl ?_)
    obtain ⟨y2, e3, hF⟩ := bindP_use hF
    refine RunL.op (OpS.callP h Try.func23 rfl rfl rfl rfl (vs := [v0]) rfl (ref01_SealCRC8_ok e3) (.cons (V.at .z) .nil) ?_)
    rintro u1 w2 _ _ _ ⟨_, rfl, rfl, rfl, rfl⟩ h3
    have h4 := h3 rfl rfl
    simp only [List.cons_append, List.nil_append] at h4
    have h5 := (h4.pick .z).freeze
    refine RunL.op (OpS.lit (r := (Rep.slice (Rep.int .u8))) (f := false) h5 Try.underlying45 ti22 rfl rfl rfl rfl rfl (.cons rfl (V.at (.s .z)) (.cons rfl (V.weak (V.at .z)) .nil)) rfl rfl (fun u2 w3 h6 => ?_))
    refine RunL.op (OpS.len h6 Try.underlying45 rfl rfl rfl (V.at .z) ?_)
    refine RunL.op (OpS.mv rfl rfl rfl ?_)
    refine RunL.nil ?_
    refine Run.slim [(18, .int .i64 0), (17, .int .i64 (([a0, y2]).length : Int)), (16, u2)] ⟨rfl, rfl, rfl, trivial⟩ ?_
    refine Run.block ?_
    refine Run.slim [(16, u2), (17, .int .i64 (([a0, y2]).length : Int)), (18, .int .i64 0)] ⟨rfl, rfl, rfl, trivial⟩ ?_
    refine Run.loopP (σ := Int) (fun s_ L_ w_ => L_ = [(16, u2), (17, .int .i64 (([a0, y2]).length : Int)), (18, .int .i64 s_)] ∧ St e w_ [(false, .val (Rep.slice (Rep.slice (Rep.int .u8))) u2 ([a0, y2]))] []) hF ⟨rfl, (h6.facts (.atm .z .nil)).picks .nil⟩ (fun k1 hk1 s1 _ w4 hI hF => ?_)
    obtain ⟨rfl, h7⟩ := hI
    refine Run.seq ?_
    refine Run.reg ?_
    refine RunL.op (OpS.bin rfl rfl rfl rfl rfl ?_)
    refine RunL.nil ?_
    refine Run.seq ?_
    refine Run.ite rfl hF (fun e4 hF => ?_) (fun e4 hF => ?_)
    ·
      refine Run.skip ?_
      refine Run.seq ?_
      refine Run.block ?_
      refine Run.seq ?_
      refine Run.reg ?_
      obtain ⟨x1, e5, hF⟩ := bindP_use hF
      refine RunL.op (OpS.iptr h7 Try.underlying45 ty22 rfl rfl rfl rfl (V.at .z) e5 (fun u3 h8 => ?_))
      refine RunL.op (OpS.load h8 ty22 rfl rfl rfl .z (fun u4 h9 => ?_))
      refine RunL.op (OpS.as rfl rfl rfl ?_)
      refine RunL.nil ?_
      refine Run.slim [(4, u4), (16, u2), (17, .int .i64 (([a0, y2]).length : Int)), (18, .int .i64 s1)] ⟨rfl, rfl, rfl, rfl, trivial⟩ ?_
      refine Run.seq ?_
      refine Run.reg ?_
      refine RunL.op (OpS.mv rfl rfl rfl ?_)
      obtain ⟨y3, e6, hF⟩ := bindP_use hF
      refine RunL.op (OpS.callP h9 Try.func24 rfl rfl rfl rfl (vs := [u4]) rfl (frame_Decode_ok e6) (.cons (V.at .z) .nil) ?_)
      rintro _ w5 _ _ _ ⟨u5, rfl, rfl, rfl, rfl⟩ h10
      have h11 := h10 rfl rfl
      simp only [List.cons_append, List.nil_append] at h11
      refine RunL.op (OpS.mv rfl rfl rfl ?_)
      refine RunL.op (OpS.ext rfl rfl rfl rfl ?_)
      refine RunL.op (OpS.ext rfl rfl rfl rfl ?_)
      refine RunL.op (OpS.alloc h11 ti30 Frame_.zr rfl rfl (fun u6 w6 h12 => ?_))
      refine RunL.op (OpS.storeB (f' := true) h12 .z PA.z Put.id ty30 rfl rfl rfl (V.at .z) (.inl rfl) (fun w7 h13 => ?_))
      refine RunL.op (OpS.as rfl rfl rfl ?_)
      refine RunL.nil ?_
      refine Run.slim [(6, .int .i64 y3.2), (5, u6), (4, u4), (16, u2), (17, .int .i64 (([a0, y2]).length : Int)), (18, .int .i64 s1)] ⟨rfl, rfl, rfl, rfl, rfl, rfl, trivial⟩ ?_
      refine Run.seq ?_
      refine Run.seq ?_
      refine Run.reg ?_
      refine RunL.op (OpS.mv rfl rfl rfl ?_)
      refine RunL.op (OpS.bin rfl rfl rfl rfl rfl ?_)
      refine RunL.nil ?_
      refine Run.slim [(28, .bool (y3.2 != 0)), (5, u6), (4, u4), (16, u2), (17, .int .i64 (([a0, y2]).length : Int)), (18, .int .i64 s1)] ⟨rfl, rfl, rfl, rfl, rfl, rfl, trivial⟩ ?_
      refine Run.ite rfl hF (fun e7 hF => ?_) (fun e7 hF => ?_)
      ·
        refine Run.exit rfl ?_
        refine Run.reg ?_
        refine RunL.op (OpS.bin rfl rfl rfl rfl rfl ?_)
        refine RunL.op (OpS.mv rfl rfl rfl ?_)
        refine RunL.nil ?_
        refine Run.slim [(18, .int .i64 (IntKind.i64.wrap (s1 + 1))), (16, u2), (17, .int .i64 (([a0, y2]).length : Int))] ⟨rfl, rfl, rfl, trivial⟩ ?_
        refine Run.slim [(16, u2), (17, .int .i64 (([a0, y2]).length : Int)), (18, .int .i64 (IntKind.i64.wrap (s1 + 1)))] ⟨rfl, rfl, rfl, trivial⟩ ?_
        exact hk1 ((IntKind.i64.wrap (s1 + 1))) _ _ ⟨rfl, (h13.facts (.atm (.s (.s (.s .z))) .nil)).picks .nil⟩ hF
      ·
        refine Run.skip ?_
        refine Run.seq ?_
        refine Run.reg ?_
        refine RunL.op (OpS.loadB h13 .z PA.z Get.id ty30 rfl rfl rfl (fun u7 h14 => ?_))
        obtain ⟨y4, e8, hF⟩ := bindP_use hF
        refine RunL.op (OpS.callP h14 Try.func15 rfl rfl rfl rfl (vs := [u7]) rfl (frame_Encode_ok e8) (.cons (V.at .z) .nil) ?_)
        rintro _ w8 _ _ _ ⟨u8, rfl, rfl, rfl, rfl⟩ h15
        have h16 := h15 rfl rfl
        simp only [List.cons_append, List.nil_append] at h16
        refine RunL.op (OpS.mv rfl rfl rfl ?_)
        refine RunL.op (OpS.ext rfl rfl rfl rfl ?_)
        refine RunL.op (OpS.ext rfl rfl rfl rfl ?_)
        refine RunL.op (OpS.as rfl rfl rfl ?_)
        have h17 := (h16.pick .z).freeze
        refine RunL.op (OpS.as rfl rfl rfl ?_)
        refine RunL.nil ?_
        refine Run.slim [(8, .int .i64 y4.2), (7, u8), (5, u6), (4, u4), (16, u2), (17, .int .i64 (([a0, y2]).length : Int)), (18, .int .i64 s1)] ⟨rfl, rfl, rfl, rfl, rfl, rfl, rfl, trivial⟩ ?_
        refine Run.seq ?_
        refine Run.reg ?_
        refine RunL.op (OpS.loadB h17 .z PA.z Get.id ty30 rfl rfl rfl (fun u9 h18 => ?_))
        obtain ⟨y5, e9, hF⟩ := bindP_use hF
        refine RunL.op (OpS.callP h18 Try.func19 rfl rfl rfl rfl (vs := [u9]) rfl (frame_Valid_ok e9) (.cons (V.at .z) .nil) ?_)
        rintro _ w9 _ _ _ ⟨rfl, rfl, rfl, rfl⟩ h19
        have h20 := h19 rfl rfl
        simp only [List.cons_append, List.nil_append] at h20
        refine RunL.op (OpS.not rfl rfl rfl ?_)
        refine RunL.op (OpS.mv rfl rfl rfl ?_)
        refine RunL.join (σ := Bool) (fun s_ L_ w_ => L_ = [(16, u2), (17, .int .i64 (([a0, y2]).length : Int)), (18, .int .i64 s1), (46, .bool s_)] ∧ St e w_ [(false, .val (Rep.slice (Rep.slice (Rep.int .u8))) u2 ([a0, y2]))] []) hF (fun s2 _ w10 hI hF => ?_) (fun j1 hj1 hF => ?_)
        ·
          obtain ⟨rfl, h21⟩ := hI
          refine Run.ite rfl hF (fun e10 hF => ?_) (fun e10 hF => ?_)
          ·
            refine Run.seq ?_
            refine Run.reg ?_
            refine RunL.op (OpS.as rfl rfl rfl ?_)
            refine RunL.nil ?_
            refine Run.slim [(2, .bool false)] ⟨rfl, trivial⟩ ?_
            refine Run.retP rfl (.tmp rfl .nil) ?_
            cases hF
            exact Post.mk' ⟨rfl, rfl, rfl, rfl⟩ (h21.picks .nil) .nil
          ·
            refine Run.skip ?_
            refine Run.endBlock ?_
            refine Run.reg ?_
            refine RunL.op (OpS.bin rfl rfl rfl rfl rfl ?_)
            refine RunL.op (OpS.mv rfl rfl rfl ?_)
            refine RunL.nil ?_
            refine Run.slim [(18, .int .i64 (IntKind.i64.wrap (s1 + 1))), (16, u2), (17, .int .i64 (([a0, y2]).length : Int))] ⟨rfl, rfl, rfl, trivial⟩ ?_
            refine Run.slim [(16, u2), (17, .int .i64 (([a0, y2]).length : Int)), (18, .int .i64 (IntKind.i64.wrap (s1 + 1)))] ⟨rfl, rfl, rfl, trivial⟩ ?_
            exact hk1 ((IntKind.i64.wrap (s1 + 1))) _ _ ⟨rfl, (h21.facts (.atm .z .nil)).picks .nil⟩ hF
        ·
          refine RunL.caseb hF (fun e11 hF => ?_) (fun e11 hF => ?_)
          ·
            refine RunL.op (OpS.pass rfl rfl rfl ?_)
            refine RunL.op (OpS.pass rfl rfl rfl ?_)
            refine RunL.op (OpS.pick rfl rfl rfl rfl ?_)
            refine RunL.op (OpS.mv rfl rfl rfl ?_)
            refine RunL.op (OpS.pass rfl rfl rfl ?_)
            refine RunL.op (OpS.pass rfl rfl rfl ?_)
            refine RunL.op (OpS.pass rfl rfl rfl ?_)
            refine RunL.op (OpS.pass rfl rfl rfl ?_)
            refine RunL.op (OpS.pick rfl rfl rfl rfl ?_)
            refine RunL.nil ?_
            refine Run.slim [(46, .bool true), (16, u2), (17, .int .i64 (([a0, y2]).length : Int)), (18, .int .i64 s1)] ⟨rfl, rfl, rfl, rfl, trivial⟩ ?_
            refine Run.slim [(16, u2), (17, .int .i64 (([a0, y2]).length : Int)), (18, .int .i64 s1), (46, .bool true)] ⟨rfl, rfl, rfl, rfl, trivial⟩ ?_
            exact hj1 (true) _ _ ⟨rfl, (h20.facts (.atm (.s (.s (.s (.s (.s (.s .z)))))) .nil)).picks .nil⟩ hF
          ·
            refine RunL.op (OpS.mv rfl rfl rfl ?_)
            refine RunL.op (OpS.bin rfl rfl rfl rfl rfl ?_)
            refine RunL.op (OpS.pick rfl rfl rfl rfl ?_)
            refine RunL.op (OpS.mv rfl rfl rfl ?_)
            refine RunL.caseb hF (fun e12 hF => ?_) (fun e12 hF => ?_)
            ·
              refine RunL.op (OpS.pass rfl rfl rfl ?_)
              refine RunL.op (OpS.pass rfl rfl rfl ?_)
              refine RunL.op (OpS.pass rfl rfl rfl ?_)
              refine RunL.op (OpS.pass rfl rfl rfl ?_)
              refine RunL.op (OpS.pick rfl rfl rfl rfl ?_)
              refine RunL.nil ?_
              refine Run.slim [(46, .bool true), (16, u2), (17, .int .i64 (([a0, y2]).length : Int)), (18, .int .i64 s1)] ⟨rfl, rfl, rfl, rfl, trivial⟩ ?_
              refine Run.slim [(16, u2), (17, .int .i64 (([a0, y2]).length : Int)), (18, .int .i64 s1), (46, .bool true)] ⟨rfl, rfl, rfl, rfl, trivial⟩ ?_
              exact hj1 (true) _ _ ⟨rfl, (h20.facts (.atm (.s (.s (.s (.s (.s (.s .z)))))) .nil)).picks .nil⟩ hF
            ·
              refine RunL.op (OpS.mv rfl rfl rfl ?_)
              refine RunL.op (OpS.mv rfl rfl rfl ?_)
              obtain ⟨y6, e13, hF⟩ := bindP_use hF
              refine RunL.op (OpS.callP h20 Try.func21 rfl rfl rfl rfl (vs := [u4, u8]) rfl (ref01_Same_ok e13) (.cons (V.at (.s (.s (.s (.s .z))))) (.cons (V.at (.s .z)) .nil)) ?_)
              rintro _ w11 _ _ _ ⟨rfl, rfl, rfl, rfl⟩ h22
              have h23 := h22 rfl rfl
              simp only [List.cons_append, List.nil_append] at h23
              refine RunL.op (OpS.not rfl rfl rfl ?_)
              refine RunL.op (OpS.pick rfl rfl rfl rfl ?_)
              refine RunL.nil ?_
              refine Run.slim [(46, .bool (!y6)), (16, u2), (17, .int .i64 (([a0, y2]).length : Int)), (18, .int .i64 s1)] ⟨rfl, rfl, rfl, rfl, trivial⟩ ?_
              refine Run.slim [(16, u2), (17, .int .i64 (([a0, y2]).length : Int)), (18, .int .i64 s1), (46, .bool (!y6))] ⟨rfl, rfl, rfl, rfl, trivial⟩ ?_
              exact hj1 (!y6) _ _ ⟨rfl, (h23.facts (.atm (.s (.s (.s (.s (.s (.s .z)))))) .nil)).picks .nil⟩ hF
    ·
      refine Run.exit rfl ?_
      refine Run.seq ?_
      refine Run.reg ?_
      obtain ⟨y7, e14, hF⟩ := bindP_use hF
      refine RunL.op (OpS.callP h7 Try.func9 rfl rfl rfl rfl (vs := []) rfl (law20_awake_ok e14) .nil ?_)
      rintro _ w12 _ _ _ ⟨rfl, rfl, rfl, rfl⟩ h24
      have h25 := h24 rfl rfl
      simp only [List.cons_append, List.nil_append] at h25
      refine RunL.op (OpS.as rfl rfl rfl ?_)
      refine RunL.nil ?_
      refine Run.slim [(2, .bool y7)] ⟨rfl, trivial⟩ ?_
      refine Run.retP rfl (.tmp rfl .nil) ?_
      cases hF
      exact Post.mk' ⟨rfl, rfl, rfl, rfl⟩ (h25.picks .nil) .nil
end Lift
