/- Each Go function computes its plain function. Written by lift.py. -/
import Derived.Test.YtnfpldbkpdeeoaaFacts
namespace Lift
open Go Go.Proofs
theorem law01_light_ok {fuel : Nat} {a0 : List Int} {y : Bool} (hF : law01_light fuel a0 = some y) {w : World} {v0 : Value} :
    Spec Try.prog 13 [v0].toArray w [(false, .val (Rep.slice (Rep.int .u8)) v0 a0)] [] (fun v Γr Ωr Ωo => v = .bool y ∧ Γr = [] ∧ Ωr = [] ∧ Ωo = []) := by
  refine Spec.of (L := [(0, v0)]) Try.func13 rfl ⟨rfl, trivial⟩ rfl (fun e h => ?_)
  unfold law01_light at hF
  refine Run.seq ?_
  refine Run.reg ?_
  refine RunL.op (OpS.as rfl rfl rfl ?_)
  refine RunL.nil ?_
  refine Run.slim [(0, v0)] ⟨rfl, trivial⟩ ?_
  refine Run.seq ?_
  refine Run.reg ?_
  refine RunL.op (OpS.mv rfl rfl rfl ?_)
  refine RunL.op (OpS.len h Try.underlying22 rfl rfl rfl (V.at .z) ?_)
  refine RunL.op (OpS.bin rfl rfl rfl rfl rfl ?_)
  refine RunL.op (OpS.as rfl rfl rfl ?_)
  obtain ⟨x1, e1, hF⟩ := letP_use hF
  refine RunL.nameb e1 ?_
  refine RunL.nil ?_
  refine Run.slim [(2, .bool x1)] ⟨rfl, trivial⟩ ?_
  refine Run.retP rfl (.tmp rfl .nil) ?_
  cases hF
  exact Post.mk' ⟨rfl, rfl, rfl, rfl⟩ (h.picks .nil) .nil
theorem checksum_CRC8_ok {fuel : Nat} {a0 : List Int} {y : Int} (hF : checksum_CRC8 fuel a0 = some y) {w : World} {v0 : Value} :
    Spec Try.prog 17 [v0].toArray w [(false, .val (Rep.slice (Rep.int .u8)) v0 a0)] [] (fun v Γr Ωr Ωo => v = .int .u8 y ∧ Γr = [] ∧ Ωr = [] ∧ Ωo = []) := by
  refine Spec.of (L := [(0, v0)]) Try.func17 rfl ⟨rfl, trivial⟩ rfl (fun e h => ?_)
  unfold checksum_CRC8 at hF
  refine Run.seq ?_
  refine Run.reg ?_
  refine RunL.op (OpS.as rfl rfl rfl ?_)
  refine RunL.nil ?_
  refine Run.slim [(0, v0)] ⟨rfl, trivial⟩ ?_
  refine Run.seq ?_
  refine Run.reg ?_
  refine RunL.op (OpS.as rfl rfl rfl ?_)
  refine RunL.nil ?_
  refine Run.seq ?_
  refine Run.seq ?_
  refine Run.reg ?_
  refine RunL.op (OpS.mv rfl rfl rfl ?_)
  refine RunL.op (OpS.len h Try.underlying22 rfl rfl rfl (V.at .z) ?_)
  refine RunL.op (OpS.mv rfl rfl rfl ?_)
  refine RunL.nil ?_
  refine Run.slim [(9, .int .i64 0), (8, .int .i64 (a0.length : Int)), (7, v0), (3, .int .u8 0)] ⟨rfl, rfl, rfl, rfl, trivial⟩ ?_
  refine Run.block ?_
  refine Run.slim [(3, .int .u8 0), (7, v0), (8, .int .i64 (a0.length : Int)), (9, .int .i64 0)] ⟨rfl, rfl, rfl, rfl, trivial⟩ ?_
  refine Run.loopP (σ := (Int × Int)) (fun s_ L_ w_ => L_ = [(3, .int .u8 s_.1), (7, v0), (8, .int .i64 (a0.length : Int)), (9, .int .i64 s_.2)] ∧ St e w_ [(false, .val (Rep.slice (Rep.int .u8)) v0 a0)] []) hF ⟨rfl, (h.facts (.atm .z .nil)).picks .nil⟩ (fun k1 hk1 s1 _ w1 hI hF => ?_)
  obtain ⟨rfl, h1⟩ := hI
  refine Run.seq ?_
  refine Run.reg ?_
  refine RunL.op (OpS.bin rfl rfl rfl rfl rfl ?_)
  refine RunL.nil ?_
  refine Run.seq ?_
  refine Run.ite rfl hF (fun e1 hF => ?_) (fun e1 hF => ?_)
  ·
    refine Run.skip ?_
    refine Run.seq ?_
    refine Run.block ?_
    refine Run.seq ?_
    refine Run.reg ?_
    obtain ⟨x1, e2, hF⟩ := bindP_use hF
    refine RunL.op (OpS.iptr h1 Try.underlying22 ty5 rfl rfl rfl rfl (V.at .z) e2 (fun u1 h2 => ?_))
    refine RunL.op (OpS.loadi h2 ty5 rfl rfl rfl .z ?_)
    refine RunL.op (OpS.as rfl rfl rfl ?_)
    refine RunL.nil ?_
    refine Run.slim [(5, .int .u8 x1), (3, .int .u8 s1.1), (7, v0), (8, .int .i64 (a0.length : Int)), (9, .int .i64 s1.2)] ⟨rfl, rfl, rfl, rfl, rfl, trivial⟩ ?_
    refine Run.seq ?_
    refine Run.reg ?_
    refine RunL.op (OpS.mv rfl rfl rfl ?_)
    refine RunL.op (OpS.mv rfl rfl rfl ?_)
    refine RunL.op (OpS.bin rfl rfl rfl rfl rfl ?_)
    refine RunL.op (OpS.as rfl rfl rfl ?_)
    refine RunL.nil ?_
    refine Run.slim [(3, .int .u8 (bXor .u8 s1.1 x1)), (7, v0), (8, .int .i64 (a0.length : Int)), (9, .int .i64 s1.2)] ⟨rfl, rfl, rfl, rfl, trivial⟩ ?_
    refine Run.seq ?_
    refine Run.reg ?_
    refine RunL.op (OpS.mv rfl rfl rfl ?_)
    refine RunL.nil ?_
    refine Run.block ?_
    refine Run.slim [(3, .int .u8 (bXor .u8 s1.1 x1)), (7, v0), (8, .int .i64 (a0.length : Int)), (9, .int .i64 s1.2), (16, .int .i64 0)] ⟨rfl, rfl, rfl, rfl, rfl, trivial⟩ ?_
    refine Run.loopP (σ := (Int × Int)) (fun s_ L_ w_ => L_ = [(3, .int .u8 s_.1), (7, v0), (8, .int .i64 (a0.length : Int)), (9, .int .i64 s1.2), (16, .int .i64 s_.2)] ∧ St e w_ [(false, .val (Rep.slice (Rep.int .u8)) v0 a0)] []) hF ⟨rfl, (h2.facts (.atm (.s .z) .nil)).picks .nil⟩ (fun k2 hk2 s2 _ w2 hI hF => ?_)
    obtain ⟨rfl, h3⟩ := hI
    refine Run.seq ?_
    refine Run.reg ?_
    refine RunL.op (OpS.bin rfl rfl rfl rfl rfl ?_)
    refine RunL.nil ?_
    refine Run.seq ?_
    refine Run.ite rfl hF (fun e3 hF => ?_) (fun e3 hF => ?_)
    ·
      refine Run.skip ?_
      refine Run.seq ?_
      refine Run.block ?_
      refine Run.seq ?_
      refine Run.reg ?_
      refine RunL.op (OpS.mv rfl rfl rfl ?_)
      refine RunL.op (OpS.shr rfl rfl rfl rfl (by decide) ?_)
      refine RunL.op (OpS.as rfl rfl rfl ?_)
      refine RunL.nil ?_
      refine Run.slim [(6, .int .u8 (bShr .u8 s2.1 7)), (3, .int .u8 s2.1), (7, v0), (8, .int .i64 (a0.length : Int)), (9, .int .i64 s1.2), (16, .int .i64 s2.2)] ⟨rfl, rfl, rfl, rfl, rfl, rfl, trivial⟩ ?_
      refine Run.reg ?_
      refine RunL.op (OpS.mv rfl rfl rfl ?_)
      refine RunL.op (OpS.shl rfl rfl rfl rfl (by decide) ?_)
      refine RunL.op (OpS.mv rfl rfl rfl ?_)
      refine RunL.op (OpS.bin rfl rfl rfl rfl rfl ?_)
      refine RunL.op (OpS.bin rfl rfl rfl rfl rfl ?_)
      refine RunL.op (OpS.as rfl rfl rfl ?_)
      obtain ⟨x2, e4, hF⟩ := letP_use hF
      refine RunL.name e4 ?_
      refine RunL.nil ?_
      refine Run.slim [(3, .int .u8 x2), (7, v0), (8, .int .i64 (a0.length : Int)), (9, .int .i64 s1.2), (16, .int .i64 s2.2)] ⟨rfl, rfl, rfl, rfl, rfl, trivial⟩ ?_
      refine Run.endBlock ?_
      refine Run.reg ?_
      refine RunL.op (OpS.bin rfl rfl rfl rfl rfl ?_)
      refine RunL.op (OpS.mv rfl rfl rfl ?_)
      refine RunL.nil ?_
      refine Run.slim [(16, .int .i64 (IntKind.i64.wrap (s2.2 + 1))), (3, .int .u8 x2), (7, v0), (8, .int .i64 (a0.length : Int)), (9, .int .i64 s1.2)] ⟨rfl, rfl, rfl, rfl, rfl, trivial⟩ ?_
      refine Run.slim [(3, .int .u8 x2), (7, v0), (8, .int .i64 (a0.length : Int)), (9, .int .i64 s1.2), (16, .int .i64 (IntKind.i64.wrap (s2.2 + 1)))] ⟨rfl, rfl, rfl, rfl, rfl, trivial⟩ ?_
      exact hk2 (x2, (IntKind.i64.wrap (s2.2 + 1))) _ _ ⟨rfl, (h3.facts (.atm .z .nil)).picks .nil⟩ hF
    ·
      refine Run.exit rfl ?_
      refine Run.endBlock ?_
      refine Run.reg ?_
      refine RunL.op (OpS.bin rfl rfl rfl rfl rfl ?_)
      refine RunL.op (OpS.mv rfl rfl rfl ?_)
      refine RunL.nil ?_
      refine Run.slim [(9, .int .i64 (IntKind.i64.wrap (s1.2 + 1))), (3, .int .u8 s2.1), (7, v0), (8, .int .i64 (a0.length : Int))] ⟨rfl, rfl, rfl, rfl, trivial⟩ ?_
      refine Run.slim [(3, .int .u8 s2.1), (7, v0), (8, .int .i64 (a0.length : Int)), (9, .int .i64 (IntKind.i64.wrap (s1.2 + 1)))] ⟨rfl, rfl, rfl, rfl, trivial⟩ ?_
      exact hk1 (s2.1, (IntKind.i64.wrap (s1.2 + 1))) _ _ ⟨rfl, (h3.facts (.atm .z .nil)).picks .nil⟩ hF
  ·
    refine Run.exit rfl ?_
    refine Run.seq ?_
    refine Run.reg ?_
    refine RunL.op (OpS.mv rfl rfl rfl ?_)
    refine RunL.op (OpS.as rfl rfl rfl ?_)
    refine RunL.nil ?_
    refine Run.slim [(2, .int .u8 s1.1)] ⟨rfl, trivial⟩ ?_
    refine Run.retP rfl (.tmp rfl .nil) ?_
    cases hF
    exact Post.mk' ⟨rfl, rfl, rfl, rfl⟩ (h1.picks .nil) .nil
theorem checksum_CRC32_ok {fuel : Nat} {a0 : List Int} {y : Int} (hF : checksum_CRC32 fuel a0 = some y) {w : World} {v0 : Value} :
    Spec Try.prog 19 [v0].toArray w [(false, .val (Rep.slice (Rep.int .u8)) v0 a0)] [] (fun v Γr Ωr Ωo => v = .int .u32 y ∧ Γr = [] ∧ Ωr = [] ∧ Ωo = []) := by
  refine Spec.of (L := [(0, v0)]) Try.func19 rfl ⟨rfl, trivial⟩ rfl (fun e h => ?_)
  unfold checksum_CRC32 at hF
  refine Run.seq ?_
  refine Run.reg ?_
  refine RunL.op (OpS.as rfl rfl rfl ?_)
  refine RunL.nil ?_
  refine Run.slim [(0, v0)] ⟨rfl, trivial⟩ ?_
  refine Run.seq ?_
  refine Run.reg ?_
  refine RunL.op (OpS.as rfl rfl rfl ?_)
  refine RunL.nil ?_
  refine Run.seq ?_
  refine Run.seq ?_
  refine Run.reg ?_
  refine RunL.op (OpS.mv rfl rfl rfl ?_)
  refine RunL.op (OpS.len h Try.underlying22 rfl rfl rfl (V.at .z) ?_)
  refine RunL.op (OpS.mv rfl rfl rfl ?_)
  refine RunL.nil ?_
  refine Run.slim [(9, .int .i64 0), (8, .int .i64 (a0.length : Int)), (7, v0), (3, .int .u32 4294967295)] ⟨rfl, rfl, rfl, rfl, trivial⟩ ?_
  refine Run.block ?_
  refine Run.slim [(3, .int .u32 4294967295), (7, v0), (8, .int .i64 (a0.length : Int)), (9, .int .i64 0)] ⟨rfl, rfl, rfl, rfl, trivial⟩ ?_
  refine Run.loopP (σ := (Int × Int)) (fun s_ L_ w_ => L_ = [(3, .int .u32 s_.1), (7, v0), (8, .int .i64 (a0.length : Int)), (9, .int .i64 s_.2)] ∧ St e w_ [(false, .val (Rep.slice (Rep.int .u8)) v0 a0)] []) hF ⟨rfl, (h.facts (.atm .z .nil)).picks .nil⟩ (fun k1 hk1 s1 _ w1 hI hF => ?_)
  obtain ⟨rfl, h1⟩ := hI
  refine Run.seq ?_
  refine Run.reg ?_
  refine RunL.op (OpS.bin rfl rfl rfl rfl rfl ?_)
  refine RunL.nil ?_
  refine Run.seq ?_
  refine Run.ite rfl hF (fun e1 hF => ?_) (fun e1 hF => ?_)
  ·
    refine Run.skip ?_
    refine Run.seq ?_
    refine Run.block ?_
    refine Run.seq ?_
    refine Run.reg ?_
    obtain ⟨x1, e2, hF⟩ := bindP_use hF
    refine RunL.op (OpS.iptr h1 Try.underlying22 ty5 rfl rfl rfl rfl (V.at .z) e2 (fun u1 h2 => ?_))
    refine RunL.op (OpS.loadi h2 ty5 rfl rfl rfl .z ?_)
    refine RunL.op (OpS.as rfl rfl rfl ?_)
    refine RunL.nil ?_
    refine Run.slim [(5, .int .u8 x1), (3, .int .u32 s1.1), (7, v0), (8, .int .i64 (a0.length : Int)), (9, .int .i64 s1.2)] ⟨rfl, rfl, rfl, rfl, rfl, trivial⟩ ?_
    refine Run.seq ?_
    refine Run.reg ?_
    refine RunL.op (OpS.mv rfl rfl rfl ?_)
    refine RunL.op (OpS.mv rfl rfl rfl ?_)
    refine RunL.op (OpS.conv Try.underlying5 Try.underlying26 rfl rfl rfl ?_)
    refine RunL.op (OpS.bin rfl rfl rfl rfl rfl ?_)
    refine RunL.op (OpS.as rfl rfl rfl ?_)
    obtain ⟨x2, e3, hF⟩ := letP_use hF
    refine RunL.name e3 ?_
    refine RunL.nil ?_
    refine Run.slim [(3, .int .u32 x2), (7, v0), (8, .int .i64 (a0.length : Int)), (9, .int .i64 s1.2)] ⟨rfl, rfl, rfl, rfl, trivial⟩ ?_
    refine Run.seq ?_
    refine Run.reg ?_
    refine RunL.op (OpS.mv rfl rfl rfl ?_)
    refine RunL.nil ?_
    refine Run.block ?_
    refine Run.slim [(3, .int .u32 x2), (7, v0), (8, .int .i64 (a0.length : Int)), (9, .int .i64 s1.2), (17, .int .i64 0)] ⟨rfl, rfl, rfl, rfl, rfl, trivial⟩ ?_
    refine Run.loopP (σ := (Int × Int)) (fun s_ L_ w_ => L_ = [(3, .int .u32 s_.1), (7, v0), (8, .int .i64 (a0.length : Int)), (9, .int .i64 s1.2), (17, .int .i64 s_.2)] ∧ St e w_ [(false, .val (Rep.slice (Rep.int .u8)) v0 a0)] []) hF ⟨rfl, (h2.facts (.atm (.s .z) .nil)).picks .nil⟩ (fun k2 hk2 s2 _ w2 hI hF => ?_)
    obtain ⟨rfl, h3⟩ := hI
    refine Run.seq ?_
    refine Run.reg ?_
    refine RunL.op (OpS.bin rfl rfl rfl rfl rfl ?_)
    refine RunL.nil ?_
    refine Run.seq ?_
    refine Run.ite rfl hF (fun e4 hF => ?_) (fun e4 hF => ?_)
    ·
      refine Run.skip ?_
      refine Run.seq ?_
      refine Run.block ?_
      refine Run.seq ?_
      refine Run.reg ?_
      refine RunL.op (OpS.mv rfl rfl rfl ?_)
      refine RunL.op (OpS.bin rfl rfl rfl rfl rfl ?_)
      refine RunL.op (OpS.as rfl rfl rfl ?_)
      refine RunL.nil ?_
      refine Run.slim [(6, .int .u32 (bAnd .u32 s2.1 1)), (3, .int .u32 s2.1), (7, v0), (8, .int .i64 (a0.length : Int)), (9, .int .i64 s1.2), (17, .int .i64 s2.2)] ⟨rfl, rfl, rfl, rfl, rfl, rfl, trivial⟩ ?_
      refine Run.reg ?_
      refine RunL.op (OpS.mv rfl rfl rfl ?_)
      refine RunL.op (OpS.shr rfl rfl rfl rfl (by decide) ?_)
      refine RunL.op (OpS.mv rfl rfl rfl ?_)
      refine RunL.op (OpS.bin rfl rfl rfl rfl rfl ?_)
      refine RunL.op (OpS.bin rfl rfl rfl rfl rfl ?_)
      refine RunL.op (OpS.as rfl rfl rfl ?_)
      obtain ⟨x3, e5, hF⟩ := letP_use hF
      refine RunL.name e5 ?_
      refine RunL.nil ?_
      refine Run.slim [(3, .int .u32 x3), (7, v0), (8, .int .i64 (a0.length : Int)), (9, .int .i64 s1.2), (17, .int .i64 s2.2)] ⟨rfl, rfl, rfl, rfl, rfl, trivial⟩ ?_
      refine Run.endBlock ?_
      refine Run.reg ?_
      refine RunL.op (OpS.bin rfl rfl rfl rfl rfl ?_)
      refine RunL.op (OpS.mv rfl rfl rfl ?_)
      refine RunL.nil ?_
      refine Run.slim [(17, .int .i64 (IntKind.i64.wrap (s2.2 + 1))), (3, .int .u32 x3), (7, v0), (8, .int .i64 (a0.length : Int)), (9, .int .i64 s1.2)] ⟨rfl, rfl, rfl, rfl, rfl, trivial⟩ ?_
      refine Run.slim [(3, .int .u32 x3), (7, v0), (8, .int .i64 (a0.length : Int)), (9, .int .i64 s1.2), (17, .int .i64 (IntKind.i64.wrap (s2.2 + 1)))] ⟨rfl, rfl, rfl, rfl, rfl, trivial⟩ ?_
      exact hk2 (x3, (IntKind.i64.wrap (s2.2 + 1))) _ _ ⟨rfl, (h3.facts (.atm .z .nil)).picks .nil⟩ hF
    ·
      refine Run.exit rfl ?_
      refine Run.endBlock ?_
      refine Run.reg ?_
      refine RunL.op (OpS.bin rfl rfl rfl rfl rfl ?_)
      refine RunL.op (OpS.mv rfl rfl rfl ?_)
      refine RunL.nil ?_
      refine Run.slim [(9, .int .i64 (IntKind.i64.wrap (s1.2 + 1))), (3, .int .u32 s2.1), (7, v0), (8, .int .i64 (a0.length : Int))] ⟨rfl, rfl, rfl, rfl, trivial⟩ ?_
      refine Run.slim [(3, .int .u32 s2.1), (7, v0), (8, .int .i64 (a0.length : Int)), (9, .int .i64 (IntKind.i64.wrap (s1.2 + 1)))] ⟨rfl, rfl, rfl, rfl, trivial⟩ ?_
      exact hk1 (s2.1, (IntKind.i64.wrap (s1.2 + 1))) _ _ ⟨rfl, (h3.facts (.atm .z .nil)).picks .nil⟩ hF
  ·
    refine Run.exit rfl ?_
    refine Run.seq ?_
    refine Run.reg ?_
    refine RunL.op (OpS.mv rfl rfl rfl ?_)
    refine RunL.op (OpS.cpl rfl rfl rfl ?_)
    refine RunL.op (OpS.as rfl rfl rfl ?_)
    refine RunL.nil ?_
    refine Run.slim [(2, .int .u32 (bNot .u32 s1.1))] ⟨rfl, trivial⟩ ?_
    refine Run.retP rfl (.tmp rfl .nil) ?_
    cases hF
    exact Post.mk' ⟨rfl, rfl, rfl, rfl⟩ (h1.picks .nil) .nil
theorem checksum_Sum8_ok {fuel : Nat} {a0 : List Int} {y : Int} (hF : checksum_Sum8 fuel a0 = some y) {w : World} {v0 : Value} :
    Spec Try.prog 15 [v0].toArray w [(false, .val (Rep.slice (Rep.int .u8)) v0 a0)] [] (fun v Γr Ωr Ωo => v = .int .u8 y ∧ Γr = [] ∧ Ωr = [] ∧ Ωo = []) := by
  refine Spec.of (L := [(0, v0)]) Try.func15 rfl ⟨rfl, trivial⟩ rfl (fun e h => ?_)
  unfold checksum_Sum8 at hF
  refine Run.seq ?_
  refine Run.reg ?_
  refine RunL.op (OpS.as rfl rfl rfl ?_)
  refine RunL.nil ?_
  refine Run.slim [(0, v0)] ⟨rfl, trivial⟩ ?_
  refine Run.seq ?_
  refine Run.reg ?_
  refine RunL.op (OpS.as rfl rfl rfl ?_)
  refine RunL.nil ?_
  refine Run.seq ?_
  refine Run.seq ?_
  refine Run.reg ?_
  refine RunL.op (OpS.mv rfl rfl rfl ?_)
  refine RunL.op (OpS.len h Try.underlying22 rfl rfl rfl (V.at .z) ?_)
  refine RunL.op (OpS.mv rfl rfl rfl ?_)
  refine RunL.nil ?_
  refine Run.slim [(8, .int .i64 0), (7, .int .i64 (a0.length : Int)), (6, v0), (3, .int .u8 0)] ⟨rfl, rfl, rfl, rfl, trivial⟩ ?_
  refine Run.block ?_
  refine Run.slim [(3, .int .u8 0), (6, v0), (7, .int .i64 (a0.length : Int)), (8, .int .i64 0)] ⟨rfl, rfl, rfl, rfl, trivial⟩ ?_
  refine Run.loopP (σ := (Int × Int)) (fun s_ L_ w_ => L_ = [(3, .int .u8 s_.1), (6, v0), (7, .int .i64 (a0.length : Int)), (8, .int .i64 s_.2)] ∧ St e w_ [(false, .val (Rep.slice (Rep.int .u8)) v0 a0)] []) hF ⟨rfl, (h.facts (.atm .z .nil)).picks .nil⟩ (fun k1 hk1 s1 _ w1 hI hF => ?_)
  obtain ⟨rfl, h1⟩ := hI
  refine Run.seq ?_
  refine Run.reg ?_
  refine RunL.op (OpS.bin rfl rfl rfl rfl rfl ?_)
  refine RunL.nil ?_
  refine Run.seq ?_
  refine Run.ite rfl hF (fun e1 hF => ?_) (fun e1 hF => ?_)
  ·
    refine Run.skip ?_
    refine Run.seq ?_
    refine Run.block ?_
    refine Run.seq ?_
    refine Run.reg ?_
    obtain ⟨x1, e2, hF⟩ := bindP_use hF
    refine RunL.op (OpS.iptr h1 Try.underlying22 ty5 rfl rfl rfl rfl (V.at .z) e2 (fun u1 h2 => ?_))
    refine RunL.op (OpS.loadi h2 ty5 rfl rfl rfl .z ?_)
    refine RunL.op (OpS.as rfl rfl rfl ?_)
    refine RunL.nil ?_
    refine Run.slim [(5, .int .u8 x1), (3, .int .u8 s1.1), (6, v0), (7, .int .i64 (a0.length : Int)), (8, .int .i64 s1.2)] ⟨rfl, rfl, rfl, rfl, rfl, trivial⟩ ?_
    refine Run.reg ?_
    refine RunL.op (OpS.mv rfl rfl rfl ?_)
    refine RunL.op (OpS.mv rfl rfl rfl ?_)
    refine RunL.op (OpS.bin rfl rfl rfl rfl rfl ?_)
    refine RunL.op (OpS.as rfl rfl rfl ?_)
    obtain ⟨x2, e3, hF⟩ := letP_use hF
    refine RunL.name e3 ?_
    refine RunL.nil ?_
    refine Run.slim [(3, .int .u8 x2), (6, v0), (7, .int .i64 (a0.length : Int)), (8, .int .i64 s1.2)] ⟨rfl, rfl, rfl, rfl, trivial⟩ ?_
    refine Run.endBlock ?_
    refine Run.reg ?_
    refine RunL.op (OpS.bin rfl rfl rfl rfl rfl ?_)
    refine RunL.op (OpS.mv rfl rfl rfl ?_)
    refine RunL.nil ?_
    refine Run.slim [(8, .int .i64 (IntKind.i64.wrap (s1.2 + 1))), (3, .int .u8 x2), (6, v0), (7, .int .i64 (a0.length : Int))] ⟨rfl, rfl, rfl, rfl, trivial⟩ ?_
    refine Run.slim [(3, .int .u8 x2), (6, v0), (7, .int .i64 (a0.length : Int)), (8, .int .i64 (IntKind.i64.wrap (s1.2 + 1)))] ⟨rfl, rfl, rfl, rfl, trivial⟩ ?_
    exact hk1 (x2, (IntKind.i64.wrap (s1.2 + 1))) _ _ ⟨rfl, (h2.facts (.atm (.s .z) .nil)).picks .nil⟩ hF
  ·
    refine Run.exit rfl ?_
    refine Run.seq ?_
    refine Run.reg ?_
    refine RunL.op (OpS.mv rfl rfl rfl ?_)
    refine RunL.op (OpS.neg rfl rfl rfl ?_)
    refine RunL.op (OpS.as rfl rfl rfl ?_)
    obtain ⟨x3, e4, hF⟩ := letP_use hF
    refine RunL.name e4 ?_
    refine RunL.nil ?_
    refine Run.slim [(2, .int .u8 x3)] ⟨rfl, trivial⟩ ?_
    refine Run.retP rfl (.tmp rfl .nil) ?_
    cases hF
    exact Post.mk' ⟨rfl, rfl, rfl, rfl⟩ (h1.picks .nil) .nil
theorem slices_Clone_byte_byte_ok {fuel : Nat} {a0 : List Int} {y : (List Int)} (hF : slices_Clone_byte_byte fuel a0 = some y) {w : World} {v0 : Value} :
    Spec Try.prog 41 [v0].toArray w [(false, .val (Rep.slice (Rep.int .u8)) v0 a0)] [] (fun v Γr Ωr Ωo => ∃ u0 : Value, v = u0 ∧ Γr = [] ∧ Ωr = [(true, .slice 5 (Rep.int .u8) u0 y)] ∧ Ωo = []) := by
  refine Spec.of (L := [(0, v0)]) Try.func41 rfl ⟨rfl, trivial⟩ rfl (fun e h => ?_)
  unfold slices_Clone_byte_byte at hF
  refine Run.seq ?_
  refine Run.reg ?_
  refine RunL.op (OpS.as rfl rfl rfl ?_)
  refine RunL.nil ?_
  refine Run.slim [(0, v0)] ⟨rfl, trivial⟩ ?_
  refine Run.seq ?_
  refine Run.seq ?_
  refine Run.reg ?_
  refine RunL.op (OpS.mv rfl rfl rfl ?_)
  refine RunL.op (OpS.snil h Try.underlying22 rfl rfl rfl (V.at .z) (fun b1 hb1 => ?_))
  refine RunL.nil ?_
  refine Run.slim [(4, .bool b1), (0, v0)] ⟨rfl, rfl, trivial⟩ ?_
  cases b1
  ·
    refine Run.condF rfl ?_
    refine Run.skip ?_
    refine Run.seq ?_
    refine Run.reg ?_
    refine RunL.op (OpS.litO (r := (Rep.int .u8)) (f := true) h Try.underlying22 ti5 rfl rfl rfl rfl rfl .nil rfl rfl (fun u1 w1 h1 => ?_))
    refine RunL.op (OpS.mv rfl rfl rfl ?_)
    obtain ⟨x1, e1, hF⟩ := bindP_use hF
    refine RunL.op (OpS.app (f' := false) h1 .z Try.underlying22 ti5 rfl rfl rfl rfl rfl rfl rfl (V.at .z) (.inr Pure.int) e1 (fun u2 w2 h2 => ?_))
    refine RunL.op (OpS.as rfl rfl rfl ?_)
    refine RunL.nil ?_
    refine Run.slim [(2, u2)] ⟨rfl, trivial⟩ ?_
    refine Run.retP rfl (.tmp rfl .nil) ?_
    cases hF
    exact Post.mk' ⟨u2, rfl, rfl, rfl, rfl⟩ (h2.picks (.cons .z .nil)) .nil
  ·
    obtain rfl := hb1 rfl
    have hF : some ([] : List Int) = some y := by simpa [bindP, app] using hF
    refine Run.condT rfl ?_
    refine Run.seq ?_
    refine Run.reg ?_
    refine RunL.op (OpS.as rfl rfl rfl ?_)
    refine RunL.nil ?_
    refine Run.slim [(2, .slice none 0 0)] ⟨rfl, trivial⟩ ?_
    have h3 := St.nil 5 (Rep.int .u8) h
    refine Run.retP rfl (.tmp rfl .nil) ?_
    cases hF
    exact Post.mk' ⟨(.slice none 0 0), rfl, rfl, rfl, rfl⟩ (h3.picks (.cons .z .nil)) .nil
theorem checksum_Seal8_ok {fuel : Nat} {a0 : List Int} {y : (List Int)} (hF : checksum_Seal8 fuel a0 = some y) {w : World} {v0 : Value} :
    Spec Try.prog 35 [v0].toArray w [(false, .val (Rep.slice (Rep.int .u8)) v0 a0)] [] (fun v Γr Ωr Ωo => ∃ u0 : Value, v = u0 ∧ Γr = [] ∧ Ωr = [(true, .slice 5 (Rep.int .u8) u0 y)] ∧ Ωo = []) := by
  refine Spec.of (L := [(0, v0)]) Try.func35 rfl ⟨rfl, trivial⟩ rfl (fun e h => ?_)
  unfold checksum_Seal8 at hF
  refine Run.seq ?_
  refine Run.reg ?_
  refine RunL.op (OpS.as rfl rfl rfl ?_)
  refine RunL.nil ?_
  refine Run.slim [(0, v0)] ⟨rfl, trivial⟩ ?_
  refine Run.seq ?_
  refine Run.reg ?_
  refine RunL.op (OpS.mv rfl rfl rfl ?_)
  obtain ⟨y1, e1, hF⟩ := bindP_use hF
  refine RunL.op (OpS.callP h Try.func41 rfl rfl rfl rfl (vs := [v0]) rfl (slices_Clone_byte_byte_ok e1) (.cons (V.at .z) .nil) ?_)
  rintro u1 w1 _ _ _ ⟨_, rfl, rfl, rfl, rfl⟩ h1
  have h2 := h1 rfl rfl
  simp only [List.cons_append, List.nil_append] at h2
  refine RunL.op (OpS.mv rfl rfl rfl ?_)
  obtain ⟨y2, e2, hF⟩ := bindP_use hF
  refine RunL.op (OpS.callP h2 Try.func15 rfl rfl rfl rfl (vs := [v0]) rfl (checksum_Sum8_ok e2) (.cons (V.at .z) .nil) ?_)
  rintro _ w2 _ _ _ ⟨rfl, rfl, rfl, rfl⟩ h3
  have h4 := h3 rfl rfl
  simp only [List.cons_append, List.nil_append] at h4
  refine RunL.op (OpS.lit (r := (Rep.int .u8)) (f := true) h4 Try.underlying22 ti5 rfl rfl rfl rfl rfl (.cons rfl V.int .nil) rfl rfl (fun u2 w3 h5 => ?_))
  obtain ⟨x1, e3, hF⟩ := bindP_use hF
  refine RunL.op (OpS.app (f' := true) h5 .z Try.underlying22 ti5 rfl rfl rfl rfl rfl rfl rfl (V.at .z) (.inr Pure.int) e3 (fun u3 w4 h6 => ?_))
  refine RunL.op (OpS.as rfl rfl rfl ?_)
  refine RunL.nil ?_
  refine Run.slim [(2, u3)] ⟨rfl, trivial⟩ ?_
  refine Run.retP rfl (.tmp rfl .nil) ?_
  cases hF
  exact Post.mk' ⟨u3, rfl, rfl, rfl, rfl⟩ (h6.picks (.cons .z .nil)) .nil
theorem law01_awake_ok {fuel : Nat}  {y : Bool} (hF : law01_awake fuel  = some y) {w : World} :
    Spec Try.prog 14 [].toArray w [] [] (fun v Γr Ωr Ωo => v = .bool y ∧ Γr = [] ∧ Ωr = [] ∧ Ωo = []) := by
  refine Spec.of (L := []) Try.func14 rfl trivial rfl (fun e h => ?_)
  unfold law01_awake at hF
  refine Run.seq ?_
  refine Run.reg ?_
  refine RunL.op (OpS.as rfl rfl rfl ?_)
  refine RunL.nil ?_
  refine Run.slim [] trivial ?_
  refine Run.seq ?_
  refine Run.reg ?_
  refine RunL.op (OpS.litO (r := (Rep.int .u8)) (f := true) h Try.underlying22 ti5 rfl rfl rfl rfl rfl (.cons rfl V.int (.cons rfl V.int (.cons rfl V.int (.cons rfl V.int (.cons rfl V.int (.cons rfl V.int (.cons rfl V.int (.cons rfl V.int (.cons rfl V.int .nil))))))))) rfl rfl (fun u1 w1 h1 => ?_))
  refine RunL.op (OpS.convS h1 .z (by simp) Try.underlying22 Try.underlying5 rfl rfl rfl (fun w2 h2 => ?_))
  refine RunL.op (OpS.as rfl rfl rfl ?_)
  refine RunL.nil ?_
  refine Run.slim [(1, u1)] ⟨rfl, trivial⟩ ?_
  refine Run.seq ?_
  refine Run.reg ?_
  refine RunL.op (OpS.mv rfl rfl rfl ?_)
  obtain ⟨y1, e1, hF⟩ := bindP_use hF
  refine RunL.op (OpS.callP h2 Try.func17 rfl rfl rfl rfl (vs := [u1]) rfl (checksum_CRC8_ok e1) (.cons (V.at .z) .nil) ?_)
  rintro _ w3 _ _ _ ⟨rfl, rfl, rfl, rfl⟩ h3
  have h4 := h3 rfl rfl
  simp only [List.cons_append, List.nil_append] at h4
  refine RunL.op (OpS.bin rfl rfl rfl rfl rfl ?_)
  refine RunL.op (OpS.mv rfl rfl rfl ?_)
  refine RunL.caseb hF (fun e2 hF => ?_) (fun e2 hF => ?_)
  ·
    refine RunL.op (OpS.mv rfl rfl rfl ?_)
    obtain ⟨y2, e3, hF⟩ := bindP_use hF
    refine RunL.op (OpS.callP h4 Try.func19 rfl rfl rfl rfl (vs := [u1]) rfl (checksum_CRC32_ok e3) (.cons (V.at .z) .nil) ?_)
    rintro _ w4 _ _ _ ⟨rfl, rfl, rfl, rfl⟩ h5
    have h6 := h5 rfl rfl
    simp only [List.cons_append, List.nil_append] at h6
    refine RunL.op (OpS.bin rfl rfl rfl rfl rfl ?_)
    refine RunL.op (OpS.pick rfl rfl rfl rfl ?_)
    refine RunL.op (OpS.mv rfl rfl rfl ?_)
    refine RunL.caseb hF (fun e4 hF => ?_) (fun e4 hF => ?_)
    ·
      refine RunL.op (OpS.lit (r := (Rep.int .u8)) (f := true) h6 Try.underlying22 ti5 rfl rfl rfl rfl rfl (.cons rfl V.int (.cons rfl V.int .nil)) rfl rfl (fun u2 w5 h7 => ?_))
      obtain ⟨y3, e5, hF⟩ := bindP_use hF
      refine RunL.op (OpS.callP h7 Try.func15 rfl rfl rfl rfl (vs := [u2]) rfl (checksum_Sum8_ok e5) (.cons (V.at .z) .nil) ?_)
      rintro _ w6 _ _ _ ⟨rfl, rfl, rfl, rfl⟩ h8
      have h9 := h8 rfl rfl
      simp only [List.cons_append, List.nil_append] at h9
      refine RunL.op (OpS.bin rfl rfl rfl rfl rfl ?_)
      refine RunL.op (OpS.pick rfl rfl rfl rfl ?_)
      refine RunL.op (OpS.mv rfl rfl rfl ?_)
      refine RunL.caseb hF (fun e6 hF => ?_) (fun e6 hF => ?_)
      ·
        refine RunL.op (OpS.mv rfl rfl rfl ?_)
        obtain ⟨y4, e7, hF⟩ := bindP_use hF
        refine RunL.op (OpS.callP h9 Try.func35 rfl rfl rfl rfl (vs := [u1]) rfl (checksum_Seal8_ok e7) (.cons (V.at (.s .z)) .nil) ?_)
        rintro u3 w7 _ _ _ ⟨_, rfl, rfl, rfl, rfl⟩ h10
        have h11 := h10 rfl rfl
        simp only [List.cons_append, List.nil_append] at h11
        refine RunL.op (OpS.lenO h11 .z Try.underlying22 rfl rfl rfl ?_)
        refine RunL.op (OpS.bin rfl rfl rfl rfl rfl ?_)
        refine RunL.op (OpS.pick rfl rfl rfl rfl ?_)
        refine RunL.op (OpS.as rfl rfl rfl ?_)
        obtain ⟨x1, e8, hF⟩ := letP_use hF
        refine RunL.nameb e8 ?_
        refine RunL.nil ?_
        refine Run.slim [(0, .bool x1)] ⟨rfl, trivial⟩ ?_
        refine Run.retP rfl (.tmp rfl .nil) ?_
        cases hF
        exact Post.mk' ⟨rfl, rfl, rfl, rfl⟩ (h11.picks .nil) .nil
      ·
        refine RunL.op (OpS.pass rfl rfl rfl ?_)
        refine RunL.op (OpS.pass rfl rfl rfl ?_)
        refine RunL.op (OpS.pass rfl rfl rfl ?_)
        refine RunL.op (OpS.pass rfl rfl rfl ?_)
        refine RunL.op (OpS.pick rfl rfl rfl rfl ?_)
        refine RunL.op (OpS.as rfl rfl rfl ?_)
        refine RunL.nil ?_
        refine Run.slim [(0, .bool false)] ⟨rfl, trivial⟩ ?_
        refine Run.retP rfl (.tmp rfl .nil) ?_
        cases hF
        exact Post.mk' ⟨rfl, rfl, rfl, rfl⟩ (h9.picks .nil) .nil
    ·
      refine RunL.op (OpS.pass rfl rfl rfl ?_)
      refine RunL.op (OpS.pass rfl rfl rfl ?_)
      refine RunL.op (OpS.pass rfl rfl rfl ?_)
      refine RunL.op (OpS.pick rfl rfl rfl rfl ?_)
      refine RunL.op (OpS.mv rfl rfl rfl ?_)
      refine RunL.op (OpS.pass rfl rfl rfl ?_)
      refine RunL.op (OpS.pass rfl rfl rfl ?_)
      refine RunL.op (OpS.pass rfl rfl rfl ?_)
      refine RunL.op (OpS.pass rfl rfl rfl ?_)
      refine RunL.op (OpS.pick rfl rfl rfl rfl ?_)
      refine RunL.op (OpS.as rfl rfl rfl ?_)
      refine RunL.nil ?_
      refine Run.slim [(0, .bool false)] ⟨rfl, trivial⟩ ?_
      refine Run.retP rfl (.tmp rfl .nil) ?_
      cases hF
      exact Post.mk' ⟨rfl, rfl, rfl, rfl⟩ (h6.picks .nil) .nil
  ·
    refine RunL.op (OpS.pass rfl rfl rfl ?_)
    refine RunL.op (OpS.pass rfl rfl rfl ?_)
    refine RunL.op (OpS.pass rfl rfl rfl ?_)
    refine RunL.op (OpS.pick rfl rfl rfl rfl ?_)
    refine RunL.op (OpS.mv rfl rfl rfl ?_)
    refine RunL.op (OpS.pass rfl rfl rfl ?_)
    refine RunL.op (OpS.pass rfl rfl rfl ?_)
    refine RunL.op (OpS.pass rfl rfl rfl ?_)
    refine RunL.op (OpS.pick rfl rfl rfl rfl ?_)
    refine RunL.op (OpS.mv rfl rfl rfl ?_)
    refine RunL.op (OpS.pass rfl rfl rfl ?_)
    refine RunL.op (OpS.pass rfl rfl rfl ?_)
    refine RunL.op (OpS.pass rfl rfl rfl ?_)
    refine RunL.op (OpS.pass rfl rfl rfl ?_)
    refine RunL.op (OpS.pick rfl rfl rfl rfl ?_)
    refine RunL.op (OpS.as rfl rfl rfl ?_)
    refine RunL.nil ?_
    refine Run.slim [(0, .bool false)] ⟨rfl, trivial⟩ ?_
    refine Run.retP rfl (.tmp rfl .nil) ?_
    cases hF
    exact Post.mk' ⟨rfl, rfl, rfl, rfl⟩ (h4.picks .nil) .nil
theorem checksum_Open8_ok {fuel : Nat} {a0 : List Int} {y : (List Int) × Int} (hF : checksum_Open8 fuel a0 = some y) {w : World} {v0 : Value} :
    Spec Try.prog 30 [v0].toArray w [(false, .val (Rep.slice (Rep.int .u8)) v0 a0)] [] (fun v Γr Ωr Ωo => ∃ u0 : Value, v = .tuple #[u0, .int .i64 y.2] ∧ Γr = [] ∧ Ωr = [(true, .slice 5 (Rep.int .u8) u0 y.1)] ∧ Ωo = []) := by
  refine Spec.of (L := [(0, v0)]) Try.func30 rfl ⟨rfl, trivial⟩ rfl (fun e h => ?_)
  unfold checksum_Open8 at hF
  refine Run.seq ?_
  refine Run.reg ?_
  refine RunL.op (OpS.as rfl rfl rfl ?_)
  refine RunL.op (OpS.as rfl rfl rfl ?_)
  refine RunL.nil ?_
  refine Run.slim [(0, v0)] ⟨rfl, trivial⟩ ?_
  refine Run.seq ?_
  refine Run.block ?_
  refine Run.seq ?_
  refine Run.reg ?_
  refine RunL.op (OpS.mv rfl rfl rfl ?_)
  refine RunL.op (OpS.len h Try.underlying22 rfl rfl rfl (V.at .z) ?_)
  refine RunL.op (OpS.bin rfl rfl rfl rfl rfl ?_)
  refine RunL.op (OpS.as rfl rfl rfl ?_)
  obtain ⟨x1, e1, hF⟩ := letP_use hF
  refine RunL.nameb e1 ?_
  refine RunL.nil ?_
  refine Run.slim [(4, .bool x1), (0, v0)] ⟨rfl, rfl, trivial⟩ ?_
  refine Run.ite rfl hF (fun e2 hF => ?_) (fun e2 hF => ?_)
  ·
    refine Run.seq ?_
    refine Run.reg ?_
    refine RunL.op (OpS.as rfl rfl rfl ?_)
    refine RunL.op (OpS.as rfl rfl rfl ?_)
    refine RunL.nil ?_
    refine Run.slim [(3, .int .i64 4), (2, .slice none 0 0)] ⟨rfl, rfl, trivial⟩ ?_
    have h1 := St.nil 5 (Rep.int .u8) h
    refine Run.retP rfl (.tmp rfl (.tmp rfl .nil)) ?_
    cases hF
    exact Post.mk' ⟨(.slice none 0 0), rfl, rfl, rfl, rfl⟩ (h1.picks (.cons .z .nil)) .nil
  ·
    refine Run.seq ?_
    refine Run.reg ?_
    refine RunL.op (OpS.mv rfl rfl rfl ?_)
    obtain ⟨y1, e3, hF⟩ := bindP_use hF
    refine RunL.op (OpS.callP h Try.func15 rfl rfl rfl rfl (vs := [v0]) rfl (checksum_Sum8_ok e3) (.cons (V.at .z) .nil) ?_)
    rintro _ w1 _ _ _ ⟨rfl, rfl, rfl, rfl⟩ h2
    have h3 := h2 rfl rfl
    simp only [List.cons_append, List.nil_append] at h3
    refine RunL.op (OpS.bin rfl rfl rfl rfl rfl ?_)
    refine RunL.op (OpS.as rfl rfl rfl ?_)
    obtain ⟨x2, e4, hF⟩ := letP_use hF
    refine RunL.nameb e4 ?_
    refine RunL.nil ?_
    refine Run.slim [(8, .bool x2), (0, v0)] ⟨rfl, rfl, trivial⟩ ?_
    refine Run.ite rfl hF (fun e5 hF => ?_) (fun e5 hF => ?_)
    ·
      refine Run.seq ?_
      refine Run.reg ?_
      refine RunL.op (OpS.as rfl rfl rfl ?_)
      refine RunL.op (OpS.as rfl rfl rfl ?_)
      refine RunL.nil ?_
      refine Run.slim [(3, .int .i64 5), (2, .slice none 0 0)] ⟨rfl, rfl, trivial⟩ ?_
      have h4 := St.nil 5 (Rep.int .u8) h3
      refine Run.retP rfl (.tmp rfl (.tmp rfl .nil)) ?_
      cases hF
      exact Post.mk' ⟨(.slice none 0 0), rfl, rfl, rfl, rfl⟩ (h4.picks (.cons .z .nil)) .nil
    ·
      refine Run.skip ?_
      refine Run.endBlock ?_
      refine Run.seq ?_
      refine Run.reg ?_
      refine RunL.op (OpS.mv rfl rfl rfl ?_)
      refine RunL.op (OpS.mv rfl rfl rfl ?_)
      refine RunL.op (OpS.len h3 Try.underlying22 rfl rfl rfl (V.at .z) ?_)
      refine RunL.op (OpS.bin rfl rfl rfl rfl rfl ?_)
      obtain ⟨x3, e6, hF⟩ := bindP_use hF
      refine RunL.op (OpS.sub h3 Try.underlying22 ty5 rfl rfl rfl rfl rfl (V.at .z) e6 (fun u1 h5 => ?_))
      obtain ⟨y2, e7, hF⟩ := bindP_use hF
      refine RunL.op (OpS.callP h5 Try.func41 rfl rfl rfl rfl (vs := [u1]) rfl (slices_Clone_byte_byte_ok e7) (.cons (V.at .z) .nil) ?_)
      rintro u2 w2 _ _ _ ⟨_, rfl, rfl, rfl, rfl⟩ h6
      have h7 := h6 rfl rfl
      simp only [List.cons_append, List.nil_append] at h7
      refine RunL.op (OpS.as rfl rfl rfl ?_)
      refine RunL.op (OpS.as rfl rfl rfl ?_)
      refine RunL.nil ?_
      refine Run.slim [(3, .int .i64 0), (2, u2)] ⟨rfl, rfl, trivial⟩ ?_
      refine Run.retP rfl (.tmp rfl (.tmp rfl .nil)) ?_
      cases hF
      exact Post.mk' ⟨u2, rfl, rfl, rfl, rfl⟩ (h7.picks (.cons .z .nil)) .nil
theorem ref01_Sum8_ok {fuel : Nat} {a0 : List Int} {y : Int} (hF : ref01_Sum8 fuel a0 = some y) {w : World} {v0 : Value} :
    Spec Try.prog 16 [v0].toArray w [(false, .val (Rep.slice (Rep.int .u8)) v0 a0)] [] (fun v Γr Ωr Ωo => v = .int .u8 y ∧ Γr = [] ∧ Ωr = [] ∧ Ωo = []) := by
  refine Spec.of (L := [(0, v0)]) Try.func16 rfl ⟨rfl, trivial⟩ rfl (fun e h => ?_)
  unfold ref01_Sum8 at hF
  refine Run.seq ?_
  refine Run.reg ?_
  refine RunL.op (OpS.as rfl rfl rfl ?_)
  refine RunL.nil ?_
  refine Run.slim [(0, v0)] ⟨rfl, trivial⟩ ?_
  refine Run.seq ?_
  refine Run.reg ?_
  refine RunL.op (OpS.as rfl rfl rfl ?_)
  refine RunL.nil ?_
  refine Run.seq ?_
  refine Run.seq ?_
  refine Run.reg ?_
  refine RunL.op (OpS.as rfl rfl rfl ?_)
  refine RunL.nil ?_
  refine Run.block ?_
  refine Run.slim [(0, v0), (3, .int .i64 0), (4, .int .i64 0)] ⟨rfl, rfl, rfl, trivial⟩ ?_
  refine Run.loopP (σ := (Int × Int)) (fun s_ L_ w_ => L_ = [(0, v0), (3, .int .i64 s_.1), (4, .int .i64 s_.2)] ∧ St e w_ [(false, .val (Rep.slice (Rep.int .u8)) v0 a0)] []) hF ⟨rfl, (h.facts (.atm .z .nil)).picks .nil⟩ (fun k1 hk1 s1 _ w1 hI hF => ?_)
  obtain ⟨rfl, h1⟩ := hI
  refine Run.seq ?_
  refine Run.seq ?_
  refine Run.reg ?_
  refine RunL.op (OpS.mv rfl rfl rfl ?_)
  refine RunL.op (OpS.mv rfl rfl rfl ?_)
  refine RunL.op (OpS.len h1 Try.underlying22 rfl rfl rfl (V.at .z) ?_)
  refine RunL.op (OpS.bin rfl rfl rfl rfl rfl ?_)
  refine RunL.nil ?_
  refine Run.slim [(8, .bool (decide (s1.2 < (a0.length : Int)))), (0, v0), (3, .int .i64 s1.1), (4, .int .i64 s1.2)] ⟨rfl, rfl, rfl, rfl, trivial⟩ ?_
  refine Run.ite rfl hF (fun e1 hF => ?_) (fun e1 hF => ?_)
  ·
    refine Run.skip ?_
    refine Run.seq ?_
    refine Run.block ?_
    refine Run.reg ?_
    refine RunL.op (OpS.mv rfl rfl rfl ?_)
    refine RunL.op (OpS.mv rfl rfl rfl ?_)
    refine RunL.op (OpS.mv rfl rfl rfl ?_)
    obtain ⟨x1, e2, hF⟩ := bindP_use hF
    refine RunL.op (OpS.iptr h1 Try.underlying22 ty5 rfl rfl rfl rfl (V.at .z) e2 (fun u1 h2 => ?_))
    refine RunL.op (OpS.loadi h2 ty5 rfl rfl rfl .z ?_)
    refine RunL.op (OpS.conv Try.underlying5 Try.underlying3 rfl rfl rfl ?_)
    refine RunL.op (OpS.bin rfl rfl rfl rfl rfl ?_)
    refine RunL.op (OpS.rem rfl rfl rfl rfl (by decide) ?_)
    refine RunL.op (OpS.as rfl rfl rfl ?_)
    obtain ⟨x2, e3, hF⟩ := letP_use hF
    refine RunL.name e3 ?_
    refine RunL.nil ?_
    refine Run.slim [(3, .int .i64 x2), (0, v0), (4, .int .i64 s1.2)] ⟨rfl, rfl, rfl, trivial⟩ ?_
    refine Run.endBlock ?_
    refine Run.reg ?_
    refine RunL.op (OpS.mv rfl rfl rfl ?_)
    refine RunL.op (OpS.bin rfl rfl rfl rfl rfl ?_)
    refine RunL.op (OpS.as rfl rfl rfl ?_)
    obtain ⟨x3, e4, hF⟩ := letP_use hF
    refine RunL.name e4 ?_
    refine RunL.nil ?_
    refine Run.slim [(4, .int .i64 x3), (3, .int .i64 x2), (0, v0)] ⟨rfl, rfl, rfl, trivial⟩ ?_
    refine Run.slim [(0, v0), (3, .int .i64 x2), (4, .int .i64 x3)] ⟨rfl, rfl, rfl, trivial⟩ ?_
    exact hk1 (x2, x3) _ _ ⟨rfl, (h2.facts (.atm (.s .z) .nil)).picks .nil⟩ hF
  ·
    refine Run.exit rfl ?_
    refine Run.seq ?_
    refine Run.reg ?_
    refine RunL.op (OpS.mv rfl rfl rfl ?_)
    refine RunL.op (OpS.bin rfl rfl rfl rfl rfl ?_)
    refine RunL.op (OpS.rem rfl rfl rfl rfl (by decide) ?_)
    refine RunL.op (OpS.conv Try.underlying3 Try.underlying5 rfl rfl rfl ?_)
    refine RunL.op (OpS.as rfl rfl rfl ?_)
    obtain ⟨x4, e5, hF⟩ := letP_use hF
    refine RunL.name e5 ?_
    refine RunL.nil ?_
    refine Run.slim [(2, .int .u8 x4)] ⟨rfl, trivial⟩ ?_
    refine Run.retP rfl (.tmp rfl .nil) ?_
    cases hF
    exact Post.mk' ⟨rfl, rfl, rfl, rfl⟩ (h1.picks .nil) .nil
theorem ref01_Copy_ok {fuel : Nat} {a0 : List Int} {y : (List Int)} (hF : ref01_Copy fuel a0 = some y) {w : World} {v0 : Value} :
    Spec Try.prog 44 [v0].toArray w [(false, .val (Rep.slice (Rep.int .u8)) v0 a0)] [] (fun v Γr Ωr Ωo => ∃ u0 : Value, v = u0 ∧ Γr = [] ∧ Ωr = [(true, .slice 5 (Rep.int .u8) u0 y)] ∧ Ωo = []) := by
  refine Spec.of (L := [(0, v0)]) Try.func44 rfl ⟨rfl, trivial⟩ rfl (fun e h => ?_)
  unfold ref01_Copy at hF
  refine Run.seq ?_
  refine Run.reg ?_
  refine RunL.op (OpS.as rfl rfl rfl ?_)
  refine RunL.nil ?_
  refine Run.slim [(0, v0)] ⟨rfl, trivial⟩ ?_
  refine Run.seq ?_
  refine Run.reg ?_
  refine RunL.op (OpS.as rfl rfl rfl ?_)
  refine RunL.nil ?_
  refine Run.seq ?_
  refine Run.seq ?_
  refine Run.reg ?_
  refine RunL.op (OpS.as rfl rfl rfl ?_)
  refine RunL.nil ?_
  refine Run.block ?_
  have h1 := St.nil 5 (Rep.int .u8) h
  refine Run.slim [(0, v0), (3, (.slice none 0 0)), (4, .int .i64 0)] ⟨rfl, rfl, rfl, trivial⟩ ?_
  refine Run.loopP (σ := (Int × (List Int))) (fun s_ L_ w_ => ∃ u0_ : Value, L_ = [(0, v0), (3, u0_), (4, .int .i64 s_.1)] ∧ St e w_ [(false, .val (Rep.slice (Rep.int .u8)) v0 a0)] [(true, .slice 5 (Rep.int .u8) u0_ s_.2)]) hF ⟨(.slice none 0 0), rfl, (h1.facts (.atm .z .nil)).picks (.cons .z .nil)⟩ (fun k1 hk1 s1 _ w1 hI hF => ?_)
  obtain ⟨u1, rfl, h2⟩ := hI
  refine Run.seq ?_
  refine Run.seq ?_
  refine Run.reg ?_
  refine RunL.op (OpS.mv rfl rfl rfl ?_)
  refine RunL.op (OpS.mv rfl rfl rfl ?_)
  refine RunL.op (OpS.len h2 Try.underlying22 rfl rfl rfl (V.at .z) ?_)
  refine RunL.op (OpS.bin rfl rfl rfl rfl rfl ?_)
  refine RunL.nil ?_
  refine Run.slim [(8, .bool (decide (s1.1 < (a0.length : Int)))), (0, v0), (3, u1), (4, .int .i64 s1.1)] ⟨rfl, rfl, rfl, rfl, trivial⟩ ?_
  refine Run.ite rfl hF (fun e1 hF => ?_) (fun e1 hF => ?_)
  ·
    refine Run.skip ?_
    refine Run.seq ?_
    refine Run.block ?_
    refine Run.reg ?_
    refine RunL.op (OpS.mv rfl rfl rfl ?_)
    refine RunL.op (OpS.mv rfl rfl rfl ?_)
    refine RunL.op (OpS.mv rfl rfl rfl ?_)
    obtain ⟨x1, e2, hF⟩ := bindP_use hF
    refine RunL.op (OpS.iptr h2 Try.underlying22 ty5 rfl rfl rfl rfl (V.at .z) e2 (fun u2 h3 => ?_))
    refine RunL.op (OpS.loadi h3 ty5 rfl rfl rfl .z ?_)
    refine RunL.op (OpS.lit (r := (Rep.int .u8)) (f := true) h3 Try.underlying22 ti5 rfl rfl rfl rfl rfl (.cons rfl V.int .nil) rfl rfl (fun u3 w2 h4 => ?_))
    obtain ⟨x2, e3, hF⟩ := bindP_use hF
    refine RunL.op (OpS.app (f' := true) h4 .z Try.underlying22 ti5 rfl rfl rfl rfl rfl rfl rfl (V.at .z) (.inr Pure.int) e3 (fun u4 w3 h5 => ?_))
    refine RunL.op (OpS.as rfl rfl rfl ?_)
    refine RunL.nil ?_
    refine Run.slim [(3, u4), (0, v0), (4, .int .i64 s1.1)] ⟨rfl, rfl, rfl, trivial⟩ ?_
    refine Run.endBlock ?_
    refine Run.reg ?_
    refine RunL.op (OpS.mv rfl rfl rfl ?_)
    refine RunL.op (OpS.bin rfl rfl rfl rfl rfl ?_)
    refine RunL.op (OpS.as rfl rfl rfl ?_)
    obtain ⟨x3, e4, hF⟩ := letP_use hF
    refine RunL.name e4 ?_
    refine RunL.nil ?_
    refine Run.slim [(4, .int .i64 x3), (3, u4), (0, v0)] ⟨rfl, rfl, rfl, trivial⟩ ?_
    refine Run.slim [(0, v0), (3, u4), (4, .int .i64 x3)] ⟨rfl, rfl, rfl, trivial⟩ ?_
    exact hk1 (x3, x2) _ _ ⟨u4, rfl, (h5.facts (.atm (.s (.s .z)) .nil)).picks (.cons .z .nil)⟩ hF
  ·
    refine Run.exit rfl ?_
    refine Run.seq ?_
    refine Run.reg ?_
    refine RunL.op (OpS.mv rfl rfl rfl ?_)
    refine RunL.op (OpS.as rfl rfl rfl ?_)
    refine RunL.nil ?_
    refine Run.slim [(2, u1)] ⟨rfl, trivial⟩ ?_
    refine Run.retP rfl (.tmp rfl .nil) ?_
    cases hF
    exact Post.mk' ⟨u1, rfl, rfl, rfl, rfl⟩ (h2.picks (.cons .z .nil)) .nil
theorem ref01_Open8_ok {fuel : Nat} {a0 : List Int} {y : (List Int) × Int} (hF : ref01_Open8 fuel a0 = some y) {w : World} {v0 : Value} :
    Spec Try.prog 31 [v0].toArray w [(false, .val (Rep.slice (Rep.int .u8)) v0 a0)] [] (fun v Γr Ωr Ωo => ∃ u0 : Value, v = .tuple #[u0, .int .i64 y.2] ∧ Γr = [] ∧ Ωr = [(true, .slice 5 (Rep.int .u8) u0 y.1)] ∧ Ωo = []) := by
  refine Spec.of (L := [(0, v0)]) Try.func31 rfl ⟨rfl, trivial⟩ rfl (fun e h => ?_)
  unfold ref01_Open8 at hF
  refine Run.seq ?_
  refine Run.reg ?_
  refine RunL.op (OpS.as rfl rfl rfl ?_)
  refine RunL.op (OpS.as rfl rfl rfl ?_)
  refine RunL.nil ?_
  refine Run.slim [(0, v0)] ⟨rfl, trivial⟩ ?_
  refine Run.seq ?_
  refine Run.seq ?_
  refine Run.reg ?_
  refine RunL.op (OpS.mv rfl rfl rfl ?_)
  refine RunL.op (OpS.len h Try.underlying22 rfl rfl rfl (V.at .z) ?_)
  refine RunL.op (OpS.bin rfl rfl rfl rfl rfl ?_)
  refine RunL.nil ?_
  refine Run.slim [(6, .bool ((a0.length : Int) == 0)), (0, v0)] ⟨rfl, rfl, trivial⟩ ?_
  refine Run.ite rfl hF (fun e1 hF => ?_) (fun e1 hF => ?_)
  ·
    refine Run.seq ?_
    refine Run.reg ?_
    refine RunL.op (OpS.as rfl rfl rfl ?_)
    refine RunL.op (OpS.as rfl rfl rfl ?_)
    refine RunL.nil ?_
    refine Run.slim [(3, .int .i64 4), (2, .slice none 0 0)] ⟨rfl, rfl, trivial⟩ ?_
    have h1 := St.nil 5 (Rep.int .u8) h
    refine Run.retP rfl (.tmp rfl (.tmp rfl .nil)) ?_
    cases hF
    exact Post.mk' ⟨(.slice none 0 0), rfl, rfl, rfl, rfl⟩ (h1.picks (.cons .z .nil)) .nil
  ·
    refine Run.skip ?_
    refine Run.seq ?_
    refine Run.seq ?_
    refine Run.reg ?_
    refine RunL.op (OpS.mv rfl rfl rfl ?_)
    obtain ⟨y1, e2, hF⟩ := bindP_use hF
    refine RunL.op (OpS.callP h Try.func16 rfl rfl rfl rfl (vs := [v0]) rfl (ref01_Sum8_ok e2) (.cons (V.at .z) .nil) ?_)
    rintro _ w1 _ _ _ ⟨rfl, rfl, rfl, rfl⟩ h2
    have h3 := h2 rfl rfl
    simp only [List.cons_append, List.nil_append] at h3
    refine RunL.op (OpS.bin rfl rfl rfl rfl rfl ?_)
    refine RunL.nil ?_
    refine Run.slim [(9, .bool (y1 != 0)), (0, v0)] ⟨rfl, rfl, trivial⟩ ?_
    refine Run.ite rfl hF (fun e3 hF => ?_) (fun e3 hF => ?_)
    ·
      refine Run.seq ?_
      refine Run.reg ?_
      refine RunL.op (OpS.as rfl rfl rfl ?_)
      refine RunL.op (OpS.as rfl rfl rfl ?_)
      refine RunL.nil ?_
      refine Run.slim [(3, .int .i64 5), (2, .slice none 0 0)] ⟨rfl, rfl, trivial⟩ ?_
      have h4 := St.nil 5 (Rep.int .u8) h3
      refine Run.retP rfl (.tmp rfl (.tmp rfl .nil)) ?_
      cases hF
      exact Post.mk' ⟨(.slice none 0 0), rfl, rfl, rfl, rfl⟩ (h4.picks (.cons .z .nil)) .nil
    ·
      refine Run.skip ?_
      refine Run.seq ?_
      refine Run.reg ?_
      refine RunL.op (OpS.mv rfl rfl rfl ?_)
      refine RunL.op (OpS.mv rfl rfl rfl ?_)
      refine RunL.op (OpS.len h3 Try.underlying22 rfl rfl rfl (V.at .z) ?_)
      refine RunL.op (OpS.bin rfl rfl rfl rfl rfl ?_)
      obtain ⟨x1, e4, hF⟩ := bindP_use hF
      refine RunL.op (OpS.sub h3 Try.underlying22 ty5 rfl rfl rfl rfl rfl (V.at .z) e4 (fun u1 h5 => ?_))
      obtain ⟨y2, e5, hF⟩ := bindP_use hF
      refine RunL.op (OpS.callP h5 Try.func44 rfl rfl rfl rfl (vs := [u1]) rfl (ref01_Copy_ok e5) (.cons (V.at .z) .nil) ?_)
      rintro u2 w2 _ _ _ ⟨_, rfl, rfl, rfl, rfl⟩ h6
      have h7 := h6 rfl rfl
      simp only [List.cons_append, List.nil_append] at h7
      refine RunL.op (OpS.as rfl rfl rfl ?_)
      refine RunL.op (OpS.as rfl rfl rfl ?_)
      refine RunL.nil ?_
      refine Run.slim [(3, .int .i64 0), (2, u2)] ⟨rfl, rfl, trivial⟩ ?_
      refine Run.retP rfl (.tmp rfl (.tmp rfl .nil)) ?_
      cases hF
      exact Post.mk' ⟨u2, rfl, rfl, rfl, rfl⟩ (h7.picks (.cons .z .nil)) .nil
theorem checksum_OpenCRC8_ok {fuel : Nat} {a0 : List Int} {y : (List Int) × Int} (hF : checksum_OpenCRC8 fuel a0 = some y) {w : World} {v0 : Value} :
    Spec Try.prog 27 [v0].toArray w [(false, .val (Rep.slice (Rep.int .u8)) v0 a0)] [] (fun v Γr Ωr Ωo => ∃ u0 : Value, v = .tuple #[u0, .int .i64 y.2] ∧ Γr = [] ∧ Ωr = [(true, .slice 5 (Rep.int .u8) u0 y.1)] ∧ Ωo = []) := by
  refine Spec.of (L := [(0, v0)]) Try.func27 rfl ⟨rfl, trivial⟩ rfl (fun e h => ?_)
  unfold checksum_OpenCRC8 at hF
  refine Run.seq ?_
  refine Run.reg ?_
  refine RunL.op (OpS.as rfl rfl rfl ?_)
  refine RunL.op (OpS.as rfl rfl rfl ?_)
  refine RunL.nil ?_
  refine Run.slim [(0, v0)] ⟨rfl, trivial⟩ ?_
  refine Run.seq ?_
  refine Run.reg ?_
  refine RunL.op (OpS.mv rfl rfl rfl ?_)
  refine RunL.op (OpS.len h Try.underlying22 rfl rfl rfl (V.at .z) ?_)
  refine RunL.op (OpS.bin rfl rfl rfl rfl rfl ?_)
  refine RunL.op (OpS.as rfl rfl rfl ?_)
  obtain ⟨x1, e1, hF⟩ := letP_use hF
  refine RunL.name e1 ?_
  refine RunL.nil ?_
  refine Run.slim [(4, .int .i64 x1), (0, v0)] ⟨rfl, rfl, trivial⟩ ?_
  refine Run.seq ?_
  refine Run.block ?_
  refine Run.seq ?_
  refine Run.reg ?_
  refine RunL.op (OpS.mv rfl rfl rfl ?_)
  refine RunL.op (OpS.bin rfl rfl rfl rfl rfl ?_)
  refine RunL.op (OpS.as rfl rfl rfl ?_)
  obtain ⟨x2, e2, hF⟩ := letP_use hF
  refine RunL.nameb e2 ?_
  refine RunL.nil ?_
  refine Run.slim [(8, .bool x2), (4, .int .i64 x1), (0, v0)] ⟨rfl, rfl, rfl, trivial⟩ ?_
  refine Run.ite rfl hF (fun e3 hF => ?_) (fun e3 hF => ?_)
  ·
    refine Run.seq ?_
    refine Run.reg ?_
    refine RunL.op (OpS.as rfl rfl rfl ?_)
    refine RunL.op (OpS.as rfl rfl rfl ?_)
    refine RunL.nil ?_
    refine Run.slim [(3, .int .i64 4), (2, .slice none 0 0)] ⟨rfl, rfl, trivial⟩ ?_
    have h1 := St.nil 5 (Rep.int .u8) h
    refine Run.retP rfl (.tmp rfl (.tmp rfl .nil)) ?_
    cases hF
    exact Post.mk' ⟨(.slice none 0 0), rfl, rfl, rfl, rfl⟩ (h1.picks (.cons .z .nil)) .nil
  ·
    refine Run.seq ?_
    obtain ⟨x3, e4, hF⟩ := bindP_use hF
    obtain ⟨y1, e5, hF⟩ := bindP_use hF
    obtain ⟨x4, e6, hF⟩ := bindP_use hF
    refine Run.drawV (Ωs := []) [⟨12, some (v0), fun _ => [], fun _ => [], false⟩, ⟨13, some (.int .i64 x1), fun _ => [], fun _ => [], false⟩, ⟨14, none, fun u_ => [(false, .val (Rep.slice (Rep.int .u8)) u_ x3)], fun u_ => [], false⟩, ⟨15, some (.int .u8 y1), fun _ => [], fun _ => [], false⟩, ⟨16, some (v0), fun _ => [], fun _ => [], false⟩, ⟨17, some (.int .i64 x1), fun _ => [], fun _ => [], false⟩, ⟨18, none, fun u_ => [(false, .ptr (Rep.int .u8) u_ x4)], fun u_ => [], false⟩, ⟨19, some (.int .u8 x4), fun _ => [], fun _ => [], false⟩, ⟨20, some (.bool (y1 != x4)), fun _ => [], fun _ => [], false⟩, ⟨11, some (.bool (y1 != x4)), fun _ => [], fun _ => [], false⟩] [[], [], [0, 1], [2], [], [], [4, 5], [6], [3, 7], [8]] Try_mixed rfl rfl h (.cons ?_ (.cons ?_ (.cons ?_ (.cons ?_ (.cons ?_ (.cons ?_ (.cons ?_ (.cons ?_ (.cons ?_ (.cons ?_ .nil)))))))))) (fun q1 w h => ?_)
    · intro q1 w Γx Ωx h
      refine OpS.mv rfl rfl rfl ?_
      exact ⟨undef, rfl, h⟩
    · intro q1 w Γx Ωx h
      refine OpS.mv rfl rfl rfl ?_
      exact ⟨undef, rfl, h⟩
    · intro q1 w Γx Ωx h
      refine OpS.sub h Try.underlying22 ty5 rfl rfl rfl rfl rfl (V.at .z) e4 (fun u h6 => ?_)
      exact ⟨u, rfl, h6⟩
    · intro q1 w Γx Ωx h
      refine OpS.callP h Try.func17 rfl rfl rfl rfl (vs := [(q1 2)]) rfl (checksum_CRC8_ok e5) (.cons (V.at .z) .nil) ?_
      rintro _ w2 _ _ _ ⟨rfl, rfl, rfl, rfl⟩ h7
      have h8 := h7 rfl rfl
      simp only [List.cons_append, List.nil_append] at h8
      exact ⟨undef, rfl, h8⟩
    · intro q1 w Γx Ωx h
      refine OpS.mv rfl rfl rfl ?_
      exact ⟨undef, rfl, h⟩
    · intro q1 w Γx Ωx h
      refine OpS.mv rfl rfl rfl ?_
      exact ⟨undef, rfl, h⟩
    · intro q1 w Γx Ωx h
      refine OpS.iptr h Try.underlying22 ty5 rfl rfl rfl rfl (V.at .z) e6 (fun u h9 => ?_)
      exact ⟨u, rfl, h9⟩
    · intro q1 w Γx Ωx h
      refine OpS.loadi h ty5 rfl rfl rfl .z ?_
      exact ⟨undef, rfl, h⟩
    · intro q1 w Γx Ωx h
      refine OpS.bin rfl rfl rfl rfl rfl ?_
      exact ⟨undef, rfl, h⟩
    · intro q1 w Γx Ωx h
      refine OpS.as rfl rfl rfl ?_
      exact ⟨undef, rfl, h⟩
    have h10 : St e w [(false, .val (Rep.slice (Rep.int .u8)) (q1 2) x3), (false, .ptr (Rep.int .u8) (q1 6) x4), (false, .val (Rep.slice (Rep.int .u8)) v0 a0)] [] := h
    refine RunL.nil ?_
    refine Run.slim [(11, .bool (y1 != x4)), (4, .int .i64 x1), (0, v0)] ⟨rfl, rfl, rfl, trivial⟩ ?_
    refine Run.ite rfl hF (fun e7 hF => ?_) (fun e7 hF => ?_)
    ·
      refine Run.seq ?_
      refine Run.reg ?_
      refine RunL.op (OpS.as rfl rfl rfl ?_)
      refine RunL.op (OpS.as rfl rfl rfl ?_)
      refine RunL.nil ?_
      refine Run.slim [(3, .int .i64 5), (2, .slice none 0 0)] ⟨rfl, rfl, trivial⟩ ?_
      have h11 := St.nil 5 (Rep.int .u8) h10
      refine Run.retP rfl (.tmp rfl (.tmp rfl .nil)) ?_
      cases hF
      exact Post.mk' ⟨(.slice none 0 0), rfl, rfl, rfl, rfl⟩ (h11.picks (.cons .z .nil)) .nil
    ·
      refine Run.skip ?_
      refine Run.endBlock ?_
      refine Run.seq ?_
      refine Run.reg ?_
      refine RunL.op (OpS.mv rfl rfl rfl ?_)
      refine RunL.op (OpS.mv rfl rfl rfl ?_)
      obtain ⟨x5, e8, hF⟩ := bindP_use hF
      refine RunL.op (OpS.sub h10 Try.underlying22 ty5 rfl rfl rfl rfl rfl (V.at (.s (.s .z))) e8 (fun u1 h12 => ?_))
      obtain ⟨y2, e9, hF⟩ := bindP_use hF
      refine RunL.op (OpS.callP h12 Try.func41 rfl rfl rfl rfl (vs := [u1]) rfl (slices_Clone_byte_byte_ok e9) (.cons (V.at .z) .nil) ?_)
      rintro u2 w3 _ _ _ ⟨_, rfl, rfl, rfl, rfl⟩ h13
      have h14 := h13 rfl rfl
      simp only [List.cons_append, List.nil_append] at h14
      refine RunL.op (OpS.as rfl rfl rfl ?_)
      refine RunL.op (OpS.as rfl rfl rfl ?_)
      refine RunL.nil ?_
      refine Run.slim [(3, .int .i64 0), (2, u2)] ⟨rfl, rfl, trivial⟩ ?_
      refine Run.retP rfl (.tmp rfl (.tmp rfl .nil)) ?_
      cases hF
      exact Post.mk' ⟨u2, rfl, rfl, rfl, rfl⟩ (h14.picks (.cons .z .nil)) .nil
theorem ref01_CRC8_ok {fuel : Nat} {a0 : List Int} {y : Int} (hF : ref01_CRC8 fuel a0 = some y) {w : World} {v0 : Value} :
    Spec Try.prog 18 [v0].toArray w [(false, .val (Rep.slice (Rep.int .u8)) v0 a0)] [] (fun v Γr Ωr Ωo => v = .int .u8 y ∧ Γr = [] ∧ Ωr = [] ∧ Ωo = []) := by
  refine Spec.of (L := [(0, v0)]) Try.func18 rfl ⟨rfl, trivial⟩ rfl (fun e h => ?_)
  unfold ref01_CRC8 at hF
  refine Run.seq ?_
  refine Run.reg ?_
  refine RunL.op (OpS.as rfl rfl rfl ?_)
  refine RunL.nil ?_
  refine Run.slim [(0, v0)] ⟨rfl, trivial⟩ ?_
  refine Run.seq ?_
  refine Run.reg ?_
  refine RunL.op (OpS.as rfl rfl rfl ?_)
  refine RunL.nil ?_
  refine Run.seq ?_
  refine Run.seq ?_
  refine Run.reg ?_
  refine RunL.op (OpS.as rfl rfl rfl ?_)
  refine RunL.nil ?_
  refine Run.block ?_
  refine Run.slim [(0, v0), (3, .int .i64 0), (4, .int .i64 0)] ⟨rfl, rfl, rfl, trivial⟩ ?_
  refine Run.loopP (σ := (Int × Int)) (fun s_ L_ w_ => L_ = [(0, v0), (3, .int .i64 s_.1), (4, .int .i64 s_.2)] ∧ St e w_ [(false, .val (Rep.slice (Rep.int .u8)) v0 a0)] []) hF ⟨rfl, (h.facts (.atm .z .nil)).picks .nil⟩ (fun k1 hk1 s1 _ w1 hI hF => ?_)
  obtain ⟨rfl, h1⟩ := hI
  refine Run.seq ?_
  refine Run.seq ?_
  refine Run.reg ?_
  refine RunL.op (OpS.mv rfl rfl rfl ?_)
  refine RunL.op (OpS.mv rfl rfl rfl ?_)
  refine RunL.op (OpS.len h1 Try.underlying22 rfl rfl rfl (V.at .z) ?_)
  refine RunL.op (OpS.bin rfl rfl rfl rfl rfl ?_)
  refine RunL.nil ?_
  refine Run.slim [(9, .bool (decide (s1.2 < (a0.length : Int)))), (0, v0), (3, .int .i64 s1.1), (4, .int .i64 s1.2)] ⟨rfl, rfl, rfl, rfl, trivial⟩ ?_
  refine Run.ite rfl hF (fun e1 hF => ?_) (fun e1 hF => ?_)
  ·
    refine Run.skip ?_
    refine Run.seq ?_
    refine Run.block ?_
    refine Run.seq ?_
    refine Run.reg ?_
    refine RunL.op (OpS.mv rfl rfl rfl ?_)
    refine RunL.op (OpS.mv rfl rfl rfl ?_)
    refine RunL.op (OpS.mv rfl rfl rfl ?_)
    obtain ⟨x1, e2, hF⟩ := bindP_use hF
    refine RunL.op (OpS.iptr h1 Try.underlying22 ty5 rfl rfl rfl rfl (V.at .z) e2 (fun u1 h2 => ?_))
    refine RunL.op (OpS.loadi h2 ty5 rfl rfl rfl .z ?_)
    refine RunL.op (OpS.conv Try.underlying5 Try.underlying3 rfl rfl rfl ?_)
    refine RunL.op (OpS.bin rfl rfl rfl rfl rfl ?_)
    refine RunL.op (OpS.as rfl rfl rfl ?_)
    obtain ⟨x2, e3, hF⟩ := letP_use hF
    refine RunL.name e3 ?_
    refine RunL.nil ?_
    refine Run.slim [(3, .int .i64 x2), (0, v0), (4, .int .i64 s1.2)] ⟨rfl, rfl, rfl, trivial⟩ ?_
    refine Run.seq ?_
    refine Run.reg ?_
    refine RunL.op (OpS.as rfl rfl rfl ?_)
    refine RunL.nil ?_
    refine Run.block ?_
    refine Run.slim [(0, v0), (3, .int .i64 x2), (4, .int .i64 s1.2), (5, .int .i64 0)] ⟨rfl, rfl, rfl, rfl, trivial⟩ ?_
    refine Run.loopP (σ := (Int × Int)) (fun s_ L_ w_ => L_ = [(0, v0), (3, .int .i64 s_.1), (4, .int .i64 s1.2), (5, .int .i64 s_.2)] ∧ St e w_ [(false, .val (Rep.slice (Rep.int .u8)) v0 a0)] []) hF ⟨rfl, (h2.facts (.atm (.s .z) .nil)).picks .nil⟩ (fun k2 hk2 s2 _ w2 hI hF => ?_)
    obtain ⟨rfl, h3⟩ := hI
    refine Run.seq ?_
    refine Run.seq ?_
    refine Run.reg ?_
    refine RunL.op (OpS.mv rfl rfl rfl ?_)
    refine RunL.op (OpS.bin rfl rfl rfl rfl rfl ?_)
    refine RunL.nil ?_
    refine Run.slim [(20, .bool (decide (s2.2 < 8))), (0, v0), (3, .int .i64 s2.1), (4, .int .i64 s1.2), (5, .int .i64 s2.2)] ⟨rfl, rfl, rfl, rfl, rfl, trivial⟩ ?_
    refine Run.ite rfl hF (fun e4 hF => ?_) (fun e4 hF => ?_)
    ·
      refine Run.skip ?_
      refine Run.seq ?_
      refine Run.block ?_
      refine Run.seq ?_
      refine Run.reg ?_
      refine RunL.op (OpS.mv rfl rfl rfl ?_)
      refine RunL.op (OpS.bin rfl rfl rfl rfl rfl ?_)
      refine RunL.op (OpS.as rfl rfl rfl ?_)
      obtain ⟨x3, e5, hF⟩ := letP_use hF
      refine RunL.name e5 ?_
      refine RunL.nil ?_
      refine Run.slim [(3, .int .i64 x3), (0, v0), (4, .int .i64 s1.2), (5, .int .i64 s2.2)] ⟨rfl, rfl, rfl, rfl, trivial⟩ ?_
      refine Run.seq ?_
      refine Run.reg ?_
      refine RunL.op (OpS.mv rfl rfl rfl ?_)
      refine RunL.op (OpS.bin rfl rfl rfl rfl rfl ?_)
      refine RunL.nil ?_
      refine Run.slim [(26, .bool (decide (x3 ≥ 256))), (3, .int .i64 x3), (0, v0), (4, .int .i64 s1.2), (5, .int .i64 s2.2)] ⟨rfl, rfl, rfl, rfl, rfl, trivial⟩ ?_
      refine Run.ite rfl hF (fun e6 hF => ?_) (fun e6 hF => ?_)
      ·
        refine Run.reg ?_
        refine RunL.op (OpS.mv rfl rfl rfl ?_)
        refine RunL.op (OpS.bin rfl rfl rfl rfl rfl ?_)
        refine RunL.op (OpS.bin rfl rfl rfl rfl rfl ?_)
        refine RunL.op (OpS.as rfl rfl rfl ?_)
        obtain ⟨x4, e7, hF⟩ := letP_use hF
        refine RunL.name e7 ?_
        refine RunL.nil ?_
        refine Run.slim [(3, .int .i64 x4), (0, v0), (4, .int .i64 s1.2), (5, .int .i64 s2.2)] ⟨rfl, rfl, rfl, rfl, trivial⟩ ?_
        refine Run.endBlock ?_
        refine Run.reg ?_
        refine RunL.op (OpS.mv rfl rfl rfl ?_)
        refine RunL.op (OpS.bin rfl rfl rfl rfl rfl ?_)
        refine RunL.op (OpS.as rfl rfl rfl ?_)
        obtain ⟨x5, e8, hF⟩ := letP_use hF
        refine RunL.name e8 ?_
        refine RunL.nil ?_
        refine Run.slim [(5, .int .i64 x5), (3, .int .i64 x4), (0, v0), (4, .int .i64 s1.2)] ⟨rfl, rfl, rfl, rfl, trivial⟩ ?_
        refine Run.slim [(0, v0), (3, .int .i64 x4), (4, .int .i64 s1.2), (5, .int .i64 x5)] ⟨rfl, rfl, rfl, rfl, trivial⟩ ?_
        exact hk2 (x4, x5) _ _ ⟨rfl, (h3.facts (.atm .z .nil)).picks .nil⟩ hF
      ·
        refine Run.skip ?_
        refine Run.endBlock ?_
        refine Run.reg ?_
        refine RunL.op (OpS.mv rfl rfl rfl ?_)
        refine RunL.op (OpS.bin rfl rfl rfl rfl rfl ?_)
        refine RunL.op (OpS.as rfl rfl rfl ?_)
        obtain ⟨x6, e9, hF⟩ := letP_use hF
        refine RunL.name e9 ?_
        refine RunL.nil ?_
        refine Run.slim [(5, .int .i64 x6), (3, .int .i64 x3), (0, v0), (4, .int .i64 s1.2)] ⟨rfl, rfl, rfl, rfl, trivial⟩ ?_
        refine Run.slim [(0, v0), (3, .int .i64 x3), (4, .int .i64 s1.2), (5, .int .i64 x6)] ⟨rfl, rfl, rfl, rfl, trivial⟩ ?_
        exact hk2 (x3, x6) _ _ ⟨rfl, (h3.facts (.atm .z .nil)).picks .nil⟩ hF
    ·
      refine Run.exit rfl ?_
      refine Run.endBlock ?_
      refine Run.reg ?_
      refine RunL.op (OpS.mv rfl rfl rfl ?_)
      refine RunL.op (OpS.bin rfl rfl rfl rfl rfl ?_)
      refine RunL.op (OpS.as rfl rfl rfl ?_)
      obtain ⟨x7, e10, hF⟩ := letP_use hF
      refine RunL.name e10 ?_
      refine RunL.nil ?_
      refine Run.slim [(4, .int .i64 x7), (0, v0), (3, .int .i64 s2.1)] ⟨rfl, rfl, rfl, trivial⟩ ?_
      refine Run.slim [(0, v0), (3, .int .i64 s2.1), (4, .int .i64 x7)] ⟨rfl, rfl, rfl, trivial⟩ ?_
      exact hk1 (s2.1, x7) _ _ ⟨rfl, (h3.facts (.atm .z .nil)).picks .nil⟩ hF
  ·
    refine Run.exit rfl ?_
    refine Run.seq ?_
    refine Run.reg ?_
    refine RunL.op (OpS.mv rfl rfl rfl ?_)
    refine RunL.op (OpS.conv Try.underlying3 Try.underlying5 rfl rfl rfl ?_)
    refine RunL.op (OpS.as rfl rfl rfl ?_)
    refine RunL.nil ?_
    refine Run.slim [(2, .int .u8 (IntKind.u8.wrap s1.1))] ⟨rfl, trivial⟩ ?_
    refine Run.retP rfl (.tmp rfl .nil) ?_
    cases hF
    exact Post.mk' ⟨rfl, rfl, rfl, rfl⟩ (h1.picks .nil) .nil
theorem ref01_OpenCRC8_ok {fuel : Nat} {a0 : List Int} {y : (List Int) × Int} (hF : ref01_OpenCRC8 fuel a0 = some y) {w : World} {v0 : Value} :
    Spec Try.prog 32 [v0].toArray w [(false, .val (Rep.slice (Rep.int .u8)) v0 a0)] [] (fun v Γr Ωr Ωo => ∃ u0 : Value, v = .tuple #[u0, .int .i64 y.2] ∧ Γr = [] ∧ Ωr = [(true, .slice 5 (Rep.int .u8) u0 y.1)] ∧ Ωo = []) := by
  refine Spec.of (L := [(0, v0)]) Try.func32 rfl ⟨rfl, trivial⟩ rfl (fun e h => ?_)
  unfold ref01_OpenCRC8 at hF
  refine Run.seq ?_
  refine Run.reg ?_
  refine RunL.op (OpS.as rfl rfl rfl ?_)
  refine RunL.op (OpS.as rfl rfl rfl ?_)
  refine RunL.nil ?_
  refine Run.slim [(0, v0)] ⟨rfl, trivial⟩ ?_
  refine Run.seq ?_
  refine Run.seq ?_
  refine Run.reg ?_
  refine RunL.op (OpS.mv rfl rfl rfl ?_)
  refine RunL.op (OpS.len h Try.underlying22 rfl rfl rfl (V.at .z) ?_)
  refine RunL.op (OpS.bin rfl rfl rfl rfl rfl ?_)
  refine RunL.nil ?_
  refine Run.slim [(7, .bool ((a0.length : Int) == 0)), (0, v0)] ⟨rfl, rfl, trivial⟩ ?_
  refine Run.ite rfl hF (fun e1 hF => ?_) (fun e1 hF => ?_)
  ·
    refine Run.seq ?_
    refine Run.reg ?_
    refine RunL.op (OpS.as rfl rfl rfl ?_)
    refine RunL.op (OpS.as rfl rfl rfl ?_)
    refine RunL.nil ?_
    refine Run.slim [(3, .int .i64 4), (2, .slice none 0 0)] ⟨rfl, rfl, trivial⟩ ?_
    have h1 := St.nil 5 (Rep.int .u8) h
    refine Run.retP rfl (.tmp rfl (.tmp rfl .nil)) ?_
    cases hF
    exact Post.mk' ⟨(.slice none 0 0), rfl, rfl, rfl, rfl⟩ (h1.picks (.cons .z .nil)) .nil
  ·
    refine Run.skip ?_
    refine Run.seq ?_
    refine Run.reg ?_
    refine RunL.op (OpS.mv rfl rfl rfl ?_)
    refine RunL.op (OpS.len h Try.underlying22 rfl rfl rfl (V.at .z) ?_)
    refine RunL.op (OpS.bin rfl rfl rfl rfl rfl ?_)
    refine RunL.op (OpS.as rfl rfl rfl ?_)
    obtain ⟨x1, e2, hF⟩ := letP_use hF
    refine RunL.name e2 ?_
    refine RunL.nil ?_
    refine Run.slim [(4, .int .i64 x1), (0, v0)] ⟨rfl, rfl, trivial⟩ ?_
    refine Run.seq ?_
    refine Run.seq ?_
    obtain ⟨x2, e3, hF⟩ := bindP_use hF
    obtain ⟨y1, e4, hF⟩ := bindP_use hF
    obtain ⟨x3, e5, hF⟩ := bindP_use hF
    refine Run.drawV (Ωs := []) [⟨11, some (v0), fun _ => [], fun _ => [], false⟩, ⟨12, some (.int .i64 x1), fun _ => [], fun _ => [], false⟩, ⟨13, none, fun u_ => [(false, .val (Rep.slice (Rep.int .u8)) u_ x2)], fun u_ => [], false⟩, ⟨14, some (.int .u8 y1), fun _ => [], fun _ => [], false⟩, ⟨15, some (v0), fun _ => [], fun _ => [], false⟩, ⟨16, some (.int .i64 x1), fun _ => [], fun _ => [], false⟩, ⟨17, none, fun u_ => [(false, .ptr (Rep.int .u8) u_ x3)], fun u_ => [], false⟩, ⟨18, some (.int .u8 x3), fun _ => [], fun _ => [], false⟩, ⟨19, some (.bool (y1 != x3)), fun _ => [], fun _ => [], false⟩] [[], [], [0, 1], [2], [], [], [4, 5], [6], [3, 7]] Try_mixed rfl rfl h (.cons ?_ (.cons ?_ (.cons ?_ (.cons ?_ (.cons ?_ (.cons ?_ (.cons ?_ (.cons ?_ (.cons ?_ .nil))))))))) (fun q1 w h => ?_)
    · intro q1 w Γx Ωx h
      refine OpS.mv rfl rfl rfl ?_
      exact ⟨undef, rfl, h⟩
    · intro q1 w Γx Ωx h
      refine OpS.mv rfl rfl rfl ?_
      exact ⟨undef, rfl, h⟩
    · intro q1 w Γx Ωx h
      refine OpS.sub h Try.underlying22 ty5 rfl rfl rfl rfl rfl (V.at .z) e3 (fun u h6 => ?_)
      exact ⟨u, rfl, h6⟩
    · intro q1 w Γx Ωx h
      refine OpS.callP h Try.func18 rfl rfl rfl rfl (vs := [(q1 2)]) rfl (ref01_CRC8_ok e4) (.cons (V.at .z) .nil) ?_
      rintro _ w2 _ _ _ ⟨rfl, rfl, rfl, rfl⟩ h7
      have h8 := h7 rfl rfl
      simp only [List.cons_append, List.nil_append] at h8
      exact ⟨undef, rfl, h8⟩
    · intro q1 w Γx Ωx h
      refine OpS.mv rfl rfl rfl ?_
      exact ⟨undef, rfl, h⟩
    · intro q1 w Γx Ωx h
      refine OpS.mv rfl rfl rfl ?_
      exact ⟨undef, rfl, h⟩
    · intro q1 w Γx Ωx h
      refine OpS.iptr h Try.underlying22 ty5 rfl rfl rfl rfl (V.at .z) e5 (fun u h9 => ?_)
      exact ⟨u, rfl, h9⟩
    · intro q1 w Γx Ωx h
      refine OpS.loadi h ty5 rfl rfl rfl .z ?_
      exact ⟨undef, rfl, h⟩
    · intro q1 w Γx Ωx h
      refine OpS.bin rfl rfl rfl rfl rfl ?_
      exact ⟨undef, rfl, h⟩
    have h10 : St e w [(false, .val (Rep.slice (Rep.int .u8)) (q1 2) x2), (false, .ptr (Rep.int .u8) (q1 6) x3), (false, .val (Rep.slice (Rep.int .u8)) v0 a0)] [] := h
    refine RunL.nil ?_
    refine Run.slim [(19, .bool (y1 != x3)), (4, .int .i64 x1), (0, v0)] ⟨rfl, rfl, rfl, trivial⟩ ?_
    refine Run.ite rfl hF (fun e6 hF => ?_) (fun e6 hF => ?_)
    ·
      refine Run.seq ?_
      refine Run.reg ?_
      refine RunL.op (OpS.as rfl rfl rfl ?_)
      refine RunL.op (OpS.as rfl rfl rfl ?_)
      refine RunL.nil ?_
      refine Run.slim [(3, .int .i64 5), (2, .slice none 0 0)] ⟨rfl, rfl, trivial⟩ ?_
      have h11 := St.nil 5 (Rep.int .u8) h10
      refine Run.retP rfl (.tmp rfl (.tmp rfl .nil)) ?_
      cases hF
      exact Post.mk' ⟨(.slice none 0 0), rfl, rfl, rfl, rfl⟩ (h11.picks (.cons .z .nil)) .nil
    ·
      refine Run.skip ?_
      refine Run.seq ?_
      refine Run.reg ?_
      refine RunL.op (OpS.mv rfl rfl rfl ?_)
      refine RunL.op (OpS.mv rfl rfl rfl ?_)
      obtain ⟨x4, e7, hF⟩ := bindP_use hF
      refine RunL.op (OpS.sub h10 Try.underlying22 ty5 rfl rfl rfl rfl rfl (V.at (.s (.s .z))) e7 (fun u1 h12 => ?_))
      obtain ⟨y2, e8, hF⟩ := bindP_use hF
      refine RunL.op (OpS.callP h12 Try.func44 rfl rfl rfl rfl (vs := [u1]) rfl (ref01_Copy_ok e8) (.cons (V.at .z) .nil) ?_)
      rintro u2 w3 _ _ _ ⟨_, rfl, rfl, rfl, rfl⟩ h13
      have h14 := h13 rfl rfl
      simp only [List.cons_append, List.nil_append] at h14
      refine RunL.op (OpS.as rfl rfl rfl ?_)
      refine RunL.op (OpS.as rfl rfl rfl ?_)
      refine RunL.nil ?_
      refine Run.slim [(3, .int .i64 0), (2, u2)] ⟨rfl, rfl, trivial⟩ ?_
      refine Run.retP rfl (.tmp rfl (.tmp rfl .nil)) ?_
      cases hF
      exact Post.mk' ⟨u2, rfl, rfl, rfl, rfl⟩ (h14.picks (.cons .z .nil)) .nil
theorem checksum_four_ok {fuel : Nat} {a0 : Int} {y : (List Int)} (hF : checksum_four fuel a0 = some y) {w : World} :
    Spec Try.prog 42 [.int .u32 a0].toArray w [] [] (fun v Γr Ωr Ωo => ∃ u0 : Value, v = u0 ∧ Γr = [(true, .val (Rep.slice (Rep.int .u8)) u0 y)] ∧ Ωr = [] ∧ Ωo = []) := by
  refine Spec.of (L := [(0, .int .u32 a0)]) Try.func42 rfl ⟨rfl, trivial⟩ rfl (fun e h => ?_)
  unfold checksum_four at hF
  refine Run.seq ?_
  refine Run.reg ?_
  refine RunL.op (OpS.as rfl rfl rfl ?_)
  refine RunL.nil ?_
  refine Run.slim [(0, .int .u32 a0)] ⟨rfl, trivial⟩ ?_
  refine Run.seq ?_
  refine Run.reg ?_
  refine RunL.op (OpS.mv rfl rfl rfl ?_)
  refine RunL.op (OpS.conv Try.underlying26 Try.underlying5 rfl rfl rfl ?_)
  refine RunL.op (OpS.mv rfl rfl rfl ?_)
  refine RunL.op (OpS.shr rfl rfl rfl rfl (by decide) ?_)
  refine RunL.op (OpS.conv Try.underlying26 Try.underlying5 rfl rfl rfl ?_)
  refine RunL.op (OpS.mv rfl rfl rfl ?_)
  refine RunL.op (OpS.shr rfl rfl rfl rfl (by decide) ?_)
  refine RunL.op (OpS.conv Try.underlying26 Try.underlying5 rfl rfl rfl ?_)
  refine RunL.op (OpS.mv rfl rfl rfl ?_)
  refine RunL.op (OpS.shr rfl rfl rfl rfl (by decide) ?_)
  refine RunL.op (OpS.conv Try.underlying26 Try.underlying5 rfl rfl rfl ?_)
  refine RunL.op (OpS.lit (r := (Rep.int .u8)) (f := true) h Try.underlying22 ti5 rfl rfl rfl rfl rfl (.cons rfl V.int (.cons rfl V.int (.cons rfl V.int (.cons rfl V.int .nil)))) rfl rfl (fun u1 w1 h1 => ?_))
  refine RunL.op (OpS.as rfl rfl rfl ?_)
  refine RunL.nil ?_
  refine Run.slim [(2, u1)] ⟨rfl, trivial⟩ ?_
  refine Run.retP rfl (.tmp rfl .nil) ?_
  cases hF
  exact Post.mk' ⟨u1, rfl, rfl, rfl, rfl⟩ (h1.picks .nil) (.val (V.at .z) .nil)
theorem slices_Equal_byte_byte_ok {fuel : Nat} {a0 : List Int} {a1 : List Int} {y : Bool} (hF : slices_Equal_byte_byte fuel a0 a1 = some y) {w : World} {v0 v1 : Value} :
    Spec Try.prog 43 [v0, v1].toArray w [(false, .val (Rep.slice (Rep.int .u8)) v0 a0), (false, .val (Rep.slice (Rep.int .u8)) v1 a1)] [] (fun v Γr Ωr Ωo => v = .bool y ∧ Γr = [] ∧ Ωr = [] ∧ Ωo = []) := by
  refine Spec.of (L := [(0, v0), (1, v1)]) Try.func43 rfl ⟨rfl, rfl, trivial⟩ rfl (fun e h => ?_)
  unfold slices_Equal_byte_byte at hF
  refine Run.seq ?_
  refine Run.reg ?_
  refine RunL.op (OpS.as rfl rfl rfl ?_)
  refine RunL.nil ?_
  refine Run.slim [(0, v0), (1, v1)] ⟨rfl, rfl, trivial⟩ ?_
  refine Run.seq ?_
  refine Run.seq ?_
  refine Run.reg ?_
  refine RunL.op (OpS.mv rfl rfl rfl ?_)
  refine RunL.op (OpS.len h Try.underlying22 rfl rfl rfl (V.at .z) ?_)
  refine RunL.op (OpS.mv rfl rfl rfl ?_)
  refine RunL.op (OpS.len h Try.underlying22 rfl rfl rfl (V.at (.s .z)) ?_)
  refine RunL.op (OpS.bin rfl rfl rfl rfl rfl ?_)
  refine RunL.nil ?_
  refine Run.slim [(10, .bool ((a0.length : Int) != (a1.length : Int))), (0, v0), (1, v1)] ⟨rfl, rfl, rfl, trivial⟩ ?_
  refine Run.ite rfl hF (fun e1 hF => ?_) (fun e1 hF => ?_)
  ·
    refine Run.seq ?_
    refine Run.reg ?_
    refine RunL.op (OpS.as rfl rfl rfl ?_)
    refine RunL.nil ?_
    refine Run.slim [(4, .bool false)] ⟨rfl, trivial⟩ ?_
    refine Run.retP rfl (.tmp rfl .nil) ?_
    cases hF
    exact Post.mk' ⟨rfl, rfl, rfl, rfl⟩ (h.picks .nil) .nil
  ·
    refine Run.skip ?_
    refine Run.seq ?_
    refine Run.seq ?_
    refine Run.reg ?_
    refine RunL.op (OpS.mv rfl rfl rfl ?_)
    refine RunL.op (OpS.len h Try.underlying22 rfl rfl rfl (V.at .z) ?_)
    refine RunL.op (OpS.mv rfl rfl rfl ?_)
    refine RunL.nil ?_
    refine Run.slim [(13, .int .i64 0), (12, .int .i64 (a0.length : Int)), (0, v0), (1, v1)] ⟨rfl, rfl, rfl, rfl, trivial⟩ ?_
    refine Run.block ?_
    refine Run.slim [(0, v0), (1, v1), (12, .int .i64 (a0.length : Int)), (13, .int .i64 0)] ⟨rfl, rfl, rfl, rfl, trivial⟩ ?_
    refine Run.loopP (σ := Int) (fun s_ L_ w_ => L_ = [(0, v0), (1, v1), (12, .int .i64 (a0.length : Int)), (13, .int .i64 s_)] ∧ St e w_ [(false, .val (Rep.slice (Rep.int .u8)) v0 a0), (false, .val (Rep.slice (Rep.int .u8)) v1 a1)] []) hF ⟨rfl, (h.facts (.atm .z (.atm (.s .z) .nil))).picks .nil⟩ (fun k1 hk1 s1 _ w1 hI hF => ?_)
    obtain ⟨rfl, h1⟩ := hI
    refine Run.seq ?_
    refine Run.reg ?_
    refine RunL.op (OpS.bin rfl rfl rfl rfl rfl ?_)
    refine RunL.nil ?_
    refine Run.seq ?_
    refine Run.ite rfl hF (fun e2 hF => ?_) (fun e2 hF => ?_)
    ·
      refine Run.skip ?_
      refine Run.seq ?_
      refine Run.block ?_
      refine Run.seq ?_
      refine Run.reg ?_
      refine RunL.op (OpS.mv rfl rfl rfl ?_)
      refine RunL.op (OpS.as rfl rfl rfl ?_)
      refine RunL.nil ?_
      refine Run.slim [(5, .int .i64 s1), (0, v0), (1, v1), (12, .int .i64 (a0.length : Int)), (13, .int .i64 s1)] ⟨rfl, rfl, rfl, rfl, rfl, trivial⟩ ?_
      refine Run.seq ?_
      obtain ⟨x1, e3, hF⟩ := bindP_use hF
      obtain ⟨x2, e4, hF⟩ := bindP_use hF
      refine Run.drawV (Ωs := []) [⟨16, some (v0), fun _ => [], fun _ => [], false⟩, ⟨17, some (.int .i64 s1), fun _ => [], fun _ => [], false⟩, ⟨18, none, fun u_ => [(false, .ptr (Rep.int .u8) u_ x1)], fun u_ => [], false⟩, ⟨19, some (.int .u8 x1), fun _ => [], fun _ => [], false⟩, ⟨20, some (v1), fun _ => [], fun _ => [], false⟩, ⟨21, some (.int .i64 s1), fun _ => [], fun _ => [], false⟩, ⟨22, none, fun u_ => [(false, .ptr (Rep.int .u8) u_ x2)], fun u_ => [], false⟩, ⟨23, some (.int .u8 x2), fun _ => [], fun _ => [], false⟩, ⟨24, some (.bool (x1 != x2)), fun _ => [], fun _ => [], false⟩] [[], [], [0, 1], [2], [], [], [4, 5], [6], [3, 7]] Try_mixed rfl rfl h1 (.cons ?_ (.cons ?_ (.cons ?_ (.cons ?_ (.cons ?_ (.cons ?_ (.cons ?_ (.cons ?_ (.cons ?_ .nil))))))))) (fun q1 w h => ?_)
      · intro q1 w Γx Ωx h
        refine OpS.mv rfl rfl rfl ?_
        exact ⟨undef, rfl, h⟩
      · intro q1 w Γx Ωx h
        refine OpS.mv rfl rfl rfl ?_
        exact ⟨undef, rfl, h⟩
      · intro q1 w Γx Ωx h
        refine OpS.iptr h Try.underlying22 ty5 rfl rfl rfl rfl (V.at .z) e3 (fun u h4 => ?_)
        exact ⟨u, rfl, h4⟩
      · intro q1 w Γx Ωx h
        refine OpS.loadi h ty5 rfl rfl rfl .z ?_
        exact ⟨undef, rfl, h⟩
      · intro q1 w Γx Ωx h
        refine OpS.mv rfl rfl rfl ?_
        exact ⟨undef, rfl, h⟩
      · intro q1 w Γx Ωx h
        refine OpS.mv rfl rfl rfl ?_
        exact ⟨undef, rfl, h⟩
      · intro q1 w Γx Ωx h
        refine OpS.iptr h Try.underlying22 ty5 rfl rfl rfl rfl (V.at (.s .z)) e4 (fun u h5 => ?_)
        exact ⟨u, rfl, h5⟩
      · intro q1 w Γx Ωx h
        refine OpS.loadi h ty5 rfl rfl rfl .z ?_
        exact ⟨undef, rfl, h⟩
      · intro q1 w Γx Ωx h
        refine OpS.bin rfl rfl rfl rfl rfl ?_
        exact ⟨undef, rfl, h⟩
      have h6 : St e w [(false, .ptr (Rep.int .u8) (q1 2) x1), (false, .ptr (Rep.int .u8) (q1 6) x2), (false, .val (Rep.slice (Rep.int .u8)) v0 a0), (false, .val (Rep.slice (Rep.int .u8)) v1 a1)] [] := h
      refine RunL.nil ?_
      refine Run.slim [(24, .bool (x1 != x2)), (0, v0), (1, v1), (12, .int .i64 (a0.length : Int)), (13, .int .i64 s1)] ⟨rfl, rfl, rfl, rfl, rfl, trivial⟩ ?_
      refine Run.ite rfl hF (fun e5 hF => ?_) (fun e5 hF => ?_)
      ·
        refine Run.seq ?_
        refine Run.reg ?_
        refine RunL.op (OpS.as rfl rfl rfl ?_)
        refine RunL.nil ?_
        refine Run.slim [(4, .bool false)] ⟨rfl, trivial⟩ ?_
        refine Run.retP rfl (.tmp rfl .nil) ?_
        cases hF
        exact Post.mk' ⟨rfl, rfl, rfl, rfl⟩ (h6.picks .nil) .nil
      ·
        refine Run.skip ?_
        refine Run.endBlock ?_
        refine Run.reg ?_
        refine RunL.op (OpS.bin rfl rfl rfl rfl rfl ?_)
        refine RunL.op (OpS.mv rfl rfl rfl ?_)
        refine RunL.nil ?_
        refine Run.slim [(13, .int .i64 (IntKind.i64.wrap (s1 + 1))), (0, v0), (1, v1), (12, .int .i64 (a0.length : Int))] ⟨rfl, rfl, rfl, rfl, trivial⟩ ?_
        refine Run.slim [(0, v0), (1, v1), (12, .int .i64 (a0.length : Int)), (13, .int .i64 (IntKind.i64.wrap (s1 + 1)))] ⟨rfl, rfl, rfl, rfl, trivial⟩ ?_
        exact hk1 ((IntKind.i64.wrap (s1 + 1))) _ _ ⟨rfl, (h6.facts (.atm (.s (.s .z)) (.atm (.s (.s (.s .z))) .nil))).picks .nil⟩ hF
    ·
      refine Run.exit rfl ?_
      refine Run.seq ?_
      refine Run.reg ?_
      refine RunL.op (OpS.as rfl rfl rfl ?_)
      refine RunL.nil ?_
      refine Run.slim [(4, .bool true)] ⟨rfl, trivial⟩ ?_
      refine Run.retP rfl (.tmp rfl .nil) ?_
      cases hF
      exact Post.mk' ⟨rfl, rfl, rfl, rfl⟩ (h1.picks .nil) .nil
theorem checksum_OpenCRC32_ok {fuel : Nat} {a0 : List Int} {y : (List Int) × Int} (hF : checksum_OpenCRC32 fuel a0 = some y) {w : World} {v0 : Value} :
    Spec Try.prog 29 [v0].toArray w [(false, .val (Rep.slice (Rep.int .u8)) v0 a0)] [] (fun v Γr Ωr Ωo => ∃ u0 : Value, v = .tuple #[u0, .int .i64 y.2] ∧ Γr = [] ∧ Ωr = [(true, .slice 5 (Rep.int .u8) u0 y.1)] ∧ Ωo = []) := by
  refine Spec.of (L := [(0, v0)]) Try.func29 rfl ⟨rfl, trivial⟩ rfl (fun e h => ?_)
  unfold checksum_OpenCRC32 at hF
  refine Run.seq ?_
  refine Run.reg ?_
  refine RunL.op (OpS.as rfl rfl rfl ?_)
  refine RunL.op (OpS.as rfl rfl rfl ?_)
  refine RunL.nil ?_
  refine Run.slim [(0, v0)] ⟨rfl, trivial⟩ ?_
  refine Run.seq ?_
  refine Run.reg ?_
  refine RunL.op (OpS.mv rfl rfl rfl ?_)
  refine RunL.op (OpS.len h Try.underlying22 rfl rfl rfl (V.at .z) ?_)
  refine RunL.op (OpS.bin rfl rfl rfl rfl rfl ?_)
  refine RunL.op (OpS.as rfl rfl rfl ?_)
  obtain ⟨x1, e1, hF⟩ := letP_use hF
  refine RunL.name e1 ?_
  refine RunL.nil ?_
  refine Run.slim [(4, .int .i64 x1), (0, v0)] ⟨rfl, rfl, trivial⟩ ?_
  refine Run.seq ?_
  refine Run.block ?_
  refine Run.seq ?_
  refine Run.reg ?_
  refine RunL.op (OpS.mv rfl rfl rfl ?_)
  refine RunL.op (OpS.bin rfl rfl rfl rfl rfl ?_)
  refine RunL.op (OpS.as rfl rfl rfl ?_)
  obtain ⟨x2, e2, hF⟩ := letP_use hF
  refine RunL.nameb e2 ?_
  refine RunL.nil ?_
  refine Run.slim [(8, .bool x2), (4, .int .i64 x1), (0, v0)] ⟨rfl, rfl, rfl, trivial⟩ ?_
  refine Run.ite rfl hF (fun e3 hF => ?_) (fun e3 hF => ?_)
  ·
    refine Run.seq ?_
    refine Run.reg ?_
    refine RunL.op (OpS.as rfl rfl rfl ?_)
    refine RunL.op (OpS.as rfl rfl rfl ?_)
    refine RunL.nil ?_
    refine Run.slim [(3, .int .i64 4), (2, .slice none 0 0)] ⟨rfl, rfl, trivial⟩ ?_
    have h1 := St.nil 5 (Rep.int .u8) h
    refine Run.retP rfl (.tmp rfl (.tmp rfl .nil)) ?_
    cases hF
    exact Post.mk' ⟨(.slice none 0 0), rfl, rfl, rfl, rfl⟩ (h1.picks (.cons .z .nil)) .nil
  ·
    refine Run.seq ?_
    obtain ⟨x3, e4, hF⟩ := bindP_use hF
    obtain ⟨y1, e5, hF⟩ := bindP_use hF
    obtain ⟨y2, e6, hF⟩ := bindP_use hF
    obtain ⟨x4, e7, hF⟩ := bindP_use hF
    obtain ⟨y3, e8, hF⟩ := bindP_use hF
    refine Run.drawV (Ωs := []) [⟨12, some (v0), fun _ => [], fun _ => [], false⟩, ⟨13, some (.int .i64 x1), fun _ => [], fun _ => [], false⟩, ⟨14, none, fun u_ => [(false, .val (Rep.slice (Rep.int .u8)) u_ x3)], fun u_ => [], false⟩, ⟨15, some (.int .u32 y1), fun _ => [], fun _ => [], false⟩, ⟨16, none, fun u_ => [(true, .val (Rep.slice (Rep.int .u8)) u_ y2)], fun u_ => [], false⟩, ⟨17, some (v0), fun _ => [], fun _ => [], false⟩, ⟨18, some (.int .i64 x1), fun _ => [], fun _ => [], false⟩, ⟨19, none, fun u_ => [(false, .val (Rep.slice (Rep.int .u8)) u_ x4)], fun u_ => [], false⟩, ⟨20, some (.bool y3), fun _ => [], fun _ => [], false⟩, ⟨21, some (.bool (!y3)), fun _ => [], fun _ => [], false⟩, ⟨11, some (.bool (!y3)), fun _ => [], fun _ => [], false⟩] [[], [], [0, 1], [2], [3], [], [], [5, 6], [4, 7], [8], [9]] Try_mixed rfl rfl h (.cons ?_ (.cons ?_ (.cons ?_ (.cons ?_ (.cons ?_ (.cons ?_ (.cons ?_ (.cons ?_ (.cons ?_ (.cons ?_ (.cons ?_ .nil))))))))))) (fun q1 w h => ?_)
    · intro q1 w Γx Ωx h
      refine OpS.mv rfl rfl rfl ?_
      exact ⟨undef, rfl, h⟩
    · intro q1 w Γx Ωx h
      refine OpS.mv rfl rfl rfl ?_
      exact ⟨undef, rfl, h⟩
    · intro q1 w Γx Ωx h
      refine OpS.sub h Try.underlying22 ty5 rfl rfl rfl rfl rfl (V.at .z) e4 (fun u h10 => ?_)
      exact ⟨u, rfl, h10⟩
    · intro q1 w Γx Ωx h
      refine OpS.callP h Try.func19 rfl rfl rfl rfl (vs := [(q1 2)]) rfl (checksum_CRC32_ok e5) (.cons (V.at .z) .nil) ?_
      rintro _ w4 _ _ _ ⟨rfl, rfl, rfl, rfl⟩ h11
      have h12 := h11 rfl rfl
      simp only [List.cons_append, List.nil_append] at h12
      exact ⟨undef, rfl, h12⟩
    · intro q1 w Γx Ωx h
      refine OpS.callP h Try.func42 rfl rfl rfl rfl (vs := [.int .u32 y1]) rfl (checksum_four_ok e6) .nil ?_
      rintro u w5 _ _ _ ⟨_, rfl, rfl, rfl, rfl⟩ h13
      have h14 := h13 rfl rfl
      simp only [List.cons_append, List.nil_append] at h14
      exact ⟨u, rfl, h14⟩
    · intro q1 w Γx Ωx h
      refine OpS.mv rfl rfl rfl ?_
      exact ⟨undef, rfl, h⟩
    · intro q1 w Γx Ωx h
      refine OpS.mv rfl rfl rfl ?_
      exact ⟨undef, rfl, h⟩
    · intro q1 w Γx Ωx h
      refine OpS.sub h Try.underlying22 ty5 rfl rfl rfl rfl rfl (V.at .z) e7 (fun u h15 => ?_)
      exact ⟨u, rfl, h15⟩
    · intro q1 w Γx Ωx h
      refine OpS.callP h Try.func43 rfl rfl rfl rfl (vs := [(q1 4), (q1 7)]) rfl (slices_Equal_byte_byte_ok e8) (.cons (V.at .z) (.cons (V.at (.s .z)) .nil)) ?_
      rintro _ w6 _ _ _ ⟨rfl, rfl, rfl, rfl⟩ h16
      have h17 := h16 rfl rfl
      simp only [List.cons_append, List.nil_append] at h17
      exact ⟨undef, rfl, h17⟩
    · intro q1 w Γx Ωx h
      refine OpS.not rfl rfl rfl ?_
      exact ⟨undef, rfl, h⟩
    · intro q1 w Γx Ωx h
      refine OpS.as rfl rfl rfl ?_
      exact ⟨undef, rfl, h⟩
    have h18 : St e w [(false, .val (Rep.slice (Rep.int .u8)) (q1 2) x3), (true, .val (Rep.slice (Rep.int .u8)) (q1 4) y2), (false, .val (Rep.slice (Rep.int .u8)) (q1 7) x4), (false, .val (Rep.slice (Rep.int .u8)) v0 a0)] [] := h
    refine RunL.nil ?_
    refine Run.slim [(11, .bool (!y3)), (4, .int .i64 x1), (0, v0)] ⟨rfl, rfl, rfl, trivial⟩ ?_
    refine Run.ite rfl hF (fun e9 hF => ?_) (fun e9 hF => ?_)
    ·
      refine Run.seq ?_
      refine Run.reg ?_
      refine RunL.op (OpS.as rfl rfl rfl ?_)
      refine RunL.op (OpS.as rfl rfl rfl ?_)
      refine RunL.nil ?_
      refine Run.slim [(3, .int .i64 5), (2, .slice none 0 0)] ⟨rfl, rfl, trivial⟩ ?_
      have h19 := St.nil 5 (Rep.int .u8) h18
      refine Run.retP rfl (.tmp rfl (.tmp rfl .nil)) ?_
      cases hF
      exact Post.mk' ⟨(.slice none 0 0), rfl, rfl, rfl, rfl⟩ (h19.picks (.cons .z .nil)) .nil
    ·
      refine Run.skip ?_
      refine Run.endBlock ?_
      refine Run.seq ?_
      refine Run.reg ?_
      refine RunL.op (OpS.mv rfl rfl rfl ?_)
      refine RunL.op (OpS.mv rfl rfl rfl ?_)
      obtain ⟨x5, e10, hF⟩ := bindP_use hF
      refine RunL.op (OpS.sub h18 Try.underlying22 ty5 rfl rfl rfl rfl rfl (V.at (.s (.s (.s .z)))) e10 (fun u1 h20 => ?_))
      obtain ⟨y4, e11, hF⟩ := bindP_use hF
      refine RunL.op (OpS.callP h20 Try.func41 rfl rfl rfl rfl (vs := [u1]) rfl (slices_Clone_byte_byte_ok e11) (.cons (V.at .z) .nil) ?_)
      rintro u2 w7 _ _ _ ⟨_, rfl, rfl, rfl, rfl⟩ h21
      have h22 := h21 rfl rfl
      simp only [List.cons_append, List.nil_append] at h22
      refine RunL.op (OpS.as rfl rfl rfl ?_)
      refine RunL.op (OpS.as rfl rfl rfl ?_)
      refine RunL.nil ?_
      refine Run.slim [(3, .int .i64 0), (2, u2)] ⟨rfl, rfl, trivial⟩ ?_
      refine Run.retP rfl (.tmp rfl (.tmp rfl .nil)) ?_
      cases hF
      exact Post.mk' ⟨u2, rfl, rfl, rfl, rfl⟩ (h22.picks (.cons .z .nil)) .nil
theorem ref01_CRC32_ok {fuel : Nat} {a0 : List Int} {y : Int} (hF : ref01_CRC32 fuel a0 = some y) {w : World} {v0 : Value} :
    Spec Try.prog 20 [v0].toArray w [(false, .val (Rep.slice (Rep.int .u8)) v0 a0)] [] (fun v Γr Ωr Ωo => v = .int .u32 y ∧ Γr = [] ∧ Ωr = [] ∧ Ωo = []) := by
  refine Spec.of (L := [(0, v0)]) Try.func20 rfl ⟨rfl, trivial⟩ rfl (fun e h => ?_)
  unfold ref01_CRC32 at hF
  refine Run.seq ?_
  refine Run.reg ?_
  refine RunL.op (OpS.as rfl rfl rfl ?_)
  refine RunL.nil ?_
  refine Run.slim [(0, v0)] ⟨rfl, trivial⟩ ?_
  refine Run.seq ?_
  refine Run.reg ?_
  refine RunL.op (OpS.as rfl rfl rfl ?_)
  refine RunL.nil ?_
  refine Run.seq ?_
  refine Run.seq ?_
  refine Run.reg ?_
  refine RunL.op (OpS.as rfl rfl rfl ?_)
  refine RunL.nil ?_
  refine Run.block ?_
  refine Run.slim [(0, v0), (3, .int .u32 4294967295), (4, .int .i64 0)] ⟨rfl, rfl, rfl, trivial⟩ ?_
  refine Run.loopP (σ := (Int × Int)) (fun s_ L_ w_ => L_ = [(0, v0), (3, .int .u32 s_.1), (4, .int .i64 s_.2)] ∧ St e w_ [(false, .val (Rep.slice (Rep.int .u8)) v0 a0)] []) hF ⟨rfl, (h.facts (.atm .z .nil)).picks .nil⟩ (fun k1 hk1 s1 _ w1 hI hF => ?_)
  obtain ⟨rfl, h1⟩ := hI
  refine Run.seq ?_
  refine Run.seq ?_
  refine Run.reg ?_
  refine RunL.op (OpS.mv rfl rfl rfl ?_)
  refine RunL.op (OpS.mv rfl rfl rfl ?_)
  refine RunL.op (OpS.len h1 Try.underlying22 rfl rfl rfl (V.at .z) ?_)
  refine RunL.op (OpS.bin rfl rfl rfl rfl rfl ?_)
  refine RunL.nil ?_
  refine Run.slim [(10, .bool (decide (s1.2 < (a0.length : Int)))), (0, v0), (3, .int .u32 s1.1), (4, .int .i64 s1.2)] ⟨rfl, rfl, rfl, rfl, trivial⟩ ?_
  refine Run.ite rfl hF (fun e1 hF => ?_) (fun e1 hF => ?_)
  ·
    refine Run.skip ?_
    refine Run.seq ?_
    refine Run.block ?_
    refine Run.seq ?_
    refine Run.reg ?_
    refine RunL.op (OpS.mv rfl rfl rfl ?_)
    refine RunL.op (OpS.mv rfl rfl rfl ?_)
    refine RunL.op (OpS.mv rfl rfl rfl ?_)
    obtain ⟨x1, e2, hF⟩ := bindP_use hF
    refine RunL.op (OpS.iptr h1 Try.underlying22 ty5 rfl rfl rfl rfl (V.at .z) e2 (fun u1 h2 => ?_))
    refine RunL.op (OpS.loadi h2 ty5 rfl rfl rfl .z ?_)
    refine RunL.op (OpS.conv Try.underlying5 Try.underlying26 rfl rfl rfl ?_)
    refine RunL.op (OpS.bin rfl rfl rfl rfl rfl ?_)
    refine RunL.op (OpS.as rfl rfl rfl ?_)
    obtain ⟨x2, e3, hF⟩ := letP_use hF
    refine RunL.name e3 ?_
    refine RunL.nil ?_
    refine Run.slim [(3, .int .u32 x2), (0, v0), (4, .int .i64 s1.2)] ⟨rfl, rfl, rfl, trivial⟩ ?_
    refine Run.seq ?_
    refine Run.reg ?_
    refine RunL.op (OpS.as rfl rfl rfl ?_)
    refine RunL.nil ?_
    refine Run.block ?_
    refine Run.slim [(0, v0), (3, .int .u32 x2), (4, .int .i64 s1.2), (5, .int .i64 0)] ⟨rfl, rfl, rfl, rfl, trivial⟩ ?_
    refine Run.loopP (σ := (Int × Int)) (fun s_ L_ w_ => L_ = [(0, v0), (3, .int .u32 s_.1), (4, .int .i64 s1.2), (5, .int .i64 s_.2)] ∧ St e w_ [(false, .val (Rep.slice (Rep.int .u8)) v0 a0)] []) hF ⟨rfl, (h2.facts (.atm (.s .z) .nil)).picks .nil⟩ (fun k2 hk2 s2 _ w2 hI hF => ?_)
    obtain ⟨rfl, h3⟩ := hI
    refine Run.seq ?_
    refine Run.seq ?_
    refine Run.reg ?_
    refine RunL.op (OpS.mv rfl rfl rfl ?_)
    refine RunL.op (OpS.bin rfl rfl rfl rfl rfl ?_)
    refine RunL.nil ?_
    refine Run.slim [(21, .bool (decide (s2.2 < 8))), (0, v0), (3, .int .u32 s2.1), (4, .int .i64 s1.2), (5, .int .i64 s2.2)] ⟨rfl, rfl, rfl, rfl, rfl, trivial⟩ ?_
    refine Run.ite rfl hF (fun e4 hF => ?_) (fun e4 hF => ?_)
    ·
      refine Run.skip ?_
      refine Run.seq ?_
      refine Run.block ?_
      refine Run.seq ?_
      refine Run.reg ?_
      refine RunL.op (OpS.mv rfl rfl rfl ?_)
      refine RunL.op (OpS.rem rfl rfl rfl rfl (by decide) ?_)
      refine RunL.op (OpS.as rfl rfl rfl ?_)
      refine RunL.nil ?_
      refine Run.slim [(6, .int .u32 (Int.tmod s2.1 2)), (0, v0), (3, .int .u32 s2.1), (4, .int .i64 s1.2), (5, .int .i64 s2.2)] ⟨rfl, rfl, rfl, rfl, rfl, trivial⟩ ?_
      refine Run.seq ?_
      refine Run.reg ?_
      refine RunL.op (OpS.mv rfl rfl rfl ?_)
      refine RunL.op (OpS.quo rfl rfl rfl rfl (by decide) ?_)
      refine RunL.op (OpS.as rfl rfl rfl ?_)
      obtain ⟨x3, e5, hF⟩ := letP_use hF
      refine RunL.name e5 ?_
      refine RunL.nil ?_
      refine Run.slim [(3, .int .u32 x3), (6, .int .u32 (Int.tmod s2.1 2)), (0, v0), (4, .int .i64 s1.2), (5, .int .i64 s2.2)] ⟨rfl, rfl, rfl, rfl, rfl, trivial⟩ ?_
      refine Run.seq ?_
      refine Run.reg ?_
      refine RunL.op (OpS.mv rfl rfl rfl ?_)
      refine RunL.op (OpS.bin rfl rfl rfl rfl rfl ?_)
      refine RunL.nil ?_
      refine Run.slim [(29, .bool ((Int.tmod s2.1 2) == 1)), (3, .int .u32 x3), (0, v0), (4, .int .i64 s1.2), (5, .int .i64 s2.2)] ⟨rfl, rfl, rfl, rfl, rfl, trivial⟩ ?_
      refine Run.ite rfl hF (fun e6 hF => ?_) (fun e6 hF => ?_)
      ·
        refine Run.reg ?_
        refine RunL.op (OpS.mv rfl rfl rfl ?_)
        refine RunL.op (OpS.bin rfl rfl rfl rfl rfl ?_)
        refine RunL.op (OpS.as rfl rfl rfl ?_)
        obtain ⟨x4, e7, hF⟩ := letP_use hF
        refine RunL.name e7 ?_
        refine RunL.nil ?_
        refine Run.slim [(3, .int .u32 x4), (0, v0), (4, .int .i64 s1.2), (5, .int .i64 s2.2)] ⟨rfl, rfl, rfl, rfl, trivial⟩ ?_
        refine Run.endBlock ?_
        refine Run.reg ?_
        refine RunL.op (OpS.mv rfl rfl rfl ?_)
        refine RunL.op (OpS.bin rfl rfl rfl rfl rfl ?_)
        refine RunL.op (OpS.as rfl rfl rfl ?_)
        obtain ⟨x5, e8, hF⟩ := letP_use hF
        refine RunL.name e8 ?_
        refine RunL.nil ?_
        refine Run.slim [(5, .int .i64 x5), (3, .int .u32 x4), (0, v0), (4, .int .i64 s1.2)] ⟨rfl, rfl, rfl, rfl, trivial⟩ ?_
        refine Run.slim [(0, v0), (3, .int .u32 x4), (4, .int .i64 s1.2), (5, .int .i64 x5)] ⟨rfl, rfl, rfl, rfl, trivial⟩ ?_
        exact hk2 (x4, x5) _ _ ⟨rfl, (h3.facts (.atm .z .nil)).picks .nil⟩ hF
      ·
        refine Run.skip ?_
        refine Run.endBlock ?_
        refine Run.reg ?_
        refine RunL.op (OpS.mv rfl rfl rfl ?_)
        refine RunL.op (OpS.bin rfl rfl rfl rfl rfl ?_)
        refine RunL.op (OpS.as rfl rfl rfl ?_)
        obtain ⟨x6, e9, hF⟩ := letP_use hF
        refine RunL.name e9 ?_
        refine RunL.nil ?_
        refine Run.slim [(5, .int .i64 x6), (3, .int .u32 x3), (0, v0), (4, .int .i64 s1.2)] ⟨rfl, rfl, rfl, rfl, trivial⟩ ?_
        refine Run.slim [(0, v0), (3, .int .u32 x3), (4, .int .i64 s1.2), (5, .int .i64 x6)] ⟨rfl, rfl, rfl, rfl, trivial⟩ ?_
        exact hk2 (x3, x6) _ _ ⟨rfl, (h3.facts (.atm .z .nil)).picks .nil⟩ hF
    ·
      refine Run.exit rfl ?_
      refine Run.endBlock ?_
      refine Run.reg ?_
      refine RunL.op (OpS.mv rfl rfl rfl ?_)
      refine RunL.op (OpS.bin rfl rfl rfl rfl rfl ?_)
      refine RunL.op (OpS.as rfl rfl rfl ?_)
      obtain ⟨x7, e10, hF⟩ := letP_use hF
      refine RunL.name e10 ?_
      refine RunL.nil ?_
      refine Run.slim [(4, .int .i64 x7), (0, v0), (3, .int .u32 s2.1)] ⟨rfl, rfl, rfl, trivial⟩ ?_
      refine Run.slim [(0, v0), (3, .int .u32 s2.1), (4, .int .i64 x7)] ⟨rfl, rfl, rfl, trivial⟩ ?_
      exact hk1 (s2.1, x7) _ _ ⟨rfl, (h3.facts (.atm .z .nil)).picks .nil⟩ hF
  ·
    refine Run.exit rfl ?_
    refine Run.seq ?_
    refine Run.reg ?_
    refine RunL.op (OpS.mv rfl rfl rfl ?_)
    refine RunL.op (OpS.bin rfl rfl rfl rfl rfl ?_)
    refine RunL.op (OpS.as rfl rfl rfl ?_)
    obtain ⟨x8, e11, hF⟩ := letP_use hF
    refine RunL.name e11 ?_
    refine RunL.nil ?_
    refine Run.slim [(2, .int .u32 x8)] ⟨rfl, trivial⟩ ?_
    refine Run.retP rfl (.tmp rfl .nil) ?_
    cases hF
    exact Post.mk' ⟨rfl, rfl, rfl, rfl⟩ (h1.picks .nil) .nil
theorem ref01_Number_ok {fuel : Nat} {a0 : List Int} {y : Int} (hF : ref01_Number fuel a0 = some y) {w : World} {v0 : Value} :
    Spec Try.prog 45 [v0].toArray w [(false, .val (Rep.slice (Rep.int .u8)) v0 a0)] [] (fun v Γr Ωr Ωo => v = .int .u64 y ∧ Γr = [] ∧ Ωr = [] ∧ Ωo = []) := by
  refine Spec.of (L := [(0, v0)]) Try.func45 rfl ⟨rfl, trivial⟩ rfl (fun e h => ?_)
  unfold ref01_Number at hF
  refine Run.seq ?_
  refine Run.reg ?_
  refine RunL.op (OpS.as rfl rfl rfl ?_)
  refine RunL.nil ?_
  refine Run.slim [(0, v0)] ⟨rfl, trivial⟩ ?_
  refine Run.seq ?_
  refine Run.reg ?_
  refine RunL.op (OpS.as rfl rfl rfl ?_)
  refine RunL.nil ?_
  refine Run.seq ?_
  refine Run.seq ?_
  refine Run.reg ?_
  refine RunL.op (OpS.mv rfl rfl rfl ?_)
  refine RunL.op (OpS.len h Try.underlying22 rfl rfl rfl (V.at .z) ?_)
  refine RunL.op (OpS.bin rfl rfl rfl rfl rfl ?_)
  refine RunL.op (OpS.as rfl rfl rfl ?_)
  obtain ⟨x1, e1, hF⟩ := letP_use hF
  refine RunL.name e1 ?_
  refine RunL.nil ?_
  refine Run.slim [(4, .int .i64 x1), (3, .int .u64 0), (0, v0)] ⟨rfl, rfl, rfl, trivial⟩ ?_
  refine Run.block ?_
  refine Run.slim [(0, v0), (3, .int .u64 0), (4, .int .i64 x1)] ⟨rfl, rfl, rfl, trivial⟩ ?_
  refine Run.loopP (σ := (Int × Int)) (fun s_ L_ w_ => L_ = [(0, v0), (3, .int .u64 s_.1), (4, .int .i64 s_.2)] ∧ St e w_ [(false, .val (Rep.slice (Rep.int .u8)) v0 a0)] []) hF ⟨rfl, (h.facts (.atm .z .nil)).picks .nil⟩ (fun k1 hk1 s1 _ w1 hI hF => ?_)
  obtain ⟨rfl, h1⟩ := hI
  refine Run.seq ?_
  refine Run.seq ?_
  refine Run.reg ?_
  refine RunL.op (OpS.mv rfl rfl rfl ?_)
  refine RunL.op (OpS.bin rfl rfl rfl rfl rfl ?_)
  refine RunL.nil ?_
  refine Run.slim [(9, .bool (decide (s1.2 ≥ 0))), (0, v0), (3, .int .u64 s1.1), (4, .int .i64 s1.2)] ⟨rfl, rfl, rfl, rfl, trivial⟩ ?_
  refine Run.ite rfl hF (fun e2 hF => ?_) (fun e2 hF => ?_)
  ·
    refine Run.skip ?_
    refine Run.seq ?_
    refine Run.block ?_
    refine Run.reg ?_
    refine RunL.op (OpS.mv rfl rfl rfl ?_)
    refine RunL.op (OpS.bin rfl rfl rfl rfl rfl ?_)
    refine RunL.op (OpS.mv rfl rfl rfl ?_)
    refine RunL.op (OpS.mv rfl rfl rfl ?_)
    obtain ⟨x2, e3, hF⟩ := bindP_use hF
    refine RunL.op (OpS.iptr h1 Try.underlying22 ty5 rfl rfl rfl rfl (V.at .z) e3 (fun u1 h2 => ?_))
    refine RunL.op (OpS.loadi h2 ty5 rfl rfl rfl .z ?_)
    refine RunL.op (OpS.conv Try.underlying5 Try.underlying54 rfl rfl rfl ?_)
    refine RunL.op (OpS.bin rfl rfl rfl rfl rfl ?_)
    refine RunL.op (OpS.as rfl rfl rfl ?_)
    obtain ⟨x3, e4, hF⟩ := letP_use hF
    refine RunL.name e4 ?_
    refine RunL.nil ?_
    refine Run.slim [(3, .int .u64 x3), (0, v0), (4, .int .i64 s1.2)] ⟨rfl, rfl, rfl, trivial⟩ ?_
    refine Run.endBlock ?_
    refine Run.reg ?_
    refine RunL.op (OpS.mv rfl rfl rfl ?_)
    refine RunL.op (OpS.bin rfl rfl rfl rfl rfl ?_)
    refine RunL.op (OpS.as rfl rfl rfl ?_)
    obtain ⟨x4, e5, hF⟩ := letP_use hF
    refine RunL.name e5 ?_
    refine RunL.nil ?_
    refine Run.slim [(4, .int .i64 x4), (3, .int .u64 x3), (0, v0)] ⟨rfl, rfl, rfl, trivial⟩ ?_
    refine Run.slim [(0, v0), (3, .int .u64 x3), (4, .int .i64 x4)] ⟨rfl, rfl, rfl, trivial⟩ ?_
    exact hk1 (x3, x4) _ _ ⟨rfl, (h2.facts (.atm (.s .z) .nil)).picks .nil⟩ hF
  ·
    refine Run.exit rfl ?_
    refine Run.seq ?_
    refine Run.reg ?_
    refine RunL.op (OpS.mv rfl rfl rfl ?_)
    refine RunL.op (OpS.as rfl rfl rfl ?_)
    refine RunL.nil ?_
    refine Run.slim [(2, .int .u64 s1.1)] ⟨rfl, trivial⟩ ?_
    refine Run.retP rfl (.tmp rfl .nil) ?_
    cases hF
    exact Post.mk' ⟨rfl, rfl, rfl, rfl⟩ (h1.picks .nil) .nil
theorem ref01_OpenCRC32_ok {fuel : Nat} {a0 : List Int} {y : (List Int) × Int} (hF : ref01_OpenCRC32 fuel a0 = some y) {w : World} {v0 : Value} :
    Spec Try.prog 33 [v0].toArray w [(false, .val (Rep.slice (Rep.int .u8)) v0 a0)] [] (fun v Γr Ωr Ωo => ∃ u0 : Value, v = .tuple #[u0, .int .i64 y.2] ∧ Γr = [] ∧ Ωr = [(true, .slice 5 (Rep.int .u8) u0 y.1)] ∧ Ωo = []) := by
  refine Spec.of (L := [(0, v0)]) Try.func33 rfl ⟨rfl, trivial⟩ rfl (fun e h => ?_)
  unfold ref01_OpenCRC32 at hF
  refine Run.seq ?_
  refine Run.reg ?_
  refine RunL.op (OpS.as rfl rfl rfl ?_)
  refine RunL.op (OpS.as rfl rfl rfl ?_)
  refine RunL.nil ?_
  refine Run.slim [(0, v0)] ⟨rfl, trivial⟩ ?_
  refine Run.seq ?_
  refine Run.seq ?_
  refine Run.reg ?_
  refine RunL.op (OpS.mv rfl rfl rfl ?_)
  refine RunL.op (OpS.len h Try.underlying22 rfl rfl rfl (V.at .z) ?_)
  refine RunL.op (OpS.bin rfl rfl rfl rfl rfl ?_)
  refine RunL.nil ?_
  refine Run.slim [(7, .bool (decide ((a0.length : Int) < 4))), (0, v0)] ⟨rfl, rfl, trivial⟩ ?_
  refine Run.ite rfl hF (fun e1 hF => ?_) (fun e1 hF => ?_)
  ·
    refine Run.seq ?_
    refine Run.reg ?_
    refine RunL.op (OpS.as rfl rfl rfl ?_)
    refine RunL.op (OpS.as rfl rfl rfl ?_)
    refine RunL.nil ?_
    refine Run.slim [(3, .int .i64 4), (2, .slice none 0 0)] ⟨rfl, rfl, trivial⟩ ?_
    have h1 := St.nil 5 (Rep.int .u8) h
    refine Run.retP rfl (.tmp rfl (.tmp rfl .nil)) ?_
    cases hF
    exact Post.mk' ⟨(.slice none 0 0), rfl, rfl, rfl, rfl⟩ (h1.picks (.cons .z .nil)) .nil
  ·
    refine Run.skip ?_
    refine Run.seq ?_
    refine Run.reg ?_
    refine RunL.op (OpS.mv rfl rfl rfl ?_)
    refine RunL.op (OpS.len h Try.underlying22 rfl rfl rfl (V.at .z) ?_)
    refine RunL.op (OpS.bin rfl rfl rfl rfl rfl ?_)
    refine RunL.op (OpS.as rfl rfl rfl ?_)
    obtain ⟨x1, e2, hF⟩ := letP_use hF
    refine RunL.name e2 ?_
    refine RunL.nil ?_
    refine Run.slim [(4, .int .i64 x1), (0, v0)] ⟨rfl, rfl, trivial⟩ ?_
    refine Run.seq ?_
    refine Run.seq ?_
    obtain ⟨x2, e3, hF⟩ := bindP_use hF
    obtain ⟨y1, e4, hF⟩ := bindP_use hF
    obtain ⟨x3, e5, hF⟩ := bindP_use hF
    obtain ⟨y2, e6, hF⟩ := bindP_use hF
    refine Run.drawV (Ωs := []) [⟨11, some (v0), fun _ => [], fun _ => [], false⟩, ⟨12, some (.int .i64 x1), fun _ => [], fun _ => [], false⟩, ⟨13, none, fun u_ => [(false, .val (Rep.slice (Rep.int .u8)) u_ x2)], fun u_ => [], false⟩, ⟨14, some (.int .u32 y1), fun _ => [], fun _ => [], false⟩, ⟨15, some (.int .u64 (IntKind.u64.wrap y1)), fun _ => [], fun _ => [], false⟩, ⟨16, some (v0), fun _ => [], fun _ => [], false⟩, ⟨17, some (.int .i64 x1), fun _ => [], fun _ => [], false⟩, ⟨18, none, fun u_ => [(false, .val (Rep.slice (Rep.int .u8)) u_ x3)], fun u_ => [], false⟩, ⟨19, some (.int .u64 y2), fun _ => [], fun _ => [], false⟩, ⟨20, some (.bool ((IntKind.u64.wrap y1) != y2)), fun _ => [], fun _ => [], false⟩] [[], [], [0, 1], [2], [3], [], [], [5, 6], [7], [4, 8]] Try_mixed rfl rfl h (.cons ?_ (.cons ?_ (.cons ?_ (.cons ?_ (.cons ?_ (.cons ?_ (.cons ?_ (.cons ?_ (.cons ?_ (.cons ?_ .nil)))))))))) (fun q1 w h => ?_)
    · intro q1 w Γx Ωx h
      refine OpS.mv rfl rfl rfl ?_
      exact ⟨undef, rfl, h⟩
    · intro q1 w Γx Ωx h
      refine OpS.mv rfl rfl rfl ?_
      exact ⟨undef, rfl, h⟩
    · intro q1 w Γx Ωx h
      refine OpS.sub h Try.underlying22 ty5 rfl rfl rfl rfl rfl (V.at .z) e3 (fun u h8 => ?_)
      exact ⟨u, rfl, h8⟩
    · intro q1 w Γx Ωx h
      refine OpS.callP h Try.func20 rfl rfl rfl rfl (vs := [(q1 2)]) rfl (ref01_CRC32_ok e4) (.cons (V.at .z) .nil) ?_
      rintro _ w3 _ _ _ ⟨rfl, rfl, rfl, rfl⟩ h9
      have h10 := h9 rfl rfl
      simp only [List.cons_append, List.nil_append] at h10
      exact ⟨undef, rfl, h10⟩
    · intro q1 w Γx Ωx h
      refine OpS.conv Try.underlying26 Try.underlying54 rfl rfl rfl ?_
      exact ⟨undef, rfl, h⟩
    · intro q1 w Γx Ωx h
      refine OpS.mv rfl rfl rfl ?_
      exact ⟨undef, rfl, h⟩
    · intro q1 w Γx Ωx h
      refine OpS.mv rfl rfl rfl ?_
      exact ⟨undef, rfl, h⟩
    · intro q1 w Γx Ωx h
      refine OpS.sub h Try.underlying22 ty5 rfl rfl rfl rfl rfl (V.at .z) e5 (fun u h11 => ?_)
      exact ⟨u, rfl, h11⟩
    · intro q1 w Γx Ωx h
      refine OpS.callP h Try.func45 rfl rfl rfl rfl (vs := [(q1 7)]) rfl (ref01_Number_ok e6) (.cons (V.at .z) .nil) ?_
      rintro _ w4 _ _ _ ⟨rfl, rfl, rfl, rfl⟩ h12
      have h13 := h12 rfl rfl
      simp only [List.cons_append, List.nil_append] at h13
      exact ⟨undef, rfl, h13⟩
    · intro q1 w Γx Ωx h
      refine OpS.bin rfl rfl rfl rfl rfl ?_
      exact ⟨undef, rfl, h⟩
    have h14 : St e w [(false, .val (Rep.slice (Rep.int .u8)) (q1 2) x2), (false, .val (Rep.slice (Rep.int .u8)) (q1 7) x3), (false, .val (Rep.slice (Rep.int .u8)) v0 a0)] [] := h
    refine RunL.nil ?_
    refine Run.slim [(20, .bool ((IntKind.u64.wrap y1) != y2)), (4, .int .i64 x1), (0, v0)] ⟨rfl, rfl, rfl, trivial⟩ ?_
    refine Run.ite rfl hF (fun e7 hF => ?_) (fun e7 hF => ?_)
    ·
      refine Run.seq ?_
      refine Run.reg ?_
      refine RunL.op (OpS.as rfl rfl rfl ?_)
      refine RunL.op (OpS.as rfl rfl rfl ?_)
      refine RunL.nil ?_
      refine Run.slim [(3, .int .i64 5), (2, .slice none 0 0)] ⟨rfl, rfl, trivial⟩ ?_
      have h15 := St.nil 5 (Rep.int .u8) h14
      refine Run.retP rfl (.tmp rfl (.tmp rfl .nil)) ?_
      cases hF
      exact Post.mk' ⟨(.slice none 0 0), rfl, rfl, rfl, rfl⟩ (h15.picks (.cons .z .nil)) .nil
    ·
      refine Run.skip ?_
      refine Run.seq ?_
      refine Run.reg ?_
      refine RunL.op (OpS.mv rfl rfl rfl ?_)
      refine RunL.op (OpS.mv rfl rfl rfl ?_)
      obtain ⟨x4, e8, hF⟩ := bindP_use hF
      refine RunL.op (OpS.sub h14 Try.underlying22 ty5 rfl rfl rfl rfl rfl (V.at (.s (.s .z))) e8 (fun u1 h16 => ?_))
      obtain ⟨y3, e9, hF⟩ := bindP_use hF
      refine RunL.op (OpS.callP h16 Try.func44 rfl rfl rfl rfl (vs := [u1]) rfl (ref01_Copy_ok e9) (.cons (V.at .z) .nil) ?_)
      rintro u2 w5 _ _ _ ⟨_, rfl, rfl, rfl, rfl⟩ h17
      have h18 := h17 rfl rfl
      simp only [List.cons_append, List.nil_append] at h18
      refine RunL.op (OpS.as rfl rfl rfl ?_)
      refine RunL.op (OpS.as rfl rfl rfl ?_)
      refine RunL.nil ?_
      refine Run.slim [(3, .int .i64 0), (2, u2)] ⟨rfl, rfl, trivial⟩ ?_
      refine Run.retP rfl (.tmp rfl (.tmp rfl .nil)) ?_
      cases hF
      exact Post.mk' ⟨u2, rfl, rfl, rfl, rfl⟩ (h18.picks (.cons .z .nil)) .nil
theorem ref01_Same_ok {fuel : Nat} {a0 : List Int} {a1 : List Int} {y : Bool} (hF : ref01_Same fuel a0 a1 = some y) {w : World} {v0 v1 : Value} :
    Spec Try.prog 34 [v0, v1].toArray w [(false, .val (Rep.slice (Rep.int .u8)) v0 a0), (false, .val (Rep.slice (Rep.int .u8)) v1 a1)] [] (fun v Γr Ωr Ωo => v = .bool y ∧ Γr = [] ∧ Ωr = [] ∧ Ωo = []) := by
  refine Spec.of (L := [(0, v0), (1, v1)]) Try.func34 rfl ⟨rfl, rfl, trivial⟩ rfl (fun e h => ?_)
  unfold ref01_Same at hF
  refine Run.seq ?_
  refine Run.reg ?_
  refine RunL.op (OpS.as rfl rfl rfl ?_)
  refine RunL.nil ?_
  refine Run.slim [(0, v0), (1, v1)] ⟨rfl, rfl, trivial⟩ ?_
  refine Run.seq ?_
  refine Run.seq ?_
  refine Run.reg ?_
  refine RunL.op (OpS.mv rfl rfl rfl ?_)
  refine RunL.op (OpS.len h Try.underlying22 rfl rfl rfl (V.at .z) ?_)
  refine RunL.op (OpS.mv rfl rfl rfl ?_)
  refine RunL.op (OpS.len h Try.underlying22 rfl rfl rfl (V.at (.s .z)) ?_)
  refine RunL.op (OpS.bin rfl rfl rfl rfl rfl ?_)
  refine RunL.nil ?_
  refine Run.slim [(10, .bool ((a0.length : Int) != (a1.length : Int))), (0, v0), (1, v1)] ⟨rfl, rfl, rfl, trivial⟩ ?_
  refine Run.ite rfl hF (fun e1 hF => ?_) (fun e1 hF => ?_)
  ·
    refine Run.seq ?_
    refine Run.reg ?_
    refine RunL.op (OpS.as rfl rfl rfl ?_)
    refine RunL.nil ?_
    refine Run.slim [(4, .bool false)] ⟨rfl, trivial⟩ ?_
    refine Run.retP rfl (.tmp rfl .nil) ?_
    cases hF
    exact Post.mk' ⟨rfl, rfl, rfl, rfl⟩ (h.picks .nil) .nil
  ·
    refine Run.skip ?_
    refine Run.seq ?_
    refine Run.seq ?_
    refine Run.reg ?_
    refine RunL.op (OpS.as rfl rfl rfl ?_)
    refine RunL.nil ?_
    refine Run.slim [(5, .int .i64 0), (0, v0), (1, v1)] ⟨rfl, rfl, rfl, trivial⟩ ?_
    refine Run.block ?_
    refine Run.slim [(0, v0), (1, v1), (5, .int .i64 0)] ⟨rfl, rfl, rfl, trivial⟩ ?_
    refine Run.loopP (σ := Int) (fun s_ L_ w_ => L_ = [(0, v0), (1, v1), (5, .int .i64 s_)] ∧ St e w_ [(false, .val (Rep.slice (Rep.int .u8)) v0 a0), (false, .val (Rep.slice (Rep.int .u8)) v1 a1)] []) hF ⟨rfl, (h.facts (.atm .z (.atm (.s .z) .nil))).picks .nil⟩ (fun k1 hk1 s1 _ w1 hI hF => ?_)
    obtain ⟨rfl, h1⟩ := hI
    refine Run.seq ?_
    refine Run.seq ?_
    refine Run.reg ?_
    refine RunL.op (OpS.mv rfl rfl rfl ?_)
    refine RunL.op (OpS.mv rfl rfl rfl ?_)
    refine RunL.op (OpS.len h1 Try.underlying22 rfl rfl rfl (V.at .z) ?_)
    refine RunL.op (OpS.bin rfl rfl rfl rfl rfl ?_)
    refine RunL.nil ?_
    refine Run.slim [(14, .bool (decide (s1 < (a0.length : Int)))), (0, v0), (1, v1), (5, .int .i64 s1)] ⟨rfl, rfl, rfl, rfl, trivial⟩ ?_
    refine Run.ite rfl hF (fun e2 hF => ?_) (fun e2 hF => ?_)
    ·
      refine Run.skip ?_
      refine Run.seq ?_
      refine Run.block ?_
      refine Run.seq ?_
      obtain ⟨x1, e3, hF⟩ := bindP_use hF
      obtain ⟨x2, e4, hF⟩ := bindP_use hF
      refine Run.drawV (Ωs := []) [⟨17, some (v0), fun _ => [], fun _ => [], false⟩, ⟨18, some (.int .i64 s1), fun _ => [], fun _ => [], false⟩, ⟨19, none, fun u_ => [(false, .ptr (Rep.int .u8) u_ x1)], fun u_ => [], false⟩, ⟨20, some (.int .u8 x1), fun _ => [], fun _ => [], false⟩, ⟨21, some (v1), fun _ => [], fun _ => [], false⟩, ⟨22, some (.int .i64 s1), fun _ => [], fun _ => [], false⟩, ⟨23, none, fun u_ => [(false, .ptr (Rep.int .u8) u_ x2)], fun u_ => [], false⟩, ⟨24, some (.int .u8 x2), fun _ => [], fun _ => [], false⟩, ⟨25, some (.bool (x1 != x2)), fun _ => [], fun _ => [], false⟩] [[], [], [0, 1], [2], [], [], [4, 5], [6], [3, 7]] Try_mixed rfl rfl h1 (.cons ?_ (.cons ?_ (.cons ?_ (.cons ?_ (.cons ?_ (.cons ?_ (.cons ?_ (.cons ?_ (.cons ?_ .nil))))))))) (fun q1 w h => ?_)
      · intro q1 w Γx Ωx h
        refine OpS.mv rfl rfl rfl ?_
        exact ⟨undef, rfl, h⟩
      · intro q1 w Γx Ωx h
        refine OpS.mv rfl rfl rfl ?_
        exact ⟨undef, rfl, h⟩
      · intro q1 w Γx Ωx h
        refine OpS.iptr h Try.underlying22 ty5 rfl rfl rfl rfl (V.at .z) e3 (fun u h4 => ?_)
        exact ⟨u, rfl, h4⟩
      · intro q1 w Γx Ωx h
        refine OpS.loadi h ty5 rfl rfl rfl .z ?_
        exact ⟨undef, rfl, h⟩
      · intro q1 w Γx Ωx h
        refine OpS.mv rfl rfl rfl ?_
        exact ⟨undef, rfl, h⟩
      · intro q1 w Γx Ωx h
        refine OpS.mv rfl rfl rfl ?_
        exact ⟨undef, rfl, h⟩
      · intro q1 w Γx Ωx h
        refine OpS.iptr h Try.underlying22 ty5 rfl rfl rfl rfl (V.at (.s .z)) e4 (fun u h5 => ?_)
        exact ⟨u, rfl, h5⟩
      · intro q1 w Γx Ωx h
        refine OpS.loadi h ty5 rfl rfl rfl .z ?_
        exact ⟨undef, rfl, h⟩
      · intro q1 w Γx Ωx h
        refine OpS.bin rfl rfl rfl rfl rfl ?_
        exact ⟨undef, rfl, h⟩
      have h6 : St e w [(false, .ptr (Rep.int .u8) (q1 2) x1), (false, .ptr (Rep.int .u8) (q1 6) x2), (false, .val (Rep.slice (Rep.int .u8)) v0 a0), (false, .val (Rep.slice (Rep.int .u8)) v1 a1)] [] := h
      refine RunL.nil ?_
      refine Run.slim [(25, .bool (x1 != x2)), (0, v0), (1, v1), (5, .int .i64 s1)] ⟨rfl, rfl, rfl, rfl, trivial⟩ ?_
      refine Run.ite rfl hF (fun e5 hF => ?_) (fun e5 hF => ?_)
      ·
        refine Run.seq ?_
        refine Run.reg ?_
        refine RunL.op (OpS.as rfl rfl rfl ?_)
        refine RunL.nil ?_
        refine Run.slim [(4, .bool false)] ⟨rfl, trivial⟩ ?_
        refine Run.retP rfl (.tmp rfl .nil) ?_
        cases hF
        exact Post.mk' ⟨rfl, rfl, rfl, rfl⟩ (h6.picks .nil) .nil
      ·
        refine Run.skip ?_
        refine Run.endBlock ?_
        refine Run.reg ?_
        refine RunL.op (OpS.mv rfl rfl rfl ?_)
        refine RunL.op (OpS.bin rfl rfl rfl rfl rfl ?_)
        refine RunL.op (OpS.as rfl rfl rfl ?_)
        obtain ⟨x3, e6, hF⟩ := letP_use hF
        refine RunL.name e6 ?_
        refine RunL.nil ?_
        refine Run.slim [(5, .int .i64 x3), (0, v0), (1, v1)] ⟨rfl, rfl, rfl, trivial⟩ ?_
        refine Run.slim [(0, v0), (1, v1), (5, .int .i64 x3)] ⟨rfl, rfl, rfl, trivial⟩ ?_
        exact hk1 (x3) _ _ ⟨rfl, (h6.facts (.atm (.s (.s .z)) (.atm (.s (.s (.s .z))) .nil))).picks .nil⟩ hF
    ·
      refine Run.exit rfl ?_
      refine Run.seq ?_
      refine Run.reg ?_
      refine RunL.op (OpS.as rfl rfl rfl ?_)
      refine RunL.nil ?_
      refine Run.slim [(4, .bool true)] ⟨rfl, trivial⟩ ?_
      refine Run.retP rfl (.tmp rfl .nil) ?_
      cases hF
      exact Post.mk' ⟨rfl, rfl, rfl, rfl⟩ (h1.picks .nil) .nil
theorem ref01_Seal8_ok {fuel : Nat} {a0 : List Int} {y : (List Int)} (hF : ref01_Seal8 fuel a0 = some y) {w : World} {v0 : Value} :
    Spec Try.prog 36 [v0].toArray w [(false, .val (Rep.slice (Rep.int .u8)) v0 a0)] [] (fun v Γr Ωr Ωo => ∃ u0 : Value, v = u0 ∧ Γr = [] ∧ Ωr = [(true, .slice 5 (Rep.int .u8) u0 y)] ∧ Ωo = []) := by
  refine Spec.of (L := [(0, v0)]) Try.func36 rfl ⟨rfl, trivial⟩ rfl (fun e h => ?_)
  unfold ref01_Seal8 at hF
  refine Run.seq ?_
  refine Run.reg ?_
  refine RunL.op (OpS.as rfl rfl rfl ?_)
  refine RunL.nil ?_
  refine Run.slim [(0, v0)] ⟨rfl, trivial⟩ ?_
  refine Run.seq ?_
  refine Run.reg ?_
  refine RunL.op (OpS.mv rfl rfl rfl ?_)
  obtain ⟨y1, e1, hF⟩ := bindP_use hF
  refine RunL.op (OpS.callP h Try.func44 rfl rfl rfl rfl (vs := [v0]) rfl (ref01_Copy_ok e1) (.cons (V.at .z) .nil) ?_)
  rintro u1 w1 _ _ _ ⟨_, rfl, rfl, rfl, rfl⟩ h1
  have h2 := h1 rfl rfl
  simp only [List.cons_append, List.nil_append] at h2
  refine RunL.op (OpS.mv rfl rfl rfl ?_)
  obtain ⟨y2, e2, hF⟩ := bindP_use hF
  refine RunL.op (OpS.callP h2 Try.func16 rfl rfl rfl rfl (vs := [v0]) rfl (ref01_Sum8_ok e2) (.cons (V.at .z) .nil) ?_)
  rintro _ w2 _ _ _ ⟨rfl, rfl, rfl, rfl⟩ h3
  have h4 := h3 rfl rfl
  simp only [List.cons_append, List.nil_append] at h4
  refine RunL.op (OpS.lit (r := (Rep.int .u8)) (f := true) h4 Try.underlying22 ti5 rfl rfl rfl rfl rfl (.cons rfl V.int .nil) rfl rfl (fun u2 w3 h5 => ?_))
  obtain ⟨x1, e3, hF⟩ := bindP_use hF
  refine RunL.op (OpS.app (f' := true) h5 .z Try.underlying22 ti5 rfl rfl rfl rfl rfl rfl rfl (V.at .z) (.inr Pure.int) e3 (fun u3 w4 h6 => ?_))
  refine RunL.op (OpS.as rfl rfl rfl ?_)
  refine RunL.nil ?_
  refine Run.slim [(2, u3)] ⟨rfl, trivial⟩ ?_
  refine Run.retP rfl (.tmp rfl .nil) ?_
  cases hF
  exact Post.mk' ⟨u3, rfl, rfl, rfl, rfl⟩ (h6.picks (.cons .z .nil)) .nil
theorem checksum_SealCRC8_ok {fuel : Nat} {a0 : List Int} {y : (List Int)} (hF : checksum_SealCRC8 fuel a0 = some y) {w : World} {v0 : Value} :
    Spec Try.prog 25 [v0].toArray w [(false, .val (Rep.slice (Rep.int .u8)) v0 a0)] [] (fun v Γr Ωr Ωo => ∃ u0 : Value, v = u0 ∧ Γr = [] ∧ Ωr = [(true, .slice 5 (Rep.int .u8) u0 y)] ∧ Ωo = []) := by
  refine Spec.of (L := [(0, v0)]) Try.func25 rfl ⟨rfl, trivial⟩ rfl (fun e h => ?_)
  unfold checksum_SealCRC8 at hF
  refine Run.seq ?_
  refine Run.reg ?_
  refine RunL.op (OpS.as rfl rfl rfl ?_)
  refine RunL.nil ?_
  refine Run.slim [(0, v0)] ⟨rfl, trivial⟩ ?_
  refine Run.seq ?_
  refine Run.reg ?_
  refine RunL.op (OpS.mv rfl rfl rfl ?_)
  obtain ⟨y1, e1, hF⟩ := bindP_use hF
  refine RunL.op (OpS.callP h Try.func41 rfl rfl rfl rfl (vs := [v0]) rfl (slices_Clone_byte_byte_ok e1) (.cons (V.at .z) .nil) ?_)
  rintro u1 w1 _ _ _ ⟨_, rfl, rfl, rfl, rfl⟩ h1
  have h2 := h1 rfl rfl
  simp only [List.cons_append, List.nil_append] at h2
  refine RunL.op (OpS.mv rfl rfl rfl ?_)
  obtain ⟨y2, e2, hF⟩ := bindP_use hF
  refine RunL.op (OpS.callP h2 Try.func17 rfl rfl rfl rfl (vs := [v0]) rfl (checksum_CRC8_ok e2) (.cons (V.at .z) .nil) ?_)
  rintro _ w2 _ _ _ ⟨rfl, rfl, rfl, rfl⟩ h3
  have h4 := h3 rfl rfl
  simp only [List.cons_append, List.nil_append] at h4
  refine RunL.op (OpS.lit (r := (Rep.int .u8)) (f := true) h4 Try.underlying22 ti5 rfl rfl rfl rfl rfl (.cons rfl V.int .nil) rfl rfl (fun u2 w3 h5 => ?_))
  obtain ⟨x1, e3, hF⟩ := bindP_use hF
  refine RunL.op (OpS.app (f' := true) h5 .z Try.underlying22 ti5 rfl rfl rfl rfl rfl rfl rfl (V.at .z) (.inr Pure.int) e3 (fun u3 w4 h6 => ?_))
  refine RunL.op (OpS.as rfl rfl rfl ?_)
  refine RunL.nil ?_
  refine Run.slim [(2, u3)] ⟨rfl, trivial⟩ ?_
  refine Run.retP rfl (.tmp rfl .nil) ?_
  cases hF
  exact Post.mk' ⟨u3, rfl, rfl, rfl, rfl⟩ (h6.picks (.cons .z .nil)) .nil
theorem ref01_SealCRC8_ok {fuel : Nat} {a0 : List Int} {y : (List Int)} (hF : ref01_SealCRC8 fuel a0 = some y) {w : World} {v0 : Value} :
    Spec Try.prog 37 [v0].toArray w [(false, .val (Rep.slice (Rep.int .u8)) v0 a0)] [] (fun v Γr Ωr Ωo => ∃ u0 : Value, v = u0 ∧ Γr = [] ∧ Ωr = [(true, .slice 5 (Rep.int .u8) u0 y)] ∧ Ωo = []) := by
  refine Spec.of (L := [(0, v0)]) Try.func37 rfl ⟨rfl, trivial⟩ rfl (fun e h => ?_)
  unfold ref01_SealCRC8 at hF
  refine Run.seq ?_
  refine Run.reg ?_
  refine RunL.op (OpS.as rfl rfl rfl ?_)
  refine RunL.nil ?_
  refine Run.slim [(0, v0)] ⟨rfl, trivial⟩ ?_
  refine Run.seq ?_
  refine Run.reg ?_
  refine RunL.op (OpS.mv rfl rfl rfl ?_)
  obtain ⟨y1, e1, hF⟩ := bindP_use hF
  refine RunL.op (OpS.callP h Try.func44 rfl rfl rfl rfl (vs := [v0]) rfl (ref01_Copy_ok e1) (.cons (V.at .z) .nil) ?_)
  rintro u1 w1 _ _ _ ⟨_, rfl, rfl, rfl, rfl⟩ h1
  have h2 := h1 rfl rfl
  simp only [List.cons_append, List.nil_append] at h2
  refine RunL.op (OpS.mv rfl rfl rfl ?_)
  obtain ⟨y2, e2, hF⟩ := bindP_use hF
  refine RunL.op (OpS.callP h2 Try.func18 rfl rfl rfl rfl (vs := [v0]) rfl (ref01_CRC8_ok e2) (.cons (V.at .z) .nil) ?_)
  rintro _ w2 _ _ _ ⟨rfl, rfl, rfl, rfl⟩ h3
  have h4 := h3 rfl rfl
  simp only [List.cons_append, List.nil_append] at h4
  refine RunL.op (OpS.lit (r := (Rep.int .u8)) (f := true) h4 Try.underlying22 ti5 rfl rfl rfl rfl rfl (.cons rfl V.int .nil) rfl rfl (fun u2 w3 h5 => ?_))
  obtain ⟨x1, e3, hF⟩ := bindP_use hF
  refine RunL.op (OpS.app (f' := true) h5 .z Try.underlying22 ti5 rfl rfl rfl rfl rfl rfl rfl (V.at .z) (.inr Pure.int) e3 (fun u3 w4 h6 => ?_))
  refine RunL.op (OpS.as rfl rfl rfl ?_)
  refine RunL.nil ?_
  refine Run.slim [(2, u3)] ⟨rfl, trivial⟩ ?_
  refine Run.retP rfl (.tmp rfl .nil) ?_
  cases hF
  exact Post.mk' ⟨u3, rfl, rfl, rfl, rfl⟩ (h6.picks (.cons .z .nil)) .nil
theorem checksum_SealCRC32_ok {fuel : Nat} {a0 : List Int} {y : (List Int)} (hF : checksum_SealCRC32 fuel a0 = some y) {w : World} {v0 : Value} :
    Spec Try.prog 28 [v0].toArray w [(false, .val (Rep.slice (Rep.int .u8)) v0 a0)] [] (fun v Γr Ωr Ωo => ∃ u0 : Value, v = u0 ∧ Γr = [] ∧ Ωr = [(true, .slice 5 (Rep.int .u8) u0 y)] ∧ Ωo = []) := by
  refine Spec.of (L := [(0, v0)]) Try.func28 rfl ⟨rfl, trivial⟩ rfl (fun e h => ?_)
  unfold checksum_SealCRC32 at hF
  refine Run.seq ?_
  refine Run.reg ?_
  refine RunL.op (OpS.as rfl rfl rfl ?_)
  refine RunL.nil ?_
  refine Run.slim [(0, v0)] ⟨rfl, trivial⟩ ?_
  refine Run.seq ?_
  refine Run.reg ?_
  refine RunL.op (OpS.mv rfl rfl rfl ?_)
  obtain ⟨y1, e1, hF⟩ := bindP_use hF
  refine RunL.op (OpS.callP h Try.func41 rfl rfl rfl rfl (vs := [v0]) rfl (slices_Clone_byte_byte_ok e1) (.cons (V.at .z) .nil) ?_)
  rintro u1 w1 _ _ _ ⟨_, rfl, rfl, rfl, rfl⟩ h1
  have h2 := h1 rfl rfl
  simp only [List.cons_append, List.nil_append] at h2
  refine RunL.op (OpS.mv rfl rfl rfl ?_)
  obtain ⟨y2, e2, hF⟩ := bindP_use hF
  refine RunL.op (OpS.callP h2 Try.func19 rfl rfl rfl rfl (vs := [v0]) rfl (checksum_CRC32_ok e2) (.cons (V.at .z) .nil) ?_)
  rintro _ w2 _ _ _ ⟨rfl, rfl, rfl, rfl⟩ h3
  have h4 := h3 rfl rfl
  simp only [List.cons_append, List.nil_append] at h4
  obtain ⟨y3, e3, hF⟩ := bindP_use hF
  refine RunL.op (OpS.callP h4 Try.func42 rfl rfl rfl rfl (vs := [.int .u32 y2]) rfl (checksum_four_ok e3) .nil ?_)
  rintro u2 w3 _ _ _ ⟨_, rfl, rfl, rfl, rfl⟩ h5
  have h6 := h5 rfl rfl
  simp only [List.cons_append, List.nil_append] at h6
  obtain ⟨x1, e4, hF⟩ := bindP_use hF
  refine RunL.op (OpS.app (f' := true) h6 .z Try.underlying22 ti5 rfl rfl rfl rfl rfl rfl rfl (V.at .z) (.inr Pure.int) e4 (fun u3 w4 h7 => ?_))
  refine RunL.op (OpS.as rfl rfl rfl ?_)
  refine RunL.nil ?_
  refine Run.slim [(2, u3)] ⟨rfl, trivial⟩ ?_
  refine Run.retP rfl (.tmp rfl .nil) ?_
  cases hF
  exact Post.mk' ⟨u3, rfl, rfl, rfl, rfl⟩ (h7.picks (.cons .z .nil)) .nil
theorem ref01_Little_ok {fuel : Nat} {a0 : Int} {a1 : Int} {y : (List Int)} (hF : ref01_Little fuel a0 a1 = some y) {w : World} :
    Spec Try.prog 46 [.int .u64 a0, .int .i64 a1].toArray w [] [] (fun v Γr Ωr Ωo => ∃ u0 : Value, v = u0 ∧ Γr = [] ∧ Ωr = [(true, .slice 5 (Rep.int .u8) u0 y)] ∧ Ωo = []) := by
  refine Spec.of (L := [(0, .int .u64 a0), (1, .int .i64 a1)]) Try.func46 rfl ⟨rfl, rfl, trivial⟩ rfl (fun e h => ?_)
  unfold ref01_Little at hF
  refine Run.seq ?_
  refine Run.reg ?_
  refine RunL.op (OpS.as rfl rfl rfl ?_)
  refine RunL.nil ?_
  refine Run.slim [(0, .int .u64 a0), (1, .int .i64 a1)] ⟨rfl, rfl, trivial⟩ ?_
  refine Run.seq ?_
  refine Run.reg ?_
  refine RunL.op (OpS.as rfl rfl rfl ?_)
  refine RunL.nil ?_
  refine Run.seq ?_
  refine Run.seq ?_
  refine Run.reg ?_
  refine RunL.op (OpS.as rfl rfl rfl ?_)
  refine RunL.nil ?_
  refine Run.block ?_
  have h1 := St.nil 5 (Rep.int .u8) h
  refine Run.slim [(0, .int .u64 a0), (1, .int .i64 a1), (5, (.slice none 0 0)), (6, .int .i64 0)] ⟨rfl, rfl, rfl, rfl, trivial⟩ ?_
  refine Run.loopP (σ := (Int × Int × (List Int))) (fun s_ L_ w_ => ∃ u0_ : Value, L_ = [(0, .int .u64 s_.1), (1, .int .i64 a1), (5, u0_), (6, .int .i64 s_.2.1)] ∧ St e w_ [] [(true, .slice 5 (Rep.int .u8) u0_ s_.2.2)]) hF ⟨(.slice none 0 0), rfl, (h1.facts .nil).picks (.cons .z .nil)⟩ (fun k1 hk1 s1 _ w1 hI hF => ?_)
  obtain ⟨u1, rfl, h2⟩ := hI
  refine Run.seq ?_
  refine Run.seq ?_
  refine Run.reg ?_
  refine RunL.op (OpS.mv rfl rfl rfl ?_)
  refine RunL.op (OpS.mv rfl rfl rfl ?_)
  refine RunL.op (OpS.bin rfl rfl rfl rfl rfl ?_)
  refine RunL.nil ?_
  refine Run.slim [(9, .bool (decide (s1.2.1 < a1))), (0, .int .u64 s1.1), (1, .int .i64 a1), (5, u1), (6, .int .i64 s1.2.1)] ⟨rfl, rfl, rfl, rfl, rfl, trivial⟩ ?_
  refine Run.ite rfl hF (fun e1 hF => ?_) (fun e1 hF => ?_)
  ·
    refine Run.skip ?_
    refine Run.seq ?_
    refine Run.block ?_
    refine Run.seq ?_
    refine Run.reg ?_
    refine RunL.op (OpS.mv rfl rfl rfl ?_)
    refine RunL.op (OpS.mv rfl rfl rfl ?_)
    refine RunL.op (OpS.rem rfl rfl rfl rfl (by decide) ?_)
    refine RunL.op (OpS.conv Try.underlying54 Try.underlying5 rfl rfl rfl ?_)
    refine RunL.op (OpS.lit (r := (Rep.int .u8)) (f := true) h2 Try.underlying22 ti5 rfl rfl rfl rfl rfl (.cons rfl V.int .nil) rfl rfl (fun u2 w2 h3 => ?_))
    obtain ⟨x1, e2, hF⟩ := bindP_use hF
    refine RunL.op (OpS.app (f' := true) h3 .z Try.underlying22 ti5 rfl rfl rfl rfl rfl rfl rfl (V.at .z) (.inr Pure.int) e2 (fun u3 w3 h4 => ?_))
    refine RunL.op (OpS.as rfl rfl rfl ?_)
    refine RunL.nil ?_
    refine Run.slim [(5, u3), (0, .int .u64 s1.1), (1, .int .i64 a1), (6, .int .i64 s1.2.1)] ⟨rfl, rfl, rfl, rfl, trivial⟩ ?_
    refine Run.reg ?_
    refine RunL.op (OpS.mv rfl rfl rfl ?_)
    refine RunL.op (OpS.quo rfl rfl rfl rfl (by decide) ?_)
    refine RunL.op (OpS.as rfl rfl rfl ?_)
    obtain ⟨x2, e3, hF⟩ := letP_use hF
    refine RunL.name e3 ?_
    refine RunL.nil ?_
    refine Run.slim [(0, .int .u64 x2), (5, u3), (1, .int .i64 a1), (6, .int .i64 s1.2.1)] ⟨rfl, rfl, rfl, rfl, trivial⟩ ?_
    refine Run.endBlock ?_
    refine Run.reg ?_
    refine RunL.op (OpS.mv rfl rfl rfl ?_)
    refine RunL.op (OpS.bin rfl rfl rfl rfl rfl ?_)
    refine RunL.op (OpS.as rfl rfl rfl ?_)
    obtain ⟨x3, e4, hF⟩ := letP_use hF
    refine RunL.name e4 ?_
    refine RunL.nil ?_
    refine Run.slim [(6, .int .i64 x3), (0, .int .u64 x2), (5, u3), (1, .int .i64 a1)] ⟨rfl, rfl, rfl, rfl, trivial⟩ ?_
    refine Run.slim [(0, .int .u64 x2), (1, .int .i64 a1), (5, u3), (6, .int .i64 x3)] ⟨rfl, rfl, rfl, rfl, trivial⟩ ?_
    exact hk1 (x2, x3, x1) _ _ ⟨u3, rfl, (h4.facts .nil).picks (.cons .z .nil)⟩ hF
  ·
    refine Run.exit rfl ?_
    refine Run.seq ?_
    refine Run.reg ?_
    refine RunL.op (OpS.mv rfl rfl rfl ?_)
    refine RunL.op (OpS.as rfl rfl rfl ?_)
    refine RunL.nil ?_
    refine Run.slim [(4, u1)] ⟨rfl, trivial⟩ ?_
    refine Run.retP rfl (.tmp rfl .nil) ?_
    cases hF
    exact Post.mk' ⟨u1, rfl, rfl, rfl, rfl⟩ (h2.picks (.cons .z .nil)) .nil
theorem ref01_SealCRC32_ok {fuel : Nat} {a0 : List Int} {y : (List Int)} (hF : ref01_SealCRC32 fuel a0 = some y) {w : World} {v0 : Value} :
    Spec Try.prog 38 [v0].toArray w [(false, .val (Rep.slice (Rep.int .u8)) v0 a0)] [] (fun v Γr Ωr Ωo => ∃ u0 : Value, v = u0 ∧ Γr = [] ∧ Ωr = [(true, .slice 5 (Rep.int .u8) u0 y)] ∧ Ωo = []) := by
  refine Spec.of (L := [(0, v0)]) Try.func38 rfl ⟨rfl, trivial⟩ rfl (fun e h => ?_)
  unfold ref01_SealCRC32 at hF
  refine Run.seq ?_
  refine Run.reg ?_
  refine RunL.op (OpS.as rfl rfl rfl ?_)
  refine RunL.nil ?_
  refine Run.slim [(0, v0)] ⟨rfl, trivial⟩ ?_
  refine Run.seq ?_
  refine Run.reg ?_
  refine RunL.op (OpS.mv rfl rfl rfl ?_)
  obtain ⟨y1, e1, hF⟩ := bindP_use hF
  refine RunL.op (OpS.callP h Try.func44 rfl rfl rfl rfl (vs := [v0]) rfl (ref01_Copy_ok e1) (.cons (V.at .z) .nil) ?_)
  rintro u1 w1 _ _ _ ⟨_, rfl, rfl, rfl, rfl⟩ h1
  have h2 := h1 rfl rfl
  simp only [List.cons_append, List.nil_append] at h2
  refine RunL.op (OpS.mv rfl rfl rfl ?_)
  obtain ⟨y2, e2, hF⟩ := bindP_use hF
  refine RunL.op (OpS.callP h2 Try.func20 rfl rfl rfl rfl (vs := [v0]) rfl (ref01_CRC32_ok e2) (.cons (V.at .z) .nil) ?_)
  rintro _ w2 _ _ _ ⟨rfl, rfl, rfl, rfl⟩ h3
  have h4 := h3 rfl rfl
  simp only [List.cons_append, List.nil_append] at h4
  refine RunL.op (OpS.conv Try.underlying26 Try.underlying54 rfl rfl rfl ?_)
  obtain ⟨y3, e3, hF⟩ := bindP_use hF
  refine RunL.op (OpS.callP h4 Try.func46 rfl rfl rfl rfl (vs := [.int .u64 (IntKind.u64.wrap y2), .int .i64 4]) rfl (ref01_Little_ok e3) .nil ?_)
  rintro u2 w3 _ _ _ ⟨_, rfl, rfl, rfl, rfl⟩ h5
  have h6 := h5 rfl rfl
  simp only [List.cons_append, List.nil_append] at h6
  have h7 := (h6.pick .z).freeze
  obtain ⟨x1, e4, hF⟩ := bindP_use hF
  refine RunL.op (OpS.app (f' := true) h7 .z Try.underlying22 ti5 rfl rfl rfl rfl rfl rfl rfl (V.at .z) (.inr Pure.int) e4 (fun u3 w4 h8 => ?_))
  refine RunL.op (OpS.as rfl rfl rfl ?_)
  refine RunL.nil ?_
  refine Run.slim [(2, u3)] ⟨rfl, trivial⟩ ?_
  refine Run.retP rfl (.tmp rfl .nil) ?_
  cases hF
  exact Post.mk' ⟨u3, rfl, rfl, rfl, rfl⟩ (h8.picks (.cons .z .nil)) .nil
theorem law01_ChecksumSeals_ok {fuel : Nat} {a0 : List Int} {y : Bool} (hF : law01_ChecksumSeals fuel a0 = some y) {w : World} {v0 : Value} :
    Spec Try.prog 10 [v0].toArray w [(false, .val (Rep.slice (Rep.int .u8)) v0 a0)] [] (fun v Γr Ωr Ωo => v = .bool y ∧ Γr = [] ∧ Ωr = [] ∧ Ωo = []) := by
  refine Spec.of (L := [(0, v0)]) Try.func10 rfl ⟨rfl, trivial⟩ rfl (fun e h => ?_)
  unfold law01_ChecksumSeals at hF
  refine Run.seq ?_
  refine Run.reg ?_
  refine RunL.op (OpS.as rfl rfl rfl ?_)
  refine RunL.nil ?_
  refine Run.slim [(0, v0)] ⟨rfl, trivial⟩ ?_
  refine Run.seq ?_
  refine Run.seq ?_
  refine Run.reg ?_
  refine RunL.op (OpS.mv rfl rfl rfl ?_)
  obtain ⟨y1, e1, hF⟩ := bindP_use hF
  refine RunL.op (OpS.callP h Try.func13 rfl rfl rfl rfl (vs := [v0]) rfl (law01_light_ok e1) (.cons (V.at .z) .nil) ?_)
  rintro _ w1 _ _ _ ⟨rfl, rfl, rfl, rfl⟩ h1
  have h2 := h1 rfl rfl
  simp only [List.cons_append, List.nil_append] at h2
  refine RunL.op (OpS.not rfl rfl rfl ?_)
  refine RunL.nil ?_
  refine Run.slim [(17, .bool (!y1)), (0, v0)] ⟨rfl, rfl, trivial⟩ ?_
  refine Run.ite rfl hF (fun e2 hF => ?_) (fun e2 hF => ?_)
  ·
    refine Run.seq ?_
    refine Run.reg ?_
    obtain ⟨y2, e3, hF⟩ := bindP_use hF
    refine RunL.op (OpS.callP h2 Try.func14 rfl rfl rfl rfl (vs := []) rfl (law01_awake_ok e3) .nil ?_)
    rintro _ w2 _ _ _ ⟨rfl, rfl, rfl, rfl⟩ h3
    have h4 := h3 rfl rfl
    simp only [List.cons_append, List.nil_append] at h4
    refine RunL.op (OpS.as rfl rfl rfl ?_)
    refine RunL.nil ?_
    refine Run.slim [(2, .bool y2)] ⟨rfl, trivial⟩ ?_
    refine Run.retP rfl (.tmp rfl .nil) ?_
    cases hF
    exact Post.mk' ⟨rfl, rfl, rfl, rfl⟩ (h4.picks .nil) .nil
  ·
    refine Run.skip ?_
    refine Run.seq ?_
    refine Run.reg ?_
    refine RunL.op (OpS.mv rfl rfl rfl ?_)
    obtain ⟨y3, e4, hF⟩ := bindP_use hF
    refine RunL.op (OpS.callP h2 Try.func30 rfl rfl rfl rfl (vs := [v0]) rfl (checksum_Open8_ok e4) (.cons (V.at .z) .nil) ?_)
    rintro _ w3 _ _ _ ⟨u1, rfl, rfl, rfl, rfl⟩ h5
    have h6 := h5 rfl rfl
    simp only [List.cons_append, List.nil_append] at h6
    refine RunL.op (OpS.mv rfl rfl rfl ?_)
    refine RunL.op (OpS.ext rfl rfl rfl rfl ?_)
    refine RunL.op (OpS.ext rfl rfl rfl rfl ?_)
    refine RunL.op (OpS.as rfl rfl rfl ?_)
    have h7 := (h6.pick .z).freeze
    refine RunL.op (OpS.as rfl rfl rfl ?_)
    refine RunL.nil ?_
    refine Run.slim [(4, .int .i64 y3.2), (3, u1), (0, v0)] ⟨rfl, rfl, rfl, trivial⟩ ?_
    refine Run.seq ?_
    refine Run.reg ?_
    refine RunL.op (OpS.mv rfl rfl rfl ?_)
    obtain ⟨y4, e5, hF⟩ := bindP_use hF
    refine RunL.op (OpS.callP h7 Try.func31 rfl rfl rfl rfl (vs := [v0]) rfl (ref01_Open8_ok e5) (.cons (V.at (.s .z)) .nil) ?_)
    rintro _ w4 _ _ _ ⟨u2, rfl, rfl, rfl, rfl⟩ h8
    have h9 := h8 rfl rfl
    simp only [List.cons_append, List.nil_append] at h9
    refine RunL.op (OpS.mv rfl rfl rfl ?_)
    refine RunL.op (OpS.ext rfl rfl rfl rfl ?_)
    refine RunL.op (OpS.ext rfl rfl rfl rfl ?_)
    refine RunL.op (OpS.as rfl rfl rfl ?_)
    have h10 := (h9.pick .z).freeze
    refine RunL.op (OpS.as rfl rfl rfl ?_)
    refine RunL.nil ?_
    refine Run.slim [(6, .int .i64 y4.2), (5, u2), (4, .int .i64 y3.2), (3, u1), (0, v0)] ⟨rfl, rfl, rfl, rfl, rfl, trivial⟩ ?_
    refine Run.seq ?_
    refine Run.reg ?_
    refine RunL.op (OpS.mv rfl rfl rfl ?_)
    obtain ⟨y5, e6, hF⟩ := bindP_use hF
    refine RunL.op (OpS.callP h10 Try.func27 rfl rfl rfl rfl (vs := [v0]) rfl (checksum_OpenCRC8_ok e6) (.cons (V.at (.s (.s .z))) .nil) ?_)
    rintro _ w5 _ _ _ ⟨u3, rfl, rfl, rfl, rfl⟩ h11
    have h12 := h11 rfl rfl
    simp only [List.cons_append, List.nil_append] at h12
    refine RunL.op (OpS.mv rfl rfl rfl ?_)
    refine RunL.op (OpS.ext rfl rfl rfl rfl ?_)
    refine RunL.op (OpS.ext rfl rfl rfl rfl ?_)
    refine RunL.op (OpS.as rfl rfl rfl ?_)
    have h13 := (h12.pick .z).freeze
    refine RunL.op (OpS.as rfl rfl rfl ?_)
    refine RunL.nil ?_
    refine Run.slim [(8, .int .i64 y5.2), (7, u3), (6, .int .i64 y4.2), (5, u2), (4, .int .i64 y3.2), (3, u1), (0, v0)] ⟨rfl, rfl, rfl, rfl, rfl, rfl, rfl, trivial⟩ ?_
    refine Run.seq ?_
    refine Run.reg ?_
    refine RunL.op (OpS.mv rfl rfl rfl ?_)
    obtain ⟨y6, e7, hF⟩ := bindP_use hF
    refine RunL.op (OpS.callP h13 Try.func32 rfl rfl rfl rfl (vs := [v0]) rfl (ref01_OpenCRC8_ok e7) (.cons (V.at (.s (.s (.s .z)))) .nil) ?_)
    rintro _ w6 _ _ _ ⟨u4, rfl, rfl, rfl, rfl⟩ h14
    have h15 := h14 rfl rfl
    simp only [List.cons_append, List.nil_append] at h15
    refine RunL.op (OpS.mv rfl rfl rfl ?_)
    refine RunL.op (OpS.ext rfl rfl rfl rfl ?_)
    refine RunL.op (OpS.ext rfl rfl rfl rfl ?_)
    refine RunL.op (OpS.as rfl rfl rfl ?_)
    have h16 := (h15.pick .z).freeze
    refine RunL.op (OpS.as rfl rfl rfl ?_)
    refine RunL.nil ?_
    refine Run.slim [(10, .int .i64 y6.2), (9, u4), (8, .int .i64 y5.2), (7, u3), (6, .int .i64 y4.2), (5, u2), (4, .int .i64 y3.2), (3, u1), (0, v0)] ⟨rfl, rfl, rfl, rfl, rfl, rfl, rfl, rfl, rfl, trivial⟩ ?_
    refine Run.seq ?_
    refine Run.reg ?_
    refine RunL.op (OpS.mv rfl rfl rfl ?_)
    obtain ⟨y7, e8, hF⟩ := bindP_use hF
    refine RunL.op (OpS.callP h16 Try.func29 rfl rfl rfl rfl (vs := [v0]) rfl (checksum_OpenCRC32_ok e8) (.cons (V.at (.s (.s (.s (.s .z))))) .nil) ?_)
    rintro _ w7 _ _ _ ⟨u5, rfl, rfl, rfl, rfl⟩ h17
    have h18 := h17 rfl rfl
    simp only [List.cons_append, List.nil_append] at h18
    refine RunL.op (OpS.mv rfl rfl rfl ?_)
    refine RunL.op (OpS.ext rfl rfl rfl rfl ?_)
    refine RunL.op (OpS.ext rfl rfl rfl rfl ?_)
    refine RunL.op (OpS.as rfl rfl rfl ?_)
    have h19 := (h18.pick .z).freeze
    refine RunL.op (OpS.as rfl rfl rfl ?_)
    refine RunL.nil ?_
    refine Run.slim [(12, .int .i64 y7.2), (11, u5), (10, .int .i64 y6.2), (9, u4), (8, .int .i64 y5.2), (7, u3), (6, .int .i64 y4.2), (5, u2), (4, .int .i64 y3.2), (3, u1), (0, v0)] ⟨rfl, rfl, rfl, rfl, rfl, rfl, rfl, rfl, rfl, rfl, rfl, trivial⟩ ?_
    refine Run.seq ?_
    refine Run.reg ?_
    refine RunL.op (OpS.mv rfl rfl rfl ?_)
    obtain ⟨y8, e9, hF⟩ := bindP_use hF
    refine RunL.op (OpS.callP h19 Try.func33 rfl rfl rfl rfl (vs := [v0]) rfl (ref01_OpenCRC32_ok e9) (.cons (V.at (.s (.s (.s (.s (.s .z)))))) .nil) ?_)
    rintro _ w8 _ _ _ ⟨u6, rfl, rfl, rfl, rfl⟩ h20
    have h21 := h20 rfl rfl
    simp only [List.cons_append, List.nil_append] at h21
    refine RunL.op (OpS.mv rfl rfl rfl ?_)
    refine RunL.op (OpS.ext rfl rfl rfl rfl ?_)
    refine RunL.op (OpS.ext rfl rfl rfl rfl ?_)
    refine RunL.op (OpS.as rfl rfl rfl ?_)
    have h22 := (h21.pick .z).freeze
    refine RunL.op (OpS.as rfl rfl rfl ?_)
    refine RunL.nil ?_
    refine Run.slim [(14, .int .i64 y8.2), (13, u6), (12, .int .i64 y7.2), (11, u5), (10, .int .i64 y6.2), (9, u4), (8, .int .i64 y5.2), (7, u3), (6, .int .i64 y4.2), (5, u2), (4, .int .i64 y3.2), (3, u1), (0, v0)] ⟨rfl, rfl, rfl, rfl, rfl, rfl, rfl, rfl, rfl, rfl, rfl, rfl, rfl, trivial⟩ ?_
    refine Run.seq ?_
    refine Run.seq ?_
    refine Run.reg ?_
    refine RunL.op (OpS.mv rfl rfl rfl ?_)
    refine RunL.op (OpS.mv rfl rfl rfl ?_)
    refine RunL.op (OpS.bin rfl rfl rfl rfl rfl ?_)
    refine RunL.op (OpS.mv rfl rfl rfl ?_)
    refine RunL.join (σ := Bool) (fun s_ L_ w_ => L_ = [(0, v0), (79, .bool s_)] ∧ St e w_ [(false, .val (Rep.slice (Rep.int .u8)) v0 a0)] []) hF (fun s1 _ w9 hI hF => ?_) (fun j1 hj1 hF => ?_)
    ·
      obtain ⟨rfl, h23⟩ := hI
      refine Run.ite rfl hF (fun e10 hF => ?_) (fun e10 hF => ?_)
      ·
        refine Run.seq ?_
        refine Run.reg ?_
        refine RunL.op (OpS.as rfl rfl rfl ?_)
        refine RunL.nil ?_
        refine Run.slim [(2, .bool false)] ⟨rfl, trivial⟩ ?_
        refine Run.retP rfl (.tmp rfl .nil) ?_
        cases hF
        exact Post.mk' ⟨rfl, rfl, rfl, rfl⟩ (h23.picks .nil) .nil
      ·
        refine Run.skip ?_
        refine Run.seq ?_
        refine Run.reg ?_
        refine RunL.op (OpS.mv rfl rfl rfl ?_)
        obtain ⟨y9, e11, hF⟩ := bindP_use hF
        refine RunL.op (OpS.callP h23 Try.func35 rfl rfl rfl rfl (vs := [v0]) rfl (checksum_Seal8_ok e11) (.cons (V.at .z) .nil) ?_)
        rintro u7 w10 _ _ _ ⟨_, rfl, rfl, rfl, rfl⟩ h24
        have h25 := h24 rfl rfl
        simp only [List.cons_append, List.nil_append] at h25
        refine RunL.op (OpS.mv rfl rfl rfl ?_)
        obtain ⟨y10, e12, hF⟩ := bindP_use hF
        refine RunL.op (OpS.callP h25 Try.func36 rfl rfl rfl rfl (vs := [v0]) rfl (ref01_Seal8_ok e12) (.cons (V.at .z) .nil) ?_)
        rintro u8 w11 _ _ _ ⟨_, rfl, rfl, rfl, rfl⟩ h26
        have h27 := h26 rfl rfl
        simp only [List.cons_append, List.nil_append] at h27
        obtain ⟨y11, e13, hF⟩ := bindP_use hF
        refine RunL.op (OpS.callP h27 Try.func34 rfl rfl rfl rfl (vs := [u7, u8]) rfl (ref01_Same_ok e13) (.own (.s .z) (.own .z .nil)) ?_)
        rintro _ w12 _ _ _ ⟨rfl, rfl, rfl, rfl⟩ h28
        have h29 := h28 rfl rfl
        simp only [List.cons_append, List.nil_append] at h29
        refine RunL.op (OpS.mv rfl rfl rfl ?_)
        refine RunL.caseb hF (fun e14 hF => ?_) (fun e14 hF => ?_)
        ·
          refine RunL.op (OpS.mv rfl rfl rfl ?_)
          obtain ⟨y12, e15, hF⟩ := bindP_use hF
          refine RunL.op (OpS.callP h29 Try.func25 rfl rfl rfl rfl (vs := [v0]) rfl (checksum_SealCRC8_ok e15) (.cons (V.at .z) .nil) ?_)
          rintro u9 w13 _ _ _ ⟨_, rfl, rfl, rfl, rfl⟩ h30
          have h31 := h30 rfl rfl
          simp only [List.cons_append, List.nil_append] at h31
          refine RunL.op (OpS.mv rfl rfl rfl ?_)
          obtain ⟨y13, e16, hF⟩ := bindP_use hF
          refine RunL.op (OpS.callP h31 Try.func37 rfl rfl rfl rfl (vs := [v0]) rfl (ref01_SealCRC8_ok e16) (.cons (V.at .z) .nil) ?_)
          rintro u10 w14 _ _ _ ⟨_, rfl, rfl, rfl, rfl⟩ h32
          have h33 := h32 rfl rfl
          simp only [List.cons_append, List.nil_append] at h33
          obtain ⟨y14, e17, hF⟩ := bindP_use hF
          refine RunL.op (OpS.callP h33 Try.func34 rfl rfl rfl rfl (vs := [u9, u10]) rfl (ref01_Same_ok e17) (.own (.s .z) (.own .z .nil)) ?_)
          rintro _ w15 _ _ _ ⟨rfl, rfl, rfl, rfl⟩ h34
          have h35 := h34 rfl rfl
          simp only [List.cons_append, List.nil_append] at h35
          refine RunL.op (OpS.pick rfl rfl rfl rfl ?_)
          refine RunL.op (OpS.mv rfl rfl rfl ?_)
          refine RunL.caseb hF (fun e18 hF => ?_) (fun e18 hF => ?_)
          ·
            refine RunL.op (OpS.mv rfl rfl rfl ?_)
            obtain ⟨y15, e19, hF⟩ := bindP_use hF
            refine RunL.op (OpS.callP h35 Try.func28 rfl rfl rfl rfl (vs := [v0]) rfl (checksum_SealCRC32_ok e19) (.cons (V.at .z) .nil) ?_)
            rintro u11 w16 _ _ _ ⟨_, rfl, rfl, rfl, rfl⟩ h36
            have h37 := h36 rfl rfl
            simp only [List.cons_append, List.nil_append] at h37
            refine RunL.op (OpS.mv rfl rfl rfl ?_)
            obtain ⟨y16, e20, hF⟩ := bindP_use hF
            refine RunL.op (OpS.callP h37 Try.func38 rfl rfl rfl rfl (vs := [v0]) rfl (ref01_SealCRC32_ok e20) (.cons (V.at .z) .nil) ?_)
            rintro u12 w17 _ _ _ ⟨_, rfl, rfl, rfl, rfl⟩ h38
            have h39 := h38 rfl rfl
            simp only [List.cons_append, List.nil_append] at h39
            obtain ⟨y17, e21, hF⟩ := bindP_use hF
            refine RunL.op (OpS.callP h39 Try.func34 rfl rfl rfl rfl (vs := [u11, u12]) rfl (ref01_Same_ok e21) (.own (.s .z) (.own .z .nil)) ?_)
            rintro _ w18 _ _ _ ⟨rfl, rfl, rfl, rfl⟩ h40
            have h41 := h40 rfl rfl
            simp only [List.cons_append, List.nil_append] at h41
            refine RunL.op (OpS.pick rfl rfl rfl rfl ?_)
            refine RunL.op (OpS.mv rfl rfl rfl ?_)
            refine RunL.caseb hF (fun e22 hF => ?_) (fun e22 hF => ?_)
            ·
              obtain ⟨y18, e23, hF⟩ := bindP_use hF
              refine RunL.op (OpS.callP h41 Try.func14 rfl rfl rfl rfl (vs := []) rfl (law01_awake_ok e23) .nil ?_)
              rintro _ w19 _ _ _ ⟨rfl, rfl, rfl, rfl⟩ h42
              have h43 := h42 rfl rfl
              simp only [List.cons_append, List.nil_append] at h43
              refine RunL.op (OpS.pick rfl rfl rfl rfl ?_)
              refine RunL.op (OpS.as rfl rfl rfl ?_)
              refine RunL.nil ?_
              refine Run.slim [(2, .bool y18)] ⟨rfl, trivial⟩ ?_
              refine Run.retP rfl (.tmp rfl .nil) ?_
              cases hF
              exact Post.mk' ⟨rfl, rfl, rfl, rfl⟩ (h43.picks .nil) .nil
            ·
              refine RunL.op (OpS.pass rfl rfl rfl ?_)
              refine RunL.op (OpS.pick rfl rfl rfl rfl ?_)
              refine RunL.op (OpS.as rfl rfl rfl ?_)
              refine RunL.nil ?_
              refine Run.slim [(2, .bool false)] ⟨rfl, trivial⟩ ?_
              refine Run.retP rfl (.tmp rfl .nil) ?_
              cases hF
              exact Post.mk' ⟨rfl, rfl, rfl, rfl⟩ (h41.picks .nil) .nil
          ·
            refine RunL.op (OpS.pass rfl rfl rfl ?_)
            refine RunL.op (OpS.pass rfl rfl rfl ?_)
            refine RunL.op (OpS.pass rfl rfl rfl ?_)
            refine RunL.op (OpS.pass rfl rfl rfl ?_)
            refine RunL.op (OpS.pass rfl rfl rfl ?_)
            refine RunL.op (OpS.pick rfl rfl rfl rfl ?_)
            refine RunL.op (OpS.mv rfl rfl rfl ?_)
            refine RunL.op (OpS.pass rfl rfl rfl ?_)
            refine RunL.op (OpS.pick rfl rfl rfl rfl ?_)
            refine RunL.op (OpS.as rfl rfl rfl ?_)
            refine RunL.nil ?_
            refine Run.slim [(2, .bool false)] ⟨rfl, trivial⟩ ?_
            refine Run.retP rfl (.tmp rfl .nil) ?_
            cases hF
            exact Post.mk' ⟨rfl, rfl, rfl, rfl⟩ (h35.picks .nil) .nil
        ·
          refine RunL.op (OpS.pass rfl rfl rfl ?_)
          refine RunL.op (OpS.pass rfl rfl rfl ?_)
          refine RunL.op (OpS.pass rfl rfl rfl ?_)
          refine RunL.op (OpS.pass rfl rfl rfl ?_)
          refine RunL.op (OpS.pass rfl rfl rfl ?_)
          refine RunL.op (OpS.pick rfl rfl rfl rfl ?_)
          refine RunL.op (OpS.mv rfl rfl rfl ?_)
          refine RunL.op (OpS.pass rfl rfl rfl ?_)
          refine RunL.op (OpS.pass rfl rfl rfl ?_)
          refine RunL.op (OpS.pass rfl rfl rfl ?_)
          refine RunL.op (OpS.pass rfl rfl rfl ?_)
          refine RunL.op (OpS.pass rfl rfl rfl ?_)
          refine RunL.op (OpS.pick rfl rfl rfl rfl ?_)
          refine RunL.op (OpS.mv rfl rfl rfl ?_)
          refine RunL.op (OpS.pass rfl rfl rfl ?_)
          refine RunL.op (OpS.pick rfl rfl rfl rfl ?_)
          refine RunL.op (OpS.as rfl rfl rfl ?_)
          refine RunL.nil ?_
          refine Run.slim [(2, .bool false)] ⟨rfl, trivial⟩ ?_
          refine Run.retP rfl (.tmp rfl .nil) ?_
          cases hF
          exact Post.mk' ⟨rfl, rfl, rfl, rfl⟩ (h29.picks .nil) .nil
    ·
      refine RunL.caseb hF (fun e24 hF => ?_) (fun e24 hF => ?_)
      ·
        refine RunL.op (OpS.pass rfl rfl rfl ?_)
        refine RunL.op (OpS.pass rfl rfl rfl ?_)
        refine RunL.op (OpS.pass rfl rfl rfl ?_)
        refine RunL.op (OpS.pick rfl rfl rfl rfl ?_)
        refine RunL.op (OpS.mv rfl rfl rfl ?_)
        refine RunL.op (OpS.pass rfl rfl rfl ?_)
        refine RunL.op (OpS.pass rfl rfl rfl ?_)
        refine RunL.op (OpS.pass rfl rfl rfl ?_)
        refine RunL.op (OpS.pick rfl rfl rfl rfl ?_)
        refine RunL.op (OpS.mv rfl rfl rfl ?_)
        refine RunL.op (OpS.pass rfl rfl rfl ?_)
        refine RunL.op (OpS.pass rfl rfl rfl ?_)
        refine RunL.op (OpS.pass rfl rfl rfl ?_)
        refine RunL.op (OpS.pass rfl rfl rfl ?_)
        refine RunL.op (OpS.pick rfl rfl rfl rfl ?_)
        refine RunL.op (OpS.mv rfl rfl rfl ?_)
        refine RunL.op (OpS.pass rfl rfl rfl ?_)
        refine RunL.op (OpS.pass rfl rfl rfl ?_)
        refine RunL.op (OpS.pass rfl rfl rfl ?_)
        refine RunL.op (OpS.pass rfl rfl rfl ?_)
        refine RunL.op (OpS.pick rfl rfl rfl rfl ?_)
        refine RunL.op (OpS.mv rfl rfl rfl ?_)
        refine RunL.op (OpS.pass rfl rfl rfl ?_)
        refine RunL.op (OpS.pass rfl rfl rfl ?_)
        refine RunL.op (OpS.pass rfl rfl rfl ?_)
        refine RunL.op (OpS.pass rfl rfl rfl ?_)
        refine RunL.op (OpS.pick rfl rfl rfl rfl ?_)
        refine RunL.nil ?_
        refine Run.slim [(79, .bool true), (0, v0)] ⟨rfl, rfl, trivial⟩ ?_
        refine Run.slim [(0, v0), (79, .bool true)] ⟨rfl, rfl, trivial⟩ ?_
        exact hj1 (true) _ _ ⟨rfl, (h22.facts (.atm (.s (.s (.s (.s (.s (.s .z)))))) .nil)).picks .nil⟩ hF
      ·
        refine RunL.op (OpS.mv rfl rfl rfl ?_)
        refine RunL.op (OpS.mv rfl rfl rfl ?_)
        refine RunL.op (OpS.bin rfl rfl rfl rfl rfl ?_)
        refine RunL.op (OpS.pick rfl rfl rfl rfl ?_)
        refine RunL.op (OpS.mv rfl rfl rfl ?_)
        refine RunL.caseb hF (fun e25 hF => ?_) (fun e25 hF => ?_)
        ·
          refine RunL.op (OpS.pass rfl rfl rfl ?_)
          refine RunL.op (OpS.pass rfl rfl rfl ?_)
          refine RunL.op (OpS.pass rfl rfl rfl ?_)
          refine RunL.op (OpS.pick rfl rfl rfl rfl ?_)
          refine RunL.op (OpS.mv rfl rfl rfl ?_)
          refine RunL.op (OpS.pass rfl rfl rfl ?_)
          refine RunL.op (OpS.pass rfl rfl rfl ?_)
          refine RunL.op (OpS.pass rfl rfl rfl ?_)
          refine RunL.op (OpS.pass rfl rfl rfl ?_)
          refine RunL.op (OpS.pick rfl rfl rfl rfl ?_)
          refine RunL.op (OpS.mv rfl rfl rfl ?_)
          refine RunL.op (OpS.pass rfl rfl rfl ?_)
          refine RunL.op (OpS.pass rfl rfl rfl ?_)
          refine RunL.op (OpS.pass rfl rfl rfl ?_)
          refine RunL.op (OpS.pass rfl rfl rfl ?_)
          refine RunL.op (OpS.pick rfl rfl rfl rfl ?_)
          refine RunL.op (OpS.mv rfl rfl rfl ?_)
          refine RunL.op (OpS.pass rfl rfl rfl ?_)
          refine RunL.op (OpS.pass rfl rfl rfl ?_)
          refine RunL.op (OpS.pass rfl rfl rfl ?_)
          refine RunL.op (OpS.pass rfl rfl rfl ?_)
          refine RunL.op (OpS.pick rfl rfl rfl rfl ?_)
          refine RunL.nil ?_
          refine Run.slim [(79, .bool true), (0, v0)] ⟨rfl, rfl, trivial⟩ ?_
          refine Run.slim [(0, v0), (79, .bool true)] ⟨rfl, rfl, trivial⟩ ?_
          exact hj1 (true) _ _ ⟨rfl, (h22.facts (.atm (.s (.s (.s (.s (.s (.s .z)))))) .nil)).picks .nil⟩ hF
        ·
          refine RunL.op (OpS.mv rfl rfl rfl ?_)
          refine RunL.op (OpS.mv rfl rfl rfl ?_)
          refine RunL.op (OpS.bin rfl rfl rfl rfl rfl ?_)
          refine RunL.op (OpS.pick rfl rfl rfl rfl ?_)
          refine RunL.op (OpS.mv rfl rfl rfl ?_)
          refine RunL.caseb hF (fun e26 hF => ?_) (fun e26 hF => ?_)
          ·
            refine RunL.op (OpS.pass rfl rfl rfl ?_)
            refine RunL.op (OpS.pass rfl rfl rfl ?_)
            refine RunL.op (OpS.pass rfl rfl rfl ?_)
            refine RunL.op (OpS.pass rfl rfl rfl ?_)
            refine RunL.op (OpS.pick rfl rfl rfl rfl ?_)
            refine RunL.op (OpS.mv rfl rfl rfl ?_)
            refine RunL.op (OpS.pass rfl rfl rfl ?_)
            refine RunL.op (OpS.pass rfl rfl rfl ?_)
            refine RunL.op (OpS.pass rfl rfl rfl ?_)
            refine RunL.op (OpS.pass rfl rfl rfl ?_)
            refine RunL.op (OpS.pick rfl rfl rfl rfl ?_)
            refine RunL.op (OpS.mv rfl rfl rfl ?_)
            refine RunL.op (OpS.pass rfl rfl rfl ?_)
            refine RunL.op (OpS.pass rfl rfl rfl ?_)
            refine RunL.op (OpS.pass rfl rfl rfl ?_)
            refine RunL.op (OpS.pass rfl rfl rfl ?_)
            refine RunL.op (OpS.pick rfl rfl rfl rfl ?_)
            refine RunL.nil ?_
            refine Run.slim [(79, .bool true), (0, v0)] ⟨rfl, rfl, trivial⟩ ?_
            refine Run.slim [(0, v0), (79, .bool true)] ⟨rfl, rfl, trivial⟩ ?_
            exact hj1 (true) _ _ ⟨rfl, (h22.facts (.atm (.s (.s (.s (.s (.s (.s .z)))))) .nil)).picks .nil⟩ hF
          ·
            refine RunL.op (OpS.mv rfl rfl rfl ?_)
            refine RunL.op (OpS.mv rfl rfl rfl ?_)
            obtain ⟨y19, e27, hF⟩ := bindP_use hF
            refine RunL.op (OpS.callP h22 Try.func34 rfl rfl rfl rfl (vs := [u1, u2]) rfl (ref01_Same_ok e27) (.cons (V.at (.s (.s (.s (.s (.s .z)))))) (.cons (V.at (.s (.s (.s (.s .z))))) .nil)) ?_)
            rintro _ w20 _ _ _ ⟨rfl, rfl, rfl, rfl⟩ h44
            have h45 := h44 rfl rfl
            simp only [List.cons_append, List.nil_append] at h45
            refine RunL.op (OpS.not rfl rfl rfl ?_)
            refine RunL.op (OpS.pick rfl rfl rfl rfl ?_)
            refine RunL.op (OpS.mv rfl rfl rfl ?_)
            refine RunL.caseb hF (fun e28 hF => ?_) (fun e28 hF => ?_)
            ·
              refine RunL.op (OpS.pass rfl rfl rfl ?_)
              refine RunL.op (OpS.pass rfl rfl rfl ?_)
              refine RunL.op (OpS.pass rfl rfl rfl ?_)
              refine RunL.op (OpS.pass rfl rfl rfl ?_)
              refine RunL.op (OpS.pick rfl rfl rfl rfl ?_)
              refine RunL.op (OpS.mv rfl rfl rfl ?_)
              refine RunL.op (OpS.pass rfl rfl rfl ?_)
              refine RunL.op (OpS.pass rfl rfl rfl ?_)
              refine RunL.op (OpS.pass rfl rfl rfl ?_)
              refine RunL.op (OpS.pass rfl rfl rfl ?_)
              refine RunL.op (OpS.pick rfl rfl rfl rfl ?_)
              refine RunL.nil ?_
              refine Run.slim [(79, .bool true), (0, v0)] ⟨rfl, rfl, trivial⟩ ?_
              refine Run.slim [(0, v0), (79, .bool true)] ⟨rfl, rfl, trivial⟩ ?_
              exact hj1 (true) _ _ ⟨rfl, (h45.facts (.atm (.s (.s (.s (.s (.s (.s .z)))))) .nil)).picks .nil⟩ hF
            ·
              refine RunL.op (OpS.mv rfl rfl rfl ?_)
              refine RunL.op (OpS.mv rfl rfl rfl ?_)
              obtain ⟨y20, e29, hF⟩ := bindP_use hF
              refine RunL.op (OpS.callP h45 Try.func34 rfl rfl rfl rfl (vs := [u3, u4]) rfl (ref01_Same_ok e29) (.cons (V.at (.s (.s (.s .z)))) (.cons (V.at (.s (.s .z))) .nil)) ?_)
              rintro _ w21 _ _ _ ⟨rfl, rfl, rfl, rfl⟩ h46
              have h47 := h46 rfl rfl
              simp only [List.cons_append, List.nil_append] at h47
              refine RunL.op (OpS.not rfl rfl rfl ?_)
              refine RunL.op (OpS.pick rfl rfl rfl rfl ?_)
              refine RunL.op (OpS.mv rfl rfl rfl ?_)
              refine RunL.caseb hF (fun e30 hF => ?_) (fun e30 hF => ?_)
              ·
                refine RunL.op (OpS.pass rfl rfl rfl ?_)
                refine RunL.op (OpS.pass rfl rfl rfl ?_)
                refine RunL.op (OpS.pass rfl rfl rfl ?_)
                refine RunL.op (OpS.pass rfl rfl rfl ?_)
                refine RunL.op (OpS.pick rfl rfl rfl rfl ?_)
                refine RunL.nil ?_
                refine Run.slim [(79, .bool true), (0, v0)] ⟨rfl, rfl, trivial⟩ ?_
                refine Run.slim [(0, v0), (79, .bool true)] ⟨rfl, rfl, trivial⟩ ?_
                exact hj1 (true) _ _ ⟨rfl, (h47.facts (.atm (.s (.s (.s (.s (.s (.s .z)))))) .nil)).picks .nil⟩ hF
              ·
                refine RunL.op (OpS.mv rfl rfl rfl ?_)
                refine RunL.op (OpS.mv rfl rfl rfl ?_)
                obtain ⟨y21, e31, hF⟩ := bindP_use hF
                refine RunL.op (OpS.callP h47 Try.func34 rfl rfl rfl rfl (vs := [u5, u6]) rfl (ref01_Same_ok e31) (.cons (V.at (.s .z)) (.cons (V.at .z) .nil)) ?_)
                rintro _ w22 _ _ _ ⟨rfl, rfl, rfl, rfl⟩ h48
                have h49 := h48 rfl rfl
                simp only [List.cons_append, List.nil_append] at h49
                refine RunL.op (OpS.not rfl rfl rfl ?_)
                refine RunL.op (OpS.pick rfl rfl rfl rfl ?_)
                refine RunL.nil ?_
                refine Run.slim [(79, .bool (!y21)), (0, v0)] ⟨rfl, rfl, trivial⟩ ?_
                refine Run.slim [(0, v0), (79, .bool (!y21))] ⟨rfl, rfl, trivial⟩ ?_
                exact hj1 (!y21) _ _ ⟨rfl, (h49.facts (.atm (.s (.s (.s (.s (.s (.s .z)))))) .nil)).picks .nil⟩ hF
end Lift
