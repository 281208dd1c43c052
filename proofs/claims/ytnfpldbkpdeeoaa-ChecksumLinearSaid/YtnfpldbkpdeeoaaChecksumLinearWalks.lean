/- Each Go function computes its plain function. Written by lift.py. -/
import Derived.Test.YtnfpldbkpdeeoaaFacts
namespace Lift
open Go Go.Proofs
theorem made_Light_ok {fuel : Nat} {a0 : List Int} {y : Bool} (hF : made_Light fuel a0 = some y) {w : World} {v0 : Value} :
    Spec Try.prog 21 [v0].toArray w [(false, .val (Rep.slice (Rep.int .i64)) v0 a0)] [] (fun v Γr Ωr Ωo => v = .bool y ∧ Γr = [] ∧ Ωr = [] ∧ Ωo = []) := by
  refine Spec.of (L := [(0, v0)]) Try.func21 rfl ⟨rfl, trivial⟩ rfl (fun e h => ?_)
  unfold made_Light at hF
  refine Run.seq ?_
  refine Run.reg ?_
  refine RunL.op (OpS.as rfl rfl rfl ?_)
  refine RunL.nil ?_
  refine Run.slim [(0, v0)] ⟨rfl, trivial⟩ ?_
  refine Run.seq ?_
  refine Run.reg ?_
  refine RunL.op (OpS.mv rfl rfl rfl ?_)
  refine RunL.op (OpS.len h Try.underlying28 rfl rfl rfl (V.at .z) ?_)
  refine RunL.op (OpS.bin rfl rfl rfl rfl rfl ?_)
  refine RunL.op (OpS.as rfl rfl rfl ?_)
  obtain ⟨x1, e1, hF⟩ := letP_use hF
  refine RunL.nameb e1 ?_
  refine RunL.nil ?_
  refine Run.slim [(2, .bool x1)] ⟨rfl, trivial⟩ ?_
  refine Run.retP rfl (.tmp rfl .nil) ?_
  cases hF
  exact Post.mk' ⟨rfl, rfl, rfl, rfl⟩ (h.picks .nil) .nil
theorem checksum_CRC8_ok {fuel : Nat} {a0 : List Int} {y : Int} (hF : checksum_CRC8 fuel a0 = some y) {w : World} {v0 : Value} :
    Spec Try.prog 17 [v0].toArray w [(false, .val (Rep.slice (Rep.int .u8)) v0 a0)] [] (fun v Γr Ωr Ωo => v = .int .u8 y ∧ Γr = [] ∧ Ωr = [] ∧ Ωo = []) := by
  refine Spec.of (L := [(0, v0)]) Try.func17 rfl ⟨rfl, trivial⟩ rfl (fun e h => ?_)
  unfold checksum_CRC8 at hF
  refine Run.seq ?_
  refine Run.reg ?_
  refine RunL.op (OpS.as rfl rfl rfl ?_)
  refine RunL.nil ?_
  refine Run.slim [(0, v0)] ⟨rfl, trivial⟩ ?_
  refine Run.seq ?_
  refine Run.reg ?_
  refine RunL.op (OpS.as rfl rfl rfl ?_)
  refine RunL.nil ?_
  refine Run.seq ?_
  refine Run.seq ?_
  refine Run.reg ?_
  refine RunL.op (OpS.mv rfl rfl rfl ?_)
  refine RunL.op (OpS.len h Try.underlying22 rfl rfl rfl (V.at .z) ?_)
  refine RunL.op (OpS.mv rfl rfl rfl ?_)
  refine RunL.nil ?_
  refine Run.slim [(9, .int .i64 0), (8, .int .i64 (a0.length : Int)), (7, v0), (3, .int .u8 0)] ⟨rfl, rfl, rfl, rfl, trivial⟩ ?_
  refine Run.block ?_
  refine Run.slim [(3, .int .u8 0), (7, v0), (8, .int .i64 (a0.length : Int)), (9, .int .i64 0)] ⟨rfl, rfl, rfl, rfl, trivial⟩ ?_
  refine Run.loopP (σ := (Int × Int)) (fun s_ L_ w_ => L_ = [(3, .int .u8 s_.1), (7, v0), (8, .int .i64 (a0.length : Int)), (9, .int .i64 s_.2)] ∧ St e w_ [(false, .val (Rep.slice (Rep.int .u8)) v0 a0)] []) hF ⟨rfl, (h.facts (.atm .z .nil)).picks .nil⟩ (fun k1 hk1 s1 _ w1 hI hF => ?_)
  obtain ⟨rfl, h1⟩ := hI
  refine Run.seq ?_
  refine Run.reg ?_
  refine RunL.op (OpS.bin rfl rfl rfl rfl rfl ?_)
  refine RunL.nil ?_
  refine Run.seq ?_
  refine Run.ite rfl hF (fun e1 hF => ?_) (fun e1 hF => ?_)
  ·
    refine Run.skip ?_
    refine Run.seq ?_
    refine Run.block ?_
    refine Run.seq ?_
    refine Run.reg ?_
    obtain ⟨x1, e2, hF⟩ := bindP_use hF
    refine RunL.op (OpS.iptr h1 Try.underlying22 ty5 rfl rfl rfl rfl (V.at .z) e2 (fun u1 h2 => ?_))
    refine RunL.op (OpS.loadi h2 ty5 rfl rfl rfl .z ?_)
    refine RunL.op (OpS.as rfl rfl rfl ?_)
    refine RunL.nil ?_
    refine Run.slim [(5, .int .u8 x1), (3, .int .u8 s1.1), (7, v0), (8, .int .i64 (a0.length : Int)), (9, .int .i64 s1.2)] ⟨rfl, rfl, rfl, rfl, rfl, trivial⟩ ?_
    refine Run.seq ?_
    refine Run.reg ?_
    refine RunL.op (OpS.mv rfl rfl rfl ?_)
    refine RunL.op (OpS.mv rfl rfl rfl ?_)
    refine RunL.op (OpS.bin rfl rfl rfl rfl rfl ?_)
    refine RunL.op (OpS.as rfl rfl rfl ?_)
    refine RunL.nil ?_
    refine Run.slim [(3, .int .u8 (bXor .u8 s1.1 x1)), (7, v0), (8, .int .i64 (a0.length : Int)), (9, .int .i64 s1.2)] ⟨rfl, rfl, rfl, rfl, trivial⟩ ?_
    refine Run.seq ?_
    refine Run.reg ?_
    refine RunL.op (OpS.mv rfl rfl rfl ?_)
    refine RunL.nil ?_
    refine Run.block ?_
    refine Run.slim [(3, .int .u8 (bXor .u8 s1.1 x1)), (7, v0), (8, .int .i64 (a0.length : Int)), (9, .int .i64 s1.2), (16, .int .i64 0)] ⟨rfl, rfl, rfl, rfl, rfl, trivial⟩ ?_
    refine Run.loopP (σ := (Int × Int)) (fun s_ L_ w_ => L_ = [(3, .int .u8 s_.1), (7, v0), (8, .int .i64 (a0.length : Int)), (9, .int .i64 s1.2), (16, .int .i64 s_.2)] ∧ St e w_ [(false, .val (Rep.slice (Rep.int .u8)) v0 a0)] []) hF ⟨rfl, (h2.facts (.atm (.s .z) .nil)).picks .nil⟩ (fun k2 hk2 s2 _ w2 hI hF => ?_)
    obtain ⟨rfl, h3⟩ := hI
    refine Run.seq ?_
    refine Run.reg ?_
    refine RunL.op (OpS.bin rfl rfl rfl rfl rfl ?_)
    refine RunL.nil ?_
    refine Run.seq ?_
    refine Run.ite rfl hF (fun e3 hF => ?_) (fun e3 hF => ?_)
    ·
      refine Run.skip ?_
      refine Run.seq ?_
      refine Run.block ?_
      refine Run.seq ?_
      refine Run.reg ?_
      refine RunL.op (OpS.mv rfl rfl rfl ?_)
      refine RunL.op (OpS.shr rfl rfl rfl rfl (by decide) ?_)
      refine RunL.op (OpS.as rfl rfl rfl ?_)
      refine RunL.nil ?_
      refine Run.slim [(6, .int .u8 (bShr .u8 s2.1 7)), (3, .int .u8 s2.1), (7, v0), (8, .int .i64 (a0.length : Int)), (9, .int .i64 s1.2), (16, .int .i64 s2.2)] ⟨rfl, rfl, rfl, rfl, rfl, rfl, trivial⟩ ?_
      refine Run.reg ?_
      refine RunL.op (OpS.mv rfl rfl rfl ?_)
      refine RunL.op (OpS.shl rfl rfl rfl rfl (by decide) ?_)
      refine RunL.op (OpS.mv rfl rfl rfl ?_)
      refine RunL.op (OpS.bin rfl rfl rfl rfl rfl ?_)
      refine RunL.op (OpS.bin rfl rfl rfl rfl rfl ?_)
      refine RunL.op (OpS.as rfl rfl rfl ?_)
      obtain ⟨x2, e4, hF⟩ := letP_use hF
      refine RunL.name e4 ?_
      refine RunL.nil ?_
      refine Run.slim [(3, .int .u8 x2), (7, v0), (8, .int .i64 (a0.length : Int)), (9, .int .i64 s1.2), (16, .int .i64 s2.2)] ⟨rfl, rfl, rfl, rfl, rfl, trivial⟩ ?_
      refine Run.endBlock ?_
      refine Run.reg ?_
      refine RunL.op (OpS.bin rfl rfl rfl rfl rfl ?_)
      refine RunL.op (OpS.mv rfl rfl rfl ?_)
      refine RunL.nil ?_
      refine Run.slim [(16, .int .i64 (IntKind.i64.wrap (s2.2 + 1))), (3, .int .u8 x2), (7, v0), (8, .int .i64 (a0.length : Int)), (9, .int .i64 s1.2)] ⟨rfl, rfl, rfl, rfl, rfl, trivial⟩ ?_
      refine Run.slim [(3, .int .u8 x2), (7, v0), (8, .int .i64 (a0.length : Int)), (9, .int .i64 s1.2), (16, .int .i64 (IntKind.i64.wrap (s2.2 + 1)))] ⟨rfl, rfl, rfl, rfl, rfl, trivial⟩ ?_
      exact hk2 (x2, (IntKind.i64.wrap (s2.2 + 1))) _ _ ⟨rfl, (h3.facts (.atm .z .nil)).picks .nil⟩ hF
    ·
      refine Run.exit rfl ?_
      refine Run.endBlock ?_
      refine Run.reg ?_
      refine RunL.op (OpS.bin rfl rfl rfl rfl rfl ?_)
      refine RunL.op (OpS.mv rfl rfl rfl ?_)
      refine RunL.nil ?_
      refine Run.slim [(9, .int .i64 (IntKind.i64.wrap (s1.2 + 1))), (3, .int .u8 s2.1), (7, v0), (8, .int .i64 (a0.length : Int))] ⟨rfl, rfl, rfl, rfl, trivial⟩ ?_
      refine Run.slim [(3, .int .u8 s2.1), (7, v0), (8, .int .i64 (a0.length : Int)), (9, .int .i64 (IntKind.i64.wrap (s1.2 + 1)))] ⟨rfl, rfl, rfl, rfl, trivial⟩ ?_
      exact hk1 (s2.1, (IntKind.i64.wrap (s1.2 + 1))) _ _ ⟨rfl, (h3.facts (.atm .z .nil)).picks .nil⟩ hF
  ·
    refine Run.exit rfl ?_
    refine Run.seq ?_
    refine Run.reg ?_
    refine RunL.op (OpS.mv rfl rfl rfl ?_)
    refine RunL.op (OpS.as rfl rfl rfl ?_)
    refine RunL.nil ?_
    refine Run.slim [(2, .int .u8 s1.1)] ⟨rfl, trivial⟩ ?_
    refine Run.retP rfl (.tmp rfl .nil) ?_
    cases hF
    exact Post.mk' ⟨rfl, rfl, rfl, rfl⟩ (h1.picks .nil) .nil
theorem checksum_CRC32_ok {fuel : Nat} {a0 : List Int} {y : Int} (hF : checksum_CRC32 fuel a0 = some y) {w : World} {v0 : Value} :
    Spec Try.prog 19 [v0].toArray w [(false, .val (Rep.slice (Rep.int .u8)) v0 a0)] [] (fun v Γr Ωr Ωo => v = .int .u32 y ∧ Γr = [] ∧ Ωr = [] ∧ Ωo = []) := by
  refine Spec.of (L := [(0, v0)]) Try.func19 rfl ⟨rfl, trivial⟩ rfl (fun e h => ?_)
  unfold checksum_CRC32 at hF
  refine Run.seq ?_
  refine Run.reg ?_
  refine RunL.op (OpS.as rfl rfl rfl ?_)
  refine RunL.nil ?_
  refine Run.slim [(0, v0)] ⟨rfl, trivial⟩ ?_
  refine Run.seq ?_
  refine Run.reg ?_
  refine RunL.op (OpS.as rfl rfl rfl ?_)
  refine RunL.nil ?_
  refine Run.seq ?_
  refine Run.seq ?_
  refine Run.reg ?_
  refine RunL.op (OpS.mv rfl rfl rfl ?_)
  refine RunL.op (OpS.len h Try.underlying22 rfl rfl rfl (V.at .z) ?_)
  refine RunL.op (OpS.mv rfl rfl rfl ?_)
  refine RunL.nil ?_
  refine Run.slim [(9, .int .i64 0), (8, .int .i64 (a0.length : Int)), (7, v0), (3, .int .u32 4294967295)] ⟨rfl, rfl, rfl, rfl, trivial⟩ ?_
  refine Run.block ?_
  refine Run.slim [(3, .int .u32 4294967295), (7, v0), (8, .int .i64 (a0.length : Int)), (9, .int .i64 0)] ⟨rfl, rfl, rfl, rfl, trivial⟩ ?_
  refine Run.loopP (σ := (Int × Int)) (fun s_ L_ w_ => L_ = [(3, .int .u32 s_.1), (7, v0), (8, .int .i64 (a0.length : Int)), (9, .int .i64 s_.2)] ∧ St e w_ [(false, .val (Rep.slice (Rep.int .u8)) v0 a0)] []) hF ⟨rfl, (h.facts (.atm .z .nil)).picks .nil⟩ (fun k1 hk1 s1 _ w1 hI hF => ?_)
  obtain ⟨rfl, h1⟩ := hI
  refine Run.seq ?_
  refine Run.reg ?_
  refine RunL.op (OpS.bin rfl rfl rfl rfl rfl ?_)
  refine RunL.nil ?_
  refine Run.seq ?_
  refine Run.ite rfl hF (fun e1 hF => ?_) (fun e1 hF => ?_)
  ·
    refine Run.skip ?_
    refine Run.seq ?_
    refine Run.block ?_
    refine Run.seq ?_
    refine Run.reg ?_
    obtain ⟨x1, e2, hF⟩ := bindP_use hF
    refine RunL.op (OpS.iptr h1 Try.underlying22 ty5 rfl rfl rfl rfl (V.at .z) e2 (fun u1 h2 => ?_))
    refine RunL.op (OpS.loadi h2 ty5 rfl rfl rfl .z ?_)
    refine RunL.op (OpS.as rfl rfl rfl ?_)
    refine RunL.nil ?_
    refine Run.slim [(5, .int .u8 x1), (3, .int .u32 s1.1), (7, v0), (8, .int .i64 (a0.length : Int)), (9, .int .i64 s1.2)] ⟨rfl, rfl, rfl, rfl, rfl, trivial⟩ ?_
    refine Run.seq ?_
    refine Run.reg ?_
    refine RunL.op (OpS.mv rfl rfl rfl ?_)
    refine RunL.op (OpS.mv rfl rfl rfl ?_)
    refine RunL.op (OpS.conv Try.underlying5 Try.underlying26 rfl rfl rfl ?_)
    refine RunL.op (OpS.bin rfl rfl rfl rfl rfl ?_)
    refine RunL.op (OpS.as rfl rfl rfl ?_)
    obtain ⟨x2, e3, hF⟩ := letP_use hF
    refine RunL.name e3 ?_
    refine RunL.nil ?_
    refine Run.slim [(3, .int .u32 x2), (7, v0), (8, .int .i64 (a0.length : Int)), (9, .int .i64 s1.2)] ⟨rfl, rfl, rfl, rfl, trivial⟩ ?_
    refine Run.seq ?_
    refine Run.reg ?_
    refine RunL.op (OpS.mv rfl rfl rfl ?_)
    refine RunL.nil ?_
    refine Run.block ?_
    refine Run.slim [(3, .int .u32 x2), (7, v0), (8, .int .i64 (a0.length : Int)), (9, .int .i64 s1.2), (17, .int .i64 0)] ⟨rfl, rfl, rfl, rfl, rfl, trivial⟩ ?_
    refine Run.loopP (σ := (Int × Int)) (fun s_ L_ w_ => L_ = [(3, .int .u32 s_.1), (7, v0), (8, .int .i64 (a0.length : Int)), (9, .int .i64 s1.2), (17, .int .i64 s_.2)] ∧ St e w_ [(false, .val (Rep.slice (Rep.int .u8)) v0 a0)] []) hF ⟨rfl, (h2.facts (.atm (.s .z) .nil)).picks .nil⟩ (fun k2 hk2 s2 _ w2 hI hF => ?_)
    obtain ⟨rfl, h3⟩ := hI
    refine Run.seq ?_
    refine Run.reg ?_
    refine RunL.op (OpS.bin rfl rfl rfl rfl rfl ?_)
    refine RunL.nil ?_
    refine Run.seq ?_
    refine Run.ite rfl hF (fun e4 hF => ?_) (fun e4 hF => ?_)
    ·
      refine Run.skip ?_
      refine Run.seq ?_
      refine Run.block ?_
      refine Run.seq ?_
      refine Run.reg ?_
      refine RunL.op (OpS.mv rfl rfl rfl ?_)
      refine RunL.op (OpS.bin rfl rfl rfl rfl rfl ?_)
      refine RunL.op (OpS.as rfl rfl rfl ?_)
      refine RunL.nil ?_
      refine Run.slim [(6, .int .u32 (bAnd .u32 s2.1 1)), (3, .int .u32 s2.1), (7, v0), (8, .int .i64 (a0.length : Int)), (9, .int .i64 s1.2), (17, .int .i64 s2.2)] ⟨rfl, rfl, rfl, rfl, rfl, rfl, trivial⟩ ?_
      refine Run.reg ?_
      refine RunL.op (OpS.mv rfl rfl rfl ?_)
      refine RunL.op (OpS.shr rfl rfl rfl rfl (by decide) ?_)
      refine RunL.op (OpS.mv rfl rfl rfl ?_)
      refine RunL.op (OpS.bin rfl rfl rfl rfl rfl ?_)
      refine RunL.op (OpS.bin rfl rfl rfl rfl rfl ?_)
      refine RunL.op (OpS.as rfl rfl rfl ?_)
      obtain ⟨x3, e5, hF⟩ := letP_use hF
      refine RunL.name e5 ?_
      refine RunL.nil ?_
      refine Run.slim [(3, .int .u32 x3), (7, v0), (8, .int .i64 (a0.length : Int)), (9, .int .i64 s1.2), (17, .int .i64 s2.2)] ⟨rfl, rfl, rfl, rfl, rfl, trivial⟩ ?_
      refine Run.endBlock ?_
      refine Run.reg ?_
      refine RunL.op (OpS.bin rfl rfl rfl rfl rfl ?_)
      refine RunL.op (OpS.mv rfl rfl rfl ?_)
      refine RunL.nil ?_
      refine Run.slim [(17, .int .i64 (IntKind.i64.wrap (s2.2 + 1))), (3, .int .u32 x3), (7, v0), (8, .int .i64 (a0.length : Int)), (9, .int .i64 s1.2)] ⟨rfl, rfl, rfl, rfl, rfl, trivial⟩ ?_
      refine Run.slim [(3, .int .u32 x3), (7, v0), (8, .int .i64 (a0.length : Int)), (9, .int .i64 s1.2), (17, .int .i64 (IntKind.i64.wrap (s2.2 + 1)))] ⟨rfl, rfl, rfl, rfl, rfl, trivial⟩ ?_
      exact hk2 (x3, (IntKind.i64.wrap (s2.2 + 1))) _ _ ⟨rfl, (h3.facts (.atm .z .nil)).picks .nil⟩ hF
    ·
      refine Run.exit rfl ?_
      refine Run.endBlock ?_
      refine Run.reg ?_
      refine RunL.op (OpS.bin rfl rfl rfl rfl rfl ?_)
      refine RunL.op (OpS.mv rfl rfl rfl ?_)
      refine RunL.nil ?_
      refine Run.slim [(9, .int .i64 (IntKind.i64.wrap (s1.2 + 1))), (3, .int .u32 s2.1), (7, v0), (8, .int .i64 (a0.length : Int))] ⟨rfl, rfl, rfl, rfl, trivial⟩ ?_
      refine Run.slim [(3, .int .u32 s2.1), (7, v0), (8, .int .i64 (a0.length : Int)), (9, .int .i64 (IntKind.i64.wrap (s1.2 + 1)))] ⟨rfl, rfl, rfl, rfl, trivial⟩ ?_
      exact hk1 (s2.1, (IntKind.i64.wrap (s1.2 + 1))) _ _ ⟨rfl, (h3.facts (.atm .z .nil)).picks .nil⟩ hF
  ·
    refine Run.exit rfl ?_
    refine Run.seq ?_
    refine Run.reg ?_
    refine RunL.op (OpS.mv rfl rfl rfl ?_)
    refine RunL.op (OpS.cpl rfl rfl rfl ?_)
    refine RunL.op (OpS.as rfl rfl rfl ?_)
    refine RunL.nil ?_
    refine Run.slim [(2, .int .u32 (bNot .u32 s1.1))] ⟨rfl, trivial⟩ ?_
    refine Run.retP rfl (.tmp rfl .nil) ?_
    cases hF
    exact Post.mk' ⟨rfl, rfl, rfl, rfl⟩ (h1.picks .nil) .nil
theorem checksum_Sum8_ok {fuel : Nat} {a0 : List Int} {y : Int} (hF : checksum_Sum8 fuel a0 = some y) {w : World} {v0 : Value} :
    Spec Try.prog 15 [v0].toArray w [(false, .val (Rep.slice (Rep.int .u8)) v0 a0)] [] (fun v Γr Ωr Ωo => v = .int .u8 y ∧ Γr = [] ∧ Ωr = [] ∧ Ωo = []) := by
  refine Spec.of (L := [(0, v0)]) Try.func15 rfl ⟨rfl, trivial⟩ rfl (fun e h => ?_)
  unfold checksum_Sum8 at hF
  refine Run.seq ?_
  refine Run.reg ?_
  refine RunL.op (OpS.as rfl rfl rfl ?_)
  refine RunL.nil ?_
  refine Run.slim [(0, v0)] ⟨rfl, trivial⟩ ?_
  refine Run.seq ?_
  refine Run.reg ?_
  refine RunL.op (OpS.as rfl rfl rfl ?_)
  refine RunL.nil ?_
  refine Run.seq ?_
  refine Run.seq ?_
  refine Run.reg ?_
  refine RunL.op (OpS.mv rfl rfl rfl ?_)
  refine RunL.op (OpS.len h Try.underlying22 rfl rfl rfl (V.at .z) ?_)
  refine RunL.op (OpS.mv rfl rfl rfl ?_)
  refine RunL.nil ?_
  refine Run.slim [(8, .int .i64 0), (7, .int .i64 (a0.length : Int)), (6, v0), (3, .int .u8 0)] ⟨rfl, rfl, rfl, rfl, trivial⟩ ?_
  refine Run.block ?_
  refine Run.slim [(3, .int .u8 0), (6, v0), (7, .int .i64 (a0.length : Int)), (8, .int .i64 0)] ⟨rfl, rfl, rfl, rfl, trivial⟩ ?_
  refine Run.loopP (σ := (Int × Int)) (fun s_ L_ w_ => L_ = [(3, .int .u8 s_.1), (6, v0), (7, .int .i64 (a0.length : Int)), (8, .int .i64 s_.2)] ∧ St e w_ [(false, .val (Rep.slice (Rep.int .u8)) v0 a0)] []) hF ⟨rfl, (h.facts (.atm .z .nil)).picks .nil⟩ (fun k1 hk1 s1 _ w1 hI hF => ?_)
  obtain ⟨rfl, h1⟩ := hI
  refine Run.seq ?_
  refine Run.reg ?_
  refine RunL.op (OpS.bin rfl rfl rfl rfl rfl ?_)
  refine RunL.nil ?_
  refine Run.seq ?_
  refine Run.ite rfl hF (fun e1 hF => ?_) (fun e1 hF => ?_)
  ·
    refine Run.skip ?_
    refine Run.seq ?_
    refine Run.block ?_
    refine Run.seq ?_
    refine Run.reg ?_
    obtain ⟨x1, e2, hF⟩ := bindP_use hF
    refine RunL.op (OpS.iptr h1 Try.underlying22 ty5 rfl rfl rfl rfl (V.at .z) e2 (fun u1 h2 => ?_))
    refine RunL.op (OpS.loadi h2 ty5 rfl rfl rfl .z ?_)
    refine RunL.op (OpS.as rfl rfl rfl ?_)
    refine RunL.nil ?_
    refine Run.slim [(5, .int .u8 x1), (3, .int .u8 s1.1), (6, v0), (7, .int .i64 (a0.length : Int)), (8, .int .i64 s1.2)] ⟨rfl, rfl, rfl, rfl, rfl, trivial⟩ ?_
    refine Run.reg ?_
    refine RunL.op (OpS.mv rfl rfl rfl ?_)
    refine RunL.op (OpS.mv rfl rfl rfl ?_)
    refine RunL.op (OpS.bin rfl rfl rfl rfl rfl ?_)
    refine RunL.op (OpS.as rfl rfl rfl ?_)
    obtain ⟨x2, e3, hF⟩ := letP_use hF
    refine RunL.name e3 ?_
    refine RunL.nil ?_
    refine Run.slim [(3, .int .u8 x2), (6, v0), (7, .int .i64 (a0.length : Int)), (8, .int .i64 s1.2)] ⟨rfl, rfl, rfl, rfl, trivial⟩ ?_
    refine Run.endBlock ?_
    refine Run.reg ?_
    refine RunL.op (OpS.bin rfl rfl rfl rfl rfl ?_)
    refine RunL.op (OpS.mv rfl rfl rfl ?_)
    refine RunL.nil ?_
    refine Run.slim [(8, .int .i64 (IntKind.i64.wrap (s1.2 + 1))), (3, .int .u8 x2), (6, v0), (7, .int .i64 (a0.length : Int))] ⟨rfl, rfl, rfl, rfl, trivial⟩ ?_
    refine Run.slim [(3, .int .u8 x2), (6, v0), (7, .int .i64 (a0.length : Int)), (8, .int .i64 (IntKind.i64.wrap (s1.2 + 1)))] ⟨rfl, rfl, rfl, rfl, trivial⟩ ?_
    exact hk1 (x2, (IntKind.i64.wrap (s1.2 + 1))) _ _ ⟨rfl, (h2.facts (.atm (.s .z) .nil)).picks .nil⟩ hF
  ·
    refine Run.exit rfl ?_
    refine Run.seq ?_
    refine Run.reg ?_
    refine RunL.op (OpS.mv rfl rfl rfl ?_)
    refine RunL.op (OpS.neg rfl rfl rfl ?_)
    refine RunL.op (OpS.as rfl rfl rfl ?_)
    obtain ⟨x3, e4, hF⟩ := letP_use hF
    refine RunL.name e4 ?_
    refine RunL.nil ?_
    refine Run.slim [(2, .int .u8 x3)] ⟨rfl, trivial⟩ ?_
    refine Run.retP rfl (.tmp rfl .nil) ?_
    cases hF
    exact Post.mk' ⟨rfl, rfl, rfl, rfl⟩ (h1.picks .nil) .nil
theorem slices_Clone_byte_byte_ok {fuel : Nat} {a0 : List Int} {y : (List Int)} (hF : slices_Clone_byte_byte fuel a0 = some y) {w : World} {v0 : Value} :
    Spec Try.prog 41 [v0].toArray w [(false, .val (Rep.slice (Rep.int .u8)) v0 a0)] [] (fun v Γr Ωr Ωo => ∃ u0 : Value, v = u0 ∧ Γr = [] ∧ Ωr = [(true, .slice 5 (Rep.int .u8) u0 y)] ∧ Ωo = []) := by
  refine Spec.of (L := [(0, v0)]) Try.func41 rfl ⟨rfl, trivial⟩ rfl (fun e h => ?_)
  unfold slices_Clone_byte_byte at hF
  refine Run.seq ?_
  refine Run.reg ?_
  refine RunL.op (OpS.as rfl rfl rfl ?_)
  refine RunL.nil ?_
  refine Run.slim [(0, v0)] ⟨rfl, trivial⟩ ?_
  refine Run.seq ?_
  refine Run.seq ?_
  refine Run.reg ?_
  refine RunL.op (OpS.mv rfl rfl rfl ?_)
  refine RunL.op (OpS.snil h Try.underlying22 rfl rfl rfl (V.at .z) (fun b1 hb1 => ?_))
  refine RunL.nil ?_
  refine Run.slim [(4, .bool b1), (0, v0)] ⟨rfl, rfl, trivial⟩ ?_
  cases b1
  ·
    refine Run.condF rfl ?_
    refine Run.skip ?_
    refine Run.seq ?_
    refine Run.reg ?_
    refine RunL.op (OpS.litO (r := (Rep.int .u8)) (f := true) h Try.underlying22 ti5 rfl rfl rfl rfl rfl .nil rfl rfl (fun u1 w1 h1 => ?_))
    refine RunL.op (OpS.mv rfl rfl rfl ?_)
    obtain ⟨x1, e1, hF⟩ := bindP_use hF
    refine RunL.op (OpS.app (f' := false) h1 .z Try.underlying22 ti5 rfl rfl rfl rfl rfl rfl rfl (V.at .z) (.inr Pure.int) e1 (fun u2 w2 h2 => ?_))
    refine RunL.op (OpS.as rfl rfl rfl ?_)
    refine RunL.nil ?_
    refine Run.slim [(2, u2)] ⟨rfl, trivial⟩ ?_
    refine Run.retP rfl (.tmp rfl .nil) ?_
    cases hF
    exact Post.mk' ⟨u2, rfl, rfl, rfl, rfl⟩ (h2.picks (.cons .z .nil)) .nil
  ·
    obtain rfl := hb1 rfl
    have hF : some ([] : List Int) = some y := by simpa [bindP, app] using hF
    refine Run.condT rfl ?_
    refine Run.seq ?_
    refine Run.reg ?_
    refine RunL.op (OpS.as rfl rfl rfl ?_)
    refine RunL.nil ?_
    refine Run.slim [(2, .slice none 0 0)] ⟨rfl, trivial⟩ ?_
    have h3 := St.nil 5 (Rep.int .u8) h
    refine Run.retP rfl (.tmp rfl .nil) ?_
    cases hF
    exact Post.mk' ⟨(.slice none 0 0), rfl, rfl, rfl, rfl⟩ (h3.picks (.cons .z .nil)) .nil
theorem checksum_Seal8_ok {fuel : Nat} {a0 : List Int} {y : (List Int)} (hF : checksum_Seal8 fuel a0 = some y) {w : World} {v0 : Value} :
    Spec Try.prog 35 [v0].toArray w [(false, .val (Rep.slice (Rep.int .u8)) v0 a0)] [] (fun v Γr Ωr Ωo => ∃ u0 : Value, v = u0 ∧ Γr = [] ∧ Ωr = [(true, .slice 5 (Rep.int .u8) u0 y)] ∧ Ωo = []) := by
  refine Spec.of (L := [(0, v0)]) Try.func35 rfl ⟨rfl, trivial⟩ rfl (fun e h => ?_)
  unfold checksum_Seal8 at hF
  refine Run.seq ?_
  refine Run.reg ?_
  refine RunL.op (OpS.as rfl rfl rfl ?_)
  refine RunL.nil ?_
  refine Run.slim [(0, v0)] ⟨rfl, trivial⟩ ?_
  refine Run.seq ?_
  refine Run.reg ?_
  refine RunL.op (OpS.mv rfl rfl rfl ?_)
  obtain ⟨y1, e1, hF⟩ := bindP_use hF
  refine RunL.op (OpS.callP h Try.func41 rfl rfl rfl rfl (vs := [v0]) rfl (slices_Clone_byte_byte_ok e1) (.cons (V.at .z) .nil) ?_)
  rintro u1 w1 _ _ _ ⟨_, rfl, rfl, rfl, rfl⟩ h1
  have h2 := h1 rfl rfl
  simp only [List.cons_append, List.nil_append] at h2
  refine RunL.op (OpS.mv rfl rfl rfl ?_)
  obtain ⟨y2, e2, hF⟩ := bindP_use hF
  refine RunL.op (OpS.callP h2 Try.func15 rfl rfl rfl rfl (vs := [v0]) rfl (checksum_Sum8_ok e2) (.cons (V.at .z) .nil) ?_)
  rintro _ w2 _ _ _ ⟨rfl, rfl, rfl, rfl⟩ h3
  have h4 := h3 rfl rfl
  simp only [List.cons_append, List.nil_append] at h4
  refine RunL.op (OpS.lit (r := (Rep.int .u8)) (f := true) h4 Try.underlying22 ti5 rfl rfl rfl rfl rfl (.cons rfl V.int .nil) rfl rfl (fun u2 w3 h5 => ?_))
  obtain ⟨x1, e3, hF⟩ := bindP_use hF
  refine RunL.op (OpS.app (f' := true) h5 .z Try.underlying22 ti5 rfl rfl rfl rfl rfl rfl rfl (V.at .z) (.inr Pure.int) e3 (fun u3 w4 h6 => ?_))
  refine RunL.op (OpS.as rfl rfl rfl ?_)
  refine RunL.nil ?_
  refine Run.slim [(2, u3)] ⟨rfl, trivial⟩ ?_
  refine Run.retP rfl (.tmp rfl .nil) ?_
  cases hF
  exact Post.mk' ⟨u3, rfl, rfl, rfl, rfl⟩ (h6.picks (.cons .z .nil)) .nil
theorem law01_awake_ok {fuel : Nat}  {y : Bool} (hF : law01_awake fuel  = some y) {w : World} :
    Spec Try.prog 14 [].toArray w [] [] (fun v Γr Ωr Ωo => v = .bool y ∧ Γr = [] ∧ Ωr = [] ∧ Ωo = []) := by
  refine Spec.of (L := []) Try.func14 rfl trivial rfl (fun e h => ?_)
  unfold law01_awake at hF
  refine Run.seq ?_
  refine Run.reg ?_
  refine RunL.op (OpS.as rfl rfl rfl ?_)
  refine RunL.nil ?_
  refine Run.slim [] trivial ?_
  refine Run.seq ?_
  refine Run.reg ?_
  refine RunL.op (OpS.litO (r := (Rep.int .u8)) (f := true) h Try.underlying22 ti5 rfl rfl rfl rfl rfl (.cons rfl V.int (.cons rfl V.int (.cons rfl V.int (.cons rfl V.int (.cons rfl V.int (.cons rfl V.int (.cons rfl V.int (.cons rfl V.int (.cons rfl V.int .nil))))))))) rfl rfl (fun u1 w1 h1 => ?_))
  refine RunL.op (OpS.convS h1 .z (by simp) Try.underlying22 Try.underlying5 rfl rfl rfl (fun w2 h2 => ?_))
  refine RunL.op (OpS.as rfl rfl rfl ?_)
  refine RunL.nil ?_
  refine Run.slim [(1, u1)] ⟨rfl, trivial⟩ ?_
  refine Run.seq ?_
  refine Run.reg ?_
  refine RunL.op (OpS.mv rfl rfl rfl ?_)
  obtain ⟨y1, e1, hF⟩ := bindP_use hF
  refine RunL.op (OpS.callP h2 Try.func17 rfl rfl rfl rfl (vs := [u1]) rfl (checksum_CRC8_ok e1) (.cons (V.at .z) .nil) ?_)
  rintro _ w3 _ _ _ ⟨rfl, rfl, rfl, rfl⟩ h3
  have h4 := h3 rfl rfl
  simp only [List.cons_append, List.nil_append] at h4
  refine RunL.op (OpS.bin rfl rfl rfl rfl rfl ?_)
  refine RunL.op (OpS.mv rfl rfl rfl ?_)
  refine RunL.caseb hF (fun e2 hF => ?_) (fun e2 hF => ?_)
  ·
    refine RunL.op (OpS.mv rfl rfl rfl ?_)
    obtain ⟨y2, e3, hF⟩ := bindP_use hF
    refine RunL.op (OpS.callP h4 Try.func19 rfl rfl rfl rfl (vs := [u1]) rfl (checksum_CRC32_ok e3) (.cons (V.at .z) .nil) ?_)
    rintro _ w4 _ _ _ ⟨rfl, rfl, rfl, rfl⟩ h5
    have h6 := h5 rfl rfl
    simp only [List.cons_append, List.nil_append] at h6
    refine RunL.op (OpS.bin rfl rfl rfl rfl rfl ?_)
    refine RunL.op (OpS.pick rfl rfl rfl rfl ?_)
    refine RunL.op (OpS.mv rfl rfl rfl ?_)
    refine RunL.caseb hF (fun e4 hF => ?_) (fun e4 hF => ?_)
    ·
      refine RunL.op (OpS.lit (r := (Rep.int .u8)) (f := true) h6 Try.underlying22 ti5 rfl rfl rfl rfl rfl (.cons rfl V.int (.cons rfl V.int .nil)) rfl rfl (fun u2 w5 h7 => ?_))
      obtain ⟨y3, e5, hF⟩ := bindP_use hF
      refine RunL.op (OpS.callP h7 Try.func15 rfl rfl rfl rfl (vs := [u2]) rfl (checksum_Sum8_ok e5) (.cons (V.at .z) .nil) ?_)
      rintro _ w6 _ _ _ ⟨rfl, rfl, rfl, rfl⟩ h8
      have h9 := h8 rfl rfl
      simp only [List.cons_append, List.nil_append] at h9
      refine RunL.op (OpS.bin rfl rfl rfl rfl rfl ?_)
      refine RunL.op (OpS.pick rfl rfl rfl rfl ?_)
      refine RunL.op (OpS.mv rfl rfl rfl ?_)
      refine RunL.caseb hF (fun e6 hF => ?_) (fun e6 hF => ?_)
      ·
        refine RunL.op (OpS.mv rfl rfl rfl ?_)
        obtain ⟨y4, e7, hF⟩ := bindP_use hF
        refine RunL.op (OpS.callP h9 Try.func35 rfl rfl rfl rfl (vs := [u1]) rfl (checksum_Seal8_ok e7) (.cons (V.at (.s .z)) .nil) ?_)
        rintro u3 w7 _ _ _ ⟨_, rfl, rfl, rfl, rfl⟩ h10
        have h11 := h10 rfl rfl
        simp only [List.cons_append, List.nil_append] at h11
        refine RunL.op (OpS.lenO h11 .z Try.underlying22 rfl rfl rfl ?_)
        refine RunL.op (OpS.bin rfl rfl rfl rfl rfl ?_)
        refine RunL.op (OpS.pick rfl rfl rfl rfl ?_)
        refine RunL.op (OpS.as rfl rfl rfl ?_)
        obtain ⟨x1, e8, hF⟩ := letP_use hF
        refine RunL.nameb e8 ?_
        refine RunL.nil ?_
        refine Run.slim [(0, .bool x1)] ⟨rfl, trivial⟩ ?_
        refine Run.retP rfl (.tmp rfl .nil) ?_
        cases hF
        exact Post.mk' ⟨rfl, rfl, rfl, rfl⟩ (h11.picks .nil) .nil
      ·
        refine RunL.op (OpS.pass rfl rfl rfl ?_)
        refine RunL.op (OpS.pass rfl rfl rfl ?_)
        refine RunL.op (OpS.pass rfl rfl rfl ?_)
        refine RunL.op (OpS.pass rfl rfl rfl ?_)
        refine RunL.op (OpS.pick rfl rfl rfl rfl ?_)
        refine RunL.op (OpS.as rfl rfl rfl ?_)
        refine RunL.nil ?_
        refine Run.slim [(0, .bool false)] ⟨rfl, trivial⟩ ?_
        refine Run.retP rfl (.tmp rfl .nil) ?_
        cases hF
        exact Post.mk' ⟨rfl, rfl, rfl, rfl⟩ (h9.picks .nil) .nil
    ·
      refine RunL.op (OpS.pass rfl rfl rfl ?_)
      refine RunL.op (OpS.pass rfl rfl rfl ?_)
      refine RunL.op (OpS.pass rfl rfl rfl ?_)
      refine RunL.op (OpS.pick rfl rfl rfl rfl ?_)
      refine RunL.op (OpS.mv rfl rfl rfl ?_)
      refine RunL.op (OpS.pass rfl rfl rfl ?_)
      refine RunL.op (OpS.pass rfl rfl rfl ?_)
      refine RunL.op (OpS.pass rfl rfl rfl ?_)
      refine RunL.op (OpS.pass rfl rfl rfl ?_)
      refine RunL.op (OpS.pick rfl rfl rfl rfl ?_)
      refine RunL.op (OpS.as rfl rfl rfl ?_)
      refine RunL.nil ?_
      refine Run.slim [(0, .bool false)] ⟨rfl, trivial⟩ ?_
      refine Run.retP rfl (.tmp rfl .nil) ?_
      cases hF
      exact Post.mk' ⟨rfl, rfl, rfl, rfl⟩ (h6.picks .nil) .nil
  ·
    refine RunL.op (OpS.pass rfl rfl rfl ?_)
    refine RunL.op (OpS.pass rfl rfl rfl ?_)
    refine RunL.op (OpS.pass rfl rfl rfl ?_)
    refine RunL.op (OpS.pick rfl rfl rfl rfl ?_)
    refine RunL.op (OpS.mv rfl rfl rfl ?_)
    refine RunL.op (OpS.pass rfl rfl rfl ?_)
    refine RunL.op (OpS.pass rfl rfl rfl ?_)
    refine RunL.op (OpS.pass rfl rfl rfl ?_)
    refine RunL.op (OpS.pick rfl rfl rfl rfl ?_)
    refine RunL.op (OpS.mv rfl rfl rfl ?_)
    refine RunL.op (OpS.pass rfl rfl rfl ?_)
    refine RunL.op (OpS.pass rfl rfl rfl ?_)
    refine RunL.op (OpS.pass rfl rfl rfl ?_)
    refine RunL.op (OpS.pass rfl rfl rfl ?_)
    refine RunL.op (OpS.pick rfl rfl rfl rfl ?_)
    refine RunL.op (OpS.as rfl rfl rfl ?_)
    refine RunL.nil ?_
    refine Run.slim [(0, .bool false)] ⟨rfl, trivial⟩ ?_
    refine Run.retP rfl (.tmp rfl .nil) ?_
    cases hF
    exact Post.mk' ⟨rfl, rfl, rfl, rfl⟩ (h4.picks .nil) .nil
theorem made_Roll_ok {fuel : Nat} {a0 : List Int} {y : made_Dice} (hF : made_Roll fuel a0 = some y) {w : World} {v0 : Value} :
    Spec Try.prog 22 [v0].toArray w [(false, .val (Rep.slice (Rep.int .i64)) v0 a0)] [] (fun v Γr Ωr Ωo => ∃ u0 : Value, v = u0 ∧ Γr = [] ∧ Ωr = [(false, .box 49 made_Dice.rep u0 y)] ∧ Ωo = []) := by
  refine Spec.of (L := [(0, v0)]) Try.func22 rfl ⟨rfl, trivial⟩ rfl (fun e h => ?_)
  unfold made_Roll at hF
  refine Run.seq ?_
  refine Run.reg ?_
  refine RunL.op (OpS.as rfl rfl rfl ?_)
  refine RunL.nil ?_
  refine Run.slim [(0, v0)] ⟨rfl, trivial⟩ ?_
  refine Run.seq ?_
  refine Run.reg ?_
  refine RunL.op (OpS.mv rfl rfl rfl ?_)
  refine RunL.op (OpS.build (f := false) (x' := (⟨a0, 0⟩ : made_Dice)) h pl49 ti49 made_Dice.zr rfl rfl rfl (.cons rfl made_Dice.f0 rfl (V.at .z) .nil) (fun u1 h1 => ?_))
  refine RunL.op (OpS.boxF h1 rfl rfl rfl (V.at .z) (fun u2 w1 h2 => ?_))
  refine RunL.op (OpS.as rfl rfl rfl ?_)
  refine RunL.nil ?_
  refine Run.slim [(2, u2)] ⟨rfl, trivial⟩ ?_
  refine Run.retP rfl (.tmp rfl .nil) ?_
  cases hF
  exact Post.mk' ⟨u2, rfl, rfl, rfl, rfl⟩ (h2.picks (.cons .z .nil)) .nil
theorem made_Mod_ok {fuel : Nat} {a0 : Int} {a1 : Int} {y : Int} (hF : made_Mod fuel a0 a1 = some y) {w : World} :
    Spec Try.prog 23 [.int .i64 a0, .int .i64 a1].toArray w [] [] (fun v Γr Ωr Ωo => v = .int .i64 y ∧ Γr = [] ∧ Ωr = [] ∧ Ωo = []) := by
  refine Spec.of (L := [(0, .int .i64 a0), (1, .int .i64 a1)]) Try.func23 rfl ⟨rfl, rfl, trivial⟩ rfl (fun e h => ?_)
  unfold made_Mod at hF
  refine Run.seq ?_
  refine Run.reg ?_
  refine RunL.op (OpS.as rfl rfl rfl ?_)
  refine RunL.nil ?_
  refine Run.slim [(0, .int .i64 a0), (1, .int .i64 a1)] ⟨rfl, rfl, trivial⟩ ?_
  refine Run.seq ?_
  refine Run.reg ?_
  refine RunL.op (OpS.mv rfl rfl rfl ?_)
  refine RunL.op (OpS.mv rfl rfl rfl ?_)
  obtain ⟨e1, hF⟩ := chk_use hF
  refine RunL.op (OpS.rem rfl rfl rfl rfl e1 ?_)
  refine RunL.op (OpS.as rfl rfl rfl ?_)
  refine RunL.nil ?_
  refine Run.slim [(0, .int .i64 (Int.tmod a0 a1)), (1, .int .i64 a1)] ⟨rfl, rfl, trivial⟩ ?_
  refine Run.seq ?_
  refine Run.seq ?_
  refine Run.reg ?_
  refine RunL.op (OpS.mv rfl rfl rfl ?_)
  refine RunL.op (OpS.bin rfl rfl rfl rfl rfl ?_)
  refine RunL.nil ?_
  refine Run.slim [(9, .bool (decide ((Int.tmod a0 a1) < 0))), (0, .int .i64 (Int.tmod a0 a1)), (1, .int .i64 a1)] ⟨rfl, rfl, rfl, trivial⟩ ?_
  refine Run.ite rfl hF (fun e2 hF => ?_) (fun e2 hF => ?_)
  ·
    refine Run.reg ?_
    refine RunL.op (OpS.mv rfl rfl rfl ?_)
    refine RunL.op (OpS.mv rfl rfl rfl ?_)
    refine RunL.op (OpS.bin rfl rfl rfl rfl rfl ?_)
    refine RunL.op (OpS.as rfl rfl rfl ?_)
    obtain ⟨x1, e3, hF⟩ := letP_use hF
    refine RunL.name e3 ?_
    refine RunL.nil ?_
    refine Run.slim [(0, .int .i64 x1)] ⟨rfl, trivial⟩ ?_
    refine Run.seq ?_
    refine Run.reg ?_
    refine RunL.op (OpS.mv rfl rfl rfl ?_)
    refine RunL.op (OpS.as rfl rfl rfl ?_)
    refine RunL.nil ?_
    refine Run.slim [(4, .int .i64 x1)] ⟨rfl, trivial⟩ ?_
    refine Run.retP rfl (.tmp rfl .nil) ?_
    cases hF
    exact Post.mk' ⟨rfl, rfl, rfl, rfl⟩ (h.picks .nil) .nil
  ·
    refine Run.skip ?_
    refine Run.seq ?_
    refine Run.reg ?_
    refine RunL.op (OpS.mv rfl rfl rfl ?_)
    refine RunL.op (OpS.as rfl rfl rfl ?_)
    refine RunL.nil ?_
    refine Run.slim [(4, .int .i64 (Int.tmod a0 a1))] ⟨rfl, trivial⟩ ?_
    refine Run.retP rfl (.tmp rfl .nil) ?_
    cases hF
    exact Post.mk' ⟨rfl, rfl, rfl, rfl⟩ (h.picks .nil) .nil
theorem made_Dice_Next_ok {fuel : Nat} {a0 : made_Dice} {a1 : Int} {y : Int × made_Dice} (hF : made_Dice_Next fuel a0 a1 = some y) {w : World} {v0 : Value} :
    Spec Try.prog 40 [v0, .int .i64 a1].toArray w [] [(false, .box 49 made_Dice.rep v0 a0)] (fun v Γr Ωr Ωo => v = .int .i64 y.1 ∧ Γr = [] ∧ Ωr = [] ∧ Ωo = [(false, .box 49 made_Dice.rep v0 y.2)]) := by
  refine Spec.of (L := [(0, v0), (1, .int .i64 a1)]) Try.func40 rfl ⟨rfl, rfl, trivial⟩ rfl (fun e h => ?_)
  unfold made_Dice_Next at hF
  refine Run.seq ?_
  refine Run.reg ?_
  refine RunL.op (OpS.as rfl rfl rfl ?_)
  refine RunL.nil ?_
  refine Run.slim [(0, v0), (1, .int .i64 a1)] ⟨rfl, rfl, trivial⟩ ?_
  refine Run.seq ?_
  refine Run.seq ?_
  refine Run.drawV (Ωs := [(false, .box 49 made_Dice.rep v0 a0)]) [⟨some 5, some (v0), fun _ => [], fun _ => [], false, none, none⟩, ⟨some 6, some (v0), fun _ => [], fun _ => [], false, none, none⟩, ⟨some 7, some ((padd v0 1)), fun _ => [], fun _ => [], false, none, none⟩, ⟨some 8, some (.int .i64 a0.At), fun _ => [], fun _ => [], false, none, none⟩, ⟨some 9, some (v0), fun _ => [], fun _ => [], false, none, none⟩, ⟨some 10, some (v0), fun _ => [], fun _ => [], false, none, none⟩, ⟨some 11, some ((padd v0 0)), fun _ => [], fun _ => [], false, none, none⟩, ⟨some 12, none, fun u_ => [(false, .val (Rep.slice (Rep.int .i64)) u_ a0.L)], fun u_ => [], false, none, none⟩, ⟨some 13, some (.int .i64 (a0.L.length : Int)), fun _ => [], fun _ => [], false, none, none⟩, ⟨some 14, some (.bool (decide (a0.At ≥ (a0.L.length : Int)))), fun _ => [], fun _ => [], false, none, none⟩] [[], [0], [1], [2], [], [4], [5], [6], [7], [3, 8]] Try_mixed rfl rfl h (.cons ?_ (.cons ?_ (.cons ?_ (.cons ?_ (.cons ?_ (.cons ?_ (.cons ?_ (.cons ?_ (.cons ?_ (.cons ?_ .nil)))))))))) (fun q1 w hq1 h => ?_)
  · intro q1 w Γx Ωx hE h
    refine OpS.mv rfl rfl rfl ?_
    exact ⟨undef, rfl, trivial, h⟩
  · intro q1 w Γx Ωx hE h
    refine OpS.nchk h .z rfl rfl rfl ?_
    exact ⟨undef, rfl, trivial, h⟩
  · intro q1 w Γx Ωx hE h
    refine OpS.fbox (o3 := 1) h .z PA.z fa49_1 rfl rfl rfl rfl ?_
    exact ⟨undef, rfl, trivial, h⟩
  · intro q1 w Γx Ωx hE h
    refine OpS.loadBi h .z PA.a (Get.fld made_Dice.f1) ty3 rfl rfl rfl ?_
    exact ⟨undef, rfl, trivial, h⟩
  · intro q1 w Γx Ωx hE h
    refine OpS.mv rfl rfl rfl ?_
    exact ⟨undef, rfl, trivial, h⟩
  · intro q1 w Γx Ωx hE h
    refine OpS.nchk h .z rfl rfl rfl ?_
    exact ⟨undef, rfl, trivial, h⟩
  · intro q1 w Γx Ωx hE h
    refine OpS.fbox (o3 := 0) h .z PA.z fa49_0 rfl rfl rfl rfl ?_
    exact ⟨undef, rfl, trivial, h⟩
  · intro q1 w Γx Ωx hE h
    refine OpS.loadB h .z PA.a (Get.fld made_Dice.f0) ty28 rfl rfl rfl (fun u h2 => ?_)
    exact ⟨u, rfl, trivial, h2⟩
  · intro q1 w Γx Ωx hE h
    refine OpS.len h Try.underlying28 rfl rfl rfl (V.at .z) ?_
    exact ⟨undef, rfl, trivial, h⟩
  · intro q1 w Γx Ωx hE h
    refine OpS.bin rfl rfl rfl rfl rfl ?_
    exact ⟨undef, rfl, trivial, h⟩
  have h3 : St e w [(false, .val (Rep.slice (Rep.int .i64)) (q1 7) a0.L)] [(false, .box 49 made_Dice.rep v0 a0)] := h
  refine RunL.nil ?_
  refine Run.slim [(14, .bool (decide (a0.At ≥ (a0.L.length : Int)))), (0, v0), (1, .int .i64 a1)] ⟨rfl, rfl, rfl, trivial⟩ ?_
  refine Run.ite rfl hF (fun e1 hF => ?_) (fun e1 hF => ?_)
  ·
    refine Run.seq ?_
    refine Run.reg ?_
    refine RunL.op (OpS.as rfl rfl rfl ?_)
    refine RunL.nil ?_
    refine Run.slim [(4, .int .i64 0)] ⟨rfl, trivial⟩ ?_
    refine Run.retP rfl (.tmp rfl .nil) ?_
    cases hF
    exact Post.mk' ⟨rfl, rfl, rfl, rfl⟩ (h3.picks (.cons .z .nil)) .nil
  ·
    refine Run.skip ?_
    refine Run.seq ?_
    refine Run.reg ?_
    refine RunL.op (OpS.mv rfl rfl rfl ?_)
    refine RunL.op (OpS.nchk h3 .z rfl rfl rfl ?_)
    refine RunL.op (OpS.fbox (o3 := 1) h3 .z PA.z fa49_1 rfl rfl rfl rfl ?_)
    refine RunL.op (OpS.loadBi h3 .z PA.a (Get.fld made_Dice.f1) ty3 rfl rfl rfl ?_)
    refine RunL.op (OpS.bin rfl rfl rfl rfl rfl ?_)
    refine RunL.op (OpS.nchk h3 .z rfl rfl rfl ?_)
    refine RunL.op (OpS.fbox (o3 := 1) h3 .z PA.z fa49_1 rfl rfl rfl rfl ?_)
    obtain ⟨d1, e2, hF⟩ := letP_use hF
    refine RunL.op (OpS.storeB (f' := true) h3 .z PA.a (Put.of (Put.fld made_Dice.f1) e2) ty3 rfl rfl rfl V.int (.inr rfl) (fun w1 h4 => ?_))
    refine RunL.nil ?_
    refine Run.slim [(0, v0), (1, .int .i64 a1)] ⟨rfl, rfl, trivial⟩ ?_
    refine Run.seq ?_
    obtain ⟨x1, e3, hF⟩ := bindP_use hF
    obtain ⟨y1, e4, hF⟩ := bindP_use hF
    refine Run.drawV (Ωs := [(false, .box 49 made_Dice.rep v0 d1)]) [⟨some 22, some (v0), fun _ => [], fun _ => [], false, none, none⟩, ⟨some 23, some (v0), fun _ => [], fun _ => [], false, none, none⟩, ⟨some 24, some ((padd v0 0)), fun _ => [], fun _ => [], false, none, none⟩, ⟨some 25, none, fun u_ => [(false, .val (Rep.slice (Rep.int .i64)) u_ d1.L)], fun u_ => [], false, none, none⟩, ⟨some 26, some (v0), fun _ => [], fun _ => [], false, none, none⟩, ⟨some 27, some (v0), fun _ => [], fun _ => [], false, none, none⟩, ⟨some 28, some ((padd v0 1)), fun _ => [], fun _ => [], false, none, none⟩, ⟨some 29, some (.int .i64 d1.At), fun _ => [], fun _ => [], false, none, none⟩, ⟨some 30, some (.int .i64 (IntKind.i64.wrap (d1.At - 1))), fun _ => [], fun _ => [], false, none, none⟩, ⟨some 31, none, fun u_ => [(false, .ptr (Rep.int .i64) u_ x1)], fun u_ => [], false, none, none⟩, ⟨some 32, some (.int .i64 x1), fun _ => [], fun _ => [], false, none, none⟩, ⟨some 33, some (.int .i64 a1), fun _ => [], fun _ => [], false, none, none⟩, ⟨some 34, some (.int .i64 y1), fun _ => [], fun _ => [], false, none, none⟩] [[], [0], [1], [2], [], [4], [5], [6], [7], [3, 8], [9], [], [10, 11]] Try_mixed rfl rfl h4 (.cons ?_ (.cons ?_ (.cons ?_ (.cons ?_ (.cons ?_ (.cons ?_ (.cons ?_ (.cons ?_ (.cons ?_ (.cons ?_ (.cons ?_ (.cons ?_ (.cons ?_ .nil))))))))))))) (fun q2 w hq2 h => ?_)
    · intro q2 w Γx Ωx hE h
      refine OpS.mv rfl rfl rfl ?_
      exact ⟨undef, rfl, trivial, h⟩
    · intro q2 w Γx Ωx hE h
      refine OpS.nchk h .z rfl rfl rfl ?_
      exact ⟨undef, rfl, trivial, h⟩
    · intro q2 w Γx Ωx hE h
      refine OpS.fbox (o3 := 0) h .z PA.z fa49_0 rfl rfl rfl rfl ?_
      exact ⟨undef, rfl, trivial, h⟩
    · intro q2 w Γx Ωx hE h
      refine OpS.loadB h .z PA.a (Get.fld made_Dice.f0) ty28 rfl rfl rfl (fun u h9 => ?_)
      exact ⟨u, rfl, trivial, h9⟩
    · intro q2 w Γx Ωx hE h
      refine OpS.mv rfl rfl rfl ?_
      exact ⟨undef, rfl, trivial, h⟩
    · intro q2 w Γx Ωx hE h
      refine OpS.nchk h .z rfl rfl rfl ?_
      exact ⟨undef, rfl, trivial, h⟩
    · intro q2 w Γx Ωx hE h
      refine OpS.fbox (o3 := 1) h .z PA.z fa49_1 rfl rfl rfl rfl ?_
      exact ⟨undef, rfl, trivial, h⟩
    · intro q2 w Γx Ωx hE h
      refine OpS.loadBi h .z PA.a (Get.fld made_Dice.f1) ty3 rfl rfl rfl ?_
      exact ⟨undef, rfl, trivial, h⟩
    · intro q2 w Γx Ωx hE h
      refine OpS.bin rfl rfl rfl rfl rfl ?_
      exact ⟨undef, rfl, trivial, h⟩
    · intro q2 w Γx Ωx hE h
      refine OpS.iptr h Try.underlying28 ty3 rfl rfl rfl rfl (V.at .z) e3 (fun u h10 => ?_)
      exact ⟨u, rfl, trivial, h10⟩
    · intro q2 w Γx Ωx hE h
      refine OpS.loadi h ty3 rfl rfl rfl .z ?_
      exact ⟨undef, rfl, trivial, h⟩
    · intro q2 w Γx Ωx hE h
      refine OpS.mv rfl rfl rfl ?_
      exact ⟨undef, rfl, trivial, h⟩
    · intro q2 w Γx Ωx hE h
      refine OpS.callP h Try.func23 rfl rfl rfl rfl (vs := [.int .i64 x1, .int .i64 a1]) rfl (made_Mod_ok e4) .nil ?_
      rintro _ w3 _ _ _ ⟨rfl, rfl, rfl, rfl⟩ h11
      have h12 := h11 rfl rfl
      simp only [List.cons_append, List.nil_append] at h12
      exact ⟨undef, rfl, trivial, h12⟩
    have h13 : St e w [(false, .val (Rep.slice (Rep.int .i64)) (q2 3) d1.L), (false, .ptr (Rep.int .i64) (q2 9) x1), (false, .val (Rep.slice (Rep.int .i64)) (q1 7) a0.L)] [(false, .box 49 made_Dice.rep v0 d1)] := h
    refine RunL.op (OpS.as rfl rfl rfl ?_)
    refine RunL.nil ?_
    refine Run.slim [(4, .int .i64 y1)] ⟨rfl, trivial⟩ ?_
    refine Run.retP rfl (.tmp rfl .nil) ?_
    cases hF
    exact Post.mk' ⟨rfl, rfl, rfl, rfl⟩ (h13.picks (.cons .z .nil)) .nil
theorem made_Dice_Bool_ok {fuel : Nat} {a0 : made_Dice} {a1 : Int} {y : Bool × made_Dice} (hF : made_Dice_Bool fuel a0 a1 = some y) {w : World} {v0 : Value} :
    Spec Try.prog 39 [v0, .int .i64 a1].toArray w [] [(false, .box 49 made_Dice.rep v0 a0)] (fun v Γr Ωr Ωo => v = .bool y.1 ∧ Γr = [] ∧ Ωr = [] ∧ Ωo = [(false, .box 49 made_Dice.rep v0 y.2)]) := by
  refine Spec.of (L := [(0, v0), (1, .int .i64 a1)]) Try.func39 rfl ⟨rfl, rfl, trivial⟩ rfl (fun e h => ?_)
  unfold made_Dice_Bool at hF
  refine Run.seq ?_
  refine Run.reg ?_
  refine RunL.op (OpS.as rfl rfl rfl ?_)
  refine RunL.nil ?_
  refine Run.slim [(0, v0), (1, .int .i64 a1)] ⟨rfl, rfl, trivial⟩ ?_
  refine Run.seq ?_
  refine Run.reg ?_
  refine RunL.op (OpS.mv rfl rfl rfl ?_)
  refine RunL.op (OpS.mv rfl rfl rfl ?_)
  obtain ⟨y1, e1, hF⟩ := bindP_use hF
  have h1 := h.front (.cons .z .nil)
  refine RunL.op (OpS.callO h1 Try.func40 rfl rfl rfl rfl (vs := [v0, .int .i64 a1]) rfl (made_Dice_Next_ok e1) rfl .nil ?_)
  rintro _ w1 _ _ _ ⟨rfl, rfl, rfl, rfl⟩ h2
  have h3 := h2
  simp only [List.cons_append, List.nil_append] at h3
  refine RunL.op (OpS.mv rfl rfl rfl ?_)
  refine RunL.op (OpS.bin rfl rfl rfl rfl rfl ?_)
  refine RunL.op (OpS.bin rfl rfl rfl rfl rfl ?_)
  refine RunL.op (OpS.as rfl rfl rfl ?_)
  obtain ⟨x1, e2, hF⟩ := letP_use hF
  refine RunL.nameb e2 ?_
  refine RunL.nil ?_
  refine Run.slim [(4, .bool x1)] ⟨rfl, trivial⟩ ?_
  refine Run.retP rfl (.tmp rfl .nil) ?_
  cases hF
  exact Post.mk' ⟨rfl, rfl, rfl, rfl⟩ (h3.picks (.cons .z .nil)) .nil
theorem made_Dice_Byte_ok {fuel : Nat} {a0 : made_Dice} {y : Int × made_Dice} (hF : made_Dice_Byte fuel a0 = some y) {w : World} {v0 : Value} :
    Spec Try.prog 24 [v0].toArray w [] [(false, .box 49 made_Dice.rep v0 a0)] (fun v Γr Ωr Ωo => v = .int .u8 y.1 ∧ Γr = [] ∧ Ωr = [] ∧ Ωo = [(false, .box 49 made_Dice.rep v0 y.2)]) := by
  refine Spec.of (L := [(0, v0)]) Try.func24 rfl ⟨rfl, trivial⟩ rfl (fun e h => ?_)
  unfold made_Dice_Byte at hF
  refine Run.seq ?_
  refine Run.reg ?_
  refine RunL.op (OpS.as rfl rfl rfl ?_)
  refine RunL.nil ?_
  refine Run.slim [(0, v0)] ⟨rfl, trivial⟩ ?_
  refine Run.seq ?_
  refine Run.reg ?_
  refine RunL.op (OpS.buildA (f := true) (r := (Rep.int .u8)) h Try.underlying50 ti5 rfl ti50 rfl rfl rfl (.cons rfl V.int (.cons rfl V.int (.cons rfl V.int (.cons rfl V.int (.cons rfl V.int (.cons rfl V.int (.cons rfl V.int (.cons rfl V.int .nil)))))))) rfl (fun u1 h1 => ?_))
  refine RunL.op (OpS.alloc h1 ti50 (Zr.of (Zr.arr (Zr.int .u8 0) 8) rfl) rfl rfl (fun u2 w1 h2 => ?_))
  obtain ⟨d1, e1, hF⟩ := letP_use hF
  refine RunL.op (OpS.storeB (f' := true) h2 .z PA.z (Put.of Put.id e1) ty50 rfl rfl rfl (V.at .z) (.inl rfl) (fun w2 h3 => ?_))
  refine RunL.nil ?_
  refine Run.slim [(3, u2), (0, v0)] ⟨rfl, rfl, trivial⟩ ?_
  refine Run.seq ?_
  refine Run.seq ?_
  refine Run.reg ?_
  refine RunL.op (OpS.mv rfl rfl rfl ?_)
  obtain ⟨y1, e2, hF⟩ := bindP_use hF
  have h4 := h3.front (.cons (.s .z) .nil)
  refine RunL.op (OpS.callO h4 Try.func39 rfl rfl rfl rfl (vs := [v0, .int .i64 3]) rfl (made_Dice_Bool_ok e2) rfl .nil ?_)
  rintro _ w3 _ _ _ ⟨rfl, rfl, rfl, rfl⟩ h5
  have h6 := h5
  simp only [List.cons_append, List.nil_append] at h6
  refine RunL.nil ?_
  refine Run.slim [(6, .bool y1.1), (3, u2), (0, v0)] ⟨rfl, rfl, rfl, trivial⟩ ?_
  refine Run.ite rfl hF (fun e3 hF => ?_) (fun e3 hF => ?_)
  ·
    refine Run.seq ?_
    refine Run.reg ?_
    refine RunL.op (OpS.mv rfl rfl rfl ?_)
    obtain ⟨y2, e4, hF⟩ := bindP_use hF
    have h7 := h6.front (.cons .z .nil)
    refine RunL.op (OpS.callO h7 Try.func40 rfl rfl rfl rfl (vs := [v0, .int .i64 8]) rfl (made_Dice_Next_ok e4) rfl .nil ?_)
    rintro _ w4 _ _ _ ⟨rfl, rfl, rfl, rfl⟩ h8
    have h9 := h8
    simp only [List.cons_append, List.nil_append] at h9
    obtain ⟨x1, e5, hF⟩ := bindP_use hF
    obtain ⟨e6, hF⟩ := chk_use hF
    refine RunL.op (OpS.ibox h9 (.s .z) PA.z Try.underlying50 ty5 (Nat.eq_of_beq_eq_true e6) rfl rfl rfl rfl e5 ?_)
    refine RunL.op (OpS.loadBi h9 (.s .z) PA.a (Get.comp Get.id (Get.arr e5)) ty5 rfl rfl rfl ?_)
    refine RunL.op (OpS.as rfl rfl rfl ?_)
    refine RunL.nil ?_
    refine Run.slim [(2, .int .u8 x1)] ⟨rfl, trivial⟩ ?_
    refine Run.retP rfl (.tmp rfl .nil) ?_
    cases hF
    exact Post.mk' ⟨rfl, rfl, rfl, rfl⟩ (h9.picks (.cons .z .nil)) .nil
  ·
    refine Run.skip ?_
    refine Run.seq ?_
    refine Run.reg ?_
    refine RunL.op (OpS.mv rfl rfl rfl ?_)
    obtain ⟨y3, e7, hF⟩ := bindP_use hF
    have h10 := h6.front (.cons .z .nil)
    refine RunL.op (OpS.callO h10 Try.func40 rfl rfl rfl rfl (vs := [v0, .int .i64 256]) rfl (made_Dice_Next_ok e7) rfl .nil ?_)
    rintro _ w5 _ _ _ ⟨rfl, rfl, rfl, rfl⟩ h11
    have h12 := h11
    simp only [List.cons_append, List.nil_append] at h12
    refine RunL.op (OpS.conv Try.underlying3 Try.underlying5 rfl rfl rfl ?_)
    refine RunL.op (OpS.as rfl rfl rfl ?_)
    refine RunL.nil ?_
    refine Run.slim [(2, .int .u8 (IntKind.u8.wrap y3.1))] ⟨rfl, trivial⟩ ?_
    refine Run.retP rfl (.tmp rfl .nil) ?_
    cases hF
    exact Post.mk' ⟨rfl, rfl, rfl, rfl⟩ (h12.picks (.cons .z .nil)) .nil
theorem law01_ChecksumLinear_ok {fuel : Nat} {a0 : List Int} {a1 : Int} {y : Bool} (hF : law01_ChecksumLinear fuel a0 a1 = some y) {w : World} {v0 : Value} :
    Spec Try.prog 4 [v0, .int .i64 a1].toArray w [(false, .val (Rep.slice (Rep.int .i64)) v0 a0)] [] (fun v Γr Ωr Ωo => v = .bool y ∧ Γr = [] ∧ Ωr = [] ∧ Ωo = []) := by
  refine Spec.of (L := [(0, v0), (1, .int .i64 a1)]) Try.func4 rfl ⟨rfl, rfl, trivial⟩ rfl (fun e h => ?_)
  unfold law01_ChecksumLinear at hF
  refine Run.seq ?_
  refine Run.reg ?_
  refine RunL.op (OpS.as rfl rfl rfl ?_)
  refine RunL.nil ?_
  refine Run.slim [(0, v0), (1, .int .i64 a1)] ⟨rfl, rfl, trivial⟩ ?_
  refine Run.seq ?_
  refine Run.seq ?_
  refine Run.reg ?_
  refine RunL.op (OpS.mv rfl rfl rfl ?_)
  obtain ⟨y1, e1, hF⟩ := bindP_use hF
  refine RunL.op (OpS.callP h Try.func21 rfl rfl rfl rfl (vs := [v0]) rfl (made_Light_ok e1) (.cons (V.at .z) .nil) ?_)
  rintro _ w1 _ _ _ ⟨rfl, rfl, rfl, rfl⟩ h1
  have h2 := h1 rfl rfl
  simp only [List.cons_append, List.nil_append] at h2
  refine RunL.op (OpS.not rfl rfl rfl ?_)
  refine RunL.nil ?_
  refine Run.slim [(15, .bool (!y1)), (0, v0), (1, .int .i64 a1)] ⟨rfl, rfl, rfl, trivial⟩ ?_
  refine Run.ite rfl hF (fun e2 hF => ?_) (fun e2 hF => ?_)
  ·
    refine Run.seq ?_
    refine Run.reg ?_
    obtain ⟨y2, e3, hF⟩ := bindP_use hF
    refine RunL.op (OpS.callP h2 Try.func14 rfl rfl rfl rfl (vs := []) rfl (law01_awake_ok e3) .nil ?_)
    rintro _ w2 _ _ _ ⟨rfl, rfl, rfl, rfl⟩ h3
    have h4 := h3 rfl rfl
    simp only [List.cons_append, List.nil_append] at h4
    refine RunL.op (OpS.as rfl rfl rfl ?_)
    refine RunL.nil ?_
    refine Run.slim [(4, .bool y2)] ⟨rfl, trivial⟩ ?_
    refine Run.retP rfl (.tmp rfl .nil) ?_
    cases hF
    exact Post.mk' ⟨rfl, rfl, rfl, rfl⟩ (h4.picks .nil) .nil
  ·
    refine Run.skip ?_
    refine Run.seq ?_
    refine Run.reg ?_
    refine RunL.op (OpS.mv rfl rfl rfl ?_)
    obtain ⟨y3, e4, hF⟩ := bindP_use hF
    have h5 := h2.front .nil
    refine RunL.op (OpS.callO h5 Try.func22 rfl rfl rfl rfl (vs := [v0]) rfl (made_Roll_ok e4) rfl (.cons (V.at .z) .nil) ?_)
    rintro u1 w3 _ _ _ ⟨_, rfl, rfl, rfl, rfl⟩ h6
    have h7 := h6
    simp only [List.cons_append, List.nil_append] at h7
    refine RunL.op (OpS.as rfl rfl rfl ?_)
    refine RunL.nil ?_
    refine Run.slim [(5, u1), (1, .int .i64 a1)] ⟨rfl, rfl, trivial⟩ ?_
    refine Run.seq ?_
    refine Run.reg ?_
    refine RunL.op (OpS.mv rfl rfl rfl ?_)
    obtain ⟨y4, e5, hF⟩ := bindP_use hF
    refine RunL.op (OpS.callP h7 Try.func23 rfl rfl rfl rfl (vs := [.int .i64 a1, .int .i64 100]) rfl (made_Mod_ok e5) .nil ?_)
    rintro _ w4 _ _ _ ⟨rfl, rfl, rfl, rfl⟩ h8
    have h9 := h8 rfl rfl
    simp only [List.cons_append, List.nil_append] at h9
    refine RunL.op (OpS.as rfl rfl rfl ?_)
    refine RunL.nil ?_
    refine Run.slim [(6, .int .i64 y4), (5, u1)] ⟨rfl, rfl, trivial⟩ ?_
    refine Run.seq ?_
    obtain ⟨x1, e6, hF⟩ := bindP_use hF
    obtain ⟨x2, e7, hF⟩ := bindP_use hF
    obtain ⟨x3, e8, hF⟩ := bindP_use hF
    refine Run.drawV (Ωs := [(false, .box 49 made_Dice.rep u1 y3)]) [⟨some 21, some (.int .i64 y4), fun _ => [], fun _ => [], false, none, none⟩, ⟨some 22, none, fun u_ => [], fun u_ => [(true, .slice 5 (Rep.int .u8) u_ x1)], false, none, none⟩, ⟨some 23, some (.int .i64 y4), fun _ => [], fun _ => [], false, none, none⟩, ⟨some 24, none, fun u_ => [], fun u_ => [(true, .slice 5 (Rep.int .u8) u_ x2)], false, none, none⟩, ⟨some 25, some (.int .i64 y4), fun _ => [], fun _ => [], false, none, none⟩, ⟨some 26, none, fun u_ => [], fun u_ => [(true, .slice 5 (Rep.int .u8) u_ x3)], false, none, none⟩, ⟨some 7, none, fun _ => [], fun _ => [], false, none, some 1⟩, ⟨some 8, none, fun _ => [], fun _ => [], false, none, some 3⟩] [[], [0], [], [2], [], [4], [1], [3]] Try_mixed rfl rfl h9 (.cons ?_ (.cons ?_ (.cons ?_ (.cons ?_ (.cons ?_ (.cons ?_ (.cons ?_ (.cons ?_ .nil)))))))) (fun q1 w hq1 h => ?_)
    · intro q1 w Γx Ωx hE h
      refine OpS.mv rfl rfl rfl ?_
      exact ⟨undef, rfl, trivial, h⟩
    · intro q1 w Γx Ωx hE h
      refine OpS.make h Try.underlying22 ti5 rfl rfl (Zr.int .u8 0) rfl rfl rfl rfl e6 (by simp) (mk_fits e6) rfl (fun u w8 h13 => ?_)
      exact ⟨u, rfl, trivial, h13⟩
    · intro q1 w Γx Ωx hE h
      refine OpS.mv rfl rfl rfl ?_
      exact ⟨undef, rfl, trivial, h⟩
    · intro q1 w Γx Ωx hE h
      refine OpS.make h Try.underlying22 ti5 rfl rfl (Zr.int .u8 0) rfl rfl rfl rfl e7 (by simp) (mk_fits e7) rfl (fun u w9 h14 => ?_)
      exact ⟨u, rfl, trivial, h14⟩
    · intro q1 w Γx Ωx hE h
      refine OpS.mv rfl rfl rfl ?_
      exact ⟨undef, rfl, trivial, h⟩
    · intro q1 w Γx Ωx hE h
      refine OpS.make h Try.underlying22 ti5 rfl rfl (Zr.int .u8 0) rfl rfl rfl rfl e8 (by simp) (mk_fits e8) rfl (fun u w10 h15 => ?_)
      exact ⟨u, rfl, trivial, h15⟩
    · intro q1 w Γx Ωx hE h
      refine OpS.as rfl rfl rfl ?_
      exact ⟨_, rfl, rfl, h⟩
    · intro q1 w Γx Ωx hE h
      refine OpS.as rfl rfl rfl ?_
      exact ⟨_, rfl, rfl, h⟩
    have h16 : St e w [(false, .val (Rep.slice (Rep.int .i64)) v0 a0)] [(true, .slice 5 (Rep.int .u8) (q1 1) x1), (true, .slice 5 (Rep.int .u8) (q1 3) x2), (true, .slice 5 (Rep.int .u8) (q1 5) x3), (false, .box 49 made_Dice.rep u1 y3)] := h
    refine RunL.slim [(21, .int .i64 y4), (22, (q1 1)), (23, .int .i64 y4), (24, (q1 3)), (25, .int .i64 y4), (26, (q1 5)), (7, (q1 1)), (8, (q1 3)), (6, .int .i64 y4), (5, u1)] ⟨rfl, rfl, rfl, rfl, rfl, rfl, (congrArg some (hq1 6 _ 1 rfl rfl)), (congrArg some (hq1 7 _ 3 rfl rfl)), rfl, rfl, trivial⟩ ?_
    refine RunL.op (OpS.as rfl rfl rfl ?_)
    refine RunL.nil ?_
    refine Run.slim [(9, (q1 5)), (7, (q1 1)), (8, (q1 3)), (6, .int .i64 y4), (5, u1)] ⟨rfl, rfl, rfl, rfl, rfl, trivial⟩ ?_
    refine Run.seq ?_
    obtain ⟨x4, e9, hF⟩ := bindP_use hF
    obtain ⟨x5, e10, hF⟩ := bindP_use hF
    refine Run.drawV (Ωs := [(true, .slice 5 (Rep.int .u8) (q1 1) x1), (true, .slice 5 (Rep.int .u8) (q1 3) x2), (true, .slice 5 (Rep.int .u8) (q1 5) x3), (false, .box 49 made_Dice.rep u1 y3)]) [⟨some 27, some (.int .i64 y4), fun _ => [], fun _ => [], false, none, none⟩, ⟨some 28, none, fun u_ => [], fun u_ => [(true, .slice 5 (Rep.int .u8) u_ x4)], false, none, none⟩, ⟨some 29, some (.int .i64 y4), fun _ => [], fun _ => [], false, none, none⟩, ⟨some 30, none, fun u_ => [], fun u_ => [(true, .slice 5 (Rep.int .u8) u_ x5)], false, none, none⟩, ⟨some 10, none, fun _ => [], fun _ => [], false, none, some 1⟩] [[], [0], [], [2], [1]] Try_mixed rfl rfl h16 (.cons ?_ (.cons ?_ (.cons ?_ (.cons ?_ (.cons ?_ .nil))))) (fun q2 w hq2 h => ?_)
    · intro q2 w Γx Ωx hE h
      refine OpS.mv rfl rfl rfl ?_
      exact ⟨undef, rfl, trivial, h⟩
    · intro q2 w Γx Ωx hE h
      refine OpS.make h Try.underlying22 ti5 rfl rfl (Zr.int .u8 0) rfl rfl rfl rfl e9 (by simp) (mk_fits e9) rfl (fun u w13 h19 => ?_)
      exact ⟨u, rfl, trivial, h19⟩
    · intro q2 w Γx Ωx hE h
      refine OpS.mv rfl rfl rfl ?_
      exact ⟨undef, rfl, trivial, h⟩
    · intro q2 w Γx Ωx hE h
      refine OpS.make h Try.underlying22 ti5 rfl rfl (Zr.int .u8 0) rfl rfl rfl rfl e10 (by simp) (mk_fits e10) rfl (fun u w14 h20 => ?_)
      exact ⟨u, rfl, trivial, h20⟩
    · intro q2 w Γx Ωx hE h
      refine OpS.as rfl rfl rfl ?_
      exact ⟨_, rfl, rfl, h⟩
    have h21 : St e w [(false, .val (Rep.slice (Rep.int .i64)) v0 a0)] [(true, .slice 5 (Rep.int .u8) (q2 1) x4), (true, .slice 5 (Rep.int .u8) (q2 3) x5), (true, .slice 5 (Rep.int .u8) (q1 1) x1), (true, .slice 5 (Rep.int .u8) (q1 3) x2), (true, .slice 5 (Rep.int .u8) (q1 5) x3), (false, .box 49 made_Dice.rep u1 y3)] := h
    refine RunL.slim [(27, .int .i64 y4), (28, (q2 1)), (29, .int .i64 y4), (30, (q2 3)), (10, (q2 1)), (9, (q1 5)), (7, (q1 1)), (8, (q1 3)), (6, .int .i64 y4), (5, u1)] ⟨rfl, rfl, rfl, rfl, (congrArg some (hq2 4 _ 1 rfl rfl)), rfl, rfl, rfl, rfl, rfl, trivial⟩ ?_
    refine RunL.op (OpS.as rfl rfl rfl ?_)
    refine RunL.nil ?_
    refine Run.slim [(11, (q2 3)), (10, (q2 1)), (9, (q1 5)), (7, (q1 1)), (8, (q1 3)), (6, .int .i64 y4), (5, u1)] ⟨rfl, rfl, rfl, rfl, rfl, rfl, rfl, trivial⟩ ?_
    refine Run.seq ?_
    refine Run.seq ?_
    refine Run.reg ?_
    refine RunL.op (OpS.as rfl rfl rfl ?_)
    refine RunL.nil ?_
    refine Run.block ?_
    refine Run.slim [(5, u1), (6, .int .i64 y4), (7, (q1 1)), (8, (q1 3)), (9, (q1 5)), (10, (q2 1)), (11, (q2 3)), (12, .int .i64 0)] ⟨rfl, rfl, rfl, rfl, rfl, rfl, rfl, rfl, trivial⟩ ?_
    refine Run.loopP (σ := (Int × made_Dice × (List Int) × (List Int) × (List Int) × (List Int) × (List Int))) (fun s_ L_ w_ => L_ = [(5, u1), (6, .int .i64 y4), (7, (q1 1)), (8, (q1 3)), (9, (q1 5)), (10, (q2 1)), (11, (q2 3)), (12, .int .i64 s_.1)] ∧ St e w_ [] [(false, .box 49 made_Dice.rep u1 s_.2.1), (true, .slice 5 (Rep.int .u8) (q1 1) s_.2.2.1), (true, .slice 5 (Rep.int .u8) (q1 3) s_.2.2.2.1), (true, .slice 5 (Rep.int .u8) (q1 5) s_.2.2.2.2.1), (true, .slice 5 (Rep.int .u8) (q2 1) s_.2.2.2.2.2.1), (true, .slice 5 (Rep.int .u8) (q2 3) s_.2.2.2.2.2.2)]) hF ⟨rfl, (h21.facts .nil).picks (.cons (.s (.s (.s (.s (.s .z))))) (.cons (.s (.s .z)) (.cons (.s (.s .z)) (.cons (.s (.s .z)) (.cons .z (.cons .z .nil))))))⟩ (fun k1 hk1 s1 _ w15 hI hF => ?_)
    obtain ⟨rfl, h22⟩ := hI
    refine Run.seq ?_
    refine Run.seq ?_
    refine Run.reg ?_
    refine RunL.op (OpS.mv rfl rfl rfl ?_)
    refine RunL.op (OpS.mv rfl rfl rfl ?_)
    refine RunL.op (OpS.bin rfl rfl rfl rfl rfl ?_)
    refine RunL.nil ?_
    refine Run.slim [(33, .bool (decide (s1.1 < y4))), (5, u1), (6, .int .i64 y4), (7, (q1 1)), (8, (q1 3)), (9, (q1 5)), (10, (q2 1)), (11, (q2 3)), (12, .int .i64 s1.1)] ⟨rfl, rfl, rfl, rfl, rfl, rfl, rfl, rfl, rfl, trivial⟩ ?_
    refine Run.ite rfl hF (fun e11 hF => ?_) (fun e11 hF => ?_)
    ·
      refine Run.skip ?_
      refine Run.seq ?_
      refine Run.block ?_
      refine Run.seq ?_
      refine Run.reg ?_
      refine RunL.op (OpS.mv rfl rfl rfl ?_)
      refine RunL.op (OpS.mv rfl rfl rfl ?_)
      refine RunL.op (OpS.mv rfl rfl rfl ?_)
      refine RunL.op (OpS.mv rfl rfl rfl ?_)
      refine RunL.op (OpS.mv rfl rfl rfl ?_)
      refine RunL.op (OpS.mv rfl rfl rfl ?_)
      refine RunL.op (OpS.mv rfl rfl rfl ?_)
      obtain ⟨y5, e12, hF⟩ := bindP_use hF
      have h23 := h22.front (.cons .z .nil)
      refine RunL.op (OpS.callO h23 Try.func24 rfl rfl rfl rfl (vs := [u1]) rfl (made_Dice_Byte_ok e12) rfl .nil ?_)
      rintro _ w16 _ _ _ ⟨rfl, rfl, rfl, rfl⟩ h24
      have h25 := h24
      simp only [List.cons_append, List.nil_append] at h25
      refine RunL.op (OpS.mv rfl rfl rfl ?_)
      obtain ⟨y6, e13, hF⟩ := bindP_use hF
      have h26 := h25.front (.cons .z .nil)
      refine RunL.op (OpS.callO h26 Try.func24 rfl rfl rfl rfl (vs := [u1]) rfl (made_Dice_Byte_ok e13) rfl .nil ?_)
      rintro _ w17 _ _ _ ⟨rfl, rfl, rfl, rfl⟩ h27
      have h28 := h27
      simp only [List.cons_append, List.nil_append] at h28
      refine RunL.op (OpS.mv rfl rfl rfl ?_)
      obtain ⟨y7, e14, hF⟩ := bindP_use hF
      have h29 := h28.front (.cons .z .nil)
      refine RunL.op (OpS.callO h29 Try.func24 rfl rfl rfl rfl (vs := [u1]) rfl (made_Dice_Byte_ok e14) rfl .nil ?_)
      rintro _ w18 _ _ _ ⟨rfl, rfl, rfl, rfl⟩ h30
      have h31 := h30
      simp only [List.cons_append, List.nil_append] at h31
      obtain ⟨x6, e15, hF⟩ := bindP_use hF
      refine RunL.op (OpS.iown h31 (.s .z) Try.underlying22 ty5 rfl rfl rfl rfl e15 ?_)
      obtain ⟨d1, e16, hF⟩ := letP_use hF
      refine RunL.op (OpS.storeO (f' := true) h31 (.s .z) (idx_ne e15) PA.a (Put.of (Put.arr e15) e16) ty5 rfl rfl rfl V.int (.inl rfl) (fun w19 h32 => ?_))
      obtain ⟨x7, e17, hF⟩ := bindP_use hF
      refine RunL.op (OpS.iown h32 (.s (.s .z)) Try.underlying22 ty5 rfl rfl rfl rfl e17 ?_)
      obtain ⟨d2, e18, hF⟩ := letP_use hF
      refine RunL.op (OpS.storeO (f' := true) h32 (.s (.s .z)) (idx_ne e17) PA.a (Put.of (Put.arr e17) e18) ty5 rfl rfl rfl V.int (.inl rfl) (fun w20 h33 => ?_))
      obtain ⟨x8, e19, hF⟩ := bindP_use hF
      refine RunL.op (OpS.iown h33 (.s (.s (.s .z))) Try.underlying22 ty5 rfl rfl rfl rfl e19 ?_)
      obtain ⟨d3, e20, hF⟩ := letP_use hF
      refine RunL.op (OpS.storeO (f' := true) h33 (.s (.s (.s .z))) (idx_ne e19) PA.a (Put.of (Put.arr e19) e20) ty5 rfl rfl rfl V.int (.inl rfl) (fun w21 h34 => ?_))
      refine RunL.nil ?_
      refine Run.slim [(5, u1), (6, .int .i64 y4), (7, (q1 1)), (8, (q1 3)), (9, (q1 5)), (10, (q2 1)), (11, (q2 3)), (12, .int .i64 s1.1)] ⟨rfl, rfl, rfl, rfl, rfl, rfl, rfl, rfl, trivial⟩ ?_
      refine Run.seq ?_
      obtain ⟨x9, e21, hF⟩ := bindP_use hF
      obtain ⟨x10, e22, hF⟩ := bindP_use hF
      refine Run.drawV (Ωs := [(true, .slice 5 (Rep.int .u8) (q1 5) d3), (true, .slice 5 (Rep.int .u8) (q1 3) d2), (true, .slice 5 (Rep.int .u8) (q1 1) d1), (false, .box 49 made_Dice.rep u1 y7.2), (true, .slice 5 (Rep.int .u8) (q2 1) s1.2.2.2.2.2.1), (true, .slice 5 (Rep.int .u8) (q2 3) s1.2.2.2.2.2.2)]) [⟨some 51, some ((q2 1)), fun _ => [], fun _ => [], false, none, none⟩, ⟨some 52, some (.int .i64 s1.1), fun _ => [], fun _ => [], false, none, none⟩, ⟨some 53, some ((q1 1)), fun _ => [], fun _ => [], false, none, none⟩, ⟨some 54, some (.int .i64 s1.1), fun _ => [], fun _ => [], false, none, none⟩, ⟨some 55, some ((padd (sp (q1 1)) ((s1.1).toNat * (Rep.int .u8).n))), fun _ => [], fun _ => [], false, none, none⟩, ⟨some 56, some (.int .u8 x9), fun _ => [], fun _ => [], false, none, none⟩, ⟨some 57, some ((q1 3)), fun _ => [], fun _ => [], false, none, none⟩, ⟨some 58, some (.int .i64 s1.1), fun _ => [], fun _ => [], false, none, none⟩, ⟨some 59, some ((padd (sp (q1 3)) ((s1.1).toNat * (Rep.int .u8).n))), fun _ => [], fun _ => [], false, none, none⟩, ⟨some 60, some (.int .u8 x10), fun _ => [], fun _ => [], false, none, none⟩, ⟨some 61, some (.int .u8 (bXor .u8 x9 x10)), fun _ => [], fun _ => [], false, none, none⟩] [[], [], [], [], [2, 3], [4], [], [], [6, 7], [8], [5, 9]] Try_mixed rfl rfl h34 (.cons ?_ (.cons ?_ (.cons ?_ (.cons ?_ (.cons ?_ (.cons ?_ (.cons ?_ (.cons ?_ (.cons ?_ (.cons ?_ (.cons ?_ .nil))))))))))) (fun q3 w hq3 h => ?_)
      · intro q3 w Γx Ωx hE h
        refine OpS.mv rfl rfl rfl ?_
        exact ⟨undef, rfl, trivial, h⟩
      · intro q3 w Γx Ωx hE h
        refine OpS.mv rfl rfl rfl ?_
        exact ⟨undef, rfl, trivial, h⟩
      · intro q3 w Γx Ωx hE h
        refine OpS.mv rfl rfl rfl ?_
        exact ⟨undef, rfl, trivial, h⟩
      · intro q3 w Γx Ωx hE h
        refine OpS.mv rfl rfl rfl ?_
        exact ⟨undef, rfl, trivial, h⟩
      · intro q3 w Γx Ωx hE h
        refine OpS.iown h (.s (.s .z)) Try.underlying22 ty5 rfl rfl rfl rfl e21 ?_
        exact ⟨undef, rfl, trivial, h⟩
      · intro q3 w Γx Ωx hE h
        refine OpS.loadOi h (.s (.s .z)) (idx_ne e21) PA.a (Get.arr e21) ty5 rfl rfl rfl ?_
        exact ⟨undef, rfl, trivial, h⟩
      · intro q3 w Γx Ωx hE h
        refine OpS.mv rfl rfl rfl ?_
        exact ⟨undef, rfl, trivial, h⟩
      · intro q3 w Γx Ωx hE h
        refine OpS.mv rfl rfl rfl ?_
        exact ⟨undef, rfl, trivial, h⟩
      · intro q3 w Γx Ωx hE h
        refine OpS.iown h (.s .z) Try.underlying22 ty5 rfl rfl rfl rfl e22 ?_
        exact ⟨undef, rfl, trivial, h⟩
      · intro q3 w Γx Ωx hE h
        refine OpS.loadOi h (.s .z) (idx_ne e22) PA.a (Get.arr e22) ty5 rfl rfl rfl ?_
        exact ⟨undef, rfl, trivial, h⟩
      · intro q3 w Γx Ωx hE h
        refine OpS.bin rfl rfl rfl rfl rfl ?_
        exact ⟨undef, rfl, trivial, h⟩
      have h35 : St e w [] [(true, .slice 5 (Rep.int .u8) (q1 5) d3), (true, .slice 5 (Rep.int .u8) (q1 3) d2), (true, .slice 5 (Rep.int .u8) (q1 1) d1), (false, .box 49 made_Dice.rep u1 y7.2), (true, .slice 5 (Rep.int .u8) (q2 1) s1.2.2.2.2.2.1), (true, .slice 5 (Rep.int .u8) (q2 3) s1.2.2.2.2.2.2)] := h
      obtain ⟨x11, e23, hF⟩ := bindP_use hF
      refine RunL.op (OpS.iown h35 (.s (.s (.s (.s .z)))) Try.underlying22 ty5 rfl rfl rfl rfl e23 ?_)
      obtain ⟨d4, e24, hF⟩ := letP_use hF
      refine RunL.op (OpS.storeO (f' := true) h35 (.s (.s (.s (.s .z)))) (idx_ne e23) PA.a (Put.of (Put.arr e23) e24) ty5 rfl rfl rfl V.int (.inl rfl) (fun w22 h36 => ?_))
      refine RunL.nil ?_
      refine Run.slim [(5, u1), (6, .int .i64 y4), (7, (q1 1)), (8, (q1 3)), (9, (q1 5)), (10, (q2 1)), (11, (q2 3)), (12, .int .i64 s1.1)] ⟨rfl, rfl, rfl, rfl, rfl, rfl, rfl, rfl, trivial⟩ ?_
      obtain ⟨x12, e25, hF⟩ := bindP_use hF
      obtain ⟨x13, e26, hF⟩ := bindP_use hF
      obtain ⟨x14, e27, hF⟩ := bindP_use hF
      refine Run.drawV (Ωs := [(true, .slice 5 (Rep.int .u8) (q2 1) d4), (true, .slice 5 (Rep.int .u8) (q1 5) d3), (true, .slice 5 (Rep.int .u8) (q1 3) d2), (true, .slice 5 (Rep.int .u8) (q1 1) d1), (false, .box 49 made_Dice.rep u1 y7.2), (true, .slice 5 (Rep.int .u8) (q2 3) s1.2.2.2.2.2.2)]) [⟨some 63, some ((q2 3)), fun _ => [], fun _ => [], false, none, none⟩, ⟨some 64, some (.int .i64 s1.1), fun _ => [], fun _ => [], false, none, none⟩, ⟨some 65, some ((q1 1)), fun _ => [], fun _ => [], false, none, none⟩, ⟨some 66, some (.int .i64 s1.1), fun _ => [], fun _ => [], false, none, none⟩, ⟨some 67, some ((padd (sp (q1 1)) ((s1.1).toNat * (Rep.int .u8).n))), fun _ => [], fun _ => [], false, none, none⟩, ⟨some 68, some (.int .u8 x12), fun _ => [], fun _ => [], false, none, none⟩, ⟨some 69, some ((q1 3)), fun _ => [], fun _ => [], false, none, none⟩, ⟨some 70, some (.int .i64 s1.1), fun _ => [], fun _ => [], false, none, none⟩, ⟨some 71, some ((padd (sp (q1 3)) ((s1.1).toNat * (Rep.int .u8).n))), fun _ => [], fun _ => [], false, none, none⟩, ⟨some 72, some (.int .u8 x13), fun _ => [], fun _ => [], false, none, none⟩, ⟨some 73, some (.int .u8 (bXor .u8 x12 x13)), fun _ => [], fun _ => [], false, none, none⟩, ⟨some 74, some ((q1 5)), fun _ => [], fun _ => [], false, none, none⟩, ⟨some 75, some (.int .i64 s1.1), fun _ => [], fun _ => [], false, none, none⟩, ⟨some 76, some ((padd (sp (q1 5)) ((s1.1).toNat * (Rep.int .u8).n))), fun _ => [], fun _ => [], false, none, none⟩, ⟨some 77, some (.int .u8 x14), fun _ => [], fun _ => [], false, none, none⟩, ⟨some 78, some (.int .u8 (bXor .u8 (bXor .u8 x12 x13) x14)), fun _ => [], fun _ => [], false, none, none⟩] [[], [], [], [], [2, 3], [4], [], [], [6, 7], [8], [5, 9], [], [], [11, 12], [13], [10, 14]] Try_mixed rfl rfl h36 (.cons ?_ (.cons ?_ (.cons ?_ (.cons ?_ (.cons ?_ (.cons ?_ (.cons ?_ (.cons ?_ (.cons ?_ (.cons ?_ (.cons ?_ (.cons ?_ (.cons ?_ (.cons ?_ (.cons ?_ (.cons ?_ .nil)))))))))))))))) (fun q4 w hq4 h => ?_)
      · intro q4 w Γx Ωx hE h
        refine OpS.mv rfl rfl rfl ?_
        exact ⟨undef, rfl, trivial, h⟩
      · intro q4 w Γx Ωx hE h
        refine OpS.mv rfl rfl rfl ?_
        exact ⟨undef, rfl, trivial, h⟩
      · intro q4 w Γx Ωx hE h
        refine OpS.mv rfl rfl rfl ?_
        exact ⟨undef, rfl, trivial, h⟩
      · intro q4 w Γx Ωx hE h
        refine OpS.mv rfl rfl rfl ?_
        exact ⟨undef, rfl, trivial, h⟩
      · intro q4 w Γx Ωx hE h
        refine OpS.iown h (.s (.s (.s .z))) Try.underlying22 ty5 rfl rfl rfl rfl e25 ?_
        exact ⟨undef, rfl, trivial, h⟩
      · intro q4 w Γx Ωx hE h
        refine OpS.loadOi h (.s (.s (.s .z))) (idx_ne e25) PA.a (Get.arr e25) ty5 rfl rfl rfl ?_
        exact ⟨undef, rfl, trivial, h⟩
      · intro q4 w Γx Ωx hE h
        refine OpS.mv rfl rfl rfl ?_
        exact ⟨undef, rfl, trivial, h⟩
      · intro q4 w Γx Ωx hE h
        refine OpS.mv rfl rfl rfl ?_
        exact ⟨undef, rfl, trivial, h⟩
      · intro q4 w Γx Ωx hE h
        refine OpS.iown h (.s (.s .z)) Try.underlying22 ty5 rfl rfl rfl rfl e26 ?_
        exact ⟨undef, rfl, trivial, h⟩
      · intro q4 w Γx Ωx hE h
        refine OpS.loadOi h (.s (.s .z)) (idx_ne e26) PA.a (Get.arr e26) ty5 rfl rfl rfl ?_
        exact ⟨undef, rfl, trivial, h⟩
      · intro q4 w Γx Ωx hE h
        refine OpS.bin rfl rfl rfl rfl rfl ?_
        exact ⟨undef, rfl, trivial, h⟩
      · intro q4 w Γx Ωx hE h
        refine OpS.mv rfl rfl rfl ?_
        exact ⟨undef, rfl, trivial, h⟩
      · intro q4 w Γx Ωx hE h
        refine OpS.mv rfl rfl rfl ?_
        exact ⟨undef, rfl, trivial, h⟩
      · intro q4 w Γx Ωx hE h
        refine OpS.iown h (.s .z) Try.underlying22 ty5 rfl rfl rfl rfl e27 ?_
        exact ⟨undef, rfl, trivial, h⟩
      · intro q4 w Γx Ωx hE h
        refine OpS.loadOi h (.s .z) (idx_ne e27) PA.a (Get.arr e27) ty5 rfl rfl rfl ?_
        exact ⟨undef, rfl, trivial, h⟩
      · intro q4 w Γx Ωx hE h
        refine OpS.bin rfl rfl rfl rfl rfl ?_
        exact ⟨undef, rfl, trivial, h⟩
      have h37 : St e w [] [(true, .slice 5 (Rep.int .u8) (q2 1) d4), (true, .slice 5 (Rep.int .u8) (q1 5) d3), (true, .slice 5 (Rep.int .u8) (q1 3) d2), (true, .slice 5 (Rep.int .u8) (q1 1) d1), (false, .box 49 made_Dice.rep u1 y7.2), (true, .slice 5 (Rep.int .u8) (q2 3) s1.2.2.2.2.2.2)] := h
      obtain ⟨x15, e28, hF⟩ := bindP_use hF
      refine RunL.op (OpS.iown h37 (.s (.s (.s (.s (.s .z))))) Try.underlying22 ty5 rfl rfl rfl rfl e28 ?_)
      obtain ⟨d5, e29, hF⟩ := letP_use hF
      refine RunL.op (OpS.storeO (f' := true) h37 (.s (.s (.s (.s (.s .z))))) (idx_ne e28) PA.a (Put.of (Put.arr e28) e29) ty5 rfl rfl rfl V.int (.inl rfl) (fun w23 h38 => ?_))
      refine RunL.nil ?_
      refine Run.slim [(5, u1), (6, .int .i64 y4), (7, (q1 1)), (8, (q1 3)), (9, (q1 5)), (10, (q2 1)), (11, (q2 3)), (12, .int .i64 s1.1)] ⟨rfl, rfl, rfl, rfl, rfl, rfl, rfl, rfl, trivial⟩ ?_
      refine Run.endBlock ?_
      refine Run.reg ?_
      refine RunL.op (OpS.mv rfl rfl rfl ?_)
      refine RunL.op (OpS.bin rfl rfl rfl rfl rfl ?_)
      refine RunL.op (OpS.as rfl rfl rfl ?_)
      obtain ⟨x16, e30, hF⟩ := letP_use hF
      refine RunL.name e30 ?_
      refine RunL.nil ?_
      refine Run.slim [(12, .int .i64 x16), (5, u1), (6, .int .i64 y4), (7, (q1 1)), (8, (q1 3)), (9, (q1 5)), (10, (q2 1)), (11, (q2 3))] ⟨rfl, rfl, rfl, rfl, rfl, rfl, rfl, rfl, trivial⟩ ?_
      refine Run.slim [(5, u1), (6, .int .i64 y4), (7, (q1 1)), (8, (q1 3)), (9, (q1 5)), (10, (q2 1)), (11, (q2 3)), (12, .int .i64 x16)] ⟨rfl, rfl, rfl, rfl, rfl, rfl, rfl, rfl, trivial⟩ ?_
      exact hk1 (x16, y7.2, d1, d2, d3, d4, d5) _ _ ⟨rfl, (h38.facts .nil).picks (.cons (.s (.s (.s (.s (.s .z))))) (.cons (.s (.s (.s (.s .z)))) (.cons (.s (.s (.s .z))) (.cons (.s (.s .z)) (.cons (.s .z) (.cons .z .nil))))))⟩ hF
    ·
      refine Run.exit rfl ?_
      refine Run.seq ?_
      refine Run.reg ?_
      refine RunL.op (OpS.mv rfl rfl rfl ?_)
      obtain ⟨y8, e31, hF⟩ := bindP_use hF
      refine RunL.op (OpS.callP h22 Try.func17 rfl rfl rfl rfl (vs := [(q2 1)]) rfl (checksum_CRC8_ok e31) (.own (.s (.s (.s (.s .z)))) .nil) ?_)
      rintro _ w24 _ _ _ ⟨rfl, rfl, rfl, rfl⟩ h39
      have h40 := h39 rfl rfl
      simp only [List.cons_append, List.nil_append] at h40
      refine RunL.op (OpS.mv rfl rfl rfl ?_)
      obtain ⟨y9, e32, hF⟩ := bindP_use hF
      refine RunL.op (OpS.callP h40 Try.func17 rfl rfl rfl rfl (vs := [(q1 1)]) rfl (checksum_CRC8_ok e32) (.own (.s .z) .nil) ?_)
      rintro _ w25 _ _ _ ⟨rfl, rfl, rfl, rfl⟩ h41
      have h42 := h41 rfl rfl
      simp only [List.cons_append, List.nil_append] at h42
      refine RunL.op (OpS.mv rfl rfl rfl ?_)
      obtain ⟨y10, e33, hF⟩ := bindP_use hF
      refine RunL.op (OpS.callP h42 Try.func17 rfl rfl rfl rfl (vs := [(q1 3)]) rfl (checksum_CRC8_ok e33) (.own (.s (.s .z)) .nil) ?_)
      rintro _ w26 _ _ _ ⟨rfl, rfl, rfl, rfl⟩ h43
      have h44 := h43 rfl rfl
      simp only [List.cons_append, List.nil_append] at h44
      refine RunL.op (OpS.bin rfl rfl rfl rfl rfl ?_)
      refine RunL.op (OpS.bin rfl rfl rfl rfl rfl ?_)
      refine RunL.op (OpS.mv rfl rfl rfl ?_)
      refine RunL.caseb hF (fun e34 hF => ?_) (fun e34 hF => ?_)
      ·
        refine RunL.op (OpS.mv rfl rfl rfl ?_)
        obtain ⟨y11, e35, hF⟩ := bindP_use hF
        refine RunL.op (OpS.callP h44 Try.func19 rfl rfl rfl rfl (vs := [(q2 3)]) rfl (checksum_CRC32_ok e35) (.own (.s (.s (.s (.s (.s .z))))) .nil) ?_)
        rintro _ w27 _ _ _ ⟨rfl, rfl, rfl, rfl⟩ h45
        have h46 := h45 rfl rfl
        simp only [List.cons_append, List.nil_append] at h46
        refine RunL.op (OpS.mv rfl rfl rfl ?_)
        obtain ⟨y12, e36, hF⟩ := bindP_use hF
        refine RunL.op (OpS.callP h46 Try.func19 rfl rfl rfl rfl (vs := [(q1 1)]) rfl (checksum_CRC32_ok e36) (.own (.s .z) .nil) ?_)
        rintro _ w28 _ _ _ ⟨rfl, rfl, rfl, rfl⟩ h47
        have h48 := h47 rfl rfl
        simp only [List.cons_append, List.nil_append] at h48
        refine RunL.op (OpS.mv rfl rfl rfl ?_)
        obtain ⟨y13, e37, hF⟩ := bindP_use hF
        refine RunL.op (OpS.callP h48 Try.func19 rfl rfl rfl rfl (vs := [(q1 3)]) rfl (checksum_CRC32_ok e37) (.own (.s (.s .z)) .nil) ?_)
        rintro _ w29 _ _ _ ⟨rfl, rfl, rfl, rfl⟩ h49
        have h50 := h49 rfl rfl
        simp only [List.cons_append, List.nil_append] at h50
        refine RunL.op (OpS.bin rfl rfl rfl rfl rfl ?_)
        refine RunL.op (OpS.mv rfl rfl rfl ?_)
        obtain ⟨y14, e38, hF⟩ := bindP_use hF
        refine RunL.op (OpS.callP h50 Try.func19 rfl rfl rfl rfl (vs := [(q1 5)]) rfl (checksum_CRC32_ok e38) (.own (.s (.s (.s .z))) .nil) ?_)
        rintro _ w30 _ _ _ ⟨rfl, rfl, rfl, rfl⟩ h51
        have h52 := h51 rfl rfl
        simp only [List.cons_append, List.nil_append] at h52
        refine RunL.op (OpS.bin rfl rfl rfl rfl rfl ?_)
        refine RunL.op (OpS.bin rfl rfl rfl rfl rfl ?_)
        refine RunL.op (OpS.pick rfl rfl rfl rfl ?_)
        refine RunL.op (OpS.mv rfl rfl rfl ?_)
        refine RunL.caseb hF (fun e39 hF => ?_) (fun e39 hF => ?_)
        ·
          obtain ⟨y15, e40, hF⟩ := bindP_use hF
          refine RunL.op (OpS.callP h52 Try.func14 rfl rfl rfl rfl (vs := []) rfl (law01_awake_ok e40) .nil ?_)
          rintro _ w31 _ _ _ ⟨rfl, rfl, rfl, rfl⟩ h53
          have h54 := h53 rfl rfl
          simp only [List.cons_append, List.nil_append] at h54
          refine RunL.op (OpS.pick rfl rfl rfl rfl ?_)
          refine RunL.op (OpS.as rfl rfl rfl ?_)
          refine RunL.nil ?_
          refine Run.slim [(4, .bool y15)] ⟨rfl, trivial⟩ ?_
          refine Run.retP rfl (.tmp rfl .nil) ?_
          cases hF
          exact Post.mk' ⟨rfl, rfl, rfl, rfl⟩ (h54.picks .nil) .nil
        ·
          refine RunL.op (OpS.pass rfl rfl rfl ?_)
          refine RunL.op (OpS.pick rfl rfl rfl rfl ?_)
          refine RunL.op (OpS.as rfl rfl rfl ?_)
          refine RunL.nil ?_
          refine Run.slim [(4, .bool false)] ⟨rfl, trivial⟩ ?_
          refine Run.retP rfl (.tmp rfl .nil) ?_
          cases hF
          exact Post.mk' ⟨rfl, rfl, rfl, rfl⟩ (h52.picks .nil) .nil
      ·
        refine RunL.op (OpS.pass rfl rfl rfl ?_)
        refine RunL.op (OpS.pass rfl rfl rfl ?_)
        refine RunL.op (OpS.pass rfl rfl rfl ?_)
        refine RunL.op (OpS.pass rfl rfl rfl ?_)
        refine RunL.op (OpS.pass rfl rfl rfl ?_)
        refine RunL.op (OpS.pass rfl rfl rfl ?_)
        refine RunL.op (OpS.pass rfl rfl rfl ?_)
        refine RunL.op (OpS.pass rfl rfl rfl ?_)
        refine RunL.op (OpS.pass rfl rfl rfl ?_)
        refine RunL.op (OpS.pass rfl rfl rfl ?_)
        refine RunL.op (OpS.pass rfl rfl rfl ?_)
        refine RunL.op (OpS.pick rfl rfl rfl rfl ?_)
        refine RunL.op (OpS.mv rfl rfl rfl ?_)
        refine RunL.op (OpS.pass rfl rfl rfl ?_)
        refine RunL.op (OpS.pick rfl rfl rfl rfl ?_)
        refine RunL.op (OpS.as rfl rfl rfl ?_)
        refine RunL.nil ?_
        refine Run.slim [(4, .bool false)] ⟨rfl, trivial⟩ ?_
        refine Run.retP rfl (.tmp rfl .nil) ?_
        cases hF
        exact Post.mk' ⟨rfl, rfl, rfl, rfl⟩ (h44.picks .nil) .nil
end Lift
