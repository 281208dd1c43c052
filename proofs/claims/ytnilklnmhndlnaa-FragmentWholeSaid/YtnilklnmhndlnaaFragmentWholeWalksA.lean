/- Each Go function computes its plain function. Written by lift.py. -/
import Derived.Test.YtnilklnmhndlnaaFacts
set_option linter.unusedVariables false
set_option linter.unusedSimpArgs false
namespace Lift
open Go Go.Proofs
open RunL (op)
theorem fragment_endpoint_ok {fuel : Nat} {a0 : Int} {y : Bool} (hF : fragment_endpoint fuel a0 = some y) {w : World} :
  Spec Try.prog 38 [.int .u8 a0].toArray w [] [] (fun v Γr Ωr Ωo => v = .bool y ∧ Γr = [] ∧ Ωr = [] ∧ Ωo = []) := by
 refine Spec.of (L := [(0, .int .u8 a0)]) Try.func38 rfl ⟨rfl, trivial⟩ rfl (fun e h => ?_)
 unfold fragment_endpoint at hF
 refine Run.seq ?_
 refine Run.reg ?_
 refine op (OpS.as rfl rfl rfl ?_)
 refine RunL.nil ?_
 refine Run.slim [(0, .int .u8 a0)] ⟨rfl, trivial⟩ ?_
 refine Run.seq ?_
 refine Run.reg ?_
 refine op (OpS.mv rfl rfl rfl ?_)
 refine op (OpS.bin rfl rfl rfl rfl rfl ?_)
 refine op (OpS.mv rfl rfl rfl ?_)
 refine RunL.caseb hF (fun e1 hF => ?_) (fun e1 hF => ?_)
 ·
  refine op (OpS.mv rfl rfl rfl ?_)
  refine op (OpS.bin rfl rfl rfl rfl rfl ?_)
  refine op (OpS.pick rfl rfl rfl rfl ?_)
  refine op (OpS.as rfl rfl rfl ?_)
  obtain ⟨x1, e2, hF⟩ := letP_use hF
  refine RunL.nameb e2 ?_
  refine RunL.nil ?_
  refine Run.slim [(2, .bool x1)] ⟨rfl, trivial⟩ ?_
  refine Run.retP rfl (.tmp rfl .nil) ?_
  cases hF
  exact Post.mk' ⟨rfl, rfl, rfl, rfl⟩ (h.picks .nil) .nil
 ·
  refine op (OpS.pass rfl rfl rfl ?_)
  refine op (OpS.pass rfl rfl rfl ?_)
  refine op (OpS.pick rfl rfl rfl rfl ?_)
  refine op (OpS.as rfl rfl rfl ?_)
  refine RunL.nil ?_
  refine Run.slim [(2, .bool false)] ⟨rfl, trivial⟩ ?_
  refine Run.retP rfl (.tmp rfl .nil) ?_
  cases hF
  exact Post.mk' ⟨rfl, rfl, rfl, rfl⟩ (h.picks .nil) .nil
theorem slices_Chunk_byte_byte_ok {fuel : Nat} {a0 : List Int} {a1 : Int} {y : ((List Int) × Int)} (hF : slices_Chunk_byte_byte fuel a0 a1 = some y) {w : World} {v0 : Value} :
  Spec Try.prog 39 [v0, .int .i64 a1].toArray w [(false, .val (Rep.slice (Rep.int .u8)) v0 a0)] [] (fun v Γr Ωr Ωo => ∃ u0_0 u0_1 : Value, v = .func (.func 49) #[] #[u0_0, u0_1] ∧ Γr = [] ∧ Ωr = [(false, .box 22 (Rep.slice (Rep.int .u8)) u0_0 y.1), (true, .box 3 (Rep.int .i64) u0_1 y.2)] ∧ Ωo = []) := by
 refine Spec.of (L := [(0, v0), (1, .int .i64 a1)]) Try.func39 rfl ⟨rfl, rfl, trivial⟩ rfl (fun e h => ?_)
 unfold slices_Chunk_byte_byte at hF
 refine Run.seq ?_
 refine Run.reg ?_
 refine op (OpS.boxF h rfl rfl rfl (V.at .z) (fun u1 w1 h1 => ?_))
 refine op (OpS.box (f' := true) h1 rfl rfl rfl V.int (fun u2 w2 h2 => ?_))
 refine op (OpS.as rfl rfl rfl ?_)
 refine RunL.nil ?_
 refine Run.slim [(3, u2), (2, u1)] ⟨rfl, rfl, trivial⟩ ?_
 refine Run.seq ?_
 refine Run.seq ?_
 refine Run.reg ?_
 refine op (OpS.loadBi h2 .z PA.z Get.id ty3 rfl rfl rfl ?_)
 refine op (OpS.bin rfl rfl rfl rfl rfl ?_)
 refine RunL.nil ?_
 refine Run.slim [(6, .bool (decide (a1 < 1))), (3, u2), (2, u1)] ⟨rfl, rfl, rfl, trivial⟩ ?_
 refine Run.ite rfl hF (fun e1 hF => ?_) (fun e1 hF => ?_)
 ·
  refine Run.reg ?_
  cases hF
 ·
  refine Run.skip ?_
  refine Run.seq ?_
  refine Run.reg ?_
  refine op (OpS.mkf (fl := []) (cl := [u1, u2]) rfl rfl rfl rfl ?_)
  refine op (OpS.as rfl rfl rfl ?_)
  refine RunL.nil ?_
  refine Run.slim [(4, .func (.func 49) #[] #[u1, u2])] ⟨rfl, trivial⟩ ?_
  refine Run.retP rfl (.tmp rfl .nil) ?_
  cases hF
  exact Post.mk' ⟨u1, u2, rfl, rfl, rfl, rfl⟩ (h2.picks (.cons (.s .z) (.cons .z .nil))) .nil
theorem slices_Clone_byte_byte_ok {fuel : Nat} {a0 : List Int} {y : (List Int)} (hF : slices_Clone_byte_byte fuel a0 = some y) {w : World} {v0 : Value} :
  Spec Try.prog 40 [v0].toArray w [(false, .val (Rep.slice (Rep.int .u8)) v0 a0)] [] (fun v Γr Ωr Ωo => ∃ u0 : Value, v = u0 ∧ Γr = [] ∧ Ωr = [(true, (.slice 5 (Rep.int .u8) u0 y))] ∧ Ωo = []) := by
 refine Spec.of (L := [(0, v0)]) Try.func40 rfl ⟨rfl, trivial⟩ rfl (fun e h => ?_)
 unfold slices_Clone_byte_byte at hF
 refine Run.seq ?_
 refine Run.reg ?_
 refine op (OpS.as rfl rfl rfl ?_)
 refine RunL.nil ?_
 refine Run.slim [(0, v0)] ⟨rfl, trivial⟩ ?_
 refine Run.seq ?_
 refine Run.seq ?_
 refine Run.reg ?_
 refine op (OpS.mv rfl rfl rfl ?_)
 refine op (OpS.snil h Try.underlying22 rfl rfl rfl (V.at .z) (fun b1 hb1 => ?_))
 refine RunL.nil ?_
 refine Run.slim [(4, .bool b1), (0, v0)] ⟨rfl, rfl, trivial⟩ ?_
 cases b1
 ·
  refine Run.condF rfl ?_
  refine Run.skip ?_
  refine Run.seq ?_
  refine Run.reg ?_
  refine op (OpS.litO (r := (Rep.int .u8)) (f := true) h Try.underlying22 ti5 rfl rfl rfl rfl rfl .nil rfl rfl (fun u1 w1 h1 => ?_))
  refine op (OpS.mv rfl rfl rfl ?_)
  obtain ⟨x1, e1, hF⟩ := bindP_use hF
  refine op (OpS.app (f' := false) h1 .z Try.underlying22 ti5 rfl rfl rfl rfl rfl rfl rfl (V.at .z) (.inr Pure.int) e1 (fun u2 w2 h2 => ?_))
  refine op (OpS.as rfl rfl rfl ?_)
  refine RunL.nil ?_
  refine Run.slim [(2, u2)] ⟨rfl, trivial⟩ ?_
  refine Run.retP rfl (.tmp rfl .nil) ?_
  cases hF
  exact Post.mk' ⟨u2, rfl, rfl, rfl, rfl⟩ (h2.picks (.cons .z .nil)) .nil
 ·
  obtain rfl := hb1 rfl
  have hF : some ([] : List Int) = some y := by simpa [bindP, app] using hF
  refine Run.condT rfl ?_
  refine Run.seq ?_
  refine Run.reg ?_
  refine op (OpS.as rfl rfl rfl ?_)
  refine RunL.nil ?_
  refine Run.slim [(2, .slice none 0 0)] ⟨rfl, trivial⟩ ?_
  have h3 := St.nil 5 (Rep.int .u8) h
  refine Run.retP rfl (.tmp rfl .nil) ?_
  cases hF
  exact Post.mk' ⟨(.slice none 0 0), rfl, rfl, rfl, rfl⟩ (h3.picks (.cons .z .nil)) .nil
theorem slices_Chunk_byte_byte_1_2_ok {σ : Type} {fuel : Nat} {bd_ : σ → (List Int) → Option σ} {s_ : σ} {a1 : List Int} {a2 : Int} {y : σ} (hF : slices_Chunk_byte_byte_1_2 fuel bd_ s_ a1 a2 = some y) {w : World} {v1 v2 : Value} {l_ : Nat} {I_ : σ → HAtom} (hY_ : YieldOK Try.prog l_ (Rep.slice (Rep.int .u8)) I_ bd_) :
  Spec Try.prog 49 [.func (.yield l_) #[] #[], v1, v2].toArray w [(false, .ptr (Rep.slice (Rep.int .u8)) v1 a1), (false, .ptr (Rep.int .i64) v2 a2)] [(false, I_ s_)] (fun v Γr Ωr Ωo => v = .tuple #[] ∧ Γr = [] ∧ Ωr = [] ∧ Ωo = [(false, I_ y)]) := by
 refine Spec.of (L := [(0, .func (.yield l_) #[] #[]), (1, v1), (2, v2)]) Try.func49 rfl ⟨rfl, rfl, rfl, trivial⟩ rfl (fun e h => ?_)
 unfold slices_Chunk_byte_byte_1_2 at hF
 refine Run.seq ?_
 refine Run.reg ?_
 refine op (OpS.as rfl rfl rfl ?_)
 refine RunL.nil ?_
 refine Run.block ?_
 refine Run.slim [(0, .func (.yield l_) #[] #[]), (1, v1), (2, v2), (4, .int .i64 0)] ⟨rfl, rfl, rfl, rfl, trivial⟩ ?_
 refine Run.loopP (σ := (Int × σ)) (fun s_ L_ w_ => L_ = [(0, .func (.yield l_) #[] #[]), (1, v1), (2, v2), (4, .int .i64 s_.1)] ∧ St e w_ [(false, .ptr (Rep.slice (Rep.int .u8)) v1 a1), (false, .ptr (Rep.int .i64) v2 a2)] [(false, I_ s_.2)]) hF ⟨rfl, (h.facts (.atm .z (.atm (.s .z) .nil))).picks (.cons .z .nil)⟩ (fun k1 hk1 s1 _ w1 hI hF => ?_)
 obtain ⟨rfl, h1⟩ := hI
 refine Run.seq ?_
 refine Run.seq ?_
 refine Run.reg ?_
 refine op (OpS.mv rfl rfl rfl ?_)
 refine op (OpS.load h1 ty22 rfl rfl rfl .z (fun u1 h2 => ?_))
 refine op (OpS.len h2 Try.underlying22 rfl rfl rfl (V.at .z) ?_)
 refine op (OpS.bin rfl rfl rfl rfl rfl ?_)
 refine RunL.nil ?_
 refine Run.slim [(9, .bool (decide (s1.1 < (a1.length : Int)))), (0, .func (.yield l_) #[] #[]), (1, v1), (2, v2), (4, .int .i64 s1.1)] ⟨rfl, rfl, rfl, rfl, rfl, trivial⟩ ?_
 refine Run.ite rfl hF (fun e1 hF => ?_) (fun e1 hF => ?_)
 ·
  refine Run.skip ?_
  refine Run.seq ?_
  refine Run.block ?_
  refine Run.seq ?_
  obtain ⟨x1, e2, hF⟩ := bindP_use hF
  refine Run.drawV (Ωs := [(false, I_ s1.2)]) [⟨some 13, some (.int .i64 a2), fun _ => [], fun ds_ u_ => [], [], [], none⟩, ⟨some 14, none, fun u_ => [(false, .val (Rep.slice (Rep.int .u8)) u_ a1)], fun ds_ u_ => [], [], [], none⟩, ⟨some 15, some (.int .i64 s1.1), fun _ => [], fun ds_ u_ => [], [], [], none⟩, ⟨some 16, none, fun u_ => [(false, .val (Rep.slice (Rep.int .u8)) u_ x1)], fun ds_ u_ => [], [], [], none⟩, ⟨some 17, some (.int .i64 (x1.length : Int)), fun _ => [], fun ds_ u_ => [], [], [], none⟩, ⟨some 18, some (.int .i64 (min a2 (x1.length : Int))), fun _ => [], fun ds_ u_ => [], [], [], none⟩] [[], [], [], [1, 2], [3], [0, 4]] [] [0, 1, 2, 3, 4, 5] Try_mixed rfl rfl rfl h2 (.cons ?_ (.cons ?_ (.cons ?_ (.cons ?_ (.cons ?_ (.cons ?_ .nil)))))) (fun q1 w hq1 h => ?_)
  ·intro q1 w Γx Ωx h
   refine OpS.loadi h ty3 rfl rfl rfl (.s (.s .z)) ?_
   exact ⟨undef, rfl, trivial, h⟩
  ·intro q1 w Γx Ωx h
   refine OpS.load h ty22 rfl rfl rfl (.s .z) (fun u h5 => ?_)
   exact ⟨u, rfl, trivial, h5⟩
  ·intro q1 w Γx Ωx h
   refine OpS.mv rfl rfl rfl ?_
   exact ⟨undef, rfl, trivial, h⟩
  ·intro q1 w Γx Ωx h
   refine OpS.sub h Try.underlying22 ty5 rfl rfl rfl rfl rfl (V.at .z) e2 (fun u h6 => ?_)
   exact ⟨u, rfl, trivial, h6⟩
  ·intro q1 w Γx Ωx h
   refine OpS.len h Try.underlying22 rfl rfl rfl (V.at .z) ?_
   exact ⟨undef, rfl, trivial, h⟩
  ·intro q1 w Γx Ωx h
   refine OpS.mini rfl rfl rfl rfl ?_
   exact ⟨undef, rfl, trivial, h⟩
  have h7 : St e w [(false, .val (Rep.slice (Rep.int .u8)) (q1 1) a1), (false, .val (Rep.slice (Rep.int .u8)) (q1 3) x1), (false, .val (Rep.slice (Rep.int .u8)) u1 a1), (false, .ptr (Rep.slice (Rep.int .u8)) v1 a1), (false, .ptr (Rep.int .i64) v2 a2)] [(false, I_ s1.2)] := h
  refine op (OpS.as rfl rfl rfl ?_)
  obtain ⟨x2, e3, hF⟩ := letP_use hF
  refine RunL.name e3 ?_
  refine RunL.nil ?_
  refine Run.slim [(5, .int .i64 x2), (0, .func (.yield l_) #[] #[]), (1, v1), (2, v2), (4, .int .i64 s1.1)] ⟨rfl, rfl, rfl, rfl, rfl, trivial⟩ ?_
  refine Run.seq ?_
  refine Run.reg ?_
  refine op (OpS.mv rfl rfl rfl ?_)
  refine op (OpS.load h7 ty22 rfl rfl rfl (.s (.s (.s .z))) (fun u2 h8 => ?_))
  refine op (OpS.mv rfl rfl rfl ?_)
  refine op (OpS.mv rfl rfl rfl ?_)
  refine op (OpS.mv rfl rfl rfl ?_)
  refine op (OpS.bin rfl rfl rfl rfl rfl ?_)
  refine op (OpS.mv rfl rfl rfl ?_)
  refine op (OpS.mv rfl rfl rfl ?_)
  refine op (OpS.bin rfl rfl rfl rfl rfl ?_)
  obtain ⟨x3, e4, hF⟩ := bindP_use hF
  refine op (OpS.sub3F h8 Try.underlying22 ty5 rfl rfl rfl rfl rfl rfl (V.at .z) e4 (fun u3 h9 => ?_))
  obtain ⟨y1, e5, hF⟩ := bindP_use hF
  refine op (OpS.yield h9 .z hY_ e5 rfl rfl rfl rfl (V.at .z) (fun w2 h10 => ?_))
  refine op (OpS.not rfl rfl rfl ?_)
  refine RunL.nil ?_
  refine Run.slim [(30, .bool false), (0, .func (.yield l_) #[] #[]), (1, v1), (2, v2), (4, .int .i64 s1.1)] ⟨rfl, rfl, rfl, rfl, rfl, trivial⟩ ?_
  refine Run.condF rfl ?_
  refine Run.skip ?_
  refine Run.endBlock ?_
  refine Run.reg ?_
  refine op (OpS.mv rfl rfl rfl ?_)
  refine op (OpS.loadi h10 ty3 rfl rfl rfl (.s (.s (.s (.s (.s (.s (.s .z))))))) ?_)
  refine op (OpS.bin rfl rfl rfl rfl rfl ?_)
  refine op (OpS.as rfl rfl rfl ?_)
  obtain ⟨x4, e6, hF⟩ := letP_use hF
  refine RunL.name e6 ?_
  refine RunL.nil ?_
  refine Run.slim [(4, .int .i64 x4), (0, .func (.yield l_) #[] #[]), (1, v1), (2, v2)] ⟨rfl, rfl, rfl, rfl, trivial⟩ ?_
  refine Run.slim [(0, .func (.yield l_) #[] #[]), (1, v1), (2, v2), (4, .int .i64 x4)] ⟨rfl, rfl, rfl, rfl, trivial⟩ ?_
  exact hk1 (x4, y1) _ _ ⟨rfl, (h10.facts (.atm (.s (.s (.s (.s (.s (.s .z)))))) (.atm (.s (.s (.s (.s (.s (.s (.s .z))))))) .nil))).picks (.cons .z .nil)⟩ hF
 ·
  refine Run.exit rfl ?_
  refine Run.finP rfl .nil ?_
  cases hF
  exact Post.mk' ⟨rfl, rfl, rfl, rfl⟩ (h2.picks (.cons .z .nil)) .nil
set_option maxHeartbeats 8000000 in
theorem fragment_Split_ok {fuel : Nat} {a0 : Int} {a1 : Int} {a2 : Bool} {a3 : Int} {a4 : Int} {a5 : List Int} {y : (List Packet_) × Int} (hF : fragment_Split fuel a0 a1 a2 a3 a4 a5 = some y) {w : World} {v5 : Value} :
  Spec Try.prog 13 [.int .u8 a0, .int .u8 a1, .bool a2, .int .i64 a3, .int .i64 a4, v5].toArray w [(false, .val (Rep.slice (Rep.int .u8)) v5 a5)] [] (fun v Γr Ωr Ωo => ∃ u0 : Value, v = .tuple #[u0, .int .i64 y.2] ∧ Γr = [] ∧ Ωr = [(false, (.slice 44 Packet_.rep u0 y.1))] ∧ Ωo = []) := by
 refine Spec.of (L := [(0, .int .u8 a0), (1, .int .u8 a1), (2, .bool a2), (3, .int .i64 a3), (4, .int .i64 a4), (5, v5)]) Try.func13 rfl ⟨rfl, rfl, rfl, rfl, rfl, rfl, trivial⟩ rfl (fun e h => ?_)
 unfold fragment_Split at hF
 refine Run.seq ?_
 refine Run.reg ?_
 refine op (OpS.box (f' := true) h rfl rfl rfl V.int (fun u1 w1 h1 => ?_))
 refine op (OpS.box (f' := true) h1 rfl rfl rfl V.int (fun u2 w2 h2 => ?_))
 refine op (OpS.box (f' := true) h2 rfl rfl rfl V.bool (fun u3 w3 h3 => ?_))
 refine op (OpS.box (f' := true) h3 rfl rfl rfl V.int (fun u4 w4 h4 => ?_))
 refine op (OpS.as rfl rfl rfl ?_)
 refine op (OpS.as rfl rfl rfl ?_)
 refine RunL.nil ?_
 refine Run.slim [(9, u4), (8, u3), (7, u2), (6, u1), (4, .int .i64 a4), (5, v5)] ⟨rfl, rfl, rfl, rfl, rfl, rfl, trivial⟩ ?_
 refine Run.seq ?_
 refine Run.block ?_
 refine Run.seq ?_
 refine Run.reg ?_
 refine op (OpS.loadBi h4 (.s (.s (.s .z))) PA.z Get.id ty5 rfl rfl rfl ?_)
 obtain ⟨y1, e1, hF⟩ := bindP_use hF
 refine op (OpS.callP h4 Try.func38 rfl rfl rfl rfl (vs := [.int .u8 a0]) rfl (fragment_endpoint_ok e1) .nil ?_)
 rintro _ w5 _ _ _ ⟨rfl, rfl, rfl, rfl⟩ h5
 have h6 := h5 rfl rfl
 simp only [List.cons_append, List.nil_append] at h6
 refine op (OpS.not rfl rfl rfl ?_)
 refine op (OpS.mv rfl rfl rfl ?_)
 refine RunL.join (σ := Bool) (fun s_ L_ w_ => L_ = [(4, .int .i64 a4), (5, v5), (6, u1), (7, u2), (8, u3), (9, u4), (16, .bool s_)] ∧ St e w_ [(false, .val (Rep.slice (Rep.int .u8)) v5 a5)] [(true, .box 5 (Rep.int .u8) u1 a0), (true, .box 5 (Rep.int .u8) u2 a1), (true, .box 4 Rep.bool u3 a2), (true, .box 3 (Rep.int .i64) u4 a3)]) hF (fun s1 _ w6 hI hF => ?_) (fun j1 hj1 hF => ?_)
 ·
  obtain ⟨rfl, h7⟩ := hI
  refine Run.ite rfl hF (fun e2 hF => ?_) (fun e2 hF => ?_)
  ·
   refine Run.seq ?_
   refine Run.reg ?_
   refine op (OpS.as rfl rfl rfl ?_)
   refine op (OpS.as rfl rfl rfl ?_)
   refine RunL.nil ?_
   refine Run.slim [(13, .int .i64 13), (12, .slice none 0 0)] ⟨rfl, rfl, trivial⟩ ?_
   have h8 := St.nil 44 Packet_.rep h7
   have h9 := (h8.pick .z).weak
   refine Run.retP rfl (.tmp rfl (.tmp rfl .nil)) ?_
   cases hF
   exact Post.mk' ⟨(.slice none 0 0), rfl, rfl, rfl, rfl⟩ (h9.picks (.cons .z .nil)) .nil
  ·
   refine Run.seq ?_
   refine Run.reg ?_
   refine op (OpS.loadBi h7 (.s (.s (.s .z))) PA.z Get.id ty3 rfl rfl rfl ?_)
   refine op (OpS.bin rfl rfl rfl rfl rfl ?_)
   refine op (OpS.mv rfl rfl rfl ?_)
   refine RunL.join (σ := Bool) (fun s_ L_ w_ => L_ = [(4, .int .i64 a4), (5, v5), (6, u1), (7, u2), (8, u3), (9, u4), (25, .bool s_)] ∧ St e w_ [(false, .val (Rep.slice (Rep.int .u8)) v5 a5)] [(true, .box 5 (Rep.int .u8) u1 a0), (true, .box 5 (Rep.int .u8) u2 a1), (true, .box 4 Rep.bool u3 a2), (true, .box 3 (Rep.int .i64) u4 a3)]) hF (fun s2 _ w7 hI hF => ?_) (fun j2 hj2 hF => ?_)
   ·
    obtain ⟨rfl, h10⟩ := hI
    refine Run.ite rfl hF (fun e3 hF => ?_) (fun e3 hF => ?_)
    ·
     refine Run.seq ?_
     refine Run.reg ?_
     refine op (OpS.as rfl rfl rfl ?_)
     refine op (OpS.as rfl rfl rfl ?_)
     refine RunL.nil ?_
     refine Run.slim [(13, .int .i64 2), (12, .slice none 0 0)] ⟨rfl, rfl, trivial⟩ ?_
     have h11 := St.nil 44 Packet_.rep h10
     have h12 := (h11.pick .z).weak
     refine Run.retP rfl (.tmp rfl (.tmp rfl .nil)) ?_
     cases hF
     exact Post.mk' ⟨(.slice none 0 0), rfl, rfl, rfl, rfl⟩ (h12.picks (.cons .z .nil)) .nil
    ·
     refine Run.seq ?_
     refine Run.reg ?_
     refine op (OpS.mv rfl rfl rfl ?_)
     refine op (OpS.len h10 Try.underlying22 rfl rfl rfl (V.at .z) ?_)
     refine op (OpS.bin rfl rfl rfl rfl rfl ?_)
     refine op (OpS.as rfl rfl rfl ?_)
     obtain ⟨x1, e4, hF⟩ := letP_use hF
     refine RunL.nameb e4 ?_
     refine RunL.nil ?_
     refine Run.slim [(40, .bool x1), (4, .int .i64 a4), (5, v5), (6, u1), (7, u2), (8, u3), (9, u4)] ⟨rfl, rfl, rfl, rfl, rfl, rfl, rfl, trivial⟩ ?_
     refine Run.ite rfl hF (fun e5 hF => ?_) (fun e5 hF => ?_)
     ·
      refine Run.seq ?_
      refine Run.reg ?_
      refine op (OpS.as rfl rfl rfl ?_)
      refine op (OpS.as rfl rfl rfl ?_)
      refine RunL.nil ?_
      refine Run.slim [(13, .int .i64 1), (12, .slice none 0 0)] ⟨rfl, rfl, trivial⟩ ?_
      have h13 := St.nil 44 Packet_.rep h10
      have h14 := (h13.pick .z).weak
      refine Run.retP rfl (.tmp rfl (.tmp rfl .nil)) ?_
      cases hF
      exact Post.mk' ⟨(.slice none 0 0), rfl, rfl, rfl, rfl⟩ (h14.picks (.cons .z .nil)) .nil
     ·
      refine Run.seq ?_
      refine Run.reg ?_
      refine op (OpS.mv rfl rfl rfl ?_)
      refine op (OpS.len h10 Try.underlying22 rfl rfl rfl (V.at .z) ?_)
      refine op (OpS.bin rfl rfl rfl rfl rfl ?_)
      refine op (OpS.as rfl rfl rfl ?_)
      obtain ⟨x2, e6, hF⟩ := letP_use hF
      refine RunL.nameb e6 ?_
      refine RunL.nil ?_
      refine Run.slim [(44, .bool x2), (4, .int .i64 a4), (5, v5), (6, u1), (7, u2), (8, u3), (9, u4)] ⟨rfl, rfl, rfl, rfl, rfl, rfl, rfl, trivial⟩ ?_
      refine Run.ite rfl hF (fun e7 hF => ?_) (fun e7 hF => ?_)
      ·
       refine Run.seq ?_
       refine Run.reg ?_
       refine op (OpS.as rfl rfl rfl ?_)
       refine op (OpS.as rfl rfl rfl ?_)
       refine RunL.nil ?_
       refine Run.slim [(13, .int .i64 3), (12, .slice none 0 0)] ⟨rfl, rfl, trivial⟩ ?_
       have h15 := St.nil 44 Packet_.rep h10
       have h16 := (h15.pick .z).weak
       refine Run.retP rfl (.tmp rfl (.tmp rfl .nil)) ?_
       cases hF
       exact Post.mk' ⟨(.slice none 0 0), rfl, rfl, rfl, rfl⟩ (h16.picks (.cons .z .nil)) .nil
      ·
       refine Run.skip ?_
       refine Run.endBlock ?_
       refine Run.seq ?_
       refine Run.reg ?_
       have h17 := St.nil 44 Packet_.rep h10
       refine op (OpS.alloc (r := (Rep.raw (α := List Packet_) (.slice none 0 0))) h17 ti27 (Zr.raw rfl ([] : List Packet_)) rfl rfl (fun u5 w8 h18 => ?_))
       refine RunL.nil ?_
       refine Run.slim [(14, u5), (4, .int .i64 a4), (5, v5), (6, u1), (7, u2), (8, u3), (9, u4)] ⟨rfl, rfl, rfl, rfl, rfl, rfl, rfl, trivial⟩ ?_
       refine Run.seq ?_
       refine Run.seq ?_
       refine Run.reg ?_
       refine op (OpS.mv rfl rfl rfl ?_)
       refine op (OpS.mv rfl rfl rfl ?_)
       obtain ⟨y2, e8, hF⟩ := bindP_use hF
       have h19 := h18.front .nil
       refine op (OpS.callO h19 Try.func39 rfl rfl rfl rfl (vs := [v5, .int .i64 a4]) rfl (slices_Chunk_byte_byte_ok e8) rfl (.cons (f := false) (V.at .z) .nil) ?_)
       rintro _ w9 _ _ _ ⟨u6, u7, rfl, rfl, rfl, rfl⟩ h20
       have h21 := h20
       simp only [List.cons_append, List.nil_append] at h21
       refine RunL.nil ?_
       refine Run.slim [(50, .func (.func 49) #[] #[u6, u7]), (14, u5), (6, u1), (7, u2), (8, u3), (9, u4)] ⟨rfl, rfl, rfl, rfl, rfl, rfl, trivial⟩ ?_
       refine Run.block ?_
       have h22 := (h21.pick .z).freezeBox
       have h23 := (h22.pick .z).freezeBox
       have h24 := (h23.pick .z).weak
       have h25 := (h24.pick (.s .z)).weak
       have h26 := (h25.pick (.s (.s .z))).weak
       have h27 := (h26.pick (.s (.s (.s .z)))).weak
       have h28 := (h27.pick (.s (.s (.s (.s .z))))).weak
       have h29 := (h28.pick (.s (.s (.s (.s (.s .z)))))).weak
       refine Run.slim [(50, .func (.func 49) #[] #[u6, u7]), (14, u5), (6, u1), (7, u2), (8, u3), (9, u4)] ⟨rfl, rfl, rfl, rfl, rfl, rfl, trivial⟩ ?_
       obtain ⟨y3, e9, hF⟩ := bindP_use hF
       refine Run.rangeC (σ := ((List Packet_))) (r := (Rep.slice (Rep.int .u8))) (fun s_ Γ_ Ω_ => ∃ u0_ : Value, Γ_ = [] ∧ Ω_ = [(false, .box 5 (Rep.int .u8) u1 a0), (false, .box 5 (Rep.int .u8) u2 a1), (false, .box 4 Rep.bool u3 a2), (false, .box 3 (Rep.int .i64) u4 a3), (false, .box 27 (Rep.raw (α := List Packet_) u0_) u5 ([])), (false, .slice 44 Packet_.rep u0_ s_)]) (by rintro _ _ _ ⟨u0_, rfl, rfl⟩; exact ⟨rfl, rfl⟩) rfl rfl rfl Try.func49 rfl rfl rfl (fun l_ I_ hY_ w_ => slices_Chunk_byte_byte_1_2_ok e9 hY_) (.ptr (.s .z) (.ptr .z .nil)) (Ω0 := [(false, .box 5 (Rep.int .u8) u1 a0), (false, .box 5 (Rep.int .u8) u2 a1), (false, .box 4 Rep.bool u3 a2), (false, .box 3 (Rep.int .i64) u4 a3), (false, .box 27 (Rep.raw (α := List Packet_) (.slice none 0 0)) u5 ([])), (false, .slice 44 Packet_.rep (.slice none 0 0) ([]))]) (Ω := []) (Γ0 := []) (h29.picks (.cons (.s (.s (.s .z))) (.cons (.s (.s .z)) (.cons (.s .z) (.cons .z (.cons (.s .z) (.cons .z .nil))))))) ⟨(.slice none 0 0), rfl, rfl⟩ .nil ?_ ?_
       ·
        intro l_ q_ e w s3 s1_ x3 v1 Γ_ Ω_ hq_ hX_ hF h30
        obtain ⟨u8, rfl, rfl⟩ := hX_
        refine Run.reg ?_
        refine op (OpS.as rfl rfl rfl ?_)
        refine RunL.nil ?_
        refine Run.slim [(15, v1), (14, u5), (6, u1), (7, u2), (8, u3), (9, u4)] ⟨rfl, rfl, rfl, rfl, rfl, rfl, trivial⟩ ?_
        refine Run.beginRound rfl (h30.pick .z) hq_ (fun w10 h31 => ?_)
        refine Run.block ?_
        have h32 := h31.picks (.cons (.s .z) (.cons (.s .z) (.cons (.s .z) (.cons (.s .z) (.cons (.s .z) (.cons (.s .z) (.cons .z .nil)))))))
        obtain ⟨y4, e10, hF⟩ := bindP_use hF
        obtain ⟨x4, e11, hF⟩ := bindP_use hF
        refine Run.drawV (Ωs := [(false, .loopR l_ ({ q_ with state := .busy }))]) [⟨some 52, some (u8), fun _ => [], fun ds_ u_ => [], [], [(4, [])], none⟩, ⟨some 53, some (.int .u8 a0), fun _ => [], fun ds_ u_ => [], [], [(0, [])], none⟩, ⟨some 54, some (.int .u8 a1), fun _ => [], fun ds_ u_ => [], [], [(1, [])], none⟩, ⟨some 55, some (u8), fun _ => [], fun ds_ u_ => [], [], [(4, [])], none⟩, ⟨some 56, some (.int .i64 (s3.length : Int)), fun _ => [], fun ds_ u_ => [], [], [(5, [12, 11, 10, 5, 4])], none⟩, ⟨some 57, some (.int .i64 (Int.tmod (s3.length : Int) 4)), fun _ => [], fun ds_ u_ => [], [], [], none⟩, ⟨some 58, some (.bool a2), fun _ => [], fun ds_ u_ => [], [], [(2, [])], none⟩, ⟨some 59, some (.int .i64 a3), fun _ => [], fun ds_ u_ => [], [], [(3, [])], none⟩, ⟨some 60, some (v1), fun _ => [], fun ds_ u_ => [], [], [], none⟩, ⟨some 61, none, fun u_ => [(true, .val (Rep.slice (Rep.int .u8)) u_ y4)], fun ds_ u_ => [], [], [], none⟩, ⟨some 62, none, fun u_ => [(true, .val Packet_.rep u_ (⟨a0, a1, false, false, (Int.tmod (s3.length : Int) 4), a2, a3, y4⟩ : Packet_))], fun ds_ u_ => [], [], [], none⟩, ⟨some 63, none, fun u_ => [(true, .val (Rep.slice Packet_.rep) u_ ([(⟨a0, a1, false, false, (Int.tmod (s3.length : Int) 4), a2, a3, y4⟩ : Packet_)]))], fun ds_ u_ => [], [], [], none⟩, ⟨some 64, none, fun u_ => [], fun ds_ u_ => [(false, .slice 44 Packet_.rep u_ x4)], [5], [], none⟩] [[], [], [], [], [3], [4], [], [], [], [8], [1, 2, 5, 6, 7, 9], [10], [0, 11]] [[(false, .box 5 (Rep.int .u8) u1 a0)], [(false, .box 5 (Rep.int .u8) u2 a1)], [(false, .box 4 Rep.bool u3 a2)], [(false, .box 3 (Rep.int .i64) u4 a3)], [(false, .box 27 (Rep.raw (α := List Packet_) u8) u5 ([]))], [(false, .slice 44 Packet_.rep u8 s3)]] [0, 1, 2, 3, 4, 6, 7, 8, 9, 10, 11, 12, 13, 14, 15, 16, 17, 18] Try_mixed rfl rfl rfl h32 (.cons ?_ (.cons ?_ (.cons ?_ (.cons ?_ (.cons ?_ (.cons ?_ (.cons ?_ (.cons ?_ (.cons ?_ (.cons ?_ (.cons ?_ (.cons ?_ (.cons ?_ .nil))))))))))))) (fun q1 w hq1 h => ?_)
        ·intro q1 w Γx Ωx h
         have h : St e w ([(false, .val (Rep.slice (Rep.int .u8)) v1 x3)] ++ Γx) ([(false, .box 27 (Rep.raw (α := List Packet_) u8) u5 ([])), (false, .loopR l_ ({ q_ with state := .busy }))] ++ Ωx) := h
         refine OpS.loadR h .z PA.z (GetS.ok GetS.id) ty27 rfl rfl rfl rfl rfl ?_
         exact ⟨undef, rfl, trivial, h⟩
        ·intro q1 w Γx Ωx h
         have h : St e w ([(false, .val (Rep.slice (Rep.int .u8)) v1 x3)] ++ Γx) ([(false, .box 5 (Rep.int .u8) u1 a0), (false, .loopR l_ ({ q_ with state := .busy }))] ++ Ωx) := h
         refine OpS.loadBi h .z PA.z Get.id ty5 rfl rfl rfl ?_
         exact ⟨undef, rfl, trivial, h⟩
        ·intro q1 w Γx Ωx h
         have h : St e w ([(false, .val (Rep.slice (Rep.int .u8)) v1 x3)] ++ Γx) ([(false, .box 5 (Rep.int .u8) u2 a1), (false, .loopR l_ ({ q_ with state := .busy }))] ++ Ωx) := h
         refine OpS.loadBi h .z PA.z Get.id ty5 rfl rfl rfl ?_
         exact ⟨undef, rfl, trivial, h⟩
        ·intro q1 w Γx Ωx h
         have h : St e w ([(false, .val (Rep.slice (Rep.int .u8)) v1 x3)] ++ Γx) ([(false, .box 27 (Rep.raw (α := List Packet_) u8) u5 ([])), (false, .loopR l_ ({ q_ with state := .busy }))] ++ Ωx) := h
         refine OpS.loadR h .z PA.z (GetS.ok GetS.id) ty27 rfl rfl rfl rfl rfl ?_
         exact ⟨undef, rfl, trivial, h⟩
        ·intro q1 w Γx Ωx h
         have h : St e w ([(false, .val (Rep.slice (Rep.int .u8)) v1 x3)] ++ Γx) ([(false, .slice 44 Packet_.rep u8 s3), (false, .loopR l_ ({ q_ with state := .busy }))] ++ Ωx) := h
         refine OpS.lenO h .z Try.underlying27 rfl rfl rfl ?_
         exact ⟨undef, rfl, trivial, h⟩
        ·intro q1 w Γx Ωx h
         refine OpS.rem rfl rfl rfl rfl (by decide) ?_
         exact ⟨undef, rfl, trivial, h⟩
        ·intro q1 w Γx Ωx h
         have h : St e w ([(false, .val (Rep.slice (Rep.int .u8)) v1 x3)] ++ Γx) ([(false, .box 4 Rep.bool u3 a2), (false, .loopR l_ ({ q_ with state := .busy }))] ++ Ωx) := h
         refine OpS.loadBb h .z PA.z Get.id ty4 rfl rfl rfl ?_
         exact ⟨undef, rfl, trivial, h⟩
        ·intro q1 w Γx Ωx h
         have h : St e w ([(false, .val (Rep.slice (Rep.int .u8)) v1 x3)] ++ Γx) ([(false, .box 3 (Rep.int .i64) u4 a3), (false, .loopR l_ ({ q_ with state := .busy }))] ++ Ωx) := h
         refine OpS.loadBi h .z PA.z Get.id ty3 rfl rfl rfl ?_
         exact ⟨undef, rfl, trivial, h⟩
        ·intro q1 w Γx Ωx h
         refine OpS.mv rfl rfl rfl ?_
         exact ⟨undef, rfl, trivial, h⟩
        ·intro q1 w Γx Ωx h
         refine OpS.callP h Try.func40 rfl rfl rfl rfl (vs := [v1]) rfl (slices_Clone_byte_byte_ok e10) (.cons (f := false) (V.at .z) .nil) ?_
         rintro u w14 _ _ _ ⟨_, rfl, rfl, rfl, rfl⟩ h39
         have h40 := h39 rfl rfl
         simp only [List.cons_append, List.nil_append] at h40
         have h41 := h40.freeze
         exact ⟨u, rfl, trivial, h41⟩
        ·intro q1 w Γx Ωx h
         refine OpS.build (f := true) (x' := (⟨a0, a1, false, false, (Int.tmod (s3.length : Int) 4), a2, a3, y4⟩ : Packet_)) h pl44 ti44 Packet_.zr rfl rfl rfl (.cons rfl Packet_.f0 rfl V.int (.cons rfl Packet_.f1 rfl V.int (.cons rfl Packet_.f4 rfl V.int (.cons rfl Packet_.f5 rfl V.bool (.cons rfl Packet_.f6 rfl V.int (.cons rfl Packet_.f7 rfl (V.at .z) .nil)))))) (fun u h42 => ?_)
         exact ⟨u, rfl, trivial, h42⟩
        ·intro q1 w Γx Ωx h
         refine OpS.lit (r := Packet_.rep) (f := true) h Try.underlying27 ti44 rfl rfl rfl rfl rfl (.cons rfl (V.at .z) .nil) rfl rfl (fun u w15 h43 => ?_)
         exact ⟨u, rfl, trivial, h43⟩
        ·intro q1 w Γx Ωx h
         have h : St e w ([(true, .val (Rep.slice Packet_.rep) (q1 11) ([(⟨a0, a1, false, false, (Int.tmod (s3.length : Int) 4), a2, a3, y4⟩ : Packet_)])), (false, .val (Rep.slice (Rep.int .u8)) v1 x3)] ++ Γx) ([(false, .slice 44 Packet_.rep u8 s3), (false, .loopR l_ ({ q_ with state := .busy }))] ++ Ωx) := h
         refine OpS.app (f' := true) h .z Try.underlying27 ti44 rfl rfl rfl rfl rfl rfl rfl (V.at .z) (.inl (.inl rfl)) e11 (fun u w16 h44 => ?_)
         exact ⟨u, rfl, trivial, h44⟩
        have h45 : St e w [(true, .val (Rep.slice (Rep.int .u8)) (q1 9) y4), (true, .val Packet_.rep (q1 10) (⟨a0, a1, false, false, (Int.tmod (s3.length : Int) 4), a2, a3, y4⟩ : Packet_)), (true, .val (Rep.slice Packet_.rep) (q1 11) ([(⟨a0, a1, false, false, (Int.tmod (s3.length : Int) 4), a2, a3, y4⟩ : Packet_)])), (false, .val (Rep.slice (Rep.int .u8)) v1 x3)] [(false, .box 5 (Rep.int .u8) u1 a0), (false, .box 5 (Rep.int .u8) u2 a1), (false, .box 4 Rep.bool u3 a2), (false, .box 3 (Rep.int .i64) u4 a3), (false, .box 27 (Rep.raw (α := List Packet_) u8) u5 ([])), (false, .slice 44 Packet_.rep (q1 12) x4), (false, .loopR l_ ({ q_ with state := .busy }))] := h
        refine op (OpS.storeC (f' := false) (fr := (Rep.raw (q1 12))) (r' := (Rep.raw (α := List Packet_) (q1 12))) (x' := []) h45 (.s (.s (.s (.s .z)))) PA.z (Chg.id (by rfl)) (Ty.like ty27 (by rfl) (by rfl)) rfl rfl rfl (V.raw (f := false) (St.own1 h45 (.s (.s (.s (.s (.s .z)))))) ([])) (.inr rfl) (fun w17 h46 => ?_))
        refine RunL.nil ?_
        refine Run.slim [] trivial ?_
        refine Run.endBlock ?_
        refine Run.finR rfl ?_
        cases hF
        exact ⟨_, _, ⟨(q1 12), rfl, rfl⟩, (h46.facts .nil).picks (.cons (.s (.s (.s (.s (.s (.s .z)))))) (.cons (.s .z) (.cons (.s .z) (.cons (.s .z) (.cons (.s .z) (.cons .z (.cons .z .nil)))))))⟩
       ·
        intro D_ w Γ_ Ω_ hX_ h47
        obtain ⟨u9, rfl, rfl⟩ := hX_
        simp only [List.cons_append, List.nil_append] at h47
        refine Run.slim [(14, u5)] ⟨rfl, trivial⟩ ?_
        refine Run.endBlock ?_
        refine Run.seq ?_
        have h48 := St.lenF h47 (.s (.s (.s (.s (.s .z)))))
        have h49 := h48.picks (.cons (.s (.s (.s (.s .z)))) (.cons (.s (.s (.s (.s .z)))) (.cons .z (.cons .z (.cons .z (.cons .z (.cons .z .nil)))))))
        obtain ⟨x5, e12, hF⟩ := bindP_use hF
        obtain ⟨d1, e13, hF⟩ := letP_use hF
        refine Run.drawV (Ωs := [(false, .box 5 (Rep.int .u8) u1 a0), (false, .box 5 (Rep.int .u8) u2 a1), (false, .box 4 Rep.bool u3 a2), (false, .box 3 (Rep.int .i64) u4 a3), (true, .dfr D_)]) [⟨some 65, some (u9), fun _ => [], fun ds_ u_ => [], [], [(0, [])], none⟩, ⟨some 66, some (u9), fun _ => [], fun ds_ u_ => [], [], [(0, [])], none⟩, ⟨some 67, some (u9), fun _ => [], fun ds_ u_ => [], [], [(0, [])], none⟩, ⟨some 68, some (.int .i64 (y3.length : Int)), fun _ => [], fun ds_ u_ => [], [], [], none⟩, ⟨some 69, some (.int .i64 (IntKind.i64.wrap ((y3.length : Int) - 1))), fun _ => [], fun ds_ u_ => [], [], [], none⟩, ⟨some 70, some ((padd (sp u9) ((0 : Int).toNat * Packet_.rep.n))), fun _ => [], fun ds_ u_ => [], [], [(1, [7, 6, 5])], none⟩, ⟨some 71, some ((padd (sp u9) ((0 : Int).toNat * Packet_.rep.n + 2))), fun _ => [], fun ds_ u_ => [], [], [(1, [7, 6])], none⟩, ⟨none, some undef, fun _ => [], fun ds_ u_ => [(false, .slice 44 Packet_.rep u9 d1)], [1], [], none⟩] [[], [], [], [2], [3], [0], [5], [6]] [[(false, .box 27 (Rep.raw (α := List Packet_) u9) u5 ([]))], [(false, .slice 44 Packet_.rep u9 y3)]] [0, 2, 3, 4, 5, 6, 7, 8, 9] Try_mixed rfl rfl rfl h49 (.cons ?_ (.cons ?_ (.cons ?_ (.cons ?_ (.cons ?_ (.cons ?_ (.cons ?_ (.cons ?_ .nil)))))))) (fun q2 w hq2 h => ?_)
        ·intro q2 w Γx Ωx h
         have h : St e w ([(true, .val Rep.hollow u9 y3), (true, .ptr (Rep.int .i64) u7 y2.2), (false, .ptr (Rep.slice (Rep.int .u8)) u6 y2.1), (false, .val (Rep.slice (Rep.int .u8)) v5 a5)] ++ Γx) ([(false, .box 27 (Rep.raw (α := List Packet_) u9) u5 ([])), (false, .box 5 (Rep.int .u8) u1 a0), (false, .box 5 (Rep.int .u8) u2 a1), (false, .box 4 Rep.bool u3 a2), (false, .box 3 (Rep.int .i64) u4 a3), (true, .dfr D_)] ++ Ωx) := h
         refine OpS.loadR h .z PA.z (GetS.ok GetS.id) ty27 rfl rfl rfl rfl rfl ?_
         exact ⟨undef, rfl, trivial, h⟩
        ·intro q2 w Γx Ωx h
         have h : St e w ([(true, .val Rep.hollow u9 y3), (true, .ptr (Rep.int .i64) u7 y2.2), (false, .ptr (Rep.slice (Rep.int .u8)) u6 y2.1), (false, .val (Rep.slice (Rep.int .u8)) v5 a5)] ++ Γx) ([(false, .box 27 (Rep.raw (α := List Packet_) u9) u5 ([])), (false, .box 5 (Rep.int .u8) u1 a0), (false, .box 5 (Rep.int .u8) u2 a1), (false, .box 4 Rep.bool u3 a2), (false, .box 3 (Rep.int .i64) u4 a3), (true, .dfr D_)] ++ Ωx) := h
         refine OpS.loadR h .z PA.z (GetS.ok GetS.id) ty27 rfl rfl rfl rfl rfl ?_
         exact ⟨undef, rfl, trivial, h⟩
        ·intro q2 w Γx Ωx h
         have h : St e w ([(true, .val Rep.hollow u9 y3), (true, .ptr (Rep.int .i64) u7 y2.2), (false, .ptr (Rep.slice (Rep.int .u8)) u6 y2.1), (false, .val (Rep.slice (Rep.int .u8)) v5 a5)] ++ Γx) ([(false, .box 27 (Rep.raw (α := List Packet_) u9) u5 ([])), (false, .box 5 (Rep.int .u8) u1 a0), (false, .box 5 (Rep.int .u8) u2 a1), (false, .box 4 Rep.bool u3 a2), (false, .box 3 (Rep.int .i64) u4 a3), (true, .dfr D_)] ++ Ωx) := h
         refine OpS.loadR h .z PA.z (GetS.ok GetS.id) ty27 rfl rfl rfl rfl rfl ?_
         exact ⟨undef, rfl, trivial, h⟩
        ·intro q2 w Γx Ωx h
         refine OpS.lenH h Try.underlying27 rfl rfl rfl (V.at .z) ?_
         exact ⟨undef, rfl, trivial, h⟩
        ·intro q2 w Γx Ωx h
         refine OpS.bin rfl rfl rfl rfl rfl ?_
         exact ⟨undef, rfl, trivial, h⟩
        ·intro q2 w Γx Ωx h
         have h : St e w ([(true, .val Rep.hollow u9 y3), (true, .ptr (Rep.int .i64) u7 y2.2), (false, .ptr (Rep.slice (Rep.int .u8)) u6 y2.1), (false, .val (Rep.slice (Rep.int .u8)) v5 a5)] ++ Γx) ([(false, .slice 44 Packet_.rep u9 y3), (false, .box 5 (Rep.int .u8) u1 a0), (false, .box 5 (Rep.int .u8) u2 a1), (false, .box 4 Rep.bool u3 a2), (false, .box 3 (Rep.int .i64) u4 a3), (true, .dfr D_)] ++ Ωx) := h
         refine OpS.iown h .z Try.underlying27 ty44 rfl rfl rfl rfl e12 ?_
         exact ⟨undef, rfl, trivial, h⟩
        ·intro q2 w Γx Ωx h
         have h : St e w ([(true, .val Rep.hollow u9 y3), (true, .ptr (Rep.int .i64) u7 y2.2), (false, .ptr (Rep.slice (Rep.int .u8)) u6 y2.1), (false, .val (Rep.slice (Rep.int .u8)) v5 a5)] ++ Γx) ([(false, .slice 44 Packet_.rep u9 y3), (false, .box 5 (Rep.int .u8) u1 a0), (false, .box 5 (Rep.int .u8) u2 a1), (false, .box 4 Rep.bool u3 a2), (false, .box 3 (Rep.int .i64) u4 a3), (true, .dfr D_)] ++ Ωx) := h
         refine OpS.fown h .z (idx_ne e12) PA.a fa44_2 rfl rfl rfl ?_
         exact ⟨undef, rfl, trivial, h⟩
        ·intro q2 w Γx Ωx h
         have h : St e w ([(true, .val Rep.hollow u9 y3), (true, .ptr (Rep.int .i64) u7 y2.2), (false, .ptr (Rep.slice (Rep.int .u8)) u6 y2.1), (false, .val (Rep.slice (Rep.int .u8)) v5 a5)] ++ Γx) ([(false, .slice 44 Packet_.rep u9 y3), (false, .box 5 (Rep.int .u8) u1 a0), (false, .box 5 (Rep.int .u8) u2 a1), (false, .box 4 Rep.bool u3 a2), (false, .box 3 (Rep.int .i64) u4 a3), (true, .dfr D_)] ++ Ωx) := h
         refine OpS.storeO (f' := true) h .z (idx_ne e12) PA.a (Put.of (Put.comp (Get.arr e12) (Put.fld Packet_.f2) (Put.arr e12)) e13) ty4 rfl rfl rfl V.bool (.inr rfl) (fun w19 h51 => ?_)
         exact ⟨undef, trivial, trivial, h51⟩
        have h52 : St e w [(true, .val Rep.hollow u9 y3), (true, .ptr (Rep.int .i64) u7 y2.2), (false, .ptr (Rep.slice (Rep.int .u8)) u6 y2.1), (false, .val (Rep.slice (Rep.int .u8)) v5 a5)] [(false, .box 27 (Rep.raw (α := List Packet_) u9) u5 ([])), (false, .slice 44 Packet_.rep u9 d1), (false, .box 5 (Rep.int .u8) u1 a0), (false, .box 5 (Rep.int .u8) u2 a1), (false, .box 4 Rep.bool u3 a2), (false, .box 3 (Rep.int .i64) u4 a3), (true, .dfr D_)] := h
        obtain ⟨x6, e14, hF⟩ := bindP_use hF
        refine op (OpS.iown h52 (.s .z) Try.underlying27 ty44 rfl rfl rfl rfl e14 ?_)
        refine op (OpS.fown h52 (.s .z) (idx_ne e14) PA.a fa44_3 rfl rfl rfl ?_)
        obtain ⟨d2, e15, hF⟩ := letP_use hF
        refine op (OpS.storeO (f' := true) h52 (.s .z) (idx_ne e14) PA.a (Put.of (Put.comp (Get.arr e14) (Put.fld Packet_.f3) (Put.arr e14)) e15) ty4 rfl rfl rfl V.bool (.inr rfl) (fun w20 h53 => ?_))
        refine RunL.nil ?_
        refine Run.slim [(14, u5)] ⟨rfl, trivial⟩ ?_
        refine Run.seq ?_
        refine Run.reg ?_
        refine op (OpS.loadR h53 (.s .z) PA.z (GetS.ok GetS.id) ty27 rfl rfl rfl rfl rfl ?_)
        refine op (OpS.as rfl rfl rfl ?_)
        refine op (OpS.as rfl rfl rfl ?_)
        refine RunL.nil ?_
        refine Run.slim [(13, .int .i64 0), (12, u9)] ⟨rfl, rfl, trivial⟩ ?_
        refine Run.retPD h53 (.s (.s (.s (.s (.s (.s .z)))))) rfl (fun w21 h54 => ⟨_, (.tmp rfl (.tmp rfl .nil)), ?_⟩)
        cases hF
        exact Post.mk' ⟨u9, rfl, rfl, rfl, rfl⟩ (h54.picks (.cons .z .nil)) .nil
   ·
    refine RunL.caseb hF (fun e16 hF => ?_) (fun e16 hF => ?_)
    ·
     refine op (OpS.pass rfl rfl rfl ?_)
     refine op (OpS.pass rfl rfl rfl ?_)
     refine op (OpS.pick rfl rfl rfl rfl ?_)
     refine op (OpS.mv rfl rfl rfl ?_)
     refine op (OpS.pass rfl rfl rfl ?_)
     refine op (OpS.pass rfl rfl rfl ?_)
     refine op (OpS.pick rfl rfl rfl rfl ?_)
     refine op (OpS.mv rfl rfl rfl ?_)
     refine op (OpS.pass rfl rfl rfl ?_)
     refine op (OpS.pass rfl rfl rfl ?_)
     refine op (OpS.pick rfl rfl rfl rfl ?_)
     refine op (OpS.as rfl rfl rfl ?_)
     refine RunL.nil ?_
     refine Run.slim [(25, .bool true), (4, .int .i64 a4), (5, v5), (6, u1), (7, u2), (8, u3), (9, u4)] ⟨rfl, rfl, rfl, rfl, rfl, rfl, rfl, trivial⟩ ?_
     refine Run.slim [(4, .int .i64 a4), (5, v5), (6, u1), (7, u2), (8, u3), (9, u4), (25, .bool true)] ⟨rfl, rfl, rfl, rfl, rfl, rfl, rfl, trivial⟩ ?_
     exact hj2 (true) _ _ ⟨rfl, (h7.facts (.atm .z .nil)).picks (.cons .z (.cons .z (.cons .z (.cons .z .nil))))⟩ hF
    ·
     refine op (OpS.loadBi h7 (.s (.s (.s .z))) PA.z Get.id ty3 rfl rfl rfl ?_)
     refine op (OpS.bin rfl rfl rfl rfl rfl ?_)
     refine op (OpS.pick rfl rfl rfl rfl ?_)
     refine op (OpS.mv rfl rfl rfl ?_)
     refine RunL.caseb hF (fun e17 hF => ?_) (fun e17 hF => ?_)
     ·
      refine op (OpS.pass rfl rfl rfl ?_)
      refine op (OpS.pass rfl rfl rfl ?_)
      refine op (OpS.pick rfl rfl rfl rfl ?_)
      refine op (OpS.mv rfl rfl rfl ?_)
      refine op (OpS.pass rfl rfl rfl ?_)
      refine op (OpS.pass rfl rfl rfl ?_)
      refine op (OpS.pick rfl rfl rfl rfl ?_)
      refine op (OpS.as rfl rfl rfl ?_)
      refine RunL.nil ?_
      refine Run.slim [(25, .bool true), (4, .int .i64 a4), (5, v5), (6, u1), (7, u2), (8, u3), (9, u4)] ⟨rfl, rfl, rfl, rfl, rfl, rfl, rfl, trivial⟩ ?_
      refine Run.slim [(4, .int .i64 a4), (5, v5), (6, u1), (7, u2), (8, u3), (9, u4), (25, .bool true)] ⟨rfl, rfl, rfl, rfl, rfl, rfl, rfl, trivial⟩ ?_
      exact hj2 (true) _ _ ⟨rfl, (h7.facts (.atm .z .nil)).picks (.cons .z (.cons .z (.cons .z (.cons .z .nil))))⟩ hF
     ·
      refine op (OpS.mv rfl rfl rfl ?_)
      refine op (OpS.bin rfl rfl rfl rfl rfl ?_)
      refine op (OpS.pick rfl rfl rfl rfl ?_)
      refine op (OpS.mv rfl rfl rfl ?_)
      refine RunL.caseb hF (fun e18 hF => ?_) (fun e18 hF => ?_)
      ·
       refine op (OpS.pass rfl rfl rfl ?_)
       refine op (OpS.pass rfl rfl rfl ?_)
       refine op (OpS.pick rfl rfl rfl rfl ?_)
       refine op (OpS.as rfl rfl rfl ?_)
       refine RunL.nil ?_
       refine Run.slim [(25, .bool true), (4, .int .i64 a4), (5, v5), (6, u1), (7, u2), (8, u3), (9, u4)] ⟨rfl, rfl, rfl, rfl, rfl, rfl, rfl, trivial⟩ ?_
       refine Run.slim [(4, .int .i64 a4), (5, v5), (6, u1), (7, u2), (8, u3), (9, u4), (25, .bool true)] ⟨rfl, rfl, rfl, rfl, rfl, rfl, rfl, trivial⟩ ?_
       exact hj2 (true) _ _ ⟨rfl, (h7.facts (.atm .z .nil)).picks (.cons .z (.cons .z (.cons .z (.cons .z .nil))))⟩ hF
      ·
       refine op (OpS.mv rfl rfl rfl ?_)
       refine op (OpS.bin rfl rfl rfl rfl rfl ?_)
       refine op (OpS.pick rfl rfl rfl rfl ?_)
       refine op (OpS.as rfl rfl rfl ?_)
       obtain ⟨x7, e19, hF⟩ := letP_use hF
       refine RunL.nameb e19 ?_
       refine RunL.nil ?_
       refine Run.slim [(25, .bool x7), (4, .int .i64 a4), (5, v5), (6, u1), (7, u2), (8, u3), (9, u4)] ⟨rfl, rfl, rfl, rfl, rfl, rfl, rfl, trivial⟩ ?_
       refine Run.slim [(4, .int .i64 a4), (5, v5), (6, u1), (7, u2), (8, u3), (9, u4), (25, .bool x7)] ⟨rfl, rfl, rfl, rfl, rfl, rfl, rfl, trivial⟩ ?_
       exact hj2 (x7) _ _ ⟨rfl, (h7.facts (.atm .z .nil)).picks (.cons .z (.cons .z (.cons .z (.cons .z .nil))))⟩ hF
 ·
  refine RunL.caseb hF (fun e20 hF => ?_) (fun e20 hF => ?_)
  ·
   refine op (OpS.pass rfl rfl rfl ?_)
   refine op (OpS.pass rfl rfl rfl ?_)
   refine op (OpS.pass rfl rfl rfl ?_)
   refine op (OpS.pick rfl rfl rfl rfl ?_)
   refine op (OpS.as rfl rfl rfl ?_)
   refine RunL.nil ?_
   refine Run.slim [(16, .bool true), (9, u4), (8, u3), (7, u2), (6, u1), (4, .int .i64 a4), (5, v5)] ⟨rfl, rfl, rfl, rfl, rfl, rfl, rfl, trivial⟩ ?_
   refine Run.slim [(4, .int .i64 a4), (5, v5), (6, u1), (7, u2), (8, u3), (9, u4), (16, .bool true)] ⟨rfl, rfl, rfl, rfl, rfl, rfl, rfl, trivial⟩ ?_
   exact hj1 (true) _ _ ⟨rfl, (h6.facts (.atm .z .nil)).picks (.cons (.s (.s (.s .z))) (.cons (.s (.s .z)) (.cons (.s .z) (.cons .z .nil))))⟩ hF
  ·
   refine op (OpS.loadBi h6 (.s (.s .z)) PA.z Get.id ty5 rfl rfl rfl ?_)
   obtain ⟨y5, e21, hF⟩ := bindP_use hF
   refine op (OpS.callP h6 Try.func38 rfl rfl rfl rfl (vs := [.int .u8 a1]) rfl (fragment_endpoint_ok e21) .nil ?_)
   rintro _ w22 _ _ _ ⟨rfl, rfl, rfl, rfl⟩ h55
   have h56 := h55 rfl rfl
   simp only [List.cons_append, List.nil_append] at h56
   refine op (OpS.not rfl rfl rfl ?_)
   refine op (OpS.pick rfl rfl rfl rfl ?_)
   refine op (OpS.as rfl rfl rfl ?_)
   obtain ⟨x8, e22, hF⟩ := letP_use hF
   refine RunL.nameb e22 ?_
   refine RunL.nil ?_
   refine Run.slim [(16, .bool x8), (9, u4), (8, u3), (7, u2), (6, u1), (4, .int .i64 a4), (5, v5)] ⟨rfl, rfl, rfl, rfl, rfl, rfl, rfl, trivial⟩ ?_
   refine Run.slim [(4, .int .i64 a4), (5, v5), (6, u1), (7, u2), (8, u3), (9, u4), (16, .bool x8)] ⟨rfl, rfl, rfl, rfl, rfl, rfl, rfl, trivial⟩ ?_
   exact hj1 (x8) _ _ ⟨rfl, (h56.facts (.atm .z .nil)).picks (.cons (.s (.s (.s .z))) (.cons (.s (.s .z)) (.cons (.s .z) (.cons .z .nil))))⟩ hF
theorem fragment_New_ok {fuel : Nat} {a0 : Int} {y : (Option fragment_Assembler) × Int} (hF : fragment_New fuel a0 = some y) {w : World} :
  Spec Try.prog 17 [.int .u8 a0].toArray w [] [] (fun v Γr Ωr Ωo => ∃ u0 : Value, v = .tuple #[u0, .int .i64 y.2] ∧ Γr = [] ∧ Ωr = [(true, .opt (fun x_ => .ex fun v_ => .sep (.box 83 (Rep.iso (fun s : fragment_Assembler => (s.own, s.open_, ())) (Rep.prod (Rep.int .u8) (Rep.prod (Rep.raw (α := List fragment_open) v_) Rep.unit))) u0 x_) (.oval (oslice 92 6 (fun _ => fragment_open.orep)) v_ x_.open_)) u0 y.1)] ∧ Ωo = []) := by
 refine Spec.of (L := [(0, .int .u8 a0)]) Try.func17 rfl ⟨rfl, trivial⟩ rfl (fun e h => ?_)
 unfold fragment_New at hF
 refine Run.seq ?_
 refine Run.reg ?_
 refine op (OpS.as rfl rfl rfl ?_)
 refine op (OpS.as rfl rfl rfl ?_)
 refine RunL.nil ?_
 refine Run.slim [(0, .int .u8 a0)] ⟨rfl, trivial⟩ ?_
 refine Run.seq ?_
 refine Run.seq ?_
 refine Run.reg ?_
 refine op (OpS.mv rfl rfl rfl ?_)
 obtain ⟨y1, e1, hF⟩ := bindP_use hF
 refine op (OpS.callP h Try.func38 rfl rfl rfl rfl (vs := [.int .u8 a0]) rfl (fragment_endpoint_ok e1) .nil ?_)
 rintro _ w1 _ _ _ ⟨rfl, rfl, rfl, rfl⟩ h1
 have h2 := h1 rfl rfl
 simp only [List.cons_append, List.nil_append] at h2
 refine op (OpS.not rfl rfl rfl ?_)
 refine RunL.nil ?_
 refine Run.slim [(6, .bool (!y1)), (0, .int .u8 a0)] ⟨rfl, rfl, trivial⟩ ?_
 refine Run.ite rfl hF (fun e2 hF => ?_) (fun e2 hF => ?_)
 ·
  refine Run.seq ?_
  refine Run.reg ?_
  refine op (OpS.as rfl rfl rfl ?_)
  refine op (OpS.as rfl rfl rfl ?_)
  refine RunL.nil ?_
  refine Run.slim [(3, .int .i64 13), (2, .pointer none)] ⟨rfl, rfl, trivial⟩ ?_
  have h3 := St.none (fun x_ => .ex fun v_ => .sep (.box 83 (Rep.iso (fun s : fragment_Assembler => (s.own, s.open_, ())) (Rep.prod (Rep.int .u8) (Rep.prod (Rep.raw (α := List fragment_open) v_) Rep.unit))) (.pointer none) x_) (.oval (oslice 92 6 (fun _ => fragment_open.orep)) v_ x_.open_)) h2
  refine Run.retP rfl (.tmp rfl (.tmp rfl .nil)) ?_
  cases hF
  exact Post.mk' ⟨(.pointer none), rfl, rfl, rfl, rfl⟩ (h3.picks (.cons .z .nil)) .nil
 ·
  refine Run.skip ?_
  refine Run.seq ?_
  refine Run.reg ?_
  refine op (OpS.mv rfl rfl rfl ?_)
  have h4 := St.nilD 92 6 (fun _ => fragment_open.orep) h2
  refine op (OpS.buildC (f := true) (r := (Rep.iso (fun s : fragment_Assembler => (s.own, s.open_, ())) (Rep.prod (Rep.int .u8) (Rep.prod (Rep.raw (α := List fragment_open) (.slice none 0 0)) Rep.unit)))) (x := fragment_Assembler.z) (r' := (Rep.iso (fun s : fragment_Assembler => (s.own, s.open_, ())) (Rep.prod (Rep.int .u8) (Rep.prod (Rep.raw (α := List fragment_open) (.slice none 0 0)) Rep.unit)))) (x' := (⟨a0, []⟩ : fragment_Assembler)) h4 pl83 ti83 (Zr.iso (y := fragment_Assembler.z) _ (Zr.of (Zr.prod (Zr.int .u8 0) (Zr.prod (Zr.raw rfl ([] : List fragment_open)) Zr.unit)) (by rfl))) rfl rfl rfl (.cons (Rep.int .u8) (Rep.iso (fun s : fragment_Assembler => (s.own, s.open_, ())) (Rep.prod (Rep.int .u8) (Rep.prod (Rep.raw (α := List fragment_open) (.slice none 0 0)) Rep.unit))) (Rep.iso (fun s : fragment_Assembler => (s.own, s.open_, ())) (Rep.prod (Rep.int .u8) (Rep.prod (Rep.raw (α := List fragment_open) (.slice none 0 0)) Rep.unit))) fragment_Assembler.z (⟨a0, []⟩ : fragment_Assembler) (Chg.iso _ (Chg.here (Chg.id (by rfl)))) rfl rfl V.int .nil) (fun u1 h5 => ?_))
  refine op (OpS.box (f' := true) h5 rfl rfl rfl (V.at .z) (fun u2 w2 h6 => ?_))
  refine op (OpS.as rfl rfl rfl ?_)
  refine op (OpS.as rfl rfl rfl ?_)
  refine RunL.nil ?_
  refine Run.slim [(3, .int .i64 0), (2, u2)] ⟨rfl, rfl, trivial⟩ ?_
  have h7 := St.boxJ (r' := (Rep.iso (fun s : fragment_Assembler => (s.own, s.open_, ())) (Rep.prod (Rep.int .u8) (Rep.prod (Rep.raw (α := List fragment_open) (.slice none 0 0)) Rep.unit)))) (x' := { (⟨a0, []⟩ : fragment_Assembler) with open_ := [] }) (h6.pick .z) (fun _ _ hs_ => (Jn.iso _ (Jn.prod Jn.refl (Jn.prod Jn.same Jn.refl))))
  have h8 := h7.front (.cons .z (.cons .z .nil))
  have h9 := St.some (H := (fun x_ => .ex fun v_ => .sep (.box 83 (Rep.iso (fun s : fragment_Assembler => (s.own, s.open_, ())) (Rep.prod (Rep.int .u8) (Rep.prod (Rep.raw (α := List fragment_open) v_) Rep.unit))) u2 x_) (.oval (oslice 92 6 (fun _ => fragment_open.orep)) v_ x_.open_))) (q := u2) (x := { (⟨a0, []⟩ : fragment_Assembler) with open_ := [] }) (St.ex (H := fun v_ => .sep (.box 83 (Rep.iso (fun s : fragment_Assembler => (s.own, s.open_, ())) (Rep.prod (Rep.int .u8) (Rep.prod (Rep.raw (α := List fragment_open) v_) Rep.unit))) u2 ({ (⟨a0, []⟩ : fragment_Assembler) with open_ := [] })) (.oval (oslice 92 6 (fun _ => fragment_open.orep)) v_ (({ (⟨a0, []⟩ : fragment_Assembler) with open_ := [] }).open_))) (.slice none 0 0) (St.sep h8))
  refine Run.retP rfl (.tmp rfl (.tmp rfl .nil)) ?_
  cases hF
  exact Post.mk' ⟨u2, rfl, rfl, rfl, rfl⟩ (h9.picks (.cons .z .nil)) .nil
theorem fragment_Valid_ok {fuel : Nat} {a0 : Packet_} {y : Bool} (hF : fragment_Valid fuel a0 = some y) {w : World} {v0 : Value} :
  Spec Try.prog 30 [v0].toArray w [(false, .val Packet_.rep v0 a0)] [] (fun v Γr Ωr Ωo => v = .bool y ∧ Γr = [] ∧ Ωr = [] ∧ Ωo = []) := by
 refine Spec.of (L := [(0, v0)]) Try.func30 rfl ⟨rfl, trivial⟩ rfl (fun e h => ?_)
 unfold fragment_Valid at hF
 refine Run.seq ?_
 refine Run.reg ?_
 refine op (OpS.boxF h rfl rfl rfl (V.at .z) (fun u1 w1 h1 => ?_))
 refine op (OpS.as rfl rfl rfl ?_)
 refine RunL.nil ?_
 refine Run.slim [(1, u1)] ⟨rfl, trivial⟩ ?_
 refine Run.seq ?_
 refine Run.reg ?_
 refine op (OpS.fbox (o3 := 0) h1 .z PA.z fa44_0 rfl rfl rfl rfl ?_)
 refine op (OpS.loadBi h1 .z PA.a (Get.fld Packet_.f0) ty5 rfl rfl rfl ?_)
 obtain ⟨y1, e1, hF⟩ := bindP_use hF
 refine op (OpS.callP h1 Try.func38 rfl rfl rfl rfl (vs := [.int .u8 a0.To]) rfl (fragment_endpoint_ok e1) .nil ?_)
 rintro _ w2 _ _ _ ⟨rfl, rfl, rfl, rfl⟩ h2
 have h3 := h2 rfl rfl
 simp only [List.cons_append, List.nil_append] at h3
 refine op (OpS.mv rfl rfl rfl ?_)
 refine RunL.caseb hF (fun e2 hF => ?_) (fun e2 hF => ?_)
 ·
  refine op (OpS.fbox (o3 := 1) h3 .z PA.z fa44_1 rfl rfl rfl rfl ?_)
  refine op (OpS.loadBi h3 .z PA.a (Get.fld Packet_.f1) ty5 rfl rfl rfl ?_)
  obtain ⟨y2, e3, hF⟩ := bindP_use hF
  refine op (OpS.callP h3 Try.func38 rfl rfl rfl rfl (vs := [.int .u8 a0.From]) rfl (fragment_endpoint_ok e3) .nil ?_)
  rintro _ w3 _ _ _ ⟨rfl, rfl, rfl, rfl⟩ h4
  have h5 := h4 rfl rfl
  simp only [List.cons_append, List.nil_append] at h5
  refine op (OpS.pick rfl rfl rfl rfl ?_)
  refine op (OpS.mv rfl rfl rfl ?_)
  refine RunL.caseb hF (fun e4 hF => ?_) (fun e4 hF => ?_)
  ·
   refine op (OpS.fbox (o3 := 4) h5 .z PA.z fa44_4 rfl rfl rfl rfl ?_)
   refine op (OpS.loadBi h5 .z PA.a (Get.fld Packet_.f4) ty3 rfl rfl rfl ?_)
   refine op (OpS.bin rfl rfl rfl rfl rfl ?_)
   refine op (OpS.pick rfl rfl rfl rfl ?_)
   refine op (OpS.mv rfl rfl rfl ?_)
   refine RunL.caseb hF (fun e5 hF => ?_) (fun e5 hF => ?_)
   ·
    refine op (OpS.fbox (o3 := 4) h5 .z PA.z fa44_4 rfl rfl rfl rfl ?_)
    refine op (OpS.loadBi h5 .z PA.a (Get.fld Packet_.f4) ty3 rfl rfl rfl ?_)
    refine op (OpS.bin rfl rfl rfl rfl rfl ?_)
    refine op (OpS.pick rfl rfl rfl rfl ?_)
    refine op (OpS.mv rfl rfl rfl ?_)
    refine RunL.caseb hF (fun e6 hF => ?_) (fun e6 hF => ?_)
    ·
     refine op (OpS.fbox (o3 := 6) h5 .z PA.z fa44_6 rfl rfl rfl rfl ?_)
     refine op (OpS.loadBi h5 .z PA.a (Get.fld Packet_.f6) ty3 rfl rfl rfl ?_)
     refine op (OpS.bin rfl rfl rfl rfl rfl ?_)
     refine op (OpS.pick rfl rfl rfl rfl ?_)
     refine op (OpS.mv rfl rfl rfl ?_)
     refine RunL.caseb hF (fun e7 hF => ?_) (fun e7 hF => ?_)
     ·
      refine op (OpS.fbox (o3 := 6) h5 .z PA.z fa44_6 rfl rfl rfl rfl ?_)
      refine op (OpS.loadBi h5 .z PA.a (Get.fld Packet_.f6) ty3 rfl rfl rfl ?_)
      refine op (OpS.bin rfl rfl rfl rfl rfl ?_)
      refine op (OpS.pick rfl rfl rfl rfl ?_)
      refine op (OpS.mv rfl rfl rfl ?_)
      refine RunL.caseb hF (fun e8 hF => ?_) (fun e8 hF => ?_)
      ·
       refine op (OpS.fbox (o3 := 7) h5 .z PA.z fa44_7 rfl rfl rfl rfl ?_)
       refine op (OpS.loadB h5 .z PA.a (Get.fld Packet_.f7) ty22 rfl rfl rfl (fun u2 h6 => ?_))
       refine op (OpS.len h6 Try.underlying22 rfl rfl rfl (V.at .z) ?_)
       refine op (OpS.bin rfl rfl rfl rfl rfl ?_)
       refine op (OpS.pick rfl rfl rfl rfl ?_)
       refine op (OpS.mv rfl rfl rfl ?_)
       refine RunL.caseb hF (fun e9 hF => ?_) (fun e9 hF => ?_)
       ·
        refine op (OpS.fbox (o3 := 7) h6 .z PA.z fa44_7 rfl rfl rfl rfl ?_)
        refine op (OpS.loadB h6 .z PA.a (Get.fld Packet_.f7) ty22 rfl rfl rfl (fun u3 h7 => ?_))
        refine op (OpS.len h7 Try.underlying22 rfl rfl rfl (V.at .z) ?_)
        refine op (OpS.bin rfl rfl rfl rfl rfl ?_)
        refine op (OpS.pick rfl rfl rfl rfl ?_)
        refine op (OpS.as rfl rfl rfl ?_)
        obtain ⟨x1, e10, hF⟩ := letP_use hF
        refine RunL.nameb e10 ?_
        refine RunL.nil ?_
        refine Run.slim [(2, .bool x1)] ⟨rfl, trivial⟩ ?_
        refine Run.retP rfl (.tmp rfl .nil) ?_
        cases hF
        exact Post.mk' ⟨rfl, rfl, rfl, rfl⟩ (h7.picks .nil) .nil
       ·
        refine op (OpS.pass rfl rfl rfl ?_)
        refine op (OpS.pass rfl rfl rfl ?_)
        refine op (OpS.pass rfl rfl rfl ?_)
        refine op (OpS.pass rfl rfl rfl ?_)
        refine op (OpS.pick rfl rfl rfl rfl ?_)
        refine op (OpS.as rfl rfl rfl ?_)
        refine RunL.nil ?_
        refine Run.slim [(2, .bool false)] ⟨rfl, trivial⟩ ?_
        refine Run.retP rfl (.tmp rfl .nil) ?_
        cases hF
        exact Post.mk' ⟨rfl, rfl, rfl, rfl⟩ (h6.picks .nil) .nil
      ·
       refine op (OpS.pass rfl rfl rfl ?_)
       refine op (OpS.pass rfl rfl rfl ?_)
       refine op (OpS.pass rfl rfl rfl ?_)
       refine op (OpS.pass rfl rfl rfl ?_)
       refine op (OpS.pick rfl rfl rfl rfl ?_)
       refine op (OpS.mv rfl rfl rfl ?_)
       refine op (OpS.pass rfl rfl rfl ?_)
       refine op (OpS.pass rfl rfl rfl ?_)
       refine op (OpS.pass rfl rfl rfl ?_)
       refine op (OpS.pass rfl rfl rfl ?_)
       refine op (OpS.pick rfl rfl rfl rfl ?_)
       refine op (OpS.as rfl rfl rfl ?_)
       refine RunL.nil ?_
       refine Run.slim [(2, .bool false)] ⟨rfl, trivial⟩ ?_
       refine Run.retP rfl (.tmp rfl .nil) ?_
       cases hF
       exact Post.mk' ⟨rfl, rfl, rfl, rfl⟩ (h5.picks .nil) .nil
     ·
      refine op (OpS.pass rfl rfl rfl ?_)
      refine op (OpS.pass rfl rfl rfl ?_)
      refine op (OpS.pass rfl rfl rfl ?_)
      refine op (OpS.pick rfl rfl rfl rfl ?_)
      refine op (OpS.mv rfl rfl rfl ?_)
      refine op (OpS.pass rfl rfl rfl ?_)
      refine op (OpS.pass rfl rfl rfl ?_)
      refine op (OpS.pass rfl rfl rfl ?_)
      refine op (OpS.pass rfl rfl rfl ?_)
      refine op (OpS.pick rfl rfl rfl rfl ?_)
      refine op (OpS.mv rfl rfl rfl ?_)
      refine op (OpS.pass rfl rfl rfl ?_)
      refine op (OpS.pass rfl rfl rfl ?_)
      refine op (OpS.pass rfl rfl rfl ?_)
      refine op (OpS.pass rfl rfl rfl ?_)
      refine op (OpS.pick rfl rfl rfl rfl ?_)
      refine op (OpS.as rfl rfl rfl ?_)
      refine RunL.nil ?_
      refine Run.slim [(2, .bool false)] ⟨rfl, trivial⟩ ?_
      refine Run.retP rfl (.tmp rfl .nil) ?_
      cases hF
      exact Post.mk' ⟨rfl, rfl, rfl, rfl⟩ (h5.picks .nil) .nil
    ·
     refine op (OpS.pass rfl rfl rfl ?_)
     refine op (OpS.pass rfl rfl rfl ?_)
     refine op (OpS.pass rfl rfl rfl ?_)
     refine op (OpS.pick rfl rfl rfl rfl ?_)
     refine op (OpS.mv rfl rfl rfl ?_)
     refine op (OpS.pass rfl rfl rfl ?_)
     refine op (OpS.pass rfl rfl rfl ?_)
     refine op (OpS.pass rfl rfl rfl ?_)
     refine op (OpS.pick rfl rfl rfl rfl ?_)
     refine op (OpS.mv rfl rfl rfl ?_)
     refine op (OpS.pass rfl rfl rfl ?_)
     refine op (OpS.pass rfl rfl rfl ?_)
     refine op (OpS.pass rfl rfl rfl ?_)
     refine op (OpS.pass rfl rfl rfl ?_)
     refine op (OpS.pick rfl rfl rfl rfl ?_)
     refine op (OpS.mv rfl rfl rfl ?_)
     refine op (OpS.pass rfl rfl rfl ?_)
     refine op (OpS.pass rfl rfl rfl ?_)
     refine op (OpS.pass rfl rfl rfl ?_)
     refine op (OpS.pass rfl rfl rfl ?_)
     refine op (OpS.pick rfl rfl rfl rfl ?_)
     refine op (OpS.as rfl rfl rfl ?_)
     refine RunL.nil ?_
     refine Run.slim [(2, .bool false)] ⟨rfl, trivial⟩ ?_
     refine Run.retP rfl (.tmp rfl .nil) ?_
     cases hF
     exact Post.mk' ⟨rfl, rfl, rfl, rfl⟩ (h5.picks .nil) .nil
   ·
    refine op (OpS.pass rfl rfl rfl ?_)
    refine op (OpS.pass rfl rfl rfl ?_)
    refine op (OpS.pass rfl rfl rfl ?_)
    refine op (OpS.pick rfl rfl rfl rfl ?_)
    refine op (OpS.mv rfl rfl rfl ?_)
    refine op (OpS.pass rfl rfl rfl ?_)
    refine op (OpS.pass rfl rfl rfl ?_)
    refine op (OpS.pass rfl rfl rfl ?_)
    refine op (OpS.pick rfl rfl rfl rfl ?_)
    refine op (OpS.mv rfl rfl rfl ?_)
    refine op (OpS.pass rfl rfl rfl ?_)
    refine op (OpS.pass rfl rfl rfl ?_)
    refine op (OpS.pass rfl rfl rfl ?_)
    refine op (OpS.pick rfl rfl rfl rfl ?_)
    refine op (OpS.mv rfl rfl rfl ?_)
    refine op (OpS.pass rfl rfl rfl ?_)
    refine op (OpS.pass rfl rfl rfl ?_)
    refine op (OpS.pass rfl rfl rfl ?_)
    refine op (OpS.pass rfl rfl rfl ?_)
    refine op (OpS.pick rfl rfl rfl rfl ?_)
    refine op (OpS.mv rfl rfl rfl ?_)
    refine op (OpS.pass rfl rfl rfl ?_)
    refine op (OpS.pass rfl rfl rfl ?_)
    refine op (OpS.pass rfl rfl rfl ?_)
    refine op (OpS.pass rfl rfl rfl ?_)
    refine op (OpS.pick rfl rfl rfl rfl ?_)
    refine op (OpS.as rfl rfl rfl ?_)
    refine RunL.nil ?_
    refine Run.slim [(2, .bool false)] ⟨rfl, trivial⟩ ?_
    refine Run.retP rfl (.tmp rfl .nil) ?_
    cases hF
    exact Post.mk' ⟨rfl, rfl, rfl, rfl⟩ (h5.picks .nil) .nil
  ·
   refine op (OpS.pass rfl rfl rfl ?_)
   refine op (OpS.pass rfl rfl rfl ?_)
   refine op (OpS.pass rfl rfl rfl ?_)
   refine op (OpS.pick rfl rfl rfl rfl ?_)
   refine op (OpS.mv rfl rfl rfl ?_)
   refine op (OpS.pass rfl rfl rfl ?_)
   refine op (OpS.pass rfl rfl rfl ?_)
   refine op (OpS.pass rfl rfl rfl ?_)
   refine op (OpS.pick rfl rfl rfl rfl ?_)
   refine op (OpS.mv rfl rfl rfl ?_)
   refine op (OpS.pass rfl rfl rfl ?_)
   refine op (OpS.pass rfl rfl rfl ?_)
   refine op (OpS.pass rfl rfl rfl ?_)
   refine op (OpS.pick rfl rfl rfl rfl ?_)
   refine op (OpS.mv rfl rfl rfl ?_)
   refine op (OpS.pass rfl rfl rfl ?_)
   refine op (OpS.pass rfl rfl rfl ?_)
   refine op (OpS.pass rfl rfl rfl ?_)
   refine op (OpS.pick rfl rfl rfl rfl ?_)
   refine op (OpS.mv rfl rfl rfl ?_)
   refine op (OpS.pass rfl rfl rfl ?_)
   refine op (OpS.pass rfl rfl rfl ?_)
   refine op (OpS.pass rfl rfl rfl ?_)
   refine op (OpS.pass rfl rfl rfl ?_)
   refine op (OpS.pick rfl rfl rfl rfl ?_)
   refine op (OpS.mv rfl rfl rfl ?_)
   refine op (OpS.pass rfl rfl rfl ?_)
   refine op (OpS.pass rfl rfl rfl ?_)
   refine op (OpS.pass rfl rfl rfl ?_)
   refine op (OpS.pass rfl rfl rfl ?_)
   refine op (OpS.pick rfl rfl rfl rfl ?_)
   refine op (OpS.as rfl rfl rfl ?_)
   refine RunL.nil ?_
   refine Run.slim [(2, .bool false)] ⟨rfl, trivial⟩ ?_
   refine Run.retP rfl (.tmp rfl .nil) ?_
   cases hF
   exact Post.mk' ⟨rfl, rfl, rfl, rfl⟩ (h5.picks .nil) .nil
 ·
  refine op (OpS.pass rfl rfl rfl ?_)
  refine op (OpS.pass rfl rfl rfl ?_)
  refine op (OpS.pass rfl rfl rfl ?_)
  refine op (OpS.pick rfl rfl rfl rfl ?_)
  refine op (OpS.mv rfl rfl rfl ?_)
  refine op (OpS.pass rfl rfl rfl ?_)
  refine op (OpS.pass rfl rfl rfl ?_)
  refine op (OpS.pass rfl rfl rfl ?_)
  refine op (OpS.pick rfl rfl rfl rfl ?_)
  refine op (OpS.mv rfl rfl rfl ?_)
  refine op (OpS.pass rfl rfl rfl ?_)
  refine op (OpS.pass rfl rfl rfl ?_)
  refine op (OpS.pass rfl rfl rfl ?_)
  refine op (OpS.pick rfl rfl rfl rfl ?_)
  refine op (OpS.mv rfl rfl rfl ?_)
  refine op (OpS.pass rfl rfl rfl ?_)
  refine op (OpS.pass rfl rfl rfl ?_)
  refine op (OpS.pass rfl rfl rfl ?_)
  refine op (OpS.pick rfl rfl rfl rfl ?_)
  refine op (OpS.mv rfl rfl rfl ?_)
  refine op (OpS.pass rfl rfl rfl ?_)
  refine op (OpS.pass rfl rfl rfl ?_)
  refine op (OpS.pass rfl rfl rfl ?_)
  refine op (OpS.pick rfl rfl rfl rfl ?_)
  refine op (OpS.mv rfl rfl rfl ?_)
  refine op (OpS.pass rfl rfl rfl ?_)
  refine op (OpS.pass rfl rfl rfl ?_)
  refine op (OpS.pass rfl rfl rfl ?_)
  refine op (OpS.pass rfl rfl rfl ?_)
  refine op (OpS.pick rfl rfl rfl rfl ?_)
  refine op (OpS.mv rfl rfl rfl ?_)
  refine op (OpS.pass rfl rfl rfl ?_)
  refine op (OpS.pass rfl rfl rfl ?_)
  refine op (OpS.pass rfl rfl rfl ?_)
  refine op (OpS.pass rfl rfl rfl ?_)
  refine op (OpS.pick rfl rfl rfl rfl ?_)
  refine op (OpS.as rfl rfl rfl ?_)
  refine RunL.nil ?_
  refine Run.slim [(2, .bool false)] ⟨rfl, trivial⟩ ?_
  refine Run.retP rfl (.tmp rfl .nil) ?_
  cases hF
  exact Post.mk' ⟨rfl, rfl, rfl, rfl⟩ (h3.picks .nil) .nil
theorem fragment_Assembler_find_1_2_ok {fuel : Nat} {a0 : fragment_open} {a1 : Packet_} {y : Bool} (hF : fragment_Assembler_find_1_2 fuel a0 a1 = some y) {w : World} {v0 v1 : Value} :
  Spec Try.prog 51 [v0, v1].toArray w [(false, .val fragment_open.rep v0 a0), (false, .ptr Packet_.rep v1 a1)] [] (fun v Γr Ωr Ωo => v = .bool y ∧ Γr = [] ∧ Ωr = [] ∧ Ωo = []) := by
 refine Spec.of (L := [(0, v0), (1, v1)]) Try.func51 rfl ⟨rfl, rfl, trivial⟩ rfl (fun e h => ?_)
 unfold fragment_Assembler_find_1_2 at hF
 refine Run.seq ?_
 refine Run.reg ?_
 refine op (OpS.boxF h rfl rfl rfl (V.at .z) (fun u1 w1 h1 => ?_))
 refine op (OpS.as rfl rfl rfl ?_)
 refine RunL.nil ?_
 refine Run.slim [(2, u1), (1, v1)] ⟨rfl, rfl, trivial⟩ ?_
 refine Run.seq ?_
 refine Run.reg ?_
 refine op (OpS.fbox (o3 := 0) h1 .z PA.z fa92_0 rfl rfl rfl rfl ?_)
 refine op (OpS.fbox (o3 := 0) h1 .z PA.a fa51_0 rfl rfl rfl rfl ?_)
 refine op (OpS.loadBi h1 .z PA.a (Get.comp (Get.fld fragment_open.f0) (Get.fld Whole_.f0)) ty5 rfl rfl rfl ?_)
 refine op (OpS.fptr h1 fa44_1 Packet_.f1 rfl rfl rfl (.s .z) (fun u2 h2 => ?_))
 refine op (OpS.loadi h2 ty5 rfl rfl rfl .z ?_)
 refine op (OpS.bin rfl rfl rfl rfl rfl ?_)
 refine op (OpS.mv rfl rfl rfl ?_)
 refine RunL.caseb hF (fun e1 hF => ?_) (fun e1 hF => ?_)
 ·
  refine op (OpS.fbox (o3 := 0) h2 .z PA.z fa92_0 rfl rfl rfl rfl ?_)
  refine op (OpS.fbox (o3 := 1) h2 .z PA.a fa51_1 rfl rfl rfl rfl ?_)
  refine op (OpS.loadBb h2 .z PA.a (Get.comp (Get.fld fragment_open.f0) (Get.fld Whole_.f1)) ty4 rfl rfl rfl ?_)
  refine op (OpS.fptr h2 fa44_5 Packet_.f5 rfl rfl rfl (.s (.s .z)) (fun u3 h3 => ?_))
  refine op (OpS.loadb h3 ty4 rfl rfl rfl .z ?_)
  refine op (OpS.eqb Try.underlying4 rfl rfl rfl rfl ?_)
  refine op (OpS.pick rfl rfl rfl rfl ?_)
  refine op (OpS.mv rfl rfl rfl ?_)
  refine RunL.caseb hF (fun e2 hF => ?_) (fun e2 hF => ?_)
  ·
   refine op (OpS.fbox (o3 := 0) h3 .z PA.z fa92_0 rfl rfl rfl rfl ?_)
   refine op (OpS.fbox (o3 := 2) h3 .z PA.a fa51_2 rfl rfl rfl rfl ?_)
   refine op (OpS.loadBi h3 .z PA.a (Get.comp (Get.fld fragment_open.f0) (Get.fld Whole_.f2)) ty3 rfl rfl rfl ?_)
   refine op (OpS.fptr h3 fa44_6 Packet_.f6 rfl rfl rfl (.s (.s (.s .z))) (fun u4 h4 => ?_))
   refine op (OpS.loadi h4 ty3 rfl rfl rfl .z ?_)
   refine op (OpS.bin rfl rfl rfl rfl rfl ?_)
   refine op (OpS.pick rfl rfl rfl rfl ?_)
   refine op (OpS.as rfl rfl rfl ?_)
   obtain ⟨x1, e3, hF⟩ := letP_use hF
   refine RunL.nameb e3 ?_
   refine RunL.nil ?_
   refine Run.slim [(3, .bool x1)] ⟨rfl, trivial⟩ ?_
   refine Run.retP rfl (.tmp rfl .nil) ?_
   cases hF
   exact Post.mk' ⟨rfl, rfl, rfl, rfl⟩ (h4.picks .nil) .nil
  ·
   refine op (OpS.pass rfl rfl rfl ?_)
   refine op (OpS.pass rfl rfl rfl ?_)
   refine op (OpS.pass rfl rfl rfl ?_)
   refine op (OpS.pass rfl rfl rfl ?_)
   refine op (OpS.pass rfl rfl rfl ?_)
   refine op (OpS.pass rfl rfl rfl ?_)
   refine op (OpS.pick rfl rfl rfl rfl ?_)
   refine op (OpS.as rfl rfl rfl ?_)
   refine RunL.nil ?_
   refine Run.slim [(3, .bool false)] ⟨rfl, trivial⟩ ?_
   refine Run.retP rfl (.tmp rfl .nil) ?_
   cases hF
   exact Post.mk' ⟨rfl, rfl, rfl, rfl⟩ (h3.picks .nil) .nil
 ·
  refine op (OpS.pass rfl rfl rfl ?_)
  refine op (OpS.pass rfl rfl rfl ?_)
  refine op (OpS.pass rfl rfl rfl ?_)
  refine op (OpS.pass rfl rfl rfl ?_)
  refine op (OpS.pass rfl rfl rfl ?_)
  refine op (OpS.pass rfl rfl rfl ?_)
  refine op (OpS.pick rfl rfl rfl rfl ?_)
  refine op (OpS.mv rfl rfl rfl ?_)
  refine op (OpS.pass rfl rfl rfl ?_)
  refine op (OpS.pass rfl rfl rfl ?_)
  refine op (OpS.pass rfl rfl rfl ?_)
  refine op (OpS.pass rfl rfl rfl ?_)
  refine op (OpS.pass rfl rfl rfl ?_)
  refine op (OpS.pass rfl rfl rfl ?_)
  refine op (OpS.pick rfl rfl rfl rfl ?_)
  refine op (OpS.as rfl rfl rfl ?_)
  refine RunL.nil ?_
  refine Run.slim [(3, .bool false)] ⟨rfl, trivial⟩ ?_
  refine Run.retP rfl (.tmp rfl .nil) ?_
  cases hF
  exact Post.mk' ⟨rfl, rfl, rfl, rfl⟩ (h2.picks .nil) .nil
theorem slices_IndexFunc_fragment_open_fragment_open_fragment_Assembler_find_1_ok {fuel : Nat} {a0 : List fragment_open} {a1_0 : Packet_} {y : Int} (hF : slices_IndexFunc_fragment_open_fragment_open_fragment_Assembler_find_1 fuel a0 a1_0 = some y) {w : World} {v0 v1_0 : Value} :
  Spec Try.prog 50 [v0, .func (.func 51) #[] #[v1_0]].toArray w [(false, .val (Rep.slice fragment_open.rep) v0 a0), (false, .ptr Packet_.rep v1_0 a1_0)] [] (fun v Γr Ωr Ωo => v = .int .i64 y ∧ Γr = [] ∧ Ωr = [] ∧ Ωo = []) := by
 refine Spec.of (L := [(0, v0), (1, .func (.func 51) #[] #[v1_0])]) Try.func50 rfl ⟨rfl, rfl, trivial⟩ rfl (fun e h => ?_)
 unfold slices_IndexFunc_fragment_open_fragment_open_fragment_Assembler_find_1 at hF
 refine Run.seq ?_
 refine Run.reg ?_
 refine op (OpS.as rfl rfl rfl ?_)
 refine RunL.nil ?_
 refine Run.slim [(0, v0), (1, .func (.func 51) #[] #[v1_0])] ⟨rfl, rfl, trivial⟩ ?_
 refine Run.seq ?_
 refine Run.seq ?_
 refine Run.reg ?_
 refine op (OpS.mv rfl rfl rfl ?_)
 refine op (OpS.len h Try.underlying81 rfl rfl rfl (V.at .z) ?_)
 refine op (OpS.mv rfl rfl rfl ?_)
 refine RunL.nil ?_
 refine Run.slim [(8, .int .i64 0), (7, .int .i64 (a0.length : Int)), (0, v0), (1, .func (.func 51) #[] #[v1_0])] ⟨rfl, rfl, rfl, rfl, trivial⟩ ?_
 refine Run.block ?_
 refine Run.slim [(0, v0), (1, .func (.func 51) #[] #[v1_0]), (7, .int .i64 (a0.length : Int)), (8, .int .i64 0)] ⟨rfl, rfl, rfl, rfl, trivial⟩ ?_
 refine Run.loopP (σ := Int) (fun s_ L_ w_ => L_ = [(0, v0), (1, .func (.func 51) #[] #[v1_0]), (7, .int .i64 (a0.length : Int)), (8, .int .i64 s_)] ∧ St e w_ [(false, .val (Rep.slice fragment_open.rep) v0 a0), (false, .ptr Packet_.rep v1_0 a1_0)] []) hF ⟨rfl, (h.facts (.atm .z (.atm (.s .z) .nil))).picks .nil⟩ (fun k1 hk1 s1 _ w1 hI hF => ?_)
 obtain ⟨rfl, h1⟩ := hI
 refine Run.seq ?_
 refine Run.reg ?_
 refine op (OpS.bin rfl rfl rfl rfl rfl ?_)
 refine RunL.nil ?_
 refine Run.seq ?_
 refine Run.ite rfl hF (fun e1 hF => ?_) (fun e1 hF => ?_)
 ·
  refine Run.skip ?_
  refine Run.seq ?_
  refine Run.block ?_
  refine Run.seq ?_
  refine Run.reg ?_
  refine op (OpS.mv rfl rfl rfl ?_)
  refine op (OpS.as rfl rfl rfl ?_)
  refine RunL.nil ?_
  refine Run.slim [(5, .int .i64 s1), (0, v0), (1, .func (.func 51) #[] #[v1_0]), (7, .int .i64 (a0.length : Int)), (8, .int .i64 s1)] ⟨rfl, rfl, rfl, rfl, rfl, trivial⟩ ?_
  refine Run.seq ?_
  refine Run.reg ?_
  refine op (OpS.mv rfl rfl rfl ?_)
  refine op (OpS.mv rfl rfl rfl ?_)
  refine op (OpS.mv rfl rfl rfl ?_)
  obtain ⟨x1, e2, hF⟩ := bindP_use hF
  refine op (OpS.iptr h1 Try.underlying81 ty92 rfl rfl rfl rfl (V.at .z) e2 (fun u1 h2 => ?_))
  refine op (OpS.load h2 ty92 rfl rfl rfl .z (fun u2 h3 => ?_))
  obtain ⟨y1, e3, hF⟩ := bindP_use hF
  refine op (OpS.callPF (fl := []) (cl := [v1_0]) h3 Try.func51 rfl rfl rfl rfl rfl (vs := [u2]) rfl (fragment_Assembler_find_1_2_ok e3) (.cons (f := false) (V.at .z) (.ptr (.s (.s (.s .z))) .nil)) ?_)
  rintro _ w2 _ _ _ ⟨rfl, rfl, rfl, rfl⟩ h4
  have h5 := h4 rfl rfl
  simp only [List.cons_append, List.nil_append] at h5
  refine RunL.nil ?_
  refine Run.slim [(16, .bool y1), (5, .int .i64 s1), (0, v0), (1, .func (.func 51) #[] #[v1_0]), (7, .int .i64 (a0.length : Int)), (8, .int .i64 s1)] ⟨rfl, rfl, rfl, rfl, rfl, rfl, trivial⟩ ?_
  refine Run.ite rfl hF (fun e4 hF => ?_) (fun e4 hF => ?_)
  ·
   refine Run.seq ?_
   refine Run.reg ?_
   refine op (OpS.mv rfl rfl rfl ?_)
   refine op (OpS.as rfl rfl rfl ?_)
   refine RunL.nil ?_
   refine Run.slim [(4, .int .i64 s1)] ⟨rfl, trivial⟩ ?_
   refine Run.retP rfl (.tmp rfl .nil) ?_
   cases hF
   exact Post.mk' ⟨rfl, rfl, rfl, rfl⟩ (h5.picks .nil) .nil
  ·
   refine Run.skip ?_
   refine Run.endBlock ?_
   refine Run.reg ?_
   refine op (OpS.bin rfl rfl rfl rfl rfl ?_)
   refine op (OpS.mv rfl rfl rfl ?_)
   refine RunL.nil ?_
   refine Run.slim [(8, .int .i64 (IntKind.i64.wrap (s1 + 1))), (0, v0), (1, .func (.func 51) #[] #[v1_0]), (7, .int .i64 (a0.length : Int))] ⟨rfl, rfl, rfl, rfl, trivial⟩ ?_
   refine Run.slim [(0, v0), (1, .func (.func 51) #[] #[v1_0]), (7, .int .i64 (a0.length : Int)), (8, .int .i64 (IntKind.i64.wrap (s1 + 1)))] ⟨rfl, rfl, rfl, rfl, trivial⟩ ?_
   exact hk1 ((IntKind.i64.wrap (s1 + 1))) _ _ ⟨rfl, (h5.facts (.atm (.s (.s .z)) (.atm (.s (.s (.s .z))) .nil))).picks .nil⟩ hF
 ·
  refine Run.exit rfl ?_
  refine Run.seq ?_
  refine Run.reg ?_
  refine op (OpS.as rfl rfl rfl ?_)
  refine RunL.nil ?_
  refine Run.slim [(4, .int .i64 (-1))] ⟨rfl, trivial⟩ ?_
  refine Run.retP rfl (.tmp rfl .nil) ?_
  cases hF
  exact Post.mk' ⟨rfl, rfl, rfl, rfl⟩ (h1.picks .nil) .nil
theorem fragment_Assembler_find_ok {fuel : Nat} {a0 : fragment_Assembler} {a1 : Packet_} {y : Int} (hF : fragment_Assembler_find fuel a0 a1 = some y) {w : World} {v0 v0_0 v1 : Value} :
  Spec Try.prog 45 [v0, v1].toArray w [(false, .val Packet_.rep v1 a1)] [(false, .box 83 (Rep.iso (fun s : fragment_Assembler => (s.own, s.open_, ())) (Rep.prod (Rep.int .u8) (Rep.prod (Rep.raw (α := List fragment_open) v0_0) Rep.unit))) v0 a0), (false, .oval (oslice 92 6 (fun _ => fragment_open.orep)) v0_0 a0.open_)] (fun v Γr Ωr Ωo => v = .int .i64 y ∧ Γr = [] ∧ Ωr = [] ∧ Ωo = [(false, .box 83 (Rep.iso (fun s : fragment_Assembler => (s.own, s.open_, ())) (Rep.prod (Rep.int .u8) (Rep.prod (Rep.raw (α := List fragment_open) v0_0) Rep.unit))) v0 a0), (false, (.oval (oslice 92 6 (fun _ => fragment_open.orep)) v0_0 a0.open_))]) := by
 refine Spec.of (L := [(0, v0), (1, v1)]) Try.func45 rfl ⟨rfl, rfl, trivial⟩ rfl (fun e h => ?_)
 unfold fragment_Assembler_find at hF
 refine Run.seq ?_
 refine Run.reg ?_
 refine op (OpS.boxF h rfl rfl rfl (V.at .z) (fun u1 w1 h1 => ?_))
 refine op (OpS.as rfl rfl rfl ?_)
 refine RunL.nil ?_
 refine Run.slim [(3, u1), (0, v0)] ⟨rfl, rfl, trivial⟩ ?_
 refine Run.seq ?_
 refine Run.reg ?_
 refine op (OpS.mv rfl rfl rfl ?_)
 refine op (OpS.nchk h1 (.s .z) rfl rfl rfl ?_)
 refine op (OpS.fbox (o3 := 1) h1 (.s .z) PA.z fa83_1 rfl rfl rfl rfl ?_)
 refine op (OpS.loadR h1 (.s .z) PA.a (GetS.ok (GetS.iso _ (GetS.there (GetS.here GetS.id)))) ty81 rfl rfl rfl rfl rfl ?_)
 refine op (OpS.mkf (fl := []) (cl := [u1]) rfl rfl rfl rfl ?_)
 obtain ⟨y1, e1, hF⟩ := bindP_use hF
 refine op (OpS.callP h1 Try.func50 rfl rfl rfl rfl (vs := [v0_0, .func (.func 51) #[] #[u1]]) rfl (slices_IndexFunc_fragment_open_fragment_open_fragment_Assembler_find_1_ok e1) (Args.ownF (.s (.s .z)) fragment_open.rf (.box .z .nil)) ?_)
 rintro _ w2 _ _ _ ⟨rfl, rfl, rfl, rfl⟩ h2
 have h3 := h2 rfl rfl
 simp only [List.cons_append, List.nil_append] at h3
 refine op (OpS.as rfl rfl rfl ?_)
 refine RunL.nil ?_
 refine Run.slim [(4, .int .i64 y1)] ⟨rfl, trivial⟩ ?_
 refine Run.retP rfl (.tmp rfl .nil) ?_
 cases hF
 exact Post.mk' ⟨rfl, rfl, rfl, rfl⟩ (h3.picks (.cons (.s .z) (.cons (.s .z) .nil))) .nil
theorem slices_Delete_fragment_open_fragment_open_ok {fuel : Nat} {a0 : List fragment_open} {a1 : Int} {a2 : Int} {y : (List fragment_open)} (hF : slices_Delete_fragment_open_fragment_open fuel a0 a1 a2 = some y) {w : World} {v0 : Value} {r_ : ORep fragment_open} (hr_ : r_.n = 6) :
  Spec Try.prog 52 [v0, .int .i64 a1, .int .i64 a2].toArray w [] [(false, .oval (oslice 92 6 (at' (fun _ => fragment_open.orep) (a1).toNat r_)) v0 a0)] (fun v Γr Ωr Ωo => ∃ u0 : Value, v = u0 ∧ Γr = [] ∧ Ωr = [(false, (.oval (oslice 92 6 (fun _ => fragment_open.orep)) u0 y))] ∧ Ωo = []) := by
 refine Spec.of (L := [(0, v0), (1, .int .i64 a1), (2, .int .i64 a2)]) Try.func52 rfl ⟨rfl, rfl, rfl, trivial⟩ rfl (fun e h => ?_)
 unfold slices_Delete_fragment_open_fragment_open at hF
 refine Run.seq ?_
 refine Run.reg ?_
 refine op (OpS.as rfl rfl rfl ?_)
 refine RunL.nil ?_
 refine Run.slim [(0, v0), (1, .int .i64 a1), (2, .int .i64 a2)] ⟨rfl, rfl, rfl, trivial⟩ ?_
 refine Run.seq ?_
 refine Run.reg ?_
 refine op (OpS.mv rfl rfl rfl ?_)
 refine op (OpS.mv rfl rfl rfl ?_)
 refine op (OpS.mv rfl rfl rfl ?_)
 refine op (OpS.mv rfl rfl rfl ?_)
 refine op (OpS.lenD h .z Try.underlying81 rfl rfl rfl ?_)
 obtain ⟨e1, hF⟩ := chk_use hF
 refine op (OpS.chkD h .z Try.underlying81 ty92 rfl rfl rfl rfl rfl rfl (of_decide_eq_true e1) (fun u1 => ?_))
 refine RunL.nil ?_
 refine Run.slim [(0, v0), (1, .int .i64 a1), (2, .int .i64 a2)] ⟨rfl, rfl, rfl, trivial⟩ ?_
 refine Run.seq ?_
 refine Run.seq ?_
 refine Run.reg ?_
 refine op (OpS.mv rfl rfl rfl ?_)
 refine op (OpS.mv rfl rfl rfl ?_)
 refine op (OpS.bin rfl rfl rfl rfl rfl ?_)
 refine RunL.nil ?_
 refine Run.slim [(16, .bool (a1 == a2)), (0, v0), (1, .int .i64 a1), (2, .int .i64 a2)] ⟨rfl, rfl, rfl, rfl, trivial⟩ ?_
 refine Run.ite rfl hF (fun e2 hF => ?_) (fun e2 hF => ?_)
 ·
  refine Run.seq ?_
  refine Run.reg ?_
  refine op (OpS.mv rfl rfl rfl ?_)
  refine op (OpS.as rfl rfl rfl ?_)
  refine RunL.nil ?_
  refine Run.slim [(6, v0)] ⟨rfl, trivial⟩ ?_
  cases hF
 ·
  refine Run.skip ?_
  refine Run.seq ?_
  refine Run.reg ?_
  refine op (OpS.mv rfl rfl rfl ?_)
  refine op (OpS.lenD h .z Try.underlying81 rfl rfl rfl ?_)
  refine op (OpS.as rfl rfl rfl ?_)
  refine RunL.nil ?_
  refine Run.slim [(7, .int .i64 (a0.length : Int)), (0, v0), (1, .int .i64 a1), (2, .int .i64 a2)] ⟨rfl, rfl, rfl, rfl, trivial⟩ ?_
  refine Run.seq ?_
  obtain ⟨e3, hF⟩ := chk_use hF
  obtain ⟨e4, hF⟩ := chk_use hF
  obtain ⟨e5, hF⟩ := chk_use hF
  obtain ⟨e6, hF⟩ := chk_use hF
  refine Run.drawV (Ωs := []) [⟨some 20, some (v0), fun _ => [], fun ds_ u_ => [], [], [], none⟩, ⟨some 21, some (.int .i64 a1), fun _ => [], fun ds_ u_ => [], [], [], none⟩, ⟨some 22, some ((pre v0 ((a1).toNat))), fun _ => [], fun ds_ u_ => [], [], [(0, [6, 2])], none⟩, ⟨some 23, some (v0), fun _ => [], fun ds_ u_ => [], [], [], none⟩, ⟨some 24, some (.int .i64 a2), fun _ => [], fun ds_ u_ => [], [], [], none⟩, ⟨some 25, some ((Lift.part 6 v0 a2.toNat (a0.length : Int).toNat)), fun _ => [], fun ds_ u_ => [], [], [(0, [6, 5])], none⟩, ⟨some 26, none, fun u_ => [(true, .room u_ a0.length)], fun ds_ u_ => [(false, .oval (oslice 92 6 (fun _ => fragment_open.orep)) u_ (a0.take ((a1).toNat) ++ a0.drop a2.toNat))], [0], [], none⟩] [[], [], [0, 1], [], [], [3, 4], [2, 5]] [[(false, .oval (oslice 92 6 (at' (fun _ => fragment_open.orep) (a1).toNat r_)) v0 a0)]] [1, 2, 3, 4, 5, 6, 7] Try_mixed rfl rfl rfl h (.cons ?_ (.cons ?_ (.cons ?_ (.cons ?_ (.cons ?_ (.cons ?_ (.cons ?_ .nil))))))) (fun q1 w hq1 h => ?_)
  ·intro q1 w Γx Ωx h
   refine OpS.mv rfl rfl rfl ?_
   exact ⟨undef, rfl, trivial, h⟩
  ·intro q1 w Γx Ωx h
   refine OpS.mv rfl rfl rfl ?_
   exact ⟨undef, rfl, trivial, h⟩
  ·intro q1 w Γx Ωx h
   have h : St e w ([] ++ Γx) ([(false, .oval (oslice 92 6 (at' (fun _ => fragment_open.orep) (a1).toNat r_)) v0 a0)] ++ Ωx) := h
   refine OpS.preD h .z Try.underlying81 ty92 rfl rfl rfl rfl rfl (of_decide_eq_true e3).1 (of_decide_eq_true e3).2 ?_
   exact ⟨undef, rfl, trivial, h⟩
  ·intro q1 w Γx Ωx h
   refine OpS.mv rfl rfl rfl ?_
   exact ⟨undef, rfl, trivial, h⟩
  ·intro q1 w Γx Ωx h
   refine OpS.mv rfl rfl rfl ?_
   exact ⟨undef, rfl, trivial, h⟩
  ·intro q1 w Γx Ωx h
   have h : St e w ([] ++ Γx) ([(false, .oval (oslice 92 6 (at' (fun _ => fragment_open.orep) (a1).toNat r_)) v0 a0)] ++ Ωx) := h
   refine OpS.partD h .z Try.underlying81 ty92 rfl rfl rfl rfl rfl (of_decide_eq_true e4) ?_
   exact ⟨undef, rfl, trivial, h⟩
  ·intro q1 w Γx Ωx h
   have h : St e w ([] ++ Γx) ([(false, .oval (oslice 92 6 (at' (fun _ => fragment_open.orep) (a1).toNat r_)) v0 a0)] ++ Ωx) := h
   refine OpS.moveD h .z (at_other (of_decide_eq_true e6)) (at_hn rfl hr_) Try.underlying81 ti92 rfl rfl rfl rfl (of_decide_eq_true e5) (fun u w2 h2 => ?_)
   exact ⟨u, rfl, trivial, h2⟩
  have h3 : St e w [(true, .room (q1 6) a0.length)] [(false, .oval (oslice 92 6 (fun _ => fragment_open.orep)) (q1 6) (a0.take ((a1).toNat) ++ a0.drop a2.toNat))] := h
  refine op (OpS.as rfl rfl rfl ?_)
  refine RunL.nil ?_
  refine Run.slim [(0, (q1 6)), (7, .int .i64 (a0.length : Int))] ⟨rfl, rfl, trivial⟩ ?_
  refine Run.seq ?_
  refine Run.reg ?_
  refine op (OpS.mv rfl rfl rfl ?_)
  refine op (OpS.mv rfl rfl rfl ?_)
  refine op (OpS.lenD h3 .z Try.underlying81 rfl rfl rfl ?_)
  refine op (OpS.mv rfl rfl rfl ?_)
  obtain ⟨e7, hF⟩ := chk_use hF
  refine op (OpS.tailD h3 .z .z Try.underlying81 ty92 rfl rfl rfl rfl rfl (of_decide_eq_true e7) ?_)
  obtain ⟨e8, hF⟩ := chk_use hF
  refine op (OpS.clearD (s := fragment_open.rep) h3 .z .z rfl rfl Try.underlying81 ti92 fragment_open.zr rfl rfl (of_decide_eq_true e8) (fun w3 h4 => ?_))
  refine RunL.nil ?_
  refine Run.slim [(0, (q1 6))] ⟨rfl, trivial⟩ ?_
  refine Run.seq ?_
  refine Run.reg ?_
  refine op (OpS.mv rfl rfl rfl ?_)
  refine op (OpS.as rfl rfl rfl ?_)
  refine RunL.nil ?_
  refine Run.slim [(6, (q1 6))] ⟨rfl, trivial⟩ ?_
  refine Run.retP rfl (.tmp rfl .nil) ?_
  cases hF
  exact Post.mk' ⟨(q1 6), rfl, rfl, rfl, rfl⟩ (h4.picks (.cons .z .nil)) .nil
theorem fragment_Assembler_drop_ok {fuel : Nat} {a0 : fragment_Assembler} {a1 : Int} {y : fragment_Assembler} (hF : fragment_Assembler_drop fuel a0 a1 = some y) {w : World} {v0 v0_0 : Value} {r_ : ORep fragment_open} (hr_ : r_.n = 6) :
  Spec Try.prog 46 [v0, .int .i64 a1].toArray w [] [(false, .box 83 (Rep.iso (fun s : fragment_Assembler => (s.own, s.open_, ())) (Rep.prod (Rep.int .u8) (Rep.prod (Rep.raw (α := List fragment_open) v0_0) Rep.unit))) v0 a0), (false, .oval (oslice 92 6 (at' (fun _ => fragment_open.orep) (a1).toNat r_)) v0_0 a0.open_)] (fun v Γr Ωr Ωo => ∃ w0_0 : Value, v = .tuple #[] ∧ Γr = [] ∧ Ωr = [] ∧ Ωo = [(false, .box 83 (Rep.iso (fun s : fragment_Assembler => (s.own, s.open_, ())) (Rep.prod (Rep.int .u8) (Rep.prod (Rep.raw (α := List fragment_open) w0_0) Rep.unit))) v0 y), (false, (.oval (oslice 92 6 (fun _ => fragment_open.orep)) w0_0 y.open_))]) := by
 refine Spec.of (L := [(0, v0), (1, .int .i64 a1)]) Try.func46 rfl ⟨rfl, rfl, trivial⟩ rfl (fun e h => ?_)
 unfold fragment_Assembler_drop at hF
 refine Run.reg ?_
 refine op (OpS.mv rfl rfl rfl ?_)
 refine op (OpS.mv rfl rfl rfl ?_)
 refine op (OpS.nchk h .z rfl rfl rfl ?_)
 refine op (OpS.fbox (o3 := 1) h .z PA.z fa83_1 rfl rfl rfl rfl ?_)
 refine op (OpS.loadR h .z PA.a (GetS.ok (GetS.iso _ (GetS.there (GetS.here GetS.id)))) ty81 rfl rfl rfl rfl rfl ?_)
 refine op (OpS.mv rfl rfl rfl ?_)
 refine op (OpS.mv rfl rfl rfl ?_)
 refine op (OpS.bin rfl rfl rfl rfl rfl ?_)
 obtain ⟨y1, e1, hF⟩ := bindP_use hF
 have h1 := h.front (.cons (.s .z) .nil)
 refine op (OpS.callO h1 Try.func52 rfl rfl rfl rfl (vs := [v0_0, .int .i64 a1, .int .i64 (IntKind.i64.wrap (a1 + 1))]) rfl (slices_Delete_fragment_open_fragment_open_ok e1 (r_ := r_) (hr_ := hr_)) rfl .nil ?_)
 rintro u1 w1 _ _ _ ⟨_, rfl, rfl, rfl, rfl⟩ h2
 have h3 := h2
 simp only [List.cons_append, List.nil_append] at h3
 refine op (OpS.nchk h3 (.s .z) rfl rfl rfl ?_)
 refine op (OpS.fbox (o3 := 1) h3 (.s .z) PA.z fa83_1 rfl rfl rfl rfl ?_)
 refine op (OpS.storeC (f' := false) (fr := (Rep.raw u1)) (r' := (Rep.iso (fun s : fragment_Assembler => (s.own, s.open_, ())) (Rep.prod (Rep.int .u8) (Rep.prod (Rep.raw (α := List fragment_open) u1) Rep.unit)))) (x' := a0) h3 (.s .z) PA.a (Chg.iso _ (Chg.there (Chg.here (Chg.id (by rfl))))) (Ty.like ty81 (by rfl) (by rfl)) rfl rfl rfl (V.raw (f := false) (St.ownD h3 .z) a0.open_) (.inr rfl) (fun w2 h4 => ?_))
 refine RunL.nil ?_
 refine Run.slim [] trivial ?_
 have h5 := St.boxJ (r' := (Rep.iso (fun s : fragment_Assembler => (s.own, s.open_, ())) (Rep.prod (Rep.int .u8) (Rep.prod (Rep.raw (α := List fragment_open) u1) Rep.unit)))) (x' := { a0 with open_ := y1 }) (h4.pick .z) (fun _ _ hs_ => (Jn.iso _ (Jn.prod Jn.refl (Jn.prod Jn.same Jn.refl))))
 refine Run.finP rfl .nil ?_
 cases hF
 exact Post.mk' ⟨u1, rfl, rfl, rfl, rfl⟩ (h5.picks (.cons .z (.cons .z .nil))) .nil
set_option maxHeartbeats 8000000 in
theorem fragment_Assembler_begin_ok {fuel : Nat} {a0 : fragment_Assembler} {a1 : Packet_} {y : Whole_ × Bool × fragment_Assembler} (hF : fragment_Assembler_begin fuel a0 a1 = some y) {w : World} {v0 v0_0 v1 : Value} :
  Spec Try.prog 44 [v0, v1].toArray w [(false, .val Packet_.rep v1 a1)] [(false, .box 83 (Rep.iso (fun s : fragment_Assembler => (s.own, s.open_, ())) (Rep.prod (Rep.int .u8) (Rep.prod (Rep.raw (α := List fragment_open) v0_0) Rep.unit))) v0 a0), (false, .oval (oslice 92 6 (fun _ => fragment_open.orep)) v0_0 a0.open_)] (fun v Γr Ωr Ωo => ∃ u0 w0_0 : Value, v = .tuple #[u0, .bool y.2.1] ∧ Γr = [(true, .val Whole_.rep u0 y.1)] ∧ Ωr = [] ∧ Ωo = [(false, .box 83 (Rep.iso (fun s : fragment_Assembler => (s.own, s.open_, ())) (Rep.prod (Rep.int .u8) (Rep.prod (Rep.raw (α := List fragment_open) w0_0) Rep.unit))) v0 y.2.2), (false, (.oval (oslice 92 6 (fun _ => fragment_open.orep)) w0_0 y.2.2.open_))]) := by
 refine Spec.of (L := [(0, v0), (1, v1)]) Try.func44 rfl ⟨rfl, rfl, trivial⟩ rfl (fun e h => ?_)
 unfold fragment_Assembler_begin at hF
 refine Run.seq ?_
 refine Run.reg ?_
 refine op (OpS.boxF h rfl rfl rfl (V.at .z) (fun u1 w1 h1 => ?_))
 refine op (OpS.alloc h1 ti51 Whole_.zr rfl rfl (fun u2 w2 h2 => ?_))
 refine op (OpS.as rfl rfl rfl ?_)
 refine RunL.nil ?_
 refine Run.slim [(4, u2), (3, u1), (0, v0)] ⟨rfl, rfl, rfl, trivial⟩ ?_
 refine Run.seq ?_
 refine Run.seq ?_
 refine Run.reg ?_
 refine op (OpS.mv rfl rfl rfl ?_)
 refine op (OpS.loadB h2 (.s .z) PA.z Get.id ty44 rfl rfl rfl (fun u3 h3 => ?_))
 obtain ⟨y1, e1, hF⟩ := bindP_use hF
 have h4 := h3.front (.cons (.s (.s .z)) (.cons (.s (.s .z)) .nil))
 refine op (OpS.callO h4 Try.func45 rfl rfl rfl rfl (vs := [v0, u3]) rfl (fragment_Assembler_find_ok e1) rfl (.cons (f := false) (V.at .z) .nil) ?_)
 rintro _ w3 _ _ _ ⟨rfl, rfl, rfl, rfl⟩ h5
 have h6 := h5
 simp only [List.cons_append, List.nil_append] at h6
 refine op (OpS.as rfl rfl rfl ?_)
 refine RunL.nil ?_
 refine Run.slim [(6, .int .i64 y1), (4, u2), (3, u1), (0, v0)] ⟨rfl, rfl, rfl, rfl, trivial⟩ ?_
 refine Run.seq ?_
 refine Run.reg ?_
 refine op (OpS.mv rfl rfl rfl ?_)
 refine op (OpS.bin rfl rfl rfl rfl rfl ?_)
 refine RunL.nil ?_
 refine Run.slim [(12, .bool (decide (y1 ≥ 0))), (6, .int .i64 y1), (4, u2), (3, u1), (0, v0)] ⟨rfl, rfl, rfl, rfl, rfl, trivial⟩ ?_
 refine Run.join (σ := fragment_Assembler) (fun s_ L_ w_ => ∃ u0_ : Value, L_ = [(0, v0), (3, u1), (4, u2)] ∧ St e w_ [] [(false, .box 83 (Rep.iso (fun s : fragment_Assembler => (s.own, s.open_, ())) (Rep.prod (Rep.int .u8) (Rep.prod (Rep.raw (α := List fragment_open) u0_) Rep.unit))) v0 s_), (false, .box 44 Packet_.rep u1 a1), (true, .box 51 Whole_.rep u2 Whole_.z), (false, .oval (oslice 92 6 (fun _ => fragment_open.orep)) u0_ s_.open_)]) hF (fun s1 _ w4 hI hF => ?_) (fun j1 hj1 hF => ?_)
 ·
  obtain ⟨u4, rfl, h7⟩ := hI
  refine Run.seq ?_
  have h8 := h7.picks (.cons (.s .z) (.cons .z (.cons .z (.cons .z .nil))))
  obtain ⟨y2, e2, hF⟩ := bindP_use hF
  refine Run.drawV (Ωs := [(false, .box 83 (Rep.iso (fun s : fragment_Assembler => (s.own, s.open_, ())) (Rep.prod (Rep.int .u8) (Rep.prod (Rep.raw (α := List fragment_open) u4) Rep.unit))) v0 s1), (true, .box 51 Whole_.rep u2 Whole_.z), (false, .oval (oslice 92 6 (fun _ => fragment_open.orep)) u4 s1.open_)]) [⟨some 16, some ((padd u1 1)), fun _ => [], fun ds_ u_ => [], [], [(0, [])], none⟩, ⟨some 17, some (.int .u8 a1.From), fun _ => [], fun ds_ u_ => [], [], [(0, [])], none⟩, ⟨some 18, some ((padd u1 5)), fun _ => [], fun ds_ u_ => [], [], [(0, [])], none⟩, ⟨some 19, some (.bool a1.Owner), fun _ => [], fun ds_ u_ => [], [], [(0, [])], none⟩, ⟨some 20, some ((padd u1 6)), fun _ => [], fun ds_ u_ => [], [], [(0, [])], none⟩, ⟨some 21, some (.int .i64 a1.Tag), fun _ => [], fun ds_ u_ => [], [], [(0, [])], none⟩, ⟨some 22, some ((padd u1 7)), fun _ => [], fun ds_ u_ => [], [], [(0, [])], none⟩, ⟨some 23, none, fun u_ => [(false, .val (Rep.slice (Rep.int .u8)) u_ a1.Data)], fun ds_ u_ => [], [], [(0, [])], none⟩, ⟨some 24, none, fun u_ => [], fun ds_ u_ => [(true, .slice 5 (Rep.int .u8) u_ y2)], [], [], none⟩, ⟨some 25, none, fun u_ => [], fun ds_ u_ => [(true, .oval Whole_.orep u_ ({ (⟨a1.From, a1.Owner, a1.Tag, []⟩ : Whole_) with Data := y2 }))], [9], [], none⟩, ⟨some 7, none, fun u_ => [], fun ds_ u_ => [(true, .box 51 Whole_.rep u_ Whole_.z)], [], [], none⟩] [[], [0], [], [2], [], [4], [], [6], [7], [1, 3, 5, 8], []] [[(false, .box 44 Packet_.rep u1 a1)]] [0, 1, 2, 3, 4, 5, 6, 7, 8, 10, 11] Try_mixed rfl rfl rfl h8 (.cons ?_ (.cons ?_ (.cons ?_ (.cons ?_ (.cons ?_ (.cons ?_ (.cons ?_ (.cons ?_ (.cons ?_ (.cons ?_ (.cons ?_ .nil))))))))))) (fun q1 w hq1 h => ?_)
  ·intro q1 w Γx Ωx h
   have h : St e w ([] ++ Γx) ([(false, .box 44 Packet_.rep u1 a1), (false, .box 83 (Rep.iso (fun s : fragment_Assembler => (s.own, s.open_, ())) (Rep.prod (Rep.int .u8) (Rep.prod (Rep.raw (α := List fragment_open) u4) Rep.unit))) v0 s1), (true, .box 51 Whole_.rep u2 Whole_.z), (false, .oval (oslice 92 6 (fun _ => fragment_open.orep)) u4 s1.open_)] ++ Ωx) := h
   refine OpS.fbox (o3 := 1) h .z PA.z fa44_1 rfl rfl rfl rfl ?_
   exact ⟨undef, rfl, trivial, h⟩
  ·intro q1 w Γx Ωx h
   have h : St e w ([] ++ Γx) ([(false, .box 44 Packet_.rep u1 a1), (false, .box 83 (Rep.iso (fun s : fragment_Assembler => (s.own, s.open_, ())) (Rep.prod (Rep.int .u8) (Rep.prod (Rep.raw (α := List fragment_open) u4) Rep.unit))) v0 s1), (true, .box 51 Whole_.rep u2 Whole_.z), (false, .oval (oslice 92 6 (fun _ => fragment_open.orep)) u4 s1.open_)] ++ Ωx) := h
   refine OpS.loadBi h .z PA.a (Get.fld Packet_.f1) ty5 rfl rfl rfl ?_
   exact ⟨undef, rfl, trivial, h⟩
  ·intro q1 w Γx Ωx h
   have h : St e w ([] ++ Γx) ([(false, .box 44 Packet_.rep u1 a1), (false, .box 83 (Rep.iso (fun s : fragment_Assembler => (s.own, s.open_, ())) (Rep.prod (Rep.int .u8) (Rep.prod (Rep.raw (α := List fragment_open) u4) Rep.unit))) v0 s1), (true, .box 51 Whole_.rep u2 Whole_.z), (false, .oval (oslice 92 6 (fun _ => fragment_open.orep)) u4 s1.open_)] ++ Ωx) := h
   refine OpS.fbox (o3 := 5) h .z PA.z fa44_5 rfl rfl rfl rfl ?_
   exact ⟨undef, rfl, trivial, h⟩
  ·intro q1 w Γx Ωx h
   have h : St e w ([] ++ Γx) ([(false, .box 44 Packet_.rep u1 a1), (false, .box 83 (Rep.iso (fun s : fragment_Assembler => (s.own, s.open_, ())) (Rep.prod (Rep.int .u8) (Rep.prod (Rep.raw (α := List fragment_open) u4) Rep.unit))) v0 s1), (true, .box 51 Whole_.rep u2 Whole_.z), (false, .oval (oslice 92 6 (fun _ => fragment_open.orep)) u4 s1.open_)] ++ Ωx) := h
   refine OpS.loadBb h .z PA.a (Get.fld Packet_.f5) ty4 rfl rfl rfl ?_
   exact ⟨undef, rfl, trivial, h⟩
  ·intro q1 w Γx Ωx h
   have h : St e w ([] ++ Γx) ([(false, .box 44 Packet_.rep u1 a1), (false, .box 83 (Rep.iso (fun s : fragment_Assembler => (s.own, s.open_, ())) (Rep.prod (Rep.int .u8) (Rep.prod (Rep.raw (α := List fragment_open) u4) Rep.unit))) v0 s1), (true, .box 51 Whole_.rep u2 Whole_.z), (false, .oval (oslice 92 6 (fun _ => fragment_open.orep)) u4 s1.open_)] ++ Ωx) := h
   refine OpS.fbox (o3 := 6) h .z PA.z fa44_6 rfl rfl rfl rfl ?_
   exact ⟨undef, rfl, trivial, h⟩
  ·intro q1 w Γx Ωx h
   have h : St e w ([] ++ Γx) ([(false, .box 44 Packet_.rep u1 a1), (false, .box 83 (Rep.iso (fun s : fragment_Assembler => (s.own, s.open_, ())) (Rep.prod (Rep.int .u8) (Rep.prod (Rep.raw (α := List fragment_open) u4) Rep.unit))) v0 s1), (true, .box 51 Whole_.rep u2 Whole_.z), (false, .oval (oslice 92 6 (fun _ => fragment_open.orep)) u4 s1.open_)] ++ Ωx) := h
   refine OpS.loadBi h .z PA.a (Get.fld Packet_.f6) ty3 rfl rfl rfl ?_
   exact ⟨undef, rfl, trivial, h⟩
  ·intro q1 w Γx Ωx h
   have h : St e w ([] ++ Γx) ([(false, .box 44 Packet_.rep u1 a1), (false, .box 83 (Rep.iso (fun s : fragment_Assembler => (s.own, s.open_, ())) (Rep.prod (Rep.int .u8) (Rep.prod (Rep.raw (α := List fragment_open) u4) Rep.unit))) v0 s1), (true, .box 51 Whole_.rep u2 Whole_.z), (false, .oval (oslice 92 6 (fun _ => fragment_open.orep)) u4 s1.open_)] ++ Ωx) := h
   refine OpS.fbox (o3 := 7) h .z PA.z fa44_7 rfl rfl rfl rfl ?_
   exact ⟨undef, rfl, trivial, h⟩
  ·intro q1 w Γx Ωx h
   have h : St e w ([] ++ Γx) ([(false, .box 44 Packet_.rep u1 a1), (false, .box 83 (Rep.iso (fun s : fragment_Assembler => (s.own, s.open_, ())) (Rep.prod (Rep.int .u8) (Rep.prod (Rep.raw (α := List fragment_open) u4) Rep.unit))) v0 s1), (true, .box 51 Whole_.rep u2 Whole_.z), (false, .oval (oslice 92 6 (fun _ => fragment_open.orep)) u4 s1.open_)] ++ Ωx) := h
   refine OpS.loadB h .z PA.a (Get.fld Packet_.f7) ty22 rfl rfl rfl (fun u h14 => ?_)
   exact ⟨u, rfl, trivial, h14⟩
  ·intro q1 w Γx Ωx h
   refine OpS.callP h Try.func40 rfl rfl rfl rfl (vs := [(q1 7)]) rfl (slices_Clone_byte_byte_ok e2) (.cons (f := false) (V.at .z) .nil) ?_
   rintro u w7 _ _ _ ⟨_, rfl, rfl, rfl, rfl⟩ h15
   have h16 := h15 rfl rfl
   simp only [List.cons_append, List.nil_append] at h16
   exact ⟨u, rfl, trivial, h16⟩
  ·intro q1 w Γx Ωx h
   have h : St e w ([] ++ Γx) ([(true, .slice 5 (Rep.int .u8) (q1 8) y2), (false, .box 83 (Rep.iso (fun s : fragment_Assembler => (s.own, s.open_, ())) (Rep.prod (Rep.int .u8) (Rep.prod (Rep.raw (α := List fragment_open) u4) Rep.unit))) v0 s1), (true, .box 51 Whole_.rep u2 Whole_.z), (false, .oval (oslice 92 6 (fun _ => fragment_open.orep)) u4 s1.open_)] ++ Ωx) := h
   refine OpS.buildC (f := true) (r := Whole_.rep) (x := Whole_.z) (r' := (Rep.iso (fun s : Whole_ => (s.From, s.Owner, s.Tag, s.Data, ())) (Rep.prod (Rep.int .u8) (Rep.prod Rep.bool (Rep.prod (Rep.int .i64) (Rep.prod (Rep.raw (α := List Int) (q1 8)) Rep.unit)))))) (x' := (⟨a1.From, a1.Owner, a1.Tag, []⟩ : Whole_)) h pl51 ti51 Whole_.zr rfl rfl rfl (.cons (Rep.int .u8) Whole_.rep Whole_.rep Whole_.z (⟨a1.From, false, 0, []⟩ : Whole_) (Chg.iso _ (Chg.here (Chg.id (by rfl)))) rfl rfl V.int (.cons Rep.bool Whole_.rep Whole_.rep (⟨a1.From, false, 0, []⟩ : Whole_) (⟨a1.From, a1.Owner, 0, []⟩ : Whole_) (Chg.iso _ (Chg.there (Chg.here (Chg.id (by rfl))))) rfl rfl V.bool (.cons (Rep.int .i64) Whole_.rep Whole_.rep (⟨a1.From, a1.Owner, 0, []⟩ : Whole_) (⟨a1.From, a1.Owner, a1.Tag, []⟩ : Whole_) (Chg.iso _ (Chg.there (Chg.there (Chg.here (Chg.id (by rfl)))))) rfl rfl V.int (.cons (Rep.raw (q1 8)) Whole_.rep (Rep.iso (fun s : Whole_ => (s.From, s.Owner, s.Tag, s.Data, ())) (Rep.prod (Rep.int .u8) (Rep.prod Rep.bool (Rep.prod (Rep.int .i64) (Rep.prod (Rep.raw (α := List Int) (q1 8)) Rep.unit))))) (⟨a1.From, a1.Owner, a1.Tag, []⟩ : Whole_) (⟨a1.From, a1.Owner, a1.Tag, []⟩ : Whole_) (Chg.iso _ (Chg.there (Chg.there (Chg.there (Chg.here (Chg.id (by rfl))))))) rfl rfl (V.raw (f := true) (St.own1 h .z) []) .nil)))) (fun u h17 => ?_)
   have h18 := h17.pick .z
   have h19 := h18.toO
   have h20 := St.closeV (E := Whole_.orep) (s := (Rep.iso (fun s : Whole_ => (s.From, s.Owner, s.Tag, s.Data, ())) (Rep.prod (Rep.int .u8) (Rep.prod Rep.bool (Rep.prod (Rep.int .i64) (Rep.prod (Rep.raw (α := List Int) (q1 8)) Rep.unit)))))) (x := (⟨a1.From, a1.Owner, a1.Tag, []⟩ : Whole_)) (x' := { (⟨a1.From, a1.Owner, a1.Tag, []⟩ : Whole_) with Data := y2 }) h19 (V.at .z) rfl (Whole_.joW (Jo.raw rfl))
   have h21 := St.unfact h20 .z
   exact ⟨u, rfl, trivial, h21⟩
  ·intro q1 w Γx Ωx h
   refine OpS.alloc h ti51 Whole_.zr rfl rfl (fun u w8 h22 => ?_)
   exact ⟨u, rfl, trivial, h22⟩
  have h23 : St e w [(false, .val (Rep.slice (Rep.int .u8)) (q1 7) a1.Data)] [(false, .box 44 Packet_.rep u1 a1), (true, .oval Whole_.orep (q1 9) ({ (⟨a1.From, a1.Owner, a1.Tag, []⟩ : Whole_) with Data := y2 })), (true, .box 51 Whole_.rep (q1 10) Whole_.z), (false, .box 83 (Rep.iso (fun s : fragment_Assembler => (s.own, s.open_, ())) (Rep.prod (Rep.int .u8) (Rep.prod (Rep.raw (α := List fragment_open) u4) Rep.unit))) v0 s1), (true, .box 51 Whole_.rep u2 Whole_.z), (false, .oval (oslice 92 6 (fun _ => fragment_open.orep)) u4 s1.open_)] := h
  obtain ⟨u5, h24⟩ := St.openV (F' := fun v_ => Whole_.orepW (raw v_)) (s := fun v_ => Whole_.hrepW (Rep.raw v_)) (h23.pick (.s .z)) (fun v_ => Whole_.lenO v_) (fun _ => Whole_.wkW Wk.raw) rfl (fun _ => rfl) rfl
  obtain ⟨d1, e3, hF⟩ := letP_use hF
  refine op (OpS.storeC (f' := true) (fr := (Rep.iso (fun s : Whole_ => (s.From, s.Owner, s.Tag, s.Data, ())) (Rep.prod (Rep.int .u8) (Rep.prod Rep.bool (Rep.prod (Rep.int .i64) (Rep.prod (Rep.raw (α := List Int) u5) Rep.unit)))))) (r' := (Rep.iso (fun s : Whole_ => (s.From, s.Owner, s.Tag, s.Data, ())) (Rep.prod (Rep.int .u8) (Rep.prod Rep.bool (Rep.prod (Rep.int .i64) (Rep.prod (Rep.raw (α := List Int) u5) Rep.unit)))))) (x' := d1) h24 (.s (.s .z)) PA.z (Chg.of (x' := { (⟨a1.From, a1.Owner, a1.Tag, []⟩ : Whole_) with Data := y2 }) (Chg.id (by rfl)) e3) (Ty.like ty51 (by rfl) (by rfl)) rfl rfl rfl (V.at .z) (.inl rfl) (fun w9 h25 => ?_))
  refine RunL.nil ?_
  refine Run.slim [(7, (q1 10)), (0, v0), (3, u1), (4, u2)] ⟨rfl, rfl, rfl, rfl, trivial⟩ ?_
  refine Run.seq ?_
  refine Run.seq ?_
  refine Run.reg ?_
  refine op (OpS.fbox (o3 := 3) h25 (.s (.s .z)) PA.z fa44_3 rfl rfl rfl rfl ?_)
  refine op (OpS.loadBb h25 (.s (.s .z)) PA.a (Get.fld Packet_.f3) ty4 rfl rfl rfl ?_)
  refine RunL.nil ?_
  refine Run.slim [(27, .bool a1.End), (7, (q1 10)), (0, v0), (3, u1), (4, u2)] ⟨rfl, rfl, rfl, rfl, rfl, trivial⟩ ?_
  refine Run.ite rfl hF (fun e4 hF => ?_) (fun e4 hF => ?_)
  ·
   refine Run.seq ?_
   refine Run.reg ?_
   refine op (OpS.loadB (fr := (Rep.iso (fun s : Whole_ => (s.From, s.Owner, s.Tag, s.Data, ())) (Rep.prod (Rep.int .u8) (Rep.prod Rep.bool (Rep.prod (Rep.int .i64) (Rep.prod (Rep.raw (α := List Int) u5) Rep.unit)))))) h25 .z PA.z (GetS.ok GetS.id) (Ty.like ty51 (by rfl) (by rfl)) rfl rfl rfl (fun u6 h26 => ?_))
   refine op (OpS.storeC (f' := true) (fr := (Rep.iso (fun s : Whole_ => (s.From, s.Owner, s.Tag, s.Data, ())) (Rep.prod (Rep.int .u8) (Rep.prod Rep.bool (Rep.prod (Rep.int .i64) (Rep.prod (Rep.raw (α := List Int) u5) Rep.unit)))))) (r' := (Rep.iso (fun s : Whole_ => (s.From, s.Owner, s.Tag, s.Data, ())) (Rep.prod (Rep.int .u8) (Rep.prod Rep.bool (Rep.prod (Rep.int .i64) (Rep.prod (Rep.raw (α := List Int) u5) Rep.unit)))))) (x' := d1) h26 (.s (.s (.s (.s .z)))) PA.z (Chg.id (by rfl)) (Ty.like ty51 (by rfl) (by rfl)) rfl rfl rfl (V.at .z) (.inl rfl) (fun w10 h27 => ?_))
   refine op (OpS.as rfl rfl rfl ?_)
   refine RunL.nil ?_
   refine Run.slim [(5, .bool true), (4, u2)] ⟨rfl, rfl, trivial⟩ ?_
   obtain ⟨u7, hu1, h28⟩ := res_box h27 .z (Ty.like ty51 (by rfl) (by rfl))
   have h29 := (h28.pick (.s (.s .z))).freezeD
   have h30 := h29.pick .z
   have h31 := St.boxJ (r' := Whole_.rep) (x' := { d1 with Data := ({ (⟨a1.From, a1.Owner, a1.Tag, []⟩ : Whole_) with Data := y2 }).Data }) h30 (fun _ _ hs_ => (Jn.iso _ (Jn.prod Jn.refl (Jn.prod Jn.refl (Jn.prod Jn.refl (Jn.prod (Jn.raw ((V.at .z) _ _ hs_) rfl) Jn.refl))))))
   have h32 := h31.pick (.s .z)
   have h33 := St.boxJ (r' := Whole_.rep) (x' := { d1 with Data := ({ (⟨a1.From, a1.Owner, a1.Tag, []⟩ : Whole_) with Data := y2 }).Data }) h32 (fun _ _ hs_ => (Jn.iso _ (Jn.prod Jn.refl (Jn.prod Jn.refl (Jn.prod Jn.refl (Jn.prod (Jn.raw ((V.at .z) _ _ hs_) rfl) Jn.refl))))))
   have h34 := St.addV (f := true) (r := Whole_.rep) (x := { d1 with Data := ({ (⟨a1.From, a1.Owner, a1.Tag, []⟩ : Whole_) with Data := y2 }).Data }) h33 (V.jn (r := (Rep.iso (fun s : Whole_ => (s.From, s.Owner, s.Tag, s.Data, ())) (Rep.prod (Rep.int .u8) (Rep.prod Rep.bool (Rep.prod (Rep.int .i64) (Rep.prod (Rep.raw (α := List Int) u5) Rep.unit)))))) (x := d1) (V.at (.s .z)) rfl (fun _ _ hs_ => (Jn.iso _ (Jn.prod Jn.refl (Jn.prod Jn.refl (Jn.prod Jn.refl (Jn.prod (Jn.raw ((V.at .z) _ _ hs_) rfl) Jn.refl)))))))
   refine Run.retP rfl (.cell rfl hu1 (.tmp rfl .nil)) ?_
   cases hF
   exact Post.mk' ⟨u7, u4, rfl, rfl, rfl, rfl⟩ (h34.picks (.cons (.s (.s (.s .z))) (.cons (.s (.s (.s .z))) .nil))) (.val (V.at .z) .nil)
  ·
   refine Run.skip ?_
   refine Run.seq ?_
   refine Run.seq ?_
   refine Run.reg ?_
   refine op (OpS.mv rfl rfl rfl ?_)
   refine op (OpS.nchk h25 (.s (.s (.s .z))) rfl rfl rfl ?_)
   refine op (OpS.fbox (o3 := 1) h25 (.s (.s (.s .z))) PA.z fa83_1 rfl rfl rfl rfl ?_)
   refine op (OpS.loadR h25 (.s (.s (.s .z))) PA.a (GetS.ok (GetS.iso _ (GetS.there (GetS.here GetS.id)))) ty81 rfl rfl rfl rfl rfl ?_)
   refine op (OpS.lenD h25 (.s (.s (.s (.s (.s .z))))) Try.underlying81 rfl rfl rfl ?_)
   refine op (OpS.bin rfl rfl rfl rfl rfl ?_)
   refine RunL.nil ?_
   refine Run.slim [(34, .bool ((s1.open_.length : Int) == 8)), (7, (q1 10)), (0, v0), (3, u1), (4, u2)] ⟨rfl, rfl, rfl, rfl, rfl, trivial⟩ ?_
   refine Run.join (σ := fragment_Assembler) (fun s_ L_ w_ => ∃ u0_ : Value, L_ = [(0, v0), (3, u1), (4, u2), (7, (q1 10))] ∧ St e w_ [] [(false, .box 83 (Rep.iso (fun s : fragment_Assembler => (s.own, s.open_, ())) (Rep.prod (Rep.int .u8) (Rep.prod (Rep.raw (α := List fragment_open) u0_) Rep.unit))) v0 s_), (false, .box 44 Packet_.rep u1 a1), (true, .box 51 Whole_.rep u2 Whole_.z), (true, .box 51 (Rep.iso (fun s : Whole_ => (s.From, s.Owner, s.Tag, s.Data, ())) (Rep.prod (Rep.int .u8) (Rep.prod Rep.bool (Rep.prod (Rep.int .i64) (Rep.prod (Rep.raw (α := List Int) u5) Rep.unit))))) (q1 10) d1), (false, .oval (oslice 92 6 (fun _ => fragment_open.orep)) u0_ s_.open_), (true, .oval (oslice 5 1 (fun _ => (sh (Rep.int .u8)))) u5 (({ (⟨a1.From, a1.Owner, a1.Tag, []⟩ : Whole_) with Data := y2 }).Data))]) hF (fun s2 _ w11 hI hF => ?_) (fun j2 hj2 hF => ?_)
   ·
    obtain ⟨u8, rfl, h35⟩ := hI
    refine Run.seq ?_
    have h36 := h35.picks (.cons .z (.cons .z (.cons (.s .z) (.cons (.s .z) (.cons (.s .z) (.cons .z .nil))))))
    have h41 := (h36.pick .z).weak
    obtain ⟨x1, e5, hF⟩ := bindP_use hF
    refine Run.drawV (Ωs := [(true, .box 51 Whole_.rep u2 Whole_.z)]) [⟨some 37, some (v0), fun _ => [], fun ds_ u_ => [], [], [], none⟩, ⟨some 38, some (v0), fun _ => [], fun ds_ u_ => [], [], [], none⟩, ⟨some 39, some (v0), fun _ => [], fun ds_ u_ => [], [], [(0, [])], none⟩, ⟨some 40, some ((padd v0 1)), fun _ => [], fun ds_ u_ => [], [], [(0, [])], none⟩, ⟨some 41, some (u8), fun _ => [], fun ds_ u_ => [], [], [(0, [])], none⟩, ⟨some 42, none, fun u_ => [(true, .val (Rep.iso (fun s : Whole_ => (s.From, s.Owner, s.Tag, s.Data, ())) (Rep.prod (Rep.int .u8) (Rep.prod Rep.bool (Rep.prod (Rep.int .i64) (Rep.prod (Rep.raw (α := List Int) u5) Rep.unit))))) u_ d1)], fun ds_ u_ => [], [], [(2, [])], none⟩, ⟨some 43, some ((padd u1 7)), fun _ => [], fun ds_ u_ => [], [], [(1, [])], none⟩, ⟨some 44, none, fun u_ => [(false, .val (Rep.slice (Rep.int .u8)) u_ a1.Data)], fun ds_ u_ => [], [], [(1, [])], none⟩, ⟨some 45, some (.int .i64 (a1.Data.length : Int)), fun _ => [], fun ds_ u_ => [], [], [], none⟩, ⟨some 46, some ((padd u1 4)), fun _ => [], fun ds_ u_ => [], [], [(1, [])], none⟩, ⟨some 47, some (.int .i64 a1.Sequence), fun _ => [], fun ds_ u_ => [], [], [(1, [])], none⟩, ⟨some 48, none, fun u_ => [(true, .val (Rep.iso (fun s : fragment_open => (s.whole, s.size, s.last, ())) (Rep.prod (Rep.iso (fun s : Whole_ => (s.From, s.Owner, s.Tag, s.Data, ())) (Rep.prod (Rep.int .u8) (Rep.prod Rep.bool (Rep.prod (Rep.int .i64) (Rep.prod (Rep.raw (α := List Int) u5) Rep.unit))))) (Rep.prod (Rep.int .i64) (Rep.prod (Rep.int .i64) Rep.unit)))) u_ (⟨d1, (a1.Data.length : Int), a1.Sequence⟩ : fragment_open))], fun ds_ u_ => [], [], [(4, [12, 11])], none⟩, ⟨some 49, none, fun u_ => [], fun ds_ u_ => [(true, .oval (oslice 92 6 (fun _ => fragment_open.orep)) u_ ([{ (⟨d1, (a1.Data.length : Int), a1.Sequence⟩ : fragment_open) with whole := { (⟨d1, (a1.Data.length : Int), a1.Sequence⟩ : fragment_open).whole with Data := ({ (⟨a1.From, a1.Owner, a1.Tag, []⟩ : Whole_) with Data := y2 }).Data } }]))], [4], [], none⟩, ⟨some 50, none, fun u_ => [], fun ds_ u_ => [(false, .oval (oslice 92 6 (fun _ => fragment_open.orep)) u_ x1)], [17, 3], [], none⟩] [[], [], [1], [2], [3], [], [], [6], [7], [], [9], [5, 8, 10], [11], [4, 12]] [[(false, .box 83 (Rep.iso (fun s : fragment_Assembler => (s.own, s.open_, ())) (Rep.prod (Rep.int .u8) (Rep.prod (Rep.raw (α := List fragment_open) u8) Rep.unit))) v0 s2)], [(false, .box 44 Packet_.rep u1 a1)], [(true, .box 51 (Rep.iso (fun s : Whole_ => (s.From, s.Owner, s.Tag, s.Data, ())) (Rep.prod (Rep.int .u8) (Rep.prod Rep.bool (Rep.prod (Rep.int .i64) (Rep.prod (Rep.raw (α := List Int) u5) Rep.unit))))) (q1 10) d1)], [(false, .oval (oslice 92 6 (fun _ => fragment_open.orep)) u8 s2.open_)], [(true, .oval (oslice 5 1 (fun _ => (sh (Rep.int .u8)))) u5 (({ (⟨a1.From, a1.Owner, a1.Tag, []⟩ : Whole_) with Data := y2 }).Data))]] [0, 1, 2, 5, 6, 7, 8, 9, 10, 11, 12, 13, 14, 15, 16, 18] Try_mixed rfl rfl rfl h36 (.cons ?_ (.cons ?_ (.cons ?_ (.cons ?_ (.cons ?_ (.cons ?_ (.cons ?_ (.cons ?_ (.cons ?_ (.cons ?_ (.cons ?_ (.cons ?_ (.cons ?_ (.cons ?_ .nil)))))))))))))) (fun q2 w hq2 h => ?_)
    ·intro q2 w Γx Ωx h
     refine OpS.mv rfl rfl rfl ?_
     exact ⟨undef, rfl, trivial, h⟩
    ·intro q2 w Γx Ωx h
     refine OpS.mv rfl rfl rfl ?_
     exact ⟨undef, rfl, trivial, h⟩
    ·intro q2 w Γx Ωx h
     have h : St e w ([] ++ Γx) ([(false, .box 83 (Rep.iso (fun s : fragment_Assembler => (s.own, s.open_, ())) (Rep.prod (Rep.int .u8) (Rep.prod (Rep.raw (α := List fragment_open) u8) Rep.unit))) v0 s2), (true, .box 51 Whole_.rep u2 Whole_.z)] ++ Ωx) := h
     refine OpS.nchk h .z rfl rfl rfl ?_
     exact ⟨undef, rfl, trivial, h⟩
    ·intro q2 w Γx Ωx h
     have h : St e w ([] ++ Γx) ([(false, .box 83 (Rep.iso (fun s : fragment_Assembler => (s.own, s.open_, ())) (Rep.prod (Rep.int .u8) (Rep.prod (Rep.raw (α := List fragment_open) u8) Rep.unit))) v0 s2), (true, .box 51 Whole_.rep u2 Whole_.z)] ++ Ωx) := h
     refine OpS.fbox (o3 := 1) h .z PA.z fa83_1 rfl rfl rfl rfl ?_
     exact ⟨undef, rfl, trivial, h⟩
    ·intro q2 w Γx Ωx h
     have h : St e w ([] ++ Γx) ([(false, .box 83 (Rep.iso (fun s : fragment_Assembler => (s.own, s.open_, ())) (Rep.prod (Rep.int .u8) (Rep.prod (Rep.raw (α := List fragment_open) u8) Rep.unit))) v0 s2), (true, .box 51 Whole_.rep u2 Whole_.z)] ++ Ωx) := h
     refine OpS.loadR h .z PA.a (GetS.ok (GetS.iso _ (GetS.there (GetS.here GetS.id)))) ty81 rfl rfl rfl rfl rfl ?_
     exact ⟨undef, rfl, trivial, h⟩
    ·intro q2 w Γx Ωx h
     have h : St e w ([] ++ Γx) ([(true, .box 51 (Rep.iso (fun s : Whole_ => (s.From, s.Owner, s.Tag, s.Data, ())) (Rep.prod (Rep.int .u8) (Rep.prod Rep.bool (Rep.prod (Rep.int .i64) (Rep.prod (Rep.raw (α := List Int) u5) Rep.unit))))) (q1 10) d1), (true, .box 51 Whole_.rep u2 Whole_.z)] ++ Ωx) := h
     refine OpS.loadB (fr := (Rep.iso (fun s : Whole_ => (s.From, s.Owner, s.Tag, s.Data, ())) (Rep.prod (Rep.int .u8) (Rep.prod Rep.bool (Rep.prod (Rep.int .i64) (Rep.prod (Rep.raw (α := List Int) u5) Rep.unit)))))) h .z PA.z (GetS.ok GetS.id) (Ty.like ty51 (by rfl) (by rfl)) rfl rfl rfl (fun u h44 => ?_)
     exact ⟨u, rfl, trivial, h44⟩
    ·intro q2 w Γx Ωx h
     have h : St e w ([] ++ Γx) ([(false, .box 44 Packet_.rep u1 a1), (true, .box 51 Whole_.rep u2 Whole_.z)] ++ Ωx) := h
     refine OpS.fbox (o3 := 7) h .z PA.z fa44_7 rfl rfl rfl rfl ?_
     exact ⟨undef, rfl, trivial, h⟩
    ·intro q2 w Γx Ωx h
     have h : St e w ([] ++ Γx) ([(false, .box 44 Packet_.rep u1 a1), (true, .box 51 Whole_.rep u2 Whole_.z)] ++ Ωx) := h
     refine OpS.loadB h .z PA.a (Get.fld Packet_.f7) ty22 rfl rfl rfl (fun u h45 => ?_)
     exact ⟨u, rfl, trivial, h45⟩
    ·intro q2 w Γx Ωx h
     refine OpS.len h Try.underlying22 rfl rfl rfl (V.at .z) ?_
     exact ⟨undef, rfl, trivial, h⟩
    ·intro q2 w Γx Ωx h
     have h : St e w ([] ++ Γx) ([(false, .box 44 Packet_.rep u1 a1), (true, .box 51 Whole_.rep u2 Whole_.z)] ++ Ωx) := h
     refine OpS.fbox (o3 := 4) h .z PA.z fa44_4 rfl rfl rfl rfl ?_
     exact ⟨undef, rfl, trivial, h⟩
    ·intro q2 w Γx Ωx h
     have h : St e w ([] ++ Γx) ([(false, .box 44 Packet_.rep u1 a1), (true, .box 51 Whole_.rep u2 Whole_.z)] ++ Ωx) := h
     refine OpS.loadBi h .z PA.a (Get.fld Packet_.f4) ty3 rfl rfl rfl ?_
     exact ⟨undef, rfl, trivial, h⟩
    ·intro q2 w Γx Ωx h
     have h : St e w ([(true, .val (Rep.iso (fun s : Whole_ => (s.From, s.Owner, s.Tag, s.Data, ())) (Rep.prod (Rep.int .u8) (Rep.prod Rep.bool (Rep.prod (Rep.int .i64) (Rep.prod (Rep.raw (α := List Int) u5) Rep.unit))))) (q2 5) d1)] ++ Γx) ([(true, .oval (oslice 5 1 (fun _ => (sh (Rep.int .u8)))) u5 (({ (⟨a1.From, a1.Owner, a1.Tag, []⟩ : Whole_) with Data := y2 }).Data)), (true, .box 51 Whole_.rep u2 Whole_.z)] ++ Ωx) := h
     refine OpS.buildC (f := true) (r := fragment_open.rep) (x := fragment_open.z) (r' := (Rep.iso (fun s : fragment_open => (s.whole, s.size, s.last, ())) (Rep.prod (Rep.iso (fun s : Whole_ => (s.From, s.Owner, s.Tag, s.Data, ())) (Rep.prod (Rep.int .u8) (Rep.prod Rep.bool (Rep.prod (Rep.int .i64) (Rep.prod (Rep.raw (α := List Int) u5) Rep.unit))))) (Rep.prod (Rep.int .i64) (Rep.prod (Rep.int .i64) Rep.unit))))) (x' := (⟨d1, (a1.Data.length : Int), a1.Sequence⟩ : fragment_open)) h pl92 ti92 fragment_open.zr rfl rfl rfl (.cons (Rep.iso (fun s : Whole_ => (s.From, s.Owner, s.Tag, s.Data, ())) (Rep.prod (Rep.int .u8) (Rep.prod Rep.bool (Rep.prod (Rep.int .i64) (Rep.prod (Rep.raw (α := List Int) u5) Rep.unit))))) fragment_open.rep (Rep.iso (fun s : fragment_open => (s.whole, s.size, s.last, ())) (Rep.prod (Rep.iso (fun s : Whole_ => (s.From, s.Owner, s.Tag, s.Data, ())) (Rep.prod (Rep.int .u8) (Rep.prod Rep.bool (Rep.prod (Rep.int .i64) (Rep.prod (Rep.raw (α := List Int) u5) Rep.unit))))) (Rep.prod (Rep.int .i64) (Rep.prod (Rep.int .i64) Rep.unit)))) fragment_open.z (⟨d1, 0, 0⟩ : fragment_open) (Chg.iso _ (Chg.here (Chg.id (by rfl)))) rfl rfl (V.at .z) (.cons (Rep.int .i64) (Rep.iso (fun s : fragment_open => (s.whole, s.size, s.last, ())) (Rep.prod (Rep.iso (fun s : Whole_ => (s.From, s.Owner, s.Tag, s.Data, ())) (Rep.prod (Rep.int .u8) (Rep.prod Rep.bool (Rep.prod (Rep.int .i64) (Rep.prod (Rep.raw (α := List Int) u5) Rep.unit))))) (Rep.prod (Rep.int .i64) (Rep.prod (Rep.int .i64) Rep.unit)))) (Rep.iso (fun s : fragment_open => (s.whole, s.size, s.last, ())) (Rep.prod (Rep.iso (fun s : Whole_ => (s.From, s.Owner, s.Tag, s.Data, ())) (Rep.prod (Rep.int .u8) (Rep.prod Rep.bool (Rep.prod (Rep.int .i64) (Rep.prod (Rep.raw (α := List Int) u5) Rep.unit))))) (Rep.prod (Rep.int .i64) (Rep.prod (Rep.int .i64) Rep.unit)))) (⟨d1, 0, 0⟩ : fragment_open) (⟨d1, (a1.Data.length : Int), 0⟩ : fragment_open) (Chg.iso _ (Chg.there (Chg.here (Chg.id (by rfl))))) rfl rfl V.int (.cons (Rep.int .i64) (Rep.iso (fun s : fragment_open => (s.whole, s.size, s.last, ())) (Rep.prod (Rep.iso (fun s : Whole_ => (s.From, s.Owner, s.Tag, s.Data, ())) (Rep.prod (Rep.int .u8) (Rep.prod Rep.bool (Rep.prod (Rep.int .i64) (Rep.prod (Rep.raw (α := List Int) u5) Rep.unit))))) (Rep.prod (Rep.int .i64) (Rep.prod (Rep.int .i64) Rep.unit)))) (Rep.iso (fun s : fragment_open => (s.whole, s.size, s.last, ())) (Rep.prod (Rep.iso (fun s : Whole_ => (s.From, s.Owner, s.Tag, s.Data, ())) (Rep.prod (Rep.int .u8) (Rep.prod Rep.bool (Rep.prod (Rep.int .i64) (Rep.prod (Rep.raw (α := List Int) u5) Rep.unit))))) (Rep.prod (Rep.int .i64) (Rep.prod (Rep.int .i64) Rep.unit)))) (⟨d1, (a1.Data.length : Int), 0⟩ : fragment_open) (⟨d1, (a1.Data.length : Int), a1.Sequence⟩ : fragment_open) (Chg.iso _ (Chg.there (Chg.there (Chg.here (Chg.id (by rfl)))))) rfl rfl V.int .nil))) (fun u h46 => ?_)
     exact ⟨u, rfl, trivial, h46⟩
    ·intro q2 w Γx Ωx h
     have h : St e w ([(true, .val (Rep.iso (fun s : fragment_open => (s.whole, s.size, s.last, ())) (Rep.prod (Rep.iso (fun s : Whole_ => (s.From, s.Owner, s.Tag, s.Data, ())) (Rep.prod (Rep.int .u8) (Rep.prod Rep.bool (Rep.prod (Rep.int .i64) (Rep.prod (Rep.raw (α := List Int) u5) Rep.unit))))) (Rep.prod (Rep.int .i64) (Rep.prod (Rep.int .i64) Rep.unit)))) (q2 11) (⟨d1, (a1.Data.length : Int), a1.Sequence⟩ : fragment_open))] ++ Γx) ([(true, .oval (oslice 5 1 (fun _ => (sh (Rep.int .u8)))) u5 (({ (⟨a1.From, a1.Owner, a1.Tag, []⟩ : Whole_) with Data := y2 }).Data)), (true, .box 51 Whole_.rep u2 Whole_.z)] ++ Ωx) := h
     refine OpS.litO (r := (Rep.iso (fun s : fragment_open => (s.whole, s.size, s.last, ())) (Rep.prod (Rep.iso (fun s : Whole_ => (s.From, s.Owner, s.Tag, s.Data, ())) (Rep.prod (Rep.int .u8) (Rep.prod Rep.bool (Rep.prod (Rep.int .i64) (Rep.prod (Rep.raw (α := List Int) u5) Rep.unit))))) (Rep.prod (Rep.int .i64) (Rep.prod (Rep.int .i64) Rep.unit))))) (f := true) h Try.underlying81 ti92 rfl rfl rfl rfl rfl (.cons rfl (V.at .z) .nil) rfl rfl (fun u w14 h47 => ?_)
     have h48 := h47.front (.cons (.s .z) (.cons .z .nil))
     have h49 := h48.pick (.s .z)
     have h50 := St.litD (r := fragment_open.orep) (x' := { (⟨d1, (a1.Data.length : Int), a1.Sequence⟩ : fragment_open) with whole := { (⟨d1, (a1.Data.length : Int), a1.Sequence⟩ : fragment_open).whole with Data := ({ (⟨a1.From, a1.Owner, a1.Tag, []⟩ : Whole_) with Data := y2 }).Data } }) h49 (.inl rfl) rfl (fragment_open.joW (Jo.raw rfl))
     exact ⟨u, rfl, trivial, h50⟩
    ·intro q2 w Γx Ωx h
     have h : St e w ([] ++ Γx) ([(true, .oval (oslice 92 6 (fun _ => fragment_open.orep)) (q2 12) ([{ (⟨d1, (a1.Data.length : Int), a1.Sequence⟩ : fragment_open) with whole := { (⟨d1, (a1.Data.length : Int), a1.Sequence⟩ : fragment_open).whole with Data := ({ (⟨a1.From, a1.Owner, a1.Tag, []⟩ : Whole_) with Data := y2 }).Data } }])), (false, .oval (oslice 92 6 (fun _ => fragment_open.orep)) u8 s2.open_), (true, .box 51 Whole_.rep u2 Whole_.z)] ++ Ωx) := h
     have h51 := (h.pick .z).weak
     have h52 := h51.front (.cons (.s .z) (.cons .z .nil))
     refine OpS.appDD h52 Try.underlying81 ti92 rfl rfl rfl rfl rfl rfl rfl rfl e5 (fun u w15 h53 => ?_)
     exact ⟨u, rfl, trivial, h53⟩
    have h54 : St e w [(true, .val (Rep.iso (fun s : Whole_ => (s.From, s.Owner, s.Tag, s.Data, ())) (Rep.prod (Rep.int .u8) (Rep.prod Rep.bool (Rep.prod (Rep.int .i64) (Rep.prod (Rep.raw (α := List Int) u5) Rep.unit))))) (q2 5) d1), (false, .val (Rep.slice (Rep.int .u8)) (q2 7) a1.Data), (true, .val (Rep.iso (fun s : fragment_open => (s.whole, s.size, s.last, ())) (Rep.prod (Rep.iso (fun s : Whole_ => (s.From, s.Owner, s.Tag, s.Data, ())) (Rep.prod (Rep.int .u8) (Rep.prod Rep.bool (Rep.prod (Rep.int .i64) (Rep.prod (Rep.raw (α := List Int) u5) Rep.unit))))) (Rep.prod (Rep.int .i64) (Rep.prod (Rep.int .i64) Rep.unit)))) (q2 11) (⟨d1, (a1.Data.length : Int), a1.Sequence⟩ : fragment_open))] [(false, .box 83 (Rep.iso (fun s : fragment_Assembler => (s.own, s.open_, ())) (Rep.prod (Rep.int .u8) (Rep.prod (Rep.raw (α := List fragment_open) u8) Rep.unit))) v0 s2), (false, .box 44 Packet_.rep u1 a1), (true, .box 51 (Rep.iso (fun s : Whole_ => (s.From, s.Owner, s.Tag, s.Data, ())) (Rep.prod (Rep.int .u8) (Rep.prod Rep.bool (Rep.prod (Rep.int .i64) (Rep.prod (Rep.raw (α := List Int) u5) Rep.unit))))) (q1 10) d1), (false, .oval (oslice 92 6 (fun _ => fragment_open.orep)) (q2 13) x1), (true, .box 51 Whole_.rep u2 Whole_.z)] := h
    refine op (OpS.nchk h54 .z rfl rfl rfl ?_)
    refine op (OpS.fbox (o3 := 1) h54 .z PA.z fa83_1 rfl rfl rfl rfl ?_)
    refine op (OpS.storeC (f' := false) (fr := (Rep.raw (q2 13))) (r' := (Rep.iso (fun s : fragment_Assembler => (s.own, s.open_, ())) (Rep.prod (Rep.int .u8) (Rep.prod (Rep.raw (α := List fragment_open) (q2 13)) Rep.unit)))) (x' := s2) h54 .z PA.a (Chg.iso _ (Chg.there (Chg.here (Chg.id (by rfl))))) (Ty.like ty81 (by rfl) (by rfl)) rfl rfl rfl (V.raw (f := false) (St.ownD h54 (.s (.s (.s .z)))) s2.open_) (.inr rfl) (fun w16 h55 => ?_))
    refine RunL.nil ?_
    refine Run.slim [(4, u2)] ⟨rfl, trivial⟩ ?_
    refine Run.seq ?_
    refine Run.reg ?_
    refine op (OpS.build (f := true) (x' := Whole_.z) h55 pl51 ti51 Whole_.zr rfl rfl rfl .nil (fun u9 h56 => ?_))
    refine op (OpS.storeB (f' := true) h56 (.s (.s (.s (.s .z)))) PA.z Put.id ty51 rfl rfl rfl (V.at .z) (.inl rfl) (fun w17 h57 => ?_))
    refine op (OpS.as rfl rfl rfl ?_)
    refine RunL.nil ?_
    refine Run.slim [(5, .bool false), (4, u2)] ⟨rfl, rfl, trivial⟩ ?_
    obtain ⟨u10, hu2, h58⟩ := res_box h57 .z ty51
    have h59 := St.boxJ (r' := (Rep.iso (fun s : fragment_Assembler => (s.own, s.open_, ())) (Rep.prod (Rep.int .u8) (Rep.prod (Rep.raw (α := List fragment_open) (q2 13)) Rep.unit)))) (x' := { s2 with open_ := x1 }) (h58.pick (.s .z)) (fun _ _ hs_ => (Jn.iso _ (Jn.prod Jn.refl (Jn.prod Jn.same Jn.refl))))
    refine Run.retP rfl (.cell rfl hu2 (.tmp rfl .nil)) ?_
    cases hF
    exact Post.mk' ⟨u10, (q2 13), rfl, rfl, rfl, rfl⟩ (h59.picks (.cons .z (.cons (.s (.s (.s .z))) .nil))) (.val (V.at .z) .nil)
   ·
    refine Run.ite rfl hF (fun e6 hF => ?_) (fun e6 hF => ?_)
    ·
     refine Run.reg ?_
     refine op (OpS.mv rfl rfl rfl ?_)
     obtain ⟨y3, e7, hF⟩ := bindP_use hF
     have h60 := h25.front (.cons (.s (.s (.s .z))) (.cons (.s (.s (.s (.s .z)))) .nil))
     have h61 := St.unselfD (0 : Int).toNat (h60.pick (.s .z))
     have h62 := h61.front (.cons (.s .z) (.cons .z .nil))
     refine op (OpS.callO h62 Try.func46 rfl rfl rfl rfl (vs := [v0, .int .i64 0]) rfl (fragment_Assembler_drop_ok e7 (r_ := fragment_open.orep) (hr_ := rfl)) rfl .nil ?_)
     rintro _ w18 _ _ _ ⟨u11, rfl, rfl, rfl, rfl⟩ h63
     have h64 := h63
     simp only [List.cons_append, List.nil_append] at h64
     refine RunL.nil ?_
     refine Run.slim [(7, (q1 10)), (0, v0), (3, u1), (4, u2)] ⟨rfl, rfl, rfl, rfl, trivial⟩ ?_
     refine Run.slim [(0, v0), (3, u1), (4, u2), (7, (q1 10))] ⟨rfl, rfl, rfl, rfl, trivial⟩ ?_
     exact hj2 (y3) _ _ ⟨u11, rfl, (h64.facts .nil).picks (.cons .z (.cons (.s (.s (.s .z))) (.cons (.s (.s (.s .z))) (.cons (.s .z) (.cons .z (.cons .z .nil))))))⟩ hF
    ·
     refine Run.skip ?_
     refine Run.slim [(0, v0), (3, u1), (4, u2), (7, (q1 10))] ⟨rfl, rfl, rfl, rfl, trivial⟩ ?_
     exact hj2 (s1) _ _ ⟨u4, rfl, (h25.facts .nil).picks (.cons (.s (.s (.s .z))) (.cons (.s (.s .z)) (.cons (.s (.s .z)) (.cons .z (.cons (.s .z) (.cons .z .nil))))))⟩ hF
 ·
  refine Run.ite rfl hF (fun e8 hF => ?_) (fun e8 hF => ?_)
  ·
   refine Run.reg ?_
   refine op (OpS.mv rfl rfl rfl ?_)
   refine op (OpS.mv rfl rfl rfl ?_)
   obtain ⟨y4, e9, hF⟩ := bindP_use hF
   have h65 := h6.front (.cons .z (.cons .z .nil))
   have h66 := St.unselfD (y1 : Int).toNat (h65.pick (.s .z))
   have h67 := h66.front (.cons (.s .z) (.cons .z .nil))
   refine op (OpS.callO h67 Try.func46 rfl rfl rfl rfl (vs := [v0, .int .i64 y1]) rfl (fragment_Assembler_drop_ok e9 (r_ := fragment_open.orep) (hr_ := rfl)) rfl .nil ?_)
   rintro _ w19 _ _ _ ⟨u12, rfl, rfl, rfl, rfl⟩ h68
   have h69 := h68
   simp only [List.cons_append, List.nil_append] at h69
   refine RunL.nil ?_
   refine Run.slim [(4, u2), (3, u1), (0, v0)] ⟨rfl, rfl, rfl, trivial⟩ ?_
   refine Run.slim [(0, v0), (3, u1), (4, u2)] ⟨rfl, rfl, rfl, trivial⟩ ?_
   exact hj1 (y4) _ _ ⟨u12, rfl, (h69.facts .nil).picks (.cons .z (.cons (.s (.s .z)) (.cons (.s .z) (.cons .z .nil))))⟩ hF
  ·
   refine Run.skip ?_
   refine Run.slim [(0, v0), (3, u1), (4, u2)] ⟨rfl, rfl, rfl, trivial⟩ ?_
   exact hj1 (a0) _ _ ⟨v0_0, rfl, (h6.facts .nil).picks (.cons .z (.cons (.s (.s .z)) (.cons (.s .z) (.cons .z .nil))))⟩ hF
set_option maxHeartbeats 8000000 in
theorem fragment_Assembler_Accept_ok {fuel : Nat} {a0 : fragment_Assembler} {a1 : Packet_} {y : Whole_ × Bool × Int × fragment_Assembler} (hF : fragment_Assembler_Accept fuel a0 a1 = some y) {w : World} {v0 v0_0 v1 : Value} :
  Spec Try.prog 24 [v0, v1].toArray w [(false, .val Packet_.rep v1 a1)] [(false, .box 83 (Rep.iso (fun s : fragment_Assembler => (s.own, s.open_, ())) (Rep.prod (Rep.int .u8) (Rep.prod (Rep.raw (α := List fragment_open) v0_0) Rep.unit))) v0 a0), (false, .oval (oslice 92 6 (fun _ => fragment_open.orep)) v0_0 a0.open_)] (fun v Γr Ωr Ωo => ∃ u0 w0_0 : Value, v = .tuple #[u0, .bool y.2.1, .int .i64 y.2.2.1] ∧ Γr = [(false, .val Whole_.rep u0 y.1)] ∧ Ωr = [] ∧ Ωo = [(false, .box 83 (Rep.iso (fun s : fragment_Assembler => (s.own, s.open_, ())) (Rep.prod (Rep.int .u8) (Rep.prod (Rep.raw (α := List fragment_open) w0_0) Rep.unit))) v0 y.2.2.2), (false, (.oval (oslice 92 6 (fun _ => fragment_open.orep)) w0_0 y.2.2.2.open_))]) := by
 refine Spec.of (L := [(0, v0), (1, v1)]) Try.func24 rfl ⟨rfl, rfl, trivial⟩ rfl (fun e h => ?_)
 unfold fragment_Assembler_Accept at hF
 refine Run.seq ?_
 refine Run.reg ?_
 refine op (OpS.boxF h rfl rfl rfl (V.at .z) (fun u1 w1 h1 => ?_))
 refine op (OpS.alloc h1 ti51 Whole_.zr rfl rfl (fun u2 w2 h2 => ?_))
 refine op (OpS.as rfl rfl rfl ?_)
 refine op (OpS.as rfl rfl rfl ?_)
 refine RunL.nil ?_
 refine Run.slim [(4, u2), (3, u1), (0, v0)] ⟨rfl, rfl, rfl, trivial⟩ ?_
 refine Run.seq ?_
 refine Run.block ?_
 refine Run.seq ?_
 refine Run.reg ?_
 refine op (OpS.loadB h2 (.s .z) PA.z Get.id ty44 rfl rfl rfl (fun u3 h3 => ?_))
 obtain ⟨y1, e1, hF⟩ := bindP_use hF
 refine op (OpS.callP h3 Try.func30 rfl rfl rfl rfl (vs := [u3]) rfl (fragment_Valid_ok e1) (.cons (f := false) (V.at .z) .nil) ?_)
 rintro _ w3 _ _ _ ⟨rfl, rfl, rfl, rfl⟩ h4
 have h5 := h4 rfl rfl
 simp only [List.cons_append, List.nil_append] at h5
 refine op (OpS.not rfl rfl rfl ?_)
 refine op (OpS.as rfl rfl rfl ?_)
 obtain ⟨x1, e2, hF⟩ := letP_use hF
 refine RunL.nameb e2 ?_
 refine RunL.nil ?_
 refine Run.slim [(13, .bool x1), (4, u2), (3, u1), (0, v0)] ⟨rfl, rfl, rfl, rfl, trivial⟩ ?_
 refine Run.ite rfl hF (fun e3 hF => ?_) (fun e3 hF => ?_)
 ·
  refine Run.seq ?_
  refine Run.reg ?_
  refine op (OpS.build (f := true) (x' := Whole_.z) h5 pl51 ti51 Whole_.zr rfl rfl rfl .nil (fun u4 h6 => ?_))
  refine op (OpS.storeB (f' := true) h6 .z PA.z Put.id ty51 rfl rfl rfl (V.at .z) (.inl rfl) (fun w4 h7 => ?_))
  refine op (OpS.as rfl rfl rfl ?_)
  refine op (OpS.as rfl rfl rfl ?_)
  refine RunL.nil ?_
  refine Run.slim [(6, .int .i64 1), (5, .bool false), (4, u2)] ⟨rfl, rfl, rfl, trivial⟩ ?_
  obtain ⟨u5, hu1, h8⟩ := res_box h7 .z ty51
  refine Run.retP rfl (.cell rfl hu1 (.tmp rfl (.tmp rfl .nil))) ?_
  cases hF
  exact Post.mk' ⟨u5, v0_0, rfl, rfl, rfl, rfl⟩ (h8.picks (.cons (.s (.s .z)) (.cons (.s (.s .z)) .nil))) (.val (V.weak (V.at .z)) .nil)
 ·
  refine Run.seq ?_
  have h9 := h5.picks (.cons (.s .z) (.cons (.s .z) (.cons .z (.cons .z .nil))))
  refine Run.drawV (Ωs := [(true, .box 51 Whole_.rep u2 Whole_.z), (false, .oval (oslice 92 6 (fun _ => fragment_open.orep)) v0_0 a0.open_)]) [⟨some 19, some ((padd u1 0)), fun _ => [], fun ds_ u_ => [], [], [(0, [])], none⟩, ⟨some 20, some (.int .u8 a1.To), fun _ => [], fun ds_ u_ => [], [], [(0, [])], none⟩, ⟨some 21, some (v0), fun _ => [], fun ds_ u_ => [], [], [], none⟩, ⟨some 22, some (v0), fun _ => [], fun ds_ u_ => [], [], [(1, [])], none⟩, ⟨some 23, some ((padd v0 0)), fun _ => [], fun ds_ u_ => [], [], [(1, [])], none⟩, ⟨some 24, some (.int .u8 a0.own), fun _ => [], fun ds_ u_ => [], [], [(1, [])], none⟩, ⟨some 25, some (.bool (a1.To != a0.own)), fun _ => [], fun ds_ u_ => [], [], [], none⟩, ⟨some 18, some (.bool (a1.To != a0.own)), fun _ => [], fun ds_ u_ => [], [], [], none⟩] [[], [0], [], [2], [3], [4], [1, 5], [6]] [[(false, .box 44 Packet_.rep u1 a1)], [(false, .box 83 (Rep.iso (fun s : fragment_Assembler => (s.own, s.open_, ())) (Rep.prod (Rep.int .u8) (Rep.prod (Rep.raw (α := List fragment_open) v0_0) Rep.unit))) v0 a0)]] [0, 1, 2, 3, 4, 5, 6, 7, 8, 9] Try_mixed rfl rfl rfl h9 (.cons ?_ (.cons ?_ (.cons ?_ (.cons ?_ (.cons ?_ (.cons ?_ (.cons ?_ (.cons ?_ .nil)))))))) (fun q1 w hq1 h => ?_)
  ·intro q1 w Γx Ωx h
   have h : St e w ([(false, .val Packet_.rep u3 a1), (false, .val Packet_.rep v1 a1)] ++ Γx) ([(false, .box 44 Packet_.rep u1 a1), (true, .box 51 Whole_.rep u2 Whole_.z), (false, .oval (oslice 92 6 (fun _ => fragment_open.orep)) v0_0 a0.open_)] ++ Ωx) := h
   refine OpS.fbox (o3 := 0) h .z PA.z fa44_0 rfl rfl rfl rfl ?_
   exact ⟨undef, rfl, trivial, h⟩
  ·intro q1 w Γx Ωx h
   have h : St e w ([(false, .val Packet_.rep u3 a1), (false, .val Packet_.rep v1 a1)] ++ Γx) ([(false, .box 44 Packet_.rep u1 a1), (true, .box 51 Whole_.rep u2 Whole_.z), (false, .oval (oslice 92 6 (fun _ => fragment_open.orep)) v0_0 a0.open_)] ++ Ωx) := h
   refine OpS.loadBi h .z PA.a (Get.fld Packet_.f0) ty5 rfl rfl rfl ?_
   exact ⟨undef, rfl, trivial, h⟩
  ·intro q1 w Γx Ωx h
   refine OpS.mv rfl rfl rfl ?_
   exact ⟨undef, rfl, trivial, h⟩
  ·intro q1 w Γx Ωx h
   have h : St e w ([(false, .val Packet_.rep u3 a1), (false, .val Packet_.rep v1 a1)] ++ Γx) ([(false, .box 83 (Rep.iso (fun s : fragment_Assembler => (s.own, s.open_, ())) (Rep.prod (Rep.int .u8) (Rep.prod (Rep.raw (α := List fragment_open) v0_0) Rep.unit))) v0 a0), (true, .box 51 Whole_.rep u2 Whole_.z), (false, .oval (oslice 92 6 (fun _ => fragment_open.orep)) v0_0 a0.open_)] ++ Ωx) := h
   refine OpS.nchk h .z rfl rfl rfl ?_
   exact ⟨undef, rfl, trivial, h⟩
  ·intro q1 w Γx Ωx h
   have h : St e w ([(false, .val Packet_.rep u3 a1), (false, .val Packet_.rep v1 a1)] ++ Γx) ([(false, .box 83 (Rep.iso (fun s : fragment_Assembler => (s.own, s.open_, ())) (Rep.prod (Rep.int .u8) (Rep.prod (Rep.raw (α := List fragment_open) v0_0) Rep.unit))) v0 a0), (true, .box 51 Whole_.rep u2 Whole_.z), (false, .oval (oslice 92 6 (fun _ => fragment_open.orep)) v0_0 a0.open_)] ++ Ωx) := h
   refine OpS.fbox (o3 := 0) h .z PA.z fa83_0 rfl rfl rfl rfl ?_
   exact ⟨undef, rfl, trivial, h⟩
  ·intro q1 w Γx Ωx h
   have h : St e w ([(false, .val Packet_.rep u3 a1), (false, .val Packet_.rep v1 a1)] ++ Γx) ([(false, .box 83 (Rep.iso (fun s : fragment_Assembler => (s.own, s.open_, ())) (Rep.prod (Rep.int .u8) (Rep.prod (Rep.raw (α := List fragment_open) v0_0) Rep.unit))) v0 a0), (true, .box 51 Whole_.rep u2 Whole_.z), (false, .oval (oslice 92 6 (fun _ => fragment_open.orep)) v0_0 a0.open_)] ++ Ωx) := h
   refine OpS.loadBi h .z PA.a (GetS.ok (GetS.iso _ (GetS.here GetS.id))) ty5 rfl rfl rfl ?_
   exact ⟨undef, rfl, trivial, h⟩
  ·intro q1 w Γx Ωx h
   refine OpS.bin rfl rfl rfl rfl rfl ?_
   exact ⟨undef, rfl, trivial, h⟩
  ·intro q1 w Γx Ωx h
   refine OpS.as rfl rfl rfl ?_
   exact ⟨undef, rfl, trivial, h⟩
  have h10 : St e w [(false, .val Packet_.rep u3 a1), (false, .val Packet_.rep v1 a1)] [(false, .box 44 Packet_.rep u1 a1), (false, .box 83 (Rep.iso (fun s : fragment_Assembler => (s.own, s.open_, ())) (Rep.prod (Rep.int .u8) (Rep.prod (Rep.raw (α := List fragment_open) v0_0) Rep.unit))) v0 a0), (true, .box 51 Whole_.rep u2 Whole_.z), (false, .oval (oslice 92 6 (fun _ => fragment_open.orep)) v0_0 a0.open_)] := h
  refine RunL.nil ?_
  refine Run.slim [(18, .bool (a1.To != a0.own)), (4, u2), (3, u1), (0, v0)] ⟨rfl, rfl, rfl, rfl, trivial⟩ ?_
  refine Run.ite rfl hF (fun e4 hF => ?_) (fun e4 hF => ?_)
  ·
   refine Run.seq ?_
   refine Run.reg ?_
   refine op (OpS.build (f := true) (x' := Whole_.z) h10 pl51 ti51 Whole_.zr rfl rfl rfl .nil (fun u6 h11 => ?_))
   refine op (OpS.storeB (f' := true) h11 (.s (.s .z)) PA.z Put.id ty51 rfl rfl rfl (V.at .z) (.inl rfl) (fun w5 h12 => ?_))
   refine op (OpS.as rfl rfl rfl ?_)
   refine op (OpS.as rfl rfl rfl ?_)
   refine RunL.nil ?_
   refine Run.slim [(6, .int .i64 13), (5, .bool false), (4, u2)] ⟨rfl, rfl, rfl, trivial⟩ ?_
   obtain ⟨u7, hu2, h13⟩ := res_box h12 .z ty51
   refine Run.retP rfl (.cell rfl hu2 (.tmp rfl (.tmp rfl .nil))) ?_
   cases hF
   exact Post.mk' ⟨u7, v0_0, rfl, rfl, rfl, rfl⟩ (h13.picks (.cons (.s (.s .z)) (.cons (.s (.s .z)) .nil))) (.val (V.weak (V.at .z)) .nil)
  ·
   refine Run.seq ?_
   refine Run.reg ?_
   refine op (OpS.fbox (o3 := 2) h10 .z PA.z fa44_2 rfl rfl rfl rfl ?_)
   refine op (OpS.loadBb h10 .z PA.a (Get.fld Packet_.f2) ty4 rfl rfl rfl ?_)
   refine op (OpS.as rfl rfl rfl ?_)
   refine RunL.nil ?_
   refine Run.slim [(27, .bool a1.Start), (4, u2), (3, u1), (0, v0)] ⟨rfl, rfl, rfl, rfl, trivial⟩ ?_
   refine Run.ite rfl hF (fun e5 hF => ?_) (fun e5 hF => ?_)
   ·
    refine Run.seq ?_
    refine Run.reg ?_
    refine op (OpS.mv rfl rfl rfl ?_)
    refine op (OpS.loadB h10 .z PA.z Get.id ty44 rfl rfl rfl (fun u8 h14 => ?_))
    obtain ⟨y2, e6, hF⟩ := bindP_use hF
    have h15 := h14.front (.cons (.s .z) (.cons (.s (.s .z)) .nil))
    refine op (OpS.callO h15 Try.func44 rfl rfl rfl rfl (vs := [v0, u8]) rfl (fragment_Assembler_begin_ok e6) rfl (.cons (f := false) (V.at .z) .nil) ?_)
    rintro _ w6 _ _ _ ⟨u9, u10, rfl, rfl, rfl, rfl⟩ h16
    have h17 := h16
    simp only [List.cons_append, List.nil_append] at h17
    refine op (OpS.mv rfl rfl rfl ?_)
    refine op (OpS.ext rfl rfl rfl rfl ?_)
    refine op (OpS.ext rfl rfl rfl rfl ?_)
    refine op (OpS.alloc h17 ti51 Whole_.zr rfl rfl (fun u11 w7 h18 => ?_))
    refine op (OpS.storeB (f' := true) h18 .z PA.z Put.id ty51 rfl rfl rfl (V.at .z) (.inl rfl) (fun w8 h19 => ?_))
    refine op (OpS.as rfl rfl rfl ?_)
    refine RunL.nil ?_
    refine Run.slim [(8, .bool y2.2.1), (7, u11), (4, u2)] ⟨rfl, rfl, rfl, trivial⟩ ?_
    refine Run.seq ?_
    refine Run.reg ?_
    refine op (OpS.loadB h19 .z PA.z Get.id ty51 rfl rfl rfl (fun u12 h20 => ?_))
    refine op (OpS.mv rfl rfl rfl ?_)
    refine op (OpS.storeB (f' := true) h20 (.s (.s (.s (.s .z)))) PA.z Put.id ty51 rfl rfl rfl (V.at .z) (.inl rfl) (fun w9 h21 => ?_))
    refine op (OpS.as rfl rfl rfl ?_)
    refine op (OpS.as rfl rfl rfl ?_)
    refine RunL.nil ?_
    refine Run.slim [(6, .int .i64 0), (5, .bool y2.2.1), (4, u2)] ⟨rfl, rfl, rfl, trivial⟩ ?_
    obtain ⟨u13, hu3, h22⟩ := res_box h21 .z ty51
    refine Run.retP rfl (.cell rfl hu3 (.tmp rfl (.tmp rfl .nil))) ?_
    cases hF
    exact Post.mk' ⟨u13, u10, rfl, rfl, rfl, rfl⟩ (h22.picks (.cons (.s (.s .z)) (.cons (.s (.s .z)) .nil))) (.val (V.weak (V.at .z)) .nil)
   ·
    refine Run.skip ?_
    refine Run.endBlock ?_
    refine Run.seq ?_
    refine Run.reg ?_
    refine op (OpS.mv rfl rfl rfl ?_)
    refine op (OpS.loadB h10 .z PA.z Get.id ty44 rfl rfl rfl (fun u14 h23 => ?_))
    obtain ⟨y3, e7, hF⟩ := bindP_use hF
    have h24 := h23.front (.cons (.s .z) (.cons (.s (.s .z)) .nil))
    refine op (OpS.callO h24 Try.func45 rfl rfl rfl rfl (vs := [v0, u14]) rfl (fragment_Assembler_find_ok e7) rfl (.cons (f := false) (V.at .z) .nil) ?_)
    rintro _ w10 _ _ _ ⟨rfl, rfl, rfl, rfl⟩ h25
    have h26 := h25
    simp only [List.cons_append, List.nil_append] at h26
    refine op (OpS.as rfl rfl rfl ?_)
    refine RunL.nil ?_
    refine Run.slim [(9, .int .i64 y3), (4, u2), (3, u1), (0, v0)] ⟨rfl, rfl, rfl, rfl, trivial⟩ ?_
    refine Run.seq ?_
    refine Run.seq ?_
    refine Run.reg ?_
    refine op (OpS.mv rfl rfl rfl ?_)
    refine op (OpS.bin rfl rfl rfl rfl rfl ?_)
    refine RunL.nil ?_
    refine Run.slim [(42, .bool (decide (y3 < 0))), (9, .int .i64 y3), (4, u2), (3, u1), (0, v0)] ⟨rfl, rfl, rfl, rfl, rfl, trivial⟩ ?_
    refine Run.ite rfl hF (fun e8 hF => ?_) (fun e8 hF => ?_)
    ·
     refine Run.seq ?_
     refine Run.reg ?_
     refine op (OpS.build (f := true) (x' := Whole_.z) h26 pl51 ti51 Whole_.zr rfl rfl rfl .nil (fun u15 h27 => ?_))
     refine op (OpS.storeB (f' := true) h27 (.s (.s (.s .z))) PA.z Put.id ty51 rfl rfl rfl (V.at .z) (.inl rfl) (fun w11 h28 => ?_))
     refine op (OpS.as rfl rfl rfl ?_)
     refine op (OpS.as rfl rfl rfl ?_)
     refine RunL.nil ?_
     refine Run.slim [(6, .int .i64 8), (5, .bool false), (4, u2)] ⟨rfl, rfl, rfl, trivial⟩ ?_
     obtain ⟨u16, hu4, h29⟩ := res_box h28 .z ty51
     refine Run.retP rfl (.cell rfl hu4 (.tmp rfl (.tmp rfl .nil))) ?_
     cases hF
     exact Post.mk' ⟨u16, v0_0, rfl, rfl, rfl, rfl⟩ (h29.picks (.cons (.s .z) (.cons (.s .z) .nil))) (.val (V.weak (V.at .z)) .nil)
    ·
     refine Run.skip ?_
     refine Run.seq ?_
     refine Run.reg ?_
     refine op (OpS.mv rfl rfl rfl ?_)
     refine op (OpS.nchk h26 .z rfl rfl rfl ?_)
     refine op (OpS.fbox (o3 := 1) h26 .z PA.z fa83_1 rfl rfl rfl rfl ?_)
     refine op (OpS.loadR h26 .z PA.a (GetS.ok (GetS.iso _ (GetS.there (GetS.here GetS.id)))) ty81 rfl rfl rfl rfl rfl ?_)
     refine op (OpS.mv rfl rfl rfl ?_)
     obtain ⟨x2, e9, hF⟩ := bindP_use hF
     refine op (OpS.iownD h26 (.s .z) Try.underlying81 sz92 rfl rfl rfl rfl e9 ?_)
     refine op (OpS.as rfl rfl rfl ?_)
     refine RunL.nil ?_
     refine Run.slim [(10, (padd (sp v0_0) ((y3 : Int).toNat * 6))), (9, .int .i64 y3), (4, u2), (3, u1), (0, v0)] ⟨rfl, rfl, rfl, rfl, rfl, trivial⟩ ?_
     refine Run.seq ?_
     refine Run.reg ?_
     refine op (OpS.fbox (o3 := 7) h26 (.s (.s .z)) PA.z fa44_7 rfl rfl rfl rfl ?_)
     refine op (OpS.loadB h26 (.s (.s .z)) PA.a (Get.fld Packet_.f7) ty22 rfl rfl rfl (fun u17 h30 => ?_))
     refine op (OpS.len h30 Try.underlying22 rfl rfl rfl (V.at .z) ?_)
     refine op (OpS.as rfl rfl rfl ?_)
     refine RunL.nil ?_
     refine Run.slim [(11, .int .i64 (a1.Data.length : Int)), (10, (padd (sp v0_0) ((y3 : Int).toNat * 6))), (9, .int .i64 y3), (4, u2), (3, u1), (0, v0)] ⟨rfl, rfl, rfl, rfl, rfl, rfl, trivial⟩ ?_
     refine Run.seq ?_
     refine Run.block ?_
     refine Run.seq ?_
     refine Run.join (σ := Bool) (fun s_ L_ w_ => L_ = [(0, v0), (3, u1), (4, u2), (9, .int .i64 y3), (10, (padd (sp v0_0) ((y3 : Int).toNat * 6))), (11, .int .i64 (a1.Data.length : Int)), (53, .bool s_)] ∧ St e w_ [] [(false, .box 83 (Rep.iso (fun s : fragment_Assembler => (s.own, s.open_, ())) (Rep.prod (Rep.int .u8) (Rep.prod (Rep.raw (α := List fragment_open) v0_0) Rep.unit))) v0 a0), (false, .box 44 Packet_.rep u1 a1), (true, .box 51 Whole_.rep u2 Whole_.z), (false, .oval (oslice 92 6 (fun _ => fragment_open.orep)) v0_0 a0.open_)]) hF (fun s1 _ w12 hI hF => ?_) (fun j1 hj1 hF => ?_)
     ·
      obtain ⟨rfl, h31⟩ := hI
      refine Run.ite rfl hF (fun e10 hF => ?_) (fun e10 hF => ?_)
      ·
       refine Run.seq ?_
       refine Run.reg ?_
       refine op (OpS.mv rfl rfl rfl ?_)
       refine op (OpS.mv rfl rfl rfl ?_)
       obtain ⟨y4, e11, hF⟩ := bindP_use hF
       have h32 := h31.front (.cons .z (.cons (.s (.s .z)) .nil))
       have h33 := St.unselfD (y3 : Int).toNat (h32.pick (.s .z))
       have h34 := h33.front (.cons (.s .z) (.cons .z .nil))
       refine op (OpS.callO h34 Try.func46 rfl rfl rfl rfl (vs := [v0, .int .i64 y3]) rfl (fragment_Assembler_drop_ok e11 (r_ := fragment_open.orep) (hr_ := rfl)) rfl .nil ?_)
       rintro _ w13 _ _ _ ⟨u18, rfl, rfl, rfl, rfl⟩ h35
       have h36 := h35
       simp only [List.cons_append, List.nil_append] at h36
       refine RunL.nil ?_
       refine Run.slim [(4, u2)] ⟨rfl, trivial⟩ ?_
       refine Run.seq ?_
       refine Run.reg ?_
       refine op (OpS.build (f := true) (x' := Whole_.z) h36 pl51 ti51 Whole_.zr rfl rfl rfl .nil (fun u19 h37 => ?_))
       refine op (OpS.storeB (f' := true) h37 (.s (.s (.s .z))) PA.z Put.id ty51 rfl rfl rfl (V.at .z) (.inl rfl) (fun w14 h38 => ?_))
       refine op (OpS.as rfl rfl rfl ?_)
       refine op (OpS.as rfl rfl rfl ?_)
       refine RunL.nil ?_
       refine Run.slim [(6, .int .i64 15), (5, .bool false), (4, u2)] ⟨rfl, rfl, rfl, trivial⟩ ?_
       obtain ⟨u20, hu5, h39⟩ := res_box h38 .z ty51
       refine Run.retP rfl (.cell rfl hu5 (.tmp rfl (.tmp rfl .nil))) ?_
       cases hF
       exact Post.mk' ⟨u20, u18, rfl, rfl, rfl, rfl⟩ (h39.picks (.cons (.s .z) (.cons (.s .z) .nil))) (.val (V.weak (V.at .z)) .nil)
      ·
       refine Run.seq ?_
       refine Run.reg ?_
       refine op (OpS.mv rfl rfl rfl ?_)
       refine op (OpS.nchkO h31 (.s (.s (.s .z))) (idx_ne e9) PA.a rfl rfl rfl ?_)
       refine op (OpS.fownD h31 (.s (.s (.s .z))) (idx_ne e9) PA.a fa92_0 rfl rfl rfl ?_)
       refine op (OpS.fownD h31 (.s (.s (.s .z))) (idx_ne e9) PA.a fa51_3 rfl rfl rfl ?_)
       refine op (OpS.loadS (fr := Rep.hollow) h31 (.s (.s (.s .z))) fragment_open.wk rfl (idx_ne e9) PA.a (Get.comp (Get.arr e9) (GetS.ok (GetS.iso _ (GetS.here (GetS.iso _ (GetS.there (GetS.there (GetS.there (GetS.here GetS.id))))))))) (Ty.like ty22 (by rfl) (by rfl)) rfl rfl rfl (fun u21 h40 => ?_))
       refine op (OpS.lenH h40 Try.underlying22 rfl rfl rfl (V.at .z) ?_)
       refine op (OpS.mv rfl rfl rfl ?_)
       refine op (OpS.bin rfl rfl rfl rfl rfl ?_)
       refine op (OpS.bin rfl rfl rfl rfl rfl ?_)
       refine op (OpS.as rfl rfl rfl ?_)
       obtain ⟨x3, e12, hF⟩ := letP_use hF
       refine RunL.nameb e12 ?_
       refine RunL.nil ?_
       refine Run.slim [(88, .bool x3), (0, v0), (3, u1), (4, u2), (9, .int .i64 y3), (10, (padd (sp v0_0) ((y3 : Int).toNat * 6)))] ⟨rfl, rfl, rfl, rfl, rfl, rfl, trivial⟩ ?_
       refine Run.ite rfl hF (fun e13 hF => ?_) (fun e13 hF => ?_)
       ·
        refine Run.seq ?_
        refine Run.reg ?_
        refine op (OpS.mv rfl rfl rfl ?_)
        refine op (OpS.mv rfl rfl rfl ?_)
        obtain ⟨y5, e14, hF⟩ := bindP_use hF
        have h41 := h40.front (.cons .z (.cons (.s (.s .z)) .nil))
        have h42 := St.unselfD (y3 : Int).toNat (h41.pick (.s .z))
        have h43 := h42.front (.cons (.s .z) (.cons .z .nil))
        refine op (OpS.callO h43 Try.func46 rfl rfl rfl rfl (vs := [v0, .int .i64 y3]) rfl (fragment_Assembler_drop_ok e14 (r_ := fragment_open.orep) (hr_ := rfl)) rfl .nil ?_)
        rintro _ w15 _ _ _ ⟨u22, rfl, rfl, rfl, rfl⟩ h44
        have h45 := h44
        simp only [List.cons_append, List.nil_append] at h45
        refine RunL.nil ?_
        refine Run.slim [(4, u2)] ⟨rfl, trivial⟩ ?_
        refine Run.seq ?_
        refine Run.reg ?_
        refine op (OpS.build (f := true) (x' := Whole_.z) h45 pl51 ti51 Whole_.zr rfl rfl rfl .nil (fun u23 h46 => ?_))
        refine op (OpS.storeB (f' := true) h46 (.s (.s (.s .z))) PA.z Put.id ty51 rfl rfl rfl (V.at .z) (.inl rfl) (fun w16 h47 => ?_))
        refine op (OpS.as rfl rfl rfl ?_)
        refine op (OpS.as rfl rfl rfl ?_)
        refine RunL.nil ?_
        refine Run.slim [(6, .int .i64 3), (5, .bool false), (4, u2)] ⟨rfl, rfl, rfl, trivial⟩ ?_
        obtain ⟨u24, hu6, h48⟩ := res_box h47 .z ty51
        refine Run.retP rfl (.cell rfl hu6 (.tmp rfl (.tmp rfl .nil))) ?_
        cases hF
        exact Post.mk' ⟨u24, u22, rfl, rfl, rfl, rfl⟩ (h48.picks (.cons (.s .z) (.cons (.s .z) .nil))) (.val (V.weak (V.at .z)) .nil)
       ·
        refine Run.skip ?_
        refine Run.endBlock ?_
        refine Run.seq ?_
        have h49 := h40.picks (.cons (.s .z) (.cons (.s (.s .z)) (.cons .z (.cons .z .nil))))
        obtain ⟨x4, e15, hF⟩ := bindP_use hF
        obtain ⟨d1, e16, hF⟩ := letP_use hF
        refine Run.drawV (Ωs := [(false, .box 83 (Rep.iso (fun s : fragment_Assembler => (s.own, s.open_, ())) (Rep.prod (Rep.int .u8) (Rep.prod (Rep.raw (α := List fragment_open) v0_0) Rep.unit))) v0 a0), (true, .box 51 Whole_.rep u2 Whole_.z)]) [⟨some 102, some ((padd (sp v0_0) ((y3 : Int).toNat * 6))), fun _ => [], fun ds_ u_ => [], [], [], none⟩, ⟨some 103, some ((padd (sp v0_0) ((y3 : Int).toNat * 6))), fun _ => [], fun ds_ u_ => [], [], [], none⟩, ⟨some 104, some ((padd (sp v0_0) ((y3 : Int).toNat * 6))), fun _ => [], fun ds_ u_ => [], [], [], none⟩, ⟨some 105, some ((padd (sp v0_0) ((y3 : Int).toNat * 6))), fun _ => [], fun ds_ u_ => [], [], [(1, [6, 5, 4, 3])], none⟩, ⟨some 106, some ((padd (sp v0_0) ((y3 : Int).toNat * 6 + 0))), fun _ => [], fun ds_ u_ => [], [], [(1, [6, 5, 4])], none⟩, ⟨some 107, some ((padd (sp v0_0) ((y3 : Int).toNat * 6 + 0 + 3))), fun _ => [], fun ds_ u_ => [], [], [(1, [6, 5])], none⟩, ⟨some 108, none, fun u_ => [], fun ds_ u_ => [(false, .oval (oslice 92 6 (at' (fun _ => fragment_open.orep) (y3).toNat (fragment_open.orepW (raw u_)))) v0_0 a0.open_), (false, .oval (oslice 5 1 (fun _ => (sh (Rep.int .u8)))) u_ x2.whole.Data)], [1], [], none⟩, ⟨some 109, some ((padd u1 7)), fun _ => [], fun ds_ u_ => [], [], [(0, [])], none⟩, ⟨some 110, none, fun u_ => [(false, .val (Rep.slice (Rep.int .u8)) u_ a1.Data)], fun ds_ u_ => [], [], [(0, [])], none⟩, ⟨some 111, none, fun u_ => [], fun ds_ u_ => [(false, .oval (oslice 92 6 (at' (fun _ => fragment_open.orep) (y3).toNat (fragment_open.orepW (raw (nth ds_ 0))))) v0_0 a0.open_), (false, .oval (oslice 5 1 (fun _ => (sh (Rep.int .u8)))) u_ x4)], [8], [], none⟩, ⟨some 112, some ((padd u1 4)), fun _ => [], fun ds_ u_ => [], [], [(0, [])], none⟩, ⟨some 113, some (.int .i64 a1.Sequence), fun _ => [], fun ds_ u_ => [], [], [(0, [])], none⟩, ⟨some 114, some ((padd (sp v0_0) ((y3 : Int).toNat * 6))), fun _ => [], fun ds_ u_ => [], [], [(11, [15, 14, 13, 12])], none⟩, ⟨some 115, some ((padd (sp v0_0) ((y3 : Int).toNat * 6 + 0))), fun _ => [], fun ds_ u_ => [], [], [(11, [15, 14, 13])], none⟩, ⟨some 116, some ((padd (sp v0_0) ((y3 : Int).toNat * 6 + 0 + 3))), fun _ => [], fun ds_ u_ => [], [], [(11, [15, 14])], none⟩, ⟨none, some undef, fun _ => [], fun ds_ u_ => [(false, .oval (oslice 92 6 (fun _ => fragment_open.orep)) v0_0 d1)], [11], [], none⟩] [[], [], [], [2], [3], [4], [5], [], [7], [6, 8], [], [10], [0], [12], [13], [14, 9]] [[(false, .box 44 Packet_.rep u1 a1)], [(false, .oval (oslice 92 6 (fun _ => fragment_open.orep)) v0_0 a0.open_)]] [0, 2, 3, 4, 5, 6, 7, 9, 10, 12, 13, 14, 15, 16, 17] Try_mixed rfl rfl rfl h49 (.cons ?_ (.cons ?_ (.cons ?_ (.cons ?_ (.cons ?_ (.cons ?_ (.cons ?_ (.cons ?_ (.cons ?_ (.cons ?_ (.cons ?_ (.cons ?_ (.cons ?_ (.cons ?_ (.cons ?_ (.cons ?_ .nil)))))))))))))))) (fun q2 w hq2 h => ?_)
        ·intro q2 w Γx Ωx h
         refine OpS.mv rfl rfl rfl ?_
         exact ⟨undef, rfl, trivial, h⟩
        ·intro q2 w Γx Ωx h
         refine OpS.mv rfl rfl rfl ?_
         exact ⟨undef, rfl, trivial, h⟩
        ·intro q2 w Γx Ωx h
         refine OpS.mv rfl rfl rfl ?_
         exact ⟨undef, rfl, trivial, h⟩
        ·intro q2 w Γx Ωx h
         have h : St e w ([(false, .val Rep.hollow u21 x2.whole.Data)] ++ Γx) ([(false, .oval (oslice 92 6 (fun _ => fragment_open.orep)) v0_0 a0.open_), (false, .box 83 (Rep.iso (fun s : fragment_Assembler => (s.own, s.open_, ())) (Rep.prod (Rep.int .u8) (Rep.prod (Rep.raw (α := List fragment_open) v0_0) Rep.unit))) v0 a0), (true, .box 51 Whole_.rep u2 Whole_.z)] ++ Ωx) := h
         refine OpS.nchkO h .z (idx_ne e9) PA.a rfl rfl rfl ?_
         exact ⟨undef, rfl, trivial, h⟩
        ·intro q2 w Γx Ωx h
         have h : St e w ([(false, .val Rep.hollow u21 x2.whole.Data)] ++ Γx) ([(false, .oval (oslice 92 6 (fun _ => fragment_open.orep)) v0_0 a0.open_), (false, .box 83 (Rep.iso (fun s : fragment_Assembler => (s.own, s.open_, ())) (Rep.prod (Rep.int .u8) (Rep.prod (Rep.raw (α := List fragment_open) v0_0) Rep.unit))) v0 a0), (true, .box 51 Whole_.rep u2 Whole_.z)] ++ Ωx) := h
         refine OpS.fownD h .z (idx_ne e9) PA.a fa92_0 rfl rfl rfl ?_
         exact ⟨undef, rfl, trivial, h⟩
        ·intro q2 w Γx Ωx h
         have h : St e w ([(false, .val Rep.hollow u21 x2.whole.Data)] ++ Γx) ([(false, .oval (oslice 92 6 (fun _ => fragment_open.orep)) v0_0 a0.open_), (false, .box 83 (Rep.iso (fun s : fragment_Assembler => (s.own, s.open_, ())) (Rep.prod (Rep.int .u8) (Rep.prod (Rep.raw (α := List fragment_open) v0_0) Rep.unit))) v0 a0), (true, .box 51 Whole_.rep u2 Whole_.z)] ++ Ωx) := h
         refine OpS.fownD h .z (idx_ne e9) PA.a fa51_3 rfl rfl rfl ?_
         exact ⟨undef, rfl, trivial, h⟩
        ·intro q2 w Γx Ωx h
         have h : St e w ([(false, .val Rep.hollow u21 x2.whole.Data)] ++ Γx) ([(false, .oval (oslice 92 6 (fun _ => fragment_open.orep)) v0_0 a0.open_), (false, .box 83 (Rep.iso (fun s : fragment_Assembler => (s.own, s.open_, ())) (Rep.prod (Rep.int .u8) (Rep.prod (Rep.raw (α := List fragment_open) v0_0) Rep.unit))) v0 a0), (true, .box 51 Whole_.rep u2 Whole_.z)] ++ Ωx) := h
         refine OpS.openO (F' := fun v_ => at' (fun _ => fragment_open.orep) (y3).toNat (fragment_open.orepW (raw v_))) (hn := fun _ => rfl) (hn' := fun _ => at_hn rfl rfl) h .z (idx_ne e9) PA.a (fun v_ => Len.comp (Len.arrOpen e9) (fragment_open.lenO v_)) rfl ty22 rfl rfl rfl rfl (fun u h55 => ?_)
         exact ⟨u, rfl, trivial, h55⟩
        ·intro q2 w Γx Ωx h
         have h : St e w ([(false, .val Rep.hollow u21 x2.whole.Data)] ++ Γx) ([(false, .box 44 Packet_.rep u1 a1), (false, .box 83 (Rep.iso (fun s : fragment_Assembler => (s.own, s.open_, ())) (Rep.prod (Rep.int .u8) (Rep.prod (Rep.raw (α := List fragment_open) v0_0) Rep.unit))) v0 a0), (true, .box 51 Whole_.rep u2 Whole_.z)] ++ Ωx) := h
         refine OpS.fbox (o3 := 7) h .z PA.z fa44_7 rfl rfl rfl rfl ?_
         exact ⟨undef, rfl, trivial, h⟩
        ·intro q2 w Γx Ωx h
         have h : St e w ([(false, .val Rep.hollow u21 x2.whole.Data)] ++ Γx) ([(false, .box 44 Packet_.rep u1 a1), (false, .box 83 (Rep.iso (fun s : fragment_Assembler => (s.own, s.open_, ())) (Rep.prod (Rep.int .u8) (Rep.prod (Rep.raw (α := List fragment_open) v0_0) Rep.unit))) v0 a0), (true, .box 51 Whole_.rep u2 Whole_.z)] ++ Ωx) := h
         refine OpS.loadB h .z PA.a (Get.fld Packet_.f7) ty22 rfl rfl rfl (fun u h56 => ?_)
         exact ⟨u, rfl, trivial, h56⟩
        ·intro q2 w Γx Ωx h
         have h : St e w ([(false, .val (Rep.slice (Rep.int .u8)) (q2 8) a1.Data), (false, .val Rep.hollow u21 x2.whole.Data)] ++ Γx) ([(false, .oval (oslice 92 6 (at' (fun _ => fragment_open.orep) (y3).toNat (fragment_open.orepW (raw (q2 6))))) v0_0 a0.open_), (false, .oval (oslice 5 1 (fun _ => (sh (Rep.int .u8)))) (q2 6) x2.whole.Data), (false, .box 83 (Rep.iso (fun s : fragment_Assembler => (s.own, s.open_, ())) (Rep.prod (Rep.int .u8) (Rep.prod (Rep.raw (α := List fragment_open) v0_0) Rep.unit))) v0 a0), (true, .box 51 Whole_.rep u2 Whole_.z)] ++ Ωx) := h
         refine OpS.appD (fr := (Rep.int .u8)) (f' := false) h (.s .z) Try.underlying22 ti5 rfl rfl rfl rfl rfl rfl rfl (V.at .z) (.inr rfl) e15 (fun u w19 h57 => ?_)
         have h58 := h57.front (.cons (.s .z) (.cons .z (.cons .z (.cons .z .nil))))
         exact ⟨u, rfl, trivial, h58⟩
        ·intro q2 w Γx Ωx h
         have h : St e w ([(false, .val Rep.hollow u21 x2.whole.Data)] ++ Γx) ([(false, .box 44 Packet_.rep u1 a1), (false, .box 83 (Rep.iso (fun s : fragment_Assembler => (s.own, s.open_, ())) (Rep.prod (Rep.int .u8) (Rep.prod (Rep.raw (α := List fragment_open) v0_0) Rep.unit))) v0 a0), (true, .box 51 Whole_.rep u2 Whole_.z)] ++ Ωx) := h
         refine OpS.fbox (o3 := 4) h .z PA.z fa44_4 rfl rfl rfl rfl ?_
         exact ⟨undef, rfl, trivial, h⟩
        ·intro q2 w Γx Ωx h
         have h : St e w ([(false, .val Rep.hollow u21 x2.whole.Data)] ++ Γx) ([(false, .box 44 Packet_.rep u1 a1), (false, .box 83 (Rep.iso (fun s : fragment_Assembler => (s.own, s.open_, ())) (Rep.prod (Rep.int .u8) (Rep.prod (Rep.raw (α := List fragment_open) v0_0) Rep.unit))) v0 a0), (true, .box 51 Whole_.rep u2 Whole_.z)] ++ Ωx) := h
         refine OpS.loadBi h .z PA.a (Get.fld Packet_.f4) ty3 rfl rfl rfl ?_
         exact ⟨undef, rfl, trivial, h⟩
        ·intro q2 w Γx Ωx h
         have h : St e w ([(false, .val Rep.hollow u21 x2.whole.Data)] ++ Γx) ([(false, .oval (oslice 92 6 (at' (fun _ => fragment_open.orep) (y3).toNat (fragment_open.orepW (raw (q2 6))))) v0_0 a0.open_), (false, .oval (oslice 5 1 (fun _ => (sh (Rep.int .u8)))) (q2 9) x4), (false, .box 83 (Rep.iso (fun s : fragment_Assembler => (s.own, s.open_, ())) (Rep.prod (Rep.int .u8) (Rep.prod (Rep.raw (α := List fragment_open) v0_0) Rep.unit))) v0 a0), (true, .box 51 Whole_.rep u2 Whole_.z)] ++ Ωx) := h
         refine OpS.nchkO h .z (idx_ne e9) PA.a rfl rfl rfl ?_
         exact ⟨undef, rfl, trivial, h⟩
        ·intro q2 w Γx Ωx h
         have h : St e w ([(false, .val Rep.hollow u21 x2.whole.Data)] ++ Γx) ([(false, .oval (oslice 92 6 (at' (fun _ => fragment_open.orep) (y3).toNat (fragment_open.orepW (raw (q2 6))))) v0_0 a0.open_), (false, .oval (oslice 5 1 (fun _ => (sh (Rep.int .u8)))) (q2 9) x4), (false, .box 83 (Rep.iso (fun s : fragment_Assembler => (s.own, s.open_, ())) (Rep.prod (Rep.int .u8) (Rep.prod (Rep.raw (α := List fragment_open) v0_0) Rep.unit))) v0 a0), (true, .box 51 Whole_.rep u2 Whole_.z)] ++ Ωx) := h
         refine OpS.fownD h .z (idx_ne e9) PA.a fa92_0 rfl rfl rfl ?_
         exact ⟨undef, rfl, trivial, h⟩
        ·intro q2 w Γx Ωx h
         have h : St e w ([(false, .val Rep.hollow u21 x2.whole.Data)] ++ Γx) ([(false, .oval (oslice 92 6 (at' (fun _ => fragment_open.orep) (y3).toNat (fragment_open.orepW (raw (q2 6))))) v0_0 a0.open_), (false, .oval (oslice 5 1 (fun _ => (sh (Rep.int .u8)))) (q2 9) x4), (false, .box 83 (Rep.iso (fun s : fragment_Assembler => (s.own, s.open_, ())) (Rep.prod (Rep.int .u8) (Rep.prod (Rep.raw (α := List fragment_open) v0_0) Rep.unit))) v0 a0), (true, .box 51 Whole_.rep u2 Whole_.z)] ++ Ωx) := h
         refine OpS.fownD h .z (idx_ne e9) PA.a fa51_3 rfl rfl rfl ?_
         exact ⟨undef, rfl, trivial, h⟩
        ·intro q2 w Γx Ωx h
         have h : St e w ([(false, .val Rep.hollow u21 x2.whole.Data)] ++ Γx) ([(false, .oval (oslice 92 6 (at' (fun _ => fragment_open.orep) (y3).toNat (fragment_open.orepW (raw (q2 6))))) v0_0 a0.open_), (false, .oval (oslice 5 1 (fun _ => (sh (Rep.int .u8)))) (q2 9) x4), (false, .box 83 (Rep.iso (fun s : fragment_Assembler => (s.own, s.open_, ())) (Rep.prod (Rep.int .u8) (Rep.prod (Rep.raw (α := List fragment_open) v0_0) Rep.unit))) v0 a0), (true, .box 51 Whole_.rep u2 Whole_.z)] ++ Ωx) := h
         refine OpS.storePO (F := (at' (fun _ => fragment_open.orep) (y3).toNat (fragment_open.orepW (raw (q2 6))))) (F2 := fun _ => fragment_open.orep) (hn := at_hn rfl rfl) (hn2 := fun _ => rfl) h .z .z (idx_ne e9) PA.a (Len.comp (Len.arrShut e9) (fragment_open.lenC (q2 6))) ty22 rfl rfl rfl rfl (.inr rfl) (fun w20 h59 => ?_)
         have h60 := St.termD (l' := d1) h59 e16
         exact ⟨undef, trivial, trivial, h60⟩
        have h61 : St e w [(false, .val (Rep.slice (Rep.int .u8)) (q2 8) a1.Data), (false, .val Rep.hollow u21 x2.whole.Data)] [(false, .box 44 Packet_.rep u1 a1), (false, .oval (oslice 92 6 (fun _ => fragment_open.orep)) v0_0 d1), (false, .box 83 (Rep.iso (fun s : fragment_Assembler => (s.own, s.open_, ())) (Rep.prod (Rep.int .u8) (Rep.prod (Rep.raw (α := List fragment_open) v0_0) Rep.unit))) v0 a0), (true, .box 51 Whole_.rep u2 Whole_.z)] := h
        obtain ⟨x5, e17, hF⟩ := bindP_use hF
        refine op (OpS.nchkO h61 (.s .z) (idx_ne e17) PA.a rfl rfl rfl ?_)
        refine op (OpS.fownD h61 (.s .z) (idx_ne e17) PA.a fa92_2 rfl rfl rfl ?_)
        obtain ⟨d2, e18, hF⟩ := letP_use hF
        refine op (OpS.storeOD (F2 := fun _ => fragment_open.orep) (f' := true) (hn := fun _ => rfl) (hn2 := fun _ => rfl) h61 (.s .z) (idx_ne e17) PA.a (Len.comp (Len.arrSame e17) fragment_open.l2) ty3 rfl rfl rfl V.int (.inr rfl) (fun w21 h62 => ?_))
        have h63 := St.termD (l' := d2) h62 e18
        refine RunL.nil ?_
        refine Run.slim [(0, v0), (3, u1), (4, u2), (9, .int .i64 y3), (10, (padd (sp v0_0) ((y3 : Int).toNat * 6)))] ⟨rfl, rfl, rfl, rfl, rfl, trivial⟩ ?_
        refine Run.seq ?_
        refine Run.seq ?_
        refine Run.reg ?_
        refine op (OpS.fbox (o3 := 3) h63 (.s .z) PA.z fa44_3 rfl rfl rfl rfl ?_)
        refine op (OpS.loadBb h63 (.s .z) PA.a (Get.fld Packet_.f3) ty4 rfl rfl rfl ?_)
        refine op (OpS.not rfl rfl rfl ?_)
        refine RunL.nil ?_
        refine Run.slim [(121, .bool (!a1.End)), (0, v0), (4, u2), (9, .int .i64 y3), (10, (padd (sp v0_0) ((y3 : Int).toNat * 6)))] ⟨rfl, rfl, rfl, rfl, rfl, trivial⟩ ?_
        refine Run.ite rfl hF (fun e19 hF => ?_) (fun e19 hF => ?_)
        ·
         refine Run.seq ?_
         refine Run.reg ?_
         refine op (OpS.build (f := true) (x' := Whole_.z) h63 pl51 ti51 Whole_.zr rfl rfl rfl .nil (fun u25 h64 => ?_))
         refine op (OpS.storeB (f' := true) h64 (.s (.s (.s .z))) PA.z Put.id ty51 rfl rfl rfl (V.at .z) (.inl rfl) (fun w22 h65 => ?_))
         refine op (OpS.as rfl rfl rfl ?_)
         refine op (OpS.as rfl rfl rfl ?_)
         refine RunL.nil ?_
         refine Run.slim [(6, .int .i64 0), (5, .bool false), (4, u2)] ⟨rfl, rfl, rfl, trivial⟩ ?_
         obtain ⟨u26, hu7, h66⟩ := res_box h65 .z ty51
         have h67 := St.boxJ (r' := (Rep.iso (fun s : fragment_Assembler => (s.own, s.open_, ())) (Rep.prod (Rep.int .u8) (Rep.prod (Rep.raw (α := List fragment_open) v0_0) Rep.unit)))) (x' := { a0 with open_ := d2 }) (h66.pick (.s (.s (.s .z)))) (fun _ _ hs_ => (Jn.iso _ (Jn.prod Jn.refl (Jn.prod Jn.same Jn.refl))))
         refine Run.retP rfl (.cell rfl hu7 (.tmp rfl (.tmp rfl .nil))) ?_
         cases hF
         exact Post.mk' ⟨u26, v0_0, rfl, rfl, rfl, rfl⟩ (h67.picks (.cons .z (.cons (.s .z) .nil))) (.val (V.weak (V.at .z)) .nil)
        ·
         refine Run.skip ?_
         refine Run.seq ?_
         refine Run.reg ?_
         refine op (OpS.mv rfl rfl rfl ?_)
         obtain ⟨x6, e20, hF⟩ := bindP_use hF
         refine op (OpS.nchkO h63 .z (idx_ne e20) PA.a rfl rfl rfl ?_)
         refine op (OpS.fownD h63 .z (idx_ne e20) PA.a fa92_0 rfl rfl rfl ?_)
         obtain ⟨u27, h68⟩ := St.openD (F' := fun v_ => at' (fun _ => fragment_open.orep) (y3).toNat (fragment_open.orepW (raw v_))) (hn := fun _ => rfl) (hn' := fun _ => at_hn rfl rfl) h63 .z (idx_ne e20) (fun v_ => Len.comp (Len.arrOpen e20) (fragment_open.lenO v_)) rfl
         refine op (OpS.loadA (s := fragment_open.hrepW (Rep.raw u27)) (fr := (Rep.iso (fun s : Whole_ => (s.From, s.Owner, s.Tag, s.Data, ())) (Rep.prod (Rep.int .u8) (Rep.prod Rep.bool (Rep.prod (Rep.int .i64) (Rep.prod (Rep.raw (α := List Int) u27) Rep.unit)))))) h68 .z (at_hn rfl rfl) (fragment_open.wkW Wk.raw) e20 PA.a (GetS.ok (GetS.iso _ (GetS.here GetS.id))) (Ty.like ty51 (by rfl) (by rfl)) rfl rfl rfl (fun u28 h69 => ?_))
         refine op (OpS.alloc h69 ti51 Whole_.zr rfl rfl (fun u29 w23 h70 => ?_))
         refine op (OpS.storeC (f' := true) (fr := (Rep.iso (fun s : Whole_ => (s.From, s.Owner, s.Tag, s.Data, ())) (Rep.prod (Rep.int .u8) (Rep.prod Rep.bool (Rep.prod (Rep.int .i64) (Rep.prod (Rep.raw (α := List Int) u27) Rep.unit)))))) (r' := (Rep.iso (fun s : Whole_ => (s.From, s.Owner, s.Tag, s.Data, ())) (Rep.prod (Rep.int .u8) (Rep.prod Rep.bool (Rep.prod (Rep.int .i64) (Rep.prod (Rep.raw (α := List Int) u27) Rep.unit)))))) (x' := x6.whole) h70 .z PA.z (Chg.id (by rfl)) (Ty.like ty51 (by rfl) (by rfl)) rfl rfl rfl (V.pure (V.at .z) (Pure.iso (Pure.prod Pure.int (Pure.prod Pure.bool (Pure.prod Pure.int (Pure.prod Pure.raw Pure.unit)))))) (.inl rfl) (fun w24 h71 => ?_))
         refine RunL.nil ?_
         refine Run.slim [(12, u29), (0, v0), (4, u2), (9, .int .i64 y3)] ⟨rfl, rfl, rfl, rfl, trivial⟩ ?_
         refine Run.seq ?_
         refine Run.reg ?_
         refine op (OpS.mv rfl rfl rfl ?_)
         refine op (OpS.mv rfl rfl rfl ?_)
         have h72 := St.boxJ (r' := (Rep.iso (fun s : fragment_Assembler => (s.own, s.open_, ())) (Rep.prod (Rep.int .u8) (Rep.prod (Rep.raw (α := List fragment_open) v0_0) Rep.unit)))) (x' := { a0 with open_ := d2 }) (h71.pick (.s (.s (.s (.s .z))))) (fun _ _ hs_ => (Jn.iso _ (Jn.prod Jn.refl (Jn.prod Jn.same Jn.refl))))
         obtain ⟨y6, e21, hF⟩ := bindP_use hF
         have h73 := h72.front (.cons .z (.cons (.s .z) .nil))
         refine op (OpS.callO h73 Try.func46 rfl rfl rfl rfl (vs := [v0, .int .i64 y3]) rfl (fragment_Assembler_drop_ok e21 (r_ := fragment_open.orepW (raw u27)) (hr_ := rfl)) rfl .nil ?_)
         rintro _ w25 _ _ _ ⟨u30, rfl, rfl, rfl, rfl⟩ h74
         have h75 := h74
         simp only [List.cons_append, List.nil_append] at h75
         refine RunL.nil ?_
         refine Run.slim [(12, u29), (4, u2)] ⟨rfl, rfl, trivial⟩ ?_
         refine Run.seq ?_
         refine Run.reg ?_
         refine op (OpS.loadB (fr := (Rep.iso (fun s : Whole_ => (s.From, s.Owner, s.Tag, s.Data, ())) (Rep.prod (Rep.int .u8) (Rep.prod Rep.bool (Rep.prod (Rep.int .i64) (Rep.prod (Rep.raw (α := List Int) u27) Rep.unit)))))) h75 (.s (.s .z)) PA.z (GetS.ok GetS.id) (Ty.like ty51 (by rfl) (by rfl)) rfl rfl rfl (fun u31 h76 => ?_))
         refine op (OpS.storeC (f' := true) (fr := (Rep.iso (fun s : Whole_ => (s.From, s.Owner, s.Tag, s.Data, ())) (Rep.prod (Rep.int .u8) (Rep.prod Rep.bool (Rep.prod (Rep.int .i64) (Rep.prod (Rep.raw (α := List Int) u27) Rep.unit)))))) (r' := (Rep.iso (fun s : Whole_ => (s.From, s.Owner, s.Tag, s.Data, ())) (Rep.prod (Rep.int .u8) (Rep.prod Rep.bool (Rep.prod (Rep.int .i64) (Rep.prod (Rep.raw (α := List Int) u27) Rep.unit)))))) (x' := x6.whole) h76 (.s (.s (.s (.s (.s .z))))) PA.z (Chg.id (by rfl)) (Ty.like ty51 (by rfl) (by rfl)) rfl rfl rfl (V.at .z) (.inl rfl) (fun w26 h77 => ?_))
         refine op (OpS.as rfl rfl rfl ?_)
         refine op (OpS.as rfl rfl rfl ?_)
         refine RunL.nil ?_
         refine Run.slim [(6, .int .i64 0), (5, .bool true), (4, u2)] ⟨rfl, rfl, rfl, trivial⟩ ?_
         obtain ⟨u32, hu8, h78⟩ := res_box h77 .z (Ty.like ty51 (by rfl) (by rfl))
         have h79 := (h78.pick (.s (.s (.s (.s .z))))).freezeD
         have h80 := h79.pick .z
         have h81 := h80.weak
         have h82 := St.boxJ (r' := Whole_.rep) (x' := { x6.whole with Data := x6.whole.Data }) h81 (fun _ _ hs_ => (Jn.iso _ (Jn.prod Jn.refl (Jn.prod Jn.refl (Jn.prod Jn.refl (Jn.prod (Jn.raw ((V.at .z) _ _ hs_) rfl) Jn.refl))))))
         have h83 := h82.pick (.s (.s (.s .z)))
         have h84 := h83.weak
         have h85 := St.boxJ (r' := Whole_.rep) (x' := { x6.whole with Data := x6.whole.Data }) h84 (fun _ _ hs_ => (Jn.iso _ (Jn.prod Jn.refl (Jn.prod Jn.refl (Jn.prod Jn.refl (Jn.prod (Jn.raw ((V.at .z) _ _ hs_) rfl) Jn.refl))))))
         have h86 := St.addV (f := false) (r := Whole_.rep) (x := { x6.whole with Data := x6.whole.Data }) h85 (V.jn (r := (Rep.iso (fun s : Whole_ => (s.From, s.Owner, s.Tag, s.Data, ())) (Rep.prod (Rep.int .u8) (Rep.prod Rep.bool (Rep.prod (Rep.int .i64) (Rep.prod (Rep.raw (α := List Int) u27) Rep.unit)))))) (x := x6.whole) (V.weak (V.at (.s .z))) rfl (fun _ _ hs_ => (Jn.iso _ (Jn.prod Jn.refl (Jn.prod Jn.refl (Jn.prod Jn.refl (Jn.prod (Jn.raw ((V.at .z) _ _ hs_) rfl) Jn.refl)))))))
         refine Run.retP rfl (.cell rfl hu8 (.tmp rfl (.tmp rfl .nil))) ?_
         cases hF
         exact Post.mk' ⟨u32, u30, rfl, rfl, rfl, rfl⟩ (h86.picks (.cons (.s (.s .z)) (.cons (.s (.s .z)) .nil))) (.val (V.at .z) .nil)
     ·
      have h87 := h30.picks (.cons (.s .z) (.cons (.s .z) (.cons .z (.cons .z .nil))))
      obtain ⟨x7, e22, hF⟩ := letP_use hF
      refine iteP_use hF (fun e23 hF => ?_) (fun e23 hF => ?_)
      ·
       have hG := hF
       subst e23
       have hF := hG
       refine Run.drawV (Ωs := [(false, .box 83 (Rep.iso (fun s : fragment_Assembler => (s.own, s.open_, ())) (Rep.prod (Rep.int .u8) (Rep.prod (Rep.raw (α := List fragment_open) v0_0) Rep.unit))) v0 a0), (true, .box 51 Whole_.rep u2 Whole_.z)]) [⟨some 54, some ((padd u1 4)), fun _ => [], fun ds_ u_ => [], [], [(1, [])], none⟩, ⟨some 55, some (.int .i64 a1.Sequence), fun _ => [], fun ds_ u_ => [], [], [(1, [])], none⟩, ⟨some 56, some ((padd (sp v0_0) ((y3 : Int).toNat * 6))), fun _ => [], fun ds_ u_ => [], [], [], none⟩, ⟨some 57, some ((padd (sp v0_0) ((y3 : Int).toNat * 6))), fun _ => [], fun ds_ u_ => [], [], [(0, [])], none⟩, ⟨some 58, some ((padd (sp v0_0) ((y3 : Int).toNat * 6 + 5))), fun _ => [], fun ds_ u_ => [], [], [(0, [])], none⟩, ⟨some 59, some (.int .i64 x2.last), fun _ => [], fun ds_ u_ => [], [], [(0, [])], none⟩, ⟨some 60, some (.int .i64 (IntKind.i64.wrap (x2.last + 1))), fun _ => [], fun ds_ u_ => [], [], [], none⟩, ⟨some 61, some (.int .i64 (Int.tmod (IntKind.i64.wrap (x2.last + 1)) 4)), fun _ => [], fun ds_ u_ => [], [], [], none⟩, ⟨some 62, some (.bool (a1.Sequence != (Int.tmod (IntKind.i64.wrap (x2.last + 1)) 4))), fun _ => [], fun ds_ u_ => [], [], [], none⟩, ⟨some 63, some (.bool true), fun _ => [], fun ds_ u_ => [], [], [], none⟩, ⟨some 64, some undef, fun _ => [], fun _ _ => [], [], [], none⟩, ⟨some 65, some undef, fun _ => [], fun _ _ => [], [], [], none⟩, ⟨some 66, some undef, fun _ => [], fun _ _ => [], [], [], none⟩, ⟨some 67, some undef, fun _ => [], fun _ _ => [], [], [], none⟩, ⟨some 68, some undef, fun _ => [], fun _ _ => [], [], [], none⟩, ⟨some 69, some undef, fun _ => [], fun _ _ => [], [], [], none⟩, ⟨some 70, some (.bool true), fun _ => [], fun ds_ u_ => [], [], [], none⟩, ⟨some 71, some (.bool true), fun _ => [], fun ds_ u_ => [], [], [], none⟩, ⟨some 72, some undef, fun _ => [], fun _ _ => [], [], [], none⟩, ⟨some 73, some undef, fun _ => [], fun _ _ => [], [], [], none⟩, ⟨some 74, some undef, fun _ => [], fun _ _ => [], [], [], none⟩, ⟨some 75, some undef, fun _ => [], fun _ _ => [], [], [], none⟩, ⟨some 76, some undef, fun _ => [], fun _ _ => [], [], [], none⟩, ⟨some 77, some undef, fun _ => [], fun _ _ => [], [], [], none⟩, ⟨some 78, some undef, fun _ => [], fun _ _ => [], [], [], none⟩, ⟨some 79, some undef, fun _ => [], fun _ _ => [], [], [], none⟩, ⟨some 80, some undef, fun _ => [], fun _ _ => [], [], [], none⟩, ⟨some 81, some undef, fun _ => [], fun _ _ => [], [], [], none⟩, ⟨some 82, some undef, fun _ => [], fun _ _ => [], [], [], none⟩, ⟨some 83, some (.bool true), fun _ => [], fun ds_ u_ => [], [], [], none⟩, ⟨some 53, some (.bool true), fun _ => [], fun ds_ u_ => [], [], [], none⟩] [[], [0], [], [2], [3], [4], [5], [6], [1, 7], [8], [9], [9], [9], [9], [9], [9], [9, 15], [16], [17], [17], [17], [17], [17], [17], [17], [24], [24], [24], [17], [17, 28], [29]] [[(false, .oval (oslice 92 6 (fun _ => fragment_open.orep)) v0_0 a0.open_)], [(false, .box 44 Packet_.rep u1 a1)]] [0, 1, 2, 3, 4, 5, 6, 7, 8, 9, 10, 11, 12, 13, 14, 15, 16, 17, 18, 19, 20, 21, 22, 23, 24, 25, 26, 27, 28, 29, 30, 31, 32] Try_mixed rfl rfl rfl h87 (.cons ?_ (.cons ?_ (.cons ?_ (.cons ?_ (.cons ?_ (.cons ?_ (.cons ?_ (.cons ?_ (.cons ?_ (.cons ?_ (.cons ?_ (.cons ?_ (.cons ?_ (.cons ?_ (.cons ?_ (.cons ?_ (.cons ?_ (.cons ?_ (.cons ?_ (.cons ?_ (.cons ?_ (.cons ?_ (.cons ?_ (.cons ?_ (.cons ?_ (.cons ?_ (.cons ?_ (.cons ?_ (.cons ?_ (.cons ?_ (.cons ?_ .nil))))))))))))))))))))))))))))))) (fun q3 w hq3 h => ?_)
       ·intro q3 w Γx Ωx h
        have h : St e w ([(false, .val (Rep.slice (Rep.int .u8)) u17 a1.Data), (false, .val Packet_.rep u14 a1), (false, .val Packet_.rep u3 a1), (false, .val Packet_.rep v1 a1)] ++ Γx) ([(false, .box 44 Packet_.rep u1 a1), (false, .box 83 (Rep.iso (fun s : fragment_Assembler => (s.own, s.open_, ())) (Rep.prod (Rep.int .u8) (Rep.prod (Rep.raw (α := List fragment_open) v0_0) Rep.unit))) v0 a0), (true, .box 51 Whole_.rep u2 Whole_.z)] ++ Ωx) := h
        refine OpS.fbox (o3 := 4) h .z PA.z fa44_4 rfl rfl rfl rfl ?_
        exact ⟨undef, rfl, trivial, h⟩
       ·intro q3 w Γx Ωx h
        have h : St e w ([(false, .val (Rep.slice (Rep.int .u8)) u17 a1.Data), (false, .val Packet_.rep u14 a1), (false, .val Packet_.rep u3 a1), (false, .val Packet_.rep v1 a1)] ++ Γx) ([(false, .box 44 Packet_.rep u1 a1), (false, .box 83 (Rep.iso (fun s : fragment_Assembler => (s.own, s.open_, ())) (Rep.prod (Rep.int .u8) (Rep.prod (Rep.raw (α := List fragment_open) v0_0) Rep.unit))) v0 a0), (true, .box 51 Whole_.rep u2 Whole_.z)] ++ Ωx) := h
        refine OpS.loadBi h .z PA.a (Get.fld Packet_.f4) ty3 rfl rfl rfl ?_
        exact ⟨undef, rfl, trivial, h⟩
       ·intro q3 w Γx Ωx h
        refine OpS.mv rfl rfl rfl ?_
        exact ⟨undef, rfl, trivial, h⟩
       ·intro q3 w Γx Ωx h
        have h : St e w ([(false, .val (Rep.slice (Rep.int .u8)) u17 a1.Data), (false, .val Packet_.rep u14 a1), (false, .val Packet_.rep u3 a1), (false, .val Packet_.rep v1 a1)] ++ Γx) ([(false, .oval (oslice 92 6 (fun _ => fragment_open.orep)) v0_0 a0.open_), (false, .box 83 (Rep.iso (fun s : fragment_Assembler => (s.own, s.open_, ())) (Rep.prod (Rep.int .u8) (Rep.prod (Rep.raw (α := List fragment_open) v0_0) Rep.unit))) v0 a0), (true, .box 51 Whole_.rep u2 Whole_.z)] ++ Ωx) := h
        refine OpS.nchkO h .z (idx_ne e9) PA.a rfl rfl rfl ?_
        exact ⟨undef, rfl, trivial, h⟩
       ·intro q3 w Γx Ωx h
        have h : St e w ([(false, .val (Rep.slice (Rep.int .u8)) u17 a1.Data), (false, .val Packet_.rep u14 a1), (false, .val Packet_.rep u3 a1), (false, .val Packet_.rep v1 a1)] ++ Γx) ([(false, .oval (oslice 92 6 (fun _ => fragment_open.orep)) v0_0 a0.open_), (false, .box 83 (Rep.iso (fun s : fragment_Assembler => (s.own, s.open_, ())) (Rep.prod (Rep.int .u8) (Rep.prod (Rep.raw (α := List fragment_open) v0_0) Rep.unit))) v0 a0), (true, .box 51 Whole_.rep u2 Whole_.z)] ++ Ωx) := h
        refine OpS.fownD h .z (idx_ne e9) PA.a fa92_2 rfl rfl rfl ?_
        exact ⟨undef, rfl, trivial, h⟩
       ·intro q3 w Γx Ωx h
        have h : St e w ([(false, .val (Rep.slice (Rep.int .u8)) u17 a1.Data), (false, .val Packet_.rep u14 a1), (false, .val Packet_.rep u3 a1), (false, .val Packet_.rep v1 a1)] ++ Γx) ([(false, .oval (oslice 92 6 (fun _ => fragment_open.orep)) v0_0 a0.open_), (false, .box 83 (Rep.iso (fun s : fragment_Assembler => (s.own, s.open_, ())) (Rep.prod (Rep.int .u8) (Rep.prod (Rep.raw (α := List fragment_open) v0_0) Rep.unit))) v0 a0), (true, .box 51 Whole_.rep u2 Whole_.z)] ++ Ωx) := h
        refine OpS.loadSi h .z fragment_open.wk rfl (idx_ne e9) PA.a (Get.comp (Get.arr e9) (GetS.ok (GetS.iso _ (GetS.there (GetS.there (GetS.here GetS.id)))))) ty3 rfl rfl rfl ?_
        exact ⟨undef, rfl, trivial, h⟩
       ·intro q3 w Γx Ωx h
        refine OpS.bin rfl rfl rfl rfl rfl ?_
        exact ⟨undef, rfl, trivial, h⟩
       ·intro q3 w Γx Ωx h
        refine OpS.rem rfl rfl rfl rfl (by decide) ?_
        exact ⟨undef, rfl, trivial, h⟩
       ·intro q3 w Γx Ωx h
        refine OpS.bin rfl rfl rfl rfl rfl ?_
        exact ⟨undef, rfl, trivial, h⟩
       ·intro q3 w Γx Ωx h
        refine OpS.mv rfl rfl rfl ?_
        exact ⟨undef, (congrArg (fun z_ => some (Value.bool z_)) e22), trivial, h⟩
       ·intro q3 w Γx Ωx h
        exact OpS.pass rfl rfl rfl ⟨undef, rfl, trivial, h⟩
       ·intro q3 w Γx Ωx h
        exact OpS.pass rfl rfl rfl ⟨undef, rfl, trivial, h⟩
       ·intro q3 w Γx Ωx h
        exact OpS.pass rfl rfl rfl ⟨undef, rfl, trivial, h⟩
       ·intro q3 w Γx Ωx h
        exact OpS.pass rfl rfl rfl ⟨undef, rfl, trivial, h⟩
       ·intro q3 w Γx Ωx h
        exact OpS.pass rfl rfl rfl ⟨undef, rfl, trivial, h⟩
       ·intro q3 w Γx Ωx h
        exact OpS.pass rfl rfl rfl ⟨undef, rfl, trivial, h⟩
       ·intro q3 w Γx Ωx h
        refine OpS.pick rfl rfl rfl rfl ?_
        exact ⟨undef, rfl, trivial, h⟩
       ·intro q3 w Γx Ωx h
        refine OpS.mv rfl rfl rfl ?_
        exact ⟨undef, rfl, trivial, h⟩
       ·intro q3 w Γx Ωx h
        exact OpS.pass rfl rfl rfl ⟨undef, rfl, trivial, h⟩
       ·intro q3 w Γx Ωx h
        exact OpS.pass rfl rfl rfl ⟨undef, rfl, trivial, h⟩
       ·intro q3 w Γx Ωx h
        exact OpS.pass rfl rfl rfl ⟨undef, rfl, trivial, h⟩
       ·intro q3 w Γx Ωx h
        exact OpS.pass rfl rfl rfl ⟨undef, rfl, trivial, h⟩
       ·intro q3 w Γx Ωx h
        exact OpS.pass rfl rfl rfl ⟨undef, rfl, trivial, h⟩
       ·intro q3 w Γx Ωx h
        exact OpS.pass rfl rfl rfl ⟨undef, rfl, trivial, h⟩
       ·intro q3 w Γx Ωx h
        exact OpS.pass rfl rfl rfl ⟨undef, rfl, trivial, h⟩
       ·intro q3 w Γx Ωx h
        exact OpS.pass rfl rfl rfl ⟨undef, rfl, trivial, h⟩
       ·intro q3 w Γx Ωx h
        exact OpS.pass rfl rfl rfl ⟨undef, rfl, trivial, h⟩
       ·intro q3 w Γx Ωx h
        exact OpS.pass rfl rfl rfl ⟨undef, rfl, trivial, h⟩
       ·intro q3 w Γx Ωx h
        exact OpS.pass rfl rfl rfl ⟨undef, rfl, trivial, h⟩
       ·intro q3 w Γx Ωx h
        refine OpS.pick rfl rfl rfl rfl ?_
        exact ⟨undef, rfl, trivial, h⟩
       ·intro q3 w Γx Ωx h
        refine OpS.as rfl rfl rfl ?_
        exact ⟨undef, rfl, trivial, h⟩
       have h88 : St e w [(false, .val (Rep.slice (Rep.int .u8)) u17 a1.Data), (false, .val Packet_.rep u14 a1), (false, .val Packet_.rep u3 a1), (false, .val Packet_.rep v1 a1)] [(false, .oval (oslice 92 6 (fun _ => fragment_open.orep)) v0_0 a0.open_), (false, .box 44 Packet_.rep u1 a1), (false, .box 83 (Rep.iso (fun s : fragment_Assembler => (s.own, s.open_, ())) (Rep.prod (Rep.int .u8) (Rep.prod (Rep.raw (α := List fragment_open) v0_0) Rep.unit))) v0 a0), (true, .box 51 Whole_.rep u2 Whole_.z)] := h
       refine RunL.nil ?_
       refine Run.slim [(53, .bool true), (11, .int .i64 (a1.Data.length : Int)), (10, (padd (sp v0_0) ((y3 : Int).toNat * 6))), (9, .int .i64 y3), (4, u2), (3, u1), (0, v0)] ⟨rfl, rfl, rfl, rfl, rfl, rfl, rfl, trivial⟩ ?_
       refine Run.slim [(0, v0), (3, u1), (4, u2), (9, .int .i64 y3), (10, (padd (sp v0_0) ((y3 : Int).toNat * 6))), (11, .int .i64 (a1.Data.length : Int)), (53, .bool true)] ⟨rfl, rfl, rfl, rfl, rfl, rfl, rfl, trivial⟩ ?_
       exact hj1 (true) _ _ ⟨rfl, (h88.facts .nil).picks (.cons (.s (.s .z)) (.cons (.s .z) (.cons (.s .z) (.cons .z .nil))))⟩ hF
      ·
       have hG := hF
       subst e23
       have hF := hG
       obtain ⟨x8, e24, hF⟩ := letP_use hF
       refine iteP_use hF (fun e25 hF => ?_) (fun e25 hF => ?_)
       ·
        have hG := hF
        subst e25
        have hF := hG
        refine Run.drawV (Ωs := [(false, .box 83 (Rep.iso (fun s : fragment_Assembler => (s.own, s.open_, ())) (Rep.prod (Rep.int .u8) (Rep.prod (Rep.raw (α := List fragment_open) v0_0) Rep.unit))) v0 a0), (true, .box 51 Whole_.rep u2 Whole_.z)]) [⟨some 54, some ((padd u1 4)), fun _ => [], fun ds_ u_ => [], [], [(1, [])], none⟩, ⟨some 55, some (.int .i64 a1.Sequence), fun _ => [], fun ds_ u_ => [], [], [(1, [])], none⟩, ⟨some 56, some ((padd (sp v0_0) ((y3 : Int).toNat * 6))), fun _ => [], fun ds_ u_ => [], [], [], none⟩, ⟨some 57, some ((padd (sp v0_0) ((y3 : Int).toNat * 6))), fun _ => [], fun ds_ u_ => [], [], [(0, [])], none⟩, ⟨some 58, some ((padd (sp v0_0) ((y3 : Int).toNat * 6 + 5))), fun _ => [], fun ds_ u_ => [], [], [(0, [])], none⟩, ⟨some 59, some (.int .i64 x2.last), fun _ => [], fun ds_ u_ => [], [], [(0, [])], none⟩, ⟨some 60, some (.int .i64 (IntKind.i64.wrap (x2.last + 1))), fun _ => [], fun ds_ u_ => [], [], [], none⟩, ⟨some 61, some (.int .i64 (Int.tmod (IntKind.i64.wrap (x2.last + 1)) 4)), fun _ => [], fun ds_ u_ => [], [], [], none⟩, ⟨some 62, some (.bool (a1.Sequence != (Int.tmod (IntKind.i64.wrap (x2.last + 1)) 4))), fun _ => [], fun ds_ u_ => [], [], [], none⟩, ⟨some 63, some (.bool false), fun _ => [], fun ds_ u_ => [], [], [], none⟩, ⟨some 64, some (.int .i64 (a1.Data.length : Int)), fun _ => [], fun ds_ u_ => [], [], [], none⟩, ⟨some 65, some ((padd (sp v0_0) ((y3 : Int).toNat * 6))), fun _ => [], fun ds_ u_ => [], [], [], none⟩, ⟨some 66, some ((padd (sp v0_0) ((y3 : Int).toNat * 6))), fun _ => [], fun ds_ u_ => [], [], [(0, [])], none⟩, ⟨some 67, some ((padd (sp v0_0) ((y3 : Int).toNat * 6 + 4))), fun _ => [], fun ds_ u_ => [], [], [(0, [])], none⟩, ⟨some 68, some (.int .i64 x2.size), fun _ => [], fun ds_ u_ => [], [], [(0, [])], none⟩, ⟨some 69, some (.bool (decide ((a1.Data.length : Int) > x2.size))), fun _ => [], fun ds_ u_ => [], [], [], none⟩, ⟨some 70, some (.bool (decide ((a1.Data.length : Int) > x2.size))), fun _ => [], fun ds_ u_ => [], [], [], none⟩, ⟨some 71, some (.bool true), fun _ => [], fun ds_ u_ => [], [], [], none⟩, ⟨some 72, some undef, fun _ => [], fun _ _ => [], [], [], none⟩, ⟨some 73, some undef, fun _ => [], fun _ _ => [], [], [], none⟩, ⟨some 74, some undef, fun _ => [], fun _ _ => [], [], [], none⟩, ⟨some 75, some undef, fun _ => [], fun _ _ => [], [], [], none⟩, ⟨some 76, some undef, fun _ => [], fun _ _ => [], [], [], none⟩, ⟨some 77, some undef, fun _ => [], fun _ _ => [], [], [], none⟩, ⟨some 78, some undef, fun _ => [], fun _ _ => [], [], [], none⟩, ⟨some 79, some undef, fun _ => [], fun _ _ => [], [], [], none⟩, ⟨some 80, some undef, fun _ => [], fun _ _ => [], [], [], none⟩, ⟨some 81, some undef, fun _ => [], fun _ _ => [], [], [], none⟩, ⟨some 82, some undef, fun _ => [], fun _ _ => [], [], [], none⟩, ⟨some 83, some (.bool true), fun _ => [], fun ds_ u_ => [], [], [], none⟩, ⟨some 53, some (.bool true), fun _ => [], fun ds_ u_ => [], [], [], none⟩] [[], [0], [], [2], [3], [4], [5], [6], [1, 7], [8], [9], [9], [11, 9], [12, 9], [13, 9], [10, 14, 9], [9, 15], [16], [17], [17], [17], [17], [17], [17], [17], [24], [24], [24], [17], [17, 28], [29]] [[(false, .oval (oslice 92 6 (fun _ => fragment_open.orep)) v0_0 a0.open_)], [(false, .box 44 Packet_.rep u1 a1)]] [0, 1, 2, 3, 4, 5, 6, 7, 8, 9, 10, 11, 12, 13, 14, 15, 16, 17, 18, 19, 20, 21, 22, 23, 24, 25, 26, 27, 28, 29, 30, 31, 32] Try_mixed rfl rfl rfl h87 (.cons ?_ (.cons ?_ (.cons ?_ (.cons ?_ (.cons ?_ (.cons ?_ (.cons ?_ (.cons ?_ (.cons ?_ (.cons ?_ (.cons ?_ (.cons ?_ (.cons ?_ (.cons ?_ (.cons ?_ (.cons ?_ (.cons ?_ (.cons ?_ (.cons ?_ (.cons ?_ (.cons ?_ (.cons ?_ (.cons ?_ (.cons ?_ (.cons ?_ (.cons ?_ (.cons ?_ (.cons ?_ (.cons ?_ (.cons ?_ (.cons ?_ .nil))))))))))))))))))))))))))))))) (fun q3 w hq4 h => ?_)
        ·intro q3 w Γx Ωx h
         have h : St e w ([(false, .val (Rep.slice (Rep.int .u8)) u17 a1.Data), (false, .val Packet_.rep u14 a1), (false, .val Packet_.rep u3 a1), (false, .val Packet_.rep v1 a1)] ++ Γx) ([(false, .box 44 Packet_.rep u1 a1), (false, .box 83 (Rep.iso (fun s : fragment_Assembler => (s.own, s.open_, ())) (Rep.prod (Rep.int .u8) (Rep.prod (Rep.raw (α := List fragment_open) v0_0) Rep.unit))) v0 a0), (true, .box 51 Whole_.rep u2 Whole_.z)] ++ Ωx) := h
         refine OpS.fbox (o3 := 4) h .z PA.z fa44_4 rfl rfl rfl rfl ?_
         exact ⟨undef, rfl, trivial, h⟩
        ·intro q3 w Γx Ωx h
         have h : St e w ([(false, .val (Rep.slice (Rep.int .u8)) u17 a1.Data), (false, .val Packet_.rep u14 a1), (false, .val Packet_.rep u3 a1), (false, .val Packet_.rep v1 a1)] ++ Γx) ([(false, .box 44 Packet_.rep u1 a1), (false, .box 83 (Rep.iso (fun s : fragment_Assembler => (s.own, s.open_, ())) (Rep.prod (Rep.int .u8) (Rep.prod (Rep.raw (α := List fragment_open) v0_0) Rep.unit))) v0 a0), (true, .box 51 Whole_.rep u2 Whole_.z)] ++ Ωx) := h
         refine OpS.loadBi h .z PA.a (Get.fld Packet_.f4) ty3 rfl rfl rfl ?_
         exact ⟨undef, rfl, trivial, h⟩
        ·intro q3 w Γx Ωx h
         refine OpS.mv rfl rfl rfl ?_
         exact ⟨undef, rfl, trivial, h⟩
        ·intro q3 w Γx Ωx h
         have h : St e w ([(false, .val (Rep.slice (Rep.int .u8)) u17 a1.Data), (false, .val Packet_.rep u14 a1), (false, .val Packet_.rep u3 a1), (false, .val Packet_.rep v1 a1)] ++ Γx) ([(false, .oval (oslice 92 6 (fun _ => fragment_open.orep)) v0_0 a0.open_), (false, .box 83 (Rep.iso (fun s : fragment_Assembler => (s.own, s.open_, ())) (Rep.prod (Rep.int .u8) (Rep.prod (Rep.raw (α := List fragment_open) v0_0) Rep.unit))) v0 a0), (true, .box 51 Whole_.rep u2 Whole_.z)] ++ Ωx) := h
         refine OpS.nchkO h .z (idx_ne e9) PA.a rfl rfl rfl ?_
         exact ⟨undef, rfl, trivial, h⟩
        ·intro q3 w Γx Ωx h
         have h : St e w ([(false, .val (Rep.slice (Rep.int .u8)) u17 a1.Data), (false, .val Packet_.rep u14 a1), (false, .val Packet_.rep u3 a1), (false, .val Packet_.rep v1 a1)] ++ Γx) ([(false, .oval (oslice 92 6 (fun _ => fragment_open.orep)) v0_0 a0.open_), (false, .box 83 (Rep.iso (fun s : fragment_Assembler => (s.own, s.open_, ())) (Rep.prod (Rep.int .u8) (Rep.prod (Rep.raw (α := List fragment_open) v0_0) Rep.unit))) v0 a0), (true, .box 51 Whole_.rep u2 Whole_.z)] ++ Ωx) := h
         refine OpS.fownD h .z (idx_ne e9) PA.a fa92_2 rfl rfl rfl ?_
         exact ⟨undef, rfl, trivial, h⟩
        ·intro q3 w Γx Ωx h
         have h : St e w ([(false, .val (Rep.slice (Rep.int .u8)) u17 a1.Data), (false, .val Packet_.rep u14 a1), (false, .val Packet_.rep u3 a1), (false, .val Packet_.rep v1 a1)] ++ Γx) ([(false, .oval (oslice 92 6 (fun _ => fragment_open.orep)) v0_0 a0.open_), (false, .box 83 (Rep.iso (fun s : fragment_Assembler => (s.own, s.open_, ())) (Rep.prod (Rep.int .u8) (Rep.prod (Rep.raw (α := List fragment_open) v0_0) Rep.unit))) v0 a0), (true, .box 51 Whole_.rep u2 Whole_.z)] ++ Ωx) := h
         refine OpS.loadSi h .z fragment_open.wk rfl (idx_ne e9) PA.a (Get.comp (Get.arr e9) (GetS.ok (GetS.iso _ (GetS.there (GetS.there (GetS.here GetS.id)))))) ty3 rfl rfl rfl ?_
         exact ⟨undef, rfl, trivial, h⟩
        ·intro q3 w Γx Ωx h
         refine OpS.bin rfl rfl rfl rfl rfl ?_
         exact ⟨undef, rfl, trivial, h⟩
        ·intro q3 w Γx Ωx h
         refine OpS.rem rfl rfl rfl rfl (by decide) ?_
         exact ⟨undef, rfl, trivial, h⟩
        ·intro q3 w Γx Ωx h
         refine OpS.bin rfl rfl rfl rfl rfl ?_
         exact ⟨undef, rfl, trivial, h⟩
        ·intro q3 w Γx Ωx h
         refine OpS.mv rfl rfl rfl ?_
         exact ⟨undef, (congrArg (fun z_ => some (Value.bool z_)) e22), trivial, h⟩
        ·intro q3 w Γx Ωx h
         refine OpS.mv rfl rfl rfl ?_
         exact ⟨undef, rfl, trivial, h⟩
        ·intro q3 w Γx Ωx h
         refine OpS.mv rfl rfl rfl ?_
         exact ⟨undef, rfl, trivial, h⟩
        ·intro q3 w Γx Ωx h
         have h : St e w ([(false, .val (Rep.slice (Rep.int .u8)) u17 a1.Data), (false, .val Packet_.rep u14 a1), (false, .val Packet_.rep u3 a1), (false, .val Packet_.rep v1 a1)] ++ Γx) ([(false, .oval (oslice 92 6 (fun _ => fragment_open.orep)) v0_0 a0.open_), (false, .box 83 (Rep.iso (fun s : fragment_Assembler => (s.own, s.open_, ())) (Rep.prod (Rep.int .u8) (Rep.prod (Rep.raw (α := List fragment_open) v0_0) Rep.unit))) v0 a0), (true, .box 51 Whole_.rep u2 Whole_.z)] ++ Ωx) := h
         refine OpS.nchkO h .z (idx_ne e9) PA.a rfl rfl rfl ?_
         exact ⟨undef, rfl, trivial, h⟩
        ·intro q3 w Γx Ωx h
         have h : St e w ([(false, .val (Rep.slice (Rep.int .u8)) u17 a1.Data), (false, .val Packet_.rep u14 a1), (false, .val Packet_.rep u3 a1), (false, .val Packet_.rep v1 a1)] ++ Γx) ([(false, .oval (oslice 92 6 (fun _ => fragment_open.orep)) v0_0 a0.open_), (false, .box 83 (Rep.iso (fun s : fragment_Assembler => (s.own, s.open_, ())) (Rep.prod (Rep.int .u8) (Rep.prod (Rep.raw (α := List fragment_open) v0_0) Rep.unit))) v0 a0), (true, .box 51 Whole_.rep u2 Whole_.z)] ++ Ωx) := h
         refine OpS.fownD h .z (idx_ne e9) PA.a fa92_1 rfl rfl rfl ?_
         exact ⟨undef, rfl, trivial, h⟩
        ·intro q3 w Γx Ωx h
         have h : St e w ([(false, .val (Rep.slice (Rep.int .u8)) u17 a1.Data), (false, .val Packet_.rep u14 a1), (false, .val Packet_.rep u3 a1), (false, .val Packet_.rep v1 a1)] ++ Γx) ([(false, .oval (oslice 92 6 (fun _ => fragment_open.orep)) v0_0 a0.open_), (false, .box 83 (Rep.iso (fun s : fragment_Assembler => (s.own, s.open_, ())) (Rep.prod (Rep.int .u8) (Rep.prod (Rep.raw (α := List fragment_open) v0_0) Rep.unit))) v0 a0), (true, .box 51 Whole_.rep u2 Whole_.z)] ++ Ωx) := h
         refine OpS.loadSi h .z fragment_open.wk rfl (idx_ne e9) PA.a (Get.comp (Get.arr e9) (GetS.ok (GetS.iso _ (GetS.there (GetS.here GetS.id))))) ty3 rfl rfl rfl ?_
         exact ⟨undef, rfl, trivial, h⟩
        ·intro q3 w Γx Ωx h
         refine OpS.bin rfl rfl rfl rfl rfl ?_
         exact ⟨undef, rfl, trivial, h⟩
        ·intro q3 w Γx Ωx h
         refine OpS.pick rfl rfl rfl rfl ?_
         exact ⟨undef, rfl, trivial, h⟩
        ·intro q3 w Γx Ωx h
         refine OpS.mv rfl rfl rfl ?_
         exact ⟨undef, (congrArg (fun z_ => some (Value.bool z_)) e24), trivial, h⟩
        ·intro q3 w Γx Ωx h
         exact OpS.pass rfl rfl rfl ⟨undef, rfl, trivial, h⟩
        ·intro q3 w Γx Ωx h
         exact OpS.pass rfl rfl rfl ⟨undef, rfl, trivial, h⟩
        ·intro q3 w Γx Ωx h
         exact OpS.pass rfl rfl rfl ⟨undef, rfl, trivial, h⟩
        ·intro q3 w Γx Ωx h
         exact OpS.pass rfl rfl rfl ⟨undef, rfl, trivial, h⟩
        ·intro q3 w Γx Ωx h
         exact OpS.pass rfl rfl rfl ⟨undef, rfl, trivial, h⟩
        ·intro q3 w Γx Ωx h
         exact OpS.pass rfl rfl rfl ⟨undef, rfl, trivial, h⟩
        ·intro q3 w Γx Ωx h
         exact OpS.pass rfl rfl rfl ⟨undef, rfl, trivial, h⟩
        ·intro q3 w Γx Ωx h
         exact OpS.pass rfl rfl rfl ⟨undef, rfl, trivial, h⟩
        ·intro q3 w Γx Ωx h
         exact OpS.pass rfl rfl rfl ⟨undef, rfl, trivial, h⟩
        ·intro q3 w Γx Ωx h
         exact OpS.pass rfl rfl rfl ⟨undef, rfl, trivial, h⟩
        ·intro q3 w Γx Ωx h
         exact OpS.pass rfl rfl rfl ⟨undef, rfl, trivial, h⟩
        ·intro q3 w Γx Ωx h
         refine OpS.pick rfl rfl rfl rfl ?_
         exact ⟨undef, rfl, trivial, h⟩
        ·intro q3 w Γx Ωx h
         refine OpS.as rfl rfl rfl ?_
         exact ⟨undef, rfl, trivial, h⟩
        have h89 : St e w [(false, .val (Rep.slice (Rep.int .u8)) u17 a1.Data), (false, .val Packet_.rep u14 a1), (false, .val Packet_.rep u3 a1), (false, .val Packet_.rep v1 a1)] [(false, .oval (oslice 92 6 (fun _ => fragment_open.orep)) v0_0 a0.open_), (false, .box 44 Packet_.rep u1 a1), (false, .box 83 (Rep.iso (fun s : fragment_Assembler => (s.own, s.open_, ())) (Rep.prod (Rep.int .u8) (Rep.prod (Rep.raw (α := List fragment_open) v0_0) Rep.unit))) v0 a0), (true, .box 51 Whole_.rep u2 Whole_.z)] := h
        refine RunL.nil ?_
        refine Run.slim [(53, .bool true), (11, .int .i64 (a1.Data.length : Int)), (10, (padd (sp v0_0) ((y3 : Int).toNat * 6))), (9, .int .i64 y3), (4, u2), (3, u1), (0, v0)] ⟨rfl, rfl, rfl, rfl, rfl, rfl, rfl, trivial⟩ ?_
        refine Run.slim [(0, v0), (3, u1), (4, u2), (9, .int .i64 y3), (10, (padd (sp v0_0) ((y3 : Int).toNat * 6))), (11, .int .i64 (a1.Data.length : Int)), (53, .bool true)] ⟨rfl, rfl, rfl, rfl, rfl, rfl, rfl, trivial⟩ ?_
        exact hj1 (true) _ _ ⟨rfl, (h89.facts .nil).picks (.cons (.s (.s .z)) (.cons (.s .z) (.cons (.s .z) (.cons .z .nil))))⟩ hF
       ·
        have hG := hF
        subst e25
        have hF := hG
        obtain ⟨x9, e26, hF⟩ := letP_use hF
        refine iteP_use hF (fun e27 hF => ?_) (fun e27 hF => ?_)
        ·
         have hG := hF
         subst e27
         have hF := hG
         refine Run.drawV (Ωs := [(false, .box 83 (Rep.iso (fun s : fragment_Assembler => (s.own, s.open_, ())) (Rep.prod (Rep.int .u8) (Rep.prod (Rep.raw (α := List fragment_open) v0_0) Rep.unit))) v0 a0), (true, .box 51 Whole_.rep u2 Whole_.z)]) [⟨some 54, some ((padd u1 4)), fun _ => [], fun ds_ u_ => [], [], [(1, [])], none⟩, ⟨some 55, some (.int .i64 a1.Sequence), fun _ => [], fun ds_ u_ => [], [], [(1, [])], none⟩, ⟨some 56, some ((padd (sp v0_0) ((y3 : Int).toNat * 6))), fun _ => [], fun ds_ u_ => [], [], [], none⟩, ⟨some 57, some ((padd (sp v0_0) ((y3 : Int).toNat * 6))), fun _ => [], fun ds_ u_ => [], [], [(0, [])], none⟩, ⟨some 58, some ((padd (sp v0_0) ((y3 : Int).toNat * 6 + 5))), fun _ => [], fun ds_ u_ => [], [], [(0, [])], none⟩, ⟨some 59, some (.int .i64 x2.last), fun _ => [], fun ds_ u_ => [], [], [(0, [])], none⟩, ⟨some 60, some (.int .i64 (IntKind.i64.wrap (x2.last + 1))), fun _ => [], fun ds_ u_ => [], [], [], none⟩, ⟨some 61, some (.int .i64 (Int.tmod (IntKind.i64.wrap (x2.last + 1)) 4)), fun _ => [], fun ds_ u_ => [], [], [], none⟩, ⟨some 62, some (.bool (a1.Sequence != (Int.tmod (IntKind.i64.wrap (x2.last + 1)) 4))), fun _ => [], fun ds_ u_ => [], [], [], none⟩, ⟨some 63, some (.bool false), fun _ => [], fun ds_ u_ => [], [], [], none⟩, ⟨some 64, some (.int .i64 (a1.Data.length : Int)), fun _ => [], fun ds_ u_ => [], [], [], none⟩, ⟨some 65, some ((padd (sp v0_0) ((y3 : Int).toNat * 6))), fun _ => [], fun ds_ u_ => [], [], [], none⟩, ⟨some 66, some ((padd (sp v0_0) ((y3 : Int).toNat * 6))), fun _ => [], fun ds_ u_ => [], [], [(0, [])], none⟩, ⟨some 67, some ((padd (sp v0_0) ((y3 : Int).toNat * 6 + 4))), fun _ => [], fun ds_ u_ => [], [], [(0, [])], none⟩, ⟨some 68, some (.int .i64 x2.size), fun _ => [], fun ds_ u_ => [], [], [(0, [])], none⟩, ⟨some 69, some (.bool (decide ((a1.Data.length : Int) > x2.size))), fun _ => [], fun ds_ u_ => [], [], [], none⟩, ⟨some 70, some (.bool (decide ((a1.Data.length : Int) > x2.size))), fun _ => [], fun ds_ u_ => [], [], [], none⟩, ⟨some 71, some (.bool false), fun _ => [], fun ds_ u_ => [], [], [], none⟩, ⟨some 72, some (.int .i64 (a1.Data.length : Int)), fun _ => [], fun ds_ u_ => [], [], [], none⟩, ⟨some 73, some ((padd (sp v0_0) ((y3 : Int).toNat * 6))), fun _ => [], fun ds_ u_ => [], [], [], none⟩, ⟨some 74, some ((padd (sp v0_0) ((y3 : Int).toNat * 6))), fun _ => [], fun ds_ u_ => [], [], [(0, [])], none⟩, ⟨some 75, some ((padd (sp v0_0) ((y3 : Int).toNat * 6 + 4))), fun _ => [], fun ds_ u_ => [], [], [(0, [])], none⟩, ⟨some 76, some (.int .i64 x2.size), fun _ => [], fun ds_ u_ => [], [], [(0, [])], none⟩, ⟨some 77, some (.bool (decide ((a1.Data.length : Int) < x2.size))), fun _ => [], fun ds_ u_ => [], [], [], none⟩, ⟨some 78, some (.bool true), fun _ => [], fun ds_ u_ => [], [], [], none⟩, ⟨some 79, some ((padd u1 3)), fun _ => [], fun ds_ u_ => [], [], [(1, [])], none⟩, ⟨some 80, some (.bool a1.End), fun _ => [], fun ds_ u_ => [], [], [(1, [])], none⟩, ⟨some 81, some (.bool (!a1.End)), fun _ => [], fun ds_ u_ => [], [], [], none⟩, ⟨some 82, some (.bool (!a1.End)), fun _ => [], fun ds_ u_ => [], [], [], none⟩, ⟨some 83, some (.bool (!a1.End)), fun _ => [], fun ds_ u_ => [], [], [], none⟩, ⟨some 53, some (.bool (!a1.End)), fun _ => [], fun ds_ u_ => [], [], [], none⟩] [[], [0], [], [2], [3], [4], [5], [6], [1, 7], [8], [9], [9], [11, 9], [12, 9], [13, 9], [10, 14, 9], [9, 15], [16], [17], [17], [19, 17], [20, 17], [21, 17], [18, 22, 17], [23, 17], [24], [25, 24], [26, 24], [24, 27, 17], [17, 28], [29]] [[(false, .oval (oslice 92 6 (fun _ => fragment_open.orep)) v0_0 a0.open_)], [(false, .box 44 Packet_.rep u1 a1)]] [0, 1, 2, 3, 4, 5, 6, 7, 8, 9, 10, 11, 12, 13, 14, 15, 16, 17, 18, 19, 20, 21, 22, 23, 24, 25, 26, 27, 28, 29, 30, 31, 32] Try_mixed rfl rfl rfl h87 (.cons ?_ (.cons ?_ (.cons ?_ (.cons ?_ (.cons ?_ (.cons ?_ (.cons ?_ (.cons ?_ (.cons ?_ (.cons ?_ (.cons ?_ (.cons ?_ (.cons ?_ (.cons ?_ (.cons ?_ (.cons ?_ (.cons ?_ (.cons ?_ (.cons ?_ (.cons ?_ (.cons ?_ (.cons ?_ (.cons ?_ (.cons ?_ (.cons ?_ (.cons ?_ (.cons ?_ (.cons ?_ (.cons ?_ (.cons ?_ (.cons ?_ .nil))))))))))))))))))))))))))))))) (fun q3 w hq5 h => ?_)
         ·intro q3 w Γx Ωx h
          have h : St e w ([(false, .val (Rep.slice (Rep.int .u8)) u17 a1.Data), (false, .val Packet_.rep u14 a1), (false, .val Packet_.rep u3 a1), (false, .val Packet_.rep v1 a1)] ++ Γx) ([(false, .box 44 Packet_.rep u1 a1), (false, .box 83 (Rep.iso (fun s : fragment_Assembler => (s.own, s.open_, ())) (Rep.prod (Rep.int .u8) (Rep.prod (Rep.raw (α := List fragment_open) v0_0) Rep.unit))) v0 a0), (true, .box 51 Whole_.rep u2 Whole_.z)] ++ Ωx) := h
          refine OpS.fbox (o3 := 4) h .z PA.z fa44_4 rfl rfl rfl rfl ?_
          exact ⟨undef, rfl, trivial, h⟩
         ·intro q3 w Γx Ωx h
          have h : St e w ([(false, .val (Rep.slice (Rep.int .u8)) u17 a1.Data), (false, .val Packet_.rep u14 a1), (false, .val Packet_.rep u3 a1), (false, .val Packet_.rep v1 a1)] ++ Γx) ([(false, .box 44 Packet_.rep u1 a1), (false, .box 83 (Rep.iso (fun s : fragment_Assembler => (s.own, s.open_, ())) (Rep.prod (Rep.int .u8) (Rep.prod (Rep.raw (α := List fragment_open) v0_0) Rep.unit))) v0 a0), (true, .box 51 Whole_.rep u2 Whole_.z)] ++ Ωx) := h
          refine OpS.loadBi h .z PA.a (Get.fld Packet_.f4) ty3 rfl rfl rfl ?_
          exact ⟨undef, rfl, trivial, h⟩
         ·intro q3 w Γx Ωx h
          refine OpS.mv rfl rfl rfl ?_
          exact ⟨undef, rfl, trivial, h⟩
         ·intro q3 w Γx Ωx h
          have h : St e w ([(false, .val (Rep.slice (Rep.int .u8)) u17 a1.Data), (false, .val Packet_.rep u14 a1), (false, .val Packet_.rep u3 a1), (false, .val Packet_.rep v1 a1)] ++ Γx) ([(false, .oval (oslice 92 6 (fun _ => fragment_open.orep)) v0_0 a0.open_), (false, .box 83 (Rep.iso (fun s : fragment_Assembler => (s.own, s.open_, ())) (Rep.prod (Rep.int .u8) (Rep.prod (Rep.raw (α := List fragment_open) v0_0) Rep.unit))) v0 a0), (true, .box 51 Whole_.rep u2 Whole_.z)] ++ Ωx) := h
          refine OpS.nchkO h .z (idx_ne e9) PA.a rfl rfl rfl ?_
          exact ⟨undef, rfl, trivial, h⟩
         ·intro q3 w Γx Ωx h
          have h : St e w ([(false, .val (Rep.slice (Rep.int .u8)) u17 a1.Data), (false, .val Packet_.rep u14 a1), (false, .val Packet_.rep u3 a1), (false, .val Packet_.rep v1 a1)] ++ Γx) ([(false, .oval (oslice 92 6 (fun _ => fragment_open.orep)) v0_0 a0.open_), (false, .box 83 (Rep.iso (fun s : fragment_Assembler => (s.own, s.open_, ())) (Rep.prod (Rep.int .u8) (Rep.prod (Rep.raw (α := List fragment_open) v0_0) Rep.unit))) v0 a0), (true, .box 51 Whole_.rep u2 Whole_.z)] ++ Ωx) := h
          refine OpS.fownD h .z (idx_ne e9) PA.a fa92_2 rfl rfl rfl ?_
          exact ⟨undef, rfl, trivial, h⟩
         ·intro q3 w Γx Ωx h
          have h : St e w ([(false, .val (Rep.slice (Rep.int .u8)) u17 a1.Data), (false, .val Packet_.rep u14 a1), (false, .val Packet_.rep u3 a1), (false, .val Packet_.rep v1 a1)] ++ Γx) ([(false, .oval (oslice 92 6 (fun _ => fragment_open.orep)) v0_0 a0.open_), (false, .box 83 (Rep.iso (fun s : fragment_Assembler => (s.own, s.open_, ())) (Rep.prod (Rep.int .u8) (Rep.prod (Rep.raw (α := List fragment_open) v0_0) Rep.unit))) v0 a0), (true, .box 51 Whole_.rep u2 Whole_.z)] ++ Ωx) := h
          refine OpS.loadSi h .z fragment_open.wk rfl (idx_ne e9) PA.a (Get.comp (Get.arr e9) (GetS.ok (GetS.iso _ (GetS.there (GetS.there (GetS.here GetS.id)))))) ty3 rfl rfl rfl ?_
          exact ⟨undef, rfl, trivial, h⟩
         ·intro q3 w Γx Ωx h
          refine OpS.bin rfl rfl rfl rfl rfl ?_
          exact ⟨undef, rfl, trivial, h⟩
         ·intro q3 w Γx Ωx h
          refine OpS.rem rfl rfl rfl rfl (by decide) ?_
          exact ⟨undef, rfl, trivial, h⟩
         ·intro q3 w Γx Ωx h
          refine OpS.bin rfl rfl rfl rfl rfl ?_
          exact ⟨undef, rfl, trivial, h⟩
         ·intro q3 w Γx Ωx h
          refine OpS.mv rfl rfl rfl ?_
          exact ⟨undef, (congrArg (fun z_ => some (Value.bool z_)) e22), trivial, h⟩
         ·intro q3 w Γx Ωx h
          refine OpS.mv rfl rfl rfl ?_
          exact ⟨undef, rfl, trivial, h⟩
         ·intro q3 w Γx Ωx h
          refine OpS.mv rfl rfl rfl ?_
          exact ⟨undef, rfl, trivial, h⟩
         ·intro q3 w Γx Ωx h
          have h : St e w ([(false, .val (Rep.slice (Rep.int .u8)) u17 a1.Data), (false, .val Packet_.rep u14 a1), (false, .val Packet_.rep u3 a1), (false, .val Packet_.rep v1 a1)] ++ Γx) ([(false, .oval (oslice 92 6 (fun _ => fragment_open.orep)) v0_0 a0.open_), (false, .box 83 (Rep.iso (fun s : fragment_Assembler => (s.own, s.open_, ())) (Rep.prod (Rep.int .u8) (Rep.prod (Rep.raw (α := List fragment_open) v0_0) Rep.unit))) v0 a0), (true, .box 51 Whole_.rep u2 Whole_.z)] ++ Ωx) := h
          refine OpS.nchkO h .z (idx_ne e9) PA.a rfl rfl rfl ?_
          exact ⟨undef, rfl, trivial, h⟩
         ·intro q3 w Γx Ωx h
          have h : St e w ([(false, .val (Rep.slice (Rep.int .u8)) u17 a1.Data), (false, .val Packet_.rep u14 a1), (false, .val Packet_.rep u3 a1), (false, .val Packet_.rep v1 a1)] ++ Γx) ([(false, .oval (oslice 92 6 (fun _ => fragment_open.orep)) v0_0 a0.open_), (false, .box 83 (Rep.iso (fun s : fragment_Assembler => (s.own, s.open_, ())) (Rep.prod (Rep.int .u8) (Rep.prod (Rep.raw (α := List fragment_open) v0_0) Rep.unit))) v0 a0), (true, .box 51 Whole_.rep u2 Whole_.z)] ++ Ωx) := h
          refine OpS.fownD h .z (idx_ne e9) PA.a fa92_1 rfl rfl rfl ?_
          exact ⟨undef, rfl, trivial, h⟩
         ·intro q3 w Γx Ωx h
          have h : St e w ([(false, .val (Rep.slice (Rep.int .u8)) u17 a1.Data), (false, .val Packet_.rep u14 a1), (false, .val Packet_.rep u3 a1), (false, .val Packet_.rep v1 a1)] ++ Γx) ([(false, .oval (oslice 92 6 (fun _ => fragment_open.orep)) v0_0 a0.open_), (false, .box 83 (Rep.iso (fun s : fragment_Assembler => (s.own, s.open_, ())) (Rep.prod (Rep.int .u8) (Rep.prod (Rep.raw (α := List fragment_open) v0_0) Rep.unit))) v0 a0), (true, .box 51 Whole_.rep u2 Whole_.z)] ++ Ωx) := h
          refine OpS.loadSi h .z fragment_open.wk rfl (idx_ne e9) PA.a (Get.comp (Get.arr e9) (GetS.ok (GetS.iso _ (GetS.there (GetS.here GetS.id))))) ty3 rfl rfl rfl ?_
          exact ⟨undef, rfl, trivial, h⟩
         ·intro q3 w Γx Ωx h
          refine OpS.bin rfl rfl rfl rfl rfl ?_
          exact ⟨undef, rfl, trivial, h⟩
         ·intro q3 w Γx Ωx h
          refine OpS.pick rfl rfl rfl rfl ?_
          exact ⟨undef, rfl, trivial, h⟩
         ·intro q3 w Γx Ωx h
          refine OpS.mv rfl rfl rfl ?_
          exact ⟨undef, (congrArg (fun z_ => some (Value.bool z_)) e24), trivial, h⟩
         ·intro q3 w Γx Ωx h
          refine OpS.mv rfl rfl rfl ?_
          exact ⟨undef, rfl, trivial, h⟩
         ·intro q3 w Γx Ωx h
          refine OpS.mv rfl rfl rfl ?_
          exact ⟨undef, rfl, trivial, h⟩
         ·intro q3 w Γx Ωx h
          have h : St e w ([(false, .val (Rep.slice (Rep.int .u8)) u17 a1.Data), (false, .val Packet_.rep u14 a1), (false, .val Packet_.rep u3 a1), (false, .val Packet_.rep v1 a1)] ++ Γx) ([(false, .oval (oslice 92 6 (fun _ => fragment_open.orep)) v0_0 a0.open_), (false, .box 83 (Rep.iso (fun s : fragment_Assembler => (s.own, s.open_, ())) (Rep.prod (Rep.int .u8) (Rep.prod (Rep.raw (α := List fragment_open) v0_0) Rep.unit))) v0 a0), (true, .box 51 Whole_.rep u2 Whole_.z)] ++ Ωx) := h
          refine OpS.nchkO h .z (idx_ne e9) PA.a rfl rfl rfl ?_
          exact ⟨undef, rfl, trivial, h⟩
         ·intro q3 w Γx Ωx h
          have h : St e w ([(false, .val (Rep.slice (Rep.int .u8)) u17 a1.Data), (false, .val Packet_.rep u14 a1), (false, .val Packet_.rep u3 a1), (false, .val Packet_.rep v1 a1)] ++ Γx) ([(false, .oval (oslice 92 6 (fun _ => fragment_open.orep)) v0_0 a0.open_), (false, .box 83 (Rep.iso (fun s : fragment_Assembler => (s.own, s.open_, ())) (Rep.prod (Rep.int .u8) (Rep.prod (Rep.raw (α := List fragment_open) v0_0) Rep.unit))) v0 a0), (true, .box 51 Whole_.rep u2 Whole_.z)] ++ Ωx) := h
          refine OpS.fownD h .z (idx_ne e9) PA.a fa92_1 rfl rfl rfl ?_
          exact ⟨undef, rfl, trivial, h⟩
         ·intro q3 w Γx Ωx h
          have h : St e w ([(false, .val (Rep.slice (Rep.int .u8)) u17 a1.Data), (false, .val Packet_.rep u14 a1), (false, .val Packet_.rep u3 a1), (false, .val Packet_.rep v1 a1)] ++ Γx) ([(false, .oval (oslice 92 6 (fun _ => fragment_open.orep)) v0_0 a0.open_), (false, .box 83 (Rep.iso (fun s : fragment_Assembler => (s.own, s.open_, ())) (Rep.prod (Rep.int .u8) (Rep.prod (Rep.raw (α := List fragment_open) v0_0) Rep.unit))) v0 a0), (true, .box 51 Whole_.rep u2 Whole_.z)] ++ Ωx) := h
          refine OpS.loadSi h .z fragment_open.wk rfl (idx_ne e9) PA.a (Get.comp (Get.arr e9) (GetS.ok (GetS.iso _ (GetS.there (GetS.here GetS.id))))) ty3 rfl rfl rfl ?_
          exact ⟨undef, rfl, trivial, h⟩
         ·intro q3 w Γx Ωx h
          refine OpS.bin rfl rfl rfl rfl rfl ?_
          exact ⟨undef, rfl, trivial, h⟩
         ·intro q3 w Γx Ωx h
          refine OpS.mv rfl rfl rfl ?_
          exact ⟨undef, (congrArg (fun z_ => some (Value.bool z_)) e26), trivial, h⟩
         ·intro q3 w Γx Ωx h
          have h : St e w ([(false, .val (Rep.slice (Rep.int .u8)) u17 a1.Data), (false, .val Packet_.rep u14 a1), (false, .val Packet_.rep u3 a1), (false, .val Packet_.rep v1 a1)] ++ Γx) ([(false, .box 44 Packet_.rep u1 a1), (false, .box 83 (Rep.iso (fun s : fragment_Assembler => (s.own, s.open_, ())) (Rep.prod (Rep.int .u8) (Rep.prod (Rep.raw (α := List fragment_open) v0_0) Rep.unit))) v0 a0), (true, .box 51 Whole_.rep u2 Whole_.z)] ++ Ωx) := h
          refine OpS.fbox (o3 := 3) h .z PA.z fa44_3 rfl rfl rfl rfl ?_
          exact ⟨undef, rfl, trivial, h⟩
         ·intro q3 w Γx Ωx h
          have h : St e w ([(false, .val (Rep.slice (Rep.int .u8)) u17 a1.Data), (false, .val Packet_.rep u14 a1), (false, .val Packet_.rep u3 a1), (false, .val Packet_.rep v1 a1)] ++ Γx) ([(false, .box 44 Packet_.rep u1 a1), (false, .box 83 (Rep.iso (fun s : fragment_Assembler => (s.own, s.open_, ())) (Rep.prod (Rep.int .u8) (Rep.prod (Rep.raw (α := List fragment_open) v0_0) Rep.unit))) v0 a0), (true, .box 51 Whole_.rep u2 Whole_.z)] ++ Ωx) := h
          refine OpS.loadBb h .z PA.a (Get.fld Packet_.f3) ty4 rfl rfl rfl ?_
          exact ⟨undef, rfl, trivial, h⟩
         ·intro q3 w Γx Ωx h
          refine OpS.not rfl rfl rfl ?_
          exact ⟨undef, rfl, trivial, h⟩
         ·intro q3 w Γx Ωx h
          refine OpS.pick rfl rfl rfl rfl ?_
          exact ⟨undef, rfl, trivial, h⟩
         ·intro q3 w Γx Ωx h
          refine OpS.pick rfl rfl rfl rfl ?_
          exact ⟨undef, rfl, trivial, h⟩
         ·intro q3 w Γx Ωx h
          refine OpS.as rfl rfl rfl ?_
          exact ⟨undef, rfl, trivial, h⟩
         have h90 : St e w [(false, .val (Rep.slice (Rep.int .u8)) u17 a1.Data), (false, .val Packet_.rep u14 a1), (false, .val Packet_.rep u3 a1), (false, .val Packet_.rep v1 a1)] [(false, .oval (oslice 92 6 (fun _ => fragment_open.orep)) v0_0 a0.open_), (false, .box 44 Packet_.rep u1 a1), (false, .box 83 (Rep.iso (fun s : fragment_Assembler => (s.own, s.open_, ())) (Rep.prod (Rep.int .u8) (Rep.prod (Rep.raw (α := List fragment_open) v0_0) Rep.unit))) v0 a0), (true, .box 51 Whole_.rep u2 Whole_.z)] := h
         refine RunL.nil ?_
         refine Run.slim [(53, .bool (!a1.End)), (11, .int .i64 (a1.Data.length : Int)), (10, (padd (sp v0_0) ((y3 : Int).toNat * 6))), (9, .int .i64 y3), (4, u2), (3, u1), (0, v0)] ⟨rfl, rfl, rfl, rfl, rfl, rfl, rfl, trivial⟩ ?_
         refine Run.slim [(0, v0), (3, u1), (4, u2), (9, .int .i64 y3), (10, (padd (sp v0_0) ((y3 : Int).toNat * 6))), (11, .int .i64 (a1.Data.length : Int)), (53, .bool (!a1.End))] ⟨rfl, rfl, rfl, rfl, rfl, rfl, rfl, trivial⟩ ?_
         exact hj1 (!a1.End) _ _ ⟨rfl, (h90.facts .nil).picks (.cons (.s (.s .z)) (.cons (.s .z) (.cons (.s .z) (.cons .z .nil))))⟩ hF
        ·
         have hG := hF
         subst e27
         have hF := hG
         refine Run.drawV (Ωs := [(false, .box 83 (Rep.iso (fun s : fragment_Assembler => (s.own, s.open_, ())) (Rep.prod (Rep.int .u8) (Rep.prod (Rep.raw (α := List fragment_open) v0_0) Rep.unit))) v0 a0), (true, .box 51 Whole_.rep u2 Whole_.z)]) [⟨some 54, some ((padd u1 4)), fun _ => [], fun ds_ u_ => [], [], [(1, [])], none⟩, ⟨some 55, some (.int .i64 a1.Sequence), fun _ => [], fun ds_ u_ => [], [], [(1, [])], none⟩, ⟨some 56, some ((padd (sp v0_0) ((y3 : Int).toNat * 6))), fun _ => [], fun ds_ u_ => [], [], [], none⟩, ⟨some 57, some ((padd (sp v0_0) ((y3 : Int).toNat * 6))), fun _ => [], fun ds_ u_ => [], [], [(0, [])], none⟩, ⟨some 58, some ((padd (sp v0_0) ((y3 : Int).toNat * 6 + 5))), fun _ => [], fun ds_ u_ => [], [], [(0, [])], none⟩, ⟨some 59, some (.int .i64 x2.last), fun _ => [], fun ds_ u_ => [], [], [(0, [])], none⟩, ⟨some 60, some (.int .i64 (IntKind.i64.wrap (x2.last + 1))), fun _ => [], fun ds_ u_ => [], [], [], none⟩, ⟨some 61, some (.int .i64 (Int.tmod (IntKind.i64.wrap (x2.last + 1)) 4)), fun _ => [], fun ds_ u_ => [], [], [], none⟩, ⟨some 62, some (.bool (a1.Sequence != (Int.tmod (IntKind.i64.wrap (x2.last + 1)) 4))), fun _ => [], fun ds_ u_ => [], [], [], none⟩, ⟨some 63, some (.bool false), fun _ => [], fun ds_ u_ => [], [], [], none⟩, ⟨some 64, some (.int .i64 (a1.Data.length : Int)), fun _ => [], fun ds_ u_ => [], [], [], none⟩, ⟨some 65, some ((padd (sp v0_0) ((y3 : Int).toNat * 6))), fun _ => [], fun ds_ u_ => [], [], [], none⟩, ⟨some 66, some ((padd (sp v0_0) ((y3 : Int).toNat * 6))), fun _ => [], fun ds_ u_ => [], [], [(0, [])], none⟩, ⟨some 67, some ((padd (sp v0_0) ((y3 : Int).toNat * 6 + 4))), fun _ => [], fun ds_ u_ => [], [], [(0, [])], none⟩, ⟨some 68, some (.int .i64 x2.size), fun _ => [], fun ds_ u_ => [], [], [(0, [])], none⟩, ⟨some 69, some (.bool (decide ((a1.Data.length : Int) > x2.size))), fun _ => [], fun ds_ u_ => [], [], [], none⟩, ⟨some 70, some (.bool (decide ((a1.Data.length : Int) > x2.size))), fun _ => [], fun ds_ u_ => [], [], [], none⟩, ⟨some 71, some (.bool false), fun _ => [], fun ds_ u_ => [], [], [], none⟩, ⟨some 72, some (.int .i64 (a1.Data.length : Int)), fun _ => [], fun ds_ u_ => [], [], [], none⟩, ⟨some 73, some ((padd (sp v0_0) ((y3 : Int).toNat * 6))), fun _ => [], fun ds_ u_ => [], [], [], none⟩, ⟨some 74, some ((padd (sp v0_0) ((y3 : Int).toNat * 6))), fun _ => [], fun ds_ u_ => [], [], [(0, [])], none⟩, ⟨some 75, some ((padd (sp v0_0) ((y3 : Int).toNat * 6 + 4))), fun _ => [], fun ds_ u_ => [], [], [(0, [])], none⟩, ⟨some 76, some (.int .i64 x2.size), fun _ => [], fun ds_ u_ => [], [], [(0, [])], none⟩, ⟨some 77, some (.bool (decide ((a1.Data.length : Int) < x2.size))), fun _ => [], fun ds_ u_ => [], [], [], none⟩, ⟨some 78, some (.bool false), fun _ => [], fun ds_ u_ => [], [], [], none⟩, ⟨some 79, some undef, fun _ => [], fun _ _ => [], [], [], none⟩, ⟨some 80, some undef, fun _ => [], fun _ _ => [], [], [], none⟩, ⟨some 81, some undef, fun _ => [], fun _ _ => [], [], [], none⟩, ⟨some 82, some (.bool false), fun _ => [], fun ds_ u_ => [], [], [], none⟩, ⟨some 83, some (.bool false), fun _ => [], fun ds_ u_ => [], [], [], none⟩, ⟨some 53, some (.bool false), fun _ => [], fun ds_ u_ => [], [], [], none⟩] [[], [0], [], [2], [3], [4], [5], [6], [1, 7], [8], [9], [9], [11, 9], [12, 9], [13, 9], [10, 14, 9], [9, 15], [16], [17], [17], [19, 17], [20, 17], [21, 17], [18, 22, 17], [23, 17], [24], [24], [24], [24, 27, 17], [17, 28], [29]] [[(false, .oval (oslice 92 6 (fun _ => fragment_open.orep)) v0_0 a0.open_)], [(false, .box 44 Packet_.rep u1 a1)]] [0, 1, 2, 3, 4, 5, 6, 7, 8, 9, 10, 11, 12, 13, 14, 15, 16, 17, 18, 19, 20, 21, 22, 23, 24, 25, 26, 27, 28, 29, 30, 31, 32] Try_mixed rfl rfl rfl h87 (.cons ?_ (.cons ?_ (.cons ?_ (.cons ?_ (.cons ?_ (.cons ?_ (.cons ?_ (.cons ?_ (.cons ?_ (.cons ?_ (.cons ?_ (.cons ?_ (.cons ?_ (.cons ?_ (.cons ?_ (.cons ?_ (.cons ?_ (.cons ?_ (.cons ?_ (.cons ?_ (.cons ?_ (.cons ?_ (.cons ?_ (.cons ?_ (.cons ?_ (.cons ?_ (.cons ?_ (.cons ?_ (.cons ?_ (.cons ?_ (.cons ?_ .nil))))))))))))))))))))))))))))))) (fun q3 w hq6 h => ?_)
         ·intro q3 w Γx Ωx h
          have h : St e w ([(false, .val (Rep.slice (Rep.int .u8)) u17 a1.Data), (false, .val Packet_.rep u14 a1), (false, .val Packet_.rep u3 a1), (false, .val Packet_.rep v1 a1)] ++ Γx) ([(false, .box 44 Packet_.rep u1 a1), (false, .box 83 (Rep.iso (fun s : fragment_Assembler => (s.own, s.open_, ())) (Rep.prod (Rep.int .u8) (Rep.prod (Rep.raw (α := List fragment_open) v0_0) Rep.unit))) v0 a0), (true, .box 51 Whole_.rep u2 Whole_.z)] ++ Ωx) := h
          refine OpS.fbox (o3 := 4) h .z PA.z fa44_4 rfl rfl rfl rfl ?_
          exact ⟨undef, rfl, trivial, h⟩
         ·intro q3 w Γx Ωx h
          have h : St e w ([(false, .val (Rep.slice (Rep.int .u8)) u17 a1.Data), (false, .val Packet_.rep u14 a1), (false, .val Packet_.rep u3 a1), (false, .val Packet_.rep v1 a1)] ++ Γx) ([(false, .box 44 Packet_.rep u1 a1), (false, .box 83 (Rep.iso (fun s : fragment_Assembler => (s.own, s.open_, ())) (Rep.prod (Rep.int .u8) (Rep.prod (Rep.raw (α := List fragment_open) v0_0) Rep.unit))) v0 a0), (true, .box 51 Whole_.rep u2 Whole_.z)] ++ Ωx) := h
          refine OpS.loadBi h .z PA.a (Get.fld Packet_.f4) ty3 rfl rfl rfl ?_
          exact ⟨undef, rfl, trivial, h⟩
         ·intro q3 w Γx Ωx h
          refine OpS.mv rfl rfl rfl ?_
          exact ⟨undef, rfl, trivial, h⟩
         ·intro q3 w Γx Ωx h
          have h : St e w ([(false, .val (Rep.slice (Rep.int .u8)) u17 a1.Data), (false, .val Packet_.rep u14 a1), (false, .val Packet_.rep u3 a1), (false, .val Packet_.rep v1 a1)] ++ Γx) ([(false, .oval (oslice 92 6 (fun _ => fragment_open.orep)) v0_0 a0.open_), (false, .box 83 (Rep.iso (fun s : fragment_Assembler => (s.own, s.open_, ())) (Rep.prod (Rep.int .u8) (Rep.prod (Rep.raw (α := List fragment_open) v0_0) Rep.unit))) v0 a0), (true, .box 51 Whole_.rep u2 Whole_.z)] ++ Ωx) := h
          refine OpS.nchkO h .z (idx_ne e9) PA.a rfl rfl rfl ?_
          exact ⟨undef, rfl, trivial, h⟩
         ·intro q3 w Γx Ωx h
          have h : St e w ([(false, .val (Rep.slice (Rep.int .u8)) u17 a1.Data), (false, .val Packet_.rep u14 a1), (false, .val Packet_.rep u3 a1), (false, .val Packet_.rep v1 a1)] ++ Γx) ([(false, .oval (oslice 92 6 (fun _ => fragment_open.orep)) v0_0 a0.open_), (false, .box 83 (Rep.iso (fun s : fragment_Assembler => (s.own, s.open_, ())) (Rep.prod (Rep.int .u8) (Rep.prod (Rep.raw (α := List fragment_open) v0_0) Rep.unit))) v0 a0), (true, .box 51 Whole_.rep u2 Whole_.z)] ++ Ωx) := h
          refine OpS.fownD h .z (idx_ne e9) PA.a fa92_2 rfl rfl rfl ?_
          exact ⟨undef, rfl, trivial, h⟩
         ·intro q3 w Γx Ωx h
          have h : St e w ([(false, .val (Rep.slice (Rep.int .u8)) u17 a1.Data), (false, .val Packet_.rep u14 a1), (false, .val Packet_.rep u3 a1), (false, .val Packet_.rep v1 a1)] ++ Γx) ([(false, .oval (oslice 92 6 (fun _ => fragment_open.orep)) v0_0 a0.open_), (false, .box 83 (Rep.iso (fun s : fragment_Assembler => (s.own, s.open_, ())) (Rep.prod (Rep.int .u8) (Rep.prod (Rep.raw (α := List fragment_open) v0_0) Rep.unit))) v0 a0), (true, .box 51 Whole_.rep u2 Whole_.z)] ++ Ωx) := h
          refine OpS.loadSi h .z fragment_open.wk rfl (idx_ne e9) PA.a (Get.comp (Get.arr e9) (GetS.ok (GetS.iso _ (GetS.there (GetS.there (GetS.here GetS.id)))))) ty3 rfl rfl rfl ?_
          exact ⟨undef, rfl, trivial, h⟩
         ·intro q3 w Γx Ωx h
          refine OpS.bin rfl rfl rfl rfl rfl ?_
          exact ⟨undef, rfl, trivial, h⟩
         ·intro q3 w Γx Ωx h
          refine OpS.rem rfl rfl rfl rfl (by decide) ?_
          exact ⟨undef, rfl, trivial, h⟩
         ·intro q3 w Γx Ωx h
          refine OpS.bin rfl rfl rfl rfl rfl ?_
          exact ⟨undef, rfl, trivial, h⟩
         ·intro q3 w Γx Ωx h
          refine OpS.mv rfl rfl rfl ?_
          exact ⟨undef, (congrArg (fun z_ => some (Value.bool z_)) e22), trivial, h⟩
         ·intro q3 w Γx Ωx h
          refine OpS.mv rfl rfl rfl ?_
          exact ⟨undef, rfl, trivial, h⟩
         ·intro q3 w Γx Ωx h
          refine OpS.mv rfl rfl rfl ?_
          exact ⟨undef, rfl, trivial, h⟩
         ·intro q3 w Γx Ωx h
          have h : St e w ([(false, .val (Rep.slice (Rep.int .u8)) u17 a1.Data), (false, .val Packet_.rep u14 a1), (false, .val Packet_.rep u3 a1), (false, .val Packet_.rep v1 a1)] ++ Γx) ([(false, .oval (oslice 92 6 (fun _ => fragment_open.orep)) v0_0 a0.open_), (false, .box 83 (Rep.iso (fun s : fragment_Assembler => (s.own, s.open_, ())) (Rep.prod (Rep.int .u8) (Rep.prod (Rep.raw (α := List fragment_open) v0_0) Rep.unit))) v0 a0), (true, .box 51 Whole_.rep u2 Whole_.z)] ++ Ωx) := h
          refine OpS.nchkO h .z (idx_ne e9) PA.a rfl rfl rfl ?_
          exact ⟨undef, rfl, trivial, h⟩
         ·intro q3 w Γx Ωx h
          have h : St e w ([(false, .val (Rep.slice (Rep.int .u8)) u17 a1.Data), (false, .val Packet_.rep u14 a1), (false, .val Packet_.rep u3 a1), (false, .val Packet_.rep v1 a1)] ++ Γx) ([(false, .oval (oslice 92 6 (fun _ => fragment_open.orep)) v0_0 a0.open_), (false, .box 83 (Rep.iso (fun s : fragment_Assembler => (s.own, s.open_, ())) (Rep.prod (Rep.int .u8) (Rep.prod (Rep.raw (α := List fragment_open) v0_0) Rep.unit))) v0 a0), (true, .box 51 Whole_.rep u2 Whole_.z)] ++ Ωx) := h
          refine OpS.fownD h .z (idx_ne e9) PA.a fa92_1 rfl rfl rfl ?_
          exact ⟨undef, rfl, trivial, h⟩
         ·intro q3 w Γx Ωx h
          have h : St e w ([(false, .val (Rep.slice (Rep.int .u8)) u17 a1.Data), (false, .val Packet_.rep u14 a1), (false, .val Packet_.rep u3 a1), (false, .val Packet_.rep v1 a1)] ++ Γx) ([(false, .oval (oslice 92 6 (fun _ => fragment_open.orep)) v0_0 a0.open_), (false, .box 83 (Rep.iso (fun s : fragment_Assembler => (s.own, s.open_, ())) (Rep.prod (Rep.int .u8) (Rep.prod (Rep.raw (α := List fragment_open) v0_0) Rep.unit))) v0 a0), (true, .box 51 Whole_.rep u2 Whole_.z)] ++ Ωx) := h
          refine OpS.loadSi h .z fragment_open.wk rfl (idx_ne e9) PA.a (Get.comp (Get.arr e9) (GetS.ok (GetS.iso _ (GetS.there (GetS.here GetS.id))))) ty3 rfl rfl rfl ?_
          exact ⟨undef, rfl, trivial, h⟩
         ·intro q3 w Γx Ωx h
          refine OpS.bin rfl rfl rfl rfl rfl ?_
          exact ⟨undef, rfl, trivial, h⟩
         ·intro q3 w Γx Ωx h
          refine OpS.pick rfl rfl rfl rfl ?_
          exact ⟨undef, rfl, trivial, h⟩
         ·intro q3 w Γx Ωx h
          refine OpS.mv rfl rfl rfl ?_
          exact ⟨undef, (congrArg (fun z_ => some (Value.bool z_)) e24), trivial, h⟩
         ·intro q3 w Γx Ωx h
          refine OpS.mv rfl rfl rfl ?_
          exact ⟨undef, rfl, trivial, h⟩
         ·intro q3 w Γx Ωx h
          refine OpS.mv rfl rfl rfl ?_
          exact ⟨undef, rfl, trivial, h⟩
         ·intro q3 w Γx Ωx h
          have h : St e w ([(false, .val (Rep.slice (Rep.int .u8)) u17 a1.Data), (false, .val Packet_.rep u14 a1), (false, .val Packet_.rep u3 a1), (false, .val Packet_.rep v1 a1)] ++ Γx) ([(false, .oval (oslice 92 6 (fun _ => fragment_open.orep)) v0_0 a0.open_), (false, .box 83 (Rep.iso (fun s : fragment_Assembler => (s.own, s.open_, ())) (Rep.prod (Rep.int .u8) (Rep.prod (Rep.raw (α := List fragment_open) v0_0) Rep.unit))) v0 a0), (true, .box 51 Whole_.rep u2 Whole_.z)] ++ Ωx) := h
          refine OpS.nchkO h .z (idx_ne e9) PA.a rfl rfl rfl ?_
          exact ⟨undef, rfl, trivial, h⟩
         ·intro q3 w Γx Ωx h
          have h : St e w ([(false, .val (Rep.slice (Rep.int .u8)) u17 a1.Data), (false, .val Packet_.rep u14 a1), (false, .val Packet_.rep u3 a1), (false, .val Packet_.rep v1 a1)] ++ Γx) ([(false, .oval (oslice 92 6 (fun _ => fragment_open.orep)) v0_0 a0.open_), (false, .box 83 (Rep.iso (fun s : fragment_Assembler => (s.own, s.open_, ())) (Rep.prod (Rep.int .u8) (Rep.prod (Rep.raw (α := List fragment_open) v0_0) Rep.unit))) v0 a0), (true, .box 51 Whole_.rep u2 Whole_.z)] ++ Ωx) := h
          refine OpS.fownD h .z (idx_ne e9) PA.a fa92_1 rfl rfl rfl ?_
          exact ⟨undef, rfl, trivial, h⟩
         ·intro q3 w Γx Ωx h
          have h : St e w ([(false, .val (Rep.slice (Rep.int .u8)) u17 a1.Data), (false, .val Packet_.rep u14 a1), (false, .val Packet_.rep u3 a1), (false, .val Packet_.rep v1 a1)] ++ Γx) ([(false, .oval (oslice 92 6 (fun _ => fragment_open.orep)) v0_0 a0.open_), (false, .box 83 (Rep.iso (fun s : fragment_Assembler => (s.own, s.open_, ())) (Rep.prod (Rep.int .u8) (Rep.prod (Rep.raw (α := List fragment_open) v0_0) Rep.unit))) v0 a0), (true, .box 51 Whole_.rep u2 Whole_.z)] ++ Ωx) := h
          refine OpS.loadSi h .z fragment_open.wk rfl (idx_ne e9) PA.a (Get.comp (Get.arr e9) (GetS.ok (GetS.iso _ (GetS.there (GetS.here GetS.id))))) ty3 rfl rfl rfl ?_
          exact ⟨undef, rfl, trivial, h⟩
         ·intro q3 w Γx Ωx h
          refine OpS.bin rfl rfl rfl rfl rfl ?_
          exact ⟨undef, rfl, trivial, h⟩
         ·intro q3 w Γx Ωx h
          refine OpS.mv rfl rfl rfl ?_
          exact ⟨undef, (congrArg (fun z_ => some (Value.bool z_)) e26), trivial, h⟩
         ·intro q3 w Γx Ωx h
          exact OpS.pass rfl rfl rfl ⟨undef, rfl, trivial, h⟩
         ·intro q3 w Γx Ωx h
          exact OpS.pass rfl rfl rfl ⟨undef, rfl, trivial, h⟩
         ·intro q3 w Γx Ωx h
          exact OpS.pass rfl rfl rfl ⟨undef, rfl, trivial, h⟩
         ·intro q3 w Γx Ωx h
          refine OpS.pick rfl rfl rfl rfl ?_
          exact ⟨undef, rfl, trivial, h⟩
         ·intro q3 w Γx Ωx h
          refine OpS.pick rfl rfl rfl rfl ?_
          exact ⟨undef, rfl, trivial, h⟩
         ·intro q3 w Γx Ωx h
          refine OpS.as rfl rfl rfl ?_
          exact ⟨undef, rfl, trivial, h⟩
         have h91 : St e w [(false, .val (Rep.slice (Rep.int .u8)) u17 a1.Data), (false, .val Packet_.rep u14 a1), (false, .val Packet_.rep u3 a1), (false, .val Packet_.rep v1 a1)] [(false, .oval (oslice 92 6 (fun _ => fragment_open.orep)) v0_0 a0.open_), (false, .box 44 Packet_.rep u1 a1), (false, .box 83 (Rep.iso (fun s : fragment_Assembler => (s.own, s.open_, ())) (Rep.prod (Rep.int .u8) (Rep.prod (Rep.raw (α := List fragment_open) v0_0) Rep.unit))) v0 a0), (true, .box 51 Whole_.rep u2 Whole_.z)] := h
         refine RunL.nil ?_
         refine Run.slim [(53, .bool false), (11, .int .i64 (a1.Data.length : Int)), (10, (padd (sp v0_0) ((y3 : Int).toNat * 6))), (9, .int .i64 y3), (4, u2), (3, u1), (0, v0)] ⟨rfl, rfl, rfl, rfl, rfl, rfl, rfl, trivial⟩ ?_
         refine Run.slim [(0, v0), (3, u1), (4, u2), (9, .int .i64 y3), (10, (padd (sp v0_0) ((y3 : Int).toNat * 6))), (11, .int .i64 (a1.Data.length : Int)), (53, .bool false)] ⟨rfl, rfl, rfl, rfl, rfl, rfl, rfl, trivial⟩ ?_
         exact hj1 (false) _ _ ⟨rfl, (h91.facts .nil).picks (.cons (.s (.s .z)) (.cons (.s .z) (.cons (.s .z) (.cons .z .nil))))⟩ hF
theorem fragment_Assembler_Open_ok {fuel : Nat} {a0 : fragment_Assembler} {y : Int} (hF : fragment_Assembler_Open fuel a0 = some y) {w : World} {v0 v0_0 : Value} :
  Spec Try.prog 27 [v0].toArray w [] [(false, .box 83 (Rep.iso (fun s : fragment_Assembler => (s.own, s.open_, ())) (Rep.prod (Rep.int .u8) (Rep.prod (Rep.raw (α := List fragment_open) v0_0) Rep.unit))) v0 a0), (false, .oval (oslice 92 6 (fun _ => fragment_open.orep)) v0_0 a0.open_)] (fun v Γr Ωr Ωo => v = .int .i64 y ∧ Γr = [] ∧ Ωr = [] ∧ Ωo = [(false, .box 83 (Rep.iso (fun s : fragment_Assembler => (s.own, s.open_, ())) (Rep.prod (Rep.int .u8) (Rep.prod (Rep.raw (α := List fragment_open) v0_0) Rep.unit))) v0 a0), (false, (.oval (oslice 92 6 (fun _ => fragment_open.orep)) v0_0 a0.open_))]) := by
 refine Spec.of (L := [(0, v0)]) Try.func27 rfl ⟨rfl, trivial⟩ rfl (fun e h => ?_)
 unfold fragment_Assembler_Open at hF
 refine Run.seq ?_
 refine Run.reg ?_
 refine op (OpS.as rfl rfl rfl ?_)
 refine RunL.nil ?_
 refine Run.slim [(0, v0)] ⟨rfl, trivial⟩ ?_
 refine Run.seq ?_
 refine Run.reg ?_
 refine op (OpS.mv rfl rfl rfl ?_)
 refine op (OpS.nchk h .z rfl rfl rfl ?_)
 refine op (OpS.fbox (o3 := 1) h .z PA.z fa83_1 rfl rfl rfl rfl ?_)
 refine op (OpS.loadR h .z PA.a (GetS.ok (GetS.iso _ (GetS.there (GetS.here GetS.id)))) ty81 rfl rfl rfl rfl rfl ?_)
 refine op (OpS.lenD h (.s .z) Try.underlying81 rfl rfl rfl ?_)
 refine op (OpS.as rfl rfl rfl ?_)
 refine RunL.nil ?_
 refine Run.slim [(2, .int .i64 (a0.open_.length : Int))] ⟨rfl, trivial⟩ ?_
 refine Run.retP rfl (.tmp rfl .nil) ?_
 cases hF
 exact Post.mk' ⟨rfl, rfl, rfl, rfl⟩ (h.picks (.cons .z (.cons .z .nil))) .nil
end Lift
