/- Each Go function computes its plain function. Written by lift.py. -/
import Derived.Test.YtmhmkgijjgkbcaaRepositoryPlaysWalksA
set_option linter.unusedVariables false
set_option linter.unusedSimpArgs false
namespace Lift
open Go Go.Proofs
open RunL (op)
theorem ref11_Repository_Clear_ok {fuel : Nat} {a0 : ref11_Repository} {a1 : Int} {y : Int × ref11_Repository} (hF : ref11_Repository_Clear fuel a0 a1 = some y) {w : World} {v0 v0_0 : Value} :
  Spec Try.prog 29 [v0, .int .u16 a1].toArray w [] [(false, .box 74 (Rep.iso (fun s : ref11_Repository => (s.Capacity, s.Items, s.Last, s.Held, s.Given, ())) (Rep.prod (Rep.int .i64) (Rep.prod (Rep.raw v0_0) (Rep.prod (Rep.int .i64) (Rep.prod Rep.bool (Rep.prod (Rep.int .i64) Rep.unit)))))) v0 a0), (false, .slice 76 ref11_Item.rep v0_0 a0.Items)] (fun v Γr Ωr Ωo => ∃ w0_0 : Value, v = .int .i64 y.1 ∧ Γr = [] ∧ Ωr = [] ∧ Ωo = [(false, .box 74 (Rep.iso (fun s : ref11_Repository => (s.Capacity, s.Items, s.Last, s.Held, s.Given, ())) (Rep.prod (Rep.int .i64) (Rep.prod (Rep.raw w0_0) (Rep.prod (Rep.int .i64) (Rep.prod Rep.bool (Rep.prod (Rep.int .i64) Rep.unit)))))) v0 y.2), (false, (.slice 76 ref11_Item.rep w0_0 y.2.Items))]) := by
 refine Spec.of (L := [(0, v0), (1, .int .u16 a1)]) Try.func29 rfl ⟨rfl, rfl, trivial⟩ rfl (fun e h => ?_)
 unfold ref11_Repository_Clear at hF
 refine Run.seq ?_
 refine Run.reg ?_
 refine op (OpS.as rfl rfl rfl ?_)
 refine RunL.nil ?_
 refine Run.slim [(0, v0), (1, .int .u16 a1)] ⟨rfl, rfl, trivial⟩ ?_
 refine Run.seq ?_
 refine Run.seq ?_
 refine Run.reg ?_
 refine op (OpS.mv rfl rfl rfl ?_)
 refine op (OpS.mv rfl rfl rfl ?_)
 obtain ⟨y1, e1, hF⟩ := bindP_use hF
 have h1 := h.front (.cons .z (.cons .z .nil))
 refine op (OpS.callO h1 Try.func45 rfl rfl rfl rfl (vs := [v0, .int .u16 a1]) rfl (ref11_Repository_held_ok e1) rfl .nil ?_)
 rintro _ w1 _ _ _ ⟨rfl, rfl, rfl, rfl⟩ h2
 have h3 := h2
 simp only [List.cons_append, List.nil_append] at h3
 refine op (OpS.not rfl rfl rfl ?_)
 refine RunL.nil ?_
 refine Run.slim [(8, .bool (!y1)), (0, v0)] ⟨rfl, rfl, trivial⟩ ?_
 refine Run.ite rfl hF (fun e2 hF => ?_) (fun e2 hF => ?_)
 ·
  refine Run.seq ?_
  refine Run.reg ?_
  refine op (OpS.as rfl rfl rfl ?_)
  refine RunL.nil ?_
  refine Run.slim [(4, .int .i64 11)] ⟨rfl, trivial⟩ ?_
  refine Run.retP rfl (.tmp rfl .nil) ?_
  cases hF
  exact Post.mk' ⟨v0_0, rfl, rfl, rfl, rfl⟩ (h3.picks (.cons .z (.cons .z .nil))) .nil
 ·
  refine Run.skip ?_
  refine Run.seq ?_
  refine Run.reg ?_
  refine op (OpS.mv rfl rfl rfl ?_)
  refine op (OpS.nchk h3 .z rfl rfl rfl ?_)
  refine op (OpS.fbox (o3 := 1) h3 .z PA.z fa74_1 rfl rfl rfl rfl ?_)
  have h4 := St.nil 76 ref11_Item.rep h3
  refine op (OpS.storeC (f' := false) (fr := (Rep.raw (.slice none 0 0))) (r' := (Rep.iso (fun s : ref11_Repository => (s.Capacity, s.Items, s.Last, s.Held, s.Given, ())) (Rep.prod (Rep.int .i64) (Rep.prod (Rep.raw (.slice none 0 0)) (Rep.prod (Rep.int .i64) (Rep.prod Rep.bool (Rep.prod (Rep.int .i64) Rep.unit))))))) (x' := a0) h4 (.s .z) PA.a (Chg.iso _ (Chg.there (Chg.here (Chg.id (by rfl))))) (Ty.like ty72 (by rfl) (by rfl)) rfl rfl rfl (V.raw (f := false) (St.own1 h4 .z) a0.Items) (.inr rfl) (fun w2 h5 => ?_))
  refine RunL.nil ?_
  refine Run.slim [(0, v0)] ⟨rfl, trivial⟩ ?_
  refine Run.seq ?_
  refine Run.reg ?_
  refine op (OpS.mv rfl rfl rfl ?_)
  refine op (OpS.nchk h5 .z rfl rfl rfl ?_)
  refine op (OpS.fbox (o3 := 3) h5 .z PA.z fa74_3 rfl rfl rfl rfl ?_)
  obtain ⟨d1, e3, hF⟩ := letP_use hF
  refine op (OpS.storeC (f' := true) (fr := Rep.bool) (r' := (Rep.iso (fun s : ref11_Repository => (s.Capacity, s.Items, s.Last, s.Held, s.Given, ())) (Rep.prod (Rep.int .i64) (Rep.prod (Rep.raw (.slice none 0 0)) (Rep.prod (Rep.int .i64) (Rep.prod Rep.bool (Rep.prod (Rep.int .i64) Rep.unit))))))) (x' := d1) h5 .z PA.a (Chg.of (x' := { a0 with Held := false }) (Chg.iso _ (Chg.there (Chg.there (Chg.there (Chg.here (Chg.id (by rfl))))))) e3) ty4 rfl rfl rfl V.bool (.inr rfl) (fun w3 h6 => ?_))
  refine RunL.nil ?_
  refine Run.slim [] trivial ?_
  refine Run.seq ?_
  refine Run.reg ?_
  refine op (OpS.as rfl rfl rfl ?_)
  refine RunL.nil ?_
  have h7 := St.boxJ (r' := (Rep.iso (fun s : ref11_Repository => (s.Capacity, s.Items, s.Last, s.Held, s.Given, ())) (Rep.prod (Rep.int .i64) (Rep.prod (Rep.raw (.slice none 0 0)) (Rep.prod (Rep.int .i64) (Rep.prod Rep.bool (Rep.prod (Rep.int .i64) Rep.unit))))))) (x' := { d1 with Items := [] }) (h6.pick .z) (fun _ _ hs_ => (Jn.iso _ (Jn.prod Jn.refl (Jn.prod Jn.same Jn.refl))))
  have h8 := (h7.pick (.s .z)).weak
  refine Run.retP rfl (.tmp rfl .nil) ?_
  cases hF
  exact Post.mk' ⟨(.slice none 0 0), rfl, rfl, rfl, rfl⟩ (h8.picks (.cons (.s .z) (.cons .z .nil))) .nil
theorem ref11_Repository_IDs_ok {fuel : Nat} {a0 : ref11_Repository} {y : (List Int)} (hF : ref11_Repository_IDs fuel a0 = some y) {w : World} {v0 v0_0 : Value} :
  Spec Try.prog 32 [v0].toArray w [] [(false, .box 74 (Rep.iso (fun s : ref11_Repository => (s.Capacity, s.Items, s.Last, s.Held, s.Given, ())) (Rep.prod (Rep.int .i64) (Rep.prod (Rep.raw v0_0) (Rep.prod (Rep.int .i64) (Rep.prod Rep.bool (Rep.prod (Rep.int .i64) Rep.unit)))))) v0 a0), (false, .slice 76 ref11_Item.rep v0_0 a0.Items)] (fun v Γr Ωr Ωo => ∃ u0 : Value, v = u0 ∧ Γr = [] ∧ Ωr = [(true, .slice 32 (Rep.int .u16) u0 y)] ∧ Ωo = [(false, .box 74 (Rep.iso (fun s : ref11_Repository => (s.Capacity, s.Items, s.Last, s.Held, s.Given, ())) (Rep.prod (Rep.int .i64) (Rep.prod (Rep.raw v0_0) (Rep.prod (Rep.int .i64) (Rep.prod Rep.bool (Rep.prod (Rep.int .i64) Rep.unit)))))) v0 a0), (false, (.slice 76 ref11_Item.rep v0_0 a0.Items))]) := by
 refine Spec.of (L := [(0, v0)]) Try.func32 rfl ⟨rfl, trivial⟩ rfl (fun e h => ?_)
 unfold ref11_Repository_IDs at hF
 refine Run.seq ?_
 refine Run.reg ?_
 refine op (OpS.as rfl rfl rfl ?_)
 refine RunL.nil ?_
 refine Run.slim [(0, v0)] ⟨rfl, trivial⟩ ?_
 refine Run.seq ?_
 refine Run.reg ?_
 refine op (OpS.as rfl rfl rfl ?_)
 refine RunL.nil ?_
 refine Run.seq ?_
 refine Run.seq ?_
 refine Run.reg ?_
 refine op (OpS.as rfl rfl rfl ?_)
 refine RunL.nil ?_
 refine Run.block ?_
 have h1 := St.nil 32 (Rep.int .u16) h
 refine Run.slim [(0, v0), (3, (.slice none 0 0)), (4, .int .i64 0)] ⟨rfl, rfl, rfl, trivial⟩ ?_
 refine Run.loopP (σ := (Int × (List Int))) (fun s_ L_ w_ => ∃ u0_ : Value, L_ = [(0, v0), (3, u0_), (4, .int .i64 s_.1)] ∧ St e w_ [] [(false, .box 74 (Rep.iso (fun s : ref11_Repository => (s.Capacity, s.Items, s.Last, s.Held, s.Given, ())) (Rep.prod (Rep.int .i64) (Rep.prod (Rep.raw v0_0) (Rep.prod (Rep.int .i64) (Rep.prod Rep.bool (Rep.prod (Rep.int .i64) Rep.unit)))))) v0 a0), (true, .slice 32 (Rep.int .u16) u0_ s_.2), (false, .slice 76 ref11_Item.rep v0_0 a0.Items)]) hF ⟨(.slice none 0 0), rfl, (h1.facts .nil).picks (.cons (.s .z) (.cons .z (.cons .z .nil)))⟩ (fun k1 hk1 s1 _ w1 hI hF => ?_)
 obtain ⟨u1, rfl, h2⟩ := hI
 refine Run.seq ?_
 refine Run.seq ?_
 refine Run.reg ?_
 refine op (OpS.mv rfl rfl rfl ?_)
 refine op (OpS.mv rfl rfl rfl ?_)
 refine op (OpS.nchk h2 .z rfl rfl rfl ?_)
 refine op (OpS.fbox (o3 := 1) h2 .z PA.z fa74_1 rfl rfl rfl rfl ?_)
 refine op (OpS.loadR h2 .z PA.a (GetS.ok (GetS.iso _ (GetS.there (GetS.here GetS.id)))) ty72 rfl rfl rfl rfl rfl ?_)
 refine op (OpS.lenO h2 (.s (.s .z)) Try.underlying72 rfl rfl rfl ?_)
 refine op (OpS.bin rfl rfl rfl rfl rfl ?_)
 refine RunL.nil ?_
 refine Run.slim [(11, .bool (decide (s1.1 < (a0.Items.length : Int)))), (0, v0), (3, u1), (4, .int .i64 s1.1)] ⟨rfl, rfl, rfl, rfl, trivial⟩ ?_
 refine Run.ite rfl hF (fun e1 hF => ?_) (fun e1 hF => ?_)
 ·
  refine Run.skip ?_
  refine Run.seq ?_
  refine Run.block ?_
  refine Run.reg ?_
  refine op (OpS.mv rfl rfl rfl ?_)
  refine op (OpS.mv rfl rfl rfl ?_)
  refine op (OpS.nchk h2 .z rfl rfl rfl ?_)
  refine op (OpS.fbox (o3 := 1) h2 .z PA.z fa74_1 rfl rfl rfl rfl ?_)
  refine op (OpS.loadR h2 .z PA.a (GetS.ok (GetS.iso _ (GetS.there (GetS.here GetS.id)))) ty72 rfl rfl rfl rfl rfl ?_)
  refine op (OpS.mv rfl rfl rfl ?_)
  obtain ⟨x1, e2, hF⟩ := bindP_use hF
  refine op (OpS.iown h2 (.s (.s .z)) Try.underlying72 ty76 rfl rfl rfl rfl e2 ?_)
  refine op (OpS.fown h2 (.s (.s .z)) (idx_ne e2) PA.a fa76_0 rfl rfl rfl ?_)
  refine op (OpS.loadOi h2 (.s (.s .z)) (idx_ne e2) PA.a (Get.comp (Get.arr e2) (Get.fld ref11_Item.f0)) ty3 rfl rfl rfl ?_)
  refine op (OpS.conv Try.underlying3 Try.underlying32 rfl rfl rfl ?_)
  refine op (OpS.lit (r := (Rep.int .u16)) (f := true) h2 Try.underlying29 ti32 rfl rfl rfl rfl rfl (.cons rfl V.int .nil) rfl rfl (fun u2 w2 h3 => ?_))
  obtain ⟨x2, e3, hF⟩ := bindP_use hF
  refine op (OpS.app (f' := true) h3 (.s .z) Try.underlying29 ti32 rfl rfl rfl rfl rfl rfl rfl (V.at .z) (.inr Pure.int) e3 (fun u3 w3 h4 => ?_))
  refine op (OpS.as rfl rfl rfl ?_)
  refine RunL.nil ?_
  refine Run.slim [(3, u3), (0, v0), (4, .int .i64 s1.1)] ⟨rfl, rfl, rfl, trivial⟩ ?_
  refine Run.endBlock ?_
  refine Run.reg ?_
  refine op (OpS.mv rfl rfl rfl ?_)
  refine op (OpS.bin rfl rfl rfl rfl rfl ?_)
  refine op (OpS.as rfl rfl rfl ?_)
  obtain ⟨x3, e4, hF⟩ := letP_use hF
  refine RunL.name e4 ?_
  refine RunL.nil ?_
  refine Run.slim [(4, .int .i64 x3), (3, u3), (0, v0)] ⟨rfl, rfl, rfl, trivial⟩ ?_
  refine Run.slim [(0, v0), (3, u3), (4, .int .i64 x3)] ⟨rfl, rfl, rfl, trivial⟩ ?_
  exact hk1 (x3, x2) _ _ ⟨u3, rfl, (h4.facts .nil).picks (.cons (.s .z) (.cons .z (.cons .z .nil)))⟩ hF
 ·
  refine Run.exit rfl ?_
  refine Run.seq ?_
  refine Run.reg ?_
  refine op (OpS.mv rfl rfl rfl ?_)
  refine op (OpS.as rfl rfl rfl ?_)
  refine RunL.nil ?_
  refine Run.slim [(2, u1)] ⟨rfl, trivial⟩ ?_
  refine Run.retP rfl (.tmp rfl .nil) ?_
  cases hF
  exact Post.mk' ⟨u1, rfl, rfl, rfl, rfl⟩ (h2.picks (.cons (.s .z) (.cons .z (.cons .z .nil)))) .nil
theorem law11_sameIDs_ok {fuel : Nat} {a0 : List Int} {a1 : List Int} {y : Bool} (hF : law11_sameIDs fuel a0 a1 = some y) {w : World} {v0 v1 : Value} :
  Spec Try.prog 31 [v0, v1].toArray w [(false, .val (Rep.slice (Rep.int .u16)) v0 a0), (false, .val (Rep.slice (Rep.int .u16)) v1 a1)] [] (fun v Γr Ωr Ωo => v = .bool y ∧ Γr = [] ∧ Ωr = [] ∧ Ωo = []) := by
 refine Spec.of (L := [(0, v0), (1, v1)]) Try.func31 rfl ⟨rfl, rfl, trivial⟩ rfl (fun e h => ?_)
 unfold law11_sameIDs at hF
 refine Run.seq ?_
 refine Run.reg ?_
 refine op (OpS.as rfl rfl rfl ?_)
 refine RunL.nil ?_
 refine Run.slim [(0, v0), (1, v1)] ⟨rfl, rfl, trivial⟩ ?_
 refine Run.seq ?_
 refine Run.seq ?_
 refine Run.reg ?_
 refine op (OpS.mv rfl rfl rfl ?_)
 refine op (OpS.len h Try.underlying29 rfl rfl rfl (V.at .z) ?_)
 refine op (OpS.mv rfl rfl rfl ?_)
 refine op (OpS.len h Try.underlying29 rfl rfl rfl (V.at (.s .z)) ?_)
 refine op (OpS.bin rfl rfl rfl rfl rfl ?_)
 refine RunL.nil ?_
 refine Run.slim [(10, .bool ((a0.length : Int) != (a1.length : Int))), (0, v0), (1, v1)] ⟨rfl, rfl, rfl, trivial⟩ ?_
 refine Run.ite rfl hF (fun e1 hF => ?_) (fun e1 hF => ?_)
 ·
  refine Run.seq ?_
  refine Run.reg ?_
  refine op (OpS.as rfl rfl rfl ?_)
  refine RunL.nil ?_
  refine Run.slim [(4, .bool false)] ⟨rfl, trivial⟩ ?_
  refine Run.retP rfl (.tmp rfl .nil) ?_
  cases hF
  exact Post.mk' ⟨rfl, rfl, rfl, rfl⟩ (h.picks .nil) .nil
 ·
  refine Run.skip ?_
  refine Run.seq ?_
  refine Run.seq ?_
  refine Run.reg ?_
  refine op (OpS.as rfl rfl rfl ?_)
  refine RunL.nil ?_
  refine Run.slim [(5, .int .i64 0), (0, v0), (1, v1)] ⟨rfl, rfl, rfl, trivial⟩ ?_
  refine Run.block ?_
  refine Run.slim [(0, v0), (1, v1), (5, .int .i64 0)] ⟨rfl, rfl, rfl, trivial⟩ ?_
  refine Run.loopP (σ := Int) (fun s_ L_ w_ => L_ = [(0, v0), (1, v1), (5, .int .i64 s_)] ∧ St e w_ [(false, .val (Rep.slice (Rep.int .u16)) v0 a0), (false, .val (Rep.slice (Rep.int .u16)) v1 a1)] []) hF ⟨rfl, (h.facts (.atm .z (.atm (.s .z) .nil))).picks .nil⟩ (fun k1 hk1 s1 _ w1 hI hF => ?_)
  obtain ⟨rfl, h1⟩ := hI
  refine Run.seq ?_
  refine Run.seq ?_
  refine Run.reg ?_
  refine op (OpS.mv rfl rfl rfl ?_)
  refine op (OpS.mv rfl rfl rfl ?_)
  refine op (OpS.len h1 Try.underlying29 rfl rfl rfl (V.at .z) ?_)
  refine op (OpS.bin rfl rfl rfl rfl rfl ?_)
  refine RunL.nil ?_
  refine Run.slim [(14, .bool (decide (s1 < (a0.length : Int)))), (0, v0), (1, v1), (5, .int .i64 s1)] ⟨rfl, rfl, rfl, rfl, trivial⟩ ?_
  refine Run.ite rfl hF (fun e2 hF => ?_) (fun e2 hF => ?_)
  ·
   refine Run.skip ?_
   refine Run.seq ?_
   refine Run.block ?_
   refine Run.seq ?_
   obtain ⟨x1, e3, hF⟩ := bindP_use hF
   obtain ⟨x2, e4, hF⟩ := bindP_use hF
   refine Run.drawV (Ωs := []) [⟨some 17, some (v0), fun _ => [], fun ds_ u_ => [], [], [], none⟩, ⟨some 18, some (.int .i64 s1), fun _ => [], fun ds_ u_ => [], [], [], none⟩, ⟨some 19, none, fun u_ => [(false, .ptr (Rep.int .u16) u_ x1)], fun ds_ u_ => [], [], [], none⟩, ⟨some 20, some (.int .u16 x1), fun _ => [], fun ds_ u_ => [], [], [], none⟩, ⟨some 21, some (v1), fun _ => [], fun ds_ u_ => [], [], [], none⟩, ⟨some 22, some (.int .i64 s1), fun _ => [], fun ds_ u_ => [], [], [], none⟩, ⟨some 23, none, fun u_ => [(false, .ptr (Rep.int .u16) u_ x2)], fun ds_ u_ => [], [], [], none⟩, ⟨some 24, some (.int .u16 x2), fun _ => [], fun ds_ u_ => [], [], [], none⟩, ⟨some 25, some (.bool (x1 != x2)), fun _ => [], fun ds_ u_ => [], [], [], none⟩] [[], [], [0, 1], [2], [], [], [4, 5], [6], [3, 7]] [] [0, 1, 2, 3, 4, 5, 6, 7, 8] Try_mixed rfl rfl rfl h1 (.cons ?_ (.cons ?_ (.cons ?_ (.cons ?_ (.cons ?_ (.cons ?_ (.cons ?_ (.cons ?_ (.cons ?_ .nil))))))))) (fun q1 w hq1 h => ?_)
   ·intro q1 w Γx Ωx h
    refine OpS.mv rfl rfl rfl ?_
    exact ⟨undef, rfl, trivial, h⟩
   ·intro q1 w Γx Ωx h
    refine OpS.mv rfl rfl rfl ?_
    exact ⟨undef, rfl, trivial, h⟩
   ·intro q1 w Γx Ωx h
    refine OpS.iptr h Try.underlying29 ty32 rfl rfl rfl rfl (V.at .z) e3 (fun u h4 => ?_)
    exact ⟨u, rfl, trivial, h4⟩
   ·intro q1 w Γx Ωx h
    refine OpS.loadi h ty32 rfl rfl rfl .z ?_
    exact ⟨undef, rfl, trivial, h⟩
   ·intro q1 w Γx Ωx h
    refine OpS.mv rfl rfl rfl ?_
    exact ⟨undef, rfl, trivial, h⟩
   ·intro q1 w Γx Ωx h
    refine OpS.mv rfl rfl rfl ?_
    exact ⟨undef, rfl, trivial, h⟩
   ·intro q1 w Γx Ωx h
    refine OpS.iptr h Try.underlying29 ty32 rfl rfl rfl rfl (V.at (.s .z)) e4 (fun u h5 => ?_)
    exact ⟨u, rfl, trivial, h5⟩
   ·intro q1 w Γx Ωx h
    refine OpS.loadi h ty32 rfl rfl rfl .z ?_
    exact ⟨undef, rfl, trivial, h⟩
   ·intro q1 w Γx Ωx h
    refine OpS.bin rfl rfl rfl rfl rfl ?_
    exact ⟨undef, rfl, trivial, h⟩
   have h6 : St e w [(false, .ptr (Rep.int .u16) (q1 2) x1), (false, .ptr (Rep.int .u16) (q1 6) x2), (false, .val (Rep.slice (Rep.int .u16)) v0 a0), (false, .val (Rep.slice (Rep.int .u16)) v1 a1)] [] := h
   refine RunL.nil ?_
   refine Run.slim [(25, .bool (x1 != x2)), (0, v0), (1, v1), (5, .int .i64 s1)] ⟨rfl, rfl, rfl, rfl, trivial⟩ ?_
   refine Run.ite rfl hF (fun e5 hF => ?_) (fun e5 hF => ?_)
   ·
    refine Run.seq ?_
    refine Run.reg ?_
    refine op (OpS.as rfl rfl rfl ?_)
    refine RunL.nil ?_
    refine Run.slim [(4, .bool false)] ⟨rfl, trivial⟩ ?_
    refine Run.retP rfl (.tmp rfl .nil) ?_
    cases hF
    exact Post.mk' ⟨rfl, rfl, rfl, rfl⟩ (h6.picks .nil) .nil
   ·
    refine Run.skip ?_
    refine Run.endBlock ?_
    refine Run.reg ?_
    refine op (OpS.mv rfl rfl rfl ?_)
    refine op (OpS.bin rfl rfl rfl rfl rfl ?_)
    refine op (OpS.as rfl rfl rfl ?_)
    obtain ⟨x3, e6, hF⟩ := letP_use hF
    refine RunL.name e6 ?_
    refine RunL.nil ?_
    refine Run.slim [(5, .int .i64 x3), (0, v0), (1, v1)] ⟨rfl, rfl, rfl, trivial⟩ ?_
    refine Run.slim [(0, v0), (1, v1), (5, .int .i64 x3)] ⟨rfl, rfl, rfl, trivial⟩ ?_
    exact hk1 (x3) _ _ ⟨rfl, (h6.facts (.atm (.s (.s .z)) (.atm (.s (.s (.s .z))) .nil))).picks .nil⟩ hF
  ·
   refine Run.exit rfl ?_
   refine Run.seq ?_
   refine Run.reg ?_
   refine op (OpS.as rfl rfl rfl ?_)
   refine RunL.nil ?_
   refine Run.slim [(4, .bool true)] ⟨rfl, trivial⟩ ?_
   refine Run.retP rfl (.tmp rfl .nil) ?_
   cases hF
   exact Post.mk' ⟨rfl, rfl, rfl, rfl⟩ (h1.picks .nil) .nil
set_option maxHeartbeats 8000000 in
theorem law11_RepositoryPlays_ok {fuel : Nat} {a0 : Int} {a1 : List law11_Do} {y : Bool} (hF : law11_RepositoryPlays fuel a0 a1 = some y) {w : World} {v1 : Value} :
  Spec Try.prog 7 [.int .i64 a0, v1].toArray w [(false, .val (Rep.slice law11_Do.rep) v1 a1)] [] (fun v Γr Ωr Ωo => v = .bool y ∧ Γr = [] ∧ Ωr = [] ∧ Ωo = []) := by
 refine Spec.of (L := [(0, .int .i64 a0), (1, v1)]) Try.func7 rfl ⟨rfl, rfl, trivial⟩ rfl (fun e h => ?_)
 unfold law11_RepositoryPlays at hF
 refine Run.seq ?_
 refine Run.reg ?_
 refine op (OpS.as rfl rfl rfl ?_)
 refine RunL.nil ?_
 refine Run.slim [(0, .int .i64 a0), (1, v1)] ⟨rfl, rfl, trivial⟩ ?_
 refine Run.seq ?_
 refine Run.seq ?_
 refine Run.reg ?_
 refine op (OpS.mv rfl rfl rfl ?_)
 obtain ⟨y1, e1, hF⟩ := bindP_use hF
 refine op (OpS.callP h Try.func22 rfl rfl rfl rfl (vs := [v1]) rfl (law11_light_ok e1) (.cons (f := false) (V.at .z) .nil) ?_)
 rintro _ w1 _ _ _ ⟨rfl, rfl, rfl, rfl⟩ h1
 have h2 := h1 rfl rfl
 simp only [List.cons_append, List.nil_append] at h2
 refine op (OpS.not rfl rfl rfl ?_)
 refine RunL.nil ?_
 refine Run.slim [(38, .bool (!y1)), (0, .int .i64 a0), (1, v1)] ⟨rfl, rfl, rfl, trivial⟩ ?_
 refine Run.ite rfl hF (fun e2 hF => ?_) (fun e2 hF => ?_)
 ·
  refine Run.seq ?_
  refine Run.reg ?_
  obtain ⟨y2, e3, hF⟩ := bindP_use hF
  refine op (OpS.callP h2 Try.func9 rfl rfl rfl rfl (vs := []) rfl (law11_awake_ok e3) .nil ?_)
  rintro _ w2 _ _ _ ⟨rfl, rfl, rfl, rfl⟩ h3
  have h4 := h3 rfl rfl
  simp only [List.cons_append, List.nil_append] at h4
  refine op (OpS.as rfl rfl rfl ?_)
  refine RunL.nil ?_
  refine Run.slim [(4, .bool y2)] ⟨rfl, trivial⟩ ?_
  refine Run.retP rfl (.tmp rfl .nil) ?_
  cases hF
  exact Post.mk' ⟨rfl, rfl, rfl, rfl⟩ (h4.picks .nil) .nil
 ·
  refine Run.skip ?_
  refine Run.seq ?_
  refine Run.reg ?_
  refine op (OpS.mv rfl rfl rfl ?_)
  obtain ⟨y3, e4, hF⟩ := bindP_use hF
  refine op (OpS.callP h2 Try.func17 rfl rfl rfl rfl (vs := [.int .i64 a0]) rfl (repository_New_ok e4) .nil ?_)
  rintro _ w3 _ _ _ ⟨u1, rfl, rfl, rfl, rfl⟩ h5
  have h6 := h5 rfl rfl
  simp only [List.cons_append, List.nil_append] at h6
  refine op (OpS.mv rfl rfl rfl ?_)
  refine op (OpS.ext rfl rfl rfl rfl ?_)
  refine op (OpS.ext rfl rfl rfl rfl ?_)
  refine op (OpS.as rfl rfl rfl ?_)
  refine op (OpS.as rfl rfl rfl ?_)
  refine RunL.nil ?_
  refine Run.slim [(6, .int .i64 y3.2), (5, u1), (0, .int .i64 a0), (1, v1)] ⟨rfl, rfl, rfl, rfl, trivial⟩ ?_
  refine Run.seq ?_
  refine Run.reg ?_
  refine op (OpS.mv rfl rfl rfl ?_)
  obtain ⟨y4, e5, hF⟩ := bindP_use hF
  refine op (OpS.callP h6 Try.func23 rfl rfl rfl rfl (vs := [.int .i64 a0]) rfl (ref11_New_ok e5) .nil ?_)
  rintro _ w4 _ _ _ ⟨u2, rfl, rfl, rfl, rfl⟩ h7
  have h8 := h7 rfl rfl
  simp only [List.cons_append, List.nil_append] at h8
  refine op (OpS.mv rfl rfl rfl ?_)
  refine op (OpS.ext rfl rfl rfl rfl ?_)
  refine op (OpS.ext rfl rfl rfl rfl ?_)
  refine op (OpS.as rfl rfl rfl ?_)
  refine op (OpS.as rfl rfl rfl ?_)
  refine RunL.nil ?_
  refine Run.slim [(8, .int .i64 y4.2), (6, .int .i64 y3.2), (5, u1), (0, .int .i64 a0), (1, v1)] ⟨rfl, rfl, rfl, rfl, rfl, trivial⟩ ?_
  refine Run.seq ?_
  refine Run.seq ?_
  refine Run.reg ?_
  refine op (OpS.mv rfl rfl rfl ?_)
  refine op (OpS.mv rfl rfl rfl ?_)
  refine op (OpS.bin rfl rfl rfl rfl rfl ?_)
  refine op (OpS.mv rfl rfl rfl ?_)
  refine RunL.join (σ := Bool) (fun s_ L_ w_ => L_ = [(0, .int .i64 a0), (1, v1), (59, .bool s_)] ∧ St e w_ [(false, .val (Rep.slice law11_Do.rep) v1 a1)] []) hF (fun s1 _ w5 hI hF => ?_) (fun j1 hj1 hF => ?_)
  ·
   obtain ⟨rfl, h9⟩ := hI
   refine Run.ite rfl hF (fun e6 hF => ?_) (fun e6 hF => ?_)
   ·
    refine Run.seq ?_
    refine Run.reg ?_
    refine op (OpS.as rfl rfl rfl ?_)
    refine RunL.nil ?_
    refine Run.slim [(4, .bool false)] ⟨rfl, trivial⟩ ?_
    refine Run.retP rfl (.tmp rfl .nil) ?_
    cases hF
    exact Post.mk' ⟨rfl, rfl, rfl, rfl⟩ (h9.picks .nil) .nil
   ·
    refine Run.skip ?_
    refine Run.seq ?_
    refine Run.reg ?_
    refine op (OpS.mv rfl rfl rfl ?_)
    obtain ⟨y5, e7, hF⟩ := bindP_use hF
    refine op (OpS.callP h9 Try.func12 rfl rfl rfl rfl (vs := [.int .i64 a0, .int .i64 600]) rfl (made_Mod_ok e7) .nil ?_)
    rintro _ w6 _ _ _ ⟨rfl, rfl, rfl, rfl⟩ h10
    have h11 := h10 rfl rfl
    simp only [List.cons_append, List.nil_append] at h11
    refine op (OpS.bin rfl rfl rfl rfl rfl ?_)
    refine op (OpS.as rfl rfl rfl ?_)
    obtain ⟨x1, e8, hF⟩ := letP_use hF
    refine RunL.name e8 ?_
    refine RunL.nil ?_
    refine Run.slim [(9, .int .i64 x1), (1, v1)] ⟨rfl, rfl, trivial⟩ ?_
    refine Run.seq ?_
    refine Run.reg ?_
    refine op (OpS.mv rfl rfl rfl ?_)
    obtain ⟨y6, e9, hF⟩ := bindP_use hF
    refine op (OpS.callP h11 Try.func17 rfl rfl rfl rfl (vs := [.int .i64 x1]) rfl (repository_New_ok e9) .nil ?_)
    rintro _ w7 _ _ _ ⟨u3, rfl, rfl, rfl, rfl⟩ h12
    have h13 := h12 rfl rfl
    simp only [List.cons_append, List.nil_append] at h13
    refine op (OpS.mv rfl rfl rfl ?_)
    refine op (OpS.ext rfl rfl rfl rfl ?_)
    refine op (OpS.ext rfl rfl rfl rfl ?_)
    refine op (OpS.as rfl rfl rfl ?_)
    refine op (OpS.as rfl rfl rfl ?_)
    refine RunL.nil ?_
    refine Run.slim [(6, .int .i64 y6.2), (10, u3), (9, .int .i64 x1), (1, v1)] ⟨rfl, rfl, rfl, rfl, trivial⟩ ?_
    refine Run.seq ?_
    refine Run.reg ?_
    refine op (OpS.mv rfl rfl rfl ?_)
    obtain ⟨y7, e10, hF⟩ := bindP_use hF
    refine op (OpS.callP h13 Try.func23 rfl rfl rfl rfl (vs := [.int .i64 x1]) rfl (ref11_New_ok e10) .nil ?_)
    rintro _ w8 _ _ _ ⟨u4, rfl, rfl, rfl, rfl⟩ h14
    have h15 := h14 rfl rfl
    simp only [List.cons_append, List.nil_append] at h15
    refine op (OpS.mv rfl rfl rfl ?_)
    refine op (OpS.ext rfl rfl rfl rfl ?_)
    refine op (OpS.ext rfl rfl rfl rfl ?_)
    refine op (OpS.as rfl rfl rfl ?_)
    refine op (OpS.as rfl rfl rfl ?_)
    refine RunL.nil ?_
    refine Run.slim [(11, u4), (6, .int .i64 y6.2), (10, u3), (1, v1)] ⟨rfl, rfl, rfl, rfl, trivial⟩ ?_
    refine Run.seq ?_
    refine Run.seq ?_
    refine Run.reg ?_
    refine op (OpS.mv rfl rfl rfl ?_)
    refine op (OpS.onilE h15 (.s .z) (fun _ G_ S_ w_ h_ => ptr_one1 G_ S_ w_ h_) Try.underlying25 rfl rfl rfl rfl ?_)
    refine op (OpS.mv rfl rfl rfl ?_)
    refine RunL.join (σ := Bool) (fun s_ L_ w_ => L_ = [(1, v1), (10, u3), (11, u4), (78, .bool s_)] ∧ St e w_ [(false, .val (Rep.slice law11_Do.rep) v1 a1)] [(true, .opt (fun x_ => .ex fun v_ => .sep (.box 65 (Rep.iso (fun s : repository_Repository => (s.capacity, s.records, s.last, s.number, s.held, ())) (Rep.prod (Rep.int .i64) (Rep.prod (Rep.raw v_) (Rep.prod (Rep.int .u16) (Rep.prod (Rep.int .u16) (Rep.prod Rep.bool Rep.unit)))))) u3 x_) (.slice 67 repository_record.rep v_ x_.records)) u3 y6.1), (true, .opt (fun x_ => .ex fun v_ => .sep (.box 74 (Rep.iso (fun s : ref11_Repository => (s.Capacity, s.Items, s.Last, s.Held, s.Given, ())) (Rep.prod (Rep.int .i64) (Rep.prod (Rep.raw v_) (Rep.prod (Rep.int .i64) (Rep.prod Rep.bool (Rep.prod (Rep.int .i64) Rep.unit)))))) u4 x_) (.slice 76 ref11_Item.rep v_ x_.Items)) u4 y7.1)]) hF (fun s2 _ w9 hI hF => ?_) (fun j2 hj2 hF => ?_)
    ·
     obtain ⟨rfl, h16⟩ := hI
     refine Run.ite rfl hF (fun e11 hF => ?_) (fun e11 hF => ?_)
     ·
      refine Run.seq ?_
      refine Run.reg ?_
      refine op (OpS.as rfl rfl rfl ?_)
      refine RunL.nil ?_
      refine Run.slim [(4, .bool false)] ⟨rfl, trivial⟩ ?_
      refine Run.retP rfl (.tmp rfl .nil) ?_
      cases hF
      exact Post.mk' ⟨rfl, rfl, rfl, rfl⟩ (h16.picks .nil) .nil
     ·
      refine Run.skip ?_
      refine Run.seq ?_
      refine Run.reg ?_
      refine op (OpS.as rfl rfl rfl ?_)
      refine RunL.nil ?_
      refine Run.slim [(13, .int .u16 0), (1, v1), (10, u3), (11, u4)] ⟨rfl, rfl, rfl, rfl, trivial⟩ ?_
      refine Run.seq ?_
      refine Run.seq ?_
      refine Run.reg ?_
      refine op (OpS.as rfl rfl rfl ?_)
      refine RunL.nil ?_
      refine Run.block ?_
      have h17 := (h16.pick .z).weak
      have h18 := (h17.pick (.s .z)).weak
      refine Run.slim [(1, v1), (10, u3), (11, u4), (13, .int .u16 0), (14, .int .i64 0)] ⟨rfl, rfl, rfl, rfl, rfl, trivial⟩ ?_
      refine Run.loopP (σ := (Int × Int × (Option repository_Repository) × (Option ref11_Repository))) (fun s_ L_ w_ => ∃ u0_ u1_ : Value, L_ = [(1, v1), (10, u0_), (11, u1_), (13, .int .u16 s_.1), (14, .int .i64 s_.2.1)] ∧ St e w_ [(false, .val (Rep.slice law11_Do.rep) v1 a1)] [(false, .opt (fun x_ => .ex fun v_ => .sep (.box 65 (Rep.iso (fun s : repository_Repository => (s.capacity, s.records, s.last, s.number, s.held, ())) (Rep.prod (Rep.int .i64) (Rep.prod (Rep.raw v_) (Rep.prod (Rep.int .u16) (Rep.prod (Rep.int .u16) (Rep.prod Rep.bool Rep.unit)))))) u0_ x_) (.slice 67 repository_record.rep v_ x_.records)) u0_ s_.2.2.1), (false, .opt (fun x_ => .ex fun v_ => .sep (.box 74 (Rep.iso (fun s : ref11_Repository => (s.Capacity, s.Items, s.Last, s.Held, s.Given, ())) (Rep.prod (Rep.int .i64) (Rep.prod (Rep.raw v_) (Rep.prod (Rep.int .i64) (Rep.prod Rep.bool (Rep.prod (Rep.int .i64) Rep.unit)))))) u1_ x_) (.slice 76 ref11_Item.rep v_ x_.Items)) u1_ s_.2.2.2)]) hF ⟨u3, u4, rfl, (h18.facts (.atm .z .nil)).picks (.cons (.s .z) (.cons .z .nil))⟩ (fun k1 hk1 s3 _ w10 hI hF => ?_)
      obtain ⟨u5, u6, rfl, h19⟩ := hI
      refine Run.seq ?_
      refine Run.seq ?_
      refine Run.reg ?_
      refine op (OpS.mv rfl rfl rfl ?_)
      refine op (OpS.mv rfl rfl rfl ?_)
      refine op (OpS.len h19 Try.underlying50 rfl rfl rfl (V.at .z) ?_)
      refine op (OpS.bin rfl rfl rfl rfl rfl ?_)
      refine RunL.nil ?_
      refine Run.slim [(82, .bool (decide (s3.2.1 < (a1.length : Int)))), (1, v1), (10, u5), (11, u6), (13, .int .u16 s3.1), (14, .int .i64 s3.2.1)] ⟨rfl, rfl, rfl, rfl, rfl, rfl, trivial⟩ ?_
      refine Run.ite rfl hF (fun e12 hF => ?_) (fun e12 hF => ?_)
      ·
       refine Run.skip ?_
       refine Run.seq ?_
       refine Run.block ?_
       refine Run.seq ?_
       refine Run.reg ?_
       refine op (OpS.mv rfl rfl rfl ?_)
       refine op (OpS.mv rfl rfl rfl ?_)
       obtain ⟨x2, e13, hF⟩ := bindP_use hF
       refine op (OpS.iptr h19 Try.underlying50 ty56 rfl rfl rfl rfl (V.at .z) e13 (fun u7 h20 => ?_))
       refine op (OpS.load h20 ty56 rfl rfl rfl .z (fun u8 h21 => ?_))
       refine op (OpS.alloc h21 ti56 law11_Do.zr rfl rfl (fun u9 w11 h22 => ?_))
       have h23 := (h22.pick .z).weak
       refine op (OpS.storeB (f' := false) h23 .z PA.z Put.id ty56 rfl rfl rfl (V.at .z) (.inr rfl) (fun w12 h24 => ?_))
       refine RunL.nil ?_
       refine Run.slim [(15, u9), (1, v1), (10, u5), (11, u6), (13, .int .u16 s3.1), (14, .int .i64 s3.2.1)] ⟨rfl, rfl, rfl, rfl, rfl, rfl, trivial⟩ ?_
       refine Run.seq ?_
       refine Run.reg ?_
       refine op (OpS.mv rfl rfl rfl ?_)
       refine op (OpS.as rfl rfl rfl ?_)
       refine RunL.nil ?_
       refine Run.slim [(16, .int .u16 s3.1), (15, u9), (1, v1), (10, u5), (11, u6), (13, .int .u16 s3.1), (14, .int .i64 s3.2.1)] ⟨rfl, rfl, rfl, rfl, rfl, rfl, rfl, trivial⟩ ?_
       refine Run.seq ?_
       refine Run.seq ?_
       refine Run.reg ?_
       refine op (OpS.fbox (o3 := 5) h24 .z PA.z fa56_5 rfl rfl rfl rfl ?_)
       refine op (OpS.loadBb h24 .z PA.a (Get.fld law11_Do.f5) ty4 rfl rfl rfl ?_)
       refine RunL.nil ?_
       refine Run.slim [(91, .bool x2.Wrong), (16, .int .u16 s3.1), (15, u9), (1, v1), (10, u5), (11, u6), (13, .int .u16 s3.1), (14, .int .i64 s3.2.1)] ⟨rfl, rfl, rfl, rfl, rfl, rfl, rfl, rfl, trivial⟩ ?_
       refine Run.join (σ := Int) (fun s_ L_ w_ => L_ = [(1, v1), (10, u5), (11, u6), (13, .int .u16 s3.1), (14, .int .i64 s3.2.1), (15, u9), (16, .int .u16 s_)] ∧ St e w_ [(false, .val (Rep.slice law11_Do.rep) v1 a1)] [(false, .opt (fun x_ => .ex fun v_ => .sep (.box 65 (Rep.iso (fun s : repository_Repository => (s.capacity, s.records, s.last, s.number, s.held, ())) (Rep.prod (Rep.int .i64) (Rep.prod (Rep.raw v_) (Rep.prod (Rep.int .u16) (Rep.prod (Rep.int .u16) (Rep.prod Rep.bool Rep.unit)))))) u5 x_) (.slice 67 repository_record.rep v_ x_.records)) u5 s3.2.2.1), (false, .opt (fun x_ => .ex fun v_ => .sep (.box 74 (Rep.iso (fun s : ref11_Repository => (s.Capacity, s.Items, s.Last, s.Held, s.Given, ())) (Rep.prod (Rep.int .i64) (Rep.prod (Rep.raw v_) (Rep.prod (Rep.int .i64) (Rep.prod Rep.bool (Rep.prod (Rep.int .i64) Rep.unit)))))) u6 x_) (.slice 76 ref11_Item.rep v_ x_.Items)) u6 s3.2.2.2), (false, .box 56 law11_Do.rep u9 x2)]) hF (fun s4 _ w13 hI hF => ?_) (fun j3 hj3 hF => ?_)
       ·
        obtain ⟨rfl, h25⟩ := hI
        refine Run.seq ?_
        refine Run.reg ?_
        refine op (OpS.fbox (o3 := 3) h25 (.s (.s .z)) PA.z fa56_3 rfl rfl rfl rfl ?_)
        refine op (OpS.loadBi h25 (.s (.s .z)) PA.a (Get.fld law11_Do.f3) ty32 rfl rfl rfl ?_)
        refine op (OpS.rem rfl rfl rfl rfl (by decide) ?_)
        refine op (OpS.as rfl rfl rfl ?_)
        refine RunL.nil ?_
        refine Run.slim [(17, .int .u16 (Int.tmod x2.ID 12)), (1, v1), (10, u5), (11, u6), (13, .int .u16 s3.1), (14, .int .i64 s3.2.1), (15, u9), (16, .int .u16 s4)] ⟨rfl, rfl, rfl, rfl, rfl, rfl, rfl, rfl, trivial⟩ ?_
        refine Run.seq ?_
        refine Run.seq ?_
        refine Run.reg ?_
        refine op (OpS.fbox (o3 := 5) h25 (.s (.s .z)) PA.z fa56_5 rfl rfl rfl rfl ?_)
        refine op (OpS.loadBb h25 (.s (.s .z)) PA.a (Get.fld law11_Do.f5) ty4 rfl rfl rfl ?_)
        refine op (OpS.mv rfl rfl rfl ?_)
        refine RunL.join (σ := Bool) (fun s_ L_ w_ => L_ = [(1, v1), (10, u5), (11, u6), (13, .int .u16 s3.1), (14, .int .i64 s3.2.1), (15, u9), (16, .int .u16 s4), (17, .int .u16 (Int.tmod x2.ID 12)), (103, .bool s_)] ∧ St e w_ [(false, .val (Rep.slice law11_Do.rep) v1 a1)] [(false, .opt (fun x_ => .ex fun v_ => .sep (.box 65 (Rep.iso (fun s : repository_Repository => (s.capacity, s.records, s.last, s.number, s.held, ())) (Rep.prod (Rep.int .i64) (Rep.prod (Rep.raw v_) (Rep.prod (Rep.int .u16) (Rep.prod (Rep.int .u16) (Rep.prod Rep.bool Rep.unit)))))) u5 x_) (.slice 67 repository_record.rep v_ x_.records)) u5 s3.2.2.1), (false, .opt (fun x_ => .ex fun v_ => .sep (.box 74 (Rep.iso (fun s : ref11_Repository => (s.Capacity, s.Items, s.Last, s.Held, s.Given, ())) (Rep.prod (Rep.int .i64) (Rep.prod (Rep.raw v_) (Rep.prod (Rep.int .i64) (Rep.prod Rep.bool (Rep.prod (Rep.int .i64) Rep.unit)))))) u6 x_) (.slice 76 ref11_Item.rep v_ x_.Items)) u6 s3.2.2.2), (false, .box 56 law11_Do.rep u9 x2)]) hF (fun s5 _ w14 hI hF => ?_) (fun j4 hj4 hF => ?_)
        ·
         obtain ⟨rfl, h26⟩ := hI
         refine Run.join (σ := Int) (fun s_ L_ w_ => L_ = [(1, v1), (10, u5), (11, u6), (13, .int .u16 s3.1), (14, .int .i64 s3.2.1), (15, u9), (16, .int .u16 s4), (17, .int .u16 s_)] ∧ St e w_ [(false, .val (Rep.slice law11_Do.rep) v1 a1)] [(false, .opt (fun x_ => .ex fun v_ => .sep (.box 65 (Rep.iso (fun s : repository_Repository => (s.capacity, s.records, s.last, s.number, s.held, ())) (Rep.prod (Rep.int .i64) (Rep.prod (Rep.raw v_) (Rep.prod (Rep.int .u16) (Rep.prod (Rep.int .u16) (Rep.prod Rep.bool Rep.unit)))))) u5 x_) (.slice 67 repository_record.rep v_ x_.records)) u5 s3.2.2.1), (false, .opt (fun x_ => .ex fun v_ => .sep (.box 74 (Rep.iso (fun s : ref11_Repository => (s.Capacity, s.Items, s.Last, s.Held, s.Given, ())) (Rep.prod (Rep.int .i64) (Rep.prod (Rep.raw v_) (Rep.prod (Rep.int .i64) (Rep.prod Rep.bool (Rep.prod (Rep.int .i64) Rep.unit)))))) u6 x_) (.slice 76 ref11_Item.rep v_ x_.Items)) u6 s3.2.2.2), (false, .box 56 law11_Do.rep u9 x2)]) hF (fun s6 _ w15 hI hF => ?_) (fun j5 hj5 hF => ?_)
         ·
          obtain ⟨rfl, h27⟩ := hI
          refine Run.seq ?_
          refine Run.seq ?_
          refine Run.reg ?_
          refine op (OpS.fbox (o3 := 0) h27 (.s (.s .z)) PA.z fa56_0 rfl rfl rfl rfl ?_)
          refine op (OpS.loadBi h27 (.s (.s .z)) PA.a (Get.fld law11_Do.f0) ty3 rfl rfl rfl ?_)
          obtain ⟨y8, e14, hF⟩ := bindP_use hF
          refine op (OpS.callP h27 Try.func12 rfl rfl rfl rfl (vs := [.int .i64 x2.Kind, .int .i64 6]) rfl (made_Mod_ok e14) .nil ?_)
          rintro _ w16 _ _ _ ⟨rfl, rfl, rfl, rfl⟩ h28
          have h29 := h28 rfl rfl
          simp only [List.cons_append, List.nil_append] at h29
          refine RunL.nil ?_
          refine Run.slim [(108, .int .i64 y8), (1, v1), (10, u5), (11, u6), (13, .int .u16 s3.1), (14, .int .i64 s3.2.1), (15, u9), (16, .int .u16 s4), (17, .int .u16 s6)] ⟨rfl, rfl, rfl, rfl, rfl, rfl, rfl, rfl, rfl, trivial⟩ ?_
          refine Run.block ?_
          refine Run.seq ?_
          refine Run.reg ?_
          refine op (OpS.bin rfl rfl rfl rfl rfl ?_)
          refine op (OpS.as rfl rfl rfl ?_)
          obtain ⟨x3, e15, hF⟩ := letP_use hF
          refine RunL.nameb e15 ?_
          refine RunL.nil ?_
          refine Run.slim [(116, .bool x3), (108, .int .i64 y8), (1, v1), (10, u5), (11, u6), (13, .int .u16 s3.1), (14, .int .i64 s3.2.1), (15, u9), (16, .int .u16 s4), (17, .int .u16 s6)] ⟨rfl, rfl, rfl, rfl, rfl, rfl, rfl, rfl, rfl, rfl, trivial⟩ ?_
          refine Run.join (σ := (Int × repository_Repository × ref11_Repository)) (fun s_ L_ w_ => ∃ u0_ u1_ : Value, L_ = [(1, v1), (10, u5), (11, u6), (13, .int .u16 s_.1), (14, .int .i64 s3.2.1)] ∧ St e w_ [(false, .val (Rep.slice law11_Do.rep) v1 a1)] [(false, .box 65 (Rep.iso (fun s : repository_Repository => (s.capacity, s.records, s.last, s.number, s.held, ())) (Rep.prod (Rep.int .i64) (Rep.prod (Rep.raw u0_) (Rep.prod (Rep.int .u16) (Rep.prod (Rep.int .u16) (Rep.prod Rep.bool Rep.unit)))))) u5 s_.2.1), (false, .box 74 (Rep.iso (fun s : ref11_Repository => (s.Capacity, s.Items, s.Last, s.Held, s.Given, ())) (Rep.prod (Rep.int .i64) (Rep.prod (Rep.raw u1_) (Rep.prod (Rep.int .i64) (Rep.prod Rep.bool (Rep.prod (Rep.int .i64) Rep.unit)))))) u6 s_.2.2), (false, .slice 67 repository_record.rep u0_ s_.2.1.records), (false, .slice 76 ref11_Item.rep u1_ s_.2.2.Items)]) hF (fun s7 _ w17 hI hF => ?_) (fun j6 hj6 hF => ?_)
          ·
           obtain ⟨u10, u11, rfl, h30⟩ := hI
           refine Run.endBlock ?_
           refine Run.seq ?_
           refine Run.reg ?_
           refine op (OpS.mv rfl rfl rfl ?_)
           obtain ⟨y9, e16, hF⟩ := bindP_use hF
           have h31 := h30.front (.cons .z (.cons (.s .z) .nil))
           refine op (OpS.callO h31 Try.func19 rfl rfl rfl rfl (vs := [u5]) rfl (repository_Repository_Free_ok e16) rfl .nil ?_)
           rintro _ w18 _ _ _ ⟨rfl, rfl, rfl, rfl⟩ h32
           have h33 := h32
           simp only [List.cons_append, List.nil_append] at h33
           refine op (OpS.mv rfl rfl rfl ?_)
           obtain ⟨y10, e17, hF⟩ := bindP_use hF
           have h34 := h33.front (.cons (.s (.s .z)) (.cons (.s (.s .z)) .nil))
           refine op (OpS.callO h34 Try.func30 rfl rfl rfl rfl (vs := [u6]) rfl (ref11_Repository_Free_ok e17) rfl .nil ?_)
           rintro _ w19 _ _ _ ⟨rfl, rfl, rfl, rfl⟩ h35
           have h36 := h35
           simp only [List.cons_append, List.nil_append] at h36
           refine op (OpS.bin rfl rfl rfl rfl rfl ?_)
           refine op (OpS.mv rfl rfl rfl ?_)
           refine RunL.join (σ := Bool) (fun s_ L_ w_ => L_ = [(1, v1), (10, u5), (11, u6), (13, .int .u16 s7.1), (14, .int .i64 s3.2.1), (250, .bool s_)] ∧ St e w_ [(false, .val (Rep.slice law11_Do.rep) v1 a1)] [(false, .box 65 (Rep.iso (fun s : repository_Repository => (s.capacity, s.records, s.last, s.number, s.held, ())) (Rep.prod (Rep.int .i64) (Rep.prod (Rep.raw u10) (Rep.prod (Rep.int .u16) (Rep.prod (Rep.int .u16) (Rep.prod Rep.bool Rep.unit)))))) u5 s7.2.1), (false, .box 74 (Rep.iso (fun s : ref11_Repository => (s.Capacity, s.Items, s.Last, s.Held, s.Given, ())) (Rep.prod (Rep.int .i64) (Rep.prod (Rep.raw u11) (Rep.prod (Rep.int .i64) (Rep.prod Rep.bool (Rep.prod (Rep.int .i64) Rep.unit)))))) u6 s7.2.2), (false, .slice 67 repository_record.rep u10 s7.2.1.records), (false, .slice 76 ref11_Item.rep u11 s7.2.2.Items)]) hF (fun s8 _ w20 hI hF => ?_) (fun j7 hj7 hF => ?_)
           ·
            obtain ⟨rfl, h37⟩ := hI
            refine Run.ite rfl hF (fun e18 hF => ?_) (fun e18 hF => ?_)
            ·
             refine Run.seq ?_
             refine Run.reg ?_
             refine op (OpS.as rfl rfl rfl ?_)
             refine RunL.nil ?_
             refine Run.slim [(4, .bool false)] ⟨rfl, trivial⟩ ?_
             refine Run.retP rfl (.tmp rfl .nil) ?_
             cases hF
             exact Post.mk' ⟨rfl, rfl, rfl, rfl⟩ (h37.picks .nil) .nil
            ·
             refine Run.skip ?_
             refine Run.endBlock ?_
             refine Run.reg ?_
             refine op (OpS.mv rfl rfl rfl ?_)
             refine op (OpS.bin rfl rfl rfl rfl rfl ?_)
             refine op (OpS.as rfl rfl rfl ?_)
             obtain ⟨x4, e19, hF⟩ := letP_use hF
             refine RunL.name e19 ?_
             refine RunL.nil ?_
             refine Run.slim [(14, .int .i64 x4), (1, v1), (10, u5), (11, u6), (13, .int .u16 s7.1)] ⟨rfl, rfl, rfl, rfl, rfl, trivial⟩ ?_
             have h38 := h37.front (.cons .z (.cons (.s .z) .nil))
             have h39 := St.some (H := (fun x_ => .ex fun v_ => .sep (.box 65 (Rep.iso (fun s : repository_Repository => (s.capacity, s.records, s.last, s.number, s.held, ())) (Rep.prod (Rep.int .i64) (Rep.prod (Rep.raw v_) (Rep.prod (Rep.int .u16) (Rep.prod (Rep.int .u16) (Rep.prod Rep.bool Rep.unit)))))) u5 x_) (.slice 67 repository_record.rep v_ x_.records))) (q := u5) (x := s7.2.1) (St.ex (H := fun v_ => .sep (.box 65 (Rep.iso (fun s : repository_Repository => (s.capacity, s.records, s.last, s.number, s.held, ())) (Rep.prod (Rep.int .i64) (Rep.prod (Rep.raw v_) (Rep.prod (Rep.int .u16) (Rep.prod (Rep.int .u16) (Rep.prod Rep.bool Rep.unit)))))) u5 s7.2.1) (.slice 67 repository_record.rep v_ s7.2.1.records)) u10 (St.sep h38))
             have h40 := h39.front (.cons (.s .z) (.cons (.s .z) .nil))
             have h41 := St.some (H := (fun x_ => .ex fun v_ => .sep (.box 74 (Rep.iso (fun s : ref11_Repository => (s.Capacity, s.Items, s.Last, s.Held, s.Given, ())) (Rep.prod (Rep.int .i64) (Rep.prod (Rep.raw v_) (Rep.prod (Rep.int .i64) (Rep.prod Rep.bool (Rep.prod (Rep.int .i64) Rep.unit)))))) u6 x_) (.slice 76 ref11_Item.rep v_ x_.Items))) (q := u6) (x := s7.2.2) (St.ex (H := fun v_ => .sep (.box 74 (Rep.iso (fun s : ref11_Repository => (s.Capacity, s.Items, s.Last, s.Held, s.Given, ())) (Rep.prod (Rep.int .i64) (Rep.prod (Rep.raw v_) (Rep.prod (Rep.int .i64) (Rep.prod Rep.bool (Rep.prod (Rep.int .i64) Rep.unit)))))) u6 s7.2.2) (.slice 76 ref11_Item.rep v_ s7.2.2.Items)) u11 (St.sep h40))
             refine Run.slim [(1, v1), (10, u5), (11, u6), (13, .int .u16 s7.1), (14, .int .i64 x4)] ⟨rfl, rfl, rfl, rfl, rfl, trivial⟩ ?_
             exact hk1 (s7.1, x4, (some s7.2.1), (some s7.2.2)) _ _ ⟨u5, u6, rfl, (h41.facts (.atm .z .nil)).picks (.cons (.s .z) (.cons .z .nil))⟩ hF
           ·
            refine RunL.caseb hF (fun e20 hF => ?_) (fun e20 hF => ?_)
            ·
             refine op (OpS.pass rfl rfl rfl ?_)
             refine op (OpS.pass rfl rfl rfl ?_)
             refine op (OpS.pass rfl rfl rfl ?_)
             refine op (OpS.pass rfl rfl rfl ?_)
             refine op (OpS.pass rfl rfl rfl ?_)
             refine op (OpS.pass rfl rfl rfl ?_)
             refine op (OpS.pick rfl rfl rfl rfl ?_)
             refine RunL.nil ?_
             refine Run.slim [(250, .bool true), (1, v1), (10, u5), (11, u6), (13, .int .u16 s7.1), (14, .int .i64 s3.2.1)] ⟨rfl, rfl, rfl, rfl, rfl, rfl, trivial⟩ ?_
             refine Run.slim [(1, v1), (10, u5), (11, u6), (13, .int .u16 s7.1), (14, .int .i64 s3.2.1), (250, .bool true)] ⟨rfl, rfl, rfl, rfl, rfl, rfl, trivial⟩ ?_
             exact hj7 (true) _ _ ⟨rfl, (h36.facts (.atm .z .nil)).picks (.cons (.s (.s .z)) (.cons .z (.cons (.s .z) (.cons .z .nil))))⟩ hF
            ·
             refine op (OpS.mv rfl rfl rfl ?_)
             obtain ⟨y11, e21, hF⟩ := bindP_use hF
             have h42 := h36.front (.cons (.s (.s .z)) (.cons (.s (.s .z)) .nil))
             refine op (OpS.callO h42 Try.func11 rfl rfl rfl rfl (vs := [u5]) rfl (repository_Repository_IDs_ok e21) rfl .nil ?_)
             rintro u12 w21 _ _ _ ⟨_, rfl, rfl, rfl, rfl⟩ h43
             have h44 := h43
             simp only [List.cons_append, List.nil_append] at h44
             refine op (OpS.mv rfl rfl rfl ?_)
             obtain ⟨y12, e22, hF⟩ := bindP_use hF
             have h45 := h44.front (.cons (.s (.s (.s .z))) (.cons (.s (.s (.s .z))) .nil))
             refine op (OpS.callO h45 Try.func32 rfl rfl rfl rfl (vs := [u6]) rfl (ref11_Repository_IDs_ok e22) rfl .nil ?_)
             rintro u13 w22 _ _ _ ⟨_, rfl, rfl, rfl, rfl⟩ h46
             have h47 := h46
             simp only [List.cons_append, List.nil_append] at h47
             obtain ⟨y13, e23, hF⟩ := bindP_use hF
             refine op (OpS.callP h47 Try.func31 rfl rfl rfl rfl (vs := [u12, u13]) rfl (law11_sameIDs_ok e23) (.own (.s (.s (.s .z))) (.own .z .nil)) ?_)
             rintro _ w23 _ _ _ ⟨rfl, rfl, rfl, rfl⟩ h48
             have h49 := h48 rfl rfl
             simp only [List.cons_append, List.nil_append] at h49
             refine op (OpS.not rfl rfl rfl ?_)
             refine op (OpS.pick rfl rfl rfl rfl ?_)
             refine RunL.nil ?_
             refine Run.slim [(250, .bool (!y13)), (1, v1), (10, u5), (11, u6), (13, .int .u16 s7.1), (14, .int .i64 s3.2.1)] ⟨rfl, rfl, rfl, rfl, rfl, rfl, trivial⟩ ?_
             refine Run.slim [(1, v1), (10, u5), (11, u6), (13, .int .u16 s7.1), (14, .int .i64 s3.2.1), (250, .bool (!y13))] ⟨rfl, rfl, rfl, rfl, rfl, rfl, trivial⟩ ?_
             exact hj7 (!y13) _ _ ⟨rfl, (h49.facts (.atm .z .nil)).picks (.cons (.s (.s (.s (.s .z)))) (.cons (.s .z) (.cons (.s (.s (.s .z))) (.cons (.s .z) .nil))))⟩ hF
          ·
           refine Run.ite rfl hF (fun e24 hF => ?_) (fun e24 hF => ?_)
           ·
            refine Run.seq ?_
            refine Run.reg ?_
            refine op (OpS.mv rfl rfl rfl ?_)
            refine op (OpS.fbox (o3 := 6) h29 (.s (.s .z)) PA.z fa56_6 rfl rfl rfl rfl ?_)
            refine op (OpS.loadB h29 (.s (.s .z)) PA.a (Get.fld law11_Do.f6) ty34 rfl rfl rfl (fun u14 h50 => ?_))
            obtain ⟨x5, e25, hF⟩ := bindP_use hF
            have h51 := St.unopt (h50.pick .z) e25
            obtain ⟨u15, h52⟩ := h51.one1
            obtain ⟨y14, e26, hF⟩ := bindP_use hF
            have h53 := h52.front (.cons .z (.cons .z .nil))
            refine op (OpS.callO h53 Try.func18 rfl rfl rfl rfl (vs := [u5, u14]) rfl (repository_Repository_Add_ok e26) rfl (.cons (f := false) (V.at .z) .nil) ?_)
            rintro _ w24 _ _ _ ⟨u16, rfl, rfl, rfl, rfl⟩ h54
            have h55 := h54
            simp only [List.cons_append, List.nil_append] at h55
            refine op (OpS.mv rfl rfl rfl ?_)
            refine op (OpS.ext rfl rfl rfl rfl ?_)
            refine op (OpS.ext rfl rfl rfl rfl ?_)
            refine op (OpS.as rfl rfl rfl ?_)
            refine op (OpS.as rfl rfl rfl ?_)
            refine RunL.nil ?_
            refine Run.slim [(19, .int .i64 y14.2.1), (18, .int .u16 y14.1), (1, v1), (10, u5), (11, u6), (13, .int .u16 s3.1), (14, .int .i64 s3.2.1), (15, u9)] ⟨rfl, rfl, rfl, rfl, rfl, rfl, rfl, rfl, trivial⟩ ?_
            refine Run.seq ?_
            refine Run.reg ?_
            refine op (OpS.mv rfl rfl rfl ?_)
            refine op (OpS.fbox (o3 := 6) h55 (.s (.s (.s .z))) PA.z fa56_6 rfl rfl rfl rfl ?_)
            refine op (OpS.loadB h55 (.s (.s (.s .z))) PA.a (Get.fld law11_Do.f6) ty34 rfl rfl rfl (fun u17 h56 => ?_))
            obtain ⟨x6, e27, hF⟩ := bindP_use hF
            have h57 := St.unopt (h56.pick (.s (.s .z))) e27
            obtain ⟨u18, h58⟩ := h57.one1
            obtain ⟨y15, e28, hF⟩ := bindP_use hF
            have h59 := h58.front (.cons .z (.cons .z .nil))
            refine op (OpS.callO h59 Try.func24 rfl rfl rfl rfl (vs := [u6, u17]) rfl (ref11_Repository_Add_ok e28) rfl (.cons (f := false) (V.at .z) .nil) ?_)
            rintro _ w25 _ _ _ ⟨u19, rfl, rfl, rfl, rfl⟩ h60
            have h61 := h60
            simp only [List.cons_append, List.nil_append] at h61
            refine op (OpS.mv rfl rfl rfl ?_)
            refine op (OpS.ext rfl rfl rfl rfl ?_)
            refine op (OpS.ext rfl rfl rfl rfl ?_)
            refine op (OpS.as rfl rfl rfl ?_)
            refine op (OpS.as rfl rfl rfl ?_)
            refine RunL.nil ?_
            refine Run.slim [(21, .int .i64 y15.2.1), (20, .int .u16 y15.1), (19, .int .i64 y14.2.1), (18, .int .u16 y14.1), (1, v1), (10, u5), (11, u6), (13, .int .u16 s3.1), (14, .int .i64 s3.2.1)] ⟨rfl, rfl, rfl, rfl, rfl, rfl, rfl, rfl, rfl, trivial⟩ ?_
            refine Run.seq ?_
            refine Run.reg ?_
            refine op (OpS.mv rfl rfl rfl ?_)
            refine op (OpS.mv rfl rfl rfl ?_)
            refine op (OpS.bin rfl rfl rfl rfl rfl ?_)
            refine op (OpS.mv rfl rfl rfl ?_)
            refine RunL.join (σ := Bool) (fun s_ L_ w_ => L_ = [(1, v1), (10, u5), (11, u6), (13, .int .u16 s3.1), (14, .int .i64 s3.2.1), (139, .bool s_)] ∧ St e w_ [(false, .val (Rep.slice law11_Do.rep) v1 a1)] [(false, .box 65 (Rep.iso (fun s : repository_Repository => (s.capacity, s.records, s.last, s.number, s.held, ())) (Rep.prod (Rep.int .i64) (Rep.prod (Rep.raw u16) (Rep.prod (Rep.int .u16) (Rep.prod (Rep.int .u16) (Rep.prod Rep.bool Rep.unit)))))) u5 y14.2.2), (false, .box 74 (Rep.iso (fun s : ref11_Repository => (s.Capacity, s.Items, s.Last, s.Held, s.Given, ())) (Rep.prod (Rep.int .i64) (Rep.prod (Rep.raw u19) (Rep.prod (Rep.int .i64) (Rep.prod Rep.bool (Rep.prod (Rep.int .i64) Rep.unit)))))) u6 y15.2.2), (false, .slice 67 repository_record.rep u16 y14.2.2.records), (false, .slice 76 ref11_Item.rep u19 y15.2.2.Items)]) hF (fun s9 _ w26 hI hF => ?_) (fun j8 hj8 hF => ?_)
            ·
             obtain ⟨rfl, h62⟩ := hI
             refine Run.ite rfl hF (fun e29 hF => ?_) (fun e29 hF => ?_)
             ·
              refine Run.seq ?_
              refine Run.reg ?_
              refine op (OpS.as rfl rfl rfl ?_)
              refine RunL.nil ?_
              refine Run.slim [(4, .bool false)] ⟨rfl, trivial⟩ ?_
              refine Run.retP rfl (.tmp rfl .nil) ?_
              cases hF
              exact Post.mk' ⟨rfl, rfl, rfl, rfl⟩ (h62.picks .nil) .nil
             ·
              refine Run.skip ?_
              refine Run.slim [(1, v1), (10, u5), (11, u6), (13, .int .u16 s3.1), (14, .int .i64 s3.2.1)] ⟨rfl, rfl, rfl, rfl, rfl, trivial⟩ ?_
              exact hj6 (s3.1, y14.2.2, y15.2.2) _ _ ⟨u16, u19, rfl, (h62.facts (.atm .z .nil)).picks (.cons .z (.cons .z (.cons .z (.cons .z .nil))))⟩ hF
            ·
             refine RunL.caseb hF (fun e30 hF => ?_) (fun e30 hF => ?_)
             ·
              refine op (OpS.pass rfl rfl rfl ?_)
              refine op (OpS.pass rfl rfl rfl ?_)
              refine op (OpS.pass rfl rfl rfl ?_)
              refine op (OpS.pick rfl rfl rfl rfl ?_)
              refine RunL.nil ?_
              refine Run.slim [(139, .bool true), (1, v1), (10, u5), (11, u6), (13, .int .u16 s3.1), (14, .int .i64 s3.2.1)] ⟨rfl, rfl, rfl, rfl, rfl, rfl, trivial⟩ ?_
              refine Run.slim [(1, v1), (10, u5), (11, u6), (13, .int .u16 s3.1), (14, .int .i64 s3.2.1), (139, .bool true)] ⟨rfl, rfl, rfl, rfl, rfl, rfl, trivial⟩ ?_
              exact hj8 (true) _ _ ⟨rfl, (h61.facts (.atm (.s (.s .z)) .nil)).picks (.cons (.s (.s .z)) (.cons .z (.cons (.s .z) (.cons .z .nil))))⟩ hF
             ·
              refine op (OpS.mv rfl rfl rfl ?_)
              refine op (OpS.mv rfl rfl rfl ?_)
              refine op (OpS.bin rfl rfl rfl rfl rfl ?_)
              refine op (OpS.pick rfl rfl rfl rfl ?_)
              refine RunL.nil ?_
              refine Run.slim [(139, .bool (y14.2.1 != y15.2.1)), (1, v1), (10, u5), (11, u6), (13, .int .u16 s3.1), (14, .int .i64 s3.2.1)] ⟨rfl, rfl, rfl, rfl, rfl, rfl, trivial⟩ ?_
              refine Run.slim [(1, v1), (10, u5), (11, u6), (13, .int .u16 s3.1), (14, .int .i64 s3.2.1), (139, .bool (y14.2.1 != y15.2.1))] ⟨rfl, rfl, rfl, rfl, rfl, rfl, trivial⟩ ?_
              exact hj8 (y14.2.1 != y15.2.1) _ _ ⟨rfl, (h61.facts (.atm (.s (.s .z)) .nil)).picks (.cons (.s (.s .z)) (.cons .z (.cons (.s .z) (.cons .z .nil))))⟩ hF
           ·
            refine Run.seq ?_
            refine Run.reg ?_
            refine op (OpS.bin rfl rfl rfl rfl rfl ?_)
            refine op (OpS.as rfl rfl rfl ?_)
            obtain ⟨x7, e31, hF⟩ := letP_use hF
            refine RunL.nameb e31 ?_
            refine RunL.nil ?_
            refine Run.slim [(140, .bool x7), (108, .int .i64 y8), (1, v1), (10, u5), (11, u6), (13, .int .u16 s3.1), (14, .int .i64 s3.2.1), (15, u9), (16, .int .u16 s4), (17, .int .u16 s6)] ⟨rfl, rfl, rfl, rfl, rfl, rfl, rfl, rfl, rfl, rfl, trivial⟩ ?_
            refine Run.ite rfl hF (fun e32 hF => ?_) (fun e32 hF => ?_)
            ·
             refine Run.seq ?_
             refine Run.reg ?_
             refine op (OpS.mv rfl rfl rfl ?_)
             obtain ⟨x8, e33, hF⟩ := bindP_use hF
             have h63 := St.unopt (h29.pick (.s .z)) e33
             obtain ⟨u20, h64⟩ := h63.one1
             obtain ⟨y16, e34, hF⟩ := bindP_use hF
             have h65 := h64.front (.cons .z (.cons .z .nil))
             refine op (OpS.callO h65 Try.func25 rfl rfl rfl rfl (vs := [u6]) rfl (ref11_Repository_Reserve_ok e34) rfl .nil ?_)
             rintro _ w27 _ _ _ ⟨u21, rfl, rfl, rfl, rfl⟩ h66
             have h67 := h66
             simp only [List.cons_append, List.nil_append] at h67
             refine op (OpS.as rfl rfl rfl ?_)
             refine RunL.nil ?_
             refine Run.slim [(13, .int .u16 y16.1), (1, v1), (10, u5), (11, u6), (14, .int .i64 s3.2.1)] ⟨rfl, rfl, rfl, rfl, rfl, trivial⟩ ?_
             refine Run.seq ?_
             refine Run.reg ?_
             refine op (OpS.mv rfl rfl rfl ?_)
             obtain ⟨x9, e35, hF⟩ := bindP_use hF
             have h68 := St.unopt (h67.pick (.s (.s .z))) e35
             obtain ⟨u22, h69⟩ := h68.one1
             obtain ⟨y17, e36, hF⟩ := bindP_use hF
             have h70 := h69.front (.cons .z (.cons .z .nil))
             refine op (OpS.callO h70 Try.func13 rfl rfl rfl rfl (vs := [u5]) rfl (repository_Repository_Reserve_ok e36) rfl .nil ?_)
             rintro _ w28 _ _ _ ⟨u23, rfl, rfl, rfl, rfl⟩ h71
             have h72 := h71
             simp only [List.cons_append, List.nil_append] at h72
             refine op (OpS.mv rfl rfl rfl ?_)
             refine op (OpS.bin rfl rfl rfl rfl rfl ?_)
             refine RunL.nil ?_
             refine Run.slim [(147, .bool (y17.1 != y16.1)), (13, .int .u16 y16.1), (1, v1), (10, u5), (11, u6), (14, .int .i64 s3.2.1)] ⟨rfl, rfl, rfl, rfl, rfl, rfl, trivial⟩ ?_
             refine Run.ite rfl hF (fun e37 hF => ?_) (fun e37 hF => ?_)
             ·
              refine Run.seq ?_
              refine Run.reg ?_
              refine op (OpS.as rfl rfl rfl ?_)
              refine RunL.nil ?_
              refine Run.slim [(4, .bool false)] ⟨rfl, trivial⟩ ?_
              refine Run.retP rfl (.tmp rfl .nil) ?_
              cases hF
              exact Post.mk' ⟨rfl, rfl, rfl, rfl⟩ (h72.picks .nil) .nil
             ·
              refine Run.skip ?_
              refine Run.slim [(1, v1), (10, u5), (11, u6), (13, .int .u16 y16.1), (14, .int .i64 s3.2.1)] ⟨rfl, rfl, rfl, rfl, rfl, trivial⟩ ?_
              exact hj6 (y16.1, y17.2, y16.2) _ _ ⟨u23, u21, rfl, (h72.facts (.atm .z .nil)).picks (.cons .z (.cons (.s .z) (.cons .z (.cons .z .nil))))⟩ hF
            ·
             refine Run.seq ?_
             refine Run.reg ?_
             refine op (OpS.bin rfl rfl rfl rfl rfl ?_)
             refine op (OpS.as rfl rfl rfl ?_)
             obtain ⟨x10, e38, hF⟩ := letP_use hF
             refine RunL.nameb e38 ?_
             refine RunL.nil ?_
             refine Run.slim [(148, .bool x10), (108, .int .i64 y8), (1, v1), (10, u5), (11, u6), (13, .int .u16 s3.1), (14, .int .i64 s3.2.1), (15, u9), (16, .int .u16 s4), (17, .int .u16 s6)] ⟨rfl, rfl, rfl, rfl, rfl, rfl, rfl, rfl, rfl, rfl, trivial⟩ ?_
             refine Run.ite rfl hF (fun e39 hF => ?_) (fun e39 hF => ?_)
             ·
              refine Run.seq ?_
              refine Run.reg ?_
              refine op (OpS.mv rfl rfl rfl ?_)
              refine op (OpS.mv rfl rfl rfl ?_)
              obtain ⟨x11, e40, hF⟩ := bindP_use hF
              have h73 := St.unopt (h29.pick .z) e40
              obtain ⟨u24, h74⟩ := h73.one1
              obtain ⟨y18, e41, hF⟩ := bindP_use hF
              have h75 := h74.front (.cons .z (.cons .z .nil))
              refine op (OpS.callO h75 Try.func15 rfl rfl rfl rfl (vs := [u5, .int .u16 s6]) rfl (repository_Repository_Get_ok e41) rfl .nil ?_)
              rintro _ w29 _ _ _ ⟨u25, rfl, rfl, rfl, rfl⟩ h76
              have h77 := h76
              simp only [List.cons_append, List.nil_append] at h77
              refine op (OpS.mv rfl rfl rfl ?_)
              refine op (OpS.ext rfl rfl rfl rfl ?_)
              refine op (OpS.ext rfl rfl rfl rfl ?_)
              refine op (OpS.ext rfl rfl rfl rfl ?_)
              refine op (OpS.as rfl rfl rfl ?_)
              have h78 := (h77.pick .z).freeze
              refine op (OpS.as rfl rfl rfl ?_)
              refine op (OpS.as rfl rfl rfl ?_)
              refine RunL.nil ?_
              refine Run.slim [(24, .int .i64 y18.2.2), (23, .int .u16 y18.2.1), (22, u25), (1, v1), (10, u5), (11, u6), (13, .int .u16 s3.1), (14, .int .i64 s3.2.1), (17, .int .u16 s6)] ⟨rfl, rfl, rfl, rfl, rfl, rfl, rfl, rfl, rfl, trivial⟩ ?_
              refine Run.seq ?_
              refine Run.reg ?_
              refine op (OpS.mv rfl rfl rfl ?_)
              refine op (OpS.mv rfl rfl rfl ?_)
              obtain ⟨x12, e42, hF⟩ := bindP_use hF
              have h79 := St.unopt (h78.pick (.s (.s .z))) e42
              obtain ⟨u26, h80⟩ := h79.one1
              obtain ⟨y19, e43, hF⟩ := bindP_use hF
              have h81 := h80.front (.cons .z (.cons .z .nil))
              refine op (OpS.callO h81 Try.func26 rfl rfl rfl rfl (vs := [u6, .int .u16 s6]) rfl (ref11_Repository_Get_ok e43) rfl .nil ?_)
              rintro _ w30 _ _ _ ⟨u27, rfl, rfl, rfl, rfl⟩ h82
              have h83 := h82
              simp only [List.cons_append, List.nil_append] at h83
              refine op (OpS.mv rfl rfl rfl ?_)
              refine op (OpS.ext rfl rfl rfl rfl ?_)
              refine op (OpS.ext rfl rfl rfl rfl ?_)
              refine op (OpS.ext rfl rfl rfl rfl ?_)
              refine op (OpS.as rfl rfl rfl ?_)
              have h84 := (h83.pick .z).freeze
              refine op (OpS.as rfl rfl rfl ?_)
              refine op (OpS.as rfl rfl rfl ?_)
              refine RunL.nil ?_
              refine Run.slim [(27, .int .i64 y19.2.2), (26, .int .u16 y19.2.1), (25, u27), (24, .int .i64 y18.2.2), (23, .int .u16 y18.2.1), (22, u25), (1, v1), (10, u5), (11, u6), (13, .int .u16 s3.1), (14, .int .i64 s3.2.1)] ⟨rfl, rfl, rfl, rfl, rfl, rfl, rfl, rfl, rfl, rfl, rfl, trivial⟩ ?_
              refine Run.seq ?_
              refine Run.reg ?_
              refine op (OpS.mv rfl rfl rfl ?_)
              refine op (OpS.mv rfl rfl rfl ?_)
              refine op (OpS.bin rfl rfl rfl rfl rfl ?_)
              refine op (OpS.mv rfl rfl rfl ?_)
              refine RunL.join (σ := Bool) (fun s_ L_ w_ => L_ = [(1, v1), (10, u5), (11, u6), (13, .int .u16 s3.1), (14, .int .i64 s3.2.1), (177, .bool s_)] ∧ St e w_ [(false, .val (Rep.slice law11_Do.rep) v1 a1)] [(false, .box 65 (Rep.iso (fun s : repository_Repository => (s.capacity, s.records, s.last, s.number, s.held, ())) (Rep.prod (Rep.int .i64) (Rep.prod (Rep.raw u24) (Rep.prod (Rep.int .u16) (Rep.prod (Rep.int .u16) (Rep.prod Rep.bool Rep.unit)))))) u5 x11), (false, .box 74 (Rep.iso (fun s : ref11_Repository => (s.Capacity, s.Items, s.Last, s.Held, s.Given, ())) (Rep.prod (Rep.int .i64) (Rep.prod (Rep.raw u26) (Rep.prod (Rep.int .i64) (Rep.prod Rep.bool (Rep.prod (Rep.int .i64) Rep.unit)))))) u6 x12), (false, .slice 67 repository_record.rep u24 x11.records), (false, .slice 76 ref11_Item.rep u26 x12.Items)]) hF (fun s10 _ w31 hI hF => ?_) (fun j9 hj9 hF => ?_)
              ·
               obtain ⟨rfl, h85⟩ := hI
               refine Run.ite rfl hF (fun e44 hF => ?_) (fun e44 hF => ?_)
               ·
                refine Run.seq ?_
                refine Run.reg ?_
                refine op (OpS.as rfl rfl rfl ?_)
                refine RunL.nil ?_
                refine Run.slim [(4, .bool false)] ⟨rfl, trivial⟩ ?_
                refine Run.retP rfl (.tmp rfl .nil) ?_
                cases hF
                exact Post.mk' ⟨rfl, rfl, rfl, rfl⟩ (h85.picks .nil) .nil
               ·
                refine Run.skip ?_
                refine Run.slim [(1, v1), (10, u5), (11, u6), (13, .int .u16 s3.1), (14, .int .i64 s3.2.1)] ⟨rfl, rfl, rfl, rfl, rfl, trivial⟩ ?_
                exact hj6 (s3.1, x11, x12) _ _ ⟨u24, u26, rfl, (h85.facts (.atm .z .nil)).picks (.cons .z (.cons .z (.cons .z (.cons .z .nil))))⟩ hF
              ·
               refine RunL.caseb hF (fun e45 hF => ?_) (fun e45 hF => ?_)
               ·
                refine op (OpS.pass rfl rfl rfl ?_)
                refine op (OpS.pass rfl rfl rfl ?_)
                refine op (OpS.pass rfl rfl rfl ?_)
                refine op (OpS.pick rfl rfl rfl rfl ?_)
                refine op (OpS.mv rfl rfl rfl ?_)
                refine op (OpS.pass rfl rfl rfl ?_)
                refine op (OpS.pass rfl rfl rfl ?_)
                refine op (OpS.pass rfl rfl rfl ?_)
                refine op (OpS.pass rfl rfl rfl ?_)
                refine op (OpS.pick rfl rfl rfl rfl ?_)
                refine RunL.nil ?_
                refine Run.slim [(177, .bool true), (1, v1), (10, u5), (11, u6), (13, .int .u16 s3.1), (14, .int .i64 s3.2.1)] ⟨rfl, rfl, rfl, rfl, rfl, rfl, trivial⟩ ?_
                refine Run.slim [(1, v1), (10, u5), (11, u6), (13, .int .u16 s3.1), (14, .int .i64 s3.2.1), (177, .bool true)] ⟨rfl, rfl, rfl, rfl, rfl, rfl, trivial⟩ ?_
                exact hj9 (true) _ _ ⟨rfl, (h84.facts (.atm (.s (.s .z)) .nil)).picks (.cons (.s (.s .z)) (.cons .z (.cons (.s .z) (.cons .z .nil))))⟩ hF
               ·
                refine op (OpS.mv rfl rfl rfl ?_)
                refine op (OpS.mv rfl rfl rfl ?_)
                refine op (OpS.bin rfl rfl rfl rfl rfl ?_)
                refine op (OpS.pick rfl rfl rfl rfl ?_)
                refine op (OpS.mv rfl rfl rfl ?_)
                refine RunL.caseb hF (fun e46 hF => ?_) (fun e46 hF => ?_)
                ·
                 refine op (OpS.pass rfl rfl rfl ?_)
                 refine op (OpS.pass rfl rfl rfl ?_)
                 refine op (OpS.pass rfl rfl rfl ?_)
                 refine op (OpS.pass rfl rfl rfl ?_)
                 refine op (OpS.pick rfl rfl rfl rfl ?_)
                 refine RunL.nil ?_
                 refine Run.slim [(177, .bool true), (1, v1), (10, u5), (11, u6), (13, .int .u16 s3.1), (14, .int .i64 s3.2.1)] ⟨rfl, rfl, rfl, rfl, rfl, rfl, trivial⟩ ?_
                 refine Run.slim [(1, v1), (10, u5), (11, u6), (13, .int .u16 s3.1), (14, .int .i64 s3.2.1), (177, .bool true)] ⟨rfl, rfl, rfl, rfl, rfl, rfl, trivial⟩ ?_
                 exact hj9 (true) _ _ ⟨rfl, (h84.facts (.atm (.s (.s .z)) .nil)).picks (.cons (.s (.s .z)) (.cons .z (.cons (.s .z) (.cons .z .nil))))⟩ hF
                ·
                 refine op (OpS.mv rfl rfl rfl ?_)
                 refine op (OpS.mv rfl rfl rfl ?_)
                 obtain ⟨y20, e47, hF⟩ := bindP_use hF
                 refine op (OpS.callP h84 Try.func16 rfl rfl rfl rfl (vs := [u25, u27]) rfl (ref01_Same_ok e47) (.cons (f := true) (V.at (.s .z)) (.cons (f := true) (V.at .z) .nil)) ?_)
                 rintro _ w32 _ _ _ ⟨rfl, rfl, rfl, rfl⟩ h86
                 have h87 := h86 rfl rfl
                 simp only [List.cons_append, List.nil_append] at h87
                 refine op (OpS.not rfl rfl rfl ?_)
                 refine op (OpS.pick rfl rfl rfl rfl ?_)
                 refine RunL.nil ?_
                 refine Run.slim [(177, .bool (!y20)), (1, v1), (10, u5), (11, u6), (13, .int .u16 s3.1), (14, .int .i64 s3.2.1)] ⟨rfl, rfl, rfl, rfl, rfl, rfl, trivial⟩ ?_
                 refine Run.slim [(1, v1), (10, u5), (11, u6), (13, .int .u16 s3.1), (14, .int .i64 s3.2.1), (177, .bool (!y20))] ⟨rfl, rfl, rfl, rfl, rfl, rfl, trivial⟩ ?_
                 exact hj9 (!y20) _ _ ⟨rfl, (h87.facts (.atm (.s (.s .z)) .nil)).picks (.cons (.s (.s .z)) (.cons .z (.cons (.s .z) (.cons .z .nil))))⟩ hF
             ·
              refine Run.seq ?_
              refine Run.reg ?_
              refine op (OpS.bin rfl rfl rfl rfl rfl ?_)
              refine op (OpS.as rfl rfl rfl ?_)
              obtain ⟨x13, e48, hF⟩ := letP_use hF
              refine RunL.nameb e48 ?_
              refine RunL.nil ?_
              refine Run.slim [(178, .bool x13), (108, .int .i64 y8), (1, v1), (10, u5), (11, u6), (13, .int .u16 s3.1), (14, .int .i64 s3.2.1), (15, u9), (16, .int .u16 s4), (17, .int .u16 s6)] ⟨rfl, rfl, rfl, rfl, rfl, rfl, rfl, rfl, rfl, rfl, trivial⟩ ?_
              refine Run.ite rfl hF (fun e49 hF => ?_) (fun e49 hF => ?_)
              ·
               refine Run.seq ?_
               have h88 := h29.picks (.cons (.s (.s .z)) (.cons .z (.cons .z .nil)))
               refine Run.drawV (Ωs := [(false, .opt (fun x_ => .ex fun v_ => .sep (.box 65 (Rep.iso (fun s : repository_Repository => (s.capacity, s.records, s.last, s.number, s.held, ())) (Rep.prod (Rep.int .i64) (Rep.prod (Rep.raw v_) (Rep.prod (Rep.int .u16) (Rep.prod (Rep.int .u16) (Rep.prod Rep.bool Rep.unit)))))) u5 x_) (.slice 67 repository_record.rep v_ x_.records)) u5 s3.2.2.1), (false, .opt (fun x_ => .ex fun v_ => .sep (.box 74 (Rep.iso (fun s : ref11_Repository => (s.Capacity, s.Items, s.Last, s.Held, s.Given, ())) (Rep.prod (Rep.int .i64) (Rep.prod (Rep.raw v_) (Rep.prod (Rep.int .i64) (Rep.prod Rep.bool (Rep.prod (Rep.int .i64) Rep.unit)))))) u6 x_) (.slice 76 ref11_Item.rep v_ x_.Items)) u6 s3.2.2.2)]) [⟨some 180, some ((padd u9 1)), fun _ => [], fun ds_ u_ => [], [], [(0, [])], none⟩, ⟨some 181, some (.int .i64 x2.A), fun _ => [], fun ds_ u_ => [], [], [(0, [])], none⟩, ⟨some 182, some ((padd u9 2)), fun _ => [], fun ds_ u_ => [], [], [(0, [])], none⟩, ⟨some 183, some (.int .i64 x2.B), fun _ => [], fun ds_ u_ => [], [], [(0, [])], none⟩, ⟨some 28, some (.int .i64 x2.A), fun _ => [], fun ds_ u_ => [], [], [], none⟩] [[], [0], [], [2], [1]] [[(false, .box 56 law11_Do.rep u9 x2)]] [0, 1, 2, 3, 4, 5] Try_mixed rfl rfl rfl h88 (.cons ?_ (.cons ?_ (.cons ?_ (.cons ?_ (.cons ?_ .nil))))) (fun q1 w hq1 h => ?_)
               ·intro q1 w Γx Ωx h
                have h : St e w ([(false, .val (Rep.slice law11_Do.rep) v1 a1)] ++ Γx) ([(false, .box 56 law11_Do.rep u9 x2), (false, .opt (fun x_ => .ex fun v_ => .sep (.box 65 (Rep.iso (fun s : repository_Repository => (s.capacity, s.records, s.last, s.number, s.held, ())) (Rep.prod (Rep.int .i64) (Rep.prod (Rep.raw v_) (Rep.prod (Rep.int .u16) (Rep.prod (Rep.int .u16) (Rep.prod Rep.bool Rep.unit)))))) u5 x_) (.slice 67 repository_record.rep v_ x_.records)) u5 s3.2.2.1), (false, .opt (fun x_ => .ex fun v_ => .sep (.box 74 (Rep.iso (fun s : ref11_Repository => (s.Capacity, s.Items, s.Last, s.Held, s.Given, ())) (Rep.prod (Rep.int .i64) (Rep.prod (Rep.raw v_) (Rep.prod (Rep.int .i64) (Rep.prod Rep.bool (Rep.prod (Rep.int .i64) Rep.unit)))))) u6 x_) (.slice 76 ref11_Item.rep v_ x_.Items)) u6 s3.2.2.2)] ++ Ωx) := h
                refine OpS.fbox (o3 := 1) h .z PA.z fa56_1 rfl rfl rfl rfl ?_
                exact ⟨undef, rfl, trivial, h⟩
               ·intro q1 w Γx Ωx h
                have h : St e w ([(false, .val (Rep.slice law11_Do.rep) v1 a1)] ++ Γx) ([(false, .box 56 law11_Do.rep u9 x2), (false, .opt (fun x_ => .ex fun v_ => .sep (.box 65 (Rep.iso (fun s : repository_Repository => (s.capacity, s.records, s.last, s.number, s.held, ())) (Rep.prod (Rep.int .i64) (Rep.prod (Rep.raw v_) (Rep.prod (Rep.int .u16) (Rep.prod (Rep.int .u16) (Rep.prod Rep.bool Rep.unit)))))) u5 x_) (.slice 67 repository_record.rep v_ x_.records)) u5 s3.2.2.1), (false, .opt (fun x_ => .ex fun v_ => .sep (.box 74 (Rep.iso (fun s : ref11_Repository => (s.Capacity, s.Items, s.Last, s.Held, s.Given, ())) (Rep.prod (Rep.int .i64) (Rep.prod (Rep.raw v_) (Rep.prod (Rep.int .i64) (Rep.prod Rep.bool (Rep.prod (Rep.int .i64) Rep.unit)))))) u6 x_) (.slice 76 ref11_Item.rep v_ x_.Items)) u6 s3.2.2.2)] ++ Ωx) := h
                refine OpS.loadBi h .z PA.a (Get.fld law11_Do.f1) ty3 rfl rfl rfl ?_
                exact ⟨undef, rfl, trivial, h⟩
               ·intro q1 w Γx Ωx h
                have h : St e w ([(false, .val (Rep.slice law11_Do.rep) v1 a1)] ++ Γx) ([(false, .box 56 law11_Do.rep u9 x2), (false, .opt (fun x_ => .ex fun v_ => .sep (.box 65 (Rep.iso (fun s : repository_Repository => (s.capacity, s.records, s.last, s.number, s.held, ())) (Rep.prod (Rep.int .i64) (Rep.prod (Rep.raw v_) (Rep.prod (Rep.int .u16) (Rep.prod (Rep.int .u16) (Rep.prod Rep.bool Rep.unit)))))) u5 x_) (.slice 67 repository_record.rep v_ x_.records)) u5 s3.2.2.1), (false, .opt (fun x_ => .ex fun v_ => .sep (.box 74 (Rep.iso (fun s : ref11_Repository => (s.Capacity, s.Items, s.Last, s.Held, s.Given, ())) (Rep.prod (Rep.int .i64) (Rep.prod (Rep.raw v_) (Rep.prod (Rep.int .i64) (Rep.prod Rep.bool (Rep.prod (Rep.int .i64) Rep.unit)))))) u6 x_) (.slice 76 ref11_Item.rep v_ x_.Items)) u6 s3.2.2.2)] ++ Ωx) := h
                refine OpS.fbox (o3 := 2) h .z PA.z fa56_2 rfl rfl rfl rfl ?_
                exact ⟨undef, rfl, trivial, h⟩
               ·intro q1 w Γx Ωx h
                have h : St e w ([(false, .val (Rep.slice law11_Do.rep) v1 a1)] ++ Γx) ([(false, .box 56 law11_Do.rep u9 x2), (false, .opt (fun x_ => .ex fun v_ => .sep (.box 65 (Rep.iso (fun s : repository_Repository => (s.capacity, s.records, s.last, s.number, s.held, ())) (Rep.prod (Rep.int .i64) (Rep.prod (Rep.raw v_) (Rep.prod (Rep.int .u16) (Rep.prod (Rep.int .u16) (Rep.prod Rep.bool Rep.unit)))))) u5 x_) (.slice 67 repository_record.rep v_ x_.records)) u5 s3.2.2.1), (false, .opt (fun x_ => .ex fun v_ => .sep (.box 74 (Rep.iso (fun s : ref11_Repository => (s.Capacity, s.Items, s.Last, s.Held, s.Given, ())) (Rep.prod (Rep.int .i64) (Rep.prod (Rep.raw v_) (Rep.prod (Rep.int .i64) (Rep.prod Rep.bool (Rep.prod (Rep.int .i64) Rep.unit)))))) u6 x_) (.slice 76 ref11_Item.rep v_ x_.Items)) u6 s3.2.2.2)] ++ Ωx) := h
                refine OpS.loadBi h .z PA.a (Get.fld law11_Do.f2) ty3 rfl rfl rfl ?_
                exact ⟨undef, rfl, trivial, h⟩
               ·intro q1 w Γx Ωx h
                refine OpS.as rfl rfl rfl ?_
                exact ⟨undef, rfl, trivial, h⟩
               have h89 : St e w [(false, .val (Rep.slice law11_Do.rep) v1 a1)] [(false, .box 56 law11_Do.rep u9 x2), (false, .opt (fun x_ => .ex fun v_ => .sep (.box 65 (Rep.iso (fun s : repository_Repository => (s.capacity, s.records, s.last, s.number, s.held, ())) (Rep.prod (Rep.int .i64) (Rep.prod (Rep.raw v_) (Rep.prod (Rep.int .u16) (Rep.prod (Rep.int .u16) (Rep.prod Rep.bool Rep.unit)))))) u5 x_) (.slice 67 repository_record.rep v_ x_.records)) u5 s3.2.2.1), (false, .opt (fun x_ => .ex fun v_ => .sep (.box 74 (Rep.iso (fun s : ref11_Repository => (s.Capacity, s.Items, s.Last, s.Held, s.Given, ())) (Rep.prod (Rep.int .i64) (Rep.prod (Rep.raw v_) (Rep.prod (Rep.int .i64) (Rep.prod Rep.bool (Rep.prod (Rep.int .i64) Rep.unit)))))) u6 x_) (.slice 76 ref11_Item.rep v_ x_.Items)) u6 s3.2.2.2)] := h
               refine op (OpS.as rfl rfl rfl ?_)
               refine RunL.nil ?_
               refine Run.slim [(29, .int .i64 x2.B), (28, .int .i64 x2.A), (1, v1), (10, u5), (11, u6), (13, .int .u16 s3.1), (14, .int .i64 s3.2.1), (15, u9), (16, .int .u16 s4), (17, .int .u16 s6)] ⟨rfl, rfl, rfl, rfl, rfl, rfl, rfl, rfl, rfl, rfl, trivial⟩ ?_
               refine Run.seq ?_
               refine Run.seq ?_
               refine Run.reg ?_
               refine op (OpS.fbox (o3 := 5) h89 .z PA.z fa56_5 rfl rfl rfl rfl ?_)
               refine op (OpS.loadBb h89 .z PA.a (Get.fld law11_Do.f5) ty4 rfl rfl rfl ?_)
               refine op (OpS.not rfl rfl rfl ?_)
               refine RunL.nil ?_
               refine Run.slim [(186, .bool (!x2.Wrong)), (29, .int .i64 x2.B), (28, .int .i64 x2.A), (1, v1), (10, u5), (11, u6), (13, .int .u16 s3.1), (14, .int .i64 s3.2.1), (15, u9), (16, .int .u16 s4), (17, .int .u16 s6)] ⟨rfl, rfl, rfl, rfl, rfl, rfl, rfl, rfl, rfl, rfl, rfl, trivial⟩ ?_
               refine Run.join (σ := (Int × Int)) (fun s_ L_ w_ => L_ = [(1, v1), (10, u5), (11, u6), (13, .int .u16 s3.1), (14, .int .i64 s3.2.1), (16, .int .u16 s4), (17, .int .u16 s6), (28, .int .i64 s_.1), (29, .int .i64 s_.2)] ∧ St e w_ [(false, .val (Rep.slice law11_Do.rep) v1 a1)] [(false, .opt (fun x_ => .ex fun v_ => .sep (.box 65 (Rep.iso (fun s : repository_Repository => (s.capacity, s.records, s.last, s.number, s.held, ())) (Rep.prod (Rep.int .i64) (Rep.prod (Rep.raw v_) (Rep.prod (Rep.int .u16) (Rep.prod (Rep.int .u16) (Rep.prod Rep.bool Rep.unit)))))) u5 x_) (.slice 67 repository_record.rep v_ x_.records)) u5 s3.2.2.1), (false, .opt (fun x_ => .ex fun v_ => .sep (.box 74 (Rep.iso (fun s : ref11_Repository => (s.Capacity, s.Items, s.Last, s.Held, s.Given, ())) (Rep.prod (Rep.int .i64) (Rep.prod (Rep.raw v_) (Rep.prod (Rep.int .i64) (Rep.prod Rep.bool (Rep.prod (Rep.int .i64) Rep.unit)))))) u6 x_) (.slice 76 ref11_Item.rep v_ x_.Items)) u6 s3.2.2.2)]) hF (fun s11 _ w33 hI hF => ?_) (fun j10 hj10 hF => ?_)
               ·
                obtain ⟨rfl, h90⟩ := hI
                refine Run.seq ?_
                refine Run.reg ?_
                refine op (OpS.mv rfl rfl rfl ?_)
                refine op (OpS.mv rfl rfl rfl ?_)
                refine op (OpS.mv rfl rfl rfl ?_)
                refine op (OpS.mv rfl rfl rfl ?_)
                refine op (OpS.mv rfl rfl rfl ?_)
                obtain ⟨x14, e50, hF⟩ := bindP_use hF
                have h91 := St.unopt (h90.pick .z) e50
                obtain ⟨u28, h92⟩ := h91.one1
                obtain ⟨y21, e51, hF⟩ := bindP_use hF
                have h93 := h92.front (.cons .z (.cons .z .nil))
                refine op (OpS.callO h93 Try.func14 rfl rfl rfl rfl (vs := [u5, .int .u16 s4, .int .u16 s6, .int .i64 s11.1, .int .i64 s11.2]) rfl (repository_Repository_Read_ok e51) rfl .nil ?_)
                rintro _ w34 _ _ _ ⟨u29, rfl, rfl, rfl, rfl⟩ h94
                have h95 := h94
                simp only [List.cons_append, List.nil_append] at h95
                refine op (OpS.mv rfl rfl rfl ?_)
                refine op (OpS.ext rfl rfl rfl rfl ?_)
                refine op (OpS.ext rfl rfl rfl rfl ?_)
                refine op (OpS.ext rfl rfl rfl rfl ?_)
                refine op (OpS.as rfl rfl rfl ?_)
                have h96 := (h95.pick .z).freeze
                refine op (OpS.as rfl rfl rfl ?_)
                refine op (OpS.as rfl rfl rfl ?_)
                refine RunL.nil ?_
                refine Run.slim [(32, .int .i64 y21.2.2), (31, .int .u16 y21.2.1), (30, u29), (1, v1), (10, u5), (11, u6), (13, .int .u16 s3.1), (14, .int .i64 s3.2.1), (16, .int .u16 s4), (17, .int .u16 s6), (28, .int .i64 s11.1), (29, .int .i64 s11.2)] ⟨rfl, rfl, rfl, rfl, rfl, rfl, rfl, rfl, rfl, rfl, rfl, rfl, trivial⟩ ?_
                refine Run.seq ?_
                refine Run.reg ?_
                refine op (OpS.mv rfl rfl rfl ?_)
                refine op (OpS.mv rfl rfl rfl ?_)
                refine op (OpS.mv rfl rfl rfl ?_)
                refine op (OpS.mv rfl rfl rfl ?_)
                refine op (OpS.mv rfl rfl rfl ?_)
                obtain ⟨x15, e52, hF⟩ := bindP_use hF
                have h97 := St.unopt (h96.pick (.s (.s .z))) e52
                obtain ⟨u30, h98⟩ := h97.one1
                obtain ⟨y22, e53, hF⟩ := bindP_use hF
                have h99 := h98.front (.cons .z (.cons .z .nil))
                refine op (OpS.callO h99 Try.func27 rfl rfl rfl rfl (vs := [u6, .int .u16 s4, .int .u16 s6, .int .i64 s11.1, .int .i64 s11.2]) rfl (ref11_Repository_Read_ok e53) rfl .nil ?_)
                rintro _ w35 _ _ _ ⟨u31, rfl, rfl, rfl, rfl⟩ h100
                have h101 := h100
                simp only [List.cons_append, List.nil_append] at h101
                refine op (OpS.mv rfl rfl rfl ?_)
                refine op (OpS.ext rfl rfl rfl rfl ?_)
                refine op (OpS.ext rfl rfl rfl rfl ?_)
                refine op (OpS.ext rfl rfl rfl rfl ?_)
                refine op (OpS.as rfl rfl rfl ?_)
                have h102 := (h101.pick .z).freeze
                refine op (OpS.as rfl rfl rfl ?_)
                refine op (OpS.as rfl rfl rfl ?_)
                refine RunL.nil ?_
                refine Run.slim [(35, .int .i64 y22.2.2), (34, .int .u16 y22.2.1), (33, u31), (32, .int .i64 y21.2.2), (31, .int .u16 y21.2.1), (30, u29), (1, v1), (10, u5), (11, u6), (13, .int .u16 s3.1), (14, .int .i64 s3.2.1)] ⟨rfl, rfl, rfl, rfl, rfl, rfl, rfl, rfl, rfl, rfl, rfl, trivial⟩ ?_
                refine Run.seq ?_
                refine Run.reg ?_
                refine op (OpS.mv rfl rfl rfl ?_)
                refine op (OpS.mv rfl rfl rfl ?_)
                refine op (OpS.bin rfl rfl rfl rfl rfl ?_)
                refine op (OpS.mv rfl rfl rfl ?_)
                refine RunL.join (σ := Bool) (fun s_ L_ w_ => L_ = [(1, v1), (10, u5), (11, u6), (13, .int .u16 s3.1), (14, .int .i64 s3.2.1), (226, .bool s_)] ∧ St e w_ [(false, .val (Rep.slice law11_Do.rep) v1 a1)] [(false, .box 65 (Rep.iso (fun s : repository_Repository => (s.capacity, s.records, s.last, s.number, s.held, ())) (Rep.prod (Rep.int .i64) (Rep.prod (Rep.raw u28) (Rep.prod (Rep.int .u16) (Rep.prod (Rep.int .u16) (Rep.prod Rep.bool Rep.unit)))))) u5 x14), (false, .box 74 (Rep.iso (fun s : ref11_Repository => (s.Capacity, s.Items, s.Last, s.Held, s.Given, ())) (Rep.prod (Rep.int .i64) (Rep.prod (Rep.raw u30) (Rep.prod (Rep.int .i64) (Rep.prod Rep.bool (Rep.prod (Rep.int .i64) Rep.unit)))))) u6 x15), (false, .slice 67 repository_record.rep u28 x14.records), (false, .slice 76 ref11_Item.rep u30 x15.Items)]) hF (fun s12 _ w36 hI hF => ?_) (fun j11 hj11 hF => ?_)
                ·
                 obtain ⟨rfl, h103⟩ := hI
                 refine Run.ite rfl hF (fun e54 hF => ?_) (fun e54 hF => ?_)
                 ·
                  refine Run.seq ?_
                  refine Run.reg ?_
                  refine op (OpS.as rfl rfl rfl ?_)
                  refine RunL.nil ?_
                  refine Run.slim [(4, .bool false)] ⟨rfl, trivial⟩ ?_
                  refine Run.retP rfl (.tmp rfl .nil) ?_
                  cases hF
                  exact Post.mk' ⟨rfl, rfl, rfl, rfl⟩ (h103.picks .nil) .nil
                 ·
                  refine Run.skip ?_
                  refine Run.slim [(1, v1), (10, u5), (11, u6), (13, .int .u16 s3.1), (14, .int .i64 s3.2.1)] ⟨rfl, rfl, rfl, rfl, rfl, trivial⟩ ?_
                  exact hj6 (s3.1, x14, x15) _ _ ⟨u28, u30, rfl, (h103.facts (.atm .z .nil)).picks (.cons .z (.cons .z (.cons .z (.cons .z .nil))))⟩ hF
                ·
                 refine RunL.caseb hF (fun e55 hF => ?_) (fun e55 hF => ?_)
                 ·
                  refine op (OpS.pass rfl rfl rfl ?_)
                  refine op (OpS.pass rfl rfl rfl ?_)
                  refine op (OpS.pass rfl rfl rfl ?_)
                  refine op (OpS.pick rfl rfl rfl rfl ?_)
                  refine op (OpS.mv rfl rfl rfl ?_)
                  refine op (OpS.pass rfl rfl rfl ?_)
                  refine op (OpS.pass rfl rfl rfl ?_)
                  refine op (OpS.pass rfl rfl rfl ?_)
                  refine op (OpS.pass rfl rfl rfl ?_)
                  refine op (OpS.pick rfl rfl rfl rfl ?_)
                  refine RunL.nil ?_
                  refine Run.slim [(226, .bool true), (1, v1), (10, u5), (11, u6), (13, .int .u16 s3.1), (14, .int .i64 s3.2.1)] ⟨rfl, rfl, rfl, rfl, rfl, rfl, trivial⟩ ?_
                  refine Run.slim [(1, v1), (10, u5), (11, u6), (13, .int .u16 s3.1), (14, .int .i64 s3.2.1), (226, .bool true)] ⟨rfl, rfl, rfl, rfl, rfl, rfl, trivial⟩ ?_
                  exact hj11 (true) _ _ ⟨rfl, (h102.facts (.atm (.s (.s .z)) .nil)).picks (.cons (.s (.s .z)) (.cons .z (.cons (.s .z) (.cons .z .nil))))⟩ hF
                 ·
                  refine op (OpS.mv rfl rfl rfl ?_)
                  refine op (OpS.mv rfl rfl rfl ?_)
                  refine op (OpS.bin rfl rfl rfl rfl rfl ?_)
                  refine op (OpS.pick rfl rfl rfl rfl ?_)
                  refine op (OpS.mv rfl rfl rfl ?_)
                  refine RunL.caseb hF (fun e56 hF => ?_) (fun e56 hF => ?_)
                  ·
                   refine op (OpS.pass rfl rfl rfl ?_)
                   refine op (OpS.pass rfl rfl rfl ?_)
                   refine op (OpS.pass rfl rfl rfl ?_)
                   refine op (OpS.pass rfl rfl rfl ?_)
                   refine op (OpS.pick rfl rfl rfl rfl ?_)
                   refine RunL.nil ?_
                   refine Run.slim [(226, .bool true), (1, v1), (10, u5), (11, u6), (13, .int .u16 s3.1), (14, .int .i64 s3.2.1)] ⟨rfl, rfl, rfl, rfl, rfl, rfl, trivial⟩ ?_
                   refine Run.slim [(1, v1), (10, u5), (11, u6), (13, .int .u16 s3.1), (14, .int .i64 s3.2.1), (226, .bool true)] ⟨rfl, rfl, rfl, rfl, rfl, rfl, trivial⟩ ?_
                   exact hj11 (true) _ _ ⟨rfl, (h102.facts (.atm (.s (.s .z)) .nil)).picks (.cons (.s (.s .z)) (.cons .z (.cons (.s .z) (.cons .z .nil))))⟩ hF
                  ·
                   refine op (OpS.mv rfl rfl rfl ?_)
                   refine op (OpS.mv rfl rfl rfl ?_)
                   obtain ⟨y23, e57, hF⟩ := bindP_use hF
                   refine op (OpS.callP h102 Try.func16 rfl rfl rfl rfl (vs := [u29, u31]) rfl (ref01_Same_ok e57) (.cons (f := true) (V.at (.s .z)) (.cons (f := true) (V.at .z) .nil)) ?_)
                   rintro _ w37 _ _ _ ⟨rfl, rfl, rfl, rfl⟩ h104
                   have h105 := h104 rfl rfl
                   simp only [List.cons_append, List.nil_append] at h105
                   refine op (OpS.not rfl rfl rfl ?_)
                   refine op (OpS.pick rfl rfl rfl rfl ?_)
                   refine RunL.nil ?_
                   refine Run.slim [(226, .bool (!y23)), (1, v1), (10, u5), (11, u6), (13, .int .u16 s3.1), (14, .int .i64 s3.2.1)] ⟨rfl, rfl, rfl, rfl, rfl, rfl, trivial⟩ ?_
                   refine Run.slim [(1, v1), (10, u5), (11, u6), (13, .int .u16 s3.1), (14, .int .i64 s3.2.1), (226, .bool (!y23))] ⟨rfl, rfl, rfl, rfl, rfl, rfl, trivial⟩ ?_
                   exact hj11 (!y23) _ _ ⟨rfl, (h105.facts (.atm (.s (.s .z)) .nil)).picks (.cons (.s (.s .z)) (.cons .z (.cons (.s .z) (.cons .z .nil))))⟩ hF
               ·
                refine Run.ite rfl hF (fun e58 hF => ?_) (fun e58 hF => ?_)
                ·
                 refine Run.slim [(1, v1), (10, u5), (11, u6), (13, .int .u16 s3.1), (14, .int .i64 s3.2.1), (15, u9), (16, .int .u16 s4), (17, .int .u16 s6)] ⟨rfl, rfl, rfl, rfl, rfl, rfl, rfl, rfl, trivial⟩ ?_
                 obtain ⟨y24, e59, hF⟩ := bindP_use hF
                 obtain ⟨y25, e60, hF⟩ := bindP_use hF
                 refine Run.drawV (Ωs := [(false, .opt (fun x_ => .ex fun v_ => .sep (.box 65 (Rep.iso (fun s : repository_Repository => (s.capacity, s.records, s.last, s.number, s.held, ())) (Rep.prod (Rep.int .i64) (Rep.prod (Rep.raw v_) (Rep.prod (Rep.int .u16) (Rep.prod (Rep.int .u16) (Rep.prod Rep.bool Rep.unit)))))) u5 x_) (.slice 67 repository_record.rep v_ x_.records)) u5 s3.2.2.1), (false, .opt (fun x_ => .ex fun v_ => .sep (.box 74 (Rep.iso (fun s : ref11_Repository => (s.Capacity, s.Items, s.Last, s.Held, s.Given, ())) (Rep.prod (Rep.int .i64) (Rep.prod (Rep.raw v_) (Rep.prod (Rep.int .i64) (Rep.prod Rep.bool (Rep.prod (Rep.int .i64) Rep.unit)))))) u6 x_) (.slice 76 ref11_Item.rep v_ x_.Items)) u6 s3.2.2.2)]) [⟨some 187, some ((padd u9 1)), fun _ => [], fun ds_ u_ => [], [], [(0, [])], none⟩, ⟨some 188, some (.int .i64 x2.A), fun _ => [], fun ds_ u_ => [], [], [(0, [])], none⟩, ⟨some 189, some (.int .i64 y24), fun _ => [], fun ds_ u_ => [], [], [], none⟩, ⟨some 190, some ((padd u9 2)), fun _ => [], fun ds_ u_ => [], [], [(0, [])], none⟩, ⟨some 191, some (.int .i64 x2.B), fun _ => [], fun ds_ u_ => [], [], [(0, [])], none⟩, ⟨some 192, some (.int .i64 y25), fun _ => [], fun ds_ u_ => [], [], [], none⟩, ⟨some 28, some (.int .i64 y24), fun _ => [], fun ds_ u_ => [], [], [], none⟩] [[], [0], [1], [], [3], [4], [2]] [[(false, .box 56 law11_Do.rep u9 x2)]] [0, 1, 2, 3, 4, 5, 6, 7] Try_mixed rfl rfl rfl h89 (.cons ?_ (.cons ?_ (.cons ?_ (.cons ?_ (.cons ?_ (.cons ?_ (.cons ?_ .nil))))))) (fun q2 w hq2 h => ?_)
                 ·intro q2 w Γx Ωx h
                  have h : St e w ([(false, .val (Rep.slice law11_Do.rep) v1 a1)] ++ Γx) ([(false, .box 56 law11_Do.rep u9 x2), (false, .opt (fun x_ => .ex fun v_ => .sep (.box 65 (Rep.iso (fun s : repository_Repository => (s.capacity, s.records, s.last, s.number, s.held, ())) (Rep.prod (Rep.int .i64) (Rep.prod (Rep.raw v_) (Rep.prod (Rep.int .u16) (Rep.prod (Rep.int .u16) (Rep.prod Rep.bool Rep.unit)))))) u5 x_) (.slice 67 repository_record.rep v_ x_.records)) u5 s3.2.2.1), (false, .opt (fun x_ => .ex fun v_ => .sep (.box 74 (Rep.iso (fun s : ref11_Repository => (s.Capacity, s.Items, s.Last, s.Held, s.Given, ())) (Rep.prod (Rep.int .i64) (Rep.prod (Rep.raw v_) (Rep.prod (Rep.int .i64) (Rep.prod Rep.bool (Rep.prod (Rep.int .i64) Rep.unit)))))) u6 x_) (.slice 76 ref11_Item.rep v_ x_.Items)) u6 s3.2.2.2)] ++ Ωx) := h
                  refine OpS.fbox (o3 := 1) h .z PA.z fa56_1 rfl rfl rfl rfl ?_
                  exact ⟨undef, rfl, trivial, h⟩
                 ·intro q2 w Γx Ωx h
                  have h : St e w ([(false, .val (Rep.slice law11_Do.rep) v1 a1)] ++ Γx) ([(false, .box 56 law11_Do.rep u9 x2), (false, .opt (fun x_ => .ex fun v_ => .sep (.box 65 (Rep.iso (fun s : repository_Repository => (s.capacity, s.records, s.last, s.number, s.held, ())) (Rep.prod (Rep.int .i64) (Rep.prod (Rep.raw v_) (Rep.prod (Rep.int .u16) (Rep.prod (Rep.int .u16) (Rep.prod Rep.bool Rep.unit)))))) u5 x_) (.slice 67 repository_record.rep v_ x_.records)) u5 s3.2.2.1), (false, .opt (fun x_ => .ex fun v_ => .sep (.box 74 (Rep.iso (fun s : ref11_Repository => (s.Capacity, s.Items, s.Last, s.Held, s.Given, ())) (Rep.prod (Rep.int .i64) (Rep.prod (Rep.raw v_) (Rep.prod (Rep.int .i64) (Rep.prod Rep.bool (Rep.prod (Rep.int .i64) Rep.unit)))))) u6 x_) (.slice 76 ref11_Item.rep v_ x_.Items)) u6 s3.2.2.2)] ++ Ωx) := h
                  refine OpS.loadBi h .z PA.a (Get.fld law11_Do.f1) ty3 rfl rfl rfl ?_
                  exact ⟨undef, rfl, trivial, h⟩
                 ·intro q2 w Γx Ωx h
                  refine OpS.callP h Try.func12 rfl rfl rfl rfl (vs := [.int .i64 x2.A, .int .i64 9]) rfl (made_Mod_ok e59) .nil ?_
                  rintro _ w40 _ _ _ ⟨rfl, rfl, rfl, rfl⟩ h110
                  have h111 := h110 rfl rfl
                  simp only [List.cons_append, List.nil_append] at h111
                  exact ⟨undef, rfl, trivial, h111⟩
                 ·intro q2 w Γx Ωx h
                  have h : St e w ([(false, .val (Rep.slice law11_Do.rep) v1 a1)] ++ Γx) ([(false, .box 56 law11_Do.rep u9 x2), (false, .opt (fun x_ => .ex fun v_ => .sep (.box 65 (Rep.iso (fun s : repository_Repository => (s.capacity, s.records, s.last, s.number, s.held, ())) (Rep.prod (Rep.int .i64) (Rep.prod (Rep.raw v_) (Rep.prod (Rep.int .u16) (Rep.prod (Rep.int .u16) (Rep.prod Rep.bool Rep.unit)))))) u5 x_) (.slice 67 repository_record.rep v_ x_.records)) u5 s3.2.2.1), (false, .opt (fun x_ => .ex fun v_ => .sep (.box 74 (Rep.iso (fun s : ref11_Repository => (s.Capacity, s.Items, s.Last, s.Held, s.Given, ())) (Rep.prod (Rep.int .i64) (Rep.prod (Rep.raw v_) (Rep.prod (Rep.int .i64) (Rep.prod Rep.bool (Rep.prod (Rep.int .i64) Rep.unit)))))) u6 x_) (.slice 76 ref11_Item.rep v_ x_.Items)) u6 s3.2.2.2)] ++ Ωx) := h
                  refine OpS.fbox (o3 := 2) h .z PA.z fa56_2 rfl rfl rfl rfl ?_
                  exact ⟨undef, rfl, trivial, h⟩
                 ·intro q2 w Γx Ωx h
                  have h : St e w ([(false, .val (Rep.slice law11_Do.rep) v1 a1)] ++ Γx) ([(false, .box 56 law11_Do.rep u9 x2), (false, .opt (fun x_ => .ex fun v_ => .sep (.box 65 (Rep.iso (fun s : repository_Repository => (s.capacity, s.records, s.last, s.number, s.held, ())) (Rep.prod (Rep.int .i64) (Rep.prod (Rep.raw v_) (Rep.prod (Rep.int .u16) (Rep.prod (Rep.int .u16) (Rep.prod Rep.bool Rep.unit)))))) u5 x_) (.slice 67 repository_record.rep v_ x_.records)) u5 s3.2.2.1), (false, .opt (fun x_ => .ex fun v_ => .sep (.box 74 (Rep.iso (fun s : ref11_Repository => (s.Capacity, s.Items, s.Last, s.Held, s.Given, ())) (Rep.prod (Rep.int .i64) (Rep.prod (Rep.raw v_) (Rep.prod (Rep.int .i64) (Rep.prod Rep.bool (Rep.prod (Rep.int .i64) Rep.unit)))))) u6 x_) (.slice 76 ref11_Item.rep v_ x_.Items)) u6 s3.2.2.2)] ++ Ωx) := h
                  refine OpS.loadBi h .z PA.a (Get.fld law11_Do.f2) ty3 rfl rfl rfl ?_
                  exact ⟨undef, rfl, trivial, h⟩
                 ·intro q2 w Γx Ωx h
                  refine OpS.callP h Try.func12 rfl rfl rfl rfl (vs := [.int .i64 x2.B, .int .i64 9]) rfl (made_Mod_ok e60) .nil ?_
                  rintro _ w41 _ _ _ ⟨rfl, rfl, rfl, rfl⟩ h112
                  have h113 := h112 rfl rfl
                  simp only [List.cons_append, List.nil_append] at h113
                  exact ⟨undef, rfl, trivial, h113⟩
                 ·intro q2 w Γx Ωx h
                  refine OpS.as rfl rfl rfl ?_
                  exact ⟨undef, rfl, trivial, h⟩
                 have h114 : St e w [(false, .val (Rep.slice law11_Do.rep) v1 a1)] [(false, .box 56 law11_Do.rep u9 x2), (false, .opt (fun x_ => .ex fun v_ => .sep (.box 65 (Rep.iso (fun s : repository_Repository => (s.capacity, s.records, s.last, s.number, s.held, ())) (Rep.prod (Rep.int .i64) (Rep.prod (Rep.raw v_) (Rep.prod (Rep.int .u16) (Rep.prod (Rep.int .u16) (Rep.prod Rep.bool Rep.unit)))))) u5 x_) (.slice 67 repository_record.rep v_ x_.records)) u5 s3.2.2.1), (false, .opt (fun x_ => .ex fun v_ => .sep (.box 74 (Rep.iso (fun s : ref11_Repository => (s.Capacity, s.Items, s.Last, s.Held, s.Given, ())) (Rep.prod (Rep.int .i64) (Rep.prod (Rep.raw v_) (Rep.prod (Rep.int .i64) (Rep.prod Rep.bool (Rep.prod (Rep.int .i64) Rep.unit)))))) u6 x_) (.slice 76 ref11_Item.rep v_ x_.Items)) u6 s3.2.2.2)] := h
                 refine op (OpS.as rfl rfl rfl ?_)
                 refine RunL.nil ?_
                 refine Run.slim [(29, .int .i64 y25), (28, .int .i64 y24), (1, v1), (10, u5), (11, u6), (13, .int .u16 s3.1), (14, .int .i64 s3.2.1), (16, .int .u16 s4), (17, .int .u16 s6)] ⟨rfl, rfl, rfl, rfl, rfl, rfl, rfl, rfl, rfl, trivial⟩ ?_
                 refine Run.slim [(1, v1), (10, u5), (11, u6), (13, .int .u16 s3.1), (14, .int .i64 s3.2.1), (16, .int .u16 s4), (17, .int .u16 s6), (28, .int .i64 y24), (29, .int .i64 y25)] ⟨rfl, rfl, rfl, rfl, rfl, rfl, rfl, rfl, rfl, trivial⟩ ?_
                 exact hj10 (y24, y25) _ _ ⟨rfl, (h114.facts (.atm .z .nil)).picks (.cons (.s .z) (.cons (.s .z) .nil))⟩ hF
                ·
                 refine Run.skip ?_
                 refine Run.slim [(1, v1), (10, u5), (11, u6), (13, .int .u16 s3.1), (14, .int .i64 s3.2.1), (16, .int .u16 s4), (17, .int .u16 s6), (28, .int .i64 x2.A), (29, .int .i64 x2.B)] ⟨rfl, rfl, rfl, rfl, rfl, rfl, rfl, rfl, rfl, trivial⟩ ?_
                 exact hj10 (x2.A, x2.B) _ _ ⟨rfl, (h89.facts (.atm .z .nil)).picks (.cons (.s .z) (.cons (.s .z) .nil))⟩ hF
              ·
               refine Run.seq ?_
               refine Run.reg ?_
               refine op (OpS.bin rfl rfl rfl rfl rfl ?_)
               refine op (OpS.as rfl rfl rfl ?_)
               obtain ⟨x16, e61, hF⟩ := letP_use hF
               refine RunL.nameb e61 ?_
               refine RunL.nil ?_
               refine Run.slim [(227, .bool x16), (1, v1), (10, u5), (11, u6), (13, .int .u16 s3.1), (14, .int .i64 s3.2.1), (16, .int .u16 s4), (17, .int .u16 s6)] ⟨rfl, rfl, rfl, rfl, rfl, rfl, rfl, rfl, trivial⟩ ?_
               refine Run.ite rfl hF (fun e62 hF => ?_) (fun e62 hF => ?_)
               ·
                refine Run.seq ?_
                refine Run.reg ?_
                refine op (OpS.mv rfl rfl rfl ?_)
                refine op (OpS.mv rfl rfl rfl ?_)
                refine op (OpS.mv rfl rfl rfl ?_)
                obtain ⟨x17, e63, hF⟩ := bindP_use hF
                have h115 := St.unopt (h29.pick .z) e63
                obtain ⟨u32, h116⟩ := h115.one1
                obtain ⟨y26, e64, hF⟩ := bindP_use hF
                have h117 := h116.front (.cons .z (.cons .z .nil))
                refine op (OpS.callO h117 Try.func21 rfl rfl rfl rfl (vs := [u5, .int .u16 s4, .int .u16 s6]) rfl (repository_Repository_Delete_ok e64) rfl .nil ?_)
                rintro _ w42 _ _ _ ⟨u33, rfl, rfl, rfl, rfl⟩ h118
                have h119 := h118
                simp only [List.cons_append, List.nil_append] at h119
                refine op (OpS.mv rfl rfl rfl ?_)
                refine op (OpS.mv rfl rfl rfl ?_)
                refine op (OpS.mv rfl rfl rfl ?_)
                obtain ⟨x18, e65, hF⟩ := bindP_use hF
                have h120 := St.unopt (h119.pick (.s (.s .z))) e65
                obtain ⟨u34, h121⟩ := h120.one1
                obtain ⟨y27, e66, hF⟩ := bindP_use hF
                have h122 := h121.front (.cons .z (.cons .z .nil))
                refine op (OpS.callO h122 Try.func28 rfl rfl rfl rfl (vs := [u6, .int .u16 s4, .int .u16 s6]) rfl (ref11_Repository_Delete_ok e66) rfl .nil ?_)
                rintro _ w43 _ _ _ ⟨u35, rfl, rfl, rfl, rfl⟩ h123
                have h124 := h123
                simp only [List.cons_append, List.nil_append] at h124
                refine op (OpS.bin rfl rfl rfl rfl rfl ?_)
                refine RunL.nil ?_
                refine Run.slim [(237, .bool (y26.1 != y27.1)), (1, v1), (10, u5), (11, u6), (13, .int .u16 s3.1), (14, .int .i64 s3.2.1)] ⟨rfl, rfl, rfl, rfl, rfl, rfl, trivial⟩ ?_
                refine Run.ite rfl hF (fun e67 hF => ?_) (fun e67 hF => ?_)
                ·
                 refine Run.seq ?_
                 refine Run.reg ?_
                 refine op (OpS.as rfl rfl rfl ?_)
                 refine RunL.nil ?_
                 refine Run.slim [(4, .bool false)] ⟨rfl, trivial⟩ ?_
                 refine Run.retP rfl (.tmp rfl .nil) ?_
                 cases hF
                 exact Post.mk' ⟨rfl, rfl, rfl, rfl⟩ (h124.picks .nil) .nil
                ·
                 refine Run.skip ?_
                 refine Run.slim [(1, v1), (10, u5), (11, u6), (13, .int .u16 s3.1), (14, .int .i64 s3.2.1)] ⟨rfl, rfl, rfl, rfl, rfl, trivial⟩ ?_
                 exact hj6 (s3.1, y26.2, y27.2) _ _ ⟨u33, u35, rfl, (h124.facts (.atm .z .nil)).picks (.cons (.s (.s .z)) (.cons .z (.cons (.s .z) (.cons .z .nil))))⟩ hF
               ·
                refine Run.seq ?_
                refine Run.reg ?_
                refine op (OpS.mv rfl rfl rfl ?_)
                refine op (OpS.mv rfl rfl rfl ?_)
                obtain ⟨x19, e68, hF⟩ := bindP_use hF
                have h125 := St.unopt (h29.pick .z) e68
                obtain ⟨u36, h126⟩ := h125.one1
                obtain ⟨y28, e69, hF⟩ := bindP_use hF
                have h127 := h126.front (.cons .z (.cons .z .nil))
                refine op (OpS.callO h127 Try.func20 rfl rfl rfl rfl (vs := [u5, .int .u16 s4]) rfl (repository_Repository_Clear_ok e69) rfl .nil ?_)
                rintro _ w44 _ _ _ ⟨u37, rfl, rfl, rfl, rfl⟩ h128
                have h129 := h128
                simp only [List.cons_append, List.nil_append] at h129
                refine op (OpS.mv rfl rfl rfl ?_)
                refine op (OpS.mv rfl rfl rfl ?_)
                obtain ⟨x20, e70, hF⟩ := bindP_use hF
                have h130 := St.unopt (h129.pick (.s (.s .z))) e70
                obtain ⟨u38, h131⟩ := h130.one1
                obtain ⟨y29, e71, hF⟩ := bindP_use hF
                have h132 := h131.front (.cons .z (.cons .z .nil))
                refine op (OpS.callO h132 Try.func29 rfl rfl rfl rfl (vs := [u6, .int .u16 s4]) rfl (ref11_Repository_Clear_ok e71) rfl .nil ?_)
                rintro _ w45 _ _ _ ⟨u39, rfl, rfl, rfl, rfl⟩ h133
                have h134 := h133
                simp only [List.cons_append, List.nil_append] at h134
                refine op (OpS.bin rfl rfl rfl rfl rfl ?_)
                refine RunL.nil ?_
                refine Run.slim [(115, .bool (y28.1 != y29.1)), (1, v1), (10, u5), (11, u6), (13, .int .u16 s3.1), (14, .int .i64 s3.2.1)] ⟨rfl, rfl, rfl, rfl, rfl, rfl, trivial⟩ ?_
                refine Run.ite rfl hF (fun e72 hF => ?_) (fun e72 hF => ?_)
                ·
                 refine Run.seq ?_
                 refine Run.reg ?_
                 refine op (OpS.as rfl rfl rfl ?_)
                 refine RunL.nil ?_
                 refine Run.slim [(4, .bool false)] ⟨rfl, trivial⟩ ?_
                 refine Run.retP rfl (.tmp rfl .nil) ?_
                 cases hF
                 exact Post.mk' ⟨rfl, rfl, rfl, rfl⟩ (h134.picks .nil) .nil
                ·
                 refine Run.skip ?_
                 refine Run.slim [(1, v1), (10, u5), (11, u6), (13, .int .u16 s3.1), (14, .int .i64 s3.2.1)] ⟨rfl, rfl, rfl, rfl, rfl, trivial⟩ ?_
                 exact hj6 (s3.1, y28.2, y29.2) _ _ ⟨u37, u39, rfl, (h134.facts (.atm .z .nil)).picks (.cons (.s (.s .z)) (.cons .z (.cons (.s .z) (.cons .z .nil))))⟩ hF
         ·
          refine Run.ite rfl hF (fun e73 hF => ?_) (fun e73 hF => ?_)
          ·
           refine Run.reg ?_
           refine op (OpS.fbox (o3 := 3) h26 (.s (.s .z)) PA.z fa56_3 rfl rfl rfl rfl ?_)
           refine op (OpS.loadBi h26 (.s (.s .z)) PA.a (Get.fld law11_Do.f3) ty32 rfl rfl rfl ?_)
           refine op (OpS.as rfl rfl rfl ?_)
           refine RunL.nil ?_
           refine Run.slim [(17, .int .u16 x2.ID), (1, v1), (10, u5), (11, u6), (13, .int .u16 s3.1), (14, .int .i64 s3.2.1), (15, u9), (16, .int .u16 s4)] ⟨rfl, rfl, rfl, rfl, rfl, rfl, rfl, rfl, trivial⟩ ?_
           refine Run.slim [(1, v1), (10, u5), (11, u6), (13, .int .u16 s3.1), (14, .int .i64 s3.2.1), (15, u9), (16, .int .u16 s4), (17, .int .u16 x2.ID)] ⟨rfl, rfl, rfl, rfl, rfl, rfl, rfl, rfl, trivial⟩ ?_
           exact hj5 (x2.ID) _ _ ⟨rfl, (h26.facts (.atm .z .nil)).picks (.cons .z (.cons .z (.cons .z .nil)))⟩ hF
          ·
           refine Run.skip ?_
           refine Run.slim [(1, v1), (10, u5), (11, u6), (13, .int .u16 s3.1), (14, .int .i64 s3.2.1), (15, u9), (16, .int .u16 s4), (17, .int .u16 (Int.tmod x2.ID 12))] ⟨rfl, rfl, rfl, rfl, rfl, rfl, rfl, rfl, trivial⟩ ?_
           exact hj5 ((Int.tmod x2.ID 12)) _ _ ⟨rfl, (h26.facts (.atm .z .nil)).picks (.cons .z (.cons .z (.cons .z .nil)))⟩ hF
        ·
         refine RunL.caseb hF (fun e74 hF => ?_) (fun e74 hF => ?_)
         ·
          refine op (OpS.mv rfl rfl rfl ?_)
          refine op (OpS.rem rfl rfl rfl rfl (by decide) ?_)
          refine op (OpS.bin rfl rfl rfl rfl rfl ?_)
          refine op (OpS.pick rfl rfl rfl rfl ?_)
          refine RunL.nil ?_
          refine Run.slim [(103, .bool ((Int.tmod s3.2.1 2) == 0)), (17, .int .u16 (Int.tmod x2.ID 12)), (1, v1), (10, u5), (11, u6), (13, .int .u16 s3.1), (14, .int .i64 s3.2.1), (15, u9), (16, .int .u16 s4)] ⟨rfl, rfl, rfl, rfl, rfl, rfl, rfl, rfl, rfl, trivial⟩ ?_
          refine Run.slim [(1, v1), (10, u5), (11, u6), (13, .int .u16 s3.1), (14, .int .i64 s3.2.1), (15, u9), (16, .int .u16 s4), (17, .int .u16 (Int.tmod x2.ID 12)), (103, .bool ((Int.tmod s3.2.1 2) == 0))] ⟨rfl, rfl, rfl, rfl, rfl, rfl, rfl, rfl, rfl, trivial⟩ ?_
          exact hj4 ((Int.tmod s3.2.1 2) == 0) _ _ ⟨rfl, (h25.facts (.atm .z .nil)).picks (.cons .z (.cons .z (.cons .z .nil)))⟩ hF
         ·
          refine op (OpS.pass rfl rfl rfl ?_)
          refine op (OpS.pass rfl rfl rfl ?_)
          refine op (OpS.pass rfl rfl rfl ?_)
          refine op (OpS.pick rfl rfl rfl rfl ?_)
          refine RunL.nil ?_
          refine Run.slim [(103, .bool false), (17, .int .u16 (Int.tmod x2.ID 12)), (1, v1), (10, u5), (11, u6), (13, .int .u16 s3.1), (14, .int .i64 s3.2.1), (15, u9), (16, .int .u16 s4)] ⟨rfl, rfl, rfl, rfl, rfl, rfl, rfl, rfl, rfl, trivial⟩ ?_
          refine Run.slim [(1, v1), (10, u5), (11, u6), (13, .int .u16 s3.1), (14, .int .i64 s3.2.1), (15, u9), (16, .int .u16 s4), (17, .int .u16 (Int.tmod x2.ID 12)), (103, .bool false)] ⟨rfl, rfl, rfl, rfl, rfl, rfl, rfl, rfl, rfl, trivial⟩ ?_
          exact hj4 (false) _ _ ⟨rfl, (h25.facts (.atm .z .nil)).picks (.cons .z (.cons .z (.cons .z .nil)))⟩ hF
       ·
        refine Run.ite rfl hF (fun e75 hF => ?_) (fun e75 hF => ?_)
        ·
         refine Run.reg ?_
         refine op (OpS.fbox (o3 := 4) h24 .z PA.z fa56_4 rfl rfl rfl rfl ?_)
         refine op (OpS.loadBi h24 .z PA.a (Get.fld law11_Do.f4) ty32 rfl rfl rfl ?_)
         refine op (OpS.as rfl rfl rfl ?_)
         refine RunL.nil ?_
         refine Run.slim [(16, .int .u16 x2.Other), (15, u9), (1, v1), (10, u5), (11, u6), (13, .int .u16 s3.1), (14, .int .i64 s3.2.1)] ⟨rfl, rfl, rfl, rfl, rfl, rfl, rfl, trivial⟩ ?_
         refine Run.slim [(1, v1), (10, u5), (11, u6), (13, .int .u16 s3.1), (14, .int .i64 s3.2.1), (15, u9), (16, .int .u16 x2.Other)] ⟨rfl, rfl, rfl, rfl, rfl, rfl, rfl, trivial⟩ ?_
         exact hj3 (x2.Other) _ _ ⟨rfl, (h24.facts (.atm (.s (.s .z)) .nil)).picks (.cons (.s .z) (.cons (.s .z) (.cons .z .nil)))⟩ hF
        ·
         refine Run.skip ?_
         refine Run.slim [(1, v1), (10, u5), (11, u6), (13, .int .u16 s3.1), (14, .int .i64 s3.2.1), (15, u9), (16, .int .u16 s3.1)] ⟨rfl, rfl, rfl, rfl, rfl, rfl, rfl, trivial⟩ ?_
         exact hj3 (s3.1) _ _ ⟨rfl, (h24.facts (.atm (.s (.s .z)) .nil)).picks (.cons (.s .z) (.cons (.s .z) (.cons .z .nil)))⟩ hF
      ·
       refine Run.exit rfl ?_
       refine Run.seq ?_
       refine Run.reg ?_
       obtain ⟨y30, e76, hF⟩ := bindP_use hF
       refine op (OpS.callP h19 Try.func9 rfl rfl rfl rfl (vs := []) rfl (law11_awake_ok e76) .nil ?_)
       rintro _ w46 _ _ _ ⟨rfl, rfl, rfl, rfl⟩ h135
       have h136 := h135 rfl rfl
       simp only [List.cons_append, List.nil_append] at h136
       refine op (OpS.as rfl rfl rfl ?_)
       refine RunL.nil ?_
       refine Run.slim [(4, .bool y30)] ⟨rfl, trivial⟩ ?_
       refine Run.retP rfl (.tmp rfl .nil) ?_
       cases hF
       exact Post.mk' ⟨rfl, rfl, rfl, rfl⟩ (h136.picks .nil) .nil
    ·
     refine RunL.caseb hF (fun e77 hF => ?_) (fun e77 hF => ?_)
     ·
      refine op (OpS.pass rfl rfl rfl ?_)
      refine op (OpS.pass rfl rfl rfl ?_)
      refine op (OpS.pick rfl rfl rfl rfl ?_)
      refine RunL.nil ?_
      refine Run.slim [(78, .bool true), (11, u4), (10, u3), (1, v1)] ⟨rfl, rfl, rfl, rfl, trivial⟩ ?_
      refine Run.slim [(1, v1), (10, u3), (11, u4), (78, .bool true)] ⟨rfl, rfl, rfl, rfl, trivial⟩ ?_
      exact hj2 (true) _ _ ⟨rfl, (h15.facts (.atm .z .nil)).picks (.cons (.s .z) (.cons .z .nil))⟩ hF
     ·
      refine op (OpS.mv rfl rfl rfl ?_)
      refine op (OpS.bin rfl rfl rfl rfl rfl ?_)
      refine op (OpS.pick rfl rfl rfl rfl ?_)
      refine RunL.nil ?_
      refine Run.slim [(78, .bool (y6.2 != 0)), (11, u4), (10, u3), (1, v1)] ⟨rfl, rfl, rfl, rfl, trivial⟩ ?_
      refine Run.slim [(1, v1), (10, u3), (11, u4), (78, .bool (y6.2 != 0))] ⟨rfl, rfl, rfl, rfl, trivial⟩ ?_
      exact hj2 (y6.2 != 0) _ _ ⟨rfl, (h15.facts (.atm .z .nil)).picks (.cons (.s .z) (.cons .z .nil))⟩ hF
  ·
   refine RunL.caseb hF (fun e78 hF => ?_) (fun e78 hF => ?_)
   ·
    refine op (OpS.pass rfl rfl rfl ?_)
    refine op (OpS.pass rfl rfl rfl ?_)
    refine op (OpS.pass rfl rfl rfl ?_)
    refine op (OpS.pass rfl rfl rfl ?_)
    refine op (OpS.pass rfl rfl rfl ?_)
    refine op (OpS.pick rfl rfl rfl rfl ?_)
    refine RunL.nil ?_
    refine Run.slim [(59, .bool true), (0, .int .i64 a0), (1, v1)] ⟨rfl, rfl, rfl, trivial⟩ ?_
    refine Run.slim [(0, .int .i64 a0), (1, v1), (59, .bool true)] ⟨rfl, rfl, rfl, trivial⟩ ?_
    exact hj1 (true) _ _ ⟨rfl, (h8.facts (.atm .z .nil)).picks .nil⟩ hF
   ·
    refine op (OpS.mv rfl rfl rfl ?_)
    refine op (OpS.onilN h8 (.s .z) (fun _ G_ S_ w_ h_ => ptr_one1 G_ S_ w_ h_) Try.underlying25 rfl rfl rfl rfl ?_)
    refine op (OpS.mv rfl rfl rfl ?_)
    refine op (OpS.bin rfl rfl rfl rfl rfl ?_)
    refine op (OpS.neb Try.underlying4 rfl rfl rfl rfl ?_)
    refine op (OpS.pick rfl rfl rfl rfl ?_)
    refine RunL.nil ?_
    refine Run.slim [(59, .bool ((!y3.1.isNone) != (y4.2 == 0))), (0, .int .i64 a0), (1, v1)] ⟨rfl, rfl, rfl, trivial⟩ ?_
    refine Run.slim [(0, .int .i64 a0), (1, v1), (59, .bool ((!y3.1.isNone) != (y4.2 == 0)))] ⟨rfl, rfl, rfl, trivial⟩ ?_
    exact hj1 ((!y3.1.isNone) != (y4.2 == 0)) _ _ ⟨rfl, (h8.facts (.atm .z .nil)).picks .nil⟩ hF
end Lift
