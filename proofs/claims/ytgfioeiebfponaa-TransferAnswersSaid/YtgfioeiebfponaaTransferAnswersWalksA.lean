/- Each Go function computes its plain function. Written by lift.py. -/
import Derived.Test.YtgfioeiebfponaaFacts
set_option linter.unusedVariables false
set_option linter.unusedSimpArgs false
namespace Lift
open Go Go.Proofs
open RunL (op)
theorem transfer_right_ok {fuel : Nat} {a0 : Int} {a1 : Int} {y : Bool} (hF : transfer_right fuel a0 a1 = some y) {w : World} :
  Spec Try.prog 31 [.int .i64 a0, .int .i64 a1].toArray w [] [] (fun v Γr Ωr Ωo => v = .bool y ∧ Γr = [] ∧ Ωr = [] ∧ Ωo = []) := by
 refine Spec.of (L := [(0, .int .i64 a0), (1, .int .i64 a1)]) Try.func31 rfl ⟨rfl, rfl, trivial⟩ rfl (fun e h => ?_)
 unfold transfer_right at hF
 refine Run.seq ?_
 refine Run.reg ?_
 refine op (OpS.as rfl rfl rfl ?_)
 refine RunL.nil ?_
 refine Run.slim [(0, .int .i64 a0), (1, .int .i64 a1)] ⟨rfl, rfl, trivial⟩ ?_
 refine Run.seq ?_
 refine Run.reg ?_
 refine op (OpS.mv rfl rfl rfl ?_)
 refine op (OpS.bin rfl rfl rfl rfl rfl ?_)
 refine op (OpS.mv rfl rfl rfl ?_)
 refine RunL.caseb hF (fun e1 hF => ?_) (fun e1 hF => ?_)
 ·
  refine op (OpS.mv rfl rfl rfl ?_)
  refine op (OpS.bin rfl rfl rfl rfl rfl ?_)
  refine op (OpS.pick rfl rfl rfl rfl ?_)
  refine op (OpS.mv rfl rfl rfl ?_)
  refine RunL.caseb hF (fun e2 hF => ?_) (fun e2 hF => ?_)
  ·
   refine op (OpS.mv rfl rfl rfl ?_)
   refine op (OpS.bin rfl rfl rfl rfl rfl ?_)
   refine op (OpS.pick rfl rfl rfl rfl ?_)
   refine op (OpS.mv rfl rfl rfl ?_)
   refine RunL.caseb hF (fun e3 hF => ?_) (fun e3 hF => ?_)
   ·
    refine op (OpS.mv rfl rfl rfl ?_)
    refine op (OpS.bin rfl rfl rfl rfl rfl ?_)
    refine op (OpS.pick rfl rfl rfl rfl ?_)
    refine op (OpS.as rfl rfl rfl ?_)
    obtain ⟨x1, e4, hF⟩ := letP_use hF
    refine RunL.nameb e4 ?_
    refine RunL.nil ?_
    refine Run.slim [(4, .bool x1)] ⟨rfl, trivial⟩ ?_
    refine Run.retP rfl (.tmp rfl .nil) ?_
    cases hF
    exact Post.mk' ⟨rfl, rfl, rfl, rfl⟩ (h.picks .nil) .nil
   ·
    refine op (OpS.pass rfl rfl rfl ?_)
    refine op (OpS.pass rfl rfl rfl ?_)
    refine op (OpS.pick rfl rfl rfl rfl ?_)
    refine op (OpS.as rfl rfl rfl ?_)
    refine RunL.nil ?_
    refine Run.slim [(4, .bool false)] ⟨rfl, trivial⟩ ?_
    refine Run.retP rfl (.tmp rfl .nil) ?_
    cases hF
    exact Post.mk' ⟨rfl, rfl, rfl, rfl⟩ (h.picks .nil) .nil
  ·
   refine op (OpS.pass rfl rfl rfl ?_)
   refine op (OpS.pass rfl rfl rfl ?_)
   refine op (OpS.pick rfl rfl rfl rfl ?_)
   refine op (OpS.mv rfl rfl rfl ?_)
   refine op (OpS.pass rfl rfl rfl ?_)
   refine op (OpS.pass rfl rfl rfl ?_)
   refine op (OpS.pick rfl rfl rfl rfl ?_)
   refine op (OpS.as rfl rfl rfl ?_)
   refine RunL.nil ?_
   refine Run.slim [(4, .bool false)] ⟨rfl, trivial⟩ ?_
   refine Run.retP rfl (.tmp rfl .nil) ?_
   cases hF
   exact Post.mk' ⟨rfl, rfl, rfl, rfl⟩ (h.picks .nil) .nil
 ·
  refine op (OpS.pass rfl rfl rfl ?_)
  refine op (OpS.pass rfl rfl rfl ?_)
  refine op (OpS.pick rfl rfl rfl rfl ?_)
  refine op (OpS.mv rfl rfl rfl ?_)
  refine op (OpS.pass rfl rfl rfl ?_)
  refine op (OpS.pass rfl rfl rfl ?_)
  refine op (OpS.pick rfl rfl rfl rfl ?_)
  refine op (OpS.mv rfl rfl rfl ?_)
  refine op (OpS.pass rfl rfl rfl ?_)
  refine op (OpS.pass rfl rfl rfl ?_)
  refine op (OpS.pick rfl rfl rfl rfl ?_)
  refine op (OpS.as rfl rfl rfl ?_)
  refine RunL.nil ?_
  refine Run.slim [(4, .bool false)] ⟨rfl, trivial⟩ ?_
  refine Run.retP rfl (.tmp rfl .nil) ?_
  cases hF
  exact Post.mk' ⟨rfl, rfl, rfl, rfl⟩ (h.picks .nil) .nil
theorem transfer_count_ok {fuel : Nat} {a0 : Int} {a1 : Int} {y : Int} (hF : transfer_count fuel a0 a1 = some y) {w : World} :
  Spec Try.prog 32 [.int .i64 a0, .int .i64 a1].toArray w [] [] (fun v Γr Ωr Ωo => v = .int .i64 y ∧ Γr = [] ∧ Ωr = [] ∧ Ωo = []) := by
 refine Spec.of (L := [(0, .int .i64 a0), (1, .int .i64 a1)]) Try.func32 rfl ⟨rfl, rfl, trivial⟩ rfl (fun e h => ?_)
 unfold transfer_count at hF
 refine Run.seq ?_
 refine Run.reg ?_
 refine op (OpS.as rfl rfl rfl ?_)
 refine RunL.nil ?_
 refine Run.slim [(0, .int .i64 a0), (1, .int .i64 a1)] ⟨rfl, rfl, trivial⟩ ?_
 refine Run.seq ?_
 refine Run.reg ?_
 refine op (OpS.mv rfl rfl rfl ?_)
 refine op (OpS.mv rfl rfl rfl ?_)
 refine op (OpS.bin rfl rfl rfl rfl rfl ?_)
 refine op (OpS.bin rfl rfl rfl rfl rfl ?_)
 refine op (OpS.mv rfl rfl rfl ?_)
 obtain ⟨e1, hF⟩ := chk_use hF
 refine op (OpS.quo rfl rfl rfl rfl e1 ?_)
 refine op (OpS.as rfl rfl rfl ?_)
 obtain ⟨x1, e2, hF⟩ := letP_use hF
 refine RunL.name e2 ?_
 refine RunL.nil ?_
 refine Run.slim [(4, .int .i64 x1)] ⟨rfl, trivial⟩ ?_
 refine Run.retP rfl (.tmp rfl .nil) ?_
 cases hF
 exact Post.mk' ⟨rfl, rfl, rfl, rfl⟩ (h.picks .nil) .nil
theorem transfer_New_ok {fuel : Nat} {a0 : Int} {a1 : Int} {y : Download_ × Int} (hF : transfer_New fuel a0 a1 = some y) {w : World} :
  Spec Try.prog 13 [.int .i64 a0, .int .i64 a1].toArray w [] [] (fun v Γr Ωr Ωo => ∃ u0 : Value, v = .tuple #[u0, .int .i64 y.2] ∧ Γr = [(true, .val Download_.rep u0 y.1)] ∧ Ωr = [] ∧ Ωo = []) := by
 refine Spec.of (L := [(0, .int .i64 a0), (1, .int .i64 a1)]) Try.func13 rfl ⟨rfl, rfl, trivial⟩ rfl (fun e h => ?_)
 unfold transfer_New at hF
 refine Run.seq ?_
 refine Run.reg ?_
 refine op (OpS.alloc h ti28 Download_.zr rfl rfl (fun u1 w1 h1 => ?_))
 refine op (OpS.as rfl rfl rfl ?_)
 refine RunL.nil ?_
 refine Run.slim [(4, u1), (0, .int .i64 a0), (1, .int .i64 a1)] ⟨rfl, rfl, rfl, trivial⟩ ?_
 refine Run.seq ?_
 refine Run.seq ?_
 refine Run.reg ?_
 refine op (OpS.mv rfl rfl rfl ?_)
 refine op (OpS.mv rfl rfl rfl ?_)
 obtain ⟨y1, e1, hF⟩ := bindP_use hF
 refine op (OpS.callP h1 Try.func31 rfl rfl rfl rfl (vs := [.int .i64 a0, .int .i64 a1]) rfl (transfer_right_ok e1) .nil ?_)
 rintro _ w2 _ _ _ ⟨rfl, rfl, rfl, rfl⟩ h2
 have h3 := h2 rfl rfl
 simp only [List.cons_append, List.nil_append] at h3
 refine op (OpS.not rfl rfl rfl ?_)
 refine RunL.nil ?_
 refine Run.slim [(9, .bool (!y1)), (4, u1), (0, .int .i64 a0), (1, .int .i64 a1)] ⟨rfl, rfl, rfl, rfl, trivial⟩ ?_
 refine Run.ite rfl hF (fun e2 hF => ?_) (fun e2 hF => ?_)
 ·
  refine Run.seq ?_
  refine Run.reg ?_
  refine op (OpS.build (f := true) (x' := Download_.z) h3 pl28 ti28 Download_.zr rfl rfl rfl .nil (fun u2 h4 => ?_))
  refine op (OpS.storeB (f' := true) h4 .z PA.z Put.id ty28 rfl rfl rfl (V.at .z) (.inl rfl) (fun w3 h5 => ?_))
  refine op (OpS.as rfl rfl rfl ?_)
  refine RunL.nil ?_
  refine Run.slim [(5, .int .i64 2), (4, u1)] ⟨rfl, rfl, trivial⟩ ?_
  obtain ⟨u3, hu1, h6⟩ := res_box h5 .z ty28
  refine Run.retP rfl (.cell rfl hu1 (.tmp rfl .nil)) ?_
  cases hF
  exact Post.mk' ⟨u3, rfl, rfl, rfl, rfl⟩ (h6.picks .nil) (.val (V.at .z) .nil)
 ·
  refine Run.skip ?_
  refine Run.seq ?_
  obtain ⟨y2, e3, hF⟩ := bindP_use hF
  obtain ⟨x1, e4, hF⟩ := bindP_use hF
  obtain ⟨x2, e5, hF⟩ := bindP_use hF
  refine Run.drawV (Ωs := [(true, .box 28 Download_.rep u1 Download_.z)]) [⟨some 11, some (.int .i64 a0), fun _ => [], fun ds_ u_ => [], [], [], none⟩, ⟨some 12, some (.int .i64 a1), fun _ => [], fun ds_ u_ => [], [], [], none⟩, ⟨some 13, some (.int .i64 a0), fun _ => [], fun ds_ u_ => [], [], [], none⟩, ⟨some 14, some (.int .i64 a1), fun _ => [], fun ds_ u_ => [], [], [], none⟩, ⟨some 15, some (.int .i64 y2), fun _ => [], fun ds_ u_ => [], [], [], none⟩, ⟨some 16, none, fun u_ => [(true, .val (Rep.slice Rep.bool) u_ x1)], fun ds_ u_ => [], [], [], none⟩, ⟨some 17, some (.int .i64 a0), fun _ => [], fun ds_ u_ => [], [], [], none⟩, ⟨some 18, none, fun u_ => [(true, .val (Rep.slice (Rep.int .u8)) u_ x2)], fun ds_ u_ => [], [], [], none⟩, ⟨some 19, none, fun u_ => [(true, .val Download_.rep u_ (⟨a0, a1, x1, x2⟩ : Download_))], fun ds_ u_ => [], [], [], none⟩] [[], [], [], [], [2, 3], [4], [], [6], [0, 1, 5, 7]] [] [0, 1, 2, 3, 4, 5, 6, 7, 8] Try_mixed rfl rfl rfl h3 (.cons ?_ (.cons ?_ (.cons ?_ (.cons ?_ (.cons ?_ (.cons ?_ (.cons ?_ (.cons ?_ (.cons ?_ .nil))))))))) (fun q1 w hq1 h => ?_)
  ·intro q1 w Γx Ωx h
   refine OpS.mv rfl rfl rfl ?_
   exact ⟨undef, rfl, trivial, h⟩
  ·intro q1 w Γx Ωx h
   refine OpS.mv rfl rfl rfl ?_
   exact ⟨undef, rfl, trivial, h⟩
  ·intro q1 w Γx Ωx h
   refine OpS.mv rfl rfl rfl ?_
   exact ⟨undef, rfl, trivial, h⟩
  ·intro q1 w Γx Ωx h
   refine OpS.mv rfl rfl rfl ?_
   exact ⟨undef, rfl, trivial, h⟩
  ·intro q1 w Γx Ωx h
   refine OpS.callP h Try.func32 rfl rfl rfl rfl (vs := [.int .i64 a0, .int .i64 a1]) rfl (transfer_count_ok e3) .nil ?_
   rintro _ w7 _ _ _ ⟨rfl, rfl, rfl, rfl⟩ h12
   have h13 := h12 rfl rfl
   simp only [List.cons_append, List.nil_append] at h13
   exact ⟨undef, rfl, trivial, h13⟩
  ·intro q1 w Γx Ωx h
   refine OpS.make h Try.underlying26 ti4 rfl rfl (Zr.bool false) rfl rfl rfl rfl e4 (by simp) (mk_fits e4) rfl (fun u w8 h14 => ?_)
   exact ⟨u, rfl, trivial, (h14.freeze)⟩
  ·intro q1 w Γx Ωx h
   refine OpS.mv rfl rfl rfl ?_
   exact ⟨undef, rfl, trivial, h⟩
  ·intro q1 w Γx Ωx h
   refine OpS.make h Try.underlying22 ti5 rfl rfl (Zr.int .u8 0) rfl rfl rfl rfl e5 (by simp) (mk_fits e5) rfl (fun u w9 h15 => ?_)
   exact ⟨u, rfl, trivial, (h15.freeze)⟩
  ·intro q1 w Γx Ωx h
   refine OpS.build (f := true) (x' := (⟨a0, a1, x1, x2⟩ : Download_)) h pl28 ti28 Download_.zr rfl rfl rfl (.cons rfl Download_.f0 rfl V.int (.cons rfl Download_.f1 rfl V.int (.cons rfl Download_.f2 rfl (V.at .z) (.cons rfl Download_.f3 rfl (V.at (.s .z)) .nil)))) (fun u h16 => ?_)
   exact ⟨u, rfl, trivial, h16⟩
  have h17 : St e w [(true, .val (Rep.slice Rep.bool) (q1 5) x1), (true, .val (Rep.slice (Rep.int .u8)) (q1 7) x2), (true, .val Download_.rep (q1 8) (⟨a0, a1, x1, x2⟩ : Download_))] [(true, .box 28 Download_.rep u1 Download_.z)] := h
  refine op (OpS.storeB (f' := true) h17 .z PA.z Put.id ty28 rfl rfl rfl (V.at (.s (.s .z))) (.inl rfl) (fun w10 h18 => ?_))
  refine op (OpS.as rfl rfl rfl ?_)
  refine RunL.nil ?_
  refine Run.slim [(5, .int .i64 0), (4, u1)] ⟨rfl, rfl, trivial⟩ ?_
  obtain ⟨u4, hu2, h19⟩ := res_box h18 .z ty28
  refine Run.retP rfl (.cell rfl hu2 (.tmp rfl .nil)) ?_
  cases hF
  exact Post.mk' ⟨u4, rfl, rfl, rfl, rfl⟩ (h19.picks .nil) (.val (V.at .z) .nil)
theorem transfer_piece_ok {fuel : Nat} {a0 : Download_} {a1 : Int} {y : (List Int)} (hF : transfer_piece fuel a0 a1 = some y) {w : World} {v0 : Value} :
  Spec Try.prog 27 [v0, .int .i64 a1].toArray w [(false, .val Download_.rep v0 a0)] [] (fun v Γr Ωr Ωo => ∃ u0 : Value, v = u0 ∧ Γr = [(false, .val (Rep.slice (Rep.int .u8)) u0 y)] ∧ Ωr = [] ∧ Ωo = []) := by
 refine Spec.of (L := [(0, v0), (1, .int .i64 a1)]) Try.func27 rfl ⟨rfl, rfl, trivial⟩ rfl (fun e h => ?_)
 unfold transfer_piece at hF
 refine Run.seq ?_
 refine Run.reg ?_
 refine op (OpS.boxF h rfl rfl rfl (V.at .z) (fun u1 w1 h1 => ?_))
 refine op (OpS.as rfl rfl rfl ?_)
 refine RunL.nil ?_
 refine Run.slim [(2, u1), (1, .int .i64 a1)] ⟨rfl, rfl, trivial⟩ ?_
 refine Run.seq ?_
 refine Run.reg ?_
 refine op (OpS.mv rfl rfl rfl ?_)
 refine op (OpS.fbox (o3 := 1) h1 .z PA.z fa28_1 rfl rfl rfl rfl ?_)
 refine op (OpS.loadBi h1 .z PA.a (Get.fld Download_.f1) ty3 rfl rfl rfl ?_)
 refine op (OpS.bin rfl rfl rfl rfl rfl ?_)
 refine op (OpS.as rfl rfl rfl ?_)
 obtain ⟨x1, e1, hF⟩ := letP_use hF
 refine RunL.name e1 ?_
 refine RunL.nil ?_
 refine Run.slim [(5, .int .i64 x1), (2, u1)] ⟨rfl, rfl, trivial⟩ ?_
 refine Run.seq ?_
 refine Run.reg ?_
 refine op (OpS.mv rfl rfl rfl ?_)
 refine op (OpS.fbox (o3 := 1) h1 .z PA.z fa28_1 rfl rfl rfl rfl ?_)
 refine op (OpS.loadBi h1 .z PA.a (Get.fld Download_.f1) ty3 rfl rfl rfl ?_)
 refine op (OpS.bin rfl rfl rfl rfl rfl ?_)
 refine op (OpS.fbox (o3 := 0) h1 .z PA.z fa28_0 rfl rfl rfl rfl ?_)
 refine op (OpS.loadBi h1 .z PA.a (Get.fld Download_.f0) ty3 rfl rfl rfl ?_)
 refine op (OpS.mini rfl rfl rfl rfl ?_)
 refine op (OpS.as rfl rfl rfl ?_)
 obtain ⟨x2, e2, hF⟩ := letP_use hF
 refine RunL.name e2 ?_
 refine RunL.nil ?_
 refine Run.slim [(6, .int .i64 x2), (5, .int .i64 x1), (2, u1)] ⟨rfl, rfl, rfl, trivial⟩ ?_
 refine Run.seq ?_
 refine Run.reg ?_
 refine op (OpS.fbox (o3 := 3) h1 .z PA.z fa28_3 rfl rfl rfl rfl ?_)
 refine op (OpS.loadB h1 .z PA.a (Get.fld Download_.f3) ty22 rfl rfl rfl (fun u2 h2 => ?_))
 refine op (OpS.mv rfl rfl rfl ?_)
 refine op (OpS.mv rfl rfl rfl ?_)
 refine op (OpS.mv rfl rfl rfl ?_)
 obtain ⟨x3, e3, hF⟩ := bindP_use hF
 refine op (OpS.sub3F h2 Try.underlying22 ty5 rfl rfl rfl rfl rfl rfl (V.at .z) e3 (fun u3 h3 => ?_))
 refine op (OpS.as rfl rfl rfl ?_)
 refine RunL.nil ?_
 refine Run.slim [(4, u3)] ⟨rfl, trivial⟩ ?_
 refine Run.retP rfl (.tmp rfl .nil) ?_
 cases hF
 exact Post.mk' ⟨u3, rfl, rfl, rfl, rfl⟩ (h3.picks .nil) (.val (V.at .z) .nil)
theorem transfer_Valid_1_ok {fuel : Nat} {a0 : Int} {y : Bool} (hF : transfer_Valid_1 fuel a0 = some y) {w : World} :
  Spec Try.prog 37 [.int .u8 a0].toArray w [] [] (fun v Γr Ωr Ωo => v = .bool y ∧ Γr = [] ∧ Ωr = [] ∧ Ωo = []) := by
 refine Spec.of (L := [(0, .int .u8 a0)]) Try.func37 rfl ⟨rfl, trivial⟩ rfl (fun e h => ?_)
 unfold transfer_Valid_1 at hF
 refine Run.seq ?_
 refine Run.reg ?_
 refine op (OpS.as rfl rfl rfl ?_)
 refine RunL.nil ?_
 refine Run.slim [(0, .int .u8 a0)] ⟨rfl, trivial⟩ ?_
 refine Run.seq ?_
 refine Run.reg ?_
 refine op (OpS.mv rfl rfl rfl ?_)
 refine op (OpS.bin rfl rfl rfl rfl rfl ?_)
 refine op (OpS.as rfl rfl rfl ?_)
 obtain ⟨x1, e1, hF⟩ := letP_use hF
 refine RunL.nameb e1 ?_
 refine RunL.nil ?_
 refine Run.slim [(2, .bool x1)] ⟨rfl, trivial⟩ ?_
 refine Run.retP rfl (.tmp rfl .nil) ?_
 cases hF
 exact Post.mk' ⟨rfl, rfl, rfl, rfl⟩ (h.picks .nil) .nil
theorem slices_IndexFunc_byte_byte_transfer_Valid_1_ok {fuel : Nat} {a0 : List Int} {y : Int} (hF : slices_IndexFunc_byte_byte_transfer_Valid_1 fuel a0 = some y) {w : World} {v0 : Value} :
  Spec Try.prog 39 [v0, .func (.func 37) #[] #[]].toArray w [(false, .val (Rep.slice (Rep.int .u8)) v0 a0)] [] (fun v Γr Ωr Ωo => v = .int .i64 y ∧ Γr = [] ∧ Ωr = [] ∧ Ωo = []) := by
 refine Spec.of (L := [(0, v0), (1, .func (.func 37) #[] #[])]) Try.func39 rfl ⟨rfl, rfl, trivial⟩ rfl (fun e h => ?_)
 unfold slices_IndexFunc_byte_byte_transfer_Valid_1 at hF
 refine Run.seq ?_
 refine Run.reg ?_
 refine op (OpS.as rfl rfl rfl ?_)
 refine RunL.nil ?_
 refine Run.slim [(0, v0), (1, .func (.func 37) #[] #[])] ⟨rfl, rfl, trivial⟩ ?_
 refine Run.seq ?_
 refine Run.seq ?_
 refine Run.reg ?_
 refine op (OpS.mv rfl rfl rfl ?_)
 refine op (OpS.len h Try.underlying22 rfl rfl rfl (V.at .z) ?_)
 refine op (OpS.mv rfl rfl rfl ?_)
 refine RunL.nil ?_
 refine Run.slim [(8, .int .i64 0), (7, .int .i64 (a0.length : Int)), (0, v0), (1, .func (.func 37) #[] #[])] ⟨rfl, rfl, rfl, rfl, trivial⟩ ?_
 refine Run.block ?_
 refine Run.slim [(0, v0), (1, .func (.func 37) #[] #[]), (7, .int .i64 (a0.length : Int)), (8, .int .i64 0)] ⟨rfl, rfl, rfl, rfl, trivial⟩ ?_
 refine Run.loopP (σ := Int) (fun s_ L_ w_ => L_ = [(0, v0), (1, .func (.func 37) #[] #[]), (7, .int .i64 (a0.length : Int)), (8, .int .i64 s_)] ∧ St e w_ [(false, .val (Rep.slice (Rep.int .u8)) v0 a0)] []) hF ⟨rfl, (h.facts (.atm .z .nil)).picks .nil⟩ (fun k1 hk1 s1 _ w1 hI hF => ?_)
 obtain ⟨rfl, h1⟩ := hI
 refine Run.seq ?_
 refine Run.reg ?_
 refine op (OpS.bin rfl rfl rfl rfl rfl ?_)
 refine RunL.nil ?_
 refine Run.seq ?_
 refine Run.ite rfl hF (fun e1 hF => ?_) (fun e1 hF => ?_)
 ·
  refine Run.skip ?_
  refine Run.seq ?_
  refine Run.block ?_
  refine Run.seq ?_
  refine Run.reg ?_
  refine op (OpS.mv rfl rfl rfl ?_)
  refine op (OpS.as rfl rfl rfl ?_)
  refine RunL.nil ?_
  refine Run.slim [(5, .int .i64 s1), (0, v0), (1, .func (.func 37) #[] #[]), (7, .int .i64 (a0.length : Int)), (8, .int .i64 s1)] ⟨rfl, rfl, rfl, rfl, rfl, trivial⟩ ?_
  refine Run.seq ?_
  refine Run.reg ?_
  refine op (OpS.mv rfl rfl rfl ?_)
  refine op (OpS.mv rfl rfl rfl ?_)
  refine op (OpS.mv rfl rfl rfl ?_)
  obtain ⟨x1, e2, hF⟩ := bindP_use hF
  refine op (OpS.iptr h1 Try.underlying22 ty5 rfl rfl rfl rfl (V.at .z) e2 (fun u1 h2 => ?_))
  refine op (OpS.loadi h2 ty5 rfl rfl rfl .z ?_)
  obtain ⟨y1, e3, hF⟩ := bindP_use hF
  refine op (OpS.callPF (fl := []) (cl := []) h2 Try.func37 rfl rfl rfl rfl rfl (vs := [.int .u8 x1]) rfl (transfer_Valid_1_ok e3) .nil ?_)
  rintro _ w2 _ _ _ ⟨rfl, rfl, rfl, rfl⟩ h3
  have h4 := h3 rfl rfl
  simp only [List.cons_append, List.nil_append] at h4
  refine RunL.nil ?_
  refine Run.slim [(16, .bool y1), (5, .int .i64 s1), (0, v0), (1, .func (.func 37) #[] #[]), (7, .int .i64 (a0.length : Int)), (8, .int .i64 s1)] ⟨rfl, rfl, rfl, rfl, rfl, rfl, trivial⟩ ?_
  refine Run.ite rfl hF (fun e4 hF => ?_) (fun e4 hF => ?_)
  ·
   refine Run.seq ?_
   refine Run.reg ?_
   refine op (OpS.mv rfl rfl rfl ?_)
   refine op (OpS.as rfl rfl rfl ?_)
   refine RunL.nil ?_
   refine Run.slim [(4, .int .i64 s1)] ⟨rfl, trivial⟩ ?_
   refine Run.retP rfl (.tmp rfl .nil) ?_
   cases hF
   exact Post.mk' ⟨rfl, rfl, rfl, rfl⟩ (h4.picks .nil) .nil
  ·
   refine Run.skip ?_
   refine Run.endBlock ?_
   refine Run.reg ?_
   refine op (OpS.bin rfl rfl rfl rfl rfl ?_)
   refine op (OpS.mv rfl rfl rfl ?_)
   refine RunL.nil ?_
   refine Run.slim [(8, .int .i64 (IntKind.i64.wrap (s1 + 1))), (0, v0), (1, .func (.func 37) #[] #[]), (7, .int .i64 (a0.length : Int))] ⟨rfl, rfl, rfl, rfl, trivial⟩ ?_
   refine Run.slim [(0, v0), (1, .func (.func 37) #[] #[]), (7, .int .i64 (a0.length : Int)), (8, .int .i64 (IntKind.i64.wrap (s1 + 1)))] ⟨rfl, rfl, rfl, rfl, trivial⟩ ?_
   exact hk1 ((IntKind.i64.wrap (s1 + 1))) _ _ ⟨rfl, (h4.facts (.atm (.s .z) .nil)).picks .nil⟩ hF
 ·
  refine Run.exit rfl ?_
  refine Run.seq ?_
  refine Run.reg ?_
  refine op (OpS.as rfl rfl rfl ?_)
  refine RunL.nil ?_
  refine Run.slim [(4, .int .i64 (-1))] ⟨rfl, trivial⟩ ?_
  refine Run.retP rfl (.tmp rfl .nil) ?_
  cases hF
  exact Post.mk' ⟨rfl, rfl, rfl, rfl⟩ (h1.picks .nil) .nil
theorem slices_ContainsFunc_byte_byte_transfer_Valid_1_ok {fuel : Nat} {a0 : List Int} {y : Bool} (hF : slices_ContainsFunc_byte_byte_transfer_Valid_1 fuel a0 = some y) {w : World} {v0 : Value} :
  Spec Try.prog 36 [v0, .func (.func 37) #[] #[]].toArray w [(false, .val (Rep.slice (Rep.int .u8)) v0 a0)] [] (fun v Γr Ωr Ωo => v = .bool y ∧ Γr = [] ∧ Ωr = [] ∧ Ωo = []) := by
 refine Spec.of (L := [(0, v0), (1, .func (.func 37) #[] #[])]) Try.func36 rfl ⟨rfl, rfl, trivial⟩ rfl (fun e h => ?_)
 unfold slices_ContainsFunc_byte_byte_transfer_Valid_1 at hF
 refine Run.seq ?_
 refine Run.reg ?_
 refine op (OpS.as rfl rfl rfl ?_)
 refine RunL.nil ?_
 refine Run.slim [(0, v0), (1, .func (.func 37) #[] #[])] ⟨rfl, rfl, trivial⟩ ?_
 refine Run.seq ?_
 refine Run.reg ?_
 refine op (OpS.mv rfl rfl rfl ?_)
 refine op (OpS.mv rfl rfl rfl ?_)
 obtain ⟨y1, e1, hF⟩ := bindP_use hF
 refine op (OpS.callP h Try.func39 rfl rfl rfl rfl (vs := [v0, .func (.func 37) #[] #[]]) rfl (slices_IndexFunc_byte_byte_transfer_Valid_1_ok e1) (.cons (f := false) (V.at .z) .nil) ?_)
 rintro _ w1 _ _ _ ⟨rfl, rfl, rfl, rfl⟩ h1
 have h2 := h1 rfl rfl
 simp only [List.cons_append, List.nil_append] at h2
 refine op (OpS.bin rfl rfl rfl rfl rfl ?_)
 refine op (OpS.as rfl rfl rfl ?_)
 obtain ⟨x1, e2, hF⟩ := letP_use hF
 refine RunL.nameb e2 ?_
 refine RunL.nil ?_
 refine Run.slim [(4, .bool x1)] ⟨rfl, trivial⟩ ?_
 refine Run.retP rfl (.tmp rfl .nil) ?_
 cases hF
 exact Post.mk' ⟨rfl, rfl, rfl, rfl⟩ (h2.picks .nil) .nil
set_option maxHeartbeats 8000000 in
theorem transfer_Valid_ok {fuel : Nat} {a0 : Download_} {y : Bool} (hF : transfer_Valid fuel a0 = some y) {w : World} {v0 : Value} :
  Spec Try.prog 22 [v0].toArray w [(false, .val Download_.rep v0 a0)] [] (fun v Γr Ωr Ωo => v = .bool y ∧ Γr = [] ∧ Ωr = [] ∧ Ωo = []) := by
 refine Spec.of (L := [(0, v0)]) Try.func22 rfl ⟨rfl, trivial⟩ rfl (fun e h => ?_)
 unfold transfer_Valid at hF
 refine Run.seq ?_
 refine Run.reg ?_
 refine op (OpS.boxF h rfl rfl rfl (V.at .z) (fun u1 w1 h1 => ?_))
 refine op (OpS.as rfl rfl rfl ?_)
 refine RunL.nil ?_
 refine Run.slim [(1, u1)] ⟨rfl, trivial⟩ ?_
 refine Run.seq ?_
 refine Run.seq ?_
 refine Run.join (σ := Bool) (fun s_ L_ w_ => L_ = [(1, u1), (29, .bool s_)] ∧ St e w_ [] [(false, .box 28 Download_.rep u1 a0)]) hF (fun s1 _ w2 hI hF => ?_) (fun j1 hj1 hF => ?_)
 ·
  obtain ⟨rfl, h2⟩ := hI
  refine Run.ite rfl hF (fun e1 hF => ?_) (fun e1 hF => ?_)
  ·
   refine Run.seq ?_
   refine Run.reg ?_
   refine op (OpS.as rfl rfl rfl ?_)
   refine RunL.nil ?_
   refine Run.slim [(2, .bool false)] ⟨rfl, trivial⟩ ?_
   refine Run.retP rfl (.tmp rfl .nil) ?_
   cases hF
   exact Post.mk' ⟨rfl, rfl, rfl, rfl⟩ (h2.picks .nil) .nil
  ·
   refine Run.skip ?_
   refine Run.seq ?_
   refine Run.seq ?_
   refine Run.reg ?_
   refine op (OpS.fbox (o3 := 2) h2 .z PA.z fa28_2 rfl rfl rfl rfl ?_)
   refine op (OpS.loadB h2 .z PA.a (Get.fld Download_.f2) ty26 rfl rfl rfl (fun u2 h3 => ?_))
   refine op (OpS.len h3 Try.underlying26 rfl rfl rfl (V.at .z) ?_)
   refine op (OpS.mv rfl rfl rfl ?_)
   refine RunL.nil ?_
   refine Run.slim [(33, .int .i64 0), (32, .int .i64 (a0.Have.length : Int)), (31, u2), (1, u1)] ⟨rfl, rfl, rfl, rfl, trivial⟩ ?_
   refine Run.block ?_
   refine Run.slim [(1, u1), (31, u2), (32, .int .i64 (a0.Have.length : Int)), (33, .int .i64 0)] ⟨rfl, rfl, rfl, rfl, trivial⟩ ?_
   refine Run.loopP (σ := Int) (fun s_ L_ w_ => L_ = [(1, u1), (31, u2), (32, .int .i64 (a0.Have.length : Int)), (33, .int .i64 s_)] ∧ St e w_ [(false, .val (Rep.slice Rep.bool) u2 a0.Have)] [(false, .box 28 Download_.rep u1 a0)]) hF ⟨rfl, (h3.facts (.atm .z .nil)).picks (.cons .z .nil)⟩ (fun k1 hk1 s2 _ w3 hI hF => ?_)
   obtain ⟨rfl, h4⟩ := hI
   refine Run.seq ?_
   refine Run.reg ?_
   refine op (OpS.bin rfl rfl rfl rfl rfl ?_)
   refine RunL.nil ?_
   refine Run.seq ?_
   refine Run.ite rfl hF (fun e2 hF => ?_) (fun e2 hF => ?_)
   ·
    refine Run.skip ?_
    refine Run.seq ?_
    refine Run.block ?_
    refine Run.seq ?_
    refine Run.reg ?_
    refine op (OpS.mv rfl rfl rfl ?_)
    obtain ⟨x1, e3, hF⟩ := bindP_use hF
    refine op (OpS.iptr h4 Try.underlying26 ty4 rfl rfl rfl rfl (V.at .z) e3 (fun u3 h5 => ?_))
    refine op (OpS.loadb h5 ty4 rfl rfl rfl .z ?_)
    refine op (OpS.as rfl rfl rfl ?_)
    refine op (OpS.as rfl rfl rfl ?_)
    refine RunL.nil ?_
    refine Run.slim [(4, .bool x1), (3, .int .i64 s2), (1, u1), (31, u2), (32, .int .i64 (a0.Have.length : Int)), (33, .int .i64 s2)] ⟨rfl, rfl, rfl, rfl, rfl, rfl, trivial⟩ ?_
    refine Run.seq ?_
    refine Run.reg ?_
    refine op (OpS.mv rfl rfl rfl ?_)
    refine op (OpS.not rfl rfl rfl ?_)
    refine op (OpS.mv rfl rfl rfl ?_)
    refine RunL.join (σ := Bool) (fun s_ L_ w_ => L_ = [(1, u1), (31, u2), (32, .int .i64 (a0.Have.length : Int)), (33, .int .i64 s2), (45, .bool s_)] ∧ St e w_ [(false, .val (Rep.slice Rep.bool) u2 a0.Have)] [(false, .box 28 Download_.rep u1 a0)]) hF (fun s3 _ w4 hI hF => ?_) (fun j2 hj2 hF => ?_)
    ·
     obtain ⟨rfl, h6⟩ := hI
     refine Run.ite rfl hF (fun e4 hF => ?_) (fun e4 hF => ?_)
     ·
      refine Run.seq ?_
      refine Run.reg ?_
      refine op (OpS.as rfl rfl rfl ?_)
      refine RunL.nil ?_
      refine Run.slim [(2, .bool false)] ⟨rfl, trivial⟩ ?_
      refine Run.retP rfl (.tmp rfl .nil) ?_
      cases hF
      exact Post.mk' ⟨rfl, rfl, rfl, rfl⟩ (h6.picks .nil) .nil
     ·
      refine Run.skip ?_
      refine Run.endBlock ?_
      refine Run.reg ?_
      refine op (OpS.bin rfl rfl rfl rfl rfl ?_)
      refine op (OpS.mv rfl rfl rfl ?_)
      refine RunL.nil ?_
      refine Run.slim [(33, .int .i64 (IntKind.i64.wrap (s2 + 1))), (1, u1), (31, u2), (32, .int .i64 (a0.Have.length : Int))] ⟨rfl, rfl, rfl, rfl, trivial⟩ ?_
      refine Run.slim [(1, u1), (31, u2), (32, .int .i64 (a0.Have.length : Int)), (33, .int .i64 (IntKind.i64.wrap (s2 + 1)))] ⟨rfl, rfl, rfl, rfl, trivial⟩ ?_
      exact hk1 ((IntKind.i64.wrap (s2 + 1))) _ _ ⟨rfl, (h6.facts (.atm .z .nil)).picks (.cons .z .nil)⟩ hF
    ·
     refine RunL.caseb hF (fun e5 hF => ?_) (fun e5 hF => ?_)
     ·
      refine op (OpS.loadB h5 .z PA.z Get.id ty28 rfl rfl rfl (fun u4 h7 => ?_))
      refine op (OpS.mv rfl rfl rfl ?_)
      obtain ⟨y1, e6, hF⟩ := bindP_use hF
      have h8 := h7.front .nil
      refine op (OpS.callO h8 Try.func27 rfl rfl rfl rfl (vs := [u4, .int .i64 s2]) rfl (transfer_piece_ok e6) rfl (.cons (f := false) (V.at .z) .nil) ?_)
      rintro u5 w5 _ _ _ ⟨_, rfl, rfl, rfl, rfl⟩ h9
      have h10 := h9
      simp only [List.cons_append, List.nil_append] at h10
      obtain ⟨y2, e7, hF⟩ := bindP_use hF
      refine op (OpS.callP h10 Try.func36 rfl rfl rfl rfl (vs := [u5, .func (.func 37) #[] #[]]) rfl (slices_ContainsFunc_byte_byte_transfer_Valid_1_ok e7) (.cons (f := false) (V.at .z) .nil) ?_)
      rintro _ w6 _ _ _ ⟨rfl, rfl, rfl, rfl⟩ h11
      have h12 := h11 rfl rfl
      simp only [List.cons_append, List.nil_append] at h12
      refine op (OpS.pick rfl rfl rfl rfl ?_)
      refine RunL.nil ?_
      refine Run.slim [(45, .bool y2), (1, u1), (31, u2), (32, .int .i64 (a0.Have.length : Int)), (33, .int .i64 s2)] ⟨rfl, rfl, rfl, rfl, rfl, trivial⟩ ?_
      refine Run.slim [(1, u1), (31, u2), (32, .int .i64 (a0.Have.length : Int)), (33, .int .i64 s2), (45, .bool y2)] ⟨rfl, rfl, rfl, rfl, rfl, trivial⟩ ?_
      exact hj2 (y2) _ _ ⟨rfl, (h12.facts (.atm (.s (.s (.s .z))) .nil)).picks (.cons .z .nil)⟩ hF
     ·
      refine op (OpS.pass rfl rfl rfl ?_)
      refine op (OpS.pass rfl rfl rfl ?_)
      refine op (OpS.pass rfl rfl rfl ?_)
      refine op (OpS.pass rfl rfl rfl ?_)
      refine op (OpS.pick rfl rfl rfl rfl ?_)
      refine RunL.nil ?_
      refine Run.slim [(45, .bool false), (1, u1), (31, u2), (32, .int .i64 (a0.Have.length : Int)), (33, .int .i64 s2)] ⟨rfl, rfl, rfl, rfl, rfl, trivial⟩ ?_
      refine Run.slim [(1, u1), (31, u2), (32, .int .i64 (a0.Have.length : Int)), (33, .int .i64 s2), (45, .bool false)] ⟨rfl, rfl, rfl, rfl, rfl, trivial⟩ ?_
      exact hj2 (false) _ _ ⟨rfl, (h5.facts (.atm (.s .z) .nil)).picks (.cons .z .nil)⟩ hF
   ·
    refine Run.exit rfl ?_
    refine Run.seq ?_
    refine Run.reg ?_
    refine op (OpS.as rfl rfl rfl ?_)
    refine RunL.nil ?_
    refine Run.slim [(2, .bool true)] ⟨rfl, trivial⟩ ?_
    refine Run.retP rfl (.tmp rfl .nil) ?_
    cases hF
    exact Post.mk' ⟨rfl, rfl, rfl, rfl⟩ (h4.picks .nil) .nil
 ·
  obtain ⟨y3, e8, hF⟩ := bindP_use hF
  obtain ⟨x2, e9, hF⟩ := letP_use hF
  refine iteP_use hF (fun e10 hF => ?_) (fun e10 hF => ?_)
  ·
   have hG := hF
   subst e10
   have hF := hG
   refine Run.drawV (Ωs := []) [⟨some 5, some ((padd u1 0)), fun _ => [], fun ds_ u_ => [], [], [(0, [])], none⟩, ⟨some 6, some (.int .i64 a0.Size), fun _ => [], fun ds_ u_ => [], [], [(0, [])], none⟩, ⟨some 7, some ((padd u1 1)), fun _ => [], fun ds_ u_ => [], [], [(0, [])], none⟩, ⟨some 8, some (.int .i64 a0.Part), fun _ => [], fun ds_ u_ => [], [], [(0, [])], none⟩, ⟨some 9, some (.bool y3), fun _ => [], fun ds_ u_ => [], [], [], none⟩, ⟨some 10, some (.bool (!y3)), fun _ => [], fun ds_ u_ => [], [], [], none⟩, ⟨some 11, some (.bool true), fun _ => [], fun ds_ u_ => [], [], [], none⟩, ⟨some 12, some undef, fun _ => [], fun _ _ => [], [], [], none⟩, ⟨some 13, some undef, fun _ => [], fun _ _ => [], [], [], none⟩, ⟨some 14, some undef, fun _ => [], fun _ _ => [], [], [], none⟩, ⟨some 15, some undef, fun _ => [], fun _ _ => [], [], [], none⟩, ⟨some 16, some undef, fun _ => [], fun _ _ => [], [], [], none⟩, ⟨some 17, some undef, fun _ => [], fun _ _ => [], [], [], none⟩, ⟨some 18, some undef, fun _ => [], fun _ _ => [], [], [], none⟩, ⟨some 19, some undef, fun _ => [], fun _ _ => [], [], [], none⟩, ⟨some 20, some undef, fun _ => [], fun _ _ => [], [], [], none⟩, ⟨some 21, some (.bool true), fun _ => [], fun ds_ u_ => [], [], [], none⟩, ⟨some 22, some (.bool true), fun _ => [], fun ds_ u_ => [], [], [], none⟩, ⟨some 23, some undef, fun _ => [], fun _ _ => [], [], [], none⟩, ⟨some 24, some undef, fun _ => [], fun _ _ => [], [], [], none⟩, ⟨some 25, some undef, fun _ => [], fun _ _ => [], [], [], none⟩, ⟨some 26, some undef, fun _ => [], fun _ _ => [], [], [], none⟩, ⟨some 27, some undef, fun _ => [], fun _ _ => [], [], [], none⟩, ⟨some 28, some undef, fun _ => [], fun _ _ => [], [], [], none⟩, ⟨some 29, some (.bool true), fun _ => [], fun ds_ u_ => [], [], [], none⟩] [[], [0], [], [2], [1, 3], [4], [5], [6], [6], [6], [6], [6], [6], [6], [6], [6], [6, 15], [16], [17], [17], [17], [17], [17], [17], [17, 23]] [[(false, .box 28 Download_.rep u1 a0)]] [0, 1, 2, 3, 4, 5, 6, 7, 8, 9, 10, 11, 12, 13, 14, 15, 16, 17, 18, 19, 20, 21, 22, 23, 24, 25] Try_mixed rfl rfl rfl h1 (.cons ?_ (.cons ?_ (.cons ?_ (.cons ?_ (.cons ?_ (.cons ?_ (.cons ?_ (.cons ?_ (.cons ?_ (.cons ?_ (.cons ?_ (.cons ?_ (.cons ?_ (.cons ?_ (.cons ?_ (.cons ?_ (.cons ?_ (.cons ?_ (.cons ?_ (.cons ?_ (.cons ?_ (.cons ?_ (.cons ?_ (.cons ?_ (.cons ?_ .nil))))))))))))))))))))))))) (fun q1 w hq1 h => ?_)
   ·intro q1 w Γx Ωx h
    have h : St e w ([(false, .val Download_.rep v0 a0)] ++ Γx) ([(false, .box 28 Download_.rep u1 a0)] ++ Ωx) := h
    refine OpS.fbox (o3 := 0) h .z PA.z fa28_0 rfl rfl rfl rfl ?_
    exact ⟨undef, rfl, trivial, h⟩
   ·intro q1 w Γx Ωx h
    have h : St e w ([(false, .val Download_.rep v0 a0)] ++ Γx) ([(false, .box 28 Download_.rep u1 a0)] ++ Ωx) := h
    refine OpS.loadBi h .z PA.a (Get.fld Download_.f0) ty3 rfl rfl rfl ?_
    exact ⟨undef, rfl, trivial, h⟩
   ·intro q1 w Γx Ωx h
    have h : St e w ([(false, .val Download_.rep v0 a0)] ++ Γx) ([(false, .box 28 Download_.rep u1 a0)] ++ Ωx) := h
    refine OpS.fbox (o3 := 1) h .z PA.z fa28_1 rfl rfl rfl rfl ?_
    exact ⟨undef, rfl, trivial, h⟩
   ·intro q1 w Γx Ωx h
    have h : St e w ([(false, .val Download_.rep v0 a0)] ++ Γx) ([(false, .box 28 Download_.rep u1 a0)] ++ Ωx) := h
    refine OpS.loadBi h .z PA.a (Get.fld Download_.f1) ty3 rfl rfl rfl ?_
    exact ⟨undef, rfl, trivial, h⟩
   ·intro q1 w Γx Ωx h
    refine OpS.callP h Try.func31 rfl rfl rfl rfl (vs := [.int .i64 a0.Size, .int .i64 a0.Part]) rfl (transfer_right_ok e8) .nil ?_
    rintro _ w8 _ _ _ ⟨rfl, rfl, rfl, rfl⟩ h15
    have h16 := h15 rfl rfl
    simp only [List.cons_append, List.nil_append] at h16
    exact ⟨undef, rfl, trivial, h16⟩
   ·intro q1 w Γx Ωx h
    refine OpS.not rfl rfl rfl ?_
    exact ⟨undef, rfl, trivial, h⟩
   ·intro q1 w Γx Ωx h
    refine OpS.mv rfl rfl rfl ?_
    exact ⟨undef, (congrArg (fun z_ => some (Value.bool z_)) e9), trivial, h⟩
   ·intro q1 w Γx Ωx h
    exact OpS.pass rfl rfl rfl ⟨undef, rfl, trivial, h⟩
   ·intro q1 w Γx Ωx h
    exact OpS.pass rfl rfl rfl ⟨undef, rfl, trivial, h⟩
   ·intro q1 w Γx Ωx h
    exact OpS.pass rfl rfl rfl ⟨undef, rfl, trivial, h⟩
   ·intro q1 w Γx Ωx h
    exact OpS.pass rfl rfl rfl ⟨undef, rfl, trivial, h⟩
   ·intro q1 w Γx Ωx h
    exact OpS.pass rfl rfl rfl ⟨undef, rfl, trivial, h⟩
   ·intro q1 w Γx Ωx h
    exact OpS.pass rfl rfl rfl ⟨undef, rfl, trivial, h⟩
   ·intro q1 w Γx Ωx h
    exact OpS.pass rfl rfl rfl ⟨undef, rfl, trivial, h⟩
   ·intro q1 w Γx Ωx h
    exact OpS.pass rfl rfl rfl ⟨undef, rfl, trivial, h⟩
   ·intro q1 w Γx Ωx h
    exact OpS.pass rfl rfl rfl ⟨undef, rfl, trivial, h⟩
   ·intro q1 w Γx Ωx h
    refine OpS.pick rfl rfl rfl rfl ?_
    exact ⟨undef, rfl, trivial, h⟩
   ·intro q1 w Γx Ωx h
    refine OpS.mv rfl rfl rfl ?_
    exact ⟨undef, rfl, trivial, h⟩
   ·intro q1 w Γx Ωx h
    exact OpS.pass rfl rfl rfl ⟨undef, rfl, trivial, h⟩
   ·intro q1 w Γx Ωx h
    exact OpS.pass rfl rfl rfl ⟨undef, rfl, trivial, h⟩
   ·intro q1 w Γx Ωx h
    exact OpS.pass rfl rfl rfl ⟨undef, rfl, trivial, h⟩
   ·intro q1 w Γx Ωx h
    exact OpS.pass rfl rfl rfl ⟨undef, rfl, trivial, h⟩
   ·intro q1 w Γx Ωx h
    exact OpS.pass rfl rfl rfl ⟨undef, rfl, trivial, h⟩
   ·intro q1 w Γx Ωx h
    exact OpS.pass rfl rfl rfl ⟨undef, rfl, trivial, h⟩
   ·intro q1 w Γx Ωx h
    refine OpS.pick rfl rfl rfl rfl ?_
    exact ⟨undef, rfl, trivial, h⟩
   have h17 : St e w [(false, .val Download_.rep v0 a0)] [(false, .box 28 Download_.rep u1 a0)] := h
   refine RunL.nil ?_
   refine Run.slim [(29, .bool true), (1, u1)] ⟨rfl, rfl, trivial⟩ ?_
   refine Run.slim [(1, u1), (29, .bool true)] ⟨rfl, rfl, trivial⟩ ?_
   exact hj1 (true) _ _ ⟨rfl, (h17.facts .nil).picks (.cons .z .nil)⟩ hF
  ·
   have hG := hF
   subst e10
   have hF := hG
   obtain ⟨y4, e11, hF⟩ := bindP_use hF
   obtain ⟨x3, e12, hF⟩ := letP_use hF
   refine iteP_use hF (fun e13 hF => ?_) (fun e13 hF => ?_)
   ·
    have hG := hF
    subst e13
    have hF := hG
    refine Run.drawV (Ωs := []) [⟨some 5, some ((padd u1 0)), fun _ => [], fun ds_ u_ => [], [], [(0, [])], none⟩, ⟨some 6, some (.int .i64 a0.Size), fun _ => [], fun ds_ u_ => [], [], [(0, [])], none⟩, ⟨some 7, some ((padd u1 1)), fun _ => [], fun ds_ u_ => [], [], [(0, [])], none⟩, ⟨some 8, some (.int .i64 a0.Part), fun _ => [], fun ds_ u_ => [], [], [(0, [])], none⟩, ⟨some 9, some (.bool y3), fun _ => [], fun ds_ u_ => [], [], [], none⟩, ⟨some 10, some (.bool (!y3)), fun _ => [], fun ds_ u_ => [], [], [], none⟩, ⟨some 11, some (.bool false), fun _ => [], fun ds_ u_ => [], [], [], none⟩, ⟨some 12, some ((padd u1 2)), fun _ => [], fun ds_ u_ => [], [], [(0, [])], none⟩, ⟨some 13, none, fun u_ => [(false, .val (Rep.slice Rep.bool) u_ a0.Have)], fun ds_ u_ => [], [], [(0, [])], none⟩, ⟨some 14, some (.int .i64 (a0.Have.length : Int)), fun _ => [], fun ds_ u_ => [], [], [], none⟩, ⟨some 15, some ((padd u1 0)), fun _ => [], fun ds_ u_ => [], [], [(0, [])], none⟩, ⟨some 16, some (.int .i64 a0.Size), fun _ => [], fun ds_ u_ => [], [], [(0, [])], none⟩, ⟨some 17, some ((padd u1 1)), fun _ => [], fun ds_ u_ => [], [], [(0, [])], none⟩, ⟨some 18, some (.int .i64 a0.Part), fun _ => [], fun ds_ u_ => [], [], [(0, [])], none⟩, ⟨some 19, some (.int .i64 y4), fun _ => [], fun ds_ u_ => [], [], [], none⟩, ⟨some 20, some (.bool ((a0.Have.length : Int) != y4)), fun _ => [], fun ds_ u_ => [], [], [], none⟩, ⟨some 21, some (.bool ((a0.Have.length : Int) != y4)), fun _ => [], fun ds_ u_ => [], [], [], none⟩, ⟨some 22, some (.bool true), fun _ => [], fun ds_ u_ => [], [], [], none⟩, ⟨some 23, some undef, fun _ => [], fun _ _ => [], [], [], none⟩, ⟨some 24, some undef, fun _ => [], fun _ _ => [], [], [], none⟩, ⟨some 25, some undef, fun _ => [], fun _ _ => [], [], [], none⟩, ⟨some 26, some undef, fun _ => [], fun _ _ => [], [], [], none⟩, ⟨some 27, some undef, fun _ => [], fun _ _ => [], [], [], none⟩, ⟨some 28, some undef, fun _ => [], fun _ _ => [], [], [], none⟩, ⟨some 29, some (.bool true), fun _ => [], fun ds_ u_ => [], [], [], none⟩] [[], [0], [], [2], [1, 3], [4], [5], [6], [7, 6], [8, 6], [6], [10, 6], [6], [12, 6], [11, 13, 6], [9, 14, 6], [6, 15], [16], [17], [17], [17], [17], [17], [17], [17, 23]] [[(false, .box 28 Download_.rep u1 a0)]] [0, 1, 2, 3, 4, 5, 6, 7, 8, 9, 10, 11, 12, 13, 14, 15, 16, 17, 18, 19, 20, 21, 22, 23, 24, 25] Try_mixed rfl rfl rfl h1 (.cons ?_ (.cons ?_ (.cons ?_ (.cons ?_ (.cons ?_ (.cons ?_ (.cons ?_ (.cons ?_ (.cons ?_ (.cons ?_ (.cons ?_ (.cons ?_ (.cons ?_ (.cons ?_ (.cons ?_ (.cons ?_ (.cons ?_ (.cons ?_ (.cons ?_ (.cons ?_ (.cons ?_ (.cons ?_ (.cons ?_ (.cons ?_ (.cons ?_ .nil))))))))))))))))))))))))) (fun q1 w hq2 h => ?_)
    ·intro q1 w Γx Ωx h
     have h : St e w ([(false, .val Download_.rep v0 a0)] ++ Γx) ([(false, .box 28 Download_.rep u1 a0)] ++ Ωx) := h
     refine OpS.fbox (o3 := 0) h .z PA.z fa28_0 rfl rfl rfl rfl ?_
     exact ⟨undef, rfl, trivial, h⟩
    ·intro q1 w Γx Ωx h
     have h : St e w ([(false, .val Download_.rep v0 a0)] ++ Γx) ([(false, .box 28 Download_.rep u1 a0)] ++ Ωx) := h
     refine OpS.loadBi h .z PA.a (Get.fld Download_.f0) ty3 rfl rfl rfl ?_
     exact ⟨undef, rfl, trivial, h⟩
    ·intro q1 w Γx Ωx h
     have h : St e w ([(false, .val Download_.rep v0 a0)] ++ Γx) ([(false, .box 28 Download_.rep u1 a0)] ++ Ωx) := h
     refine OpS.fbox (o3 := 1) h .z PA.z fa28_1 rfl rfl rfl rfl ?_
     exact ⟨undef, rfl, trivial, h⟩
    ·intro q1 w Γx Ωx h
     have h : St e w ([(false, .val Download_.rep v0 a0)] ++ Γx) ([(false, .box 28 Download_.rep u1 a0)] ++ Ωx) := h
     refine OpS.loadBi h .z PA.a (Get.fld Download_.f1) ty3 rfl rfl rfl ?_
     exact ⟨undef, rfl, trivial, h⟩
    ·intro q1 w Γx Ωx h
     refine OpS.callP h Try.func31 rfl rfl rfl rfl (vs := [.int .i64 a0.Size, .int .i64 a0.Part]) rfl (transfer_right_ok e8) .nil ?_
     rintro _ w10 _ _ _ ⟨rfl, rfl, rfl, rfl⟩ h21
     have h22 := h21 rfl rfl
     simp only [List.cons_append, List.nil_append] at h22
     exact ⟨undef, rfl, trivial, h22⟩
    ·intro q1 w Γx Ωx h
     refine OpS.not rfl rfl rfl ?_
     exact ⟨undef, rfl, trivial, h⟩
    ·intro q1 w Γx Ωx h
     refine OpS.mv rfl rfl rfl ?_
     exact ⟨undef, (congrArg (fun z_ => some (Value.bool z_)) e9), trivial, h⟩
    ·intro q1 w Γx Ωx h
     have h : St e w ([(false, .val Download_.rep v0 a0)] ++ Γx) ([(false, .box 28 Download_.rep u1 a0)] ++ Ωx) := h
     refine OpS.fbox (o3 := 2) h .z PA.z fa28_2 rfl rfl rfl rfl ?_
     exact ⟨undef, rfl, trivial, h⟩
    ·intro q1 w Γx Ωx h
     have h : St e w ([(false, .val Download_.rep v0 a0)] ++ Γx) ([(false, .box 28 Download_.rep u1 a0)] ++ Ωx) := h
     refine OpS.loadB h .z PA.a (Get.fld Download_.f2) ty26 rfl rfl rfl (fun u h23 => ?_)
     exact ⟨u, rfl, trivial, h23⟩
    ·intro q1 w Γx Ωx h
     refine OpS.len h Try.underlying26 rfl rfl rfl (V.at .z) ?_
     exact ⟨undef, rfl, trivial, h⟩
    ·intro q1 w Γx Ωx h
     have h : St e w ([(false, .val Download_.rep v0 a0)] ++ Γx) ([(false, .box 28 Download_.rep u1 a0)] ++ Ωx) := h
     refine OpS.fbox (o3 := 0) h .z PA.z fa28_0 rfl rfl rfl rfl ?_
     exact ⟨undef, rfl, trivial, h⟩
    ·intro q1 w Γx Ωx h
     have h : St e w ([(false, .val Download_.rep v0 a0)] ++ Γx) ([(false, .box 28 Download_.rep u1 a0)] ++ Ωx) := h
     refine OpS.loadBi h .z PA.a (Get.fld Download_.f0) ty3 rfl rfl rfl ?_
     exact ⟨undef, rfl, trivial, h⟩
    ·intro q1 w Γx Ωx h
     have h : St e w ([(false, .val Download_.rep v0 a0)] ++ Γx) ([(false, .box 28 Download_.rep u1 a0)] ++ Ωx) := h
     refine OpS.fbox (o3 := 1) h .z PA.z fa28_1 rfl rfl rfl rfl ?_
     exact ⟨undef, rfl, trivial, h⟩
    ·intro q1 w Γx Ωx h
     have h : St e w ([(false, .val Download_.rep v0 a0)] ++ Γx) ([(false, .box 28 Download_.rep u1 a0)] ++ Ωx) := h
     refine OpS.loadBi h .z PA.a (Get.fld Download_.f1) ty3 rfl rfl rfl ?_
     exact ⟨undef, rfl, trivial, h⟩
    ·intro q1 w Γx Ωx h
     refine OpS.callP h Try.func32 rfl rfl rfl rfl (vs := [.int .i64 a0.Size, .int .i64 a0.Part]) rfl (transfer_count_ok e11) .nil ?_
     rintro _ w11 _ _ _ ⟨rfl, rfl, rfl, rfl⟩ h24
     have h25 := h24 rfl rfl
     simp only [List.cons_append, List.nil_append] at h25
     exact ⟨undef, rfl, trivial, h25⟩
    ·intro q1 w Γx Ωx h
     refine OpS.bin rfl rfl rfl rfl rfl ?_
     exact ⟨undef, rfl, trivial, h⟩
    ·intro q1 w Γx Ωx h
     refine OpS.pick rfl rfl rfl rfl ?_
     exact ⟨undef, rfl, trivial, h⟩
    ·intro q1 w Γx Ωx h
     refine OpS.mv rfl rfl rfl ?_
     exact ⟨undef, (congrArg (fun z_ => some (Value.bool z_)) e12), trivial, h⟩
    ·intro q1 w Γx Ωx h
     exact OpS.pass rfl rfl rfl ⟨undef, rfl, trivial, h⟩
    ·intro q1 w Γx Ωx h
     exact OpS.pass rfl rfl rfl ⟨undef, rfl, trivial, h⟩
    ·intro q1 w Γx Ωx h
     exact OpS.pass rfl rfl rfl ⟨undef, rfl, trivial, h⟩
    ·intro q1 w Γx Ωx h
     exact OpS.pass rfl rfl rfl ⟨undef, rfl, trivial, h⟩
    ·intro q1 w Γx Ωx h
     exact OpS.pass rfl rfl rfl ⟨undef, rfl, trivial, h⟩
    ·intro q1 w Γx Ωx h
     exact OpS.pass rfl rfl rfl ⟨undef, rfl, trivial, h⟩
    ·intro q1 w Γx Ωx h
     refine OpS.pick rfl rfl rfl rfl ?_
     exact ⟨undef, rfl, trivial, h⟩
    have h26 : St e w [(false, .val (Rep.slice Rep.bool) (q1 8) a0.Have), (false, .val Download_.rep v0 a0)] [(false, .box 28 Download_.rep u1 a0)] := h
    refine RunL.nil ?_
    refine Run.slim [(29, .bool true), (1, u1)] ⟨rfl, rfl, trivial⟩ ?_
    refine Run.slim [(1, u1), (29, .bool true)] ⟨rfl, rfl, trivial⟩ ?_
    exact hj1 (true) _ _ ⟨rfl, (h26.facts .nil).picks (.cons .z .nil)⟩ hF
   ·
    have hG := hF
    subst e13
    have hF := hG
    refine Run.drawV (Ωs := []) [⟨some 5, some ((padd u1 0)), fun _ => [], fun ds_ u_ => [], [], [(0, [])], none⟩, ⟨some 6, some (.int .i64 a0.Size), fun _ => [], fun ds_ u_ => [], [], [(0, [])], none⟩, ⟨some 7, some ((padd u1 1)), fun _ => [], fun ds_ u_ => [], [], [(0, [])], none⟩, ⟨some 8, some (.int .i64 a0.Part), fun _ => [], fun ds_ u_ => [], [], [(0, [])], none⟩, ⟨some 9, some (.bool y3), fun _ => [], fun ds_ u_ => [], [], [], none⟩, ⟨some 10, some (.bool (!y3)), fun _ => [], fun ds_ u_ => [], [], [], none⟩, ⟨some 11, some (.bool false), fun _ => [], fun ds_ u_ => [], [], [], none⟩, ⟨some 12, some ((padd u1 2)), fun _ => [], fun ds_ u_ => [], [], [(0, [])], none⟩, ⟨some 13, none, fun u_ => [(false, .val (Rep.slice Rep.bool) u_ a0.Have)], fun ds_ u_ => [], [], [(0, [])], none⟩, ⟨some 14, some (.int .i64 (a0.Have.length : Int)), fun _ => [], fun ds_ u_ => [], [], [], none⟩, ⟨some 15, some ((padd u1 0)), fun _ => [], fun ds_ u_ => [], [], [(0, [])], none⟩, ⟨some 16, some (.int .i64 a0.Size), fun _ => [], fun ds_ u_ => [], [], [(0, [])], none⟩, ⟨some 17, some ((padd u1 1)), fun _ => [], fun ds_ u_ => [], [], [(0, [])], none⟩, ⟨some 18, some (.int .i64 a0.Part), fun _ => [], fun ds_ u_ => [], [], [(0, [])], none⟩, ⟨some 19, some (.int .i64 y4), fun _ => [], fun ds_ u_ => [], [], [], none⟩, ⟨some 20, some (.bool ((a0.Have.length : Int) != y4)), fun _ => [], fun ds_ u_ => [], [], [], none⟩, ⟨some 21, some (.bool ((a0.Have.length : Int) != y4)), fun _ => [], fun ds_ u_ => [], [], [], none⟩, ⟨some 22, some (.bool false), fun _ => [], fun ds_ u_ => [], [], [], none⟩, ⟨some 23, some ((padd u1 3)), fun _ => [], fun ds_ u_ => [], [], [(0, [])], none⟩, ⟨some 24, none, fun u_ => [(false, .val (Rep.slice (Rep.int .u8)) u_ a0.Data)], fun ds_ u_ => [], [], [(0, [])], none⟩, ⟨some 25, some (.int .i64 (a0.Data.length : Int)), fun _ => [], fun ds_ u_ => [], [], [], none⟩, ⟨some 26, some ((padd u1 0)), fun _ => [], fun ds_ u_ => [], [], [(0, [])], none⟩, ⟨some 27, some (.int .i64 a0.Size), fun _ => [], fun ds_ u_ => [], [], [(0, [])], none⟩, ⟨some 28, some (.bool ((a0.Data.length : Int) != a0.Size)), fun _ => [], fun ds_ u_ => [], [], [], none⟩, ⟨some 29, some (.bool ((a0.Data.length : Int) != a0.Size)), fun _ => [], fun ds_ u_ => [], [], [], none⟩] [[], [0], [], [2], [1, 3], [4], [5], [6], [7, 6], [8, 6], [6], [10, 6], [6], [12, 6], [11, 13, 6], [9, 14, 6], [6, 15], [16], [17], [18, 17], [19, 17], [17], [21, 17], [20, 22, 17], [17, 23]] [[(false, .box 28 Download_.rep u1 a0)]] [0, 1, 2, 3, 4, 5, 6, 7, 8, 9, 10, 11, 12, 13, 14, 15, 16, 17, 18, 19, 20, 21, 22, 23, 24, 25] Try_mixed rfl rfl rfl h1 (.cons ?_ (.cons ?_ (.cons ?_ (.cons ?_ (.cons ?_ (.cons ?_ (.cons ?_ (.cons ?_ (.cons ?_ (.cons ?_ (.cons ?_ (.cons ?_ (.cons ?_ (.cons ?_ (.cons ?_ (.cons ?_ (.cons ?_ (.cons ?_ (.cons ?_ (.cons ?_ (.cons ?_ (.cons ?_ (.cons ?_ (.cons ?_ (.cons ?_ .nil))))))))))))))))))))))))) (fun q1 w hq3 h => ?_)
    ·intro q1 w Γx Ωx h
     have h : St e w ([(false, .val Download_.rep v0 a0)] ++ Γx) ([(false, .box 28 Download_.rep u1 a0)] ++ Ωx) := h
     refine OpS.fbox (o3 := 0) h .z PA.z fa28_0 rfl rfl rfl rfl ?_
     exact ⟨undef, rfl, trivial, h⟩
    ·intro q1 w Γx Ωx h
     have h : St e w ([(false, .val Download_.rep v0 a0)] ++ Γx) ([(false, .box 28 Download_.rep u1 a0)] ++ Ωx) := h
     refine OpS.loadBi h .z PA.a (Get.fld Download_.f0) ty3 rfl rfl rfl ?_
     exact ⟨undef, rfl, trivial, h⟩
    ·intro q1 w Γx Ωx h
     have h : St e w ([(false, .val Download_.rep v0 a0)] ++ Γx) ([(false, .box 28 Download_.rep u1 a0)] ++ Ωx) := h
     refine OpS.fbox (o3 := 1) h .z PA.z fa28_1 rfl rfl rfl rfl ?_
     exact ⟨undef, rfl, trivial, h⟩
    ·intro q1 w Γx Ωx h
     have h : St e w ([(false, .val Download_.rep v0 a0)] ++ Γx) ([(false, .box 28 Download_.rep u1 a0)] ++ Ωx) := h
     refine OpS.loadBi h .z PA.a (Get.fld Download_.f1) ty3 rfl rfl rfl ?_
     exact ⟨undef, rfl, trivial, h⟩
    ·intro q1 w Γx Ωx h
     refine OpS.callP h Try.func31 rfl rfl rfl rfl (vs := [.int .i64 a0.Size, .int .i64 a0.Part]) rfl (transfer_right_ok e8) .nil ?_
     rintro _ w12 _ _ _ ⟨rfl, rfl, rfl, rfl⟩ h28
     have h29 := h28 rfl rfl
     simp only [List.cons_append, List.nil_append] at h29
     exact ⟨undef, rfl, trivial, h29⟩
    ·intro q1 w Γx Ωx h
     refine OpS.not rfl rfl rfl ?_
     exact ⟨undef, rfl, trivial, h⟩
    ·intro q1 w Γx Ωx h
     refine OpS.mv rfl rfl rfl ?_
     exact ⟨undef, (congrArg (fun z_ => some (Value.bool z_)) e9), trivial, h⟩
    ·intro q1 w Γx Ωx h
     have h : St e w ([(false, .val Download_.rep v0 a0)] ++ Γx) ([(false, .box 28 Download_.rep u1 a0)] ++ Ωx) := h
     refine OpS.fbox (o3 := 2) h .z PA.z fa28_2 rfl rfl rfl rfl ?_
     exact ⟨undef, rfl, trivial, h⟩
    ·intro q1 w Γx Ωx h
     have h : St e w ([(false, .val Download_.rep v0 a0)] ++ Γx) ([(false, .box 28 Download_.rep u1 a0)] ++ Ωx) := h
     refine OpS.loadB h .z PA.a (Get.fld Download_.f2) ty26 rfl rfl rfl (fun u h30 => ?_)
     exact ⟨u, rfl, trivial, h30⟩
    ·intro q1 w Γx Ωx h
     refine OpS.len h Try.underlying26 rfl rfl rfl (V.at .z) ?_
     exact ⟨undef, rfl, trivial, h⟩
    ·intro q1 w Γx Ωx h
     have h : St e w ([(false, .val Download_.rep v0 a0)] ++ Γx) ([(false, .box 28 Download_.rep u1 a0)] ++ Ωx) := h
     refine OpS.fbox (o3 := 0) h .z PA.z fa28_0 rfl rfl rfl rfl ?_
     exact ⟨undef, rfl, trivial, h⟩
    ·intro q1 w Γx Ωx h
     have h : St e w ([(false, .val Download_.rep v0 a0)] ++ Γx) ([(false, .box 28 Download_.rep u1 a0)] ++ Ωx) := h
     refine OpS.loadBi h .z PA.a (Get.fld Download_.f0) ty3 rfl rfl rfl ?_
     exact ⟨undef, rfl, trivial, h⟩
    ·intro q1 w Γx Ωx h
     have h : St e w ([(false, .val Download_.rep v0 a0)] ++ Γx) ([(false, .box 28 Download_.rep u1 a0)] ++ Ωx) := h
     refine OpS.fbox (o3 := 1) h .z PA.z fa28_1 rfl rfl rfl rfl ?_
     exact ⟨undef, rfl, trivial, h⟩
    ·intro q1 w Γx Ωx h
     have h : St e w ([(false, .val Download_.rep v0 a0)] ++ Γx) ([(false, .box 28 Download_.rep u1 a0)] ++ Ωx) := h
     refine OpS.loadBi h .z PA.a (Get.fld Download_.f1) ty3 rfl rfl rfl ?_
     exact ⟨undef, rfl, trivial, h⟩
    ·intro q1 w Γx Ωx h
     refine OpS.callP h Try.func32 rfl rfl rfl rfl (vs := [.int .i64 a0.Size, .int .i64 a0.Part]) rfl (transfer_count_ok e11) .nil ?_
     rintro _ w13 _ _ _ ⟨rfl, rfl, rfl, rfl⟩ h31
     have h32 := h31 rfl rfl
     simp only [List.cons_append, List.nil_append] at h32
     exact ⟨undef, rfl, trivial, h32⟩
    ·intro q1 w Γx Ωx h
     refine OpS.bin rfl rfl rfl rfl rfl ?_
     exact ⟨undef, rfl, trivial, h⟩
    ·intro q1 w Γx Ωx h
     refine OpS.pick rfl rfl rfl rfl ?_
     exact ⟨undef, rfl, trivial, h⟩
    ·intro q1 w Γx Ωx h
     refine OpS.mv rfl rfl rfl ?_
     exact ⟨undef, (congrArg (fun z_ => some (Value.bool z_)) e12), trivial, h⟩
    ·intro q1 w Γx Ωx h
     have h : St e w ([(false, .val Download_.rep v0 a0)] ++ Γx) ([(false, .box 28 Download_.rep u1 a0)] ++ Ωx) := h
     refine OpS.fbox (o3 := 3) h .z PA.z fa28_3 rfl rfl rfl rfl ?_
     exact ⟨undef, rfl, trivial, h⟩
    ·intro q1 w Γx Ωx h
     have h : St e w ([(false, .val Download_.rep v0 a0)] ++ Γx) ([(false, .box 28 Download_.rep u1 a0)] ++ Ωx) := h
     refine OpS.loadB h .z PA.a (Get.fld Download_.f3) ty22 rfl rfl rfl (fun u h33 => ?_)
     exact ⟨u, rfl, trivial, h33⟩
    ·intro q1 w Γx Ωx h
     refine OpS.len h Try.underlying22 rfl rfl rfl (V.at .z) ?_
     exact ⟨undef, rfl, trivial, h⟩
    ·intro q1 w Γx Ωx h
     have h : St e w ([(false, .val Download_.rep v0 a0)] ++ Γx) ([(false, .box 28 Download_.rep u1 a0)] ++ Ωx) := h
     refine OpS.fbox (o3 := 0) h .z PA.z fa28_0 rfl rfl rfl rfl ?_
     exact ⟨undef, rfl, trivial, h⟩
    ·intro q1 w Γx Ωx h
     have h : St e w ([(false, .val Download_.rep v0 a0)] ++ Γx) ([(false, .box 28 Download_.rep u1 a0)] ++ Ωx) := h
     refine OpS.loadBi h .z PA.a (Get.fld Download_.f0) ty3 rfl rfl rfl ?_
     exact ⟨undef, rfl, trivial, h⟩
    ·intro q1 w Γx Ωx h
     refine OpS.bin rfl rfl rfl rfl rfl ?_
     exact ⟨undef, rfl, trivial, h⟩
    ·intro q1 w Γx Ωx h
     refine OpS.pick rfl rfl rfl rfl ?_
     exact ⟨undef, rfl, trivial, h⟩
    have h34 : St e w [(false, .val (Rep.slice Rep.bool) (q1 8) a0.Have), (false, .val (Rep.slice (Rep.int .u8)) (q1 19) a0.Data), (false, .val Download_.rep v0 a0)] [(false, .box 28 Download_.rep u1 a0)] := h
    refine RunL.nil ?_
    refine Run.slim [(29, .bool ((a0.Data.length : Int) != a0.Size)), (1, u1)] ⟨rfl, rfl, trivial⟩ ?_
    refine Run.slim [(1, u1), (29, .bool ((a0.Data.length : Int) != a0.Size))] ⟨rfl, rfl, trivial⟩ ?_
    exact hj1 ((a0.Data.length : Int) != a0.Size) _ _ ⟨rfl, (h34.facts .nil).picks (.cons .z .nil)⟩ hF
theorem slices_Equal_byte_byte_ok {fuel : Nat} {a0 : List Int} {a1 : List Int} {y : Bool} (hF : slices_Equal_byte_byte fuel a0 a1 = some y) {w : World} {v0 v1 : Value} :
  Spec Try.prog 28 [v0, v1].toArray w [(false, .val (Rep.slice (Rep.int .u8)) v0 a0), (false, .val (Rep.slice (Rep.int .u8)) v1 a1)] [] (fun v Γr Ωr Ωo => v = .bool y ∧ Γr = [] ∧ Ωr = [] ∧ Ωo = []) := by
 refine Spec.of (L := [(0, v0), (1, v1)]) Try.func28 rfl ⟨rfl, rfl, trivial⟩ rfl (fun e h => ?_)
 unfold slices_Equal_byte_byte at hF
 refine Run.seq ?_
 refine Run.reg ?_
 refine op (OpS.as rfl rfl rfl ?_)
 refine RunL.nil ?_
 refine Run.slim [(0, v0), (1, v1)] ⟨rfl, rfl, trivial⟩ ?_
 refine Run.seq ?_
 refine Run.seq ?_
 refine Run.reg ?_
 refine op (OpS.mv rfl rfl rfl ?_)
 refine op (OpS.len h Try.underlying22 rfl rfl rfl (V.at .z) ?_)
 refine op (OpS.mv rfl rfl rfl ?_)
 refine op (OpS.len h Try.underlying22 rfl rfl rfl (V.at (.s .z)) ?_)
 refine op (OpS.bin rfl rfl rfl rfl rfl ?_)
 refine RunL.nil ?_
 refine Run.slim [(10, .bool ((a0.length : Int) != (a1.length : Int))), (0, v0), (1, v1)] ⟨rfl, rfl, rfl, trivial⟩ ?_
 refine Run.ite rfl hF (fun e1 hF => ?_) (fun e1 hF => ?_)
 ·
  refine Run.seq ?_
  refine Run.reg ?_
  refine op (OpS.as rfl rfl rfl ?_)
  refine RunL.nil ?_
  refine Run.slim [(4, .bool false)] ⟨rfl, trivial⟩ ?_
  refine Run.retP rfl (.tmp rfl .nil) ?_
  cases hF
  exact Post.mk' ⟨rfl, rfl, rfl, rfl⟩ (h.picks .nil) .nil
 ·
  refine Run.skip ?_
  refine Run.seq ?_
  refine Run.seq ?_
  refine Run.reg ?_
  refine op (OpS.mv rfl rfl rfl ?_)
  refine op (OpS.len h Try.underlying22 rfl rfl rfl (V.at .z) ?_)
  refine op (OpS.mv rfl rfl rfl ?_)
  refine RunL.nil ?_
  refine Run.slim [(13, .int .i64 0), (12, .int .i64 (a0.length : Int)), (0, v0), (1, v1)] ⟨rfl, rfl, rfl, rfl, trivial⟩ ?_
  refine Run.block ?_
  refine Run.slim [(0, v0), (1, v1), (12, .int .i64 (a0.length : Int)), (13, .int .i64 0)] ⟨rfl, rfl, rfl, rfl, trivial⟩ ?_
  refine Run.loopP (σ := Int) (fun s_ L_ w_ => L_ = [(0, v0), (1, v1), (12, .int .i64 (a0.length : Int)), (13, .int .i64 s_)] ∧ St e w_ [(false, .val (Rep.slice (Rep.int .u8)) v0 a0), (false, .val (Rep.slice (Rep.int .u8)) v1 a1)] []) hF ⟨rfl, (h.facts (.atm .z (.atm (.s .z) .nil))).picks .nil⟩ (fun k1 hk1 s1 _ w1 hI hF => ?_)
  obtain ⟨rfl, h1⟩ := hI
  refine Run.seq ?_
  refine Run.reg ?_
  refine op (OpS.bin rfl rfl rfl rfl rfl ?_)
  refine RunL.nil ?_
  refine Run.seq ?_
  refine Run.ite rfl hF (fun e2 hF => ?_) (fun e2 hF => ?_)
  ·
   refine Run.skip ?_
   refine Run.seq ?_
   refine Run.block ?_
   refine Run.seq ?_
   refine Run.reg ?_
   refine op (OpS.mv rfl rfl rfl ?_)
   refine op (OpS.as rfl rfl rfl ?_)
   refine RunL.nil ?_
   refine Run.slim [(5, .int .i64 s1), (0, v0), (1, v1), (12, .int .i64 (a0.length : Int)), (13, .int .i64 s1)] ⟨rfl, rfl, rfl, rfl, rfl, trivial⟩ ?_
   refine Run.seq ?_
   obtain ⟨x1, e3, hF⟩ := bindP_use hF
   obtain ⟨x2, e4, hF⟩ := bindP_use hF
   refine Run.drawV (Ωs := []) [⟨some 16, some (v0), fun _ => [], fun ds_ u_ => [], [], [], none⟩, ⟨some 17, some (.int .i64 s1), fun _ => [], fun ds_ u_ => [], [], [], none⟩, ⟨some 18, none, fun u_ => [(false, .ptr (Rep.int .u8) u_ x1)], fun ds_ u_ => [], [], [], none⟩, ⟨some 19, some (.int .u8 x1), fun _ => [], fun ds_ u_ => [], [], [], none⟩, ⟨some 20, some (v1), fun _ => [], fun ds_ u_ => [], [], [], none⟩, ⟨some 21, some (.int .i64 s1), fun _ => [], fun ds_ u_ => [], [], [], none⟩, ⟨some 22, none, fun u_ => [(false, .ptr (Rep.int .u8) u_ x2)], fun ds_ u_ => [], [], [], none⟩, ⟨some 23, some (.int .u8 x2), fun _ => [], fun ds_ u_ => [], [], [], none⟩, ⟨some 24, some (.bool (x1 != x2)), fun _ => [], fun ds_ u_ => [], [], [], none⟩] [[], [], [0, 1], [2], [], [], [4, 5], [6], [3, 7]] [] [0, 1, 2, 3, 4, 5, 6, 7, 8] Try_mixed rfl rfl rfl h1 (.cons ?_ (.cons ?_ (.cons ?_ (.cons ?_ (.cons ?_ (.cons ?_ (.cons ?_ (.cons ?_ (.cons ?_ .nil))))))))) (fun q1 w hq1 h => ?_)
   ·intro q1 w Γx Ωx h
    refine OpS.mv rfl rfl rfl ?_
    exact ⟨undef, rfl, trivial, h⟩
   ·intro q1 w Γx Ωx h
    refine OpS.mv rfl rfl rfl ?_
    exact ⟨undef, rfl, trivial, h⟩
   ·intro q1 w Γx Ωx h
    refine OpS.iptr h Try.underlying22 ty5 rfl rfl rfl rfl (V.at .z) e3 (fun u h4 => ?_)
    exact ⟨u, rfl, trivial, h4⟩
   ·intro q1 w Γx Ωx h
    refine OpS.loadi h ty5 rfl rfl rfl .z ?_
    exact ⟨undef, rfl, trivial, h⟩
   ·intro q1 w Γx Ωx h
    refine OpS.mv rfl rfl rfl ?_
    exact ⟨undef, rfl, trivial, h⟩
   ·intro q1 w Γx Ωx h
    refine OpS.mv rfl rfl rfl ?_
    exact ⟨undef, rfl, trivial, h⟩
   ·intro q1 w Γx Ωx h
    refine OpS.iptr h Try.underlying22 ty5 rfl rfl rfl rfl (V.at (.s .z)) e4 (fun u h5 => ?_)
    exact ⟨u, rfl, trivial, h5⟩
   ·intro q1 w Γx Ωx h
    refine OpS.loadi h ty5 rfl rfl rfl .z ?_
    exact ⟨undef, rfl, trivial, h⟩
   ·intro q1 w Γx Ωx h
    refine OpS.bin rfl rfl rfl rfl rfl ?_
    exact ⟨undef, rfl, trivial, h⟩
   have h6 : St e w [(false, .ptr (Rep.int .u8) (q1 2) x1), (false, .ptr (Rep.int .u8) (q1 6) x2), (false, .val (Rep.slice (Rep.int .u8)) v0 a0), (false, .val (Rep.slice (Rep.int .u8)) v1 a1)] [] := h
   refine RunL.nil ?_
   refine Run.slim [(24, .bool (x1 != x2)), (0, v0), (1, v1), (12, .int .i64 (a0.length : Int)), (13, .int .i64 s1)] ⟨rfl, rfl, rfl, rfl, rfl, trivial⟩ ?_
   refine Run.ite rfl hF (fun e5 hF => ?_) (fun e5 hF => ?_)
   ·
    refine Run.seq ?_
    refine Run.reg ?_
    refine op (OpS.as rfl rfl rfl ?_)
    refine RunL.nil ?_
    refine Run.slim [(4, .bool false)] ⟨rfl, trivial⟩ ?_
    refine Run.retP rfl (.tmp rfl .nil) ?_
    cases hF
    exact Post.mk' ⟨rfl, rfl, rfl, rfl⟩ (h6.picks .nil) .nil
   ·
    refine Run.skip ?_
    refine Run.endBlock ?_
    refine Run.reg ?_
    refine op (OpS.bin rfl rfl rfl rfl rfl ?_)
    refine op (OpS.mv rfl rfl rfl ?_)
    refine RunL.nil ?_
    refine Run.slim [(13, .int .i64 (IntKind.i64.wrap (s1 + 1))), (0, v0), (1, v1), (12, .int .i64 (a0.length : Int))] ⟨rfl, rfl, rfl, rfl, trivial⟩ ?_
    refine Run.slim [(0, v0), (1, v1), (12, .int .i64 (a0.length : Int)), (13, .int .i64 (IntKind.i64.wrap (s1 + 1)))] ⟨rfl, rfl, rfl, rfl, trivial⟩ ?_
    exact hk1 ((IntKind.i64.wrap (s1 + 1))) _ _ ⟨rfl, (h6.facts (.atm (.s (.s .z)) (.atm (.s (.s (.s .z))) .nil))).picks .nil⟩ hF
  ·
   refine Run.exit rfl ?_
   refine Run.seq ?_
   refine Run.reg ?_
   refine op (OpS.as rfl rfl rfl ?_)
   refine RunL.nil ?_
   refine Run.slim [(4, .bool true)] ⟨rfl, trivial⟩ ?_
   refine Run.retP rfl (.tmp rfl .nil) ?_
   cases hF
   exact Post.mk' ⟨rfl, rfl, rfl, rfl⟩ (h1.picks .nil) .nil
theorem slices_Clone_bool_bool_ok {fuel : Nat} {a0 : List Bool} {y : (List Bool)} (hF : slices_Clone_bool_bool fuel a0 = some y) {w : World} {v0 : Value} :
  Spec Try.prog 29 [v0].toArray w [(false, .val (Rep.slice Rep.bool) v0 a0)] [] (fun v Γr Ωr Ωo => ∃ u0 : Value, v = u0 ∧ Γr = [] ∧ Ωr = [(true, .slice 4 Rep.bool u0 y)] ∧ Ωo = []) := by
 refine Spec.of (L := [(0, v0)]) Try.func29 rfl ⟨rfl, trivial⟩ rfl (fun e h => ?_)
 unfold slices_Clone_bool_bool at hF
 refine Run.seq ?_
 refine Run.reg ?_
 refine op (OpS.as rfl rfl rfl ?_)
 refine RunL.nil ?_
 refine Run.slim [(0, v0)] ⟨rfl, trivial⟩ ?_
 refine Run.seq ?_
 refine Run.seq ?_
 refine Run.reg ?_
 refine op (OpS.mv rfl rfl rfl ?_)
 refine op (OpS.snil h Try.underlying26 rfl rfl rfl (V.at .z) (fun b1 hb1 => ?_))
 refine RunL.nil ?_
 refine Run.slim [(4, .bool b1), (0, v0)] ⟨rfl, rfl, trivial⟩ ?_
 cases b1
 ·
  refine Run.condF rfl ?_
  refine Run.skip ?_
  refine Run.seq ?_
  refine Run.reg ?_
  refine op (OpS.litO (r := Rep.bool) (f := true) h Try.underlying26 ti4 rfl rfl rfl rfl rfl .nil rfl rfl (fun u1 w1 h1 => ?_))
  refine op (OpS.mv rfl rfl rfl ?_)
  obtain ⟨x1, e1, hF⟩ := bindP_use hF
  refine op (OpS.app (f' := false) h1 .z Try.underlying26 ti4 rfl rfl rfl rfl rfl rfl rfl (V.at .z) (.inr Pure.bool) e1 (fun u2 w2 h2 => ?_))
  refine op (OpS.as rfl rfl rfl ?_)
  refine RunL.nil ?_
  refine Run.slim [(2, u2)] ⟨rfl, trivial⟩ ?_
  refine Run.retP rfl (.tmp rfl .nil) ?_
  cases hF
  exact Post.mk' ⟨u2, rfl, rfl, rfl, rfl⟩ (h2.picks (.cons .z .nil)) .nil
 ·
  obtain rfl := hb1 rfl
  have hF : some ([] : List Bool) = some y := by simpa [bindP, app] using hF
  refine Run.condT rfl ?_
  refine Run.seq ?_
  refine Run.reg ?_
  refine op (OpS.as rfl rfl rfl ?_)
  refine RunL.nil ?_
  refine Run.slim [(2, .slice none 0 0)] ⟨rfl, trivial⟩ ?_
  have h3 := St.nil 4 Rep.bool h
  refine Run.retP rfl (.tmp rfl .nil) ?_
  cases hF
  exact Post.mk' ⟨(.slice none 0 0), rfl, rfl, rfl, rfl⟩ (h3.picks (.cons .z .nil)) .nil
theorem slices_Clone_byte_byte_ok {fuel : Nat} {a0 : List Int} {y : (List Int)} (hF : slices_Clone_byte_byte fuel a0 = some y) {w : World} {v0 : Value} :
  Spec Try.prog 30 [v0].toArray w [(false, .val (Rep.slice (Rep.int .u8)) v0 a0)] [] (fun v Γr Ωr Ωo => ∃ u0 : Value, v = u0 ∧ Γr = [] ∧ Ωr = [(true, .slice 5 (Rep.int .u8) u0 y)] ∧ Ωo = []) := by
 refine Spec.of (L := [(0, v0)]) Try.func30 rfl ⟨rfl, trivial⟩ rfl (fun e h => ?_)
 unfold slices_Clone_byte_byte at hF
 refine Run.seq ?_
 refine Run.reg ?_
 refine op (OpS.as rfl rfl rfl ?_)
 refine RunL.nil ?_
 refine Run.slim [(0, v0)] ⟨rfl, trivial⟩ ?_
 refine Run.seq ?_
 refine Run.seq ?_
 refine Run.reg ?_
 refine op (OpS.mv rfl rfl rfl ?_)
 refine op (OpS.snil h Try.underlying22 rfl rfl rfl (V.at .z) (fun b1 hb1 => ?_))
 refine RunL.nil ?_
 refine Run.slim [(4, .bool b1), (0, v0)] ⟨rfl, rfl, trivial⟩ ?_
 cases b1
 ·
  refine Run.condF rfl ?_
  refine Run.skip ?_
  refine Run.seq ?_
  refine Run.reg ?_
  refine op (OpS.litO (r := (Rep.int .u8)) (f := true) h Try.underlying22 ti5 rfl rfl rfl rfl rfl .nil rfl rfl (fun u1 w1 h1 => ?_))
  refine op (OpS.mv rfl rfl rfl ?_)
  obtain ⟨x1, e1, hF⟩ := bindP_use hF
  refine op (OpS.app (f' := false) h1 .z Try.underlying22 ti5 rfl rfl rfl rfl rfl rfl rfl (V.at .z) (.inr Pure.int) e1 (fun u2 w2 h2 => ?_))
  refine op (OpS.as rfl rfl rfl ?_)
  refine RunL.nil ?_
  refine Run.slim [(2, u2)] ⟨rfl, trivial⟩ ?_
  refine Run.retP rfl (.tmp rfl .nil) ?_
  cases hF
  exact Post.mk' ⟨u2, rfl, rfl, rfl, rfl⟩ (h2.picks (.cons .z .nil)) .nil
 ·
  obtain rfl := hb1 rfl
  have hF : some ([] : List Int) = some y := by simpa [bindP, app] using hF
  refine Run.condT rfl ?_
  refine Run.seq ?_
  refine Run.reg ?_
  refine op (OpS.as rfl rfl rfl ?_)
  refine RunL.nil ?_
  refine Run.slim [(2, .slice none 0 0)] ⟨rfl, trivial⟩ ?_
  have h3 := St.nil 5 (Rep.int .u8) h
  refine Run.retP rfl (.tmp rfl .nil) ?_
  cases hF
  exact Post.mk' ⟨(.slice none 0 0), rfl, rfl, rfl, rfl⟩ (h3.picks (.cons .z .nil)) .nil
theorem transfer_piece_view_ok {fuel : Nat} {a0 : Download_} {a1 : Int} {y : (Int × Int × Int)} (hF : transfer_piece_view fuel a0 a1 = some y) {w : World} {v0 v0_0 v0_1 : Value} :
  Spec Try.prog 27 [v0, .int .i64 a1].toArray w [(false, .val (Rep.iso (fun s : Download_ => (s.Size, s.Part, s.Have, s.Data, ())) (Rep.prod (Rep.int .i64) (Rep.prod (Rep.int .i64) (Rep.prod (Rep.raw v0_0) (Rep.prod (Rep.raw v0_1) Rep.unit))))) v0 a0), (false, .val (Rep.slice Rep.bool) v0_0 a0.Have), (false, .val (Rep.slice (Rep.int .u8)) v0_1 a0.Data)] [] (fun v Γr Ωr Ωo => v = vw (Rep.int .u8).n v0_1 y.1 y.2.1 y.2.2 ∧ Γr = [] ∧ Ωr = [] ∧ Ωo = []) := by
 refine Spec.of (L := [(0, v0), (1, .int .i64 a1)]) Try.func27 rfl ⟨rfl, rfl, trivial⟩ rfl (fun e h => ?_)
 unfold transfer_piece_view at hF
 refine Run.seq ?_
 refine Run.reg ?_
 refine op (OpS.boxF h rfl rfl rfl (V.at .z) (fun u1 w1 h1 => ?_))
 refine op (OpS.as rfl rfl rfl ?_)
 refine RunL.nil ?_
 refine Run.slim [(2, u1), (1, .int .i64 a1)] ⟨rfl, rfl, trivial⟩ ?_
 refine Run.seq ?_
 refine Run.reg ?_
 refine op (OpS.mv rfl rfl rfl ?_)
 refine op (OpS.fbox (o3 := 1) h1 .z PA.z fa28_1 rfl rfl rfl rfl ?_)
 refine op (OpS.loadBi h1 .z PA.a (GetS.ok (GetS.iso _ (GetS.there (GetS.here GetS.id)))) ty3 rfl rfl rfl ?_)
 refine op (OpS.bin rfl rfl rfl rfl rfl ?_)
 refine op (OpS.as rfl rfl rfl ?_)
 obtain ⟨x1, e1, hF⟩ := letP_use hF
 refine RunL.name e1 ?_
 refine RunL.nil ?_
 refine Run.slim [(5, .int .i64 x1), (2, u1)] ⟨rfl, rfl, trivial⟩ ?_
 refine Run.seq ?_
 refine Run.reg ?_
 refine op (OpS.mv rfl rfl rfl ?_)
 refine op (OpS.fbox (o3 := 1) h1 .z PA.z fa28_1 rfl rfl rfl rfl ?_)
 refine op (OpS.loadBi h1 .z PA.a (GetS.ok (GetS.iso _ (GetS.there (GetS.here GetS.id)))) ty3 rfl rfl rfl ?_)
 refine op (OpS.bin rfl rfl rfl rfl rfl ?_)
 refine op (OpS.fbox (o3 := 0) h1 .z PA.z fa28_0 rfl rfl rfl rfl ?_)
 refine op (OpS.loadBi h1 .z PA.a (GetS.ok (GetS.iso _ (GetS.here GetS.id))) ty3 rfl rfl rfl ?_)
 refine op (OpS.mini rfl rfl rfl rfl ?_)
 refine op (OpS.as rfl rfl rfl ?_)
 obtain ⟨x2, e2, hF⟩ := letP_use hF
 refine RunL.name e2 ?_
 refine RunL.nil ?_
 refine Run.slim [(6, .int .i64 x2), (5, .int .i64 x1), (2, u1)] ⟨rfl, rfl, rfl, trivial⟩ ?_
 refine Run.seq ?_
 refine Run.reg ?_
 refine op (OpS.fbox (o3 := 3) h1 .z PA.z fa28_3 rfl rfl rfl rfl ?_)
 refine op (OpS.loadR h1 .z PA.a (GetS.ok (GetS.iso _ (GetS.there (GetS.there (GetS.there (GetS.here GetS.id)))))) ty22 rfl rfl rfl rfl rfl ?_)
 refine op (OpS.mv rfl rfl rfl ?_)
 refine op (OpS.mv rfl rfl rfl ?_)
 refine op (OpS.mv rfl rfl rfl ?_)
 obtain ⟨x3, e3, hF⟩ := bindP_use hF
 refine op (OpS.sub3V h1 Try.underlying22 ty5 rfl rfl rfl rfl rfl rfl (V.at (.s (.s .z))) e3 (Int.le_refl _) (sub_hi e3) ?_)
 refine op (OpS.as rfl rfl rfl ?_)
 refine RunL.nil ?_
 refine Run.slim [(4, (vw (Rep.int .u8).n v0_1 x1 x2 x2))] ⟨rfl, trivial⟩ ?_
 refine Run.retP rfl (.tmp rfl .nil) ?_
 cases hF
 exact Post.mk' ⟨rfl, rfl, rfl, rfl⟩ (h1.picks .nil) .nil
set_option maxHeartbeats 8000000 in
theorem transfer_Accept_ok {fuel : Nat} {a0 : Download_} {a1 : Int} {a2 : List Int} {y : Download_ × Int} (hF : transfer_Accept fuel a0 a1 a2 = some y) {w : World} {v0 v2 : Value} :
  Spec Try.prog 11 [v0, .int .i64 a1, v2].toArray w [(false, .val Download_.rep v0 a0), (false, .val (Rep.slice (Rep.int .u8)) v2 a2)] [] (fun v Γr Ωr Ωo => ∃ u0 : Value, v = .tuple #[u0, .int .i64 y.2] ∧ Γr = [(true, .val Download_.rep u0 y.1)] ∧ Ωr = [] ∧ Ωo = []) := by
 refine Spec.of (L := [(0, v0), (1, .int .i64 a1), (2, v2)]) Try.func11 rfl ⟨rfl, rfl, rfl, trivial⟩ rfl (fun e h => ?_)
 unfold transfer_Accept at hF
 refine Run.seq ?_
 refine Run.reg ?_
 refine op (OpS.boxF h rfl rfl rfl (V.at .z) (fun u1 w1 h1 => ?_))
 refine op (OpS.alloc h1 ti28 Download_.zr rfl rfl (fun u2 w2 h2 => ?_))
 refine op (OpS.as rfl rfl rfl ?_)
 refine RunL.nil ?_
 refine Run.slim [(6, u2), (3, u1), (1, .int .i64 a1), (2, v2)] ⟨rfl, rfl, rfl, rfl, trivial⟩ ?_
 refine Run.seq ?_
 refine Run.seq ?_
 refine Run.reg ?_
 refine op (OpS.loadB h2 (.s .z) PA.z Get.id ty28 rfl rfl rfl (fun u3 h3 => ?_))
 obtain ⟨y1, e1, hF⟩ := bindP_use hF
 refine op (OpS.callP h3 Try.func22 rfl rfl rfl rfl (vs := [u3]) rfl (transfer_Valid_ok e1) (.cons (f := false) (V.at .z) .nil) ?_)
 rintro _ w3 _ _ _ ⟨rfl, rfl, rfl, rfl⟩ h4
 have h5 := h4 rfl rfl
 simp only [List.cons_append, List.nil_append] at h5
 refine op (OpS.not rfl rfl rfl ?_)
 refine RunL.nil ?_
 refine Run.slim [(10, .bool (!y1)), (6, u2), (3, u1), (1, .int .i64 a1), (2, v2)] ⟨rfl, rfl, rfl, rfl, rfl, trivial⟩ ?_
 refine Run.ite rfl hF (fun e2 hF => ?_) (fun e2 hF => ?_)
 ·
  refine Run.seq ?_
  refine Run.reg ?_
  refine op (OpS.build (f := true) (x' := Download_.z) h5 pl28 ti28 Download_.zr rfl rfl rfl .nil (fun u4 h6 => ?_))
  refine op (OpS.storeB (f' := true) h6 .z PA.z Put.id ty28 rfl rfl rfl (V.at .z) (.inl rfl) (fun w4 h7 => ?_))
  refine op (OpS.as rfl rfl rfl ?_)
  refine RunL.nil ?_
  refine Run.slim [(7, .int .i64 1), (6, u2)] ⟨rfl, rfl, trivial⟩ ?_
  obtain ⟨u5, hu1, h8⟩ := res_box h7 .z ty28
  refine Run.retP rfl (.cell rfl hu1 (.tmp rfl .nil)) ?_
  cases hF
  exact Post.mk' ⟨u5, rfl, rfl, rfl, rfl⟩ (h8.picks .nil) (.val (V.at .z) .nil)
 ·
  refine Run.skip ?_
  refine Run.seq ?_
  refine Run.seq ?_
  refine Run.reg ?_
  refine op (OpS.mv rfl rfl rfl ?_)
  refine op (OpS.bin rfl rfl rfl rfl rfl ?_)
  refine op (OpS.mv rfl rfl rfl ?_)
  refine RunL.join (σ := Bool) (fun s_ L_ w_ => L_ = [(1, .int .i64 a1), (2, v2), (3, u1), (6, u2), (20, .bool s_)] ∧ St e w_ [(false, .val (Rep.slice (Rep.int .u8)) v2 a2)] [(false, .box 28 Download_.rep u1 a0), (true, .box 28 Download_.rep u2 Download_.z)]) hF (fun s1 _ w5 hI hF => ?_) (fun j1 hj1 hF => ?_)
  ·
   obtain ⟨rfl, h9⟩ := hI
   refine Run.ite rfl hF (fun e3 hF => ?_) (fun e3 hF => ?_)
   ·
    refine Run.seq ?_
    refine Run.reg ?_
    refine op (OpS.build (f := true) (x' := Download_.z) h9 pl28 ti28 Download_.zr rfl rfl rfl .nil (fun u6 h10 => ?_))
    refine op (OpS.storeB (f' := true) h10 (.s .z) PA.z Put.id ty28 rfl rfl rfl (V.at .z) (.inl rfl) (fun w6 h11 => ?_))
    refine op (OpS.as rfl rfl rfl ?_)
    refine RunL.nil ?_
    refine Run.slim [(7, .int .i64 2), (6, u2)] ⟨rfl, rfl, trivial⟩ ?_
    obtain ⟨u7, hu2, h12⟩ := res_box h11 .z ty28
    refine Run.retP rfl (.cell rfl hu2 (.tmp rfl .nil)) ?_
    cases hF
    exact Post.mk' ⟨u7, rfl, rfl, rfl, rfl⟩ (h12.picks .nil) (.val (V.at .z) .nil)
   ·
    refine Run.skip ?_
    refine Run.seq ?_
    refine Run.seq ?_
    refine Run.reg ?_
    refine op (OpS.mv rfl rfl rfl ?_)
    refine op (OpS.len h9 Try.underlying22 rfl rfl rfl (V.at .z) ?_)
    refine op (OpS.loadB h9 .z PA.z Get.id ty28 rfl rfl rfl (fun u8 h13 => ?_))
    refine op (OpS.mv rfl rfl rfl ?_)
    obtain ⟨y2, e4, hF⟩ := bindP_use hF
    have h14 := h13.front .nil
    refine op (OpS.callO h14 Try.func27 rfl rfl rfl rfl (vs := [u8, .int .i64 a1]) rfl (transfer_piece_ok e4) rfl (.cons (f := false) (V.at .z) .nil) ?_)
    rintro u9 w7 _ _ _ ⟨_, rfl, rfl, rfl, rfl⟩ h15
    have h16 := h15
    simp only [List.cons_append, List.nil_append] at h16
    refine op (OpS.len h16 Try.underlying22 rfl rfl rfl (V.at .z) ?_)
    refine op (OpS.bin rfl rfl rfl rfl rfl ?_)
    refine RunL.nil ?_
    refine Run.slim [(28, .bool ((a2.length : Int) != (y2.length : Int))), (1, .int .i64 a1), (2, v2), (3, u1), (6, u2)] ⟨rfl, rfl, rfl, rfl, rfl, trivial⟩ ?_
    refine Run.ite rfl hF (fun e5 hF => ?_) (fun e5 hF => ?_)
    ·
     refine Run.seq ?_
     refine Run.reg ?_
     refine op (OpS.build (f := true) (x' := Download_.z) h16 pl28 ti28 Download_.zr rfl rfl rfl .nil (fun u10 h17 => ?_))
     refine op (OpS.storeB (f' := true) h17 (.s .z) PA.z Put.id ty28 rfl rfl rfl (V.at .z) (.inl rfl) (fun w8 h18 => ?_))
     refine op (OpS.as rfl rfl rfl ?_)
     refine RunL.nil ?_
     refine Run.slim [(7, .int .i64 4), (6, u2)] ⟨rfl, rfl, trivial⟩ ?_
     obtain ⟨u11, hu3, h19⟩ := res_box h18 .z ty28
     refine Run.retP rfl (.cell rfl hu3 (.tmp rfl .nil)) ?_
     cases hF
     exact Post.mk' ⟨u11, rfl, rfl, rfl, rfl⟩ (h19.picks .nil) (.val (V.at .z) .nil)
    ·
     refine Run.skip ?_
     refine Run.seq ?_
     refine Run.seq ?_
     refine Run.reg ?_
     refine op (OpS.fbox (o3 := 2) h16 .z PA.z fa28_2 rfl rfl rfl rfl ?_)
     refine op (OpS.loadB h16 .z PA.a (Get.fld Download_.f2) ty26 rfl rfl rfl (fun u12 h20 => ?_))
     refine op (OpS.mv rfl rfl rfl ?_)
     obtain ⟨x1, e6, hF⟩ := bindP_use hF
     refine op (OpS.iptr h20 Try.underlying26 ty4 rfl rfl rfl rfl (V.at .z) e6 (fun u13 h21 => ?_))
     refine op (OpS.loadb h21 ty4 rfl rfl rfl .z ?_)
     refine op (OpS.mv rfl rfl rfl ?_)
     refine RunL.join (σ := Bool) (fun s_ L_ w_ => L_ = [(1, .int .i64 a1), (2, v2), (3, u1), (6, u2), (42, .bool s_)] ∧ St e w_ [(false, .val (Rep.slice (Rep.int .u8)) v2 a2)] [(false, .box 28 Download_.rep u1 a0), (true, .box 28 Download_.rep u2 Download_.z)]) hF (fun s2 _ w9 hI hF => ?_) (fun j2 hj2 hF => ?_)
     ·
      obtain ⟨rfl, h22⟩ := hI
      refine Run.ite rfl hF (fun e7 hF => ?_) (fun e7 hF => ?_)
      ·
       refine Run.seq ?_
       refine Run.reg ?_
       refine op (OpS.build (f := true) (x' := Download_.z) h22 pl28 ti28 Download_.zr rfl rfl rfl .nil (fun u14 h23 => ?_))
       refine op (OpS.storeB (f' := true) h23 (.s .z) PA.z Put.id ty28 rfl rfl rfl (V.at .z) (.inl rfl) (fun w10 h24 => ?_))
       refine op (OpS.as rfl rfl rfl ?_)
       refine RunL.nil ?_
       refine Run.slim [(7, .int .i64 42), (6, u2)] ⟨rfl, rfl, trivial⟩ ?_
       obtain ⟨u15, hu4, h25⟩ := res_box h24 .z ty28
       refine Run.retP rfl (.cell rfl hu4 (.tmp rfl .nil)) ?_
       cases hF
       exact Post.mk' ⟨u15, rfl, rfl, rfl, rfl⟩ (h25.picks .nil) (.val (V.at .z) .nil)
      ·
       refine Run.skip ?_
       refine Run.seq ?_
       obtain ⟨y3, e8, hF⟩ := bindP_use hF
       obtain ⟨y4, e9, hF⟩ := bindP_use hF
       refine Run.drawV (Ωs := [(true, .box 28 Download_.rep u2 Download_.z)]) [⟨some 44, some ((padd u1 2)), fun _ => [], fun ds_ u_ => [], [], [(0, [])], none⟩, ⟨some 45, none, fun u_ => [(false, .val (Rep.slice Rep.bool) u_ a0.Have)], fun ds_ u_ => [], [], [(0, [])], none⟩, ⟨some 46, none, fun u_ => [], fun ds_ u_ => [(true, .slice 4 Rep.bool u_ y3)], [], [], none⟩, ⟨some 47, some ((padd u1 3)), fun _ => [], fun ds_ u_ => [], [], [(0, [])], none⟩, ⟨some 48, none, fun u_ => [(false, .val (Rep.slice (Rep.int .u8)) u_ a0.Data)], fun ds_ u_ => [], [], [(0, [])], none⟩, ⟨some 49, none, fun u_ => [], fun ds_ u_ => [(true, .slice 5 (Rep.int .u8) u_ y4)], [], [], none⟩, ⟨some 50, some ((padd u1 2)), fun _ => [], fun ds_ u_ => [], [], [(0, [])], none⟩] [[], [0], [1], [], [3], [4], []] [[(false, .box 28 Download_.rep u1 a0)]] [0, 1, 2, 3, 4, 5, 6, 7] Try_mixed rfl rfl rfl h22 (.cons ?_ (.cons ?_ (.cons ?_ (.cons ?_ (.cons ?_ (.cons ?_ (.cons ?_ .nil))))))) (fun q1 w hq1 h => ?_)
       ·intro q1 w Γx Ωx h
        have h : St e w ([(false, .val (Rep.slice (Rep.int .u8)) v2 a2)] ++ Γx) ([(false, .box 28 Download_.rep u1 a0), (true, .box 28 Download_.rep u2 Download_.z)] ++ Ωx) := h
        refine OpS.fbox (o3 := 2) h .z PA.z fa28_2 rfl rfl rfl rfl ?_
        exact ⟨undef, rfl, trivial, h⟩
       ·intro q1 w Γx Ωx h
        have h : St e w ([(false, .val (Rep.slice (Rep.int .u8)) v2 a2)] ++ Γx) ([(false, .box 28 Download_.rep u1 a0), (true, .box 28 Download_.rep u2 Download_.z)] ++ Ωx) := h
        refine OpS.loadB h .z PA.a (Get.fld Download_.f2) ty26 rfl rfl rfl (fun u h32 => ?_)
        exact ⟨u, rfl, trivial, h32⟩
       ·intro q1 w Γx Ωx h
        refine OpS.callP h Try.func29 rfl rfl rfl rfl (vs := [(q1 1)]) rfl (slices_Clone_bool_bool_ok e8) (.cons (f := false) (V.at .z) .nil) ?_
        rintro u w13 _ _ _ ⟨_, rfl, rfl, rfl, rfl⟩ h33
        have h34 := h33 rfl rfl
        simp only [List.cons_append, List.nil_append] at h34
        exact ⟨u, rfl, trivial, h34⟩
       ·intro q1 w Γx Ωx h
        have h : St e w ([(false, .val (Rep.slice (Rep.int .u8)) v2 a2)] ++ Γx) ([(false, .box 28 Download_.rep u1 a0), (true, .box 28 Download_.rep u2 Download_.z)] ++ Ωx) := h
        refine OpS.fbox (o3 := 3) h .z PA.z fa28_3 rfl rfl rfl rfl ?_
        exact ⟨undef, rfl, trivial, h⟩
       ·intro q1 w Γx Ωx h
        have h : St e w ([(false, .val (Rep.slice (Rep.int .u8)) v2 a2)] ++ Γx) ([(false, .box 28 Download_.rep u1 a0), (true, .box 28 Download_.rep u2 Download_.z)] ++ Ωx) := h
        refine OpS.loadB h .z PA.a (Get.fld Download_.f3) ty22 rfl rfl rfl (fun u h35 => ?_)
        exact ⟨u, rfl, trivial, h35⟩
       ·intro q1 w Γx Ωx h
        refine OpS.callP h Try.func30 rfl rfl rfl rfl (vs := [(q1 4)]) rfl (slices_Clone_byte_byte_ok e9) (.cons (f := false) (V.at .z) .nil) ?_
        rintro u w14 _ _ _ ⟨_, rfl, rfl, rfl, rfl⟩ h36
        have h37 := h36 rfl rfl
        simp only [List.cons_append, List.nil_append] at h37
        exact ⟨u, rfl, trivial, h37⟩
       ·intro q1 w Γx Ωx h
        have h : St e w ([(false, .val (Rep.slice (Rep.int .u8)) v2 a2)] ++ Γx) ([(false, .box 28 Download_.rep u1 a0), (true, .box 28 Download_.rep u2 Download_.z)] ++ Ωx) := h
        refine OpS.fbox (o3 := 2) h .z PA.z fa28_2 rfl rfl rfl rfl ?_
        exact ⟨undef, rfl, trivial, h⟩
       have h38 : St e w [(false, .val (Rep.slice Rep.bool) (q1 1) a0.Have), (false, .val (Rep.slice (Rep.int .u8)) (q1 4) a0.Data), (false, .val (Rep.slice (Rep.int .u8)) v2 a2)] [(false, .box 28 Download_.rep u1 a0), (true, .slice 4 Rep.bool (q1 2) y3), (true, .slice 5 (Rep.int .u8) (q1 5) y4), (true, .box 28 Download_.rep u2 Download_.z)] := h
       refine op (OpS.storeC (f' := false) (fr := (Rep.raw (q1 2))) (r' := (Rep.iso (fun s : Download_ => (s.Size, s.Part, s.Have, s.Data, ())) (Rep.prod (Rep.int .i64) (Rep.prod (Rep.int .i64) (Rep.prod (Rep.raw (q1 2)) (Rep.prod (Rep.slice (Rep.int .u8)) Rep.unit)))))) (x' := a0) h38 .z PA.a (Chg.iso _ (Chg.there (Chg.there (Chg.here (Chg.id (by rfl)))))) (Ty.like ty26 (by rfl) (by rfl)) rfl rfl rfl (V.raw (f := false) (St.own1 h38 (.s .z)) a0.Have) (.inr rfl) (fun w15 h39 => ?_))
       refine op (OpS.fbox (o3 := 3) h39 .z PA.z fa28_3 rfl rfl rfl rfl ?_)
       refine op (OpS.storeC (f' := false) (fr := (Rep.raw (q1 5))) (r' := (Rep.iso (fun s : Download_ => (s.Size, s.Part, s.Have, s.Data, ())) (Rep.prod (Rep.int .i64) (Rep.prod (Rep.int .i64) (Rep.prod (Rep.raw (q1 2)) (Rep.prod (Rep.raw (q1 5)) Rep.unit)))))) (x' := a0) h39 .z PA.a (Chg.iso _ (Chg.there (Chg.there (Chg.there (Chg.here (Chg.id (by rfl))))))) (Ty.like ty22 (by rfl) (by rfl)) rfl rfl rfl (V.raw (f := false) (St.own1 h39 (.s (.s .z))) a0.Data) (.inr rfl) (fun w16 h40 => ?_))
       refine RunL.nil ?_
       refine Run.slim [(1, .int .i64 a1), (2, v2), (3, u1), (6, u2)] ⟨rfl, rfl, rfl, rfl, trivial⟩ ?_
       refine Run.seq ?_
       refine Run.reg ?_
       refine op (OpS.fbox (o3 := 2) h40 .z PA.z fa28_2 rfl rfl rfl rfl ?_)
       refine op (OpS.loadR h40 .z PA.a (GetS.ok (GetS.iso _ (GetS.there (GetS.there (GetS.here GetS.id))))) ty26 rfl rfl rfl rfl rfl ?_)
       refine op (OpS.mv rfl rfl rfl ?_)
       obtain ⟨x2, e10, hF⟩ := bindP_use hF
       refine op (OpS.iown h40 (.s .z) Try.underlying26 ty4 rfl rfl rfl rfl e10 ?_)
       obtain ⟨d1, e11, hF⟩ := letP_use hF
       refine op (OpS.storeO (f' := true) h40 (.s .z) (idx_ne e10) PA.a (Put.of (Put.arr e10) e11) ty4 rfl rfl rfl V.bool (.inl rfl) (fun w17 h41 => ?_))
       refine RunL.nil ?_
       refine Run.slim [(1, .int .i64 a1), (2, v2), (3, u1), (6, u2)] ⟨rfl, rfl, rfl, rfl, trivial⟩ ?_
       refine Run.seq ?_
       refine Run.reg ?_
       refine op (OpS.loadB (fr := (Rep.iso (fun s : Download_ => (s.Size, s.Part, s.Have, s.Data, ())) (Rep.prod (Rep.int .i64) (Rep.prod (Rep.int .i64) (Rep.prod (Rep.raw (q1 2)) (Rep.prod (Rep.raw (q1 5)) Rep.unit)))))) h41 (.s .z) PA.z (GetS.ok GetS.id) (Ty.like ty28 (by rfl) (by rfl)) rfl rfl rfl (fun u16 h42 => ?_))
       refine op (OpS.mv rfl rfl rfl ?_)
       obtain ⟨y5, e12, hF⟩ := bindP_use hF
       refine op (OpS.callP h42 Try.func27 rfl rfl rfl rfl (vs := [u16, .int .i64 a1]) rfl (transfer_piece_view_ok e12) (.cons (V.jn (r := (Rep.iso (fun s : Download_ => (s.Size, s.Part, s.Have, s.Data, ())) (Rep.prod (Rep.int .i64) (Rep.prod (Rep.int .i64) (Rep.prod (Rep.raw (q1 2)) (Rep.prod (Rep.raw (q1 5)) Rep.unit)))))) (x := a0) (x' := { { a0 with Have := d1 } with Data := y4 }) (V.at .z) rfl (fun _ _ _ => (Jn.iso _ (Jn.prod Jn.refl (Jn.prod Jn.refl (Jn.prod Jn.same (Jn.prod Jn.same Jn.refl))))))) (.own .z (.own (.s (.s .z)) .nil))) ?_)
       rintro _ w18 _ _ _ ⟨rfl, rfl, rfl, rfl⟩ h43
       have h44 := h43 rfl rfl
       simp only [List.cons_append, List.nil_append] at h44
       refine op (OpS.mv rfl rfl rfl ?_)
       obtain ⟨e13, hF⟩ := chk_use hF
       obtain ⟨d2, e14, hF⟩ := letP_use hF
       refine op (OpS.copyO (f' := false) h44 (.s (.s .z)) Try.underlying22 ti5 rfl rfl (V.at (.s (.s (.s .z)))) (of_decide_eq_true e13) rfl rfl rfl Pure.int e14 (fun w19 h45 => ?_))
       refine RunL.nil ?_
       refine Run.slim [(3, u1), (6, u2)] ⟨rfl, rfl, trivial⟩ ?_
       refine Run.seq ?_
       refine Run.reg ?_
       refine op (OpS.loadB (fr := (Rep.iso (fun s : Download_ => (s.Size, s.Part, s.Have, s.Data, ())) (Rep.prod (Rep.int .i64) (Rep.prod (Rep.int .i64) (Rep.prod (Rep.raw (q1 2)) (Rep.prod (Rep.raw (q1 5)) Rep.unit)))))) h45 (.s (.s .z)) PA.z (GetS.ok GetS.id) (Ty.like ty28 (by rfl) (by rfl)) rfl rfl rfl (fun u17 h46 => ?_))
       refine op (OpS.storeC (f' := true) (fr := (Rep.iso (fun s : Download_ => (s.Size, s.Part, s.Have, s.Data, ())) (Rep.prod (Rep.int .i64) (Rep.prod (Rep.int .i64) (Rep.prod (Rep.raw (q1 2)) (Rep.prod (Rep.raw (q1 5)) Rep.unit)))))) (r' := (Rep.iso (fun s : Download_ => (s.Size, s.Part, s.Have, s.Data, ())) (Rep.prod (Rep.int .i64) (Rep.prod (Rep.int .i64) (Rep.prod (Rep.raw (q1 2)) (Rep.prod (Rep.raw (q1 5)) Rep.unit)))))) (x' := a0) h46 (.s (.s (.s .z))) PA.z (Chg.id (by rfl)) (Ty.like ty28 (by rfl) (by rfl)) rfl rfl rfl (V.pure (V.at .z) (Pure.iso (Pure.prod Pure.int (Pure.prod Pure.int (Pure.prod Pure.raw (Pure.prod Pure.raw Pure.unit)))))) (.inl rfl) (fun w20 h47 => ?_))
       refine op (OpS.as rfl rfl rfl ?_)
       refine RunL.nil ?_
       refine Run.slim [(7, .int .i64 0), (6, u2)] ⟨rfl, rfl, trivial⟩ ?_
       obtain ⟨u18, hu5, h48⟩ := res_box h47 .z (Ty.like ty28 (by rfl) (by rfl))
       have h49 := (h48.pick (.s (.s .z))).freeze
       have h50 := h49.pick .z
       have h51 := St.boxJ (r' := (Rep.iso (fun s : Download_ => (s.Size, s.Part, s.Have, s.Data, ())) (Rep.prod (Rep.int .i64) (Rep.prod (Rep.int .i64) (Rep.prod (Rep.slice Rep.bool) (Rep.prod (Rep.raw (q1 5)) Rep.unit)))))) (x' := { a0 with Have := d1 }) h50 (fun _ _ hs_ => (Jn.iso _ (Jn.prod Jn.refl (Jn.prod Jn.refl (Jn.prod (Jn.raw ((V.at .z) _ _ hs_) rfl) (Jn.prod Jn.same Jn.refl))))))
       have h52 := h51.pick (.s (.s .z))
       have h53 := St.boxJ (r' := (Rep.iso (fun s : Download_ => (s.Size, s.Part, s.Have, s.Data, ())) (Rep.prod (Rep.int .i64) (Rep.prod (Rep.int .i64) (Rep.prod (Rep.slice Rep.bool) (Rep.prod (Rep.raw (q1 5)) Rep.unit)))))) (x' := { a0 with Have := d1 }) h52 (fun _ _ hs_ => (Jn.iso _ (Jn.prod Jn.refl (Jn.prod Jn.refl (Jn.prod (Jn.raw ((V.weak (V.at .z)) _ _ hs_) rfl) (Jn.prod Jn.same Jn.refl))))))
       have h54 := (h53.pick (.s (.s .z))).freeze
       have h55 := h54.pick .z
       have h56 := St.boxJ (r' := Download_.rep) (x' := { { a0 with Have := d1 } with Data := d2 }) h55 (fun _ _ hs_ => (Jn.iso _ (Jn.prod Jn.refl (Jn.prod Jn.refl (Jn.prod Jn.refl (Jn.prod (Jn.raw ((V.weak (V.at .z)) _ _ hs_) rfl) Jn.refl))))))
       have h57 := h56.pick (.s .z)
       have h58 := St.boxJ (r' := Download_.rep) (x' := { { a0 with Have := d1 } with Data := d2 }) h57 (fun _ _ hs_ => (Jn.iso _ (Jn.prod Jn.refl (Jn.prod Jn.refl (Jn.prod Jn.refl (Jn.prod (Jn.raw ((V.at .z) _ _ hs_) rfl) Jn.refl))))))
       have h59 := St.addV (f := true) (r := Download_.rep) (x := { { a0 with Have := d1 } with Data := d2 }) h58 (V.jn (r := (Rep.iso (fun s : Download_ => (s.Size, s.Part, s.Have, s.Data, ())) (Rep.prod (Rep.int .i64) (Rep.prod (Rep.int .i64) (Rep.prod (Rep.raw (q1 2)) (Rep.prod (Rep.raw (q1 5)) Rep.unit)))))) (x := a0) (V.at (.s (.s .z))) rfl (fun _ _ hs_ => (Jn.iso _ (Jn.prod Jn.refl (Jn.prod Jn.refl (Jn.prod (Jn.raw ((V.at (.s .z)) _ _ hs_) rfl) (Jn.prod (Jn.raw ((V.at .z) _ _ hs_) rfl) Jn.refl)))))))
       refine Run.retP rfl (.cell rfl hu5 (.tmp rfl .nil)) ?_
       cases hF
       exact Post.mk' ⟨u18, rfl, rfl, rfl, rfl⟩ (h59.picks .nil) (.val (V.at .z) .nil)
     ·
      refine RunL.caseb hF (fun e15 hF => ?_) (fun e15 hF => ?_)
      ·
       refine op (OpS.mv rfl rfl rfl ?_)
       refine op (OpS.loadB h21 .z PA.z Get.id ty28 rfl rfl rfl (fun u19 h60 => ?_))
       refine op (OpS.mv rfl rfl rfl ?_)
       obtain ⟨y6, e16, hF⟩ := bindP_use hF
       have h61 := h60.front .nil
       refine op (OpS.callO h61 Try.func27 rfl rfl rfl rfl (vs := [u19, .int .i64 a1]) rfl (transfer_piece_ok e16) rfl (.cons (f := false) (V.at .z) .nil) ?_)
       rintro u20 w21 _ _ _ ⟨_, rfl, rfl, rfl, rfl⟩ h62
       have h63 := h62
       simp only [List.cons_append, List.nil_append] at h63
       obtain ⟨y7, e17, hF⟩ := bindP_use hF
       refine op (OpS.callP h63 Try.func28 rfl rfl rfl rfl (vs := [v2, u20]) rfl (slices_Equal_byte_byte_ok e17) (.cons (f := false) (V.at (.s (.s (.s (.s (.s (.s .z))))))) (.cons (f := false) (V.at .z) .nil)) ?_)
       rintro _ w22 _ _ _ ⟨rfl, rfl, rfl, rfl⟩ h64
       have h65 := h64 rfl rfl
       simp only [List.cons_append, List.nil_append] at h65
       refine op (OpS.not rfl rfl rfl ?_)
       refine op (OpS.pick rfl rfl rfl rfl ?_)
       refine RunL.nil ?_
       refine Run.slim [(42, .bool (!y7)), (1, .int .i64 a1), (2, v2), (3, u1), (6, u2)] ⟨rfl, rfl, rfl, rfl, rfl, trivial⟩ ?_
       refine Run.slim [(1, .int .i64 a1), (2, v2), (3, u1), (6, u2), (42, .bool (!y7))] ⟨rfl, rfl, rfl, rfl, rfl, trivial⟩ ?_
       exact hj2 (!y7) _ _ ⟨rfl, (h65.facts (.atm (.s (.s (.s (.s (.s (.s .z)))))) .nil)).picks (.cons .z (.cons .z .nil))⟩ hF
      ·
       refine op (OpS.pass rfl rfl rfl ?_)
       refine op (OpS.pass rfl rfl rfl ?_)
       refine op (OpS.pass rfl rfl rfl ?_)
       refine op (OpS.pass rfl rfl rfl ?_)
       refine op (OpS.pass rfl rfl rfl ?_)
       refine op (OpS.pass rfl rfl rfl ?_)
       refine op (OpS.pick rfl rfl rfl rfl ?_)
       refine RunL.nil ?_
       refine Run.slim [(42, .bool false), (1, .int .i64 a1), (2, v2), (3, u1), (6, u2)] ⟨rfl, rfl, rfl, rfl, rfl, trivial⟩ ?_
       refine Run.slim [(1, .int .i64 a1), (2, v2), (3, u1), (6, u2), (42, .bool false)] ⟨rfl, rfl, rfl, rfl, rfl, trivial⟩ ?_
       exact hj2 (false) _ _ ⟨rfl, (h21.facts (.atm (.s (.s (.s (.s .z)))) .nil)).picks (.cons .z (.cons .z .nil))⟩ hF
  ·
   refine RunL.caseb hF (fun e18 hF => ?_) (fun e18 hF => ?_)
   ·
    refine op (OpS.pass rfl rfl rfl ?_)
    refine op (OpS.pass rfl rfl rfl ?_)
    refine op (OpS.pass rfl rfl rfl ?_)
    refine op (OpS.pass rfl rfl rfl ?_)
    refine op (OpS.pass rfl rfl rfl ?_)
    refine op (OpS.pick rfl rfl rfl rfl ?_)
    refine RunL.nil ?_
    refine Run.slim [(20, .bool true), (6, u2), (3, u1), (1, .int .i64 a1), (2, v2)] ⟨rfl, rfl, rfl, rfl, rfl, trivial⟩ ?_
    refine Run.slim [(1, .int .i64 a1), (2, v2), (3, u1), (6, u2), (20, .bool true)] ⟨rfl, rfl, rfl, rfl, rfl, trivial⟩ ?_
    exact hj1 (true) _ _ ⟨rfl, (h5.facts (.atm (.s (.s .z)) .nil)).picks (.cons (.s .z) (.cons .z .nil))⟩ hF
   ·
    refine op (OpS.mv rfl rfl rfl ?_)
    refine op (OpS.fbox (o3 := 2) h5 (.s .z) PA.z fa28_2 rfl rfl rfl rfl ?_)
    refine op (OpS.loadB h5 (.s .z) PA.a (Get.fld Download_.f2) ty26 rfl rfl rfl (fun u21 h66 => ?_))
    refine op (OpS.len h66 Try.underlying26 rfl rfl rfl (V.at .z) ?_)
    refine op (OpS.bin rfl rfl rfl rfl rfl ?_)
    refine op (OpS.pick rfl rfl rfl rfl ?_)
    refine RunL.nil ?_
    refine Run.slim [(20, .bool (decide (a1 ≥ (a0.Have.length : Int)))), (6, u2), (3, u1), (1, .int .i64 a1), (2, v2)] ⟨rfl, rfl, rfl, rfl, rfl, trivial⟩ ?_
    refine Run.slim [(1, .int .i64 a1), (2, v2), (3, u1), (6, u2), (20, .bool (decide (a1 ≥ (a0.Have.length : Int))))] ⟨rfl, rfl, rfl, rfl, rfl, trivial⟩ ?_
    exact hj1 (decide (a1 ≥ (a0.Have.length : Int))) _ _ ⟨rfl, (h66.facts (.atm (.s (.s (.s .z))) .nil)).picks (.cons (.s .z) (.cons .z .nil))⟩ hF
theorem transfer_Wanted_ok {fuel : Nat} {a0 : Download_} {a1 : Int} {y : (List Int)} (hF : transfer_Wanted fuel a0 a1 = some y) {w : World} {v0 : Value} :
  Spec Try.prog 14 [v0, .int .i64 a1].toArray w [(false, .val Download_.rep v0 a0)] [] (fun v Γr Ωr Ωo => ∃ u0 : Value, v = u0 ∧ Γr = [] ∧ Ωr = [(true, .slice 3 (Rep.int .i64) u0 y)] ∧ Ωo = []) := by
 refine Spec.of (L := [(0, v0), (1, .int .i64 a1)]) Try.func14 rfl ⟨rfl, rfl, trivial⟩ rfl (fun e h => ?_)
 unfold transfer_Wanted at hF
 refine Run.seq ?_
 refine Run.reg ?_
 refine op (OpS.boxF h rfl rfl rfl (V.at .z) (fun u1 w1 h1 => ?_))
 refine op (OpS.as rfl rfl rfl ?_)
 refine RunL.nil ?_
 refine Run.slim [(2, u1), (1, .int .i64 a1)] ⟨rfl, rfl, trivial⟩ ?_
 refine Run.seq ?_
 refine Run.seq ?_
 refine Run.reg ?_
 refine op (OpS.loadB h1 .z PA.z Get.id ty28 rfl rfl rfl (fun u2 h2 => ?_))
 obtain ⟨y1, e1, hF⟩ := bindP_use hF
 refine op (OpS.callP h2 Try.func22 rfl rfl rfl rfl (vs := [u2]) rfl (transfer_Valid_ok e1) (.cons (f := false) (V.at .z) .nil) ?_)
 rintro _ w2 _ _ _ ⟨rfl, rfl, rfl, rfl⟩ h3
 have h4 := h3 rfl rfl
 simp only [List.cons_append, List.nil_append] at h4
 refine op (OpS.not rfl rfl rfl ?_)
 refine RunL.nil ?_
 refine Run.slim [(10, .bool (!y1)), (2, u1), (1, .int .i64 a1)] ⟨rfl, rfl, rfl, trivial⟩ ?_
 refine Run.ite rfl hF (fun e2 hF => ?_) (fun e2 hF => ?_)
 ·
  refine Run.seq ?_
  refine Run.reg ?_
  refine op (OpS.as rfl rfl rfl ?_)
  refine RunL.nil ?_
  refine Run.slim [(4, .slice none 0 0)] ⟨rfl, trivial⟩ ?_
  have h5 := St.nil 3 (Rep.int .i64) h4
  refine Run.retP rfl (.tmp rfl .nil) ?_
  cases hF
  exact Post.mk' ⟨(.slice none 0 0), rfl, rfl, rfl, rfl⟩ (h5.picks (.cons .z .nil)) .nil
 ·
  refine Run.skip ?_
  refine Run.seq ?_
  refine Run.reg ?_
  refine op (OpS.as rfl rfl rfl ?_)
  refine RunL.nil ?_
  refine Run.slim [(5, .slice none 0 0), (2, u1), (1, .int .i64 a1)] ⟨rfl, rfl, rfl, trivial⟩ ?_
  refine Run.seq ?_
  refine Run.seq ?_
  refine Run.reg ?_
  refine op (OpS.fbox (o3 := 2) h4 .z PA.z fa28_2 rfl rfl rfl rfl ?_)
  refine op (OpS.loadB h4 .z PA.a (Get.fld Download_.f2) ty26 rfl rfl rfl (fun u3 h6 => ?_))
  refine op (OpS.len h6 Try.underlying26 rfl rfl rfl (V.at .z) ?_)
  refine op (OpS.mv rfl rfl rfl ?_)
  refine RunL.nil ?_
  refine Run.slim [(14, .int .i64 0), (13, .int .i64 (a0.Have.length : Int)), (12, u3), (5, .slice none 0 0), (1, .int .i64 a1)] ⟨rfl, rfl, rfl, rfl, rfl, trivial⟩ ?_
  refine Run.block ?_
  have h7 := St.nil 3 (Rep.int .i64) h6
  refine Run.slim [(1, .int .i64 a1), (5, (.slice none 0 0)), (12, u3), (13, .int .i64 (a0.Have.length : Int)), (14, .int .i64 0)] ⟨rfl, rfl, rfl, rfl, rfl, trivial⟩ ?_
  refine Run.loopP (σ := (Int × (List Int))) (fun s_ L_ w_ => ∃ u0_ : Value, L_ = [(1, .int .i64 a1), (5, u0_), (12, u3), (13, .int .i64 (a0.Have.length : Int)), (14, .int .i64 s_.1)] ∧ St e w_ [(false, .val (Rep.slice Rep.bool) u3 a0.Have)] [(true, .slice 3 (Rep.int .i64) u0_ s_.2)]) hF ⟨(.slice none 0 0), rfl, (h7.facts (.atm .z .nil)).picks (.cons .z .nil)⟩ (fun k1 hk1 s1 _ w3 hI hF => ?_)
  obtain ⟨u4, rfl, h8⟩ := hI
  refine Run.seq ?_
  refine Run.reg ?_
  refine op (OpS.bin rfl rfl rfl rfl rfl ?_)
  refine RunL.nil ?_
  refine Run.seq ?_
  refine Run.ite rfl hF (fun e3 hF => ?_) (fun e3 hF => ?_)
  ·
   refine Run.skip ?_
   refine Run.seq ?_
   refine Run.block ?_
   refine Run.seq ?_
   refine Run.reg ?_
   refine op (OpS.mv rfl rfl rfl ?_)
   obtain ⟨x1, e4, hF⟩ := bindP_use hF
   refine op (OpS.iptr h8 Try.underlying26 ty4 rfl rfl rfl rfl (V.at .z) e4 (fun u5 h9 => ?_))
   refine op (OpS.loadb h9 ty4 rfl rfl rfl .z ?_)
   refine op (OpS.as rfl rfl rfl ?_)
   refine op (OpS.as rfl rfl rfl ?_)
   refine RunL.nil ?_
   refine Run.slim [(7, .bool x1), (6, .int .i64 s1.1), (1, .int .i64 a1), (5, u4), (12, u3), (13, .int .i64 (a0.Have.length : Int)), (14, .int .i64 s1.1)] ⟨rfl, rfl, rfl, rfl, rfl, rfl, rfl, trivial⟩ ?_
   refine Run.seq ?_
   refine Run.reg ?_
   refine op (OpS.mv rfl rfl rfl ?_)
   refine op (OpS.not rfl rfl rfl ?_)
   refine op (OpS.mv rfl rfl rfl ?_)
   refine RunL.join (σ := Bool) (fun s_ L_ w_ => L_ = [(1, .int .i64 a1), (5, u4), (6, .int .i64 s1.1), (12, u3), (13, .int .i64 (a0.Have.length : Int)), (14, .int .i64 s1.1), (26, .bool s_)] ∧ St e w_ [(false, .val (Rep.slice Rep.bool) u3 a0.Have)] [(true, .slice 3 (Rep.int .i64) u4 s1.2)]) hF (fun s2 _ w4 hI hF => ?_) (fun j1 hj1 hF => ?_)
   ·
    obtain ⟨rfl, h10⟩ := hI
    refine Run.ite rfl hF (fun e5 hF => ?_) (fun e5 hF => ?_)
    ·
     refine Run.reg ?_
     refine op (OpS.mv rfl rfl rfl ?_)
     refine op (OpS.mv rfl rfl rfl ?_)
     refine op (OpS.lit (r := (Rep.int .i64)) (f := true) h10 Try.underlying37 ti3 rfl rfl rfl rfl rfl (.cons rfl V.int .nil) rfl rfl (fun u6 w5 h11 => ?_))
     obtain ⟨x2, e6, hF⟩ := bindP_use hF
     refine op (OpS.app (f' := true) h11 .z Try.underlying37 ti3 rfl rfl rfl rfl rfl rfl rfl (V.at .z) (.inr Pure.int) e6 (fun u7 w6 h12 => ?_))
     refine op (OpS.as rfl rfl rfl ?_)
     refine RunL.nil ?_
     refine Run.slim [(5, u7), (1, .int .i64 a1), (12, u3), (13, .int .i64 (a0.Have.length : Int)), (14, .int .i64 s1.1)] ⟨rfl, rfl, rfl, rfl, rfl, trivial⟩ ?_
     refine Run.endBlock ?_
     refine Run.reg ?_
     refine op (OpS.bin rfl rfl rfl rfl rfl ?_)
     refine op (OpS.mv rfl rfl rfl ?_)
     refine RunL.nil ?_
     refine Run.slim [(14, .int .i64 (IntKind.i64.wrap (s1.1 + 1))), (5, u7), (1, .int .i64 a1), (12, u3), (13, .int .i64 (a0.Have.length : Int))] ⟨rfl, rfl, rfl, rfl, rfl, trivial⟩ ?_
     refine Run.slim [(1, .int .i64 a1), (5, u7), (12, u3), (13, .int .i64 (a0.Have.length : Int)), (14, .int .i64 (IntKind.i64.wrap (s1.1 + 1)))] ⟨rfl, rfl, rfl, rfl, rfl, trivial⟩ ?_
     exact hk1 ((IntKind.i64.wrap (s1.1 + 1)), x2) _ _ ⟨u7, rfl, (h12.facts (.atm (.s .z) .nil)).picks (.cons .z .nil)⟩ hF
    ·
     refine Run.skip ?_
     refine Run.endBlock ?_
     refine Run.reg ?_
     refine op (OpS.bin rfl rfl rfl rfl rfl ?_)
     refine op (OpS.mv rfl rfl rfl ?_)
     refine RunL.nil ?_
     refine Run.slim [(14, .int .i64 (IntKind.i64.wrap (s1.1 + 1))), (1, .int .i64 a1), (5, u4), (12, u3), (13, .int .i64 (a0.Have.length : Int))] ⟨rfl, rfl, rfl, rfl, rfl, trivial⟩ ?_
     refine Run.slim [(1, .int .i64 a1), (5, u4), (12, u3), (13, .int .i64 (a0.Have.length : Int)), (14, .int .i64 (IntKind.i64.wrap (s1.1 + 1)))] ⟨rfl, rfl, rfl, rfl, rfl, trivial⟩ ?_
     exact hk1 ((IntKind.i64.wrap (s1.1 + 1)), s1.2) _ _ ⟨u4, rfl, (h10.facts (.atm .z .nil)).picks (.cons .z .nil)⟩ hF
   ·
    refine RunL.caseb hF (fun e7 hF => ?_) (fun e7 hF => ?_)
    ·
     refine op (OpS.mv rfl rfl rfl ?_)
     refine op (OpS.lenO h9 .z Try.underlying37 rfl rfl rfl ?_)
     refine op (OpS.mv rfl rfl rfl ?_)
     refine op (OpS.bin rfl rfl rfl rfl rfl ?_)
     refine op (OpS.pick rfl rfl rfl rfl ?_)
     refine RunL.nil ?_
     refine Run.slim [(26, .bool (decide ((s1.2.length : Int) < a1))), (6, .int .i64 s1.1), (1, .int .i64 a1), (5, u4), (12, u3), (13, .int .i64 (a0.Have.length : Int)), (14, .int .i64 s1.1)] ⟨rfl, rfl, rfl, rfl, rfl, rfl, rfl, trivial⟩ ?_
     refine Run.slim [(1, .int .i64 a1), (5, u4), (6, .int .i64 s1.1), (12, u3), (13, .int .i64 (a0.Have.length : Int)), (14, .int .i64 s1.1), (26, .bool (decide ((s1.2.length : Int) < a1)))] ⟨rfl, rfl, rfl, rfl, rfl, rfl, rfl, trivial⟩ ?_
     exact hj1 (decide ((s1.2.length : Int) < a1)) _ _ ⟨rfl, (h9.facts (.atm (.s .z) .nil)).picks (.cons .z .nil)⟩ hF
    ·
     refine op (OpS.pass rfl rfl rfl ?_)
     refine op (OpS.pass rfl rfl rfl ?_)
     refine op (OpS.pass rfl rfl rfl ?_)
     refine op (OpS.pass rfl rfl rfl ?_)
     refine op (OpS.pick rfl rfl rfl rfl ?_)
     refine RunL.nil ?_
     refine Run.slim [(26, .bool false), (6, .int .i64 s1.1), (1, .int .i64 a1), (5, u4), (12, u3), (13, .int .i64 (a0.Have.length : Int)), (14, .int .i64 s1.1)] ⟨rfl, rfl, rfl, rfl, rfl, rfl, rfl, trivial⟩ ?_
     refine Run.slim [(1, .int .i64 a1), (5, u4), (6, .int .i64 s1.1), (12, u3), (13, .int .i64 (a0.Have.length : Int)), (14, .int .i64 s1.1), (26, .bool false)] ⟨rfl, rfl, rfl, rfl, rfl, rfl, rfl, trivial⟩ ?_
     exact hj1 (false) _ _ ⟨rfl, (h9.facts (.atm (.s .z) .nil)).picks (.cons .z .nil)⟩ hF
  ·
   refine Run.exit rfl ?_
   refine Run.seq ?_
   refine Run.reg ?_
   refine op (OpS.mv rfl rfl rfl ?_)
   refine op (OpS.as rfl rfl rfl ?_)
   refine RunL.nil ?_
   refine Run.slim [(4, u4)] ⟨rfl, trivial⟩ ?_
   refine Run.retP rfl (.tmp rfl .nil) ?_
   cases hF
   exact Post.mk' ⟨u4, rfl, rfl, rfl, rfl⟩ (h8.picks (.cons .z .nil)) .nil
theorem slices_Index_bool_bool_ok {fuel : Nat} {a0 : List Bool} {a1 : Bool} {y : Int} (hF : slices_Index_bool_bool fuel a0 a1 = some y) {w : World} {v0 : Value} :
  Spec Try.prog 38 [v0, .bool a1].toArray w [(false, .val (Rep.slice Rep.bool) v0 a0)] [] (fun v Γr Ωr Ωo => v = .int .i64 y ∧ Γr = [] ∧ Ωr = [] ∧ Ωo = []) := by
 refine Spec.of (L := [(0, v0), (1, .bool a1)]) Try.func38 rfl ⟨rfl, rfl, trivial⟩ rfl (fun e h => ?_)
 unfold slices_Index_bool_bool at hF
 refine Run.seq ?_
 refine Run.reg ?_
 refine op (OpS.as rfl rfl rfl ?_)
 refine RunL.nil ?_
 refine Run.slim [(0, v0), (1, .bool a1)] ⟨rfl, rfl, trivial⟩ ?_
 refine Run.seq ?_
 refine Run.seq ?_
 refine Run.reg ?_
 refine op (OpS.mv rfl rfl rfl ?_)
 refine op (OpS.len h Try.underlying26 rfl rfl rfl (V.at .z) ?_)
 refine op (OpS.mv rfl rfl rfl ?_)
 refine RunL.nil ?_
 refine Run.slim [(8, .int .i64 0), (7, .int .i64 (a0.length : Int)), (0, v0), (1, .bool a1)] ⟨rfl, rfl, rfl, rfl, trivial⟩ ?_
 refine Run.block ?_
 refine Run.slim [(0, v0), (1, .bool a1), (7, .int .i64 (a0.length : Int)), (8, .int .i64 0)] ⟨rfl, rfl, rfl, rfl, trivial⟩ ?_
 refine Run.loopP (σ := Int) (fun s_ L_ w_ => L_ = [(0, v0), (1, .bool a1), (7, .int .i64 (a0.length : Int)), (8, .int .i64 s_)] ∧ St e w_ [(false, .val (Rep.slice Rep.bool) v0 a0)] []) hF ⟨rfl, (h.facts (.atm .z .nil)).picks .nil⟩ (fun k1 hk1 s1 _ w1 hI hF => ?_)
 obtain ⟨rfl, h1⟩ := hI
 refine Run.seq ?_
 refine Run.reg ?_
 refine op (OpS.bin rfl rfl rfl rfl rfl ?_)
 refine RunL.nil ?_
 refine Run.seq ?_
 refine Run.ite rfl hF (fun e1 hF => ?_) (fun e1 hF => ?_)
 ·
  refine Run.skip ?_
  refine Run.seq ?_
  refine Run.block ?_
  refine Run.seq ?_
  refine Run.reg ?_
  refine op (OpS.mv rfl rfl rfl ?_)
  refine op (OpS.as rfl rfl rfl ?_)
  refine RunL.nil ?_
  refine Run.slim [(5, .int .i64 s1), (0, v0), (1, .bool a1), (7, .int .i64 (a0.length : Int)), (8, .int .i64 s1)] ⟨rfl, rfl, rfl, rfl, rfl, trivial⟩ ?_
  refine Run.seq ?_
  refine Run.reg ?_
  refine op (OpS.mv rfl rfl rfl ?_)
  refine op (OpS.mv rfl rfl rfl ?_)
  refine op (OpS.mv rfl rfl rfl ?_)
  obtain ⟨x1, e2, hF⟩ := bindP_use hF
  refine op (OpS.iptr h1 Try.underlying26 ty4 rfl rfl rfl rfl (V.at .z) e2 (fun u1 h2 => ?_))
  refine op (OpS.loadb h2 ty4 rfl rfl rfl .z ?_)
  refine op (OpS.eqb Try.underlying4 rfl rfl rfl rfl ?_)
  refine RunL.nil ?_
  refine Run.slim [(16, .bool (a1 == x1)), (5, .int .i64 s1), (0, v0), (1, .bool a1), (7, .int .i64 (a0.length : Int)), (8, .int .i64 s1)] ⟨rfl, rfl, rfl, rfl, rfl, rfl, trivial⟩ ?_
  refine Run.ite rfl hF (fun e3 hF => ?_) (fun e3 hF => ?_)
  ·
   refine Run.seq ?_
   refine Run.reg ?_
   refine op (OpS.mv rfl rfl rfl ?_)
   refine op (OpS.as rfl rfl rfl ?_)
   refine RunL.nil ?_
   refine Run.slim [(4, .int .i64 s1)] ⟨rfl, trivial⟩ ?_
   refine Run.retP rfl (.tmp rfl .nil) ?_
   cases hF
   exact Post.mk' ⟨rfl, rfl, rfl, rfl⟩ (h2.picks .nil) .nil
  ·
   refine Run.skip ?_
   refine Run.endBlock ?_
   refine Run.reg ?_
   refine op (OpS.bin rfl rfl rfl rfl rfl ?_)
   refine op (OpS.mv rfl rfl rfl ?_)
   refine RunL.nil ?_
   refine Run.slim [(8, .int .i64 (IntKind.i64.wrap (s1 + 1))), (0, v0), (1, .bool a1), (7, .int .i64 (a0.length : Int))] ⟨rfl, rfl, rfl, rfl, trivial⟩ ?_
   refine Run.slim [(0, v0), (1, .bool a1), (7, .int .i64 (a0.length : Int)), (8, .int .i64 (IntKind.i64.wrap (s1 + 1)))] ⟨rfl, rfl, rfl, rfl, trivial⟩ ?_
   exact hk1 ((IntKind.i64.wrap (s1 + 1))) _ _ ⟨rfl, (h2.facts (.atm (.s .z) .nil)).picks .nil⟩ hF
 ·
  refine Run.exit rfl ?_
  refine Run.seq ?_
  refine Run.reg ?_
  refine op (OpS.as rfl rfl rfl ?_)
  refine RunL.nil ?_
  refine Run.slim [(4, .int .i64 (-1))] ⟨rfl, trivial⟩ ?_
  refine Run.retP rfl (.tmp rfl .nil) ?_
  cases hF
  exact Post.mk' ⟨rfl, rfl, rfl, rfl⟩ (h1.picks .nil) .nil
theorem slices_Contains_bool_bool_ok {fuel : Nat} {a0 : List Bool} {a1 : Bool} {y : Bool} (hF : slices_Contains_bool_bool fuel a0 a1 = some y) {w : World} {v0 : Value} :
  Spec Try.prog 33 [v0, .bool a1].toArray w [(false, .val (Rep.slice Rep.bool) v0 a0)] [] (fun v Γr Ωr Ωo => v = .bool y ∧ Γr = [] ∧ Ωr = [] ∧ Ωo = []) := by
 refine Spec.of (L := [(0, v0), (1, .bool a1)]) Try.func33 rfl ⟨rfl, rfl, trivial⟩ rfl (fun e h => ?_)
 unfold slices_Contains_bool_bool at hF
 refine Run.seq ?_
 refine Run.reg ?_
 refine op (OpS.as rfl rfl rfl ?_)
 refine RunL.nil ?_
 refine Run.slim [(0, v0), (1, .bool a1)] ⟨rfl, rfl, trivial⟩ ?_
 refine Run.seq ?_
 refine Run.reg ?_
 refine op (OpS.mv rfl rfl rfl ?_)
 refine op (OpS.mv rfl rfl rfl ?_)
 obtain ⟨y1, e1, hF⟩ := bindP_use hF
 refine op (OpS.callP h Try.func38 rfl rfl rfl rfl (vs := [v0, .bool a1]) rfl (slices_Index_bool_bool_ok e1) (.cons (f := false) (V.at .z) .nil) ?_)
 rintro _ w1 _ _ _ ⟨rfl, rfl, rfl, rfl⟩ h1
 have h2 := h1 rfl rfl
 simp only [List.cons_append, List.nil_append] at h2
 refine op (OpS.bin rfl rfl rfl rfl rfl ?_)
 refine op (OpS.as rfl rfl rfl ?_)
 obtain ⟨x1, e2, hF⟩ := letP_use hF
 refine RunL.nameb e2 ?_
 refine RunL.nil ?_
 refine Run.slim [(4, .bool x1)] ⟨rfl, trivial⟩ ?_
 refine Run.retP rfl (.tmp rfl .nil) ?_
 cases hF
 exact Post.mk' ⟨rfl, rfl, rfl, rfl⟩ (h2.picks .nil) .nil
theorem transfer_Complete_ok {fuel : Nat} {a0 : Download_} {y : Bool} (hF : transfer_Complete fuel a0 = some y) {w : World} {v0 : Value} :
  Spec Try.prog 15 [v0].toArray w [(false, .val Download_.rep v0 a0)] [] (fun v Γr Ωr Ωo => v = .bool y ∧ Γr = [] ∧ Ωr = [] ∧ Ωo = []) := by
 refine Spec.of (L := [(0, v0)]) Try.func15 rfl ⟨rfl, trivial⟩ rfl (fun e h => ?_)
 unfold transfer_Complete at hF
 refine Run.seq ?_
 refine Run.reg ?_
 refine op (OpS.boxF h rfl rfl rfl (V.at .z) (fun u1 w1 h1 => ?_))
 refine op (OpS.as rfl rfl rfl ?_)
 refine RunL.nil ?_
 refine Run.slim [(1, u1)] ⟨rfl, trivial⟩ ?_
 refine Run.seq ?_
 refine Run.reg ?_
 refine op (OpS.loadB h1 .z PA.z Get.id ty28 rfl rfl rfl (fun u2 h2 => ?_))
 obtain ⟨y1, e1, hF⟩ := bindP_use hF
 refine op (OpS.callP h2 Try.func22 rfl rfl rfl rfl (vs := [u2]) rfl (transfer_Valid_ok e1) (.cons (f := false) (V.at .z) .nil) ?_)
 rintro _ w2 _ _ _ ⟨rfl, rfl, rfl, rfl⟩ h3
 have h4 := h3 rfl rfl
 simp only [List.cons_append, List.nil_append] at h4
 refine op (OpS.mv rfl rfl rfl ?_)
 refine RunL.caseb hF (fun e2 hF => ?_) (fun e2 hF => ?_)
 ·
  refine op (OpS.fbox (o3 := 2) h4 .z PA.z fa28_2 rfl rfl rfl rfl ?_)
  refine op (OpS.loadB h4 .z PA.a (Get.fld Download_.f2) ty26 rfl rfl rfl (fun u3 h5 => ?_))
  obtain ⟨y2, e3, hF⟩ := bindP_use hF
  refine op (OpS.callP h5 Try.func33 rfl rfl rfl rfl (vs := [u3, .bool false]) rfl (slices_Contains_bool_bool_ok e3) (.cons (f := false) (V.at .z) .nil) ?_)
  rintro _ w3 _ _ _ ⟨rfl, rfl, rfl, rfl⟩ h6
  have h7 := h6 rfl rfl
  simp only [List.cons_append, List.nil_append] at h7
  refine op (OpS.not rfl rfl rfl ?_)
  refine op (OpS.pick rfl rfl rfl rfl ?_)
  refine op (OpS.as rfl rfl rfl ?_)
  obtain ⟨x1, e4, hF⟩ := letP_use hF
  refine RunL.nameb e4 ?_
  refine RunL.nil ?_
  refine Run.slim [(2, .bool x1)] ⟨rfl, trivial⟩ ?_
  refine Run.retP rfl (.tmp rfl .nil) ?_
  cases hF
  exact Post.mk' ⟨rfl, rfl, rfl, rfl⟩ (h7.picks .nil) .nil
 ·
  refine op (OpS.pass rfl rfl rfl ?_)
  refine op (OpS.pass rfl rfl rfl ?_)
  refine op (OpS.pass rfl rfl rfl ?_)
  refine op (OpS.pass rfl rfl rfl ?_)
  refine op (OpS.pick rfl rfl rfl rfl ?_)
  refine op (OpS.as rfl rfl rfl ?_)
  refine RunL.nil ?_
  refine Run.slim [(2, .bool false)] ⟨rfl, trivial⟩ ?_
  refine Run.retP rfl (.tmp rfl .nil) ?_
  cases hF
  exact Post.mk' ⟨rfl, rfl, rfl, rfl⟩ (h4.picks .nil) .nil
theorem law30_awake_ok {fuel : Nat}  {y : Bool} (hF : law30_awake fuel  = some y) {w : World} :
  Spec Try.prog 8 [].toArray w [] [] (fun v Γr Ωr Ωo => v = .bool y ∧ Γr = [] ∧ Ωr = [] ∧ Ωo = []) := by
 refine Spec.of (L := []) Try.func8 rfl trivial rfl (fun e h => ?_)
 unfold law30_awake at hF
 refine Run.seq ?_
 refine Run.reg ?_
 refine op (OpS.as rfl rfl rfl ?_)
 refine RunL.nil ?_
 refine Run.slim [] trivial ?_
 refine Run.seq ?_
 refine Run.reg ?_
 obtain ⟨y1, e1, hF⟩ := bindP_use hF
 refine op (OpS.callP h Try.func13 rfl rfl rfl rfl (vs := [.int .i64 10, .int .i64 4]) rfl (transfer_New_ok e1) .nil ?_)
 rintro _ w1 _ _ _ ⟨u1, rfl, rfl, rfl, rfl⟩ h1
 have h2 := h1 rfl rfl
 simp only [List.cons_append, List.nil_append] at h2
 refine op (OpS.mv rfl rfl rfl ?_)
 refine op (OpS.ext rfl rfl rfl rfl ?_)
 refine op (OpS.ext rfl rfl rfl rfl ?_)
 refine op (OpS.alloc h2 ti28 Download_.zr rfl rfl (fun u2 w2 h3 => ?_))
 refine op (OpS.storeB (f' := true) h3 .z PA.z Put.id ty28 rfl rfl rfl (V.at .z) (.inl rfl) (fun w3 h4 => ?_))
 refine op (OpS.as rfl rfl rfl ?_)
 refine RunL.nil ?_
 refine Run.slim [(2, .int .i64 y1.2), (1, u2)] ⟨rfl, rfl, trivial⟩ ?_
 refine Run.seq ?_
 refine Run.reg ?_
 refine op (OpS.loadB h4 .z PA.z Get.id ty28 rfl rfl rfl (fun u3 h5 => ?_))
 refine op (OpS.lit (r := (Rep.int .u8)) (f := true) h5 Try.underlying22 ti5 rfl rfl rfl rfl rfl (.cons rfl V.int (.cons rfl V.int .nil)) rfl rfl (fun u4 w4 h6 => ?_))
 obtain ⟨y2, e2, hF⟩ := bindP_use hF
 refine op (OpS.callP h6 Try.func11 rfl rfl rfl rfl (vs := [u3, .int .i64 2, u4]) rfl (transfer_Accept_ok e2) (.cons (f := true) (V.at (.s .z)) (.cons (f := true) (V.at .z) .nil)) ?_)
 rintro _ w5 _ _ _ ⟨u5, rfl, rfl, rfl, rfl⟩ h7
 have h8 := h7 rfl rfl
 simp only [List.cons_append, List.nil_append] at h8
 refine op (OpS.mv rfl rfl rfl ?_)
 refine op (OpS.ext rfl rfl rfl rfl ?_)
 refine op (OpS.ext rfl rfl rfl rfl ?_)
 refine op (OpS.storeB (f' := true) h8 .z PA.z Put.id ty28 rfl rfl rfl (V.at .z) (.inl rfl) (fun w6 h9 => ?_))
 refine op (OpS.as rfl rfl rfl ?_)
 refine RunL.nil ?_
 refine Run.slim [(3, .int .i64 y2.2), (2, .int .i64 y1.2), (1, u2)] ⟨rfl, rfl, rfl, trivial⟩ ?_
 refine Run.seq ?_
 refine Run.reg ?_
 refine op (OpS.loadB h9 .z PA.z Get.id ty28 rfl rfl rfl (fun u6 h10 => ?_))
 obtain ⟨y3, e3, hF⟩ := bindP_use hF
 refine op (OpS.callP h10 Try.func14 rfl rfl rfl rfl (vs := [u6, .int .i64 9]) rfl (transfer_Wanted_ok e3) (.cons (f := true) (V.at .z) .nil) ?_)
 rintro u7 w7 _ _ _ ⟨_, rfl, rfl, rfl, rfl⟩ h11
 have h12 := h11 rfl rfl
 simp only [List.cons_append, List.nil_append] at h12
 refine op (OpS.as rfl rfl rfl ?_)
 have h13 := (h12.pick .z).freeze
 refine RunL.nil ?_
 refine Run.slim [(4, u7), (3, .int .i64 y2.2), (2, .int .i64 y1.2), (1, u2)] ⟨rfl, rfl, rfl, rfl, trivial⟩ ?_
 refine Run.seq ?_
 refine Run.reg ?_
 refine op (OpS.mv rfl rfl rfl ?_)
 refine op (OpS.bin rfl rfl rfl rfl rfl ?_)
 refine op (OpS.mv rfl rfl rfl ?_)
 refine RunL.caseb hF (fun e4 hF => ?_) (fun e4 hF => ?_)
 ·
  refine op (OpS.mv rfl rfl rfl ?_)
  refine op (OpS.bin rfl rfl rfl rfl rfl ?_)
  refine op (OpS.pick rfl rfl rfl rfl ?_)
  refine op (OpS.mv rfl rfl rfl ?_)
  refine RunL.caseb hF (fun e5 hF => ?_) (fun e5 hF => ?_)
  ·
   refine op (OpS.mv rfl rfl rfl ?_)
   refine op (OpS.len h13 Try.underlying37 rfl rfl rfl (V.at .z) ?_)
   refine op (OpS.bin rfl rfl rfl rfl rfl ?_)
   refine op (OpS.pick rfl rfl rfl rfl ?_)
   refine op (OpS.mv rfl rfl rfl ?_)
   refine RunL.caseb hF (fun e6 hF => ?_) (fun e6 hF => ?_)
   ·
    refine op (OpS.mv rfl rfl rfl ?_)
    obtain ⟨x1, e7, hF⟩ := bindP_use hF
    refine op (OpS.iptr h13 Try.underlying37 ty3 rfl rfl rfl rfl (V.at .z) e7 (fun u8 h14 => ?_))
    refine op (OpS.loadi h14 ty3 rfl rfl rfl .z ?_)
    refine op (OpS.bin rfl rfl rfl rfl rfl ?_)
    refine op (OpS.pick rfl rfl rfl rfl ?_)
    refine op (OpS.mv rfl rfl rfl ?_)
    refine RunL.caseb hF (fun e8 hF => ?_) (fun e8 hF => ?_)
    ·
     refine op (OpS.mv rfl rfl rfl ?_)
     obtain ⟨x2, e9, hF⟩ := bindP_use hF
     refine op (OpS.iptr h14 Try.underlying37 ty3 rfl rfl rfl rfl (V.at (.s .z)) e9 (fun u9 h15 => ?_))
     refine op (OpS.loadi h15 ty3 rfl rfl rfl .z ?_)
     refine op (OpS.bin rfl rfl rfl rfl rfl ?_)
     refine op (OpS.pick rfl rfl rfl rfl ?_)
     refine op (OpS.mv rfl rfl rfl ?_)
     refine RunL.caseb hF (fun e10 hF => ?_) (fun e10 hF => ?_)
     ·
      refine op (OpS.loadB h15 .z PA.z Get.id ty28 rfl rfl rfl (fun u10 h16 => ?_))
      obtain ⟨y4, e11, hF⟩ := bindP_use hF
      refine op (OpS.callP h16 Try.func15 rfl rfl rfl rfl (vs := [u10]) rfl (transfer_Complete_ok e11) (.cons (f := true) (V.at .z) .nil) ?_)
      rintro _ w8 _ _ _ ⟨rfl, rfl, rfl, rfl⟩ h17
      have h18 := h17 rfl rfl
      simp only [List.cons_append, List.nil_append] at h18
      refine op (OpS.not rfl rfl rfl ?_)
      refine op (OpS.pick rfl rfl rfl rfl ?_)
      refine op (OpS.as rfl rfl rfl ?_)
      obtain ⟨x3, e12, hF⟩ := letP_use hF
      refine RunL.nameb e12 ?_
      refine RunL.nil ?_
      refine Run.slim [(0, .bool x3)] ⟨rfl, trivial⟩ ?_
      refine Run.retP rfl (.tmp rfl .nil) ?_
      cases hF
      exact Post.mk' ⟨rfl, rfl, rfl, rfl⟩ (h18.picks .nil) .nil
     ·
      refine op (OpS.pass rfl rfl rfl ?_)
      refine op (OpS.pass rfl rfl rfl ?_)
      refine op (OpS.pass rfl rfl rfl ?_)
      refine op (OpS.pick rfl rfl rfl rfl ?_)
      refine op (OpS.as rfl rfl rfl ?_)
      refine RunL.nil ?_
      refine Run.slim [(0, .bool false)] ⟨rfl, trivial⟩ ?_
      refine Run.retP rfl (.tmp rfl .nil) ?_
      cases hF
      exact Post.mk' ⟨rfl, rfl, rfl, rfl⟩ (h15.picks .nil) .nil
    ·
     refine op (OpS.pass rfl rfl rfl ?_)
     refine op (OpS.pass rfl rfl rfl ?_)
     refine op (OpS.pass rfl rfl rfl ?_)
     refine op (OpS.pass rfl rfl rfl ?_)
     refine op (OpS.pick rfl rfl rfl rfl ?_)
     refine op (OpS.mv rfl rfl rfl ?_)
     refine op (OpS.pass rfl rfl rfl ?_)
     refine op (OpS.pass rfl rfl rfl ?_)
     refine op (OpS.pass rfl rfl rfl ?_)
     refine op (OpS.pick rfl rfl rfl rfl ?_)
     refine op (OpS.as rfl rfl rfl ?_)
     refine RunL.nil ?_
     refine Run.slim [(0, .bool false)] ⟨rfl, trivial⟩ ?_
     refine Run.retP rfl (.tmp rfl .nil) ?_
     cases hF
     exact Post.mk' ⟨rfl, rfl, rfl, rfl⟩ (h14.picks .nil) .nil
   ·
    refine op (OpS.pass rfl rfl rfl ?_)
    refine op (OpS.pass rfl rfl rfl ?_)
    refine op (OpS.pass rfl rfl rfl ?_)
    refine op (OpS.pass rfl rfl rfl ?_)
    refine op (OpS.pick rfl rfl rfl rfl ?_)
    refine op (OpS.mv rfl rfl rfl ?_)
    refine op (OpS.pass rfl rfl rfl ?_)
    refine op (OpS.pass rfl rfl rfl ?_)
    refine op (OpS.pass rfl rfl rfl ?_)
    refine op (OpS.pass rfl rfl rfl ?_)
    refine op (OpS.pick rfl rfl rfl rfl ?_)
    refine op (OpS.mv rfl rfl rfl ?_)
    refine op (OpS.pass rfl rfl rfl ?_)
    refine op (OpS.pass rfl rfl rfl ?_)
    refine op (OpS.pass rfl rfl rfl ?_)
    refine op (OpS.pick rfl rfl rfl rfl ?_)
    refine op (OpS.as rfl rfl rfl ?_)
    refine RunL.nil ?_
    refine Run.slim [(0, .bool false)] ⟨rfl, trivial⟩ ?_
    refine Run.retP rfl (.tmp rfl .nil) ?_
    cases hF
    exact Post.mk' ⟨rfl, rfl, rfl, rfl⟩ (h13.picks .nil) .nil
  ·
   refine op (OpS.pass rfl rfl rfl ?_)
   refine op (OpS.pass rfl rfl rfl ?_)
   refine op (OpS.pass rfl rfl rfl ?_)
   refine op (OpS.pick rfl rfl rfl rfl ?_)
   refine op (OpS.mv rfl rfl rfl ?_)
   refine op (OpS.pass rfl rfl rfl ?_)
   refine op (OpS.pass rfl rfl rfl ?_)
   refine op (OpS.pass rfl rfl rfl ?_)
   refine op (OpS.pass rfl rfl rfl ?_)
   refine op (OpS.pick rfl rfl rfl rfl ?_)
   refine op (OpS.mv rfl rfl rfl ?_)
   refine op (OpS.pass rfl rfl rfl ?_)
   refine op (OpS.pass rfl rfl rfl ?_)
   refine op (OpS.pass rfl rfl rfl ?_)
   refine op (OpS.pass rfl rfl rfl ?_)
   refine op (OpS.pick rfl rfl rfl rfl ?_)
   refine op (OpS.mv rfl rfl rfl ?_)
   refine op (OpS.pass rfl rfl rfl ?_)
   refine op (OpS.pass rfl rfl rfl ?_)
   refine op (OpS.pass rfl rfl rfl ?_)
   refine op (OpS.pick rfl rfl rfl rfl ?_)
   refine op (OpS.as rfl rfl rfl ?_)
   refine RunL.nil ?_
   refine Run.slim [(0, .bool false)] ⟨rfl, trivial⟩ ?_
   refine Run.retP rfl (.tmp rfl .nil) ?_
   cases hF
   exact Post.mk' ⟨rfl, rfl, rfl, rfl⟩ (h13.picks .nil) .nil
 ·
  refine op (OpS.pass rfl rfl rfl ?_)
  refine op (OpS.pass rfl rfl rfl ?_)
  refine op (OpS.pick rfl rfl rfl rfl ?_)
  refine op (OpS.mv rfl rfl rfl ?_)
  refine op (OpS.pass rfl rfl rfl ?_)
  refine op (OpS.pass rfl rfl rfl ?_)
  refine op (OpS.pass rfl rfl rfl ?_)
  refine op (OpS.pick rfl rfl rfl rfl ?_)
  refine op (OpS.mv rfl rfl rfl ?_)
  refine op (OpS.pass rfl rfl rfl ?_)
  refine op (OpS.pass rfl rfl rfl ?_)
  refine op (OpS.pass rfl rfl rfl ?_)
  refine op (OpS.pass rfl rfl rfl ?_)
  refine op (OpS.pick rfl rfl rfl rfl ?_)
  refine op (OpS.mv rfl rfl rfl ?_)
  refine op (OpS.pass rfl rfl rfl ?_)
  refine op (OpS.pass rfl rfl rfl ?_)
  refine op (OpS.pass rfl rfl rfl ?_)
  refine op (OpS.pass rfl rfl rfl ?_)
  refine op (OpS.pick rfl rfl rfl rfl ?_)
  refine op (OpS.mv rfl rfl rfl ?_)
  refine op (OpS.pass rfl rfl rfl ?_)
  refine op (OpS.pass rfl rfl rfl ?_)
  refine op (OpS.pass rfl rfl rfl ?_)
  refine op (OpS.pick rfl rfl rfl rfl ?_)
  refine op (OpS.as rfl rfl rfl ?_)
  refine RunL.nil ?_
  refine Run.slim [(0, .bool false)] ⟨rfl, trivial⟩ ?_
  refine Run.retP rfl (.tmp rfl .nil) ?_
  cases hF
  exact Post.mk' ⟨rfl, rfl, rfl, rfl⟩ (h13.picks .nil) .nil
theorem field_New_ok {fuel : Nat} {a0 : List Int} {a1 : Int} {y : field_Codes} (hF : field_New fuel a0 a1 = some y) {w : World} {v0 : Value} :
  Spec Try.prog 9 [v0, .int .i64 a1].toArray w [(false, .val (Rep.slice (Rep.int .u8)) v0 a0)] [] (fun v Γr Ωr Ωo => ∃ u0 : Value, v = u0 ∧ Γr = [] ∧ Ωr = [(false, .box 51 field_Codes.rep u0 y)] ∧ Ωo = []) := by
 refine Spec.of (L := [(0, v0), (1, .int .i64 a1)]) Try.func9 rfl ⟨rfl, rfl, trivial⟩ rfl (fun e h => ?_)
 unfold field_New at hF
 refine Run.seq ?_
 refine Run.reg ?_
 refine op (OpS.as rfl rfl rfl ?_)
 refine RunL.nil ?_
 refine Run.slim [(0, v0), (1, .int .i64 a1)] ⟨rfl, rfl, trivial⟩ ?_
 refine Run.seq ?_
 refine Run.reg ?_
 refine op (OpS.mv rfl rfl rfl ?_)
 refine op (OpS.mv rfl rfl rfl ?_)
 refine op (OpS.len h Try.underlying22 rfl rfl rfl (V.at .z) ?_)
 refine op (OpS.mv rfl rfl rfl ?_)
 refine op (OpS.mini rfl rfl rfl rfl ?_)
 obtain ⟨x1, e1, hF⟩ := bindP_use hF
 refine op (OpS.sub h Try.underlying22 ty5 rfl rfl rfl rfl rfl (V.at .z) e1 (fun u1 h1 => ?_))
 refine op (OpS.build (f := false) (x' := (⟨x1, 0⟩ : field_Codes)) h1 pl51 ti51 field_Codes.zr rfl rfl rfl (.cons rfl field_Codes.f0 rfl (V.at .z) .nil) (fun u2 h2 => ?_))
 refine op (OpS.boxF h2 rfl rfl rfl (V.at .z) (fun u3 w1 h3 => ?_))
 refine op (OpS.as rfl rfl rfl ?_)
 refine RunL.nil ?_
 refine Run.slim [(4, u3)] ⟨rfl, trivial⟩ ?_
 refine Run.retP rfl (.tmp rfl .nil) ?_
 cases hF
 exact Post.mk' ⟨u3, rfl, rfl, rfl, rfl⟩ (h3.picks (.cons .z .nil)) .nil
theorem field_Codes_Left_ok {fuel : Nat} {a0 : field_Codes} {y : Bool} (hF : field_Codes_Left fuel a0 = some y) {w : World} {v0 : Value} :
  Spec Try.prog 35 [v0].toArray w [(false, .ptr field_Codes.rep v0 a0)] [] (fun v Γr Ωr Ωo => v = .bool y ∧ Γr = [] ∧ Ωr = [] ∧ Ωo = []) := by
 refine Spec.of (L := [(0, v0)]) Try.func35 rfl ⟨rfl, trivial⟩ rfl (fun e h => ?_)
 unfold field_Codes_Left at hF
 refine Run.seq ?_
 refine Run.reg ?_
 refine op (OpS.as rfl rfl rfl ?_)
 refine RunL.nil ?_
 refine Run.slim [(0, v0)] ⟨rfl, trivial⟩ ?_
 refine Run.seq ?_
 refine Run.drawV (Ωs := []) [⟨some 3, some (v0), fun _ => [], fun ds_ u_ => [], [], [], none⟩, ⟨some 4, some (v0), fun _ => [], fun ds_ u_ => [], [], [], none⟩, ⟨some 5, none, fun u_ => [(false, .ptr (Rep.int .i64) u_ a0.At)], fun ds_ u_ => [], [], [], none⟩, ⟨some 6, some (.int .i64 a0.At), fun _ => [], fun ds_ u_ => [], [], [], none⟩, ⟨some 7, some (v0), fun _ => [], fun ds_ u_ => [], [], [], none⟩, ⟨some 8, some (v0), fun _ => [], fun ds_ u_ => [], [], [], none⟩, ⟨some 9, none, fun u_ => [(false, .ptr (Rep.slice (Rep.int .u8)) u_ a0.L)], fun ds_ u_ => [], [], [], none⟩, ⟨some 10, none, fun u_ => [(false, .val (Rep.slice (Rep.int .u8)) u_ a0.L)], fun ds_ u_ => [], [], [], none⟩, ⟨some 11, some (.int .i64 (a0.L.length : Int)), fun _ => [], fun ds_ u_ => [], [], [], none⟩, ⟨some 12, some (.bool (decide (a0.At < (a0.L.length : Int)))), fun _ => [], fun ds_ u_ => [], [], [], none⟩] [[], [0], [1], [2], [], [4], [5], [6], [7], [3, 8]] [] [0, 1, 2, 3, 4, 5, 6, 7, 8, 9] Try_mixed rfl rfl rfl h (.cons ?_ (.cons ?_ (.cons ?_ (.cons ?_ (.cons ?_ (.cons ?_ (.cons ?_ (.cons ?_ (.cons ?_ (.cons ?_ .nil)))))))))) (fun q1 w hq1 h => ?_)
 ·intro q1 w Γx Ωx h
  refine OpS.mv rfl rfl rfl ?_
  exact ⟨undef, rfl, trivial, h⟩
 ·intro q1 w Γx Ωx h
  refine OpS.nchkI h .z rfl rfl rfl ?_
  exact ⟨undef, rfl, trivial, h⟩
 ·intro q1 w Γx Ωx h
  refine OpS.fptr h fa51_1 field_Codes.f1 rfl rfl rfl .z (fun u h4 => ?_)
  exact ⟨u, rfl, trivial, h4⟩
 ·intro q1 w Γx Ωx h
  refine OpS.loadi h ty3 rfl rfl rfl .z ?_
  exact ⟨undef, rfl, trivial, h⟩
 ·intro q1 w Γx Ωx h
  refine OpS.mv rfl rfl rfl ?_
  exact ⟨undef, rfl, trivial, h⟩
 ·intro q1 w Γx Ωx h
  refine OpS.nchkI h .z rfl rfl rfl ?_
  exact ⟨undef, rfl, trivial, h⟩
 ·intro q1 w Γx Ωx h
  refine OpS.fptr h fa51_0 field_Codes.f0 rfl rfl rfl .z (fun u h5 => ?_)
  exact ⟨u, rfl, trivial, h5⟩
 ·intro q1 w Γx Ωx h
  refine OpS.load h ty22 rfl rfl rfl .z (fun u h6 => ?_)
  exact ⟨u, rfl, trivial, h6⟩
 ·intro q1 w Γx Ωx h
  refine OpS.len h Try.underlying22 rfl rfl rfl (V.at .z) ?_
  exact ⟨undef, rfl, trivial, h⟩
 ·intro q1 w Γx Ωx h
  refine OpS.bin rfl rfl rfl rfl rfl ?_
  exact ⟨undef, rfl, trivial, h⟩
 have h7 : St e w [(false, .ptr (Rep.int .i64) (q1 2) a0.At), (false, .ptr (Rep.slice (Rep.int .u8)) (q1 6) a0.L), (false, .val (Rep.slice (Rep.int .u8)) (q1 7) a0.L), (false, .ptr field_Codes.rep v0 a0)] [] := h
 refine op (OpS.as rfl rfl rfl ?_)
 obtain ⟨x1, e1, hF⟩ := letP_use hF
 refine RunL.nameb e1 ?_
 refine RunL.nil ?_
 refine Run.slim [(2, .bool x1)] ⟨rfl, trivial⟩ ?_
 refine Run.retP rfl (.tmp rfl .nil) ?_
 cases hF
 exact Post.mk' ⟨rfl, rfl, rfl, rfl⟩ (h7.picks .nil) .nil
set_option maxHeartbeats 8000000 in
theorem field_Codes_Next_ok {fuel : Nat} {a0 : field_Codes} {a1 : Int} {y : Int × field_Codes} (hF : field_Codes_Next fuel a0 a1 = some y) {w : World} {v0 : Value} :
  Spec Try.prog 18 [v0, .int .i64 a1].toArray w [] [(false, .box 51 field_Codes.rep v0 a0)] (fun v Γr Ωr Ωo => v = .int .i64 y.1 ∧ Γr = [] ∧ Ωr = [] ∧ Ωo = [(false, .box 51 field_Codes.rep v0 y.2)]) := by
 refine Spec.of (L := [(0, v0), (1, .int .i64 a1)]) Try.func18 rfl ⟨rfl, rfl, trivial⟩ rfl (fun e h => ?_)
 unfold field_Codes_Next at hF
 refine Run.seq ?_
 refine Run.reg ?_
 refine op (OpS.as rfl rfl rfl ?_)
 refine RunL.nil ?_
 refine Run.slim [(0, v0), (1, .int .i64 a1)] ⟨rfl, rfl, trivial⟩ ?_
 refine Run.seq ?_
 refine Run.seq ?_
 refine Run.reg ?_
 refine op (OpS.mv rfl rfl rfl ?_)
 obtain ⟨y1, e1, hF⟩ := bindP_use hF
 refine op (OpS.callP h Try.func35 rfl rfl rfl rfl (vs := [v0]) rfl (field_Codes_Left_ok e1) (.box .z .nil) ?_)
 rintro _ w1 _ _ _ ⟨rfl, rfl, rfl, rfl⟩ h1
 have h2 := h1 rfl rfl
 simp only [List.cons_append, List.nil_append] at h2
 refine op (OpS.not rfl rfl rfl ?_)
 refine op (OpS.mv rfl rfl rfl ?_)
 refine RunL.join (σ := Bool) (fun s_ L_ w_ => L_ = [(0, v0), (1, .int .i64 a1), (12, .bool s_)] ∧ St e w_ [] [(false, .box 51 field_Codes.rep v0 a0)]) hF (fun s1 _ w2 hI hF => ?_) (fun j1 hj1 hF => ?_)
 ·
  obtain ⟨rfl, h3⟩ := hI
  refine Run.ite rfl hF (fun e2 hF => ?_) (fun e2 hF => ?_)
  ·
   refine Run.seq ?_
   refine Run.reg ?_
   refine op (OpS.as rfl rfl rfl ?_)
   refine RunL.nil ?_
   refine Run.slim [(4, .int .i64 0)] ⟨rfl, trivial⟩ ?_
   refine Run.retP rfl (.tmp rfl .nil) ?_
   cases hF
   exact Post.mk' ⟨rfl, rfl, rfl, rfl⟩ (h3.picks (.cons .z .nil)) .nil
  ·
   refine Run.skip ?_
   refine Run.seq ?_
   obtain ⟨x1, e3, hF⟩ := bindP_use hF
   refine Run.drawV (Ωs := []) [⟨some 13, some (v0), fun _ => [], fun ds_ u_ => [], [], [], none⟩, ⟨some 14, some (v0), fun _ => [], fun ds_ u_ => [], [], [(0, [])], none⟩, ⟨some 15, some ((padd v0 0)), fun _ => [], fun ds_ u_ => [], [], [(0, [])], none⟩, ⟨some 16, none, fun u_ => [(false, .val (Rep.slice (Rep.int .u8)) u_ a0.L)], fun ds_ u_ => [], [], [(0, [])], none⟩, ⟨some 17, some (v0), fun _ => [], fun ds_ u_ => [], [], [], none⟩, ⟨some 18, some (v0), fun _ => [], fun ds_ u_ => [], [], [(0, [])], none⟩, ⟨some 19, some ((padd v0 1)), fun _ => [], fun ds_ u_ => [], [], [(0, [])], none⟩, ⟨some 20, some (.int .i64 a0.At), fun _ => [], fun ds_ u_ => [], [], [(0, [])], none⟩, ⟨some 21, none, fun u_ => [(false, .ptr (Rep.int .u8) u_ x1)], fun ds_ u_ => [], [], [], none⟩, ⟨some 22, some (.int .u8 x1), fun _ => [], fun ds_ u_ => [], [], [], none⟩, ⟨some 23, some (.int .i64 (IntKind.i64.wrap x1)), fun _ => [], fun ds_ u_ => [], [], [], none⟩] [[], [0], [1], [2], [], [4], [5], [6], [3, 7], [8], [9]] [[(false, .box 51 field_Codes.rep v0 a0)]] [0, 1, 2, 3, 4, 5, 6, 7, 8, 9, 10, 11] Try_mixed rfl rfl rfl h3 (.cons ?_ (.cons ?_ (.cons ?_ (.cons ?_ (.cons ?_ (.cons ?_ (.cons ?_ (.cons ?_ (.cons ?_ (.cons ?_ (.cons ?_ .nil))))))))))) (fun q1 w hq1 h => ?_)
   ·intro q1 w Γx Ωx h
    refine OpS.mv rfl rfl rfl ?_
    exact ⟨undef, rfl, trivial, h⟩
   ·intro q1 w Γx Ωx h
    have h : St e w ([] ++ Γx) ([(false, .box 51 field_Codes.rep v0 a0)] ++ Ωx) := h
    refine OpS.nchk h .z rfl rfl rfl ?_
    exact ⟨undef, rfl, trivial, h⟩
   ·intro q1 w Γx Ωx h
    have h : St e w ([] ++ Γx) ([(false, .box 51 field_Codes.rep v0 a0)] ++ Ωx) := h
    refine OpS.fbox (o3 := 0) h .z PA.z fa51_0 rfl rfl rfl rfl ?_
    exact ⟨undef, rfl, trivial, h⟩
   ·intro q1 w Γx Ωx h
    have h : St e w ([] ++ Γx) ([(false, .box 51 field_Codes.rep v0 a0)] ++ Ωx) := h
    refine OpS.loadB h .z PA.a (Get.fld field_Codes.f0) ty22 rfl rfl rfl (fun u h6 => ?_)
    exact ⟨u, rfl, trivial, h6⟩
   ·intro q1 w Γx Ωx h
    refine OpS.mv rfl rfl rfl ?_
    exact ⟨undef, rfl, trivial, h⟩
   ·intro q1 w Γx Ωx h
    have h : St e w ([] ++ Γx) ([(false, .box 51 field_Codes.rep v0 a0)] ++ Ωx) := h
    refine OpS.nchk h .z rfl rfl rfl ?_
    exact ⟨undef, rfl, trivial, h⟩
   ·intro q1 w Γx Ωx h
    have h : St e w ([] ++ Γx) ([(false, .box 51 field_Codes.rep v0 a0)] ++ Ωx) := h
    refine OpS.fbox (o3 := 1) h .z PA.z fa51_1 rfl rfl rfl rfl ?_
    exact ⟨undef, rfl, trivial, h⟩
   ·intro q1 w Γx Ωx h
    have h : St e w ([] ++ Γx) ([(false, .box 51 field_Codes.rep v0 a0)] ++ Ωx) := h
    refine OpS.loadBi h .z PA.a (Get.fld field_Codes.f1) ty3 rfl rfl rfl ?_
    exact ⟨undef, rfl, trivial, h⟩
   ·intro q1 w Γx Ωx h
    refine OpS.iptr h Try.underlying22 ty5 rfl rfl rfl rfl (V.at .z) e3 (fun u h7 => ?_)
    exact ⟨u, rfl, trivial, h7⟩
   ·intro q1 w Γx Ωx h
    refine OpS.loadi h ty5 rfl rfl rfl .z ?_
    exact ⟨undef, rfl, trivial, h⟩
   ·intro q1 w Γx Ωx h
    refine OpS.conv Try.underlying5 Try.underlying3 rfl rfl rfl ?_
    exact ⟨undef, rfl, trivial, h⟩
   have h8 : St e w [(false, .val (Rep.slice (Rep.int .u8)) (q1 3) a0.L), (false, .ptr (Rep.int .u8) (q1 8) x1)] [(false, .box 51 field_Codes.rep v0 a0)] := h
   refine op (OpS.as rfl rfl rfl ?_)
   refine RunL.nil ?_
   refine Run.slim [(5, .int .i64 (IntKind.i64.wrap x1)), (0, v0), (1, .int .i64 a1)] ⟨rfl, rfl, rfl, trivial⟩ ?_
   refine Run.seq ?_
   refine Run.reg ?_
   refine op (OpS.mv rfl rfl rfl ?_)
   refine op (OpS.nchk h8 .z rfl rfl rfl ?_)
   refine op (OpS.fbox (o3 := 1) h8 .z PA.z fa51_1 rfl rfl rfl rfl ?_)
   refine op (OpS.loadBi h8 .z PA.a (Get.fld field_Codes.f1) ty3 rfl rfl rfl ?_)
   refine op (OpS.bin rfl rfl rfl rfl rfl ?_)
   refine op (OpS.nchk h8 .z rfl rfl rfl ?_)
   refine op (OpS.fbox (o3 := 1) h8 .z PA.z fa51_1 rfl rfl rfl rfl ?_)
   obtain ⟨d1, e4, hF⟩ := letP_use hF
   refine op (OpS.storeB (f' := true) h8 .z PA.a (Put.of (Put.fld field_Codes.f1) e4) ty3 rfl rfl rfl V.int (.inr rfl) (fun w3 h9 => ?_))
   refine RunL.nil ?_
   refine Run.slim [(5, .int .i64 (IntKind.i64.wrap x1)), (0, v0), (1, .int .i64 a1)] ⟨rfl, rfl, rfl, trivial⟩ ?_
   refine Run.seq ?_
   refine Run.seq ?_
   refine Run.reg ?_
   refine op (OpS.mv rfl rfl rfl ?_)
   refine op (OpS.bin rfl rfl rfl rfl rfl ?_)
   refine op (OpS.mv rfl rfl rfl ?_)
   refine RunL.join (σ := Bool) (fun s_ L_ w_ => L_ = [(0, v0), (1, .int .i64 a1), (5, .int .i64 (IntKind.i64.wrap x1)), (36, .bool s_)] ∧ St e w_ [] [(false, .box 51 field_Codes.rep v0 d1)]) hF (fun s2 _ w4 hI hF => ?_) (fun j2 hj2 hF => ?_)
   ·
    obtain ⟨rfl, h10⟩ := hI
    refine Run.ite rfl hF (fun e5 hF => ?_) (fun e5 hF => ?_)
    ·
     refine Run.seq ?_
     obtain ⟨x2, e6, hF⟩ := bindP_use hF
     refine Run.drawV (Ωs := []) [⟨some 37, some (.int .i64 (IntKind.i64.wrap x1)), fun _ => [], fun ds_ u_ => [], [], [], none⟩, ⟨some 38, some (v0), fun _ => [], fun ds_ u_ => [], [], [], none⟩, ⟨some 39, some (v0), fun _ => [], fun ds_ u_ => [], [], [(0, [])], none⟩, ⟨some 40, some ((padd v0 0)), fun _ => [], fun ds_ u_ => [], [], [(0, [])], none⟩, ⟨some 41, none, fun u_ => [(false, .val (Rep.slice (Rep.int .u8)) u_ d1.L)], fun ds_ u_ => [], [], [(0, [])], none⟩, ⟨some 42, some (v0), fun _ => [], fun ds_ u_ => [], [], [], none⟩, ⟨some 43, some (v0), fun _ => [], fun ds_ u_ => [], [], [(0, [])], none⟩, ⟨some 44, some ((padd v0 1)), fun _ => [], fun ds_ u_ => [], [], [(0, [])], none⟩, ⟨some 45, some (.int .i64 d1.At), fun _ => [], fun ds_ u_ => [], [], [(0, [])], none⟩, ⟨some 46, none, fun u_ => [(false, .ptr (Rep.int .u8) u_ x2)], fun ds_ u_ => [], [], [], none⟩, ⟨some 47, some (.int .u8 x2), fun _ => [], fun ds_ u_ => [], [], [], none⟩, ⟨some 48, some (.int .i64 (IntKind.i64.wrap x2)), fun _ => [], fun ds_ u_ => [], [], [], none⟩, ⟨some 49, some (.int .i64 (bShl .i64 (IntKind.i64.wrap x2) 8)), fun _ => [], fun ds_ u_ => [], [], [], none⟩, ⟨some 50, some (.int .i64 (bOr .i64 (IntKind.i64.wrap x1) (bShl .i64 (IntKind.i64.wrap x2) 8))), fun _ => [], fun ds_ u_ => [], [], [], none⟩] [[], [], [1], [2], [3], [], [5], [6], [7], [4, 8], [9], [10], [11], [0, 12]] [[(false, .box 51 field_Codes.rep v0 d1)]] [0, 1, 2, 3, 4, 5, 6, 7, 8, 9, 10, 11, 12, 13, 14] Try_mixed rfl rfl rfl h10 (.cons ?_ (.cons ?_ (.cons ?_ (.cons ?_ (.cons ?_ (.cons ?_ (.cons ?_ (.cons ?_ (.cons ?_ (.cons ?_ (.cons ?_ (.cons ?_ (.cons ?_ (.cons ?_ .nil)))))))))))))) (fun q2 w hq2 h => ?_)
     ·intro q2 w Γx Ωx h
      refine OpS.mv rfl rfl rfl ?_
      exact ⟨undef, rfl, trivial, h⟩
     ·intro q2 w Γx Ωx h
      refine OpS.mv rfl rfl rfl ?_
      exact ⟨undef, rfl, trivial, h⟩
     ·intro q2 w Γx Ωx h
      have h : St e w ([] ++ Γx) ([(false, .box 51 field_Codes.rep v0 d1)] ++ Ωx) := h
      refine OpS.nchk h .z rfl rfl rfl ?_
      exact ⟨undef, rfl, trivial, h⟩
     ·intro q2 w Γx Ωx h
      have h : St e w ([] ++ Γx) ([(false, .box 51 field_Codes.rep v0 d1)] ++ Ωx) := h
      refine OpS.fbox (o3 := 0) h .z PA.z fa51_0 rfl rfl rfl rfl ?_
      exact ⟨undef, rfl, trivial, h⟩
     ·intro q2 w Γx Ωx h
      have h : St e w ([] ++ Γx) ([(false, .box 51 field_Codes.rep v0 d1)] ++ Ωx) := h
      refine OpS.loadB h .z PA.a (Get.fld field_Codes.f0) ty22 rfl rfl rfl (fun u h13 => ?_)
      exact ⟨u, rfl, trivial, h13⟩
     ·intro q2 w Γx Ωx h
      refine OpS.mv rfl rfl rfl ?_
      exact ⟨undef, rfl, trivial, h⟩
     ·intro q2 w Γx Ωx h
      have h : St e w ([] ++ Γx) ([(false, .box 51 field_Codes.rep v0 d1)] ++ Ωx) := h
      refine OpS.nchk h .z rfl rfl rfl ?_
      exact ⟨undef, rfl, trivial, h⟩
     ·intro q2 w Γx Ωx h
      have h : St e w ([] ++ Γx) ([(false, .box 51 field_Codes.rep v0 d1)] ++ Ωx) := h
      refine OpS.fbox (o3 := 1) h .z PA.z fa51_1 rfl rfl rfl rfl ?_
      exact ⟨undef, rfl, trivial, h⟩
     ·intro q2 w Γx Ωx h
      have h : St e w ([] ++ Γx) ([(false, .box 51 field_Codes.rep v0 d1)] ++ Ωx) := h
      refine OpS.loadBi h .z PA.a (Get.fld field_Codes.f1) ty3 rfl rfl rfl ?_
      exact ⟨undef, rfl, trivial, h⟩
     ·intro q2 w Γx Ωx h
      refine OpS.iptr h Try.underlying22 ty5 rfl rfl rfl rfl (V.at .z) e6 (fun u h14 => ?_)
      exact ⟨u, rfl, trivial, h14⟩
     ·intro q2 w Γx Ωx h
      refine OpS.loadi h ty5 rfl rfl rfl .z ?_
      exact ⟨undef, rfl, trivial, h⟩
     ·intro q2 w Γx Ωx h
      refine OpS.conv Try.underlying5 Try.underlying3 rfl rfl rfl ?_
      exact ⟨undef, rfl, trivial, h⟩
     ·intro q2 w Γx Ωx h
      refine OpS.shl rfl rfl rfl rfl (by decide) ?_
      exact ⟨undef, rfl, trivial, h⟩
     ·intro q2 w Γx Ωx h
      refine OpS.bin rfl rfl rfl rfl rfl ?_
      exact ⟨undef, rfl, trivial, h⟩
     have h15 : St e w [(false, .val (Rep.slice (Rep.int .u8)) (q2 4) d1.L), (false, .ptr (Rep.int .u8) (q2 9) x2)] [(false, .box 51 field_Codes.rep v0 d1)] := h
     refine op (OpS.as rfl rfl rfl ?_)
     obtain ⟨x3, e7, hF⟩ := letP_use hF
     refine RunL.name e7 ?_
     refine RunL.nil ?_
     refine Run.slim [(5, .int .i64 x3), (0, v0), (1, .int .i64 a1)] ⟨rfl, rfl, rfl, trivial⟩ ?_
     refine Run.reg ?_
     refine op (OpS.mv rfl rfl rfl ?_)
     refine op (OpS.nchk h15 .z rfl rfl rfl ?_)
     refine op (OpS.fbox (o3 := 1) h15 .z PA.z fa51_1 rfl rfl rfl rfl ?_)
     refine op (OpS.loadBi h15 .z PA.a (Get.fld field_Codes.f1) ty3 rfl rfl rfl ?_)
     refine op (OpS.bin rfl rfl rfl rfl rfl ?_)
     refine op (OpS.nchk h15 .z rfl rfl rfl ?_)
     refine op (OpS.fbox (o3 := 1) h15 .z PA.z fa51_1 rfl rfl rfl rfl ?_)
     obtain ⟨d2, e8, hF⟩ := letP_use hF
     refine op (OpS.storeB (f' := true) h15 .z PA.a (Put.of (Put.fld field_Codes.f1) e8) ty3 rfl rfl rfl V.int (.inr rfl) (fun w5 h16 => ?_))
     refine RunL.nil ?_
     refine Run.slim [(5, .int .i64 x3), (1, .int .i64 a1)] ⟨rfl, rfl, trivial⟩ ?_
     refine Run.seq ?_
     refine Run.reg ?_
     refine op (OpS.mv rfl rfl rfl ?_)
     refine op (OpS.mv rfl rfl rfl ?_)
     obtain ⟨e9, hF⟩ := chk_use hF
     refine op (OpS.rem rfl rfl rfl rfl e9 ?_)
     refine op (OpS.as rfl rfl rfl ?_)
     refine RunL.nil ?_
     refine Run.slim [(4, .int .i64 (Int.tmod x3 a1))] ⟨rfl, trivial⟩ ?_
     refine Run.retP rfl (.tmp rfl .nil) ?_
     cases hF
     exact Post.mk' ⟨rfl, rfl, rfl, rfl⟩ (h16.picks (.cons .z .nil)) .nil
    ·
     refine Run.skip ?_
     refine Run.seq ?_
     refine Run.reg ?_
     refine op (OpS.mv rfl rfl rfl ?_)
     refine op (OpS.mv rfl rfl rfl ?_)
     obtain ⟨e10, hF⟩ := chk_use hF
     refine op (OpS.rem rfl rfl rfl rfl e10 ?_)
     refine op (OpS.as rfl rfl rfl ?_)
     obtain ⟨x4, e11, hF⟩ := letP_use hF
     refine RunL.name e11 ?_
     refine RunL.nil ?_
     refine Run.slim [(4, .int .i64 x4)] ⟨rfl, trivial⟩ ?_
     refine Run.retP rfl (.tmp rfl .nil) ?_
     cases hF
     exact Post.mk' ⟨rfl, rfl, rfl, rfl⟩ (h10.picks (.cons .z .nil)) .nil
   ·
    refine RunL.caseb hF (fun e12 hF => ?_) (fun e12 hF => ?_)
    ·
     refine op (OpS.mv rfl rfl rfl ?_)
     obtain ⟨y2, e13, hF⟩ := bindP_use hF
     refine op (OpS.callP h9 Try.func35 rfl rfl rfl rfl (vs := [v0]) rfl (field_Codes_Left_ok e13) (.box .z .nil) ?_)
     rintro _ w6 _ _ _ ⟨rfl, rfl, rfl, rfl⟩ h17
     have h18 := h17 rfl rfl
     simp only [List.cons_append, List.nil_append] at h18
     refine op (OpS.pick rfl rfl rfl rfl ?_)
     refine RunL.nil ?_
     refine Run.slim [(36, .bool y2), (5, .int .i64 (IntKind.i64.wrap x1)), (0, v0), (1, .int .i64 a1)] ⟨rfl, rfl, rfl, rfl, trivial⟩ ?_
     refine Run.slim [(0, v0), (1, .int .i64 a1), (5, .int .i64 (IntKind.i64.wrap x1)), (36, .bool y2)] ⟨rfl, rfl, rfl, rfl, trivial⟩ ?_
     exact hj2 (y2) _ _ ⟨rfl, (h18.facts .nil).picks (.cons .z .nil)⟩ hF
    ·
     refine op (OpS.pass rfl rfl rfl ?_)
     refine op (OpS.pass rfl rfl rfl ?_)
     refine op (OpS.pick rfl rfl rfl rfl ?_)
     refine RunL.nil ?_
     refine Run.slim [(36, .bool false), (5, .int .i64 (IntKind.i64.wrap x1)), (0, v0), (1, .int .i64 a1)] ⟨rfl, rfl, rfl, rfl, trivial⟩ ?_
     refine Run.slim [(0, v0), (1, .int .i64 a1), (5, .int .i64 (IntKind.i64.wrap x1)), (36, .bool false)] ⟨rfl, rfl, rfl, rfl, trivial⟩ ?_
     exact hj2 (false) _ _ ⟨rfl, (h9.facts .nil).picks (.cons .z .nil)⟩ hF
 ·
  refine RunL.caseb hF (fun e14 hF => ?_) (fun e14 hF => ?_)
  ·
   refine op (OpS.pass rfl rfl rfl ?_)
   refine op (OpS.pass rfl rfl rfl ?_)
   refine op (OpS.pick rfl rfl rfl rfl ?_)
   refine RunL.nil ?_
   refine Run.slim [(12, .bool true), (0, v0), (1, .int .i64 a1)] ⟨rfl, rfl, rfl, trivial⟩ ?_
   refine Run.slim [(0, v0), (1, .int .i64 a1), (12, .bool true)] ⟨rfl, rfl, rfl, trivial⟩ ?_
   exact hj1 (true) _ _ ⟨rfl, (h2.facts .nil).picks (.cons .z .nil)⟩ hF
  ·
   refine op (OpS.mv rfl rfl rfl ?_)
   refine op (OpS.bin rfl rfl rfl rfl rfl ?_)
   refine op (OpS.pick rfl rfl rfl rfl ?_)
   refine RunL.nil ?_
   refine Run.slim [(12, .bool (decide (a1 < 1))), (0, v0), (1, .int .i64 a1)] ⟨rfl, rfl, rfl, trivial⟩ ?_
   refine Run.slim [(0, v0), (1, .int .i64 a1), (12, .bool (decide (a1 < 1)))] ⟨rfl, rfl, rfl, trivial⟩ ?_
   exact hj1 (decide (a1 < 1)) _ _ ⟨rfl, (h2.facts .nil).picks (.cons .z .nil)⟩ hF
theorem ref30_parts_ok {fuel : Nat} {a0 : Int} {a1 : Int} {y : Int} (hF : ref30_parts fuel a0 a1 = some y) {w : World} :
  Spec Try.prog 34 [.int .i64 a0, .int .i64 a1].toArray w [] [] (fun v Γr Ωr Ωo => v = .int .i64 y ∧ Γr = [] ∧ Ωr = [] ∧ Ωo = []) := by
 refine Spec.of (L := [(0, .int .i64 a0), (1, .int .i64 a1)]) Try.func34 rfl ⟨rfl, rfl, trivial⟩ rfl (fun e h => ?_)
 unfold ref30_parts at hF
 refine Run.seq ?_
 refine Run.reg ?_
 refine op (OpS.as rfl rfl rfl ?_)
 refine RunL.nil ?_
 refine Run.slim [(0, .int .i64 a0), (1, .int .i64 a1)] ⟨rfl, rfl, trivial⟩ ?_
 refine Run.seq ?_
 refine Run.reg ?_
 refine op (OpS.mv rfl rfl rfl ?_)
 refine op (OpS.mv rfl rfl rfl ?_)
 refine op (OpS.bin rfl rfl rfl rfl rfl ?_)
 refine op (OpS.bin rfl rfl rfl rfl rfl ?_)
 refine op (OpS.mv rfl rfl rfl ?_)
 obtain ⟨e1, hF⟩ := chk_use hF
 refine op (OpS.quo rfl rfl rfl rfl e1 ?_)
 refine op (OpS.as rfl rfl rfl ?_)
 obtain ⟨x1, e2, hF⟩ := letP_use hF
 refine RunL.name e2 ?_
 refine RunL.nil ?_
 refine Run.slim [(4, .int .i64 x1)] ⟨rfl, trivial⟩ ?_
 refine Run.retP rfl (.tmp rfl .nil) ?_
 cases hF
 exact Post.mk' ⟨rfl, rfl, rfl, rfl⟩ (h.picks .nil) .nil
theorem ref30_New_ok {fuel : Nat} {a0 : Int} {a1 : Int} {y : Download_ × Int} (hF : ref30_New fuel a0 a1 = some y) {w : World} :
  Spec Try.prog 16 [.int .i64 a0, .int .i64 a1].toArray w [] [] (fun v Γr Ωr Ωo => ∃ u0 : Value, v = .tuple #[u0, .int .i64 y.2] ∧ Γr = [(true, .val Download_.rep u0 y.1)] ∧ Ωr = [] ∧ Ωo = []) := by
 refine Spec.of (L := [(0, .int .i64 a0), (1, .int .i64 a1)]) Try.func16 rfl ⟨rfl, rfl, trivial⟩ rfl (fun e h => ?_)
 unfold ref30_New at hF
 refine Run.seq ?_
 refine Run.reg ?_
 refine op (OpS.alloc h ti28 Download_.zr rfl rfl (fun u1 w1 h1 => ?_))
 refine op (OpS.as rfl rfl rfl ?_)
 refine RunL.nil ?_
 refine Run.slim [(4, u1), (0, .int .i64 a0), (1, .int .i64 a1)] ⟨rfl, rfl, rfl, trivial⟩ ?_
 refine Run.seq ?_
 refine Run.seq ?_
 refine Run.reg ?_
 refine op (OpS.mv rfl rfl rfl ?_)
 refine op (OpS.bin rfl rfl rfl rfl rfl ?_)
 refine op (OpS.mv rfl rfl rfl ?_)
 refine RunL.join (σ := Bool) (fun s_ L_ w_ => L_ = [(0, .int .i64 a0), (1, .int .i64 a1), (4, u1), (19, .bool s_)] ∧ St e w_ [] [(true, .box 28 Download_.rep u1 Download_.z)]) hF (fun s1 _ w2 hI hF => ?_) (fun j1 hj1 hF => ?_)
 ·
  obtain ⟨rfl, h2⟩ := hI
  refine Run.ite rfl hF (fun e1 hF => ?_) (fun e1 hF => ?_)
  ·
   refine Run.seq ?_
   refine Run.reg ?_
   refine op (OpS.build (f := true) (x' := Download_.z) h2 pl28 ti28 Download_.zr rfl rfl rfl .nil (fun u2 h3 => ?_))
   refine op (OpS.storeB (f' := true) h3 .z PA.z Put.id ty28 rfl rfl rfl (V.at .z) (.inl rfl) (fun w3 h4 => ?_))
   refine op (OpS.as rfl rfl rfl ?_)
   refine RunL.nil ?_
   refine Run.slim [(5, .int .i64 2), (4, u1)] ⟨rfl, rfl, trivial⟩ ?_
   obtain ⟨u3, hu1, h5⟩ := res_box h4 .z ty28
   refine Run.retP rfl (.cell rfl hu1 (.tmp rfl .nil)) ?_
   cases hF
   exact Post.mk' ⟨u3, rfl, rfl, rfl, rfl⟩ (h5.picks .nil) (.val (V.at .z) .nil)
  ·
   refine Run.skip ?_
   refine Run.seq ?_
   obtain ⟨y1, e2, hF⟩ := bindP_use hF
   obtain ⟨x1, e3, hF⟩ := bindP_use hF
   obtain ⟨x2, e4, hF⟩ := bindP_use hF
   refine Run.drawV (Ωs := [(true, .box 28 Download_.rep u1 Download_.z)]) [⟨some 21, some (.int .i64 a0), fun _ => [], fun ds_ u_ => [], [], [], none⟩, ⟨some 22, some (.int .i64 a1), fun _ => [], fun ds_ u_ => [], [], [], none⟩, ⟨some 23, some (.int .i64 a0), fun _ => [], fun ds_ u_ => [], [], [], none⟩, ⟨some 24, some (.int .i64 a1), fun _ => [], fun ds_ u_ => [], [], [], none⟩, ⟨some 25, some (.int .i64 y1), fun _ => [], fun ds_ u_ => [], [], [], none⟩, ⟨some 26, none, fun u_ => [(true, .val (Rep.slice Rep.bool) u_ x1)], fun ds_ u_ => [], [], [], none⟩, ⟨some 27, some (.int .i64 a0), fun _ => [], fun ds_ u_ => [], [], [], none⟩, ⟨some 28, none, fun u_ => [(true, .val (Rep.slice (Rep.int .u8)) u_ x2)], fun ds_ u_ => [], [], [], none⟩, ⟨some 29, none, fun u_ => [(true, .val Download_.rep u_ (⟨a0, a1, x1, x2⟩ : Download_))], fun ds_ u_ => [], [], [], none⟩] [[], [], [], [], [2, 3], [4], [], [6], [0, 1, 5, 7]] [] [0, 1, 2, 3, 4, 5, 6, 7, 8] Try_mixed rfl rfl rfl h2 (.cons ?_ (.cons ?_ (.cons ?_ (.cons ?_ (.cons ?_ (.cons ?_ (.cons ?_ (.cons ?_ (.cons ?_ .nil))))))))) (fun q1 w hq1 h => ?_)
   ·intro q1 w Γx Ωx h
    refine OpS.mv rfl rfl rfl ?_
    exact ⟨undef, rfl, trivial, h⟩
   ·intro q1 w Γx Ωx h
    refine OpS.mv rfl rfl rfl ?_
    exact ⟨undef, rfl, trivial, h⟩
   ·intro q1 w Γx Ωx h
    refine OpS.mv rfl rfl rfl ?_
    exact ⟨undef, rfl, trivial, h⟩
   ·intro q1 w Γx Ωx h
    refine OpS.mv rfl rfl rfl ?_
    exact ⟨undef, rfl, trivial, h⟩
   ·intro q1 w Γx Ωx h
    refine OpS.callP h Try.func34 rfl rfl rfl rfl (vs := [.int .i64 a0, .int .i64 a1]) rfl (ref30_parts_ok e2) .nil ?_
    rintro _ w7 _ _ _ ⟨rfl, rfl, rfl, rfl⟩ h11
    have h12 := h11 rfl rfl
    simp only [List.cons_append, List.nil_append] at h12
    exact ⟨undef, rfl, trivial, h12⟩
   ·intro q1 w Γx Ωx h
    refine OpS.make h Try.underlying26 ti4 rfl rfl (Zr.bool false) rfl rfl rfl rfl e3 (by simp) (mk_fits e3) rfl (fun u w8 h13 => ?_)
    exact ⟨u, rfl, trivial, (h13.freeze)⟩
   ·intro q1 w Γx Ωx h
    refine OpS.mv rfl rfl rfl ?_
    exact ⟨undef, rfl, trivial, h⟩
   ·intro q1 w Γx Ωx h
    refine OpS.make h Try.underlying22 ti5 rfl rfl (Zr.int .u8 0) rfl rfl rfl rfl e4 (by simp) (mk_fits e4) rfl (fun u w9 h14 => ?_)
    exact ⟨u, rfl, trivial, (h14.freeze)⟩
   ·intro q1 w Γx Ωx h
    refine OpS.build (f := true) (x' := (⟨a0, a1, x1, x2⟩ : Download_)) h pl28 ti28 Download_.zr rfl rfl rfl (.cons rfl Download_.f0 rfl V.int (.cons rfl Download_.f1 rfl V.int (.cons rfl Download_.f2 rfl (V.at .z) (.cons rfl Download_.f3 rfl (V.at (.s .z)) .nil)))) (fun u h15 => ?_)
    exact ⟨u, rfl, trivial, h15⟩
   have h16 : St e w [(true, .val (Rep.slice Rep.bool) (q1 5) x1), (true, .val (Rep.slice (Rep.int .u8)) (q1 7) x2), (true, .val Download_.rep (q1 8) (⟨a0, a1, x1, x2⟩ : Download_))] [(true, .box 28 Download_.rep u1 Download_.z)] := h
   refine op (OpS.storeB (f' := true) h16 .z PA.z Put.id ty28 rfl rfl rfl (V.at (.s (.s .z))) (.inl rfl) (fun w10 h17 => ?_))
   refine op (OpS.as rfl rfl rfl ?_)
   refine RunL.nil ?_
   refine Run.slim [(5, .int .i64 0), (4, u1)] ⟨rfl, rfl, trivial⟩ ?_
   obtain ⟨u4, hu2, h18⟩ := res_box h17 .z ty28
   refine Run.retP rfl (.cell rfl hu2 (.tmp rfl .nil)) ?_
   cases hF
   exact Post.mk' ⟨u4, rfl, rfl, rfl, rfl⟩ (h18.picks .nil) (.val (V.at .z) .nil)
 ·
  refine RunL.caseb hF (fun e5 hF => ?_) (fun e5 hF => ?_)
  ·
   refine op (OpS.pass rfl rfl rfl ?_)
   refine op (OpS.pass rfl rfl rfl ?_)
   refine op (OpS.pick rfl rfl rfl rfl ?_)
   refine op (OpS.mv rfl rfl rfl ?_)
   refine op (OpS.pass rfl rfl rfl ?_)
   refine op (OpS.pass rfl rfl rfl ?_)
   refine op (OpS.pick rfl rfl rfl rfl ?_)
   refine op (OpS.mv rfl rfl rfl ?_)
   refine op (OpS.pass rfl rfl rfl ?_)
   refine op (OpS.pass rfl rfl rfl ?_)
   refine op (OpS.pick rfl rfl rfl rfl ?_)
   refine RunL.nil ?_
   refine Run.slim [(19, .bool true), (4, u1), (0, .int .i64 a0), (1, .int .i64 a1)] ⟨rfl, rfl, rfl, rfl, trivial⟩ ?_
   refine Run.slim [(0, .int .i64 a0), (1, .int .i64 a1), (4, u1), (19, .bool true)] ⟨rfl, rfl, rfl, rfl, trivial⟩ ?_
   exact hj1 (true) _ _ ⟨rfl, (h1.facts .nil).picks (.cons .z .nil)⟩ hF
  ·
   refine op (OpS.mv rfl rfl rfl ?_)
   refine op (OpS.bin rfl rfl rfl rfl rfl ?_)
   refine op (OpS.pick rfl rfl rfl rfl ?_)
   refine op (OpS.mv rfl rfl rfl ?_)
   refine RunL.caseb hF (fun e6 hF => ?_) (fun e6 hF => ?_)
   ·
    refine op (OpS.pass rfl rfl rfl ?_)
    refine op (OpS.pass rfl rfl rfl ?_)
    refine op (OpS.pick rfl rfl rfl rfl ?_)
    refine op (OpS.mv rfl rfl rfl ?_)
    refine op (OpS.pass rfl rfl rfl ?_)
    refine op (OpS.pass rfl rfl rfl ?_)
    refine op (OpS.pick rfl rfl rfl rfl ?_)
    refine RunL.nil ?_
    refine Run.slim [(19, .bool true), (4, u1), (0, .int .i64 a0), (1, .int .i64 a1)] ⟨rfl, rfl, rfl, rfl, trivial⟩ ?_
    refine Run.slim [(0, .int .i64 a0), (1, .int .i64 a1), (4, u1), (19, .bool true)] ⟨rfl, rfl, rfl, rfl, trivial⟩ ?_
    exact hj1 (true) _ _ ⟨rfl, (h1.facts .nil).picks (.cons .z .nil)⟩ hF
   ·
    refine op (OpS.mv rfl rfl rfl ?_)
    refine op (OpS.bin rfl rfl rfl rfl rfl ?_)
    refine op (OpS.pick rfl rfl rfl rfl ?_)
    refine op (OpS.mv rfl rfl rfl ?_)
    refine RunL.caseb hF (fun e7 hF => ?_) (fun e7 hF => ?_)
    ·
     refine op (OpS.pass rfl rfl rfl ?_)
     refine op (OpS.pass rfl rfl rfl ?_)
     refine op (OpS.pick rfl rfl rfl rfl ?_)
     refine RunL.nil ?_
     refine Run.slim [(19, .bool true), (4, u1), (0, .int .i64 a0), (1, .int .i64 a1)] ⟨rfl, rfl, rfl, rfl, trivial⟩ ?_
     refine Run.slim [(0, .int .i64 a0), (1, .int .i64 a1), (4, u1), (19, .bool true)] ⟨rfl, rfl, rfl, rfl, trivial⟩ ?_
     exact hj1 (true) _ _ ⟨rfl, (h1.facts .nil).picks (.cons .z .nil)⟩ hF
    ·
     refine op (OpS.mv rfl rfl rfl ?_)
     refine op (OpS.bin rfl rfl rfl rfl rfl ?_)
     refine op (OpS.pick rfl rfl rfl rfl ?_)
     refine RunL.nil ?_
     refine Run.slim [(19, .bool (decide (a1 > 64))), (4, u1), (0, .int .i64 a0), (1, .int .i64 a1)] ⟨rfl, rfl, rfl, rfl, trivial⟩ ?_
     refine Run.slim [(0, .int .i64 a0), (1, .int .i64 a1), (4, u1), (19, .bool (decide (a1 > 64)))] ⟨rfl, rfl, rfl, rfl, trivial⟩ ?_
     exact hj1 (decide (a1 > 64)) _ _ ⟨rfl, (h1.facts .nil).picks (.cons .z .nil)⟩ hF
set_option maxHeartbeats 8000000 in
theorem ref30_Valid_ok {fuel : Nat} {a0 : Download_} {y : Bool} (hF : ref30_Valid fuel a0 = some y) {w : World} {v0 : Value} :
  Spec Try.prog 23 [v0].toArray w [(false, .val Download_.rep v0 a0)] [] (fun v Γr Ωr Ωo => v = .bool y ∧ Γr = [] ∧ Ωr = [] ∧ Ωo = []) := by
 refine Spec.of (L := [(0, v0)]) Try.func23 rfl ⟨rfl, trivial⟩ rfl (fun e h => ?_)
 unfold ref30_Valid at hF
 refine Run.seq ?_
 refine Run.reg ?_
 refine op (OpS.boxF h rfl rfl rfl (V.at .z) (fun u1 w1 h1 => ?_))
 refine op (OpS.as rfl rfl rfl ?_)
 refine RunL.nil ?_
 refine Run.slim [(1, u1)] ⟨rfl, trivial⟩ ?_
 refine Run.seq ?_
 refine Run.seq ?_
 refine Run.join (σ := Bool) (fun s_ L_ w_ => L_ = [(1, u1), (40, .bool s_)] ∧ St e w_ [] [(false, .box 28 Download_.rep u1 a0)]) hF (fun s1 _ w2 hI hF => ?_) (fun j1 hj1 hF => ?_)
 ·
  obtain ⟨rfl, h2⟩ := hI
  refine Run.ite rfl hF (fun e1 hF => ?_) (fun e1 hF => ?_)
  ·
   refine Run.seq ?_
   refine Run.reg ?_
   refine op (OpS.as rfl rfl rfl ?_)
   refine RunL.nil ?_
   refine Run.slim [(2, .bool false)] ⟨rfl, trivial⟩ ?_
   refine Run.retP rfl (.tmp rfl .nil) ?_
   cases hF
   exact Post.mk' ⟨rfl, rfl, rfl, rfl⟩ (h2.picks .nil) .nil
  ·
   refine Run.skip ?_
   refine Run.seq ?_
   refine Run.seq ?_
   refine Run.reg ?_
   refine op (OpS.as rfl rfl rfl ?_)
   refine RunL.nil ?_
   refine Run.slim [(3, .int .i64 0), (1, u1)] ⟨rfl, rfl, trivial⟩ ?_
   refine Run.block ?_
   refine Run.slim [(1, u1), (3, .int .i64 0)] ⟨rfl, rfl, trivial⟩ ?_
   refine Run.loopP (σ := Int) (fun s_ L_ w_ => L_ = [(1, u1), (3, .int .i64 s_)] ∧ St e w_ [] [(false, .box 28 Download_.rep u1 a0)]) hF ⟨rfl, (h2.facts .nil).picks (.cons .z .nil)⟩ (fun k1 hk1 s2 _ w3 hI hF => ?_)
   obtain ⟨rfl, h3⟩ := hI
   refine Run.seq ?_
   refine Run.seq ?_
   refine Run.reg ?_
   refine op (OpS.mv rfl rfl rfl ?_)
   refine op (OpS.fbox (o3 := 0) h3 .z PA.z fa28_0 rfl rfl rfl rfl ?_)
   refine op (OpS.loadBi h3 .z PA.a (Get.fld Download_.f0) ty3 rfl rfl rfl ?_)
   refine op (OpS.bin rfl rfl rfl rfl rfl ?_)
   refine RunL.nil ?_
   refine Run.slim [(44, .bool (decide (s2 < a0.Size))), (1, u1), (3, .int .i64 s2)] ⟨rfl, rfl, rfl, trivial⟩ ?_
   refine Run.ite rfl hF (fun e2 hF => ?_) (fun e2 hF => ?_)
   ·
    refine Run.skip ?_
    refine Run.seq ?_
    refine Run.block ?_
    refine Run.seq ?_
    refine Run.join (σ := Bool) (fun s_ L_ w_ => L_ = [(1, u1), (3, .int .i64 s2), (63, .bool s_)] ∧ St e w_ [] [(false, .box 28 Download_.rep u1 a0)]) hF (fun s3 _ w4 hI hF => ?_) (fun j2 hj2 hF => ?_)
    ·
     obtain ⟨rfl, h4⟩ := hI
     refine Run.ite rfl hF (fun e3 hF => ?_) (fun e3 hF => ?_)
     ·
      refine Run.seq ?_
      refine Run.reg ?_
      refine op (OpS.as rfl rfl rfl ?_)
      refine RunL.nil ?_
      refine Run.slim [(2, .bool false)] ⟨rfl, trivial⟩ ?_
      refine Run.retP rfl (.tmp rfl .nil) ?_
      cases hF
      exact Post.mk' ⟨rfl, rfl, rfl, rfl⟩ (h4.picks .nil) .nil
     ·
      refine Run.skip ?_
      refine Run.endBlock ?_
      refine Run.reg ?_
      refine op (OpS.mv rfl rfl rfl ?_)
      refine op (OpS.bin rfl rfl rfl rfl rfl ?_)
      refine op (OpS.as rfl rfl rfl ?_)
      obtain ⟨x1, e4, hF⟩ := letP_use hF
      refine RunL.name e4 ?_
      refine RunL.nil ?_
      refine Run.slim [(3, .int .i64 x1), (1, u1)] ⟨rfl, rfl, trivial⟩ ?_
      refine Run.slim [(1, u1), (3, .int .i64 x1)] ⟨rfl, rfl, trivial⟩ ?_
      exact hk1 (x1) _ _ ⟨rfl, (h4.facts .nil).picks (.cons .z .nil)⟩ hF
    ·
     obtain ⟨e5, hF⟩ := chk_use hF
     obtain ⟨x2, e6, hF⟩ := bindP_use hF
     obtain ⟨x3, e7, hF⟩ := letP_use hF
     refine iteP_use hF (fun e8 hF => ?_) (fun e8 hF => ?_)
     ·
      have hG := hF
      subst e8
      have hF := hG
      obtain ⟨x4, e9, hF⟩ := bindP_use hF
      refine Run.drawV (Ωs := []) [⟨some 47, some ((padd u1 2)), fun _ => [], fun ds_ u_ => [], [], [(0, [])], none⟩, ⟨some 48, none, fun u_ => [(false, .val (Rep.slice Rep.bool) u_ a0.Have)], fun ds_ u_ => [], [], [(0, [])], none⟩, ⟨some 49, some (.int .i64 s2), fun _ => [], fun ds_ u_ => [], [], [], none⟩, ⟨some 50, some ((padd u1 1)), fun _ => [], fun ds_ u_ => [], [], [(0, [])], none⟩, ⟨some 51, some (.int .i64 a0.Part), fun _ => [], fun ds_ u_ => [], [], [(0, [])], none⟩, ⟨some 52, some (.int .i64 (IntKind.i64.wrap (Int.tdiv s2 a0.Part))), fun _ => [], fun ds_ u_ => [], [], [], none⟩, ⟨some 53, none, fun u_ => [(false, .ptr Rep.bool u_ x2)], fun ds_ u_ => [], [], [], none⟩, ⟨some 54, some (.bool x2), fun _ => [], fun ds_ u_ => [], [], [], none⟩, ⟨some 55, some (.bool (!x2)), fun _ => [], fun ds_ u_ => [], [], [], none⟩, ⟨some 56, some (.bool true), fun _ => [], fun ds_ u_ => [], [], [], none⟩, ⟨some 57, some ((padd u1 3)), fun _ => [], fun ds_ u_ => [], [], [(0, [])], none⟩, ⟨some 58, none, fun u_ => [(false, .val (Rep.slice (Rep.int .u8)) u_ a0.Data)], fun ds_ u_ => [], [], [(0, [])], none⟩, ⟨some 59, some (.int .i64 s2), fun _ => [], fun ds_ u_ => [], [], [], none⟩, ⟨some 60, none, fun u_ => [(false, .ptr (Rep.int .u8) u_ x4)], fun ds_ u_ => [], [], [], none⟩, ⟨some 61, some (.int .u8 x4), fun _ => [], fun ds_ u_ => [], [], [], none⟩, ⟨some 62, some (.bool (x4 != 0)), fun _ => [], fun ds_ u_ => [], [], [], none⟩, ⟨some 63, some (.bool (x4 != 0)), fun _ => [], fun ds_ u_ => [], [], [], none⟩] [[], [0], [], [], [3], [2, 4], [1, 5], [6], [7], [8], [9], [10, 9], [9], [11, 12, 9], [13, 9], [14, 9], [9, 15]] [[(false, .box 28 Download_.rep u1 a0)]] [0, 1, 2, 3, 4, 5, 6, 7, 8, 9, 10, 11, 12, 13, 14, 15, 16, 17] Try_mixed rfl rfl rfl h3 (.cons ?_ (.cons ?_ (.cons ?_ (.cons ?_ (.cons ?_ (.cons ?_ (.cons ?_ (.cons ?_ (.cons ?_ (.cons ?_ (.cons ?_ (.cons ?_ (.cons ?_ (.cons ?_ (.cons ?_ (.cons ?_ (.cons ?_ .nil))))))))))))))))) (fun q1 w hq1 h => ?_)
      ·intro q1 w Γx Ωx h
       have h : St e w ([] ++ Γx) ([(false, .box 28 Download_.rep u1 a0)] ++ Ωx) := h
       refine OpS.fbox (o3 := 2) h .z PA.z fa28_2 rfl rfl rfl rfl ?_
       exact ⟨undef, rfl, trivial, h⟩
      ·intro q1 w Γx Ωx h
       have h : St e w ([] ++ Γx) ([(false, .box 28 Download_.rep u1 a0)] ++ Ωx) := h
       refine OpS.loadB h .z PA.a (Get.fld Download_.f2) ty26 rfl rfl rfl (fun u h9 => ?_)
       exact ⟨u, rfl, trivial, h9⟩
      ·intro q1 w Γx Ωx h
       refine OpS.mv rfl rfl rfl ?_
       exact ⟨undef, rfl, trivial, h⟩
      ·intro q1 w Γx Ωx h
       have h : St e w ([] ++ Γx) ([(false, .box 28 Download_.rep u1 a0)] ++ Ωx) := h
       refine OpS.fbox (o3 := 1) h .z PA.z fa28_1 rfl rfl rfl rfl ?_
       exact ⟨undef, rfl, trivial, h⟩
      ·intro q1 w Γx Ωx h
       have h : St e w ([] ++ Γx) ([(false, .box 28 Download_.rep u1 a0)] ++ Ωx) := h
       refine OpS.loadBi h .z PA.a (Get.fld Download_.f1) ty3 rfl rfl rfl ?_
       exact ⟨undef, rfl, trivial, h⟩
      ·intro q1 w Γx Ωx h
       refine OpS.quo rfl rfl rfl rfl e5 ?_
       exact ⟨undef, rfl, trivial, h⟩
      ·intro q1 w Γx Ωx h
       refine OpS.iptr h Try.underlying26 ty4 rfl rfl rfl rfl (V.at .z) e6 (fun u h10 => ?_)
       exact ⟨u, rfl, trivial, h10⟩
      ·intro q1 w Γx Ωx h
       refine OpS.loadb h ty4 rfl rfl rfl .z ?_
       exact ⟨undef, rfl, trivial, h⟩
      ·intro q1 w Γx Ωx h
       refine OpS.not rfl rfl rfl ?_
       exact ⟨undef, rfl, trivial, h⟩
      ·intro q1 w Γx Ωx h
       refine OpS.mv rfl rfl rfl ?_
       exact ⟨undef, (congrArg (fun z_ => some (Value.bool z_)) e7), trivial, h⟩
      ·intro q1 w Γx Ωx h
       have h : St e w ([] ++ Γx) ([(false, .box 28 Download_.rep u1 a0)] ++ Ωx) := h
       refine OpS.fbox (o3 := 3) h .z PA.z fa28_3 rfl rfl rfl rfl ?_
       exact ⟨undef, rfl, trivial, h⟩
      ·intro q1 w Γx Ωx h
       have h : St e w ([] ++ Γx) ([(false, .box 28 Download_.rep u1 a0)] ++ Ωx) := h
       refine OpS.loadB h .z PA.a (Get.fld Download_.f3) ty22 rfl rfl rfl (fun u h11 => ?_)
       exact ⟨u, rfl, trivial, h11⟩
      ·intro q1 w Γx Ωx h
       refine OpS.mv rfl rfl rfl ?_
       exact ⟨undef, rfl, trivial, h⟩
      ·intro q1 w Γx Ωx h
       refine OpS.iptr h Try.underlying22 ty5 rfl rfl rfl rfl (V.at .z) e9 (fun u h12 => ?_)
       exact ⟨u, rfl, trivial, h12⟩
      ·intro q1 w Γx Ωx h
       refine OpS.loadi h ty5 rfl rfl rfl .z ?_
       exact ⟨undef, rfl, trivial, h⟩
      ·intro q1 w Γx Ωx h
       refine OpS.bin rfl rfl rfl rfl rfl ?_
       exact ⟨undef, rfl, trivial, h⟩
      ·intro q1 w Γx Ωx h
       refine OpS.pick rfl rfl rfl rfl ?_
       exact ⟨undef, rfl, trivial, h⟩
      have h13 : St e w [(false, .val (Rep.slice Rep.bool) (q1 1) a0.Have), (false, .ptr Rep.bool (q1 6) x2), (false, .val (Rep.slice (Rep.int .u8)) (q1 11) a0.Data), (false, .ptr (Rep.int .u8) (q1 13) x4)] [(false, .box 28 Download_.rep u1 a0)] := h
      refine RunL.nil ?_
      refine Run.slim [(63, .bool (x4 != 0)), (1, u1), (3, .int .i64 s2)] ⟨rfl, rfl, rfl, trivial⟩ ?_
      refine Run.slim [(1, u1), (3, .int .i64 s2), (63, .bool (x4 != 0))] ⟨rfl, rfl, rfl, trivial⟩ ?_
      exact hj2 (x4 != 0) _ _ ⟨rfl, (h13.facts .nil).picks (.cons .z .nil)⟩ hF
     ·
      have hG := hF
      subst e8
      have hF := hG
      refine Run.drawV (Ωs := []) [⟨some 47, some ((padd u1 2)), fun _ => [], fun ds_ u_ => [], [], [(0, [])], none⟩, ⟨some 48, none, fun u_ => [(false, .val (Rep.slice Rep.bool) u_ a0.Have)], fun ds_ u_ => [], [], [(0, [])], none⟩, ⟨some 49, some (.int .i64 s2), fun _ => [], fun ds_ u_ => [], [], [], none⟩, ⟨some 50, some ((padd u1 1)), fun _ => [], fun ds_ u_ => [], [], [(0, [])], none⟩, ⟨some 51, some (.int .i64 a0.Part), fun _ => [], fun ds_ u_ => [], [], [(0, [])], none⟩, ⟨some 52, some (.int .i64 (IntKind.i64.wrap (Int.tdiv s2 a0.Part))), fun _ => [], fun ds_ u_ => [], [], [], none⟩, ⟨some 53, none, fun u_ => [(false, .ptr Rep.bool u_ x2)], fun ds_ u_ => [], [], [], none⟩, ⟨some 54, some (.bool x2), fun _ => [], fun ds_ u_ => [], [], [], none⟩, ⟨some 55, some (.bool (!x2)), fun _ => [], fun ds_ u_ => [], [], [], none⟩, ⟨some 56, some (.bool false), fun _ => [], fun ds_ u_ => [], [], [], none⟩, ⟨some 57, some undef, fun _ => [], fun _ _ => [], [], [], none⟩, ⟨some 58, some undef, fun _ => [], fun _ _ => [], [], [], none⟩, ⟨some 59, some undef, fun _ => [], fun _ _ => [], [], [], none⟩, ⟨some 60, some undef, fun _ => [], fun _ _ => [], [], [], none⟩, ⟨some 61, some undef, fun _ => [], fun _ _ => [], [], [], none⟩, ⟨some 62, some undef, fun _ => [], fun _ _ => [], [], [], none⟩, ⟨some 63, some (.bool false), fun _ => [], fun ds_ u_ => [], [], [], none⟩] [[], [0], [], [], [3], [2, 4], [1, 5], [6], [7], [8], [9], [9], [9], [9], [9], [9], [9, 15]] [[(false, .box 28 Download_.rep u1 a0)]] [0, 1, 2, 3, 4, 5, 6, 7, 8, 9, 10, 11, 12, 13, 14, 15, 16, 17] Try_mixed rfl rfl rfl h3 (.cons ?_ (.cons ?_ (.cons ?_ (.cons ?_ (.cons ?_ (.cons ?_ (.cons ?_ (.cons ?_ (.cons ?_ (.cons ?_ (.cons ?_ (.cons ?_ (.cons ?_ (.cons ?_ (.cons ?_ (.cons ?_ (.cons ?_ .nil))))))))))))))))) (fun q1 w hq2 h => ?_)
      ·intro q1 w Γx Ωx h
       have h : St e w ([] ++ Γx) ([(false, .box 28 Download_.rep u1 a0)] ++ Ωx) := h
       refine OpS.fbox (o3 := 2) h .z PA.z fa28_2 rfl rfl rfl rfl ?_
       exact ⟨undef, rfl, trivial, h⟩
      ·intro q1 w Γx Ωx h
       have h : St e w ([] ++ Γx) ([(false, .box 28 Download_.rep u1 a0)] ++ Ωx) := h
       refine OpS.loadB h .z PA.a (Get.fld Download_.f2) ty26 rfl rfl rfl (fun u h14 => ?_)
       exact ⟨u, rfl, trivial, h14⟩
      ·intro q1 w Γx Ωx h
       refine OpS.mv rfl rfl rfl ?_
       exact ⟨undef, rfl, trivial, h⟩
      ·intro q1 w Γx Ωx h
       have h : St e w ([] ++ Γx) ([(false, .box 28 Download_.rep u1 a0)] ++ Ωx) := h
       refine OpS.fbox (o3 := 1) h .z PA.z fa28_1 rfl rfl rfl rfl ?_
       exact ⟨undef, rfl, trivial, h⟩
      ·intro q1 w Γx Ωx h
       have h : St e w ([] ++ Γx) ([(false, .box 28 Download_.rep u1 a0)] ++ Ωx) := h
       refine OpS.loadBi h .z PA.a (Get.fld Download_.f1) ty3 rfl rfl rfl ?_
       exact ⟨undef, rfl, trivial, h⟩
      ·intro q1 w Γx Ωx h
       refine OpS.quo rfl rfl rfl rfl e5 ?_
       exact ⟨undef, rfl, trivial, h⟩
      ·intro q1 w Γx Ωx h
       refine OpS.iptr h Try.underlying26 ty4 rfl rfl rfl rfl (V.at .z) e6 (fun u h15 => ?_)
       exact ⟨u, rfl, trivial, h15⟩
      ·intro q1 w Γx Ωx h
       refine OpS.loadb h ty4 rfl rfl rfl .z ?_
       exact ⟨undef, rfl, trivial, h⟩
      ·intro q1 w Γx Ωx h
       refine OpS.not rfl rfl rfl ?_
       exact ⟨undef, rfl, trivial, h⟩
      ·intro q1 w Γx Ωx h
       refine OpS.mv rfl rfl rfl ?_
       exact ⟨undef, (congrArg (fun z_ => some (Value.bool z_)) e7), trivial, h⟩
      ·intro q1 w Γx Ωx h
       exact OpS.pass rfl rfl rfl ⟨undef, rfl, trivial, h⟩
      ·intro q1 w Γx Ωx h
       exact OpS.pass rfl rfl rfl ⟨undef, rfl, trivial, h⟩
      ·intro q1 w Γx Ωx h
       exact OpS.pass rfl rfl rfl ⟨undef, rfl, trivial, h⟩
      ·intro q1 w Γx Ωx h
       exact OpS.pass rfl rfl rfl ⟨undef, rfl, trivial, h⟩
      ·intro q1 w Γx Ωx h
       exact OpS.pass rfl rfl rfl ⟨undef, rfl, trivial, h⟩
      ·intro q1 w Γx Ωx h
       exact OpS.pass rfl rfl rfl ⟨undef, rfl, trivial, h⟩
      ·intro q1 w Γx Ωx h
       refine OpS.pick rfl rfl rfl rfl ?_
       exact ⟨undef, rfl, trivial, h⟩
      have h16 : St e w [(false, .val (Rep.slice Rep.bool) (q1 1) a0.Have), (false, .ptr Rep.bool (q1 6) x2)] [(false, .box 28 Download_.rep u1 a0)] := h
      refine RunL.nil ?_
      refine Run.slim [(63, .bool false), (1, u1), (3, .int .i64 s2)] ⟨rfl, rfl, rfl, trivial⟩ ?_
      refine Run.slim [(1, u1), (3, .int .i64 s2), (63, .bool false)] ⟨rfl, rfl, rfl, trivial⟩ ?_
      exact hj2 (false) _ _ ⟨rfl, (h16.facts .nil).picks (.cons .z .nil)⟩ hF
   ·
    refine Run.exit rfl ?_
    refine Run.seq ?_
    refine Run.reg ?_
    refine op (OpS.as rfl rfl rfl ?_)
    refine RunL.nil ?_
    refine Run.slim [(2, .bool true)] ⟨rfl, trivial⟩ ?_
    refine Run.retP rfl (.tmp rfl .nil) ?_
    cases hF
    exact Post.mk' ⟨rfl, rfl, rfl, rfl⟩ (h3.picks .nil) .nil
 ·
  obtain ⟨x5, e10, hF⟩ := letP_use hF
  refine iteP_use hF (fun e11 hF => ?_) (fun e11 hF => ?_)
  ·
   have hG := hF
   subst e11
   have hF := hG
   refine Run.drawV (Ωs := []) [⟨some 4, some ((padd u1 0)), fun _ => [], fun ds_ u_ => [], [], [(0, [])], none⟩, ⟨some 5, some (.int .i64 a0.Size), fun _ => [], fun ds_ u_ => [], [], [(0, [])], none⟩, ⟨some 6, some (.bool (decide (a0.Size < 1))), fun _ => [], fun ds_ u_ => [], [], [], none⟩, ⟨some 7, some (.bool true), fun _ => [], fun ds_ u_ => [], [], [], none⟩, ⟨some 8, some undef, fun _ => [], fun _ _ => [], [], [], none⟩, ⟨some 9, some undef, fun _ => [], fun _ _ => [], [], [], none⟩, ⟨some 10, some undef, fun _ => [], fun _ _ => [], [], [], none⟩, ⟨some 11, some (.bool true), fun _ => [], fun ds_ u_ => [], [], [], none⟩, ⟨some 12, some (.bool true), fun _ => [], fun ds_ u_ => [], [], [], none⟩, ⟨some 13, some undef, fun _ => [], fun _ _ => [], [], [], none⟩, ⟨some 14, some undef, fun _ => [], fun _ _ => [], [], [], none⟩, ⟨some 15, some undef, fun _ => [], fun _ _ => [], [], [], none⟩, ⟨some 16, some (.bool true), fun _ => [], fun ds_ u_ => [], [], [], none⟩, ⟨some 17, some (.bool true), fun _ => [], fun ds_ u_ => [], [], [], none⟩, ⟨some 18, some undef, fun _ => [], fun _ _ => [], [], [], none⟩, ⟨some 19, some undef, fun _ => [], fun _ _ => [], [], [], none⟩, ⟨some 20, some undef, fun _ => [], fun _ _ => [], [], [], none⟩, ⟨some 21, some (.bool true), fun _ => [], fun ds_ u_ => [], [], [], none⟩, ⟨some 22, some (.bool true), fun _ => [], fun ds_ u_ => [], [], [], none⟩, ⟨some 23, some undef, fun _ => [], fun _ _ => [], [], [], none⟩, ⟨some 24, some undef, fun _ => [], fun _ _ => [], [], [], none⟩, ⟨some 25, some undef, fun _ => [], fun _ _ => [], [], [], none⟩, ⟨some 26, some undef, fun _ => [], fun _ _ => [], [], [], none⟩, ⟨some 27, some undef, fun _ => [], fun _ _ => [], [], [], none⟩, ⟨some 28, some undef, fun _ => [], fun _ _ => [], [], [], none⟩, ⟨some 29, some undef, fun _ => [], fun _ _ => [], [], [], none⟩, ⟨some 30, some undef, fun _ => [], fun _ _ => [], [], [], none⟩, ⟨some 31, some undef, fun _ => [], fun _ _ => [], [], [], none⟩, ⟨some 32, some (.bool true), fun _ => [], fun ds_ u_ => [], [], [], none⟩, ⟨some 33, some (.bool true), fun _ => [], fun ds_ u_ => [], [], [], none⟩, ⟨some 34, some undef, fun _ => [], fun _ _ => [], [], [], none⟩, ⟨some 35, some undef, fun _ => [], fun _ _ => [], [], [], none⟩, ⟨some 36, some undef, fun _ => [], fun _ _ => [], [], [], none⟩, ⟨some 37, some undef, fun _ => [], fun _ _ => [], [], [], none⟩, ⟨some 38, some undef, fun _ => [], fun _ _ => [], [], [], none⟩, ⟨some 39, some undef, fun _ => [], fun _ _ => [], [], [], none⟩, ⟨some 40, some (.bool true), fun _ => [], fun ds_ u_ => [], [], [], none⟩] [[], [0], [1], [2], [3], [3], [3], [3, 6], [7], [8], [8], [8], [8, 11], [12], [13], [13], [13], [13, 16], [17], [18], [18], [18], [18], [18], [18], [18], [18], [18], [18, 27], [28], [29], [29], [29], [29], [29], [29], [29, 35]] [[(false, .box 28 Download_.rep u1 a0)]] [0, 1, 2, 3, 4, 5, 6, 7, 8, 9, 10, 11, 12, 13, 14, 15, 16, 17, 18, 19, 20, 21, 22, 23, 24, 25, 26, 27, 28, 29, 30, 31, 32, 33, 34, 35, 36, 37] Try_mixed rfl rfl rfl h1 (.cons ?_ (.cons ?_ (.cons ?_ (.cons ?_ (.cons ?_ (.cons ?_ (.cons ?_ (.cons ?_ (.cons ?_ (.cons ?_ (.cons ?_ (.cons ?_ (.cons ?_ (.cons ?_ (.cons ?_ (.cons ?_ (.cons ?_ (.cons ?_ (.cons ?_ (.cons ?_ (.cons ?_ (.cons ?_ (.cons ?_ (.cons ?_ (.cons ?_ (.cons ?_ (.cons ?_ (.cons ?_ (.cons ?_ (.cons ?_ (.cons ?_ (.cons ?_ (.cons ?_ (.cons ?_ (.cons ?_ (.cons ?_ (.cons ?_ .nil))))))))))))))))))))))))))))))))))))) (fun q2 w hq3 h => ?_)
   ·intro q2 w Γx Ωx h
    have h : St e w ([(false, .val Download_.rep v0 a0)] ++ Γx) ([(false, .box 28 Download_.rep u1 a0)] ++ Ωx) := h
    refine OpS.fbox (o3 := 0) h .z PA.z fa28_0 rfl rfl rfl rfl ?_
    exact ⟨undef, rfl, trivial, h⟩
   ·intro q2 w Γx Ωx h
    have h : St e w ([(false, .val Download_.rep v0 a0)] ++ Γx) ([(false, .box 28 Download_.rep u1 a0)] ++ Ωx) := h
    refine OpS.loadBi h .z PA.a (Get.fld Download_.f0) ty3 rfl rfl rfl ?_
    exact ⟨undef, rfl, trivial, h⟩
   ·intro q2 w Γx Ωx h
    refine OpS.bin rfl rfl rfl rfl rfl ?_
    exact ⟨undef, rfl, trivial, h⟩
   ·intro q2 w Γx Ωx h
    refine OpS.mv rfl rfl rfl ?_
    exact ⟨undef, (congrArg (fun z_ => some (Value.bool z_)) e10), trivial, h⟩
   ·intro q2 w Γx Ωx h
    exact OpS.pass rfl rfl rfl ⟨undef, rfl, trivial, h⟩
   ·intro q2 w Γx Ωx h
    exact OpS.pass rfl rfl rfl ⟨undef, rfl, trivial, h⟩
   ·intro q2 w Γx Ωx h
    exact OpS.pass rfl rfl rfl ⟨undef, rfl, trivial, h⟩
   ·intro q2 w Γx Ωx h
    refine OpS.pick rfl rfl rfl rfl ?_
    exact ⟨undef, rfl, trivial, h⟩
   ·intro q2 w Γx Ωx h
    refine OpS.mv rfl rfl rfl ?_
    exact ⟨undef, rfl, trivial, h⟩
   ·intro q2 w Γx Ωx h
    exact OpS.pass rfl rfl rfl ⟨undef, rfl, trivial, h⟩
   ·intro q2 w Γx Ωx h
    exact OpS.pass rfl rfl rfl ⟨undef, rfl, trivial, h⟩
   ·intro q2 w Γx Ωx h
    exact OpS.pass rfl rfl rfl ⟨undef, rfl, trivial, h⟩
   ·intro q2 w Γx Ωx h
    refine OpS.pick rfl rfl rfl rfl ?_
    exact ⟨undef, rfl, trivial, h⟩
   ·intro q2 w Γx Ωx h
    refine OpS.mv rfl rfl rfl ?_
    exact ⟨undef, rfl, trivial, h⟩
   ·intro q2 w Γx Ωx h
    exact OpS.pass rfl rfl rfl ⟨undef, rfl, trivial, h⟩
   ·intro q2 w Γx Ωx h
    exact OpS.pass rfl rfl rfl ⟨undef, rfl, trivial, h⟩
   ·intro q2 w Γx Ωx h
    exact OpS.pass rfl rfl rfl ⟨undef, rfl, trivial, h⟩
   ·intro q2 w Γx Ωx h
    refine OpS.pick rfl rfl rfl rfl ?_
    exact ⟨undef, rfl, trivial, h⟩
   ·intro q2 w Γx Ωx h
    refine OpS.mv rfl rfl rfl ?_
    exact ⟨undef, rfl, trivial, h⟩
   ·intro q2 w Γx Ωx h
    exact OpS.pass rfl rfl rfl ⟨undef, rfl, trivial, h⟩
   ·intro q2 w Γx Ωx h
    exact OpS.pass rfl rfl rfl ⟨undef, rfl, trivial, h⟩
   ·intro q2 w Γx Ωx h
    exact OpS.pass rfl rfl rfl ⟨undef, rfl, trivial, h⟩
   ·intro q2 w Γx Ωx h
    exact OpS.pass rfl rfl rfl ⟨undef, rfl, trivial, h⟩
   ·intro q2 w Γx Ωx h
    exact OpS.pass rfl rfl rfl ⟨undef, rfl, trivial, h⟩
   ·intro q2 w Γx Ωx h
    exact OpS.pass rfl rfl rfl ⟨undef, rfl, trivial, h⟩
   ·intro q2 w Γx Ωx h
    exact OpS.pass rfl rfl rfl ⟨undef, rfl, trivial, h⟩
   ·intro q2 w Γx Ωx h
    exact OpS.pass rfl rfl rfl ⟨undef, rfl, trivial, h⟩
   ·intro q2 w Γx Ωx h
    exact OpS.pass rfl rfl rfl ⟨undef, rfl, trivial, h⟩
   ·intro q2 w Γx Ωx h
    refine OpS.pick rfl rfl rfl rfl ?_
    exact ⟨undef, rfl, trivial, h⟩
   ·intro q2 w Γx Ωx h
    refine OpS.mv rfl rfl rfl ?_
    exact ⟨undef, rfl, trivial, h⟩
   ·intro q2 w Γx Ωx h
    exact OpS.pass rfl rfl rfl ⟨undef, rfl, trivial, h⟩
   ·intro q2 w Γx Ωx h
    exact OpS.pass rfl rfl rfl ⟨undef, rfl, trivial, h⟩
   ·intro q2 w Γx Ωx h
    exact OpS.pass rfl rfl rfl ⟨undef, rfl, trivial, h⟩
   ·intro q2 w Γx Ωx h
    exact OpS.pass rfl rfl rfl ⟨undef, rfl, trivial, h⟩
   ·intro q2 w Γx Ωx h
    exact OpS.pass rfl rfl rfl ⟨undef, rfl, trivial, h⟩
   ·intro q2 w Γx Ωx h
    exact OpS.pass rfl rfl rfl ⟨undef, rfl, trivial, h⟩
   ·intro q2 w Γx Ωx h
    refine OpS.pick rfl rfl rfl rfl ?_
    exact ⟨undef, rfl, trivial, h⟩
   have h17 : St e w [(false, .val Download_.rep v0 a0)] [(false, .box 28 Download_.rep u1 a0)] := h
   refine RunL.nil ?_
   refine Run.slim [(40, .bool true), (1, u1)] ⟨rfl, rfl, trivial⟩ ?_
   refine Run.slim [(1, u1), (40, .bool true)] ⟨rfl, rfl, trivial⟩ ?_
   exact hj1 (true) _ _ ⟨rfl, (h17.facts .nil).picks (.cons .z .nil)⟩ hF
  ·
   have hG := hF
   subst e11
   have hF := hG
   obtain ⟨x6, e12, hF⟩ := letP_use hF
   refine iteP_use hF (fun e13 hF => ?_) (fun e13 hF => ?_)
   ·
    have hG := hF
    subst e13
    have hF := hG
    refine Run.drawV (Ωs := []) [⟨some 4, some ((padd u1 0)), fun _ => [], fun ds_ u_ => [], [], [(0, [])], none⟩, ⟨some 5, some (.int .i64 a0.Size), fun _ => [], fun ds_ u_ => [], [], [(0, [])], none⟩, ⟨some 6, some (.bool (decide (a0.Size < 1))), fun _ => [], fun ds_ u_ => [], [], [], none⟩, ⟨some 7, some (.bool false), fun _ => [], fun ds_ u_ => [], [], [], none⟩, ⟨some 8, some ((padd u1 0)), fun _ => [], fun ds_ u_ => [], [], [(0, [])], none⟩, ⟨some 9, some (.int .i64 a0.Size), fun _ => [], fun ds_ u_ => [], [], [(0, [])], none⟩, ⟨some 10, some (.bool (decide (a0.Size > 8192))), fun _ => [], fun ds_ u_ => [], [], [], none⟩, ⟨some 11, some (.bool (decide (a0.Size > 8192))), fun _ => [], fun ds_ u_ => [], [], [], none⟩, ⟨some 12, some (.bool true), fun _ => [], fun ds_ u_ => [], [], [], none⟩, ⟨some 13, some undef, fun _ => [], fun _ _ => [], [], [], none⟩, ⟨some 14, some undef, fun _ => [], fun _ _ => [], [], [], none⟩, ⟨some 15, some undef, fun _ => [], fun _ _ => [], [], [], none⟩, ⟨some 16, some (.bool true), fun _ => [], fun ds_ u_ => [], [], [], none⟩, ⟨some 17, some (.bool true), fun _ => [], fun ds_ u_ => [], [], [], none⟩, ⟨some 18, some undef, fun _ => [], fun _ _ => [], [], [], none⟩, ⟨some 19, some undef, fun _ => [], fun _ _ => [], [], [], none⟩, ⟨some 20, some undef, fun _ => [], fun _ _ => [], [], [], none⟩, ⟨some 21, some (.bool true), fun _ => [], fun ds_ u_ => [], [], [], none⟩, ⟨some 22, some (.bool true), fun _ => [], fun ds_ u_ => [], [], [], none⟩, ⟨some 23, some undef, fun _ => [], fun _ _ => [], [], [], none⟩, ⟨some 24, some undef, fun _ => [], fun _ _ => [], [], [], none⟩, ⟨some 25, some undef, fun _ => [], fun _ _ => [], [], [], none⟩, ⟨some 26, some undef, fun _ => [], fun _ _ => [], [], [], none⟩, ⟨some 27, some undef, fun _ => [], fun _ _ => [], [], [], none⟩, ⟨some 28, some undef, fun _ => [], fun _ _ => [], [], [], none⟩, ⟨some 29, some undef, fun _ => [], fun _ _ => [], [], [], none⟩, ⟨some 30, some undef, fun _ => [], fun _ _ => [], [], [], none⟩, ⟨some 31, some undef, fun _ => [], fun _ _ => [], [], [], none⟩, ⟨some 32, some (.bool true), fun _ => [], fun ds_ u_ => [], [], [], none⟩, ⟨some 33, some (.bool true), fun _ => [], fun ds_ u_ => [], [], [], none⟩, ⟨some 34, some undef, fun _ => [], fun _ _ => [], [], [], none⟩, ⟨some 35, some undef, fun _ => [], fun _ _ => [], [], [], none⟩, ⟨some 36, some undef, fun _ => [], fun _ _ => [], [], [], none⟩, ⟨some 37, some undef, fun _ => [], fun _ _ => [], [], [], none⟩, ⟨some 38, some undef, fun _ => [], fun _ _ => [], [], [], none⟩, ⟨some 39, some undef, fun _ => [], fun _ _ => [], [], [], none⟩, ⟨some 40, some (.bool true), fun _ => [], fun ds_ u_ => [], [], [], none⟩] [[], [0], [1], [2], [3], [4, 3], [5, 3], [3, 6], [7], [8], [8], [8], [8, 11], [12], [13], [13], [13], [13, 16], [17], [18], [18], [18], [18], [18], [18], [18], [18], [18], [18, 27], [28], [29], [29], [29], [29], [29], [29], [29, 35]] [[(false, .box 28 Download_.rep u1 a0)]] [0, 1, 2, 3, 4, 5, 6, 7, 8, 9, 10, 11, 12, 13, 14, 15, 16, 17, 18, 19, 20, 21, 22, 23, 24, 25, 26, 27, 28, 29, 30, 31, 32, 33, 34, 35, 36, 37] Try_mixed rfl rfl rfl h1 (.cons ?_ (.cons ?_ (.cons ?_ (.cons ?_ (.cons ?_ (.cons ?_ (.cons ?_ (.cons ?_ (.cons ?_ (.cons ?_ (.cons ?_ (.cons ?_ (.cons ?_ (.cons ?_ (.cons ?_ (.cons ?_ (.cons ?_ (.cons ?_ (.cons ?_ (.cons ?_ (.cons ?_ (.cons ?_ (.cons ?_ (.cons ?_ (.cons ?_ (.cons ?_ (.cons ?_ (.cons ?_ (.cons ?_ (.cons ?_ (.cons ?_ (.cons ?_ (.cons ?_ (.cons ?_ (.cons ?_ (.cons ?_ (.cons ?_ .nil))))))))))))))))))))))))))))))))))))) (fun q2 w hq4 h => ?_)
    ·intro q2 w Γx Ωx h
     have h : St e w ([(false, .val Download_.rep v0 a0)] ++ Γx) ([(false, .box 28 Download_.rep u1 a0)] ++ Ωx) := h
     refine OpS.fbox (o3 := 0) h .z PA.z fa28_0 rfl rfl rfl rfl ?_
     exact ⟨undef, rfl, trivial, h⟩
    ·intro q2 w Γx Ωx h
     have h : St e w ([(false, .val Download_.rep v0 a0)] ++ Γx) ([(false, .box 28 Download_.rep u1 a0)] ++ Ωx) := h
     refine OpS.loadBi h .z PA.a (Get.fld Download_.f0) ty3 rfl rfl rfl ?_
     exact ⟨undef, rfl, trivial, h⟩
    ·intro q2 w Γx Ωx h
     refine OpS.bin rfl rfl rfl rfl rfl ?_
     exact ⟨undef, rfl, trivial, h⟩
    ·intro q2 w Γx Ωx h
     refine OpS.mv rfl rfl rfl ?_
     exact ⟨undef, (congrArg (fun z_ => some (Value.bool z_)) e10), trivial, h⟩
    ·intro q2 w Γx Ωx h
     have h : St e w ([(false, .val Download_.rep v0 a0)] ++ Γx) ([(false, .box 28 Download_.rep u1 a0)] ++ Ωx) := h
     refine OpS.fbox (o3 := 0) h .z PA.z fa28_0 rfl rfl rfl rfl ?_
     exact ⟨undef, rfl, trivial, h⟩
    ·intro q2 w Γx Ωx h
     have h : St e w ([(false, .val Download_.rep v0 a0)] ++ Γx) ([(false, .box 28 Download_.rep u1 a0)] ++ Ωx) := h
     refine OpS.loadBi h .z PA.a (Get.fld Download_.f0) ty3 rfl rfl rfl ?_
     exact ⟨undef, rfl, trivial, h⟩
    ·intro q2 w Γx Ωx h
     refine OpS.bin rfl rfl rfl rfl rfl ?_
     exact ⟨undef, rfl, trivial, h⟩
    ·intro q2 w Γx Ωx h
     refine OpS.pick rfl rfl rfl rfl ?_
     exact ⟨undef, rfl, trivial, h⟩
    ·intro q2 w Γx Ωx h
     refine OpS.mv rfl rfl rfl ?_
     exact ⟨undef, (congrArg (fun z_ => some (Value.bool z_)) e12), trivial, h⟩
    ·intro q2 w Γx Ωx h
     exact OpS.pass rfl rfl rfl ⟨undef, rfl, trivial, h⟩
    ·intro q2 w Γx Ωx h
     exact OpS.pass rfl rfl rfl ⟨undef, rfl, trivial, h⟩
    ·intro q2 w Γx Ωx h
     exact OpS.pass rfl rfl rfl ⟨undef, rfl, trivial, h⟩
    ·intro q2 w Γx Ωx h
     refine OpS.pick rfl rfl rfl rfl ?_
     exact ⟨undef, rfl, trivial, h⟩
    ·intro q2 w Γx Ωx h
     refine OpS.mv rfl rfl rfl ?_
     exact ⟨undef, rfl, trivial, h⟩
    ·intro q2 w Γx Ωx h
     exact OpS.pass rfl rfl rfl ⟨undef, rfl, trivial, h⟩
    ·intro q2 w Γx Ωx h
     exact OpS.pass rfl rfl rfl ⟨undef, rfl, trivial, h⟩
    ·intro q2 w Γx Ωx h
     exact OpS.pass rfl rfl rfl ⟨undef, rfl, trivial, h⟩
    ·intro q2 w Γx Ωx h
     refine OpS.pick rfl rfl rfl rfl ?_
     exact ⟨undef, rfl, trivial, h⟩
    ·intro q2 w Γx Ωx h
     refine OpS.mv rfl rfl rfl ?_
     exact ⟨undef, rfl, trivial, h⟩
    ·intro q2 w Γx Ωx h
     exact OpS.pass rfl rfl rfl ⟨undef, rfl, trivial, h⟩
    ·intro q2 w Γx Ωx h
     exact OpS.pass rfl rfl rfl ⟨undef, rfl, trivial, h⟩
    ·intro q2 w Γx Ωx h
     exact OpS.pass rfl rfl rfl ⟨undef, rfl, trivial, h⟩
    ·intro q2 w Γx Ωx h
     exact OpS.pass rfl rfl rfl ⟨undef, rfl, trivial, h⟩
    ·intro q2 w Γx Ωx h
     exact OpS.pass rfl rfl rfl ⟨undef, rfl, trivial, h⟩
    ·intro q2 w Γx Ωx h
     exact OpS.pass rfl rfl rfl ⟨undef, rfl, trivial, h⟩
    ·intro q2 w Γx Ωx h
     exact OpS.pass rfl rfl rfl ⟨undef, rfl, trivial, h⟩
    ·intro q2 w Γx Ωx h
     exact OpS.pass rfl rfl rfl ⟨undef, rfl, trivial, h⟩
    ·intro q2 w Γx Ωx h
     exact OpS.pass rfl rfl rfl ⟨undef, rfl, trivial, h⟩
    ·intro q2 w Γx Ωx h
     refine OpS.pick rfl rfl rfl rfl ?_
     exact ⟨undef, rfl, trivial, h⟩
    ·intro q2 w Γx Ωx h
     refine OpS.mv rfl rfl rfl ?_
     exact ⟨undef, rfl, trivial, h⟩
    ·intro q2 w Γx Ωx h
     exact OpS.pass rfl rfl rfl ⟨undef, rfl, trivial, h⟩
    ·intro q2 w Γx Ωx h
     exact OpS.pass rfl rfl rfl ⟨undef, rfl, trivial, h⟩
    ·intro q2 w Γx Ωx h
     exact OpS.pass rfl rfl rfl ⟨undef, rfl, trivial, h⟩
    ·intro q2 w Γx Ωx h
     exact OpS.pass rfl rfl rfl ⟨undef, rfl, trivial, h⟩
    ·intro q2 w Γx Ωx h
     exact OpS.pass rfl rfl rfl ⟨undef, rfl, trivial, h⟩
    ·intro q2 w Γx Ωx h
     exact OpS.pass rfl rfl rfl ⟨undef, rfl, trivial, h⟩
    ·intro q2 w Γx Ωx h
     refine OpS.pick rfl rfl rfl rfl ?_
     exact ⟨undef, rfl, trivial, h⟩
    have h18 : St e w [(false, .val Download_.rep v0 a0)] [(false, .box 28 Download_.rep u1 a0)] := h
    refine RunL.nil ?_
    refine Run.slim [(40, .bool true), (1, u1)] ⟨rfl, rfl, trivial⟩ ?_
    refine Run.slim [(1, u1), (40, .bool true)] ⟨rfl, rfl, trivial⟩ ?_
    exact hj1 (true) _ _ ⟨rfl, (h18.facts .nil).picks (.cons .z .nil)⟩ hF
   ·
    have hG := hF
    subst e13
    have hF := hG
    obtain ⟨x7, e14, hF⟩ := letP_use hF
    refine iteP_use hF (fun e15 hF => ?_) (fun e15 hF => ?_)
    ·
     have hG := hF
     subst e15
     have hF := hG
     refine Run.drawV (Ωs := []) [⟨some 4, some ((padd u1 0)), fun _ => [], fun ds_ u_ => [], [], [(0, [])], none⟩, ⟨some 5, some (.int .i64 a0.Size), fun _ => [], fun ds_ u_ => [], [], [(0, [])], none⟩, ⟨some 6, some (.bool (decide (a0.Size < 1))), fun _ => [], fun ds_ u_ => [], [], [], none⟩, ⟨some 7, some (.bool false), fun _ => [], fun ds_ u_ => [], [], [], none⟩, ⟨some 8, some ((padd u1 0)), fun _ => [], fun ds_ u_ => [], [], [(0, [])], none⟩, ⟨some 9, some (.int .i64 a0.Size), fun _ => [], fun ds_ u_ => [], [], [(0, [])], none⟩, ⟨some 10, some (.bool (decide (a0.Size > 8192))), fun _ => [], fun ds_ u_ => [], [], [], none⟩, ⟨some 11, some (.bool (decide (a0.Size > 8192))), fun _ => [], fun ds_ u_ => [], [], [], none⟩, ⟨some 12, some (.bool false), fun _ => [], fun ds_ u_ => [], [], [], none⟩, ⟨some 13, some ((padd u1 1)), fun _ => [], fun ds_ u_ => [], [], [(0, [])], none⟩, ⟨some 14, some (.int .i64 a0.Part), fun _ => [], fun ds_ u_ => [], [], [(0, [])], none⟩, ⟨some 15, some (.bool (decide (a0.Part < 1))), fun _ => [], fun ds_ u_ => [], [], [], none⟩, ⟨some 16, some (.bool (decide (a0.Part < 1))), fun _ => [], fun ds_ u_ => [], [], [], none⟩, ⟨some 17, some (.bool true), fun _ => [], fun ds_ u_ => [], [], [], none⟩, ⟨some 18, some undef, fun _ => [], fun _ _ => [], [], [], none⟩, ⟨some 19, some undef, fun _ => [], fun _ _ => [], [], [], none⟩, ⟨some 20, some undef, fun _ => [], fun _ _ => [], [], [], none⟩, ⟨some 21, some (.bool true), fun _ => [], fun ds_ u_ => [], [], [], none⟩, ⟨some 22, some (.bool true), fun _ => [], fun ds_ u_ => [], [], [], none⟩, ⟨some 23, some undef, fun _ => [], fun _ _ => [], [], [], none⟩, ⟨some 24, some undef, fun _ => [], fun _ _ => [], [], [], none⟩, ⟨some 25, some undef, fun _ => [], fun _ _ => [], [], [], none⟩, ⟨some 26, some undef, fun _ => [], fun _ _ => [], [], [], none⟩, ⟨some 27, some undef, fun _ => [], fun _ _ => [], [], [], none⟩, ⟨some 28, some undef, fun _ => [], fun _ _ => [], [], [], none⟩, ⟨some 29, some undef, fun _ => [], fun _ _ => [], [], [], none⟩, ⟨some 30, some undef, fun _ => [], fun _ _ => [], [], [], none⟩, ⟨some 31, some undef, fun _ => [], fun _ _ => [], [], [], none⟩, ⟨some 32, some (.bool true), fun _ => [], fun ds_ u_ => [], [], [], none⟩, ⟨some 33, some (.bool true), fun _ => [], fun ds_ u_ => [], [], [], none⟩, ⟨some 34, some undef, fun _ => [], fun _ _ => [], [], [], none⟩, ⟨some 35, some undef, fun _ => [], fun _ _ => [], [], [], none⟩, ⟨some 36, some undef, fun _ => [], fun _ _ => [], [], [], none⟩, ⟨some 37, some undef, fun _ => [], fun _ _ => [], [], [], none⟩, ⟨some 38, some undef, fun _ => [], fun _ _ => [], [], [], none⟩, ⟨some 39, some undef, fun _ => [], fun _ _ => [], [], [], none⟩, ⟨some 40, some (.bool true), fun _ => [], fun ds_ u_ => [], [], [], none⟩] [[], [0], [1], [2], [3], [4, 3], [5, 3], [3, 6], [7], [8], [9, 8], [10, 8], [8, 11], [12], [13], [13], [13], [13, 16], [17], [18], [18], [18], [18], [18], [18], [18], [18], [18], [18, 27], [28], [29], [29], [29], [29], [29], [29], [29, 35]] [[(false, .box 28 Download_.rep u1 a0)]] [0, 1, 2, 3, 4, 5, 6, 7, 8, 9, 10, 11, 12, 13, 14, 15, 16, 17, 18, 19, 20, 21, 22, 23, 24, 25, 26, 27, 28, 29, 30, 31, 32, 33, 34, 35, 36, 37] Try_mixed rfl rfl rfl h1 (.cons ?_ (.cons ?_ (.cons ?_ (.cons ?_ (.cons ?_ (.cons ?_ (.cons ?_ (.cons ?_ (.cons ?_ (.cons ?_ (.cons ?_ (.cons ?_ (.cons ?_ (.cons ?_ (.cons ?_ (.cons ?_ (.cons ?_ (.cons ?_ (.cons ?_ (.cons ?_ (.cons ?_ (.cons ?_ (.cons ?_ (.cons ?_ (.cons ?_ (.cons ?_ (.cons ?_ (.cons ?_ (.cons ?_ (.cons ?_ (.cons ?_ (.cons ?_ (.cons ?_ (.cons ?_ (.cons ?_ (.cons ?_ (.cons ?_ .nil))))))))))))))))))))))))))))))))))))) (fun q2 w hq5 h => ?_)
     ·intro q2 w Γx Ωx h
      have h : St e w ([(false, .val Download_.rep v0 a0)] ++ Γx) ([(false, .box 28 Download_.rep u1 a0)] ++ Ωx) := h
      refine OpS.fbox (o3 := 0) h .z PA.z fa28_0 rfl rfl rfl rfl ?_
      exact ⟨undef, rfl, trivial, h⟩
     ·intro q2 w Γx Ωx h
      have h : St e w ([(false, .val Download_.rep v0 a0)] ++ Γx) ([(false, .box 28 Download_.rep u1 a0)] ++ Ωx) := h
      refine OpS.loadBi h .z PA.a (Get.fld Download_.f0) ty3 rfl rfl rfl ?_
      exact ⟨undef, rfl, trivial, h⟩
     ·intro q2 w Γx Ωx h
      refine OpS.bin rfl rfl rfl rfl rfl ?_
      exact ⟨undef, rfl, trivial, h⟩
     ·intro q2 w Γx Ωx h
      refine OpS.mv rfl rfl rfl ?_
      exact ⟨undef, (congrArg (fun z_ => some (Value.bool z_)) e10), trivial, h⟩
     ·intro q2 w Γx Ωx h
      have h : St e w ([(false, .val Download_.rep v0 a0)] ++ Γx) ([(false, .box 28 Download_.rep u1 a0)] ++ Ωx) := h
      refine OpS.fbox (o3 := 0) h .z PA.z fa28_0 rfl rfl rfl rfl ?_
      exact ⟨undef, rfl, trivial, h⟩
     ·intro q2 w Γx Ωx h
      have h : St e w ([(false, .val Download_.rep v0 a0)] ++ Γx) ([(false, .box 28 Download_.rep u1 a0)] ++ Ωx) := h
      refine OpS.loadBi h .z PA.a (Get.fld Download_.f0) ty3 rfl rfl rfl ?_
      exact ⟨undef, rfl, trivial, h⟩
     ·intro q2 w Γx Ωx h
      refine OpS.bin rfl rfl rfl rfl rfl ?_
      exact ⟨undef, rfl, trivial, h⟩
     ·intro q2 w Γx Ωx h
      refine OpS.pick rfl rfl rfl rfl ?_
      exact ⟨undef, rfl, trivial, h⟩
     ·intro q2 w Γx Ωx h
      refine OpS.mv rfl rfl rfl ?_
      exact ⟨undef, (congrArg (fun z_ => some (Value.bool z_)) e12), trivial, h⟩
     ·intro q2 w Γx Ωx h
      have h : St e w ([(false, .val Download_.rep v0 a0)] ++ Γx) ([(false, .box 28 Download_.rep u1 a0)] ++ Ωx) := h
      refine OpS.fbox (o3 := 1) h .z PA.z fa28_1 rfl rfl rfl rfl ?_
      exact ⟨undef, rfl, trivial, h⟩
     ·intro q2 w Γx Ωx h
      have h : St e w ([(false, .val Download_.rep v0 a0)] ++ Γx) ([(false, .box 28 Download_.rep u1 a0)] ++ Ωx) := h
      refine OpS.loadBi h .z PA.a (Get.fld Download_.f1) ty3 rfl rfl rfl ?_
      exact ⟨undef, rfl, trivial, h⟩
     ·intro q2 w Γx Ωx h
      refine OpS.bin rfl rfl rfl rfl rfl ?_
      exact ⟨undef, rfl, trivial, h⟩
     ·intro q2 w Γx Ωx h
      refine OpS.pick rfl rfl rfl rfl ?_
      exact ⟨undef, rfl, trivial, h⟩
     ·intro q2 w Γx Ωx h
      refine OpS.mv rfl rfl rfl ?_
      exact ⟨undef, (congrArg (fun z_ => some (Value.bool z_)) e14), trivial, h⟩
     ·intro q2 w Γx Ωx h
      exact OpS.pass rfl rfl rfl ⟨undef, rfl, trivial, h⟩
     ·intro q2 w Γx Ωx h
      exact OpS.pass rfl rfl rfl ⟨undef, rfl, trivial, h⟩
     ·intro q2 w Γx Ωx h
      exact OpS.pass rfl rfl rfl ⟨undef, rfl, trivial, h⟩
     ·intro q2 w Γx Ωx h
      refine OpS.pick rfl rfl rfl rfl ?_
      exact ⟨undef, rfl, trivial, h⟩
     ·intro q2 w Γx Ωx h
      refine OpS.mv rfl rfl rfl ?_
      exact ⟨undef, rfl, trivial, h⟩
     ·intro q2 w Γx Ωx h
      exact OpS.pass rfl rfl rfl ⟨undef, rfl, trivial, h⟩
     ·intro q2 w Γx Ωx h
      exact OpS.pass rfl rfl rfl ⟨undef, rfl, trivial, h⟩
     ·intro q2 w Γx Ωx h
      exact OpS.pass rfl rfl rfl ⟨undef, rfl, trivial, h⟩
     ·intro q2 w Γx Ωx h
      exact OpS.pass rfl rfl rfl ⟨undef, rfl, trivial, h⟩
     ·intro q2 w Γx Ωx h
      exact OpS.pass rfl rfl rfl ⟨undef, rfl, trivial, h⟩
     ·intro q2 w Γx Ωx h
      exact OpS.pass rfl rfl rfl ⟨undef, rfl, trivial, h⟩
     ·intro q2 w Γx Ωx h
      exact OpS.pass rfl rfl rfl ⟨undef, rfl, trivial, h⟩
     ·intro q2 w Γx Ωx h
      exact OpS.pass rfl rfl rfl ⟨undef, rfl, trivial, h⟩
     ·intro q2 w Γx Ωx h
      exact OpS.pass rfl rfl rfl ⟨undef, rfl, trivial, h⟩
     ·intro q2 w Γx Ωx h
      refine OpS.pick rfl rfl rfl rfl ?_
      exact ⟨undef, rfl, trivial, h⟩
     ·intro q2 w Γx Ωx h
      refine OpS.mv rfl rfl rfl ?_
      exact ⟨undef, rfl, trivial, h⟩
     ·intro q2 w Γx Ωx h
      exact OpS.pass rfl rfl rfl ⟨undef, rfl, trivial, h⟩
     ·intro q2 w Γx Ωx h
      exact OpS.pass rfl rfl rfl ⟨undef, rfl, trivial, h⟩
     ·intro q2 w Γx Ωx h
      exact OpS.pass rfl rfl rfl ⟨undef, rfl, trivial, h⟩
     ·intro q2 w Γx Ωx h
      exact OpS.pass rfl rfl rfl ⟨undef, rfl, trivial, h⟩
     ·intro q2 w Γx Ωx h
      exact OpS.pass rfl rfl rfl ⟨undef, rfl, trivial, h⟩
     ·intro q2 w Γx Ωx h
      exact OpS.pass rfl rfl rfl ⟨undef, rfl, trivial, h⟩
     ·intro q2 w Γx Ωx h
      refine OpS.pick rfl rfl rfl rfl ?_
      exact ⟨undef, rfl, trivial, h⟩
     have h19 : St e w [(false, .val Download_.rep v0 a0)] [(false, .box 28 Download_.rep u1 a0)] := h
     refine RunL.nil ?_
     refine Run.slim [(40, .bool true), (1, u1)] ⟨rfl, rfl, trivial⟩ ?_
     refine Run.slim [(1, u1), (40, .bool true)] ⟨rfl, rfl, trivial⟩ ?_
     exact hj1 (true) _ _ ⟨rfl, (h19.facts .nil).picks (.cons .z .nil)⟩ hF
    ·
     have hG := hF
     subst e15
     have hF := hG
     obtain ⟨x8, e16, hF⟩ := letP_use hF
     refine iteP_use hF (fun e17 hF => ?_) (fun e17 hF => ?_)
     ·
      have hG := hF
      subst e17
      have hF := hG
      refine Run.drawV (Ωs := []) [⟨some 4, some ((padd u1 0)), fun _ => [], fun ds_ u_ => [], [], [(0, [])], none⟩, ⟨some 5, some (.int .i64 a0.Size), fun _ => [], fun ds_ u_ => [], [], [(0, [])], none⟩, ⟨some 6, some (.bool (decide (a0.Size < 1))), fun _ => [], fun ds_ u_ => [], [], [], none⟩, ⟨some 7, some (.bool false), fun _ => [], fun ds_ u_ => [], [], [], none⟩, ⟨some 8, some ((padd u1 0)), fun _ => [], fun ds_ u_ => [], [], [(0, [])], none⟩, ⟨some 9, some (.int .i64 a0.Size), fun _ => [], fun ds_ u_ => [], [], [(0, [])], none⟩, ⟨some 10, some (.bool (decide (a0.Size > 8192))), fun _ => [], fun ds_ u_ => [], [], [], none⟩, ⟨some 11, some (.bool (decide (a0.Size > 8192))), fun _ => [], fun ds_ u_ => [], [], [], none⟩, ⟨some 12, some (.bool false), fun _ => [], fun ds_ u_ => [], [], [], none⟩, ⟨some 13, some ((padd u1 1)), fun _ => [], fun ds_ u_ => [], [], [(0, [])], none⟩, ⟨some 14, some (.int .i64 a0.Part), fun _ => [], fun ds_ u_ => [], [], [(0, [])], none⟩, ⟨some 15, some (.bool (decide (a0.Part < 1))), fun _ => [], fun ds_ u_ => [], [], [], none⟩, ⟨some 16, some (.bool (decide (a0.Part < 1))), fun _ => [], fun ds_ u_ => [], [], [], none⟩, ⟨some 17, some (.bool false), fun _ => [], fun ds_ u_ => [], [], [], none⟩, ⟨some 18, some ((padd u1 1)), fun _ => [], fun ds_ u_ => [], [], [(0, [])], none⟩, ⟨some 19, some (.int .i64 a0.Part), fun _ => [], fun ds_ u_ => [], [], [(0, [])], none⟩, ⟨some 20, some (.bool (decide (a0.Part > 64))), fun _ => [], fun ds_ u_ => [], [], [], none⟩, ⟨some 21, some (.bool (decide (a0.Part > 64))), fun _ => [], fun ds_ u_ => [], [], [], none⟩, ⟨some 22, some (.bool true), fun _ => [], fun ds_ u_ => [], [], [], none⟩, ⟨some 23, some undef, fun _ => [], fun _ _ => [], [], [], none⟩, ⟨some 24, some undef, fun _ => [], fun _ _ => [], [], [], none⟩, ⟨some 25, some undef, fun _ => [], fun _ _ => [], [], [], none⟩, ⟨some 26, some undef, fun _ => [], fun _ _ => [], [], [], none⟩, ⟨some 27, some undef, fun _ => [], fun _ _ => [], [], [], none⟩, ⟨some 28, some undef, fun _ => [], fun _ _ => [], [], [], none⟩, ⟨some 29, some undef, fun _ => [], fun _ _ => [], [], [], none⟩, ⟨some 30, some undef, fun _ => [], fun _ _ => [], [], [], none⟩, ⟨some 31, some undef, fun _ => [], fun _ _ => [], [], [], none⟩, ⟨some 32, some (.bool true), fun _ => [], fun ds_ u_ => [], [], [], none⟩, ⟨some 33, some (.bool true), fun _ => [], fun ds_ u_ => [], [], [], none⟩, ⟨some 34, some undef, fun _ => [], fun _ _ => [], [], [], none⟩, ⟨some 35, some undef, fun _ => [], fun _ _ => [], [], [], none⟩, ⟨some 36, some undef, fun _ => [], fun _ _ => [], [], [], none⟩, ⟨some 37, some undef, fun _ => [], fun _ _ => [], [], [], none⟩, ⟨some 38, some undef, fun _ => [], fun _ _ => [], [], [], none⟩, ⟨some 39, some undef, fun _ => [], fun _ _ => [], [], [], none⟩, ⟨some 40, some (.bool true), fun _ => [], fun ds_ u_ => [], [], [], none⟩] [[], [0], [1], [2], [3], [4, 3], [5, 3], [3, 6], [7], [8], [9, 8], [10, 8], [8, 11], [12], [13], [14, 13], [15, 13], [13, 16], [17], [18], [18], [18], [18], [18], [18], [18], [18], [18], [18, 27], [28], [29], [29], [29], [29], [29], [29], [29, 35]] [[(false, .box 28 Download_.rep u1 a0)]] [0, 1, 2, 3, 4, 5, 6, 7, 8, 9, 10, 11, 12, 13, 14, 15, 16, 17, 18, 19, 20, 21, 22, 23, 24, 25, 26, 27, 28, 29, 30, 31, 32, 33, 34, 35, 36, 37] Try_mixed rfl rfl rfl h1 (.cons ?_ (.cons ?_ (.cons ?_ (.cons ?_ (.cons ?_ (.cons ?_ (.cons ?_ (.cons ?_ (.cons ?_ (.cons ?_ (.cons ?_ (.cons ?_ (.cons ?_ (.cons ?_ (.cons ?_ (.cons ?_ (.cons ?_ (.cons ?_ (.cons ?_ (.cons ?_ (.cons ?_ (.cons ?_ (.cons ?_ (.cons ?_ (.cons ?_ (.cons ?_ (.cons ?_ (.cons ?_ (.cons ?_ (.cons ?_ (.cons ?_ (.cons ?_ (.cons ?_ (.cons ?_ (.cons ?_ (.cons ?_ (.cons ?_ .nil))))))))))))))))))))))))))))))))))))) (fun q2 w hq6 h => ?_)
      ·intro q2 w Γx Ωx h
       have h : St e w ([(false, .val Download_.rep v0 a0)] ++ Γx) ([(false, .box 28 Download_.rep u1 a0)] ++ Ωx) := h
       refine OpS.fbox (o3 := 0) h .z PA.z fa28_0 rfl rfl rfl rfl ?_
       exact ⟨undef, rfl, trivial, h⟩
      ·intro q2 w Γx Ωx h
       have h : St e w ([(false, .val Download_.rep v0 a0)] ++ Γx) ([(false, .box 28 Download_.rep u1 a0)] ++ Ωx) := h
       refine OpS.loadBi h .z PA.a (Get.fld Download_.f0) ty3 rfl rfl rfl ?_
       exact ⟨undef, rfl, trivial, h⟩
      ·intro q2 w Γx Ωx h
       refine OpS.bin rfl rfl rfl rfl rfl ?_
       exact ⟨undef, rfl, trivial, h⟩
      ·intro q2 w Γx Ωx h
       refine OpS.mv rfl rfl rfl ?_
       exact ⟨undef, (congrArg (fun z_ => some (Value.bool z_)) e10), trivial, h⟩
      ·intro q2 w Γx Ωx h
       have h : St e w ([(false, .val Download_.rep v0 a0)] ++ Γx) ([(false, .box 28 Download_.rep u1 a0)] ++ Ωx) := h
       refine OpS.fbox (o3 := 0) h .z PA.z fa28_0 rfl rfl rfl rfl ?_
       exact ⟨undef, rfl, trivial, h⟩
      ·intro q2 w Γx Ωx h
       have h : St e w ([(false, .val Download_.rep v0 a0)] ++ Γx) ([(false, .box 28 Download_.rep u1 a0)] ++ Ωx) := h
       refine OpS.loadBi h .z PA.a (Get.fld Download_.f0) ty3 rfl rfl rfl ?_
       exact ⟨undef, rfl, trivial, h⟩
      ·intro q2 w Γx Ωx h
       refine OpS.bin rfl rfl rfl rfl rfl ?_
       exact ⟨undef, rfl, trivial, h⟩
      ·intro q2 w Γx Ωx h
       refine OpS.pick rfl rfl rfl rfl ?_
       exact ⟨undef, rfl, trivial, h⟩
      ·intro q2 w Γx Ωx h
       refine OpS.mv rfl rfl rfl ?_
       exact ⟨undef, (congrArg (fun z_ => some (Value.bool z_)) e12), trivial, h⟩
      ·intro q2 w Γx Ωx h
       have h : St e w ([(false, .val Download_.rep v0 a0)] ++ Γx) ([(false, .box 28 Download_.rep u1 a0)] ++ Ωx) := h
       refine OpS.fbox (o3 := 1) h .z PA.z fa28_1 rfl rfl rfl rfl ?_
       exact ⟨undef, rfl, trivial, h⟩
      ·intro q2 w Γx Ωx h
       have h : St e w ([(false, .val Download_.rep v0 a0)] ++ Γx) ([(false, .box 28 Download_.rep u1 a0)] ++ Ωx) := h
       refine OpS.loadBi h .z PA.a (Get.fld Download_.f1) ty3 rfl rfl rfl ?_
       exact ⟨undef, rfl, trivial, h⟩
      ·intro q2 w Γx Ωx h
       refine OpS.bin rfl rfl rfl rfl rfl ?_
       exact ⟨undef, rfl, trivial, h⟩
      ·intro q2 w Γx Ωx h
       refine OpS.pick rfl rfl rfl rfl ?_
       exact ⟨undef, rfl, trivial, h⟩
      ·intro q2 w Γx Ωx h
       refine OpS.mv rfl rfl rfl ?_
       exact ⟨undef, (congrArg (fun z_ => some (Value.bool z_)) e14), trivial, h⟩
      ·intro q2 w Γx Ωx h
       have h : St e w ([(false, .val Download_.rep v0 a0)] ++ Γx) ([(false, .box 28 Download_.rep u1 a0)] ++ Ωx) := h
       refine OpS.fbox (o3 := 1) h .z PA.z fa28_1 rfl rfl rfl rfl ?_
       exact ⟨undef, rfl, trivial, h⟩
      ·intro q2 w Γx Ωx h
       have h : St e w ([(false, .val Download_.rep v0 a0)] ++ Γx) ([(false, .box 28 Download_.rep u1 a0)] ++ Ωx) := h
       refine OpS.loadBi h .z PA.a (Get.fld Download_.f1) ty3 rfl rfl rfl ?_
       exact ⟨undef, rfl, trivial, h⟩
      ·intro q2 w Γx Ωx h
       refine OpS.bin rfl rfl rfl rfl rfl ?_
       exact ⟨undef, rfl, trivial, h⟩
      ·intro q2 w Γx Ωx h
       refine OpS.pick rfl rfl rfl rfl ?_
       exact ⟨undef, rfl, trivial, h⟩
      ·intro q2 w Γx Ωx h
       refine OpS.mv rfl rfl rfl ?_
       exact ⟨undef, (congrArg (fun z_ => some (Value.bool z_)) e16), trivial, h⟩
      ·intro q2 w Γx Ωx h
       exact OpS.pass rfl rfl rfl ⟨undef, rfl, trivial, h⟩
      ·intro q2 w Γx Ωx h
       exact OpS.pass rfl rfl rfl ⟨undef, rfl, trivial, h⟩
      ·intro q2 w Γx Ωx h
       exact OpS.pass rfl rfl rfl ⟨undef, rfl, trivial, h⟩
      ·intro q2 w Γx Ωx h
       exact OpS.pass rfl rfl rfl ⟨undef, rfl, trivial, h⟩
      ·intro q2 w Γx Ωx h
       exact OpS.pass rfl rfl rfl ⟨undef, rfl, trivial, h⟩
      ·intro q2 w Γx Ωx h
       exact OpS.pass rfl rfl rfl ⟨undef, rfl, trivial, h⟩
      ·intro q2 w Γx Ωx h
       exact OpS.pass rfl rfl rfl ⟨undef, rfl, trivial, h⟩
      ·intro q2 w Γx Ωx h
       exact OpS.pass rfl rfl rfl ⟨undef, rfl, trivial, h⟩
      ·intro q2 w Γx Ωx h
       exact OpS.pass rfl rfl rfl ⟨undef, rfl, trivial, h⟩
      ·intro q2 w Γx Ωx h
       refine OpS.pick rfl rfl rfl rfl ?_
       exact ⟨undef, rfl, trivial, h⟩
      ·intro q2 w Γx Ωx h
       refine OpS.mv rfl rfl rfl ?_
       exact ⟨undef, rfl, trivial, h⟩
      ·intro q2 w Γx Ωx h
       exact OpS.pass rfl rfl rfl ⟨undef, rfl, trivial, h⟩
      ·intro q2 w Γx Ωx h
       exact OpS.pass rfl rfl rfl ⟨undef, rfl, trivial, h⟩
      ·intro q2 w Γx Ωx h
       exact OpS.pass rfl rfl rfl ⟨undef, rfl, trivial, h⟩
      ·intro q2 w Γx Ωx h
       exact OpS.pass rfl rfl rfl ⟨undef, rfl, trivial, h⟩
      ·intro q2 w Γx Ωx h
       exact OpS.pass rfl rfl rfl ⟨undef, rfl, trivial, h⟩
      ·intro q2 w Γx Ωx h
       exact OpS.pass rfl rfl rfl ⟨undef, rfl, trivial, h⟩
      ·intro q2 w Γx Ωx h
       refine OpS.pick rfl rfl rfl rfl ?_
       exact ⟨undef, rfl, trivial, h⟩
      have h20 : St e w [(false, .val Download_.rep v0 a0)] [(false, .box 28 Download_.rep u1 a0)] := h
      refine RunL.nil ?_
      refine Run.slim [(40, .bool true), (1, u1)] ⟨rfl, rfl, trivial⟩ ?_
      refine Run.slim [(1, u1), (40, .bool true)] ⟨rfl, rfl, trivial⟩ ?_
      exact hj1 (true) _ _ ⟨rfl, (h20.facts .nil).picks (.cons .z .nil)⟩ hF
     ·
      have hG := hF
      subst e17
      have hF := hG
      obtain ⟨y1, e18, hF⟩ := bindP_use hF
      obtain ⟨x9, e19, hF⟩ := letP_use hF
      refine iteP_use hF (fun e20 hF => ?_) (fun e20 hF => ?_)
      ·
       have hG := hF
       subst e20
       have hF := hG
       refine Run.drawV (Ωs := []) [⟨some 4, some ((padd u1 0)), fun _ => [], fun ds_ u_ => [], [], [(0, [])], none⟩, ⟨some 5, some (.int .i64 a0.Size), fun _ => [], fun ds_ u_ => [], [], [(0, [])], none⟩, ⟨some 6, some (.bool (decide (a0.Size < 1))), fun _ => [], fun ds_ u_ => [], [], [], none⟩, ⟨some 7, some (.bool false), fun _ => [], fun ds_ u_ => [], [], [], none⟩, ⟨some 8, some ((padd u1 0)), fun _ => [], fun ds_ u_ => [], [], [(0, [])], none⟩, ⟨some 9, some (.int .i64 a0.Size), fun _ => [], fun ds_ u_ => [], [], [(0, [])], none⟩, ⟨some 10, some (.bool (decide (a0.Size > 8192))), fun _ => [], fun ds_ u_ => [], [], [], none⟩, ⟨some 11, some (.bool (decide (a0.Size > 8192))), fun _ => [], fun ds_ u_ => [], [], [], none⟩, ⟨some 12, some (.bool false), fun _ => [], fun ds_ u_ => [], [], [], none⟩, ⟨some 13, some ((padd u1 1)), fun _ => [], fun ds_ u_ => [], [], [(0, [])], none⟩, ⟨some 14, some (.int .i64 a0.Part), fun _ => [], fun ds_ u_ => [], [], [(0, [])], none⟩, ⟨some 15, some (.bool (decide (a0.Part < 1))), fun _ => [], fun ds_ u_ => [], [], [], none⟩, ⟨some 16, some (.bool (decide (a0.Part < 1))), fun _ => [], fun ds_ u_ => [], [], [], none⟩, ⟨some 17, some (.bool false), fun _ => [], fun ds_ u_ => [], [], [], none⟩, ⟨some 18, some ((padd u1 1)), fun _ => [], fun ds_ u_ => [], [], [(0, [])], none⟩, ⟨some 19, some (.int .i64 a0.Part), fun _ => [], fun ds_ u_ => [], [], [(0, [])], none⟩, ⟨some 20, some (.bool (decide (a0.Part > 64))), fun _ => [], fun ds_ u_ => [], [], [], none⟩, ⟨some 21, some (.bool (decide (a0.Part > 64))), fun _ => [], fun ds_ u_ => [], [], [], none⟩, ⟨some 22, some (.bool false), fun _ => [], fun ds_ u_ => [], [], [], none⟩, ⟨some 23, some ((padd u1 2)), fun _ => [], fun ds_ u_ => [], [], [(0, [])], none⟩, ⟨some 24, none, fun u_ => [(false, .val (Rep.slice Rep.bool) u_ a0.Have)], fun ds_ u_ => [], [], [(0, [])], none⟩, ⟨some 25, some (.int .i64 (a0.Have.length : Int)), fun _ => [], fun ds_ u_ => [], [], [], none⟩, ⟨some 26, some ((padd u1 0)), fun _ => [], fun ds_ u_ => [], [], [(0, [])], none⟩, ⟨some 27, some (.int .i64 a0.Size), fun _ => [], fun ds_ u_ => [], [], [(0, [])], none⟩, ⟨some 28, some ((padd u1 1)), fun _ => [], fun ds_ u_ => [], [], [(0, [])], none⟩, ⟨some 29, some (.int .i64 a0.Part), fun _ => [], fun ds_ u_ => [], [], [(0, [])], none⟩, ⟨some 30, some (.int .i64 y1), fun _ => [], fun ds_ u_ => [], [], [], none⟩, ⟨some 31, some (.bool ((a0.Have.length : Int) != y1)), fun _ => [], fun ds_ u_ => [], [], [], none⟩, ⟨some 32, some (.bool ((a0.Have.length : Int) != y1)), fun _ => [], fun ds_ u_ => [], [], [], none⟩, ⟨some 33, some (.bool true), fun _ => [], fun ds_ u_ => [], [], [], none⟩, ⟨some 34, some undef, fun _ => [], fun _ _ => [], [], [], none⟩, ⟨some 35, some undef, fun _ => [], fun _ _ => [], [], [], none⟩, ⟨some 36, some undef, fun _ => [], fun _ _ => [], [], [], none⟩, ⟨some 37, some undef, fun _ => [], fun _ _ => [], [], [], none⟩, ⟨some 38, some undef, fun _ => [], fun _ _ => [], [], [], none⟩, ⟨some 39, some undef, fun _ => [], fun _ _ => [], [], [], none⟩, ⟨some 40, some (.bool true), fun _ => [], fun ds_ u_ => [], [], [], none⟩] [[], [0], [1], [2], [3], [4, 3], [5, 3], [3, 6], [7], [8], [9, 8], [10, 8], [8, 11], [12], [13], [14, 13], [15, 13], [13, 16], [17], [18], [19, 18], [20, 18], [18], [22, 18], [18], [24, 18], [23, 25, 18], [21, 26, 18], [18, 27], [28], [29], [29], [29], [29], [29], [29], [29, 35]] [[(false, .box 28 Download_.rep u1 a0)]] [0, 1, 2, 3, 4, 5, 6, 7, 8, 9, 10, 11, 12, 13, 14, 15, 16, 17, 18, 19, 20, 21, 22, 23, 24, 25, 26, 27, 28, 29, 30, 31, 32, 33, 34, 35, 36, 37] Try_mixed rfl rfl rfl h1 (.cons ?_ (.cons ?_ (.cons ?_ (.cons ?_ (.cons ?_ (.cons ?_ (.cons ?_ (.cons ?_ (.cons ?_ (.cons ?_ (.cons ?_ (.cons ?_ (.cons ?_ (.cons ?_ (.cons ?_ (.cons ?_ (.cons ?_ (.cons ?_ (.cons ?_ (.cons ?_ (.cons ?_ (.cons ?_ (.cons ?_ (.cons ?_ (.cons ?_ (.cons ?_ (.cons ?_ (.cons ?_ (.cons ?_ (.cons ?_ (.cons ?_ (.cons ?_ (.cons ?_ (.cons ?_ (.cons ?_ (.cons ?_ (.cons ?_ .nil))))))))))))))))))))))))))))))))))))) (fun q2 w hq7 h => ?_)
       ·intro q2 w Γx Ωx h
        have h : St e w ([(false, .val Download_.rep v0 a0)] ++ Γx) ([(false, .box 28 Download_.rep u1 a0)] ++ Ωx) := h
        refine OpS.fbox (o3 := 0) h .z PA.z fa28_0 rfl rfl rfl rfl ?_
        exact ⟨undef, rfl, trivial, h⟩
       ·intro q2 w Γx Ωx h
        have h : St e w ([(false, .val Download_.rep v0 a0)] ++ Γx) ([(false, .box 28 Download_.rep u1 a0)] ++ Ωx) := h
        refine OpS.loadBi h .z PA.a (Get.fld Download_.f0) ty3 rfl rfl rfl ?_
        exact ⟨undef, rfl, trivial, h⟩
       ·intro q2 w Γx Ωx h
        refine OpS.bin rfl rfl rfl rfl rfl ?_
        exact ⟨undef, rfl, trivial, h⟩
       ·intro q2 w Γx Ωx h
        refine OpS.mv rfl rfl rfl ?_
        exact ⟨undef, (congrArg (fun z_ => some (Value.bool z_)) e10), trivial, h⟩
       ·intro q2 w Γx Ωx h
        have h : St e w ([(false, .val Download_.rep v0 a0)] ++ Γx) ([(false, .box 28 Download_.rep u1 a0)] ++ Ωx) := h
        refine OpS.fbox (o3 := 0) h .z PA.z fa28_0 rfl rfl rfl rfl ?_
        exact ⟨undef, rfl, trivial, h⟩
       ·intro q2 w Γx Ωx h
        have h : St e w ([(false, .val Download_.rep v0 a0)] ++ Γx) ([(false, .box 28 Download_.rep u1 a0)] ++ Ωx) := h
        refine OpS.loadBi h .z PA.a (Get.fld Download_.f0) ty3 rfl rfl rfl ?_
        exact ⟨undef, rfl, trivial, h⟩
       ·intro q2 w Γx Ωx h
        refine OpS.bin rfl rfl rfl rfl rfl ?_
        exact ⟨undef, rfl, trivial, h⟩
       ·intro q2 w Γx Ωx h
        refine OpS.pick rfl rfl rfl rfl ?_
        exact ⟨undef, rfl, trivial, h⟩
       ·intro q2 w Γx Ωx h
        refine OpS.mv rfl rfl rfl ?_
        exact ⟨undef, (congrArg (fun z_ => some (Value.bool z_)) e12), trivial, h⟩
       ·intro q2 w Γx Ωx h
        have h : St e w ([(false, .val Download_.rep v0 a0)] ++ Γx) ([(false, .box 28 Download_.rep u1 a0)] ++ Ωx) := h
        refine OpS.fbox (o3 := 1) h .z PA.z fa28_1 rfl rfl rfl rfl ?_
        exact ⟨undef, rfl, trivial, h⟩
       ·intro q2 w Γx Ωx h
        have h : St e w ([(false, .val Download_.rep v0 a0)] ++ Γx) ([(false, .box 28 Download_.rep u1 a0)] ++ Ωx) := h
        refine OpS.loadBi h .z PA.a (Get.fld Download_.f1) ty3 rfl rfl rfl ?_
        exact ⟨undef, rfl, trivial, h⟩
       ·intro q2 w Γx Ωx h
        refine OpS.bin rfl rfl rfl rfl rfl ?_
        exact ⟨undef, rfl, trivial, h⟩
       ·intro q2 w Γx Ωx h
        refine OpS.pick rfl rfl rfl rfl ?_
        exact ⟨undef, rfl, trivial, h⟩
       ·intro q2 w Γx Ωx h
        refine OpS.mv rfl rfl rfl ?_
        exact ⟨undef, (congrArg (fun z_ => some (Value.bool z_)) e14), trivial, h⟩
       ·intro q2 w Γx Ωx h
        have h : St e w ([(false, .val Download_.rep v0 a0)] ++ Γx) ([(false, .box 28 Download_.rep u1 a0)] ++ Ωx) := h
        refine OpS.fbox (o3 := 1) h .z PA.z fa28_1 rfl rfl rfl rfl ?_
        exact ⟨undef, rfl, trivial, h⟩
       ·intro q2 w Γx Ωx h
        have h : St e w ([(false, .val Download_.rep v0 a0)] ++ Γx) ([(false, .box 28 Download_.rep u1 a0)] ++ Ωx) := h
        refine OpS.loadBi h .z PA.a (Get.fld Download_.f1) ty3 rfl rfl rfl ?_
        exact ⟨undef, rfl, trivial, h⟩
       ·intro q2 w Γx Ωx h
        refine OpS.bin rfl rfl rfl rfl rfl ?_
        exact ⟨undef, rfl, trivial, h⟩
       ·intro q2 w Γx Ωx h
        refine OpS.pick rfl rfl rfl rfl ?_
        exact ⟨undef, rfl, trivial, h⟩
       ·intro q2 w Γx Ωx h
        refine OpS.mv rfl rfl rfl ?_
        exact ⟨undef, (congrArg (fun z_ => some (Value.bool z_)) e16), trivial, h⟩
       ·intro q2 w Γx Ωx h
        have h : St e w ([(false, .val Download_.rep v0 a0)] ++ Γx) ([(false, .box 28 Download_.rep u1 a0)] ++ Ωx) := h
        refine OpS.fbox (o3 := 2) h .z PA.z fa28_2 rfl rfl rfl rfl ?_
        exact ⟨undef, rfl, trivial, h⟩
       ·intro q2 w Γx Ωx h
        have h : St e w ([(false, .val Download_.rep v0 a0)] ++ Γx) ([(false, .box 28 Download_.rep u1 a0)] ++ Ωx) := h
        refine OpS.loadB h .z PA.a (Get.fld Download_.f2) ty26 rfl rfl rfl (fun u h24 => ?_)
        exact ⟨u, rfl, trivial, h24⟩
       ·intro q2 w Γx Ωx h
        refine OpS.len h Try.underlying26 rfl rfl rfl (V.at .z) ?_
        exact ⟨undef, rfl, trivial, h⟩
       ·intro q2 w Γx Ωx h
        have h : St e w ([(false, .val Download_.rep v0 a0)] ++ Γx) ([(false, .box 28 Download_.rep u1 a0)] ++ Ωx) := h
        refine OpS.fbox (o3 := 0) h .z PA.z fa28_0 rfl rfl rfl rfl ?_
        exact ⟨undef, rfl, trivial, h⟩
       ·intro q2 w Γx Ωx h
        have h : St e w ([(false, .val Download_.rep v0 a0)] ++ Γx) ([(false, .box 28 Download_.rep u1 a0)] ++ Ωx) := h
        refine OpS.loadBi h .z PA.a (Get.fld Download_.f0) ty3 rfl rfl rfl ?_
        exact ⟨undef, rfl, trivial, h⟩
       ·intro q2 w Γx Ωx h
        have h : St e w ([(false, .val Download_.rep v0 a0)] ++ Γx) ([(false, .box 28 Download_.rep u1 a0)] ++ Ωx) := h
        refine OpS.fbox (o3 := 1) h .z PA.z fa28_1 rfl rfl rfl rfl ?_
        exact ⟨undef, rfl, trivial, h⟩
       ·intro q2 w Γx Ωx h
        have h : St e w ([(false, .val Download_.rep v0 a0)] ++ Γx) ([(false, .box 28 Download_.rep u1 a0)] ++ Ωx) := h
        refine OpS.loadBi h .z PA.a (Get.fld Download_.f1) ty3 rfl rfl rfl ?_
        exact ⟨undef, rfl, trivial, h⟩
       ·intro q2 w Γx Ωx h
        refine OpS.callP h Try.func34 rfl rfl rfl rfl (vs := [.int .i64 a0.Size, .int .i64 a0.Part]) rfl (ref30_parts_ok e18) .nil ?_
        rintro _ w6 _ _ _ ⟨rfl, rfl, rfl, rfl⟩ h25
        have h26 := h25 rfl rfl
        simp only [List.cons_append, List.nil_append] at h26
        exact ⟨undef, rfl, trivial, h26⟩
       ·intro q2 w Γx Ωx h
        refine OpS.bin rfl rfl rfl rfl rfl ?_
        exact ⟨undef, rfl, trivial, h⟩
       ·intro q2 w Γx Ωx h
        refine OpS.pick rfl rfl rfl rfl ?_
        exact ⟨undef, rfl, trivial, h⟩
       ·intro q2 w Γx Ωx h
        refine OpS.mv rfl rfl rfl ?_
        exact ⟨undef, (congrArg (fun z_ => some (Value.bool z_)) e19), trivial, h⟩
       ·intro q2 w Γx Ωx h
        exact OpS.pass rfl rfl rfl ⟨undef, rfl, trivial, h⟩
       ·intro q2 w Γx Ωx h
        exact OpS.pass rfl rfl rfl ⟨undef, rfl, trivial, h⟩
       ·intro q2 w Γx Ωx h
        exact OpS.pass rfl rfl rfl ⟨undef, rfl, trivial, h⟩
       ·intro q2 w Γx Ωx h
        exact OpS.pass rfl rfl rfl ⟨undef, rfl, trivial, h⟩
       ·intro q2 w Γx Ωx h
        exact OpS.pass rfl rfl rfl ⟨undef, rfl, trivial, h⟩
       ·intro q2 w Γx Ωx h
        exact OpS.pass rfl rfl rfl ⟨undef, rfl, trivial, h⟩
       ·intro q2 w Γx Ωx h
        refine OpS.pick rfl rfl rfl rfl ?_
        exact ⟨undef, rfl, trivial, h⟩
       have h27 : St e w [(false, .val (Rep.slice Rep.bool) (q2 20) a0.Have), (false, .val Download_.rep v0 a0)] [(false, .box 28 Download_.rep u1 a0)] := h
       refine RunL.nil ?_
       refine Run.slim [(40, .bool true), (1, u1)] ⟨rfl, rfl, trivial⟩ ?_
       refine Run.slim [(1, u1), (40, .bool true)] ⟨rfl, rfl, trivial⟩ ?_
       exact hj1 (true) _ _ ⟨rfl, (h27.facts .nil).picks (.cons .z .nil)⟩ hF
      ·
       have hG := hF
       subst e20
       have hF := hG
       refine Run.drawV (Ωs := []) [⟨some 4, some ((padd u1 0)), fun _ => [], fun ds_ u_ => [], [], [(0, [])], none⟩, ⟨some 5, some (.int .i64 a0.Size), fun _ => [], fun ds_ u_ => [], [], [(0, [])], none⟩, ⟨some 6, some (.bool (decide (a0.Size < 1))), fun _ => [], fun ds_ u_ => [], [], [], none⟩, ⟨some 7, some (.bool false), fun _ => [], fun ds_ u_ => [], [], [], none⟩, ⟨some 8, some ((padd u1 0)), fun _ => [], fun ds_ u_ => [], [], [(0, [])], none⟩, ⟨some 9, some (.int .i64 a0.Size), fun _ => [], fun ds_ u_ => [], [], [(0, [])], none⟩, ⟨some 10, some (.bool (decide (a0.Size > 8192))), fun _ => [], fun ds_ u_ => [], [], [], none⟩, ⟨some 11, some (.bool (decide (a0.Size > 8192))), fun _ => [], fun ds_ u_ => [], [], [], none⟩, ⟨some 12, some (.bool false), fun _ => [], fun ds_ u_ => [], [], [], none⟩, ⟨some 13, some ((padd u1 1)), fun _ => [], fun ds_ u_ => [], [], [(0, [])], none⟩, ⟨some 14, some (.int .i64 a0.Part), fun _ => [], fun ds_ u_ => [], [], [(0, [])], none⟩, ⟨some 15, some (.bool (decide (a0.Part < 1))), fun _ => [], fun ds_ u_ => [], [], [], none⟩, ⟨some 16, some (.bool (decide (a0.Part < 1))), fun _ => [], fun ds_ u_ => [], [], [], none⟩, ⟨some 17, some (.bool false), fun _ => [], fun ds_ u_ => [], [], [], none⟩, ⟨some 18, some ((padd u1 1)), fun _ => [], fun ds_ u_ => [], [], [(0, [])], none⟩, ⟨some 19, some (.int .i64 a0.Part), fun _ => [], fun ds_ u_ => [], [], [(0, [])], none⟩, ⟨some 20, some (.bool (decide (a0.Part > 64))), fun _ => [], fun ds_ u_ => [], [], [], none⟩, ⟨some 21, some (.bool (decide (a0.Part > 64))), fun _ => [], fun ds_ u_ => [], [], [], none⟩, ⟨some 22, some (.bool false), fun _ => [], fun ds_ u_ => [], [], [], none⟩, ⟨some 23, some ((padd u1 2)), fun _ => [], fun ds_ u_ => [], [], [(0, [])], none⟩, ⟨some 24, none, fun u_ => [(false, .val (Rep.slice Rep.bool) u_ a0.Have)], fun ds_ u_ => [], [], [(0, [])], none⟩, ⟨some 25, some (.int .i64 (a0.Have.length : Int)), fun _ => [], fun ds_ u_ => [], [], [], none⟩, ⟨some 26, some ((padd u1 0)), fun _ => [], fun ds_ u_ => [], [], [(0, [])], none⟩, ⟨some 27, some (.int .i64 a0.Size), fun _ => [], fun ds_ u_ => [], [], [(0, [])], none⟩, ⟨some 28, some ((padd u1 1)), fun _ => [], fun ds_ u_ => [], [], [(0, [])], none⟩, ⟨some 29, some (.int .i64 a0.Part), fun _ => [], fun ds_ u_ => [], [], [(0, [])], none⟩, ⟨some 30, some (.int .i64 y1), fun _ => [], fun ds_ u_ => [], [], [], none⟩, ⟨some 31, some (.bool ((a0.Have.length : Int) != y1)), fun _ => [], fun ds_ u_ => [], [], [], none⟩, ⟨some 32, some (.bool ((a0.Have.length : Int) != y1)), fun _ => [], fun ds_ u_ => [], [], [], none⟩, ⟨some 33, some (.bool false), fun _ => [], fun ds_ u_ => [], [], [], none⟩, ⟨some 34, some ((padd u1 3)), fun _ => [], fun ds_ u_ => [], [], [(0, [])], none⟩, ⟨some 35, none, fun u_ => [(false, .val (Rep.slice (Rep.int .u8)) u_ a0.Data)], fun ds_ u_ => [], [], [(0, [])], none⟩, ⟨some 36, some (.int .i64 (a0.Data.length : Int)), fun _ => [], fun ds_ u_ => [], [], [], none⟩, ⟨some 37, some ((padd u1 0)), fun _ => [], fun ds_ u_ => [], [], [(0, [])], none⟩, ⟨some 38, some (.int .i64 a0.Size), fun _ => [], fun ds_ u_ => [], [], [(0, [])], none⟩, ⟨some 39, some (.bool ((a0.Data.length : Int) != a0.Size)), fun _ => [], fun ds_ u_ => [], [], [], none⟩, ⟨some 40, some (.bool ((a0.Data.length : Int) != a0.Size)), fun _ => [], fun ds_ u_ => [], [], [], none⟩] [[], [0], [1], [2], [3], [4, 3], [5, 3], [3, 6], [7], [8], [9, 8], [10, 8], [8, 11], [12], [13], [14, 13], [15, 13], [13, 16], [17], [18], [19, 18], [20, 18], [18], [22, 18], [18], [24, 18], [23, 25, 18], [21, 26, 18], [18, 27], [28], [29], [30, 29], [31, 29], [29], [33, 29], [32, 34, 29], [29, 35]] [[(false, .box 28 Download_.rep u1 a0)]] [0, 1, 2, 3, 4, 5, 6, 7, 8, 9, 10, 11, 12, 13, 14, 15, 16, 17, 18, 19, 20, 21, 22, 23, 24, 25, 26, 27, 28, 29, 30, 31, 32, 33, 34, 35, 36, 37] Try_mixed rfl rfl rfl h1 (.cons ?_ (.cons ?_ (.cons ?_ (.cons ?_ (.cons ?_ (.cons ?_ (.cons ?_ (.cons ?_ (.cons ?_ (.cons ?_ (.cons ?_ (.cons ?_ (.cons ?_ (.cons ?_ (.cons ?_ (.cons ?_ (.cons ?_ (.cons ?_ (.cons ?_ (.cons ?_ (.cons ?_ (.cons ?_ (.cons ?_ (.cons ?_ (.cons ?_ (.cons ?_ (.cons ?_ (.cons ?_ (.cons ?_ (.cons ?_ (.cons ?_ (.cons ?_ (.cons ?_ (.cons ?_ (.cons ?_ (.cons ?_ (.cons ?_ .nil))))))))))))))))))))))))))))))))))))) (fun q2 w hq8 h => ?_)
       ·intro q2 w Γx Ωx h
        have h : St e w ([(false, .val Download_.rep v0 a0)] ++ Γx) ([(false, .box 28 Download_.rep u1 a0)] ++ Ωx) := h
        refine OpS.fbox (o3 := 0) h .z PA.z fa28_0 rfl rfl rfl rfl ?_
        exact ⟨undef, rfl, trivial, h⟩
       ·intro q2 w Γx Ωx h
        have h : St e w ([(false, .val Download_.rep v0 a0)] ++ Γx) ([(false, .box 28 Download_.rep u1 a0)] ++ Ωx) := h
        refine OpS.loadBi h .z PA.a (Get.fld Download_.f0) ty3 rfl rfl rfl ?_
        exact ⟨undef, rfl, trivial, h⟩
       ·intro q2 w Γx Ωx h
        refine OpS.bin rfl rfl rfl rfl rfl ?_
        exact ⟨undef, rfl, trivial, h⟩
       ·intro q2 w Γx Ωx h
        refine OpS.mv rfl rfl rfl ?_
        exact ⟨undef, (congrArg (fun z_ => some (Value.bool z_)) e10), trivial, h⟩
       ·intro q2 w Γx Ωx h
        have h : St e w ([(false, .val Download_.rep v0 a0)] ++ Γx) ([(false, .box 28 Download_.rep u1 a0)] ++ Ωx) := h
        refine OpS.fbox (o3 := 0) h .z PA.z fa28_0 rfl rfl rfl rfl ?_
        exact ⟨undef, rfl, trivial, h⟩
       ·intro q2 w Γx Ωx h
        have h : St e w ([(false, .val Download_.rep v0 a0)] ++ Γx) ([(false, .box 28 Download_.rep u1 a0)] ++ Ωx) := h
        refine OpS.loadBi h .z PA.a (Get.fld Download_.f0) ty3 rfl rfl rfl ?_
        exact ⟨undef, rfl, trivial, h⟩
       ·intro q2 w Γx Ωx h
        refine OpS.bin rfl rfl rfl rfl rfl ?_
        exact ⟨undef, rfl, trivial, h⟩
       ·intro q2 w Γx Ωx h
        refine OpS.pick rfl rfl rfl rfl ?_
        exact ⟨undef, rfl, trivial, h⟩
       ·intro q2 w Γx Ωx h
        refine OpS.mv rfl rfl rfl ?_
        exact ⟨undef, (congrArg (fun z_ => some (Value.bool z_)) e12), trivial, h⟩
       ·intro q2 w Γx Ωx h
        have h : St e w ([(false, .val Download_.rep v0 a0)] ++ Γx) ([(false, .box 28 Download_.rep u1 a0)] ++ Ωx) := h
        refine OpS.fbox (o3 := 1) h .z PA.z fa28_1 rfl rfl rfl rfl ?_
        exact ⟨undef, rfl, trivial, h⟩
       ·intro q2 w Γx Ωx h
        have h : St e w ([(false, .val Download_.rep v0 a0)] ++ Γx) ([(false, .box 28 Download_.rep u1 a0)] ++ Ωx) := h
        refine OpS.loadBi h .z PA.a (Get.fld Download_.f1) ty3 rfl rfl rfl ?_
        exact ⟨undef, rfl, trivial, h⟩
       ·intro q2 w Γx Ωx h
        refine OpS.bin rfl rfl rfl rfl rfl ?_
        exact ⟨undef, rfl, trivial, h⟩
       ·intro q2 w Γx Ωx h
        refine OpS.pick rfl rfl rfl rfl ?_
        exact ⟨undef, rfl, trivial, h⟩
       ·intro q2 w Γx Ωx h
        refine OpS.mv rfl rfl rfl ?_
        exact ⟨undef, (congrArg (fun z_ => some (Value.bool z_)) e14), trivial, h⟩
       ·intro q2 w Γx Ωx h
        have h : St e w ([(false, .val Download_.rep v0 a0)] ++ Γx) ([(false, .box 28 Download_.rep u1 a0)] ++ Ωx) := h
        refine OpS.fbox (o3 := 1) h .z PA.z fa28_1 rfl rfl rfl rfl ?_
        exact ⟨undef, rfl, trivial, h⟩
       ·intro q2 w Γx Ωx h
        have h : St e w ([(false, .val Download_.rep v0 a0)] ++ Γx) ([(false, .box 28 Download_.rep u1 a0)] ++ Ωx) := h
        refine OpS.loadBi h .z PA.a (Get.fld Download_.f1) ty3 rfl rfl rfl ?_
        exact ⟨undef, rfl, trivial, h⟩
       ·intro q2 w Γx Ωx h
        refine OpS.bin rfl rfl rfl rfl rfl ?_
        exact ⟨undef, rfl, trivial, h⟩
       ·intro q2 w Γx Ωx h
        refine OpS.pick rfl rfl rfl rfl ?_
        exact ⟨undef, rfl, trivial, h⟩
       ·intro q2 w Γx Ωx h
        refine OpS.mv rfl rfl rfl ?_
        exact ⟨undef, (congrArg (fun z_ => some (Value.bool z_)) e16), trivial, h⟩
       ·intro q2 w Γx Ωx h
        have h : St e w ([(false, .val Download_.rep v0 a0)] ++ Γx) ([(false, .box 28 Download_.rep u1 a0)] ++ Ωx) := h
        refine OpS.fbox (o3 := 2) h .z PA.z fa28_2 rfl rfl rfl rfl ?_
        exact ⟨undef, rfl, trivial, h⟩
       ·intro q2 w Γx Ωx h
        have h : St e w ([(false, .val Download_.rep v0 a0)] ++ Γx) ([(false, .box 28 Download_.rep u1 a0)] ++ Ωx) := h
        refine OpS.loadB h .z PA.a (Get.fld Download_.f2) ty26 rfl rfl rfl (fun u h29 => ?_)
        exact ⟨u, rfl, trivial, h29⟩
       ·intro q2 w Γx Ωx h
        refine OpS.len h Try.underlying26 rfl rfl rfl (V.at .z) ?_
        exact ⟨undef, rfl, trivial, h⟩
       ·intro q2 w Γx Ωx h
        have h : St e w ([(false, .val Download_.rep v0 a0)] ++ Γx) ([(false, .box 28 Download_.rep u1 a0)] ++ Ωx) := h
        refine OpS.fbox (o3 := 0) h .z PA.z fa28_0 rfl rfl rfl rfl ?_
        exact ⟨undef, rfl, trivial, h⟩
       ·intro q2 w Γx Ωx h
        have h : St e w ([(false, .val Download_.rep v0 a0)] ++ Γx) ([(false, .box 28 Download_.rep u1 a0)] ++ Ωx) := h
        refine OpS.loadBi h .z PA.a (Get.fld Download_.f0) ty3 rfl rfl rfl ?_
        exact ⟨undef, rfl, trivial, h⟩
       ·intro q2 w Γx Ωx h
        have h : St e w ([(false, .val Download_.rep v0 a0)] ++ Γx) ([(false, .box 28 Download_.rep u1 a0)] ++ Ωx) := h
        refine OpS.fbox (o3 := 1) h .z PA.z fa28_1 rfl rfl rfl rfl ?_
        exact ⟨undef, rfl, trivial, h⟩
       ·intro q2 w Γx Ωx h
        have h : St e w ([(false, .val Download_.rep v0 a0)] ++ Γx) ([(false, .box 28 Download_.rep u1 a0)] ++ Ωx) := h
        refine OpS.loadBi h .z PA.a (Get.fld Download_.f1) ty3 rfl rfl rfl ?_
        exact ⟨undef, rfl, trivial, h⟩
       ·intro q2 w Γx Ωx h
        refine OpS.callP h Try.func34 rfl rfl rfl rfl (vs := [.int .i64 a0.Size, .int .i64 a0.Part]) rfl (ref30_parts_ok e18) .nil ?_
        rintro _ w7 _ _ _ ⟨rfl, rfl, rfl, rfl⟩ h30
        have h31 := h30 rfl rfl
        simp only [List.cons_append, List.nil_append] at h31
        exact ⟨undef, rfl, trivial, h31⟩
       ·intro q2 w Γx Ωx h
        refine OpS.bin rfl rfl rfl rfl rfl ?_
        exact ⟨undef, rfl, trivial, h⟩
       ·intro q2 w Γx Ωx h
        refine OpS.pick rfl rfl rfl rfl ?_
        exact ⟨undef, rfl, trivial, h⟩
       ·intro q2 w Γx Ωx h
        refine OpS.mv rfl rfl rfl ?_
        exact ⟨undef, (congrArg (fun z_ => some (Value.bool z_)) e19), trivial, h⟩
       ·intro q2 w Γx Ωx h
        have h : St e w ([(false, .val Download_.rep v0 a0)] ++ Γx) ([(false, .box 28 Download_.rep u1 a0)] ++ Ωx) := h
        refine OpS.fbox (o3 := 3) h .z PA.z fa28_3 rfl rfl rfl rfl ?_
        exact ⟨undef, rfl, trivial, h⟩
       ·intro q2 w Γx Ωx h
        have h : St e w ([(false, .val Download_.rep v0 a0)] ++ Γx) ([(false, .box 28 Download_.rep u1 a0)] ++ Ωx) := h
        refine OpS.loadB h .z PA.a (Get.fld Download_.f3) ty22 rfl rfl rfl (fun u h32 => ?_)
        exact ⟨u, rfl, trivial, h32⟩
       ·intro q2 w Γx Ωx h
        refine OpS.len h Try.underlying22 rfl rfl rfl (V.at .z) ?_
        exact ⟨undef, rfl, trivial, h⟩
       ·intro q2 w Γx Ωx h
        have h : St e w ([(false, .val Download_.rep v0 a0)] ++ Γx) ([(false, .box 28 Download_.rep u1 a0)] ++ Ωx) := h
        refine OpS.fbox (o3 := 0) h .z PA.z fa28_0 rfl rfl rfl rfl ?_
        exact ⟨undef, rfl, trivial, h⟩
       ·intro q2 w Γx Ωx h
        have h : St e w ([(false, .val Download_.rep v0 a0)] ++ Γx) ([(false, .box 28 Download_.rep u1 a0)] ++ Ωx) := h
        refine OpS.loadBi h .z PA.a (Get.fld Download_.f0) ty3 rfl rfl rfl ?_
        exact ⟨undef, rfl, trivial, h⟩
       ·intro q2 w Γx Ωx h
        refine OpS.bin rfl rfl rfl rfl rfl ?_
        exact ⟨undef, rfl, trivial, h⟩
       ·intro q2 w Γx Ωx h
        refine OpS.pick rfl rfl rfl rfl ?_
        exact ⟨undef, rfl, trivial, h⟩
       have h33 : St e w [(false, .val (Rep.slice Rep.bool) (q2 20) a0.Have), (false, .val (Rep.slice (Rep.int .u8)) (q2 31) a0.Data), (false, .val Download_.rep v0 a0)] [(false, .box 28 Download_.rep u1 a0)] := h
       refine RunL.nil ?_
       refine Run.slim [(40, .bool ((a0.Data.length : Int) != a0.Size)), (1, u1)] ⟨rfl, rfl, trivial⟩ ?_
       refine Run.slim [(1, u1), (40, .bool ((a0.Data.length : Int) != a0.Size))] ⟨rfl, rfl, trivial⟩ ?_
       exact hj1 ((a0.Data.length : Int) != a0.Size) _ _ ⟨rfl, (h33.facts .nil).picks (.cons .z .nil)⟩ hF
theorem ref30_Copy_ok {fuel : Nat} {a0 : Download_} {y : Download_} (hF : ref30_Copy fuel a0 = some y) {w : World} {v0 : Value} :
  Spec Try.prog 17 [v0].toArray w [(false, .val Download_.rep v0 a0)] [] (fun v Γr Ωr Ωo => ∃ u0 u0_0 u0_1 : Value, v = u0 ∧ Γr = [(true, .val (Rep.iso (fun s : Download_ => (s.Size, s.Part, s.Have, s.Data, ())) (Rep.prod (Rep.int .i64) (Rep.prod (Rep.int .i64) (Rep.prod (Rep.raw u0_0) (Rep.prod (Rep.raw u0_1) Rep.unit))))) u0 y)] ∧ Ωr = [(true, .slice 4 Rep.bool u0_0 y.Have), (true, .slice 5 (Rep.int .u8) u0_1 y.Data)] ∧ Ωo = []) := by
 refine Spec.of (L := [(0, v0)]) Try.func17 rfl ⟨rfl, trivial⟩ rfl (fun e h => ?_)
 unfold ref30_Copy at hF
 refine Run.seq ?_
 refine Run.reg ?_
 refine op (OpS.boxF h rfl rfl rfl (V.at .z) (fun u1 w1 h1 => ?_))
 refine op (OpS.alloc h1 ti28 Download_.zr rfl rfl (fun u2 w2 h2 => ?_))
 refine RunL.nil ?_
 refine Run.slim [(2, u2), (1, u1)] ⟨rfl, rfl, trivial⟩ ?_
 refine Run.seq ?_
 have h3 := h2.picks (.cons (.s .z) (.cons .z .nil))
 obtain ⟨x1, e1, hF⟩ := bindP_use hF
 obtain ⟨x2, e2, hF⟩ := bindP_use hF
 refine Run.drawV (Ωs := [(true, .box 28 Download_.rep u2 Download_.z)]) [⟨some 3, some ((padd u1 2)), fun _ => [], fun ds_ u_ => [], [], [(0, [])], none⟩, ⟨some 4, none, fun u_ => [(false, .val (Rep.slice Rep.bool) u_ a0.Have)], fun ds_ u_ => [], [], [(0, [])], none⟩, ⟨some 5, none, fun u_ => [], fun ds_ u_ => [(true, .slice 4 Rep.bool u_ x1)], [], [], none⟩, ⟨some 6, some ((padd u1 3)), fun _ => [], fun ds_ u_ => [], [], [(0, [])], none⟩, ⟨some 7, none, fun u_ => [(false, .val (Rep.slice (Rep.int .u8)) u_ a0.Data)], fun ds_ u_ => [], [], [(0, [])], none⟩, ⟨some 8, none, fun u_ => [], fun ds_ u_ => [(true, .slice 5 (Rep.int .u8) u_ x2)], [], [], none⟩, ⟨some 9, some ((padd u1 2)), fun _ => [], fun ds_ u_ => [], [], [(0, [])], none⟩] [[], [0], [1], [], [3], [4], []] [[(false, .box 28 Download_.rep u1 a0)]] [0, 1, 2, 3, 4, 5, 6, 7] Try_mixed rfl rfl rfl h3 (.cons ?_ (.cons ?_ (.cons ?_ (.cons ?_ (.cons ?_ (.cons ?_ (.cons ?_ .nil))))))) (fun q1 w hq1 h => ?_)
 ·intro q1 w Γx Ωx h
  have h : St e w ([(false, .val Download_.rep v0 a0)] ++ Γx) ([(false, .box 28 Download_.rep u1 a0), (true, .box 28 Download_.rep u2 Download_.z)] ++ Ωx) := h
  refine OpS.fbox (o3 := 2) h .z PA.z fa28_2 rfl rfl rfl rfl ?_
  exact ⟨undef, rfl, trivial, h⟩
 ·intro q1 w Γx Ωx h
  have h : St e w ([(false, .val Download_.rep v0 a0)] ++ Γx) ([(false, .box 28 Download_.rep u1 a0), (true, .box 28 Download_.rep u2 Download_.z)] ++ Ωx) := h
  refine OpS.loadB h .z PA.a (Get.fld Download_.f2) ty26 rfl rfl rfl (fun u h10 => ?_)
  exact ⟨u, rfl, trivial, h10⟩
 ·intro q1 w Γx Ωx h
  have h11 := St.nil 4 Rep.bool h
  refine OpS.app (f' := false) h11 .z Try.underlying26 ti4 rfl rfl rfl rfl rfl rfl rfl (V.at .z) (.inr Pure.bool) e1 (fun u w5 h12 => ?_)
  exact ⟨u, rfl, trivial, h12⟩
 ·intro q1 w Γx Ωx h
  have h : St e w ([(false, .val Download_.rep v0 a0)] ++ Γx) ([(false, .box 28 Download_.rep u1 a0), (true, .box 28 Download_.rep u2 Download_.z)] ++ Ωx) := h
  refine OpS.fbox (o3 := 3) h .z PA.z fa28_3 rfl rfl rfl rfl ?_
  exact ⟨undef, rfl, trivial, h⟩
 ·intro q1 w Γx Ωx h
  have h : St e w ([(false, .val Download_.rep v0 a0)] ++ Γx) ([(false, .box 28 Download_.rep u1 a0), (true, .box 28 Download_.rep u2 Download_.z)] ++ Ωx) := h
  refine OpS.loadB h .z PA.a (Get.fld Download_.f3) ty22 rfl rfl rfl (fun u h13 => ?_)
  exact ⟨u, rfl, trivial, h13⟩
 ·intro q1 w Γx Ωx h
  have h14 := St.nil 5 (Rep.int .u8) h
  refine OpS.app (f' := false) h14 .z Try.underlying22 ti5 rfl rfl rfl rfl rfl rfl rfl (V.at .z) (.inr Pure.int) e2 (fun u w6 h15 => ?_)
  exact ⟨u, rfl, trivial, h15⟩
 ·intro q1 w Γx Ωx h
  have h : St e w ([(false, .val Download_.rep v0 a0)] ++ Γx) ([(false, .box 28 Download_.rep u1 a0), (true, .box 28 Download_.rep u2 Download_.z)] ++ Ωx) := h
  refine OpS.fbox (o3 := 2) h .z PA.z fa28_2 rfl rfl rfl rfl ?_
  exact ⟨undef, rfl, trivial, h⟩
 have h16 : St e w [(false, .val (Rep.slice Rep.bool) (q1 1) a0.Have), (false, .val (Rep.slice (Rep.int .u8)) (q1 4) a0.Data), (false, .val Download_.rep v0 a0)] [(false, .box 28 Download_.rep u1 a0), (true, .slice 4 Rep.bool (q1 2) x1), (true, .slice 5 (Rep.int .u8) (q1 5) x2), (true, .box 28 Download_.rep u2 Download_.z)] := h
 refine op (OpS.storeC (f' := false) (fr := (Rep.raw (q1 2))) (r' := (Rep.iso (fun s : Download_ => (s.Size, s.Part, s.Have, s.Data, ())) (Rep.prod (Rep.int .i64) (Rep.prod (Rep.int .i64) (Rep.prod (Rep.raw (q1 2)) (Rep.prod (Rep.slice (Rep.int .u8)) Rep.unit)))))) (x' := a0) h16 .z PA.a (Chg.iso _ (Chg.there (Chg.there (Chg.here (Chg.id (by rfl)))))) (Ty.like ty26 (by rfl) (by rfl)) rfl rfl rfl (V.raw (f := false) (St.own1 h16 (.s .z)) a0.Have) (.inr rfl) (fun w7 h17 => ?_))
 refine op (OpS.fbox (o3 := 3) h17 .z PA.z fa28_3 rfl rfl rfl rfl ?_)
 refine op (OpS.storeC (f' := false) (fr := (Rep.raw (q1 5))) (r' := (Rep.iso (fun s : Download_ => (s.Size, s.Part, s.Have, s.Data, ())) (Rep.prod (Rep.int .i64) (Rep.prod (Rep.int .i64) (Rep.prod (Rep.raw (q1 2)) (Rep.prod (Rep.raw (q1 5)) Rep.unit)))))) (x' := a0) h17 .z PA.a (Chg.iso _ (Chg.there (Chg.there (Chg.there (Chg.here (Chg.id (by rfl))))))) (Ty.like ty22 (by rfl) (by rfl)) rfl rfl rfl (V.raw (f := false) (St.own1 h17 (.s (.s .z))) a0.Data) (.inr rfl) (fun w8 h18 => ?_))
 refine RunL.nil ?_
 refine Run.slim [(2, u2), (1, u1)] ⟨rfl, rfl, trivial⟩ ?_
 refine Run.seq ?_
 refine Run.reg ?_
 refine op (OpS.loadB (fr := (Rep.iso (fun s : Download_ => (s.Size, s.Part, s.Have, s.Data, ())) (Rep.prod (Rep.int .i64) (Rep.prod (Rep.int .i64) (Rep.prod (Rep.raw (q1 2)) (Rep.prod (Rep.raw (q1 5)) Rep.unit)))))) h18 .z PA.z (GetS.ok GetS.id) (Ty.like ty28 (by rfl) (by rfl)) rfl rfl rfl (fun u3 h19 => ?_))
 refine op (OpS.storeC (f' := true) (fr := (Rep.iso (fun s : Download_ => (s.Size, s.Part, s.Have, s.Data, ())) (Rep.prod (Rep.int .i64) (Rep.prod (Rep.int .i64) (Rep.prod (Rep.raw (q1 2)) (Rep.prod (Rep.raw (q1 5)) Rep.unit)))))) (r' := (Rep.iso (fun s : Download_ => (s.Size, s.Part, s.Have, s.Data, ())) (Rep.prod (Rep.int .i64) (Rep.prod (Rep.int .i64) (Rep.prod (Rep.raw (q1 2)) (Rep.prod (Rep.raw (q1 5)) Rep.unit)))))) (x' := a0) h19 (.s (.s (.s .z))) PA.z (Chg.id (by rfl)) (Ty.like ty28 (by rfl) (by rfl)) rfl rfl rfl (V.pure (V.at .z) (Pure.iso (Pure.prod Pure.int (Pure.prod Pure.int (Pure.prod Pure.raw (Pure.prod Pure.raw Pure.unit)))))) (.inl rfl) (fun w9 h20 => ?_))
 refine RunL.nil ?_
 refine Run.slim [(2, u2)] ⟨rfl, trivial⟩ ?_
 obtain ⟨u4, hu1, h21⟩ := res_box h20 .z (Ty.like ty28 (by rfl) (by rfl))
 refine Run.retP rfl (.cell rfl hu1 .nil) ?_
 cases hF
 exact Post.mk' ⟨u4, (q1 2), (q1 5), rfl, rfl, rfl, rfl⟩ (h21.picks (.cons (.s (.s .z)) (.cons (.s (.s .z)) .nil))) (.val (V.jn (r := (Rep.iso (fun s : Download_ => (s.Size, s.Part, s.Have, s.Data, ())) (Rep.prod (Rep.int .i64) (Rep.prod (Rep.int .i64) (Rep.prod (Rep.raw (q1 2)) (Rep.prod (Rep.raw (q1 5)) Rep.unit)))))) (x := a0) (x' := { { a0 with Have := x1 } with Data := x2 }) (V.at .z) rfl (fun _ _ _ => (Jn.iso _ (Jn.prod Jn.refl (Jn.prod Jn.refl (Jn.prod Jn.same (Jn.prod Jn.same Jn.refl))))))) .nil)
end Lift
