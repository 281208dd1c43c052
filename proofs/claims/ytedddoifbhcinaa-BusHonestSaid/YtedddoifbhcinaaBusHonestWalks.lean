/- Each Go function computes its plain function. Written by lift.py. -/
import Derived.Test.YtedddoifbhcinaaBusHonestWalksA
set_option linter.unusedVariables false
set_option linter.unusedSimpArgs false
namespace Lift
open Go Go.Proofs
open RunL (op)
theorem made_Dice_Frame_ok {fuel : Nat} {a0 : made_Dice} {y : Frame_ × made_Dice} (hF : made_Dice_Frame fuel a0 = some y) {w : World} {v0 : Value} :
  Spec Try.prog 15 [v0].toArray w [] [(false, .box 81 made_Dice.rep v0 a0)] (fun v Γr Ωr Ωo => ∃ u0 : Value, v = u0 ∧ Γr = [(true, .val Frame_.rep u0 y.1)] ∧ Ωr = [] ∧ Ωo = [(false, .box 81 made_Dice.rep v0 y.2)]) := by
 refine Spec.of (L := [(0, v0)]) Try.func15 rfl ⟨rfl, trivial⟩ rfl (fun e h => ?_)
 unfold made_Dice_Frame at hF
 refine Run.seq ?_
 refine Run.reg ?_
 refine op (OpS.alloc h ti36 Frame_.zr rfl rfl (fun u1 w1 h1 => ?_))
 refine RunL.nil ?_
 refine Run.seq ?_
 refine Run.reg ?_
 refine op (OpS.mv rfl rfl rfl ?_)
 obtain ⟨y1, e1, hF⟩ := bindP_use hF
 have h2 := h1.front (.cons (.s .z) .nil)
 refine op (OpS.callO h2 Try.func32 rfl rfl rfl rfl (vs := [v0, .int .i64 4]) rfl (made_Dice_Next_ok e1) rfl .nil ?_)
 rintro _ w2 _ _ _ ⟨rfl, rfl, rfl, rfl⟩ h3
 have h4 := h3
 simp only [List.cons_append, List.nil_append] at h4
 refine op (OpS.bin rfl rfl rfl rfl rfl ?_)
 refine op (OpS.conv Try.underlying3 Try.underlying5 rfl rfl rfl ?_)
 refine op (OpS.mv rfl rfl rfl ?_)
 obtain ⟨y2, e2, hF⟩ := bindP_use hF
 have h5 := h4.front (.cons .z .nil)
 refine op (OpS.callO h5 Try.func32 rfl rfl rfl rfl (vs := [v0, .int .i64 3]) rfl (made_Dice_Next_ok e2) rfl .nil ?_)
 rintro _ w3 _ _ _ ⟨rfl, rfl, rfl, rfl⟩ h6
 have h7 := h6
 simp only [List.cons_append, List.nil_append] at h7
 refine op (OpS.bin rfl rfl rfl rfl rfl ?_)
 refine op (OpS.conv Try.underlying3 Try.underlying5 rfl rfl rfl ?_)
 refine op (OpS.mv rfl rfl rfl ?_)
 obtain ⟨y3, e3, hF⟩ := bindP_use hF
 have h8 := h7.front (.cons .z .nil)
 refine op (OpS.callO h8 Try.func33 rfl rfl rfl rfl (vs := [v0, .int .i64 6]) rfl (made_Dice_Bytes_ok e3) rfl .nil ?_)
 rintro u2 w4 _ _ _ ⟨_, rfl, rfl, rfl, rfl⟩ h9
 have h10 := h9
 simp only [List.cons_append, List.nil_append] at h10
 have h11 := (h10.pick .z).freeze
 refine op (OpS.build (f := true) (x' := (⟨(IntKind.u8.wrap (IntKind.i64.wrap (8 + y1.1))), (IntKind.u8.wrap (IntKind.i64.wrap (32 + y2.1))), y3.1⟩ : Frame_)) h11 pl36 ti36 Frame_.zr rfl rfl rfl (.cons rfl Frame_.f0 rfl V.int (.cons rfl Frame_.f1 rfl V.int (.cons rfl Frame_.f2 rfl (V.at .z) .nil))) (fun u3 h12 => ?_))
 refine op (OpS.alloc h12 ti36 Frame_.zr rfl rfl (fun u4 w5 h13 => ?_))
 refine op (OpS.storeB (f' := true) h13 .z PA.z Put.id ty36 rfl rfl rfl (V.at .z) (.inl rfl) (fun w6 h14 => ?_))
 refine RunL.nil ?_
 refine Run.slim [(3, u4), (2, u1), (0, v0)] ⟨rfl, rfl, rfl, trivial⟩ ?_
 refine Run.seq ?_
 refine Run.seq ?_
 refine Run.reg ?_
 refine op (OpS.mv rfl rfl rfl ?_)
 obtain ⟨y4, e4, hF⟩ := bindP_use hF
 have h15 := h14.front (.cons (.s .z) .nil)
 refine op (OpS.callO h15 Try.func34 rfl rfl rfl rfl (vs := [v0, .int .i64 30]) rfl (made_Dice_Bool_ok e4) rfl .nil ?_)
 rintro _ w7 _ _ _ ⟨rfl, rfl, rfl, rfl⟩ h16
 have h17 := h16
 simp only [List.cons_append, List.nil_append] at h17
 refine RunL.nil ?_
 refine Run.slim [(16, .bool y4.1), (3, u4), (2, u1)] ⟨rfl, rfl, rfl, trivial⟩ ?_
 refine Run.ite rfl hF (fun e5 hF => ?_) (fun e5 hF => ?_)
 ·
  refine Run.seq ?_
  refine Run.reg ?_
  obtain ⟨x1, e6, hF⟩ := bindP_use hF
  refine op (OpS.make h17 Try.underlying34 ti5 rfl rfl (Zr.int .u8 0) rfl rfl rfl rfl e6 (by simp) (mk_fits e6) rfl (fun u5 w8 h18 => ?_))
  refine op (OpS.fbox (o3 := 2) h18 (.s (.s .z)) PA.z fa36_2 rfl rfl rfl rfl ?_)
  refine op (OpS.storeC (f' := true) (fr := (Rep.raw u5)) (r' := (Rep.iso (fun s : Frame_ => (s.To, s.From, s.Data, ())) (Rep.prod (Rep.int .u8) (Rep.prod (Rep.int .u8) (Rep.prod (Rep.raw (α := List Int) u5) Rep.unit))))) (x' := (⟨(IntKind.u8.wrap (IntKind.i64.wrap (8 + y1.1))), (IntKind.u8.wrap (IntKind.i64.wrap (32 + y2.1))), y3.1⟩ : Frame_)) h18 (.s (.s .z)) PA.a (Chg.iso _ (Chg.there (Chg.there (Chg.here (Chg.id (by rfl)))))) (Ty.like ty34 (by rfl) (by rfl)) rfl rfl rfl (V.raw (f := true) (St.own1 h18 .z) ((⟨(IntKind.u8.wrap (IntKind.i64.wrap (8 + y1.1))), (IntKind.u8.wrap (IntKind.i64.wrap (32 + y2.1))), y3.1⟩ : Frame_).Data)) (.inl rfl) (fun w9 h19 => ?_))
  refine RunL.nil ?_
  refine Run.slim [(3, u4), (2, u1)] ⟨rfl, rfl, trivial⟩ ?_
  refine Run.reg ?_
  refine op (OpS.fbox (o3 := 0) h19 .z PA.z fa36_0 rfl rfl rfl rfl ?_)
  obtain ⟨d1, e7, hF⟩ := letP_use hF
  refine op (OpS.storeC (f' := true) (fr := (Rep.int .u8)) (r' := (Rep.iso (fun s : Frame_ => (s.To, s.From, s.Data, ())) (Rep.prod (Rep.int .u8) (Rep.prod (Rep.int .u8) (Rep.prod (Rep.raw (α := List Int) u5) Rep.unit))))) (x' := d1) h19 .z PA.a (Chg.of (x' := { (⟨(IntKind.u8.wrap (IntKind.i64.wrap (8 + y1.1))), (IntKind.u8.wrap (IntKind.i64.wrap (32 + y2.1))), y3.1⟩ : Frame_) with To := 119 }) (Chg.iso _ (Chg.here (Chg.id (by rfl)))) e7) ty5 rfl rfl rfl V.int (.inl rfl) (fun w10 h20 => ?_))
  refine RunL.nil ?_
  refine Run.slim [(3, u4), (2, u1)] ⟨rfl, rfl, trivial⟩ ?_
  refine Run.seq ?_
  refine Run.reg ?_
  refine op (OpS.loadB (fr := (Rep.iso (fun s : Frame_ => (s.To, s.From, s.Data, ())) (Rep.prod (Rep.int .u8) (Rep.prod (Rep.int .u8) (Rep.prod (Rep.raw (α := List Int) u5) Rep.unit))))) h20 .z PA.z (GetS.ok GetS.id) (Ty.like ty36 (by rfl) (by rfl)) rfl rfl rfl (fun u6 h21 => ?_))
  refine op (OpS.storeC (f' := true) (fr := (Rep.iso (fun s : Frame_ => (s.To, s.From, s.Data, ())) (Rep.prod (Rep.int .u8) (Rep.prod (Rep.int .u8) (Rep.prod (Rep.raw (α := List Int) u5) Rep.unit))))) (r' := (Rep.iso (fun s : Frame_ => (s.To, s.From, s.Data, ())) (Rep.prod (Rep.int .u8) (Rep.prod (Rep.int .u8) (Rep.prod (Rep.raw (α := List Int) u5) Rep.unit))))) (x' := d1) h21 (.s (.s (.s .z))) PA.z (Chg.id (by rfl)) (Ty.like ty36 (by rfl) (by rfl)) rfl rfl rfl (V.at .z) (.inl rfl) (fun w11 h22 => ?_))
  refine RunL.nil ?_
  refine Run.slim [(2, u1)] ⟨rfl, trivial⟩ ?_
  obtain ⟨u7, hu1, h23⟩ := res_box h22 .z (Ty.like ty36 (by rfl) (by rfl))
  have h24 := (h23.pick (.s (.s .z))).freeze
  have h25 := h24.pick .z
  have h26 := St.boxJ (r' := Frame_.rep) (x' := { d1 with Data := x1 }) h25 (fun _ _ hs_ => (Jn.iso _ (Jn.prod Jn.refl (Jn.prod Jn.refl (Jn.prod (Jn.raw ((V.at .z) _ _ hs_) rfl) Jn.refl)))))
  have h27 := h26.pick (.s .z)
  have h28 := St.boxJ (r' := Frame_.rep) (x' := { d1 with Data := x1 }) h27 (fun _ _ hs_ => (Jn.iso _ (Jn.prod Jn.refl (Jn.prod Jn.refl (Jn.prod (Jn.raw ((V.at .z) _ _ hs_) rfl) Jn.refl)))))
  have h29 := St.addV (f := true) (r := Frame_.rep) (x := { d1 with Data := x1 }) h28 (V.jn (r := (Rep.iso (fun s : Frame_ => (s.To, s.From, s.Data, ())) (Rep.prod (Rep.int .u8) (Rep.prod (Rep.int .u8) (Rep.prod (Rep.raw (α := List Int) u5) Rep.unit))))) (x := d1) (V.at (.s .z)) rfl (fun _ _ hs_ => (Jn.iso _ (Jn.prod Jn.refl (Jn.prod Jn.refl (Jn.prod (Jn.raw ((V.at .z) _ _ hs_) rfl) Jn.refl))))))
  refine Run.retP rfl (.cell rfl hu1 .nil) ?_
  cases hF
  exact Post.mk' ⟨u7, rfl, rfl, rfl, rfl⟩ (h29.picks (.cons (.s (.s .z)) .nil)) (.val (V.at .z) .nil)
 ·
  refine Run.skip ?_
  refine Run.seq ?_
  refine Run.reg ?_
  refine op (OpS.loadB h17 (.s .z) PA.z Get.id ty36 rfl rfl rfl (fun u8 h30 => ?_))
  refine op (OpS.storeB (f' := true) h30 (.s (.s .z)) PA.z Put.id ty36 rfl rfl rfl (V.at .z) (.inl rfl) (fun w12 h31 => ?_))
  refine RunL.nil ?_
  refine Run.slim [(2, u1)] ⟨rfl, trivial⟩ ?_
  obtain ⟨u9, hu2, h32⟩ := res_box h31 .z ty36
  refine Run.retP rfl (.cell rfl hu2 .nil) ?_
  cases hF
  exact Post.mk' ⟨u9, rfl, rfl, rfl, rfl⟩ (h32.picks (.cons (.s .z) .nil)) (.val (V.at .z) .nil)
theorem law21_fault_ok {fuel : Nat} {a0 : Fault_} {y : Fault_} (hF : law21_fault fuel a0 = some y) {w : World} {v0 : Value} :
  Spec Try.prog 19 [v0].toArray w [(false, .val Fault_.rep v0 a0)] [] (fun v Γr Ωr Ωo => ∃ u0 : Value, v = u0 ∧ Γr = [(false, .val Fault_.rep u0 y)] ∧ Ωr = [] ∧ Ωo = []) := by
 refine Spec.of (L := [(0, v0)]) Try.func19 rfl ⟨rfl, trivial⟩ rfl (fun e h => ?_)
 unfold law21_fault at hF
 refine Run.seq ?_
 refine Run.reg ?_
 refine op (OpS.boxF h rfl rfl rfl (V.at .z) (fun u1 w1 h1 => ?_))
 refine op (OpS.alloc h1 ti38 Fault_.zr rfl rfl (fun u2 w2 h2 => ?_))
 refine RunL.nil ?_
 refine Run.slim [(2, u2), (1, u1)] ⟨rfl, rfl, trivial⟩ ?_
 refine Run.seq ?_
 refine Run.seq ?_
 refine Run.reg ?_
 refine op (OpS.fbox (o3 := 1) h2 (.s .z) PA.z fa38_1 rfl rfl rfl rfl ?_)
 refine op (OpS.loadBi h2 (.s .z) PA.a (Get.fld Fault_.f1) ty3 rfl rfl rfl ?_)
 refine op (OpS.rem rfl rfl rfl rfl (by decide) ?_)
 refine op (OpS.bin rfl rfl rfl rfl rfl ?_)
 refine RunL.nil ?_
 refine Run.slim [(6, .bool ((Int.tmod a0.Index 5) != 0)), (2, u2), (1, u1)] ⟨rfl, rfl, rfl, trivial⟩ ?_
 refine Run.ite rfl hF (fun e1 hF => ?_) (fun e1 hF => ?_)
 ·
  refine Run.seq ?_
  refine Run.reg ?_
  refine op (OpS.fbox (o3 := 0) h2 (.s .z) PA.z fa38_0 rfl rfl rfl rfl ?_)
  refine op (OpS.loadBi h2 (.s .z) PA.a (Get.fld Fault_.f0) ty3 rfl rfl rfl ?_)
  obtain ⟨y1, e2, hF⟩ := bindP_use hF
  refine op (OpS.callP h2 Try.func13 rfl rfl rfl rfl (vs := [.int .i64 a0.Kind, .int .i64 3]) rfl (made_Mod_ok e2) .nil ?_)
  rintro _ w3 _ _ _ ⟨rfl, rfl, rfl, rfl⟩ h3
  have h4 := h3 rfl rfl
  simp only [List.cons_append, List.nil_append] at h4
  refine op (OpS.fbox (o3 := 0) h4 (.s .z) PA.z fa38_0 rfl rfl rfl rfl ?_)
  obtain ⟨d1, e3, hF⟩ := letP_use hF
  refine op (OpS.storeB (f' := true) h4 (.s .z) PA.a (Put.of (Put.fld Fault_.f0) e3) ty3 rfl rfl rfl V.int (.inr rfl) (fun w4 h5 => ?_))
  refine RunL.nil ?_
  refine Run.slim [(2, u2), (1, u1)] ⟨rfl, rfl, trivial⟩ ?_
  refine Run.reg ?_
  refine op (OpS.fbox (o3 := 1) h5 .z PA.z fa38_1 rfl rfl rfl rfl ?_)
  refine op (OpS.loadBi h5 .z PA.a (Get.fld Fault_.f1) ty3 rfl rfl rfl ?_)
  obtain ⟨y2, e4, hF⟩ := bindP_use hF
  refine op (OpS.callP h5 Try.func13 rfl rfl rfl rfl (vs := [.int .i64 d1.Index, .int .i64 12]) rfl (made_Mod_ok e4) .nil ?_)
  rintro _ w5 _ _ _ ⟨rfl, rfl, rfl, rfl⟩ h6
  have h7 := h6 rfl rfl
  simp only [List.cons_append, List.nil_append] at h7
  refine op (OpS.fbox (o3 := 1) h7 .z PA.z fa38_1 rfl rfl rfl rfl ?_)
  obtain ⟨d2, e5, hF⟩ := letP_use hF
  refine op (OpS.storeB (f' := true) h7 .z PA.a (Put.of (Put.fld Fault_.f1) e5) ty3 rfl rfl rfl V.int (.inr rfl) (fun w6 h8 => ?_))
  refine RunL.nil ?_
  refine Run.slim [(2, u2), (1, u1)] ⟨rfl, rfl, trivial⟩ ?_
  refine Run.seq ?_
  refine Run.reg ?_
  refine op (OpS.loadB h8 .z PA.z Get.id ty38 rfl rfl rfl (fun u3 h9 => ?_))
  have h10 := (h9.pick (.s .z)).weak
  refine op (OpS.storeB (f' := false) h10 .z PA.z Put.id ty38 rfl rfl rfl (V.at .z) (.inr rfl) (fun w7 h11 => ?_))
  refine RunL.nil ?_
  refine Run.slim [(2, u2)] ⟨rfl, trivial⟩ ?_
  obtain ⟨u4, hu1, h12⟩ := res_box h11 .z ty38
  refine Run.retP rfl (.cell rfl hu1 .nil) ?_
  cases hF
  exact Post.mk' ⟨u4, rfl, rfl, rfl, rfl⟩ (h12.picks .nil) (.val (V.at .z) .nil)
 ·
  refine Run.skip ?_
  refine Run.seq ?_
  refine Run.reg ?_
  refine op (OpS.loadB h2 (.s .z) PA.z Get.id ty38 rfl rfl rfl (fun u5 h13 => ?_))
  have h14 := (h13.pick .z).weak
  refine op (OpS.storeB (f' := false) h14 .z PA.z Put.id ty38 rfl rfl rfl (V.at .z) (.inr rfl) (fun w8 h15 => ?_))
  refine RunL.nil ?_
  refine Run.slim [(2, u2)] ⟨rfl, trivial⟩ ?_
  obtain ⟨u6, hu2, h16⟩ := res_box h15 .z ty38
  refine Run.retP rfl (.cell rfl hu2 .nil) ?_
  cases hF
  exact Post.mk' ⟨u6, rfl, rfl, rfl, rfl⟩ (h16.picks .nil) (.val (V.at .z) .nil)
theorem ref01_Same_ok {fuel : Nat} {a0 : List Int} {a1 : List Int} {y : Bool} (hF : ref01_Same fuel a0 a1 = some y) {w : World} {v0 v1 : Value} :
  Spec Try.prog 26 [v0, v1].toArray w [(false, .val (Rep.slice (Rep.int .u8)) v0 a0), (false, .val (Rep.slice (Rep.int .u8)) v1 a1)] [] (fun v Γr Ωr Ωo => v = .bool y ∧ Γr = [] ∧ Ωr = [] ∧ Ωo = []) := by
 refine Spec.of (L := [(0, v0), (1, v1)]) Try.func26 rfl ⟨rfl, rfl, trivial⟩ rfl (fun e h => ?_)
 unfold ref01_Same at hF
 refine Run.seq ?_
 refine Run.reg ?_
 refine op (OpS.as rfl rfl rfl ?_)
 refine RunL.nil ?_
 refine Run.slim [(0, v0), (1, v1)] ⟨rfl, rfl, trivial⟩ ?_
 refine Run.seq ?_
 refine Run.seq ?_
 refine Run.reg ?_
 refine op (OpS.mv rfl rfl rfl ?_)
 refine op (OpS.len h Try.underlying34 rfl rfl rfl (V.at .z) ?_)
 refine op (OpS.mv rfl rfl rfl ?_)
 refine op (OpS.len h Try.underlying34 rfl rfl rfl (V.at (.s .z)) ?_)
 refine op (OpS.bin rfl rfl rfl rfl rfl ?_)
 refine RunL.nil ?_
 refine Run.slim [(10, .bool ((a0.length : Int) != (a1.length : Int))), (0, v0), (1, v1)] ⟨rfl, rfl, rfl, trivial⟩ ?_
 refine Run.ite rfl hF (fun e1 hF => ?_) (fun e1 hF => ?_)
 ·
  refine Run.seq ?_
  refine Run.reg ?_
  refine op (OpS.as rfl rfl rfl ?_)
  refine RunL.nil ?_
  refine Run.slim [(4, .bool false)] ⟨rfl, trivial⟩ ?_
  refine Run.retP rfl (.tmp rfl .nil) ?_
  cases hF
  exact Post.mk' ⟨rfl, rfl, rfl, rfl⟩ (h.picks .nil) .nil
 ·
  refine Run.skip ?_
  refine Run.seq ?_
  refine Run.seq ?_
  refine Run.reg ?_
  refine op (OpS.as rfl rfl rfl ?_)
  refine RunL.nil ?_
  refine Run.slim [(5, .int .i64 0), (0, v0), (1, v1)] ⟨rfl, rfl, rfl, trivial⟩ ?_
  refine Run.block ?_
  refine Run.slim [(0, v0), (1, v1), (5, .int .i64 0)] ⟨rfl, rfl, rfl, trivial⟩ ?_
  refine Run.loopP (σ := Int) (fun s_ L_ w_ => L_ = [(0, v0), (1, v1), (5, .int .i64 s_)] ∧ St e w_ [(false, .val (Rep.slice (Rep.int .u8)) v0 a0), (false, .val (Rep.slice (Rep.int .u8)) v1 a1)] []) hF ⟨rfl, (h.facts (.atm .z (.atm (.s .z) .nil))).picks .nil⟩ (fun k1 hk1 s1 _ w1 hI hF => ?_)
  obtain ⟨rfl, h1⟩ := hI
  refine Run.seq ?_
  refine Run.seq ?_
  refine Run.reg ?_
  refine op (OpS.mv rfl rfl rfl ?_)
  refine op (OpS.mv rfl rfl rfl ?_)
  refine op (OpS.len h1 Try.underlying34 rfl rfl rfl (V.at .z) ?_)
  refine op (OpS.bin rfl rfl rfl rfl rfl ?_)
  refine RunL.nil ?_
  refine Run.slim [(14, .bool (decide (s1 < (a0.length : Int)))), (0, v0), (1, v1), (5, .int .i64 s1)] ⟨rfl, rfl, rfl, rfl, trivial⟩ ?_
  refine Run.ite rfl hF (fun e2 hF => ?_) (fun e2 hF => ?_)
  ·
   refine Run.skip ?_
   refine Run.seq ?_
   refine Run.block ?_
   refine Run.seq ?_
   obtain ⟨x1, e3, hF⟩ := bindP_use hF
   obtain ⟨x2, e4, hF⟩ := bindP_use hF
   refine Run.drawV (Ωs := []) [⟨some 17, some (v0), fun _ => [], fun ds_ u_ => [], [], [], none⟩, ⟨some 18, some (.int .i64 s1), fun _ => [], fun ds_ u_ => [], [], [], none⟩, ⟨some 19, none, fun u_ => [(false, .ptr (Rep.int .u8) u_ x1)], fun ds_ u_ => [], [], [], none⟩, ⟨some 20, some (.int .u8 x1), fun _ => [], fun ds_ u_ => [], [], [], none⟩, ⟨some 21, some (v1), fun _ => [], fun ds_ u_ => [], [], [], none⟩, ⟨some 22, some (.int .i64 s1), fun _ => [], fun ds_ u_ => [], [], [], none⟩, ⟨some 23, none, fun u_ => [(false, .ptr (Rep.int .u8) u_ x2)], fun ds_ u_ => [], [], [], none⟩, ⟨some 24, some (.int .u8 x2), fun _ => [], fun ds_ u_ => [], [], [], none⟩, ⟨some 25, some (.bool (x1 != x2)), fun _ => [], fun ds_ u_ => [], [], [], none⟩] [[], [], [0, 1], [2], [], [], [4, 5], [6], [3, 7]] [] [0, 1, 2, 3, 4, 5, 6, 7, 8] Try_mixed rfl rfl rfl h1 (.cons ?_ (.cons ?_ (.cons ?_ (.cons ?_ (.cons ?_ (.cons ?_ (.cons ?_ (.cons ?_ (.cons ?_ .nil))))))))) (fun q1 w hq1 h => ?_)
   ·intro q1 w Γx Ωx h
    refine OpS.mv rfl rfl rfl ?_
    exact ⟨undef, rfl, trivial, h⟩
   ·intro q1 w Γx Ωx h
    refine OpS.mv rfl rfl rfl ?_
    exact ⟨undef, rfl, trivial, h⟩
   ·intro q1 w Γx Ωx h
    refine OpS.iptr h Try.underlying34 ty5 rfl rfl rfl rfl (V.at .z) e3 (fun u h4 => ?_)
    exact ⟨u, rfl, trivial, h4⟩
   ·intro q1 w Γx Ωx h
    refine OpS.loadi h ty5 rfl rfl rfl .z ?_
    exact ⟨undef, rfl, trivial, h⟩
   ·intro q1 w Γx Ωx h
    refine OpS.mv rfl rfl rfl ?_
    exact ⟨undef, rfl, trivial, h⟩
   ·intro q1 w Γx Ωx h
    refine OpS.mv rfl rfl rfl ?_
    exact ⟨undef, rfl, trivial, h⟩
   ·intro q1 w Γx Ωx h
    refine OpS.iptr h Try.underlying34 ty5 rfl rfl rfl rfl (V.at (.s .z)) e4 (fun u h5 => ?_)
    exact ⟨u, rfl, trivial, h5⟩
   ·intro q1 w Γx Ωx h
    refine OpS.loadi h ty5 rfl rfl rfl .z ?_
    exact ⟨undef, rfl, trivial, h⟩
   ·intro q1 w Γx Ωx h
    refine OpS.bin rfl rfl rfl rfl rfl ?_
    exact ⟨undef, rfl, trivial, h⟩
   have h6 : St e w [(false, .ptr (Rep.int .u8) (q1 2) x1), (false, .ptr (Rep.int .u8) (q1 6) x2), (false, .val (Rep.slice (Rep.int .u8)) v0 a0), (false, .val (Rep.slice (Rep.int .u8)) v1 a1)] [] := h
   refine RunL.nil ?_
   refine Run.slim [(25, .bool (x1 != x2)), (0, v0), (1, v1), (5, .int .i64 s1)] ⟨rfl, rfl, rfl, rfl, trivial⟩ ?_
   refine Run.ite rfl hF (fun e5 hF => ?_) (fun e5 hF => ?_)
   ·
    refine Run.seq ?_
    refine Run.reg ?_
    refine op (OpS.as rfl rfl rfl ?_)
    refine RunL.nil ?_
    refine Run.slim [(4, .bool false)] ⟨rfl, trivial⟩ ?_
    refine Run.retP rfl (.tmp rfl .nil) ?_
    cases hF
    exact Post.mk' ⟨rfl, rfl, rfl, rfl⟩ (h6.picks .nil) .nil
   ·
    refine Run.skip ?_
    refine Run.endBlock ?_
    refine Run.reg ?_
    refine op (OpS.mv rfl rfl rfl ?_)
    refine op (OpS.bin rfl rfl rfl rfl rfl ?_)
    refine op (OpS.as rfl rfl rfl ?_)
    obtain ⟨x3, e6, hF⟩ := letP_use hF
    refine RunL.name e6 ?_
    refine RunL.nil ?_
    refine Run.slim [(5, .int .i64 x3), (0, v0), (1, v1)] ⟨rfl, rfl, rfl, trivial⟩ ?_
    refine Run.slim [(0, v0), (1, v1), (5, .int .i64 x3)] ⟨rfl, rfl, rfl, trivial⟩ ?_
    exact hk1 (x3) _ _ ⟨rfl, (h6.facts (.atm (.s (.s .z)) (.atm (.s (.s (.s .z))) .nil))).picks .nil⟩ hF
  ·
   refine Run.exit rfl ?_
   refine Run.seq ?_
   refine Run.reg ?_
   refine op (OpS.as rfl rfl rfl ?_)
   refine RunL.nil ?_
   refine Run.slim [(4, .bool true)] ⟨rfl, trivial⟩ ?_
   refine Run.retP rfl (.tmp rfl .nil) ?_
   cases hF
   exact Post.mk' ⟨rfl, rfl, rfl, rfl⟩ (h1.picks .nil) .nil
theorem made_Light_ok {fuel : Nat} {a0 : List Int} {y : Bool} (hF : made_Light fuel a0 = some y) {w : World} {v0 : Value} :
  Spec Try.prog 24 [v0].toArray w [(false, .val (Rep.slice (Rep.int .i64)) v0 a0)] [] (fun v Γr Ωr Ωo => v = .bool y ∧ Γr = [] ∧ Ωr = [] ∧ Ωo = []) := by
 refine Spec.of (L := [(0, v0)]) Try.func24 rfl ⟨rfl, trivial⟩ rfl (fun e h => ?_)
 unfold made_Light at hF
 refine Run.seq ?_
 refine Run.reg ?_
 refine op (OpS.as rfl rfl rfl ?_)
 refine RunL.nil ?_
 refine Run.slim [(0, v0)] ⟨rfl, trivial⟩ ?_
 refine Run.seq ?_
 refine Run.reg ?_
 refine op (OpS.mv rfl rfl rfl ?_)
 refine op (OpS.len h Try.underlying33 rfl rfl rfl (V.at .z) ?_)
 refine op (OpS.bin rfl rfl rfl rfl rfl ?_)
 refine op (OpS.as rfl rfl rfl ?_)
 obtain ⟨x1, e1, hF⟩ := letP_use hF
 refine RunL.nameb e1 ?_
 refine RunL.nil ?_
 refine Run.slim [(2, .bool x1)] ⟨rfl, trivial⟩ ?_
 refine Run.retP rfl (.tmp rfl .nil) ?_
 cases hF
 exact Post.mk' ⟨rfl, rfl, rfl, rfl⟩ (h.picks .nil) .nil
set_option maxHeartbeats 8000000 in
theorem law21_loaded_ok {fuel : Nat} {a0 : Int} {a1 : List Int} {y : (Option bus_Bus) × (List (List (List Int))) × Bool} (hF : law21_loaded fuel a0 a1 = some y) {w : World} {v1 : Value} :
  Spec Try.prog 25 [.int .i64 a0, v1].toArray w [(false, .val (Rep.slice (Rep.int .i64)) v1 a1)] [] (fun v Γr Ωr Ωo => ∃ u0 u1 : Value, v = .tuple #[u0, u1, .bool y.2.2] ∧ Γr = [] ∧ Ωr = [(false, .opt (fun x_ => .ex fun v_ => .sep (.box 76 (Rep.iso (fun s : bus_Bus => (s.masters, ())) (Rep.prod (Rep.raw (α := List bus_master) v_) Rep.unit)) u0 x_) (.oval (oslice 85 3 (fun _ => bus_master.orep)) v_ x_.masters)) u0 y.1), (true, (.oval (oslice 59 1 (fun _ => Nest_ssuint8.orep)) u1 y.2.1))] ∧ Ωo = []) := by
 refine Spec.of (L := [(0, .int .i64 a0), (1, v1)]) Try.func25 rfl ⟨rfl, rfl, trivial⟩ rfl (fun e h => ?_)
 unfold law21_loaded at hF
 refine Run.seq ?_
 refine Run.reg ?_
 refine op (OpS.as rfl rfl rfl ?_)
 refine op (OpS.as rfl rfl rfl ?_)
 refine op (OpS.as rfl rfl rfl ?_)
 refine RunL.nil ?_
 refine Run.slim [(0, .int .i64 a0), (1, v1)] ⟨rfl, rfl, trivial⟩ ?_
 refine Run.seq ?_
 refine Run.reg ?_
 refine op (OpS.mv rfl rfl rfl ?_)
 obtain ⟨y1, e1, hF⟩ := bindP_use hF
 refine op (OpS.callP h Try.func11 rfl rfl rfl rfl (vs := [.int .i64 a0]) rfl (bus_New_ok e1) .nil ?_)
 rintro _ w1 _ _ _ ⟨u1, rfl, rfl, rfl, rfl⟩ h1
 have h2 := h1 rfl rfl
 simp only [List.cons_append, List.nil_append] at h2
 refine op (OpS.mv rfl rfl rfl ?_)
 refine op (OpS.ext rfl rfl rfl rfl ?_)
 refine op (OpS.ext rfl rfl rfl rfl ?_)
 refine op (OpS.as rfl rfl rfl ?_)
 refine op (OpS.as rfl rfl rfl ?_)
 refine RunL.nil ?_
 refine Run.slim [(8, .int .i64 y1.2), (7, u1), (0, .int .i64 a0), (1, v1)] ⟨rfl, rfl, rfl, rfl, trivial⟩ ?_
 refine Run.seq ?_
 refine Run.seq ?_
 refine Run.reg ?_
 refine op (OpS.mv rfl rfl rfl ?_)
 refine op (OpS.onilE h2 .z (fun _ G_ S_ w_ h_ => ptr_one1 G_ S_ w_ h_) Try.underlying25 rfl rfl rfl rfl ?_)
 refine op (OpS.mv rfl rfl rfl ?_)
 refine RunL.join (σ := Bool) (fun s_ L_ w_ => L_ = [(0, .int .i64 a0), (1, v1), (7, u1), (26, .bool s_)] ∧ St e w_ [(false, .val (Rep.slice (Rep.int .i64)) v1 a1)] [(true, .opt (fun x_ => .ex fun v_ => .sep (.box 76 (Rep.iso (fun s : bus_Bus => (s.masters, ())) (Rep.prod (Rep.raw (α := List bus_master) v_) Rep.unit)) u1 x_) (.oval (oslice 85 3 (fun _ => bus_master.orep)) v_ x_.masters)) u1 y1.1)]) hF (fun s1 _ w2 hI hF => ?_) (fun j1 hj1 hF => ?_)
 ·
  obtain ⟨rfl, h3⟩ := hI
  refine Run.ite rfl hF (fun e2 hF => ?_) (fun e2 hF => ?_)
  ·
   refine Run.seq ?_
   refine Run.reg ?_
   refine op (OpS.as rfl rfl rfl ?_)
   refine op (OpS.as rfl rfl rfl ?_)
   refine op (OpS.as rfl rfl rfl ?_)
   refine RunL.nil ?_
   refine Run.slim [(6, .bool false), (5, .slice none 0 0), (4, .pointer none)] ⟨rfl, rfl, rfl, trivial⟩ ?_
   have h4 := St.none (fun x_ => .ex fun v_ => .sep (.box 76 (Rep.iso (fun s : bus_Bus => (s.masters, ())) (Rep.prod (Rep.raw (α := List bus_master) v_) Rep.unit)) (.pointer none) x_) (.oval (oslice 85 3 (fun _ => bus_master.orep)) v_ x_.masters)) h3
   have h5 := (h4.pick .z).weak
   have h6 := St.nilD 59 1 (fun _ => Nest_ssuint8.orep) h5
   refine Run.retP rfl (.tmp rfl (.tmp rfl (.tmp rfl .nil))) ?_
   cases hF
   exact Post.mk' ⟨(.pointer none), (.slice none 0 0), rfl, rfl, rfl, rfl⟩ (h6.picks (.cons (.s .z) (.cons .z .nil))) .nil
  ·
   refine Run.skip ?_
   refine Run.seq ?_
   refine Run.reg ?_
   refine op (OpS.mv rfl rfl rfl ?_)
   obtain ⟨y2, e3, hF⟩ := bindP_use hF
   have h7 := h3.front .nil
   refine op (OpS.callO h7 Try.func14 rfl rfl rfl rfl (vs := [v1]) rfl (made_Roll_ok e3) rfl (.cons (f := false) (V.at .z) .nil) ?_)
   rintro u2 w3 _ _ _ ⟨_, rfl, rfl, rfl, rfl⟩ h8
   have h9 := h8
   simp only [List.cons_append, List.nil_append] at h9
   refine op (OpS.as rfl rfl rfl ?_)
   refine RunL.nil ?_
   refine Run.slim [(9, u2), (0, .int .i64 a0), (7, u1)] ⟨rfl, rfl, rfl, trivial⟩ ?_
   refine Run.seq ?_
   refine Run.reg ?_
   refine op (OpS.mv rfl rfl rfl ?_)
   obtain ⟨x1, e4, hF⟩ := bindP_use hF
   refine op (OpS.make (r := (Rep.raw (α := List (List Int)) (.slice none 0 0))) h9 Try.underlying54 ti59 rfl rfl (Zr.raw rfl ([] : List (List Int))) rfl rfl rfl rfl e4 (by simp) (mk_fits e4) rfl (fun u3 w4 h10 => ?_))
   have h11 := St.upD (r := Nest_ssuint8.orep) h10 rfl (fun x_ hx_ => by obtain ⟨_, _, rfl⟩ := mk_some e4; rw [List.eq_of_mem_replicate hx_]; exact Nest_ssuint8.joW Jo.nil)
   refine op (OpS.as rfl rfl rfl ?_)
   refine RunL.nil ?_
   refine Run.slim [(10, u3), (9, u2), (0, .int .i64 a0), (7, u1)] ⟨rfl, rfl, rfl, rfl, trivial⟩ ?_
   refine Run.seq ?_
   refine Run.seq ?_
   refine Run.reg ?_
   refine op (OpS.as rfl rfl rfl ?_)
   refine RunL.nil ?_
   refine Run.block ?_
   have h12 := (h11.pick (.s (.s .z))).weak
   refine Run.slim [(0, .int .i64 a0), (7, u1), (9, u2), (10, u3), (11, .int .i64 0)] ⟨rfl, rfl, rfl, rfl, rfl, trivial⟩ ?_
   refine Run.loopP (σ := (Int × made_Dice × (List (List (List Int))) × (Option bus_Bus))) (fun s_ L_ w_ => ∃ u0_ : Value, L_ = [(0, .int .i64 a0), (7, u0_), (9, u2), (10, u3), (11, .int .i64 s_.1)] ∧ St e w_ [] [(false, .box 81 made_Dice.rep u2 s_.2.1), (true, .oval (oslice 59 1 (fun _ => Nest_ssuint8.orep)) u3 s_.2.2.1), (false, .opt (fun x_ => .ex fun v_ => .sep (.box 76 (Rep.iso (fun s : bus_Bus => (s.masters, ())) (Rep.prod (Rep.raw (α := List bus_master) v_) Rep.unit)) u0_ x_) (.oval (oslice 85 3 (fun _ => bus_master.orep)) v_ x_.masters)) u0_ s_.2.2.2)]) hF ⟨u1, rfl, (h12.facts .nil).picks (.cons (.s (.s .z)) (.cons (.s .z) (.cons .z .nil)))⟩ (fun k1 hk1 s2 _ w5 hI hF => ?_)
   obtain ⟨u4, rfl, h13⟩ := hI
   refine Run.seq ?_
   refine Run.seq ?_
   refine Run.reg ?_
   refine op (OpS.mv rfl rfl rfl ?_)
   refine op (OpS.mv rfl rfl rfl ?_)
   refine op (OpS.bin rfl rfl rfl rfl rfl ?_)
   refine RunL.nil ?_
   refine Run.slim [(33, .bool (decide (s2.1 < a0))), (0, .int .i64 a0), (7, u4), (9, u2), (10, u3), (11, .int .i64 s2.1)] ⟨rfl, rfl, rfl, rfl, rfl, rfl, trivial⟩ ?_
   refine Run.ite rfl hF (fun e5 hF => ?_) (fun e5 hF => ?_)
   ·
    refine Run.skip ?_
    refine Run.seq ?_
    refine Run.block ?_
    refine Run.seq ?_
    refine Run.reg ?_
    refine op (OpS.mv rfl rfl rfl ?_)
    obtain ⟨y3, e6, hF⟩ := bindP_use hF
    have h14 := h13.front (.cons .z .nil)
    refine op (OpS.callO h14 Try.func32 rfl rfl rfl rfl (vs := [u2, .int .i64 5]) rfl (made_Dice_Next_ok e6) rfl .nil ?_)
    rintro _ w6 _ _ _ ⟨rfl, rfl, rfl, rfl⟩ h15
    have h16 := h15
    simp only [List.cons_append, List.nil_append] at h16
    refine op (OpS.as rfl rfl rfl ?_)
    refine RunL.nil ?_
    refine Run.slim [(12, .int .i64 y3.1), (0, .int .i64 a0), (7, u4), (9, u2), (10, u3), (11, .int .i64 s2.1)] ⟨rfl, rfl, rfl, rfl, rfl, rfl, trivial⟩ ?_
    refine Run.block ?_
    refine Run.slim [(0, .int .i64 a0), (7, u4), (9, u2), (10, u3), (11, .int .i64 s2.1), (12, .int .i64 y3.1)] ⟨rfl, rfl, rfl, rfl, rfl, rfl, trivial⟩ ?_
    refine Run.loopP (σ := (Int × made_Dice × (List (List (List Int))) × (Option bus_Bus))) (fun s_ L_ w_ => ∃ u0_ : Value, L_ = [(0, .int .i64 a0), (7, u0_), (9, u2), (10, u3), (11, .int .i64 s2.1), (12, .int .i64 s_.1)] ∧ St e w_ [] [(false, .box 81 made_Dice.rep u2 s_.2.1), (true, .oval (oslice 59 1 (fun _ => Nest_ssuint8.orep)) u3 s_.2.2.1), (false, .opt (fun x_ => .ex fun v_ => .sep (.box 76 (Rep.iso (fun s : bus_Bus => (s.masters, ())) (Rep.prod (Rep.raw (α := List bus_master) v_) Rep.unit)) u0_ x_) (.oval (oslice 85 3 (fun _ => bus_master.orep)) v_ x_.masters)) u0_ s_.2.2.2)]) hF ⟨u4, rfl, (h16.facts .nil).picks (.cons .z (.cons .z (.cons .z .nil)))⟩ (fun k2 hk2 s3 _ w7 hI hF => ?_)
    obtain ⟨u5, rfl, h17⟩ := hI
    refine Run.seq ?_
    refine Run.seq ?_
    refine Run.reg ?_
    refine op (OpS.mv rfl rfl rfl ?_)
    refine op (OpS.bin rfl rfl rfl rfl rfl ?_)
    refine RunL.nil ?_
    refine Run.slim [(39, .bool (decide (s3.1 > 0))), (0, .int .i64 a0), (7, u5), (9, u2), (10, u3), (11, .int .i64 s2.1), (12, .int .i64 s3.1)] ⟨rfl, rfl, rfl, rfl, rfl, rfl, rfl, trivial⟩ ?_
    refine Run.ite rfl hF (fun e7 hF => ?_) (fun e7 hF => ?_)
    ·
     refine Run.skip ?_
     refine Run.seq ?_
     refine Run.block ?_
     refine Run.seq ?_
     refine Run.reg ?_
     refine op (OpS.mv rfl rfl rfl ?_)
     obtain ⟨y4, e8, hF⟩ := bindP_use hF
     have h18 := h17.front (.cons .z .nil)
     refine op (OpS.callO h18 Try.func15 rfl rfl rfl rfl (vs := [u2]) rfl (made_Dice_Frame_ok e8) rfl .nil ?_)
     rintro u6 w8 _ _ _ ⟨_, rfl, rfl, rfl, rfl⟩ h19
     have h20 := h19
     simp only [List.cons_append, List.nil_append] at h20
     refine op (OpS.alloc h20 ti36 Frame_.zr rfl rfl (fun u7 w9 h21 => ?_))
     refine op (OpS.storeB (f' := true) h21 .z PA.z Put.id ty36 rfl rfl rfl (V.at .z) (.inl rfl) (fun w10 h22 => ?_))
     refine RunL.nil ?_
     refine Run.slim [(13, u7), (0, .int .i64 a0), (7, u5), (9, u2), (10, u3), (11, .int .i64 s2.1), (12, .int .i64 s3.1)] ⟨rfl, rfl, rfl, rfl, rfl, rfl, rfl, trivial⟩ ?_
     refine Run.seq ?_
     refine Run.reg ?_
     refine op (OpS.loadB h22 .z PA.z Get.id ty36 rfl rfl rfl (fun u8 h23 => ?_))
     obtain ⟨y5, e9, hF⟩ := bindP_use hF
     refine op (OpS.callP h23 Try.func28 rfl rfl rfl rfl (vs := [u8]) rfl (frame_Encode_ok e9) (.cons (f := true) (V.at .z) .nil) ?_)
     rintro _ w11 _ _ _ ⟨u9, rfl, rfl, rfl, rfl⟩ h24
     have h25 := h24 rfl rfl
     simp only [List.cons_append, List.nil_append] at h25
     refine op (OpS.mv rfl rfl rfl ?_)
     refine op (OpS.ext rfl rfl rfl rfl ?_)
     refine op (OpS.ext rfl rfl rfl rfl ?_)
     refine op (OpS.as rfl rfl rfl ?_)
     have h26 := (h25.pick .z).freeze
     refine op (OpS.as rfl rfl rfl ?_)
     refine RunL.nil ?_
     refine Run.slim [(15, .int .i64 y5.2), (14, u9), (13, u7), (0, .int .i64 a0), (7, u5), (9, u2), (10, u3), (11, .int .i64 s2.1), (12, .int .i64 s3.1)] ⟨rfl, rfl, rfl, rfl, rfl, rfl, rfl, rfl, rfl, trivial⟩ ?_
     refine Run.seq ?_
     refine Run.seq ?_
     refine Run.reg ?_
     refine op (OpS.mv rfl rfl rfl ?_)
     refine op (OpS.bin rfl rfl rfl rfl rfl ?_)
     refine op (OpS.mv rfl rfl rfl ?_)
     refine RunL.join (σ := (Bool × (Option bus_Bus))) (fun s_ L_ w_ => ∃ u0_ : Value, L_ = [(0, .int .i64 a0), (7, u0_), (9, u2), (10, u3), (11, .int .i64 s2.1), (12, .int .i64 s3.1), (14, u9), (57, .bool s_.1)] ∧ St e w_ [(true, .val (Rep.slice (Rep.int .u8)) u9 y5.1)] [(false, .box 81 made_Dice.rep u2 y4.2), (true, .oval (oslice 59 1 (fun _ => Nest_ssuint8.orep)) u3 s3.2.2.1), (false, .opt (fun x_ => .ex fun v_ => .sep (.box 76 (Rep.iso (fun s : bus_Bus => (s.masters, ())) (Rep.prod (Rep.raw (α := List bus_master) v_) Rep.unit)) u0_ x_) (.oval (oslice 85 3 (fun _ => bus_master.orep)) v_ x_.masters)) u0_ s_.2)]) hF (fun s4 _ w12 hI hF => ?_) (fun j2 hj2 hF => ?_)
     ·
      obtain ⟨u10, rfl, h27⟩ := hI
      refine Run.ite rfl hF (fun e10 hF => ?_) (fun e10 hF => ?_)
      ·
       refine Run.seq ?_
       refine Run.reg ?_
       refine op (OpS.as rfl rfl rfl ?_)
       refine op (OpS.as rfl rfl rfl ?_)
       refine op (OpS.as rfl rfl rfl ?_)
       refine RunL.nil ?_
       refine Run.slim [(6, .bool false), (5, .slice none 0 0), (4, .pointer none)] ⟨rfl, rfl, rfl, trivial⟩ ?_
       have h28 := St.none (fun x_ => .ex fun v_ => .sep (.box 76 (Rep.iso (fun s : bus_Bus => (s.masters, ())) (Rep.prod (Rep.raw (α := List bus_master) v_) Rep.unit)) (.pointer none) x_) (.oval (oslice 85 3 (fun _ => bus_master.orep)) v_ x_.masters)) h27
       have h29 := (h28.pick .z).weak
       have h30 := St.nilD 59 1 (fun _ => Nest_ssuint8.orep) h29
       refine Run.retP rfl (.tmp rfl (.tmp rfl (.tmp rfl .nil))) ?_
       cases hF
       exact Post.mk' ⟨(.pointer none), (.slice none 0 0), rfl, rfl, rfl, rfl⟩ (h30.picks (.cons (.s .z) (.cons .z .nil))) .nil
      ·
       refine Run.skip ?_
       refine Run.reg ?_
       refine op (OpS.mv rfl rfl rfl ?_)
       refine op (OpS.mv rfl rfl rfl ?_)
       refine op (OpS.mv rfl rfl rfl ?_)
       refine op (OpS.mv rfl rfl rfl ?_)
       obtain ⟨x2, e11, hF⟩ := bindP_use hF
       refine op (OpS.iownD h27 (.s .z) Try.underlying54 sz59 rfl rfl rfl rfl e11 ?_)
       refine op (OpS.openO (F' := fun v_ => at' (fun _ => Nest_ssuint8.orep) (s2.1).toNat (Nest_ssuint8.orepW (raw v_))) (hn := fun _ => rfl) (hn' := fun _ => at_hn rfl rfl) h27 (.s .z) (idx_ne e11) PA.a (fun v_ => Len.comp (Len.arrOpen e11) (Nest_ssuint8.lenO v_)) rfl ty59 rfl rfl rfl rfl (fun u11 h31 => ?_))
       refine op (OpS.mv rfl rfl rfl ?_)
       refine op (OpS.lit (r := (Rep.slice (Rep.int .u8))) (f := true) h31 Try.underlying59 ti34 rfl rfl rfl rfl rfl (.cons rfl (V.at .z) .nil) rfl rfl (fun u12 w13 h32 => ?_))
       obtain ⟨x3, e12, hF⟩ := bindP_use hF
       refine op (OpS.appD (fr := (Rep.slice (Rep.int .u8))) (f' := true) h32 (.s .z) Try.underlying59 ti34 rfl rfl rfl rfl rfl rfl rfl (V.at .z) (.inl rfl) e12 (fun u13 w14 h33 => ?_))
       obtain ⟨x4, e13, hF⟩ := bindP_use hF
       refine op (OpS.iownD h33 (.s .z) Try.underlying54 sz59 rfl rfl rfl rfl e13 ?_)
       obtain ⟨d1, e14, hF⟩ := letP_use hF
       refine op (OpS.storePO (F := (at' (fun _ => Nest_ssuint8.orep) (s2.1).toNat (Nest_ssuint8.orepW (raw u11)))) (F2 := fun _ => Nest_ssuint8.orep) (hn := at_hn rfl rfl) (hn2 := fun _ => rfl) h33 (.s .z) .z (idx_ne e13) PA.a (Len.comp (Len.arrShut e13) (Nest_ssuint8.lenC u11)) ty59 rfl rfl rfl rfl (.inl rfl) (fun w15 h34 => ?_))
       have h35 := St.termD (l' := d1) h34 e14
       refine RunL.nil ?_
       refine Run.slim [(0, .int .i64 a0), (7, u10), (9, u2), (10, u3), (11, .int .i64 s2.1), (12, .int .i64 s3.1)] ⟨rfl, rfl, rfl, rfl, rfl, rfl, trivial⟩ ?_
       refine Run.endBlock ?_
       refine Run.reg ?_
       refine op (OpS.mv rfl rfl rfl ?_)
       refine op (OpS.bin rfl rfl rfl rfl rfl ?_)
       refine op (OpS.as rfl rfl rfl ?_)
       obtain ⟨x5, e15, hF⟩ := letP_use hF
       refine RunL.name e15 ?_
       refine RunL.nil ?_
       refine Run.slim [(12, .int .i64 x5), (0, .int .i64 a0), (7, u10), (9, u2), (10, u3), (11, .int .i64 s2.1)] ⟨rfl, rfl, rfl, rfl, rfl, rfl, trivial⟩ ?_
       refine Run.slim [(0, .int .i64 a0), (7, u10), (9, u2), (10, u3), (11, .int .i64 s2.1), (12, .int .i64 x5)] ⟨rfl, rfl, rfl, rfl, rfl, rfl, trivial⟩ ?_
       exact hk2 (x5, y4.2, d1, s4.2) _ _ ⟨u10, rfl, (h35.facts .nil).picks (.cons (.s .z) (.cons .z (.cons .z .nil)))⟩ hF
     ·
      refine RunL.caseb hF (fun e16 hF => ?_) (fun e16 hF => ?_)
      ·
       refine op (OpS.pass rfl rfl rfl ?_)
       refine op (OpS.pass rfl rfl rfl ?_)
       refine op (OpS.pass rfl rfl rfl ?_)
       refine op (OpS.pass rfl rfl rfl ?_)
       refine op (OpS.pass rfl rfl rfl ?_)
       refine op (OpS.pick rfl rfl rfl rfl ?_)
       refine RunL.nil ?_
       refine Run.slim [(57, .bool true), (14, u9), (0, .int .i64 a0), (7, u5), (9, u2), (10, u3), (11, .int .i64 s2.1), (12, .int .i64 s3.1)] ⟨rfl, rfl, rfl, rfl, rfl, rfl, rfl, rfl, trivial⟩ ?_
       refine Run.slim [(0, .int .i64 a0), (7, u5), (9, u2), (10, u3), (11, .int .i64 s2.1), (12, .int .i64 s3.1), (14, u9), (57, .bool true)] ⟨rfl, rfl, rfl, rfl, rfl, rfl, rfl, rfl, trivial⟩ ?_
       exact hj2 (true, s3.2.2.2) _ _ ⟨u5, rfl, (h26.facts (.atm .z .nil)).picks (.cons (.s .z) (.cons (.s .z) (.cons (.s .z) .nil)))⟩ hF
      ·
       refine op (OpS.mv rfl rfl rfl ?_)
       refine op (OpS.mv rfl rfl rfl ?_)
       refine op (OpS.loadB h26 .z PA.z Get.id ty36 rfl rfl rfl (fun u14 h36 => ?_))
       obtain ⟨x6, e17, hF⟩ := bindP_use hF
       have h37 := St.unopt (h36.pick (.s (.s (.s .z)))) e17
       obtain ⟨u15, h38⟩ := h37.unex
       have h39 := h38.unsep
       obtain ⟨y6, e18, hF⟩ := bindP_use hF
       have h40 := h39.front (.cons .z (.cons .z .nil))
       refine op (OpS.callO h40 Try.func16 rfl rfl rfl rfl (vs := [u5, .int .i64 s2.1, u14]) rfl (bus_Bus_Submit_ok e18) rfl (.cons (f := true) (V.at .z) .nil) ?_)
       rintro _ w16 _ _ _ ⟨u16, rfl, rfl, rfl, rfl⟩ h41
       have h42 := h41
       simp only [List.cons_append, List.nil_append] at h42
       refine op (OpS.bin rfl rfl rfl rfl rfl ?_)
       refine op (OpS.pick rfl rfl rfl rfl ?_)
       refine RunL.nil ?_
       refine Run.slim [(57, .bool (y6.1 != 0)), (14, u9), (0, .int .i64 a0), (7, u5), (9, u2), (10, u3), (11, .int .i64 s2.1), (12, .int .i64 s3.1)] ⟨rfl, rfl, rfl, rfl, rfl, rfl, rfl, rfl, trivial⟩ ?_
       have h43 := h42.front (.cons .z (.cons .z .nil))
       have h44 := St.some (H := (fun x_ => .ex fun v_ => .sep (.box 76 (Rep.iso (fun s : bus_Bus => (s.masters, ())) (Rep.prod (Rep.raw (α := List bus_master) v_) Rep.unit)) u5 x_) (.oval (oslice 85 3 (fun _ => bus_master.orep)) v_ x_.masters))) (q := u5) (x := y6.2) (St.ex (H := fun v_ => .sep (.box 76 (Rep.iso (fun s : bus_Bus => (s.masters, ())) (Rep.prod (Rep.raw (α := List bus_master) v_) Rep.unit)) u5 y6.2) (.oval (oslice 85 3 (fun _ => bus_master.orep)) v_ y6.2.masters)) u16 (St.sep h43))
       refine Run.slim [(0, .int .i64 a0), (7, u5), (9, u2), (10, u3), (11, .int .i64 s2.1), (12, .int .i64 s3.1), (14, u9), (57, .bool (y6.1 != 0))] ⟨rfl, rfl, rfl, rfl, rfl, rfl, rfl, rfl, trivial⟩ ?_
       exact hj2 (y6.1 != 0, (some y6.2)) _ _ ⟨u5, rfl, (h44.facts (.atm (.s .z) .nil)).picks (.cons (.s (.s .z)) (.cons (.s (.s .z)) (.cons .z .nil)))⟩ hF
    ·
     refine Run.exit rfl ?_
     refine Run.endBlock ?_
     refine Run.reg ?_
     refine op (OpS.mv rfl rfl rfl ?_)
     refine op (OpS.bin rfl rfl rfl rfl rfl ?_)
     refine op (OpS.as rfl rfl rfl ?_)
     obtain ⟨x7, e19, hF⟩ := letP_use hF
     refine RunL.name e19 ?_
     refine RunL.nil ?_
     refine Run.slim [(11, .int .i64 x7), (0, .int .i64 a0), (7, u5), (9, u2), (10, u3)] ⟨rfl, rfl, rfl, rfl, rfl, trivial⟩ ?_
     refine Run.slim [(0, .int .i64 a0), (7, u5), (9, u2), (10, u3), (11, .int .i64 x7)] ⟨rfl, rfl, rfl, rfl, rfl, trivial⟩ ?_
     exact hk1 (x7, s3.2.1, s3.2.2.1, s3.2.2.2) _ _ ⟨u5, rfl, (h17.facts .nil).picks (.cons .z (.cons .z (.cons .z .nil)))⟩ hF
   ·
    refine Run.exit rfl ?_
    refine Run.seq ?_
    refine Run.reg ?_
    refine op (OpS.mv rfl rfl rfl ?_)
    refine op (OpS.mv rfl rfl rfl ?_)
    refine op (OpS.as rfl rfl rfl ?_)
    refine op (OpS.as rfl rfl rfl ?_)
    refine op (OpS.as rfl rfl rfl ?_)
    refine RunL.nil ?_
    refine Run.slim [(6, .bool true), (5, u3), (4, u4)] ⟨rfl, rfl, rfl, trivial⟩ ?_
    refine Run.retP rfl (.tmp rfl (.tmp rfl (.tmp rfl .nil))) ?_
    cases hF
    exact Post.mk' ⟨u4, u3, rfl, rfl, rfl, rfl⟩ (h13.picks (.cons (.s (.s .z)) (.cons (.s .z) .nil))) .nil
 ·
  refine RunL.caseb hF (fun e20 hF => ?_) (fun e20 hF => ?_)
  ·
   refine op (OpS.pass rfl rfl rfl ?_)
   refine op (OpS.pass rfl rfl rfl ?_)
   refine op (OpS.pick rfl rfl rfl rfl ?_)
   refine RunL.nil ?_
   refine Run.slim [(26, .bool true), (7, u1), (0, .int .i64 a0), (1, v1)] ⟨rfl, rfl, rfl, rfl, trivial⟩ ?_
   refine Run.slim [(0, .int .i64 a0), (1, v1), (7, u1), (26, .bool true)] ⟨rfl, rfl, rfl, rfl, trivial⟩ ?_
   exact hj1 (true) _ _ ⟨rfl, (h2.facts (.atm .z .nil)).picks (.cons .z .nil)⟩ hF
  ·
   refine op (OpS.mv rfl rfl rfl ?_)
   refine op (OpS.bin rfl rfl rfl rfl rfl ?_)
   refine op (OpS.pick rfl rfl rfl rfl ?_)
   refine RunL.nil ?_
   refine Run.slim [(26, .bool (y1.2 != 0)), (7, u1), (0, .int .i64 a0), (1, v1)] ⟨rfl, rfl, rfl, rfl, trivial⟩ ?_
   refine Run.slim [(0, .int .i64 a0), (1, v1), (7, u1), (26, .bool (y1.2 != 0))] ⟨rfl, rfl, rfl, rfl, trivial⟩ ?_
   exact hj1 (y1.2 != 0) _ _ ⟨rfl, (h2.facts (.atm .z .nil)).picks (.cons .z .nil)⟩ hF
theorem law21_among_ok {fuel : Nat} {a0 : List Int} {a1 : Int} {y : Bool} (hF : law21_among fuel a0 a1 = some y) {w : World} {v0 : Value} :
  Spec Try.prog 27 [v0, .int .i64 a1].toArray w [(false, .val (Rep.slice (Rep.int .i64)) v0 a0)] [] (fun v Γr Ωr Ωo => v = .bool y ∧ Γr = [] ∧ Ωr = [] ∧ Ωo = []) := by
 refine Spec.of (L := [(0, v0), (1, .int .i64 a1)]) Try.func27 rfl ⟨rfl, rfl, trivial⟩ rfl (fun e h => ?_)
 unfold law21_among at hF
 refine Run.seq ?_
 refine Run.reg ?_
 refine op (OpS.as rfl rfl rfl ?_)
 refine RunL.nil ?_
 refine Run.slim [(0, v0), (1, .int .i64 a1)] ⟨rfl, rfl, trivial⟩ ?_
 refine Run.seq ?_
 refine Run.seq ?_
 refine Run.reg ?_
 refine op (OpS.as rfl rfl rfl ?_)
 refine RunL.nil ?_
 refine Run.block ?_
 refine Run.slim [(0, v0), (1, .int .i64 a1), (5, .int .i64 0)] ⟨rfl, rfl, rfl, trivial⟩ ?_
 refine Run.loopP (σ := Int) (fun s_ L_ w_ => L_ = [(0, v0), (1, .int .i64 a1), (5, .int .i64 s_)] ∧ St e w_ [(false, .val (Rep.slice (Rep.int .i64)) v0 a0)] []) hF ⟨rfl, (h.facts (.atm .z .nil)).picks .nil⟩ (fun k1 hk1 s1 _ w1 hI hF => ?_)
 obtain ⟨rfl, h1⟩ := hI
 refine Run.seq ?_
 refine Run.seq ?_
 refine Run.reg ?_
 refine op (OpS.mv rfl rfl rfl ?_)
 refine op (OpS.mv rfl rfl rfl ?_)
 refine op (OpS.len h1 Try.underlying33 rfl rfl rfl (V.at .z) ?_)
 refine op (OpS.bin rfl rfl rfl rfl rfl ?_)
 refine RunL.nil ?_
 refine Run.slim [(9, .bool (decide (s1 < (a0.length : Int)))), (0, v0), (1, .int .i64 a1), (5, .int .i64 s1)] ⟨rfl, rfl, rfl, rfl, trivial⟩ ?_
 refine Run.ite rfl hF (fun e1 hF => ?_) (fun e1 hF => ?_)
 ·
  refine Run.skip ?_
  refine Run.seq ?_
  refine Run.block ?_
  refine Run.seq ?_
  refine Run.reg ?_
  refine op (OpS.mv rfl rfl rfl ?_)
  refine op (OpS.mv rfl rfl rfl ?_)
  obtain ⟨x1, e2, hF⟩ := bindP_use hF
  refine op (OpS.iptr h1 Try.underlying33 ty3 rfl rfl rfl rfl (V.at .z) e2 (fun u1 h2 => ?_))
  refine op (OpS.loadi h2 ty3 rfl rfl rfl .z ?_)
  refine op (OpS.mv rfl rfl rfl ?_)
  refine op (OpS.bin rfl rfl rfl rfl rfl ?_)
  refine RunL.nil ?_
  refine Run.slim [(17, .bool (x1 == a1)), (0, v0), (1, .int .i64 a1), (5, .int .i64 s1)] ⟨rfl, rfl, rfl, rfl, trivial⟩ ?_
  refine Run.ite rfl hF (fun e3 hF => ?_) (fun e3 hF => ?_)
  ·
   refine Run.seq ?_
   refine Run.reg ?_
   refine op (OpS.as rfl rfl rfl ?_)
   refine RunL.nil ?_
   refine Run.slim [(4, .bool true)] ⟨rfl, trivial⟩ ?_
   refine Run.retP rfl (.tmp rfl .nil) ?_
   cases hF
   exact Post.mk' ⟨rfl, rfl, rfl, rfl⟩ (h2.picks .nil) .nil
  ·
   refine Run.skip ?_
   refine Run.endBlock ?_
   refine Run.reg ?_
   refine op (OpS.mv rfl rfl rfl ?_)
   refine op (OpS.bin rfl rfl rfl rfl rfl ?_)
   refine op (OpS.as rfl rfl rfl ?_)
   obtain ⟨x2, e4, hF⟩ := letP_use hF
   refine RunL.name e4 ?_
   refine RunL.nil ?_
   refine Run.slim [(5, .int .i64 x2), (0, v0), (1, .int .i64 a1)] ⟨rfl, rfl, rfl, trivial⟩ ?_
   refine Run.slim [(0, v0), (1, .int .i64 a1), (5, .int .i64 x2)] ⟨rfl, rfl, rfl, trivial⟩ ?_
   exact hk1 (x2) _ _ ⟨rfl, (h2.facts (.atm (.s .z) .nil)).picks .nil⟩ hF
 ·
  refine Run.exit rfl ?_
  refine Run.seq ?_
  refine Run.reg ?_
  refine op (OpS.as rfl rfl rfl ?_)
  refine RunL.nil ?_
  refine Run.slim [(4, .bool false)] ⟨rfl, trivial⟩ ?_
  refine Run.retP rfl (.tmp rfl .nil) ?_
  cases hF
  exact Post.mk' ⟨rfl, rfl, rfl, rfl⟩ (h1.picks .nil) .nil
set_option maxHeartbeats 8000000 in
theorem law21_BusHonest_ok {fuel : Nat} {a0 : Int} {a1 : List Int} {a2 : List Fault_} {y : Bool} (hF : law21_BusHonest fuel a0 a1 a2 = some y) {w : World} {v1 v2 : Value} :
  Spec Try.prog 5 [.int .i64 a0, v1, v2].toArray w [(false, .val (Rep.slice (Rep.int .i64)) v1 a1), (false, .val (Rep.slice Fault_.rep) v2 a2)] [] (fun v Γr Ωr Ωo => v = .bool y ∧ Γr = [] ∧ Ωr = [] ∧ Ωo = []) := by
 refine Spec.of (L := [(0, .int .i64 a0), (1, v1), (2, v2)]) Try.func5 rfl ⟨rfl, rfl, rfl, trivial⟩ rfl (fun e h => ?_)
 unfold law21_BusHonest at hF
 refine Run.seq ?_
 refine Run.reg ?_
 refine op (OpS.as rfl rfl rfl ?_)
 refine RunL.nil ?_
 refine Run.slim [(0, .int .i64 a0), (1, v1), (2, v2)] ⟨rfl, rfl, rfl, trivial⟩ ?_
 refine Run.seq ?_
 refine Run.seq ?_
 refine Run.reg ?_
 refine op (OpS.mv rfl rfl rfl ?_)
 obtain ⟨y1, e1, hF⟩ := bindP_use hF
 refine op (OpS.callP h Try.func24 rfl rfl rfl rfl (vs := [v1]) rfl (made_Light_ok e1) (.cons (f := false) (V.at .z) .nil) ?_)
 rintro _ w1 _ _ _ ⟨rfl, rfl, rfl, rfl⟩ h1
 have h2 := h1 rfl rfl
 simp only [List.cons_append, List.nil_append] at h2
 refine op (OpS.not rfl rfl rfl ?_)
 refine op (OpS.mv rfl rfl rfl ?_)
 refine RunL.join (σ := Bool) (fun s_ L_ w_ => L_ = [(0, .int .i64 a0), (1, v1), (2, v2), (30, .bool s_)] ∧ St e w_ [(false, .val (Rep.slice (Rep.int .i64)) v1 a1), (false, .val (Rep.slice Fault_.rep) v2 a2)] []) hF (fun s1 _ w2 hI hF => ?_) (fun j1 hj1 hF => ?_)
 ·
  obtain ⟨rfl, h3⟩ := hI
  refine Run.ite rfl hF (fun e2 hF => ?_) (fun e2 hF => ?_)
  ·
   refine Run.seq ?_
   refine Run.reg ?_
   obtain ⟨y2, e3, hF⟩ := bindP_use hF
   refine op (OpS.callP h3 Try.func10 rfl rfl rfl rfl (vs := []) rfl (law21_awake_ok e3) .nil ?_)
   rintro _ w3 _ _ _ ⟨rfl, rfl, rfl, rfl⟩ h4
   have h5 := h4 rfl rfl
   simp only [List.cons_append, List.nil_append] at h5
   refine op (OpS.as rfl rfl rfl ?_)
   refine RunL.nil ?_
   refine Run.slim [(6, .bool y2)] ⟨rfl, trivial⟩ ?_
   refine Run.retP rfl (.tmp rfl .nil) ?_
   cases hF
   exact Post.mk' ⟨rfl, rfl, rfl, rfl⟩ (h5.picks .nil) .nil
  ·
   refine Run.skip ?_
   refine Run.seq ?_
   refine Run.reg ?_
   refine op (OpS.mv rfl rfl rfl ?_)
   obtain ⟨y3, e4, hF⟩ := bindP_use hF
   refine op (OpS.callP h3 Try.func13 rfl rfl rfl rfl (vs := [.int .i64 a0, .int .i64 8]) rfl (made_Mod_ok e4) .nil ?_)
   rintro _ w4 _ _ _ ⟨rfl, rfl, rfl, rfl⟩ h6
   have h7 := h6 rfl rfl
   simp only [List.cons_append, List.nil_append] at h7
   refine op (OpS.bin rfl rfl rfl rfl rfl ?_)
   refine op (OpS.as rfl rfl rfl ?_)
   obtain ⟨x1, e5, hF⟩ := letP_use hF
   refine RunL.name e5 ?_
   refine RunL.nil ?_
   refine Run.slim [(7, .int .i64 x1), (1, v1), (2, v2)] ⟨rfl, rfl, rfl, trivial⟩ ?_
   refine Run.seq ?_
   refine Run.reg ?_
   refine op (OpS.mv rfl rfl rfl ?_)
   refine op (OpS.mv rfl rfl rfl ?_)
   obtain ⟨y4, e6, hF⟩ := bindP_use hF
   have h8 := h7.front .nil
   refine op (OpS.callO h8 Try.func25 rfl rfl rfl rfl (vs := [.int .i64 x1, v1]) rfl (law21_loaded_ok e6) rfl (.cons (f := false) (V.at .z) .nil) ?_)
   rintro _ w5 _ _ _ ⟨u1, u2, rfl, rfl, rfl, rfl⟩ h9
   have h10 := h9
   simp only [List.cons_append, List.nil_append] at h10
   refine op (OpS.mv rfl rfl rfl ?_)
   refine op (OpS.ext rfl rfl rfl rfl ?_)
   refine op (OpS.ext rfl rfl rfl rfl ?_)
   refine op (OpS.ext rfl rfl rfl rfl ?_)
   refine op (OpS.as rfl rfl rfl ?_)
   refine op (OpS.as rfl rfl rfl ?_)
   have h11 := St.freezeF (h10.pick (.s .z)) Nest_ssuint8.rf
   refine op (OpS.as rfl rfl rfl ?_)
   refine RunL.nil ?_
   refine Run.slim [(10, .bool y4.2.2), (9, u2), (8, u1), (7, .int .i64 x1), (2, v2)] ⟨rfl, rfl, rfl, rfl, rfl, trivial⟩ ?_
   refine Run.seq ?_
   refine Run.seq ?_
   refine Run.reg ?_
   refine op (OpS.mv rfl rfl rfl ?_)
   refine op (OpS.not rfl rfl rfl ?_)
   refine RunL.nil ?_
   refine Run.slim [(43, .bool (!y4.2.2)), (9, u2), (8, u1), (7, .int .i64 x1), (2, v2)] ⟨rfl, rfl, rfl, rfl, rfl, trivial⟩ ?_
   refine Run.ite rfl hF (fun e7 hF => ?_) (fun e7 hF => ?_)
   ·
    refine Run.seq ?_
    refine Run.reg ?_
    refine op (OpS.as rfl rfl rfl ?_)
    refine RunL.nil ?_
    refine Run.slim [(6, .bool false)] ⟨rfl, trivial⟩ ?_
    refine Run.retP rfl (.tmp rfl .nil) ?_
    cases hF
    exact Post.mk' ⟨rfl, rfl, rfl, rfl⟩ (h11.picks .nil) .nil
   ·
    refine Run.skip ?_
    refine Run.seq ?_
    obtain ⟨x2, e8, hF⟩ := bindP_use hF
    obtain ⟨x3, e9, hF⟩ := bindP_use hF
    refine Run.drawV (Ωs := [(false, .opt (fun x_ => .ex fun v_ => .sep (.box 76 (Rep.iso (fun s : bus_Bus => (s.masters, ())) (Rep.prod (Rep.raw (α := List bus_master) v_) Rep.unit)) u1 x_) (.oval (oslice 85 3 (fun _ => bus_master.orep)) v_ x_.masters)) u1 y4.1)]) [⟨some 44, some (.int .i64 x1), fun _ => [], fun ds_ u_ => [], [], [], none⟩, ⟨some 45, none, fun u_ => [], fun ds_ u_ => [(true, .slice 3 (Rep.int .i64) u_ x2)], [], [], none⟩, ⟨some 46, some (.int .i64 x1), fun _ => [], fun ds_ u_ => [], [], [], none⟩, ⟨some 47, none, fun u_ => [], fun ds_ u_ => [(true, .slice 3 (Rep.int .i64) u_ x3)], [], [], none⟩, ⟨some 11, none, fun _ => [], fun ds_ u_ => [], [], [], some 1⟩] [[], [0], [], [2], [1]] [] [0, 1, 2, 3, 4] Try_mixed rfl rfl rfl h11 (.cons ?_ (.cons ?_ (.cons ?_ (.cons ?_ (.cons ?_ .nil))))) (fun q1 w hq1 h => ?_)
    ·intro q1 w Γx Ωx h
     refine OpS.mv rfl rfl rfl ?_
     exact ⟨undef, rfl, trivial, h⟩
    ·intro q1 w Γx Ωx h
     refine OpS.make h Try.underlying33 ti3 rfl rfl (Zr.int .i64 0) rfl rfl rfl rfl e8 (by simp) (mk_fits e8) rfl (fun u w8 h14 => ?_)
     exact ⟨u, rfl, trivial, h14⟩
    ·intro q1 w Γx Ωx h
     refine OpS.mv rfl rfl rfl ?_
     exact ⟨undef, rfl, trivial, h⟩
    ·intro q1 w Γx Ωx h
     refine OpS.make h Try.underlying33 ti3 rfl rfl (Zr.int .i64 0) rfl rfl rfl rfl e9 (by simp) (mk_fits e9) rfl (fun u w9 h15 => ?_)
     exact ⟨u, rfl, trivial, h15⟩
    ·intro q1 w Γx Ωx h
     refine OpS.as rfl rfl rfl ?_
     exact ⟨_, rfl, rfl, h⟩
    have h16 : St e w [(true, .val (Rep.slice (Rep.slice (Rep.slice (Rep.int .u8)))) u2 y4.2.1), (false, .val (Rep.slice (Rep.int .i64)) v1 a1), (false, .val (Rep.slice Fault_.rep) v2 a2)] [(true, .slice 3 (Rep.int .i64) (q1 1) x2), (true, .slice 3 (Rep.int .i64) (q1 3) x3), (false, .opt (fun x_ => .ex fun v_ => .sep (.box 76 (Rep.iso (fun s : bus_Bus => (s.masters, ())) (Rep.prod (Rep.raw (α := List bus_master) v_) Rep.unit)) u1 x_) (.oval (oslice 85 3 (fun _ => bus_master.orep)) v_ x_.masters)) u1 y4.1)] := h
    refine RunL.slim [(44, .int .i64 x1), (45, (q1 1)), (46, .int .i64 x1), (47, (q1 3)), (11, (q1 1)), (43, .bool (!y4.2.2)), (9, u2), (8, u1), (7, .int .i64 x1), (2, v2)] ⟨rfl, rfl, rfl, rfl, (congrArg some (hq1 4 _ 1 rfl rfl)), rfl, rfl, rfl, rfl, rfl, trivial⟩ ?_
    refine op (OpS.as rfl rfl rfl ?_)
    refine RunL.nil ?_
    refine Run.slim [(12, (q1 3)), (11, (q1 1)), (9, u2), (8, u1), (7, .int .i64 x1), (2, v2)] ⟨rfl, rfl, rfl, rfl, rfl, rfl, trivial⟩ ?_
    refine Run.seq ?_
    refine Run.seq ?_
    refine Run.reg ?_
    refine op (OpS.as rfl rfl rfl ?_)
    refine RunL.nil ?_
    refine Run.join (σ := ((List Int) × (Option bus_Bus))) (fun s_ L_ w_ => ∃ u0_ : Value, L_ = [(7, .int .i64 x1), (8, u0_), (9, u2), (11, (q1 1))] ∧ St e w_ [(true, .val (Rep.slice (Rep.slice (Rep.slice (Rep.int .u8)))) u2 y4.2.1)] [(true, .slice 3 (Rep.int .i64) (q1 1) s_.1), (false, .opt (fun x_ => .ex fun v_ => .sep (.box 76 (Rep.iso (fun s : bus_Bus => (s.masters, ())) (Rep.prod (Rep.raw (α := List bus_master) v_) Rep.unit)) u0_ x_) (.oval (oslice 85 3 (fun _ => bus_master.orep)) v_ x_.masters)) u0_ s_.2)]) hF (fun s2 _ w10 hI hF => ?_) (fun j2 hj2 hF => ?_)
    ·
     obtain ⟨u3, rfl, h17⟩ := hI
     refine Run.seq ?_
     refine Run.seq ?_
     refine Run.reg ?_
     refine op (OpS.as rfl rfl rfl ?_)
     refine RunL.nil ?_
     refine Run.block ?_
     have h18 := (h17.pick .z).freeze
     refine Run.slim [(7, .int .i64 x1), (8, u3), (9, u2), (11, (q1 1)), (22, .int .i64 0)] ⟨rfl, rfl, rfl, rfl, rfl, trivial⟩ ?_
     refine Run.loopP (σ := ((List Int) × Int × (Option bus_Bus))) (fun s_ L_ w_ => ∃ u0_ : Value, L_ = [(7, .int .i64 x1), (8, u3), (9, u2), (11, u0_), (22, .int .i64 s_.2.1)] ∧ St e w_ [(true, .val (Rep.slice (Rep.slice (Rep.slice (Rep.int .u8)))) u2 y4.2.1), (true, .val (Rep.slice (Rep.int .i64)) u0_ s_.1)] [(false, .opt (fun x_ => .ex fun v_ => .sep (.box 76 (Rep.iso (fun s : bus_Bus => (s.masters, ())) (Rep.prod (Rep.raw (α := List bus_master) v_) Rep.unit)) u3 x_) (.oval (oslice 85 3 (fun _ => bus_master.orep)) v_ x_.masters)) u3 s_.2.2)]) hF ⟨(q1 1), rfl, (h18.facts (.atm (.s .z) (.val (V.at .z) .nil))).picks (.cons .z .nil)⟩ (fun k1 hk1 s3 _ w11 hI hF => ?_)
     obtain ⟨u4, rfl, h19⟩ := hI
     refine Run.seq ?_
     refine Run.seq ?_
     refine Run.reg ?_
     refine op (OpS.mv rfl rfl rfl ?_)
     refine op (OpS.mv rfl rfl rfl ?_)
     refine op (OpS.bin rfl rfl rfl rfl rfl ?_)
     refine RunL.nil ?_
     refine Run.slim [(185, .bool (decide (s3.2.1 < x1))), (7, .int .i64 x1), (8, u3), (9, u2), (11, u4), (22, .int .i64 s3.2.1)] ⟨rfl, rfl, rfl, rfl, rfl, rfl, trivial⟩ ?_
     refine Run.ite rfl hF (fun e10 hF => ?_) (fun e10 hF => ?_)
     ·
      refine Run.skip ?_
      refine Run.seq ?_
      refine Run.block ?_
      refine Run.seq ?_
      refine Run.join (σ := (Bool × (Option bus_Bus))) (fun s_ L_ w_ => L_ = [(7, .int .i64 x1), (8, u3), (9, u2), (11, u4), (22, .int .i64 s3.2.1), (203, .bool s_.1)] ∧ St e w_ [(true, .val (Rep.slice (Rep.slice (Rep.slice (Rep.int .u8)))) u2 y4.2.1), (true, .val (Rep.slice (Rep.int .i64)) u4 s3.1)] [(false, .opt (fun x_ => .ex fun v_ => .sep (.box 76 (Rep.iso (fun s : bus_Bus => (s.masters, ())) (Rep.prod (Rep.raw (α := List bus_master) v_) Rep.unit)) u3 x_) (.oval (oslice 85 3 (fun _ => bus_master.orep)) v_ x_.masters)) u3 s_.2)]) hF (fun s4 _ w12 hI hF => ?_) (fun j3 hj3 hF => ?_)
      ·
       obtain ⟨rfl, h20⟩ := hI
       refine Run.ite rfl hF (fun e11 hF => ?_) (fun e11 hF => ?_)
       ·
        refine Run.seq ?_
        refine Run.reg ?_
        refine op (OpS.as rfl rfl rfl ?_)
        refine RunL.nil ?_
        refine Run.slim [(6, .bool false)] ⟨rfl, trivial⟩ ?_
        refine Run.retP rfl (.tmp rfl .nil) ?_
        cases hF
        exact Post.mk' ⟨rfl, rfl, rfl, rfl⟩ (h20.picks .nil) .nil
       ·
        refine Run.skip ?_
        refine Run.endBlock ?_
        refine Run.reg ?_
        refine op (OpS.mv rfl rfl rfl ?_)
        refine op (OpS.bin rfl rfl rfl rfl rfl ?_)
        refine op (OpS.as rfl rfl rfl ?_)
        obtain ⟨x4, e12, hF⟩ := letP_use hF
        refine RunL.name e12 ?_
        refine RunL.nil ?_
        refine Run.slim [(22, .int .i64 x4), (7, .int .i64 x1), (8, u3), (9, u2), (11, u4)] ⟨rfl, rfl, rfl, rfl, rfl, trivial⟩ ?_
        refine Run.slim [(7, .int .i64 x1), (8, u3), (9, u2), (11, u4), (22, .int .i64 x4)] ⟨rfl, rfl, rfl, rfl, rfl, trivial⟩ ?_
        exact hk1 (s3.1, x4, s4.2) _ _ ⟨u4, rfl, (h20.facts (.atm .z (.val (V.at (.s .z)) .nil))).picks (.cons .z .nil)⟩ hF
      ·
       obtain ⟨x5, e13, hF⟩ := bindP_use hF
       obtain ⟨x6, e14, hF⟩ := bindP_use hF
       obtain ⟨x7, e15, hF⟩ := letP_use hF
       refine iteP_use hF (fun e16 hF => ?_) (fun e16 hF => ?_)
       ·
        have hG := hF
        subst e16
        have hF := hG
        refine Run.drawV (Ωs := []) [⟨some 188, some (u4), fun _ => [], fun ds_ u_ => [], [], [], none⟩, ⟨some 189, some (.int .i64 s3.2.1), fun _ => [], fun ds_ u_ => [], [], [], none⟩, ⟨some 190, none, fun u_ => [(true, .ptr (Rep.int .i64) u_ x5)], fun ds_ u_ => [], [], [], none⟩, ⟨some 191, some (.int .i64 x5), fun _ => [], fun ds_ u_ => [], [], [], none⟩, ⟨some 192, some (u2), fun _ => [], fun ds_ u_ => [], [], [], none⟩, ⟨some 193, some (.int .i64 s3.2.1), fun _ => [], fun ds_ u_ => [], [], [], none⟩, ⟨some 194, none, fun u_ => [(true, .ptr (Rep.slice (Rep.slice (Rep.int .u8))) u_ x6)], fun ds_ u_ => [], [], [], none⟩, ⟨some 195, none, fun u_ => [(true, .val (Rep.slice (Rep.slice (Rep.int .u8))) u_ x6)], fun ds_ u_ => [], [], [], none⟩, ⟨some 196, some (.int .i64 (x6.length : Int)), fun _ => [], fun ds_ u_ => [], [], [], none⟩, ⟨some 197, some (.bool (x5 != (x6.length : Int))), fun _ => [], fun ds_ u_ => [], [], [], none⟩, ⟨some 198, some (.bool true), fun _ => [], fun ds_ u_ => [], [], [], none⟩, ⟨some 199, some undef, fun _ => [], fun _ _ => [], [], [], none⟩, ⟨some 200, some undef, fun _ => [], fun _ _ => [], [], [], none⟩, ⟨some 201, some undef, fun _ => [], fun _ _ => [], [], [], none⟩, ⟨some 202, some undef, fun _ => [], fun _ _ => [], [], [], none⟩, ⟨some 203, some (.bool true), fun _ => [], fun ds_ u_ => [], [], [], none⟩] [[], [], [0, 1], [2], [], [], [4, 5], [6], [7], [3, 8], [9], [10], [10], [10], [10], [10, 14]] [[(false, .opt (fun x_ => .ex fun v_ => .sep (.box 76 (Rep.iso (fun s : bus_Bus => (s.masters, ())) (Rep.prod (Rep.raw (α := List bus_master) v_) Rep.unit)) u3 x_) (.oval (oslice 85 3 (fun _ => bus_master.orep)) v_ x_.masters)) u3 s3.2.2)]] [0, 1, 2, 3, 4, 5, 6, 7, 8, 9, 10, 11, 12, 13, 14, 15, 16] Try_mixed rfl rfl rfl h19 (.cons ?_ (.cons ?_ (.cons ?_ (.cons ?_ (.cons ?_ (.cons ?_ (.cons ?_ (.cons ?_ (.cons ?_ (.cons ?_ (.cons ?_ (.cons ?_ (.cons ?_ (.cons ?_ (.cons ?_ (.cons ?_ .nil)))))))))))))))) (fun q2 w hq2 h => ?_)
        ·intro q2 w Γx Ωx h
         refine OpS.mv rfl rfl rfl ?_
         exact ⟨undef, rfl, trivial, h⟩
        ·intro q2 w Γx Ωx h
         refine OpS.mv rfl rfl rfl ?_
         exact ⟨undef, rfl, trivial, h⟩
        ·intro q2 w Γx Ωx h
         refine OpS.iptr h Try.underlying33 ty3 rfl rfl rfl rfl (V.at (.s .z)) e13 (fun u h24 => ?_)
         exact ⟨u, rfl, trivial, h24⟩
        ·intro q2 w Γx Ωx h
         refine OpS.loadi h ty3 rfl rfl rfl .z ?_
         exact ⟨undef, rfl, trivial, h⟩
        ·intro q2 w Γx Ωx h
         refine OpS.mv rfl rfl rfl ?_
         exact ⟨undef, rfl, trivial, h⟩
        ·intro q2 w Γx Ωx h
         refine OpS.mv rfl rfl rfl ?_
         exact ⟨undef, rfl, trivial, h⟩
        ·intro q2 w Γx Ωx h
         refine OpS.iptr h Try.underlying54 ty59 rfl rfl rfl rfl (V.at .z) e14 (fun u h25 => ?_)
         exact ⟨u, rfl, trivial, h25⟩
        ·intro q2 w Γx Ωx h
         refine OpS.load h ty59 rfl rfl rfl .z (fun u h26 => ?_)
         exact ⟨u, rfl, trivial, h26⟩
        ·intro q2 w Γx Ωx h
         refine OpS.len h Try.underlying59 rfl rfl rfl (V.at .z) ?_
         exact ⟨undef, rfl, trivial, h⟩
        ·intro q2 w Γx Ωx h
         refine OpS.bin rfl rfl rfl rfl rfl ?_
         exact ⟨undef, rfl, trivial, h⟩
        ·intro q2 w Γx Ωx h
         refine OpS.mv rfl rfl rfl ?_
         exact ⟨undef, (congrArg (fun z_ => some (Value.bool z_)) e15), trivial, h⟩
        ·intro q2 w Γx Ωx h
         exact OpS.pass rfl rfl rfl ⟨undef, rfl, trivial, h⟩
        ·intro q2 w Γx Ωx h
         exact OpS.pass rfl rfl rfl ⟨undef, rfl, trivial, h⟩
        ·intro q2 w Γx Ωx h
         exact OpS.pass rfl rfl rfl ⟨undef, rfl, trivial, h⟩
        ·intro q2 w Γx Ωx h
         exact OpS.pass rfl rfl rfl ⟨undef, rfl, trivial, h⟩
        ·intro q2 w Γx Ωx h
         refine OpS.pick rfl rfl rfl rfl ?_
         exact ⟨undef, rfl, trivial, h⟩
        have h27 : St e w [(true, .ptr (Rep.int .i64) (q2 2) x5), (true, .ptr (Rep.slice (Rep.slice (Rep.int .u8))) (q2 6) x6), (true, .val (Rep.slice (Rep.slice (Rep.int .u8))) (q2 7) x6), (true, .val (Rep.slice (Rep.slice (Rep.slice (Rep.int .u8)))) u2 y4.2.1), (true, .val (Rep.slice (Rep.int .i64)) u4 s3.1)] [(false, .opt (fun x_ => .ex fun v_ => .sep (.box 76 (Rep.iso (fun s : bus_Bus => (s.masters, ())) (Rep.prod (Rep.raw (α := List bus_master) v_) Rep.unit)) u3 x_) (.oval (oslice 85 3 (fun _ => bus_master.orep)) v_ x_.masters)) u3 s3.2.2)] := h
        refine RunL.nil ?_
        refine Run.slim [(203, .bool true), (7, .int .i64 x1), (8, u3), (9, u2), (11, u4), (22, .int .i64 s3.2.1)] ⟨rfl, rfl, rfl, rfl, rfl, rfl, trivial⟩ ?_
        refine Run.slim [(7, .int .i64 x1), (8, u3), (9, u2), (11, u4), (22, .int .i64 s3.2.1), (203, .bool true)] ⟨rfl, rfl, rfl, rfl, rfl, rfl, trivial⟩ ?_
        exact hj3 (true, s3.2.2) _ _ ⟨rfl, (h27.facts (.atm (.s (.s (.s .z))) (.atm (.s (.s (.s (.s .z)))) .nil))).picks (.cons .z .nil)⟩ hF
       ·
        have hG := hF
        subst e16
        have hF := hG
        obtain ⟨x8, e17, hF⟩ := bindP_use hF
        obtain ⟨y5, e18, hF⟩ := bindP_use hF
        refine Run.drawV (Ωs := []) [⟨some 188, some (u4), fun _ => [], fun ds_ u_ => [], [], [], none⟩, ⟨some 189, some (.int .i64 s3.2.1), fun _ => [], fun ds_ u_ => [], [], [], none⟩, ⟨some 190, none, fun u_ => [(true, .ptr (Rep.int .i64) u_ x5)], fun ds_ u_ => [], [], [], none⟩, ⟨some 191, some (.int .i64 x5), fun _ => [], fun ds_ u_ => [], [], [], none⟩, ⟨some 192, some (u2), fun _ => [], fun ds_ u_ => [], [], [], none⟩, ⟨some 193, some (.int .i64 s3.2.1), fun _ => [], fun ds_ u_ => [], [], [], none⟩, ⟨some 194, none, fun u_ => [(true, .ptr (Rep.slice (Rep.slice (Rep.int .u8))) u_ x6)], fun ds_ u_ => [], [], [], none⟩, ⟨some 195, none, fun u_ => [(true, .val (Rep.slice (Rep.slice (Rep.int .u8))) u_ x6)], fun ds_ u_ => [], [], [], none⟩, ⟨some 196, some (.int .i64 (x6.length : Int)), fun _ => [], fun ds_ u_ => [], [], [], none⟩, ⟨some 197, some (.bool (x5 != (x6.length : Int))), fun _ => [], fun ds_ u_ => [], [], [], none⟩, ⟨some 198, some (.bool false), fun _ => [], fun ds_ u_ => [], [], [], none⟩, ⟨some 199, some (u3), fun _ => [], fun ds_ u_ => [], [], [], none⟩, ⟨some 200, some (.int .i64 s3.2.1), fun _ => [], fun ds_ u_ => [], [], [], none⟩, ⟨some 201, some (.int .i64 y5), fun _ => [], fun ds_ u_ => [(false, .opt (fun x_ => .ex fun v_ => .sep (.box 76 (Rep.iso (fun s : bus_Bus => (s.masters, ())) (Rep.prod (Rep.raw (α := List bus_master) v_) Rep.unit)) u3 x_) (.oval (oslice 85 3 (fun _ => bus_master.orep)) v_ x_.masters)) u3 (some x8))], [0], [], none⟩, ⟨some 202, some (.bool (y5 != 0)), fun _ => [], fun ds_ u_ => [], [], [], none⟩, ⟨some 203, some (.bool (y5 != 0)), fun _ => [], fun ds_ u_ => [], [], [], none⟩] [[], [], [0, 1], [2], [], [], [4, 5], [6], [7], [3, 8], [9], [10], [10], [11, 12, 10], [13, 10], [10, 14]] [[(false, .opt (fun x_ => .ex fun v_ => .sep (.box 76 (Rep.iso (fun s : bus_Bus => (s.masters, ())) (Rep.prod (Rep.raw (α := List bus_master) v_) Rep.unit)) u3 x_) (.oval (oslice 85 3 (fun _ => bus_master.orep)) v_ x_.masters)) u3 s3.2.2)]] [1, 2, 3, 4, 5, 6, 7, 8, 9, 10, 11, 12, 13, 14, 15, 16] Try_mixed rfl rfl rfl h19 (.cons ?_ (.cons ?_ (.cons ?_ (.cons ?_ (.cons ?_ (.cons ?_ (.cons ?_ (.cons ?_ (.cons ?_ (.cons ?_ (.cons ?_ (.cons ?_ (.cons ?_ (.cons ?_ (.cons ?_ (.cons ?_ .nil)))))))))))))))) (fun q2 w hq3 h => ?_)
        ·intro q2 w Γx Ωx h
         refine OpS.mv rfl rfl rfl ?_
         exact ⟨undef, rfl, trivial, h⟩
        ·intro q2 w Γx Ωx h
         refine OpS.mv rfl rfl rfl ?_
         exact ⟨undef, rfl, trivial, h⟩
        ·intro q2 w Γx Ωx h
         refine OpS.iptr h Try.underlying33 ty3 rfl rfl rfl rfl (V.at (.s .z)) e13 (fun u h36 => ?_)
         exact ⟨u, rfl, trivial, h36⟩
        ·intro q2 w Γx Ωx h
         refine OpS.loadi h ty3 rfl rfl rfl .z ?_
         exact ⟨undef, rfl, trivial, h⟩
        ·intro q2 w Γx Ωx h
         refine OpS.mv rfl rfl rfl ?_
         exact ⟨undef, rfl, trivial, h⟩
        ·intro q2 w Γx Ωx h
         refine OpS.mv rfl rfl rfl ?_
         exact ⟨undef, rfl, trivial, h⟩
        ·intro q2 w Γx Ωx h
         refine OpS.iptr h Try.underlying54 ty59 rfl rfl rfl rfl (V.at .z) e14 (fun u h37 => ?_)
         exact ⟨u, rfl, trivial, h37⟩
        ·intro q2 w Γx Ωx h
         refine OpS.load h ty59 rfl rfl rfl .z (fun u h38 => ?_)
         exact ⟨u, rfl, trivial, h38⟩
        ·intro q2 w Γx Ωx h
         refine OpS.len h Try.underlying59 rfl rfl rfl (V.at .z) ?_
         exact ⟨undef, rfl, trivial, h⟩
        ·intro q2 w Γx Ωx h
         refine OpS.bin rfl rfl rfl rfl rfl ?_
         exact ⟨undef, rfl, trivial, h⟩
        ·intro q2 w Γx Ωx h
         refine OpS.mv rfl rfl rfl ?_
         exact ⟨undef, (congrArg (fun z_ => some (Value.bool z_)) e15), trivial, h⟩
        ·intro q2 w Γx Ωx h
         refine OpS.mv rfl rfl rfl ?_
         exact ⟨undef, rfl, trivial, h⟩
        ·intro q2 w Γx Ωx h
         refine OpS.mv rfl rfl rfl ?_
         exact ⟨undef, rfl, trivial, h⟩
        ·intro q2 w Γx Ωx h
         have h : St e w ([(true, .val (Rep.slice (Rep.slice (Rep.slice (Rep.int .u8)))) u2 y4.2.1), (true, .val (Rep.slice (Rep.int .i64)) u4 s3.1)] ++ Γx) ([(false, .opt (fun x_ => .ex fun v_ => .sep (.box 76 (Rep.iso (fun s : bus_Bus => (s.masters, ())) (Rep.prod (Rep.raw (α := List bus_master) v_) Rep.unit)) u3 x_) (.oval (oslice 85 3 (fun _ => bus_master.orep)) v_ x_.masters)) u3 s3.2.2)] ++ Ωx) := h
         have h39 := St.unopt (h.pick .z) e17
         obtain ⟨u6, h40⟩ := h39.unex
         have h41 := h40.unsep
         have h42 := h41.front (.cons .z (.cons .z .nil))
         refine OpS.callO h42 Try.func22 rfl rfl rfl rfl (vs := [u3, .int .i64 s3.2.1]) rfl (bus_Bus_Pending_ok e18) rfl .nil ?_
         rintro _ w14 _ _ _ ⟨rfl, rfl, rfl, rfl⟩ h43
         have h44 := h43
         simp only [List.cons_append, List.nil_append] at h44
         have h45 := h44.front (.cons .z (.cons .z .nil))
         have h46 := St.some (H := (fun x_ => .ex fun v_ => .sep (.box 76 (Rep.iso (fun s : bus_Bus => (s.masters, ())) (Rep.prod (Rep.raw (α := List bus_master) v_) Rep.unit)) u3 x_) (.oval (oslice 85 3 (fun _ => bus_master.orep)) v_ x_.masters))) (q := u3) (x := x8) (St.ex (H := fun v_ => .sep (.box 76 (Rep.iso (fun s : bus_Bus => (s.masters, ())) (Rep.prod (Rep.raw (α := List bus_master) v_) Rep.unit)) u3 x8) (.oval (oslice 85 3 (fun _ => bus_master.orep)) v_ x8.masters)) u6 (St.sep h45))
         exact ⟨undef, rfl, trivial, h46⟩
        ·intro q2 w Γx Ωx h
         refine OpS.bin rfl rfl rfl rfl rfl ?_
         exact ⟨undef, rfl, trivial, h⟩
        ·intro q2 w Γx Ωx h
         refine OpS.pick rfl rfl rfl rfl ?_
         exact ⟨undef, rfl, trivial, h⟩
        have h47 : St e w [(true, .ptr (Rep.int .i64) (q2 2) x5), (true, .ptr (Rep.slice (Rep.slice (Rep.int .u8))) (q2 6) x6), (true, .val (Rep.slice (Rep.slice (Rep.int .u8))) (q2 7) x6), (true, .val (Rep.slice (Rep.slice (Rep.slice (Rep.int .u8)))) u2 y4.2.1), (true, .val (Rep.slice (Rep.int .i64)) u4 s3.1)] [(false, .opt (fun x_ => .ex fun v_ => .sep (.box 76 (Rep.iso (fun s : bus_Bus => (s.masters, ())) (Rep.prod (Rep.raw (α := List bus_master) v_) Rep.unit)) u3 x_) (.oval (oslice 85 3 (fun _ => bus_master.orep)) v_ x_.masters)) u3 (some x8))] := h
        refine RunL.nil ?_
        refine Run.slim [(203, .bool (y5 != 0)), (7, .int .i64 x1), (8, u3), (9, u2), (11, u4), (22, .int .i64 s3.2.1)] ⟨rfl, rfl, rfl, rfl, rfl, rfl, trivial⟩ ?_
        refine Run.slim [(7, .int .i64 x1), (8, u3), (9, u2), (11, u4), (22, .int .i64 s3.2.1), (203, .bool (y5 != 0))] ⟨rfl, rfl, rfl, rfl, rfl, rfl, trivial⟩ ?_
        exact hj3 (y5 != 0, (some x8)) _ _ ⟨rfl, (h47.facts (.atm (.s (.s (.s .z))) (.atm (.s (.s (.s (.s .z)))) .nil))).picks (.cons .z .nil)⟩ hF
     ·
      refine Run.exit rfl ?_
      refine Run.seq ?_
      refine Run.reg ?_
      obtain ⟨y6, e19, hF⟩ := bindP_use hF
      refine op (OpS.callP h19 Try.func10 rfl rfl rfl rfl (vs := []) rfl (law21_awake_ok e19) .nil ?_)
      rintro _ w15 _ _ _ ⟨rfl, rfl, rfl, rfl⟩ h48
      have h49 := h48 rfl rfl
      simp only [List.cons_append, List.nil_append] at h49
      refine op (OpS.as rfl rfl rfl ?_)
      refine RunL.nil ?_
      refine Run.slim [(6, .bool y6)] ⟨rfl, trivial⟩ ?_
      refine Run.retP rfl (.tmp rfl .nil) ?_
      cases hF
      exact Post.mk' ⟨rfl, rfl, rfl, rfl⟩ (h49.picks .nil) .nil
    ·
     refine Run.block ?_
     refine Run.slim [(2, v2), (7, .int .i64 x1), (8, u1), (9, u2), (11, (q1 1)), (12, (q1 3)), (13, .int .i64 0)] ⟨rfl, rfl, rfl, rfl, rfl, rfl, rfl, trivial⟩ ?_
     refine Run.loopP (σ := (Int × (List Int) × (List Int) × (Option bus_Bus))) (fun s_ L_ w_ => ∃ u0_ : Value, L_ = [(2, v2), (7, .int .i64 x1), (8, u0_), (9, u2), (11, (q1 1)), (12, (q1 3)), (13, .int .i64 s_.1)] ∧ St e w_ [(false, .val (Rep.slice Fault_.rep) v2 a2), (true, .val (Rep.slice (Rep.slice (Rep.slice (Rep.int .u8)))) u2 y4.2.1)] [(true, .slice 3 (Rep.int .i64) (q1 1) s_.2.1), (true, .slice 3 (Rep.int .i64) (q1 3) s_.2.2.1), (false, .opt (fun x_ => .ex fun v_ => .sep (.box 76 (Rep.iso (fun s : bus_Bus => (s.masters, ())) (Rep.prod (Rep.raw (α := List bus_master) v_) Rep.unit)) u0_ x_) (.oval (oslice 85 3 (fun _ => bus_master.orep)) v_ x_.masters)) u0_ s_.2.2.2)]) hF ⟨u1, rfl, (h16.facts (.atm (.s (.s .z)) (.atm .z .nil))).picks (.cons .z (.cons .z (.cons .z .nil)))⟩ (fun k2 hk2 s5 _ w16 hI hF => ?_)
     obtain ⟨u7, rfl, h50⟩ := hI
     refine Run.seq ?_
     refine Run.seq ?_
     refine Run.reg ?_
     refine op (OpS.mv rfl rfl rfl ?_)
     refine op (OpS.bin rfl rfl rfl rfl rfl ?_)
     refine RunL.nil ?_
     refine Run.slim [(49, .bool (decide (s5.1 < 160))), (2, v2), (7, .int .i64 x1), (8, u7), (9, u2), (11, (q1 1)), (12, (q1 3)), (13, .int .i64 s5.1)] ⟨rfl, rfl, rfl, rfl, rfl, rfl, rfl, rfl, trivial⟩ ?_
     refine Run.ite rfl hF (fun e20 hF => ?_) (fun e20 hF => ?_)
     ·
      refine Run.skip ?_
      refine Run.seq ?_
      refine Run.block ?_
      refine Run.seq ?_
      refine Run.reg ?_
      refine op (OpS.build (f := true) (x' := Fault_.z) h50 pl38 ti38 Fault_.zr rfl rfl rfl .nil (fun u8 h51 => ?_))
      refine op (OpS.alloc h51 ti38 Fault_.zr rfl rfl (fun u9 w17 h52 => ?_))
      refine op (OpS.storeB (f' := true) h52 .z PA.z Put.id ty38 rfl rfl rfl (V.at .z) (.inl rfl) (fun w18 h53 => ?_))
      refine RunL.nil ?_
      refine Run.slim [(14, u9), (2, v2), (7, .int .i64 x1), (8, u7), (9, u2), (11, (q1 1)), (12, (q1 3)), (13, .int .i64 s5.1)] ⟨rfl, rfl, rfl, rfl, rfl, rfl, rfl, rfl, trivial⟩ ?_
      refine Run.seq ?_
      refine Run.seq ?_
      refine Run.reg ?_
      refine op (OpS.mv rfl rfl rfl ?_)
      refine op (OpS.mv rfl rfl rfl ?_)
      refine op (OpS.len h53 Try.underlying63 rfl rfl rfl (V.at (.s .z)) ?_)
      refine op (OpS.bin rfl rfl rfl rfl rfl ?_)
      refine RunL.nil ?_
      refine Run.slim [(56, .bool (decide (s5.1 < (a2.length : Int)))), (14, u9), (2, v2), (7, .int .i64 x1), (8, u7), (9, u2), (11, (q1 1)), (12, (q1 3)), (13, .int .i64 s5.1)] ⟨rfl, rfl, rfl, rfl, rfl, rfl, rfl, rfl, rfl, trivial⟩ ?_
      refine Run.join (σ := Fault_) (fun s_ L_ w_ => L_ = [(2, v2), (7, .int .i64 x1), (8, u7), (9, u2), (11, (q1 1)), (12, (q1 3)), (13, .int .i64 s5.1), (14, u9)] ∧ St e w_ [(false, .val (Rep.slice Fault_.rep) v2 a2), (true, .val (Rep.slice (Rep.slice (Rep.slice (Rep.int .u8)))) u2 y4.2.1)] [(false, .opt (fun x_ => .ex fun v_ => .sep (.box 76 (Rep.iso (fun s : bus_Bus => (s.masters, ())) (Rep.prod (Rep.raw (α := List bus_master) v_) Rep.unit)) u7 x_) (.oval (oslice 85 3 (fun _ => bus_master.orep)) v_ x_.masters)) u7 s5.2.2.2), (false, .box 38 Fault_.rep u9 s_), (true, .slice 3 (Rep.int .i64) (q1 1) s5.2.1), (true, .slice 3 (Rep.int .i64) (q1 3) s5.2.2.1)]) hF (fun s6 _ w19 hI hF => ?_) (fun j4 hj4 hF => ?_)
      ·
       obtain ⟨rfl, h54⟩ := hI
       refine Run.seq ?_
       refine Run.reg ?_
       refine op (OpS.mv rfl rfl rfl ?_)
       refine op (OpS.loadB h54 (.s .z) PA.z Get.id ty38 rfl rfl rfl (fun u10 h55 => ?_))
       obtain ⟨x9, e21, hF⟩ := bindP_use hF
       have h56 := St.unopt (h55.pick .z) e21
       obtain ⟨u11, h57⟩ := h56.unex
       have h58 := h57.unsep
       obtain ⟨y7, e22, hF⟩ := bindP_use hF
       have h59 := h58.front (.cons .z (.cons .z .nil))
       refine op (OpS.callO h59 Try.func18 rfl rfl rfl rfl (vs := [u7, u10]) rfl (bus_Bus_Step_ok e22) rfl (.cons (f := false) (V.at .z) .nil) ?_)
       rintro _ w20 _ _ _ ⟨u12, u13, rfl, rfl, rfl, rfl⟩ h60
       have h61 := h60
       simp only [List.cons_append, List.nil_append] at h61
       refine op (OpS.mv rfl rfl rfl ?_)
       refine op (OpS.ext rfl rfl rfl rfl ?_)
       refine op (OpS.ext rfl rfl rfl rfl ?_)
       refine op (OpS.alloc h61 ti46 Delivery_.zr rfl rfl (fun u14 w21 h62 => ?_))
       refine op (OpS.storeB (f' := true) h62 .z PA.z Put.id ty46 rfl rfl rfl (V.at .z) (.inl rfl) (fun w22 h63 => ?_))
       refine op (OpS.as rfl rfl rfl ?_)
       refine RunL.nil ?_
       refine Run.slim [(16, .bool y7.2.1), (15, u14), (2, v2), (7, .int .i64 x1), (8, u7), (9, u2), (11, (q1 1)), (12, (q1 3)), (13, .int .i64 s5.1), (14, u9)] ⟨rfl, rfl, rfl, rfl, rfl, rfl, rfl, rfl, rfl, rfl, trivial⟩ ?_
       refine Run.seq ?_
       refine Run.seq ?_
       refine Run.reg ?_
       refine op (OpS.mv rfl rfl rfl ?_)
       refine op (OpS.not rfl rfl rfl ?_)
       refine RunL.nil ?_
       refine Run.slim [(69, .bool (!y7.2.1)), (15, u14), (2, v2), (7, .int .i64 x1), (8, u7), (9, u2), (11, (q1 1)), (12, (q1 3)), (13, .int .i64 s5.1), (14, u9)] ⟨rfl, rfl, rfl, rfl, rfl, rfl, rfl, rfl, rfl, rfl, trivial⟩ ?_
       refine Run.ite rfl hF (fun e23 hF => ?_) (fun e23 hF => ?_)
       ·
        refine Run.exit rfl ?_
        have h64 := h63.front (.cons (.s .z) (.cons (.s .z) .nil))
        have h65 := St.some (H := (fun x_ => .ex fun v_ => .sep (.box 76 (Rep.iso (fun s : bus_Bus => (s.masters, ())) (Rep.prod (Rep.raw (α := List bus_master) v_) Rep.unit)) u7 x_) (.oval (oslice 85 3 (fun _ => bus_master.orep)) v_ x_.masters))) (q := u7) (x := y7.2.2) (St.ex (H := fun v_ => .sep (.box 76 (Rep.iso (fun s : bus_Bus => (s.masters, ())) (Rep.prod (Rep.raw (α := List bus_master) v_) Rep.unit)) u7 y7.2.2) (.oval (oslice 85 3 (fun _ => bus_master.orep)) v_ y7.2.2.masters)) u13 (St.sep h64))
        refine Run.slim [(7, .int .i64 x1), (8, u7), (9, u2), (11, (q1 1))] ⟨rfl, rfl, rfl, rfl, trivial⟩ ?_
        exact hj2 (s5.2.1, (some y7.2.2)) _ _ ⟨u7, rfl, (h65.facts (.atm (.s (.s (.s .z))) .nil)).picks (.cons (.s (.s (.s .z))) (.cons .z .nil))⟩ hF
       ·
        refine Run.skip ?_
        refine Run.seq ?_
        refine Run.seq ?_
        refine Run.reg ?_
        refine op (OpS.as rfl rfl rfl ?_)
        refine RunL.nil ?_
        refine Run.slim [(17, .int .i64 0), (15, u14), (2, v2), (7, .int .i64 x1), (8, u7), (9, u2), (11, (q1 1)), (12, (q1 3)), (13, .int .i64 s5.1), (14, u9)] ⟨rfl, rfl, rfl, rfl, rfl, rfl, rfl, rfl, rfl, rfl, trivial⟩ ?_
        refine Run.block ?_
        refine Run.slim [(2, v2), (7, .int .i64 x1), (8, u7), (9, u2), (11, (q1 1)), (12, (q1 3)), (13, .int .i64 s5.1), (14, u9), (15, u14), (17, .int .i64 0)] ⟨rfl, rfl, rfl, rfl, rfl, rfl, rfl, rfl, rfl, rfl, trivial⟩ ?_
        refine Run.loopP (σ := (Int × (List Int) × (List Int))) (fun s_ L_ w_ => L_ = [(2, v2), (7, .int .i64 x1), (8, u7), (9, u2), (11, (q1 1)), (12, (q1 3)), (13, .int .i64 s5.1), (14, u9), (15, u14), (17, .int .i64 s_.1)] ∧ St e w_ [(false, .val (Rep.slice Fault_.rep) v2 a2), (true, .val (Rep.slice (Rep.slice (Rep.slice (Rep.int .u8)))) u2 y4.2.1)] [(false, .box 76 (Rep.iso (fun s : bus_Bus => (s.masters, ())) (Rep.prod (Rep.raw (α := List bus_master) u13) Rep.unit)) u7 y7.2.2), (false, .box 38 Fault_.rep u9 s6), (true, .box 46 Delivery_.rep u14 y7.1), (true, .slice 3 (Rep.int .i64) (q1 1) s_.2.1), (true, .slice 3 (Rep.int .i64) (q1 3) s_.2.2), (false, .oval (oslice 85 3 (fun _ => bus_master.orep)) u13 y7.2.2.masters)]) hF ⟨rfl, (h63.facts (.atm (.s (.s .z)) (.atm (.s (.s (.s .z))) .nil))).picks (.cons (.s .z) (.cons (.s (.s .z)) (.cons .z (.cons (.s .z) (.cons (.s .z) (.cons .z .nil))))))⟩ (fun k3 hk3 s7 _ w23 hI hF => ?_)
        obtain ⟨rfl, h66⟩ := hI
        refine Run.seq ?_
        refine Run.seq ?_
        refine Run.reg ?_
        refine op (OpS.mv rfl rfl rfl ?_)
        refine op (OpS.fbox (o3 := 0) h66 (.s (.s .z)) PA.z fa46_0 rfl rfl rfl rfl ?_)
        refine op (OpS.loadB h66 (.s (.s .z)) PA.a (Get.fld Delivery_.f0) ty33 rfl rfl rfl (fun u15 h67 => ?_))
        refine op (OpS.len h67 Try.underlying33 rfl rfl rfl (V.at .z) ?_)
        refine op (OpS.bin rfl rfl rfl rfl rfl ?_)
        refine RunL.nil ?_
        refine Run.slim [(74, .bool (decide (s7.1 < (y7.1.Masters.length : Int)))), (2, v2), (7, .int .i64 x1), (8, u7), (9, u2), (11, (q1 1)), (12, (q1 3)), (13, .int .i64 s5.1), (14, u9), (15, u14), (17, .int .i64 s7.1)] ⟨rfl, rfl, rfl, rfl, rfl, rfl, rfl, rfl, rfl, rfl, rfl, trivial⟩ ?_
        refine Run.ite rfl hF (fun e24 hF => ?_) (fun e24 hF => ?_)
        ·
         refine Run.skip ?_
         refine Run.seq ?_
         refine Run.block ?_
         refine Run.seq ?_
         refine Run.reg ?_
         refine op (OpS.fbox (o3 := 0) h67 (.s (.s .z)) PA.z fa46_0 rfl rfl rfl rfl ?_)
         refine op (OpS.loadB h67 (.s (.s .z)) PA.a (Get.fld Delivery_.f0) ty33 rfl rfl rfl (fun u16 h68 => ?_))
         refine op (OpS.mv rfl rfl rfl ?_)
         obtain ⟨x10, e25, hF⟩ := bindP_use hF
         refine op (OpS.iptr h68 Try.underlying33 ty3 rfl rfl rfl rfl (V.at .z) e25 (fun u17 h69 => ?_))
         refine op (OpS.loadi h69 ty3 rfl rfl rfl .z ?_)
         refine op (OpS.as rfl rfl rfl ?_)
         refine RunL.nil ?_
         refine Run.slim [(18, .int .i64 x10), (2, v2), (7, .int .i64 x1), (8, u7), (9, u2), (11, (q1 1)), (12, (q1 3)), (13, .int .i64 s5.1), (14, u9), (15, u14), (17, .int .i64 s7.1)] ⟨rfl, rfl, rfl, rfl, rfl, rfl, rfl, rfl, rfl, rfl, rfl, trivial⟩ ?_
         refine Run.seq ?_
         refine Run.seq ?_
         refine Run.join (σ := Bool) (fun s_ L_ w_ => L_ = [(2, v2), (7, .int .i64 x1), (8, u7), (9, u2), (11, (q1 1)), (12, (q1 3)), (13, .int .i64 s5.1), (14, u9), (15, u14), (17, .int .i64 s7.1), (18, .int .i64 x10), (100, .bool s_)] ∧ St e w_ [(false, .val (Rep.slice Fault_.rep) v2 a2), (true, .val (Rep.slice (Rep.slice (Rep.slice (Rep.int .u8)))) u2 y4.2.1)] [(false, .box 76 (Rep.iso (fun s : bus_Bus => (s.masters, ())) (Rep.prod (Rep.raw (α := List bus_master) u13) Rep.unit)) u7 y7.2.2), (false, .box 38 Fault_.rep u9 s6), (true, .box 46 Delivery_.rep u14 y7.1), (true, .slice 3 (Rep.int .i64) (q1 1) s7.2.1), (true, .slice 3 (Rep.int .i64) (q1 3) s7.2.2), (false, .oval (oslice 85 3 (fun _ => bus_master.orep)) u13 y7.2.2.masters)]) hF (fun s8 _ w24 hI hF => ?_) (fun j5 hj5 hF => ?_)
         ·
          obtain ⟨rfl, h70⟩ := hI
          refine Run.ite rfl hF (fun e26 hF => ?_) (fun e26 hF => ?_)
          ·
           refine Run.seq ?_
           refine Run.reg ?_
           refine op (OpS.as rfl rfl rfl ?_)
           refine RunL.nil ?_
           refine Run.slim [(6, .bool false)] ⟨rfl, trivial⟩ ?_
           refine Run.retP rfl (.tmp rfl .nil) ?_
           cases hF
           exact Post.mk' ⟨rfl, rfl, rfl, rfl⟩ (h70.picks .nil) .nil
          ·
           refine Run.skip ?_
           refine Run.seq ?_
           refine Run.reg ?_
           refine op (OpS.mv rfl rfl rfl ?_)
           refine op (OpS.mv rfl rfl rfl ?_)
           obtain ⟨x11, e27, hF⟩ := bindP_use hF
           refine op (OpS.iown h70 (.s (.s (.s (.s .z)))) Try.underlying33 ty3 rfl rfl rfl rfl e27 ?_)
           refine op (OpS.loadOi h70 (.s (.s (.s (.s .z)))) (idx_ne e27) PA.a (Get.arr e27) ty3 rfl rfl rfl ?_)
           refine op (OpS.bin rfl rfl rfl rfl rfl ?_)
           obtain ⟨x12, e28, hF⟩ := bindP_use hF
           refine op (OpS.iown h70 (.s (.s (.s (.s .z)))) Try.underlying33 ty3 rfl rfl rfl rfl e28 ?_)
           obtain ⟨d1, e29, hF⟩ := letP_use hF
           refine op (OpS.storeO (f' := true) h70 (.s (.s (.s (.s .z)))) (idx_ne e28) PA.a (Put.of (Put.arr e28) e29) ty3 rfl rfl rfl V.int (.inl rfl) (fun w25 h71 => ?_))
           refine RunL.nil ?_
           refine Run.slim [(2, v2), (7, .int .i64 x1), (8, u7), (9, u2), (11, (q1 1)), (12, (q1 3)), (13, .int .i64 s5.1), (14, u9), (15, u14), (17, .int .i64 s7.1), (18, .int .i64 x10)] ⟨rfl, rfl, rfl, rfl, rfl, rfl, rfl, rfl, rfl, rfl, rfl, trivial⟩ ?_
           refine Run.seq ?_
           have h72 := h71.picks (.cons (.s (.s (.s (.s .z)))) (.cons .z (.cons .z (.cons .z (.cons .z (.cons .z .nil))))))
           obtain ⟨x13, e30, hF⟩ := bindP_use hF
           obtain ⟨x14, e31, hF⟩ := bindP_use hF
           obtain ⟨x15, e32, hF⟩ := bindP_use hF
           refine Run.drawV (Ωs := [(true, .slice 3 (Rep.int .i64) (q1 3) d1), (false, .box 76 (Rep.iso (fun s : bus_Bus => (s.masters, ())) (Rep.prod (Rep.raw (α := List bus_master) u13) Rep.unit)) u7 y7.2.2), (false, .box 38 Fault_.rep u9 s6), (true, .box 46 Delivery_.rep u14 y7.1), (false, .oval (oslice 85 3 (fun _ => bus_master.orep)) u13 y7.2.2.masters)]) [⟨some 107, some (u2), fun _ => [], fun ds_ u_ => [], [], [], none⟩, ⟨some 108, some (.int .i64 x10), fun _ => [], fun ds_ u_ => [], [], [], none⟩, ⟨some 109, none, fun u_ => [(true, .ptr (Rep.slice (Rep.slice (Rep.int .u8))) u_ x13)], fun ds_ u_ => [], [], [], none⟩, ⟨some 110, none, fun u_ => [(true, .val (Rep.slice (Rep.slice (Rep.int .u8))) u_ x13)], fun ds_ u_ => [], [], [], none⟩, ⟨some 111, some ((q1 1)), fun _ => [], fun ds_ u_ => [], [], [], none⟩, ⟨some 112, some (.int .i64 x10), fun _ => [], fun ds_ u_ => [], [], [], none⟩, ⟨some 113, some ((padd (sp (q1 1)) ((x10 : Int).toNat * (Rep.int .i64).n))), fun _ => [], fun ds_ u_ => [], [], [(0, [])], none⟩, ⟨some 114, some (.int .i64 x14), fun _ => [], fun ds_ u_ => [], [], [(0, [])], none⟩, ⟨some 115, none, fun u_ => [(true, .ptr (Rep.slice (Rep.int .u8)) u_ x15)], fun ds_ u_ => [], [], [], none⟩, ⟨some 116, none, fun u_ => [(true, .val (Rep.slice (Rep.int .u8)) u_ x15)], fun ds_ u_ => [], [], [], none⟩] [[], [], [0, 1], [2], [], [], [4, 5], [6], [3, 7], [8]] [[(true, .slice 3 (Rep.int .i64) (q1 1) s7.2.1)]] [0, 1, 2, 3, 4, 5, 6, 7, 8, 9, 10] Try_mixed rfl rfl rfl h72 (.cons ?_ (.cons ?_ (.cons ?_ (.cons ?_ (.cons ?_ (.cons ?_ (.cons ?_ (.cons ?_ (.cons ?_ (.cons ?_ .nil)))))))))) (fun q3 w hq4 h => ?_)
           ·intro q3 w Γx Ωx h
            refine OpS.mv rfl rfl rfl ?_
            exact ⟨undef, rfl, trivial, h⟩
           ·intro q3 w Γx Ωx h
            refine OpS.mv rfl rfl rfl ?_
            exact ⟨undef, rfl, trivial, h⟩
           ·intro q3 w Γx Ωx h
            refine OpS.iptr h Try.underlying54 ty59 rfl rfl rfl rfl (V.at (.s .z)) e30 (fun u h77 => ?_)
            exact ⟨u, rfl, trivial, h77⟩
           ·intro q3 w Γx Ωx h
            refine OpS.load h ty59 rfl rfl rfl .z (fun u h78 => ?_)
            exact ⟨u, rfl, trivial, h78⟩
           ·intro q3 w Γx Ωx h
            refine OpS.mv rfl rfl rfl ?_
            exact ⟨undef, rfl, trivial, h⟩
           ·intro q3 w Γx Ωx h
            refine OpS.mv rfl rfl rfl ?_
            exact ⟨undef, rfl, trivial, h⟩
           ·intro q3 w Γx Ωx h
            have h : St e w ([(false, .val (Rep.slice Fault_.rep) v2 a2), (true, .val (Rep.slice (Rep.slice (Rep.slice (Rep.int .u8)))) u2 y4.2.1)] ++ Γx) ([(true, .slice 3 (Rep.int .i64) (q1 1) s7.2.1), (true, .slice 3 (Rep.int .i64) (q1 3) d1), (false, .box 76 (Rep.iso (fun s : bus_Bus => (s.masters, ())) (Rep.prod (Rep.raw (α := List bus_master) u13) Rep.unit)) u7 y7.2.2), (false, .box 38 Fault_.rep u9 s6), (true, .box 46 Delivery_.rep u14 y7.1), (false, .oval (oslice 85 3 (fun _ => bus_master.orep)) u13 y7.2.2.masters)] ++ Ωx) := h
            refine OpS.iown h .z Try.underlying33 ty3 rfl rfl rfl rfl e31 ?_
            exact ⟨undef, rfl, trivial, h⟩
           ·intro q3 w Γx Ωx h
            have h : St e w ([(false, .val (Rep.slice Fault_.rep) v2 a2), (true, .val (Rep.slice (Rep.slice (Rep.slice (Rep.int .u8)))) u2 y4.2.1)] ++ Γx) ([(true, .slice 3 (Rep.int .i64) (q1 1) s7.2.1), (true, .slice 3 (Rep.int .i64) (q1 3) d1), (false, .box 76 (Rep.iso (fun s : bus_Bus => (s.masters, ())) (Rep.prod (Rep.raw (α := List bus_master) u13) Rep.unit)) u7 y7.2.2), (false, .box 38 Fault_.rep u9 s6), (true, .box 46 Delivery_.rep u14 y7.1), (false, .oval (oslice 85 3 (fun _ => bus_master.orep)) u13 y7.2.2.masters)] ++ Ωx) := h
            refine OpS.loadOi h .z (idx_ne e31) PA.a (Get.arr e31) ty3 rfl rfl rfl ?_
            exact ⟨undef, rfl, trivial, h⟩
           ·intro q3 w Γx Ωx h
            refine OpS.iptr h Try.underlying59 ty34 rfl rfl rfl rfl (V.at .z) e32 (fun u h79 => ?_)
            exact ⟨u, rfl, trivial, h79⟩
           ·intro q3 w Γx Ωx h
            refine OpS.load h ty34 rfl rfl rfl .z (fun u h80 => ?_)
            exact ⟨u, rfl, trivial, h80⟩
           have h81 : St e w [(true, .ptr (Rep.slice (Rep.slice (Rep.int .u8))) (q3 2) x13), (true, .val (Rep.slice (Rep.slice (Rep.int .u8))) (q3 3) x13), (true, .ptr (Rep.slice (Rep.int .u8)) (q3 8) x15), (true, .val (Rep.slice (Rep.int .u8)) (q3 9) x15), (false, .val (Rep.slice Fault_.rep) v2 a2), (true, .val (Rep.slice (Rep.slice (Rep.slice (Rep.int .u8)))) u2 y4.2.1)] [(true, .slice 3 (Rep.int .i64) (q1 1) s7.2.1), (true, .slice 3 (Rep.int .i64) (q1 3) d1), (false, .box 76 (Rep.iso (fun s : bus_Bus => (s.masters, ())) (Rep.prod (Rep.raw (α := List bus_master) u13) Rep.unit)) u7 y7.2.2), (false, .box 38 Fault_.rep u9 s6), (true, .box 46 Delivery_.rep u14 y7.1), (false, .oval (oslice 85 3 (fun _ => bus_master.orep)) u13 y7.2.2.masters)] := h
           refine op (OpS.as rfl rfl rfl ?_)
           refine RunL.nil ?_
           refine Run.slim [(19, (q3 9)), (2, v2), (7, .int .i64 x1), (8, u7), (9, u2), (11, (q1 1)), (12, (q1 3)), (13, .int .i64 s5.1), (14, u9), (15, u14), (17, .int .i64 s7.1), (18, .int .i64 x10)] ⟨rfl, rfl, rfl, rfl, rfl, rfl, rfl, rfl, rfl, rfl, rfl, rfl, trivial⟩ ?_
           refine Run.seq ?_
           refine Run.reg ?_
           refine op (OpS.mv rfl rfl rfl ?_)
           refine op (OpS.mv rfl rfl rfl ?_)
           obtain ⟨x16, e33, hF⟩ := bindP_use hF
           refine op (OpS.iown h81 (.s .z) Try.underlying33 ty3 rfl rfl rfl rfl e33 ?_)
           refine op (OpS.loadOi h81 (.s .z) (idx_ne e33) PA.a (Get.arr e33) ty3 rfl rfl rfl ?_)
           refine op (OpS.bin rfl rfl rfl rfl rfl ?_)
           refine op (OpS.as rfl rfl rfl ?_)
           obtain ⟨x17, e34, hF⟩ := letP_use hF
           refine RunL.nameb e34 ?_
           refine RunL.nil ?_
           refine Run.slim [(20, .bool x17), (19, (q3 9)), (2, v2), (7, .int .i64 x1), (8, u7), (9, u2), (11, (q1 1)), (12, (q1 3)), (13, .int .i64 s5.1), (14, u9), (15, u14), (17, .int .i64 s7.1), (18, .int .i64 x10)] ⟨rfl, rfl, rfl, rfl, rfl, rfl, rfl, rfl, rfl, rfl, rfl, rfl, rfl, trivial⟩ ?_
           refine Run.seq ?_
           refine Run.seq ?_
           refine Run.reg ?_
           refine op (OpS.fbox (o3 := 2) h81 (.s (.s (.s (.s .z)))) PA.z fa46_2 rfl rfl rfl rfl ?_)
           refine op (OpS.loadBb h81 (.s (.s (.s (.s .z)))) PA.a (Get.fld Delivery_.f2) ty4 rfl rfl rfl ?_)
           refine op (OpS.mv rfl rfl rfl ?_)
           refine RunL.join (σ := Bool) (fun s_ L_ w_ => L_ = [(2, v2), (7, .int .i64 x1), (8, u7), (9, u2), (11, (q1 1)), (12, (q1 3)), (13, .int .i64 s5.1), (14, u9), (15, u14), (17, .int .i64 s7.1), (18, .int .i64 x10), (20, .bool x17), (148, .bool s_)] ∧ St e w_ [(false, .val (Rep.slice Fault_.rep) v2 a2), (true, .val (Rep.slice (Rep.slice (Rep.slice (Rep.int .u8)))) u2 y4.2.1)] [(false, .box 76 (Rep.iso (fun s : bus_Bus => (s.masters, ())) (Rep.prod (Rep.raw (α := List bus_master) u13) Rep.unit)) u7 y7.2.2), (false, .box 38 Fault_.rep u9 s6), (true, .box 46 Delivery_.rep u14 y7.1), (true, .slice 3 (Rep.int .i64) (q1 1) s7.2.1), (true, .slice 3 (Rep.int .i64) (q1 3) d1), (false, .oval (oslice 85 3 (fun _ => bus_master.orep)) u13 y7.2.2.masters)]) hF (fun s9 _ w26 hI hF => ?_) (fun j6 hj6 hF => ?_)
           ·
            obtain ⟨rfl, h82⟩ := hI
            refine Run.ite rfl hF (fun e35 hF => ?_) (fun e35 hF => ?_)
            ·
             refine Run.seq ?_
             refine Run.reg ?_
             refine op (OpS.as rfl rfl rfl ?_)
             refine RunL.nil ?_
             refine Run.slim [(6, .bool false)] ⟨rfl, trivial⟩ ?_
             refine Run.retP rfl (.tmp rfl .nil) ?_
             cases hF
             exact Post.mk' ⟨rfl, rfl, rfl, rfl⟩ (h82.picks .nil) .nil
            ·
             refine Run.skip ?_
             refine Run.seq ?_
             refine Run.reg ?_
             refine op (OpS.fbox (o3 := 2) h82 (.s (.s .z)) PA.z fa46_2 rfl rfl rfl rfl ?_)
             refine op (OpS.loadBb h82 (.s (.s .z)) PA.a (Get.fld Delivery_.f2) ty4 rfl rfl rfl ?_)
             refine op (OpS.mv rfl rfl rfl ?_)
             refine RunL.join (σ := Bool) (fun s_ L_ w_ => L_ = [(2, v2), (7, .int .i64 x1), (8, u7), (9, u2), (11, (q1 1)), (12, (q1 3)), (13, .int .i64 s5.1), (14, u9), (15, u14), (17, .int .i64 s7.1), (18, .int .i64 x10), (153, .bool s_)] ∧ St e w_ [(false, .val (Rep.slice Fault_.rep) v2 a2), (true, .val (Rep.slice (Rep.slice (Rep.slice (Rep.int .u8)))) u2 y4.2.1)] [(false, .box 76 (Rep.iso (fun s : bus_Bus => (s.masters, ())) (Rep.prod (Rep.raw (α := List bus_master) u13) Rep.unit)) u7 y7.2.2), (false, .box 38 Fault_.rep u9 s6), (true, .box 46 Delivery_.rep u14 y7.1), (true, .slice 3 (Rep.int .i64) (q1 1) s7.2.1), (true, .slice 3 (Rep.int .i64) (q1 3) d1), (false, .oval (oslice 85 3 (fun _ => bus_master.orep)) u13 y7.2.2.masters)]) hF (fun s10 _ w27 hI hF => ?_) (fun j7 hj7 hF => ?_)
             ·
              obtain ⟨rfl, h83⟩ := hI
              refine Run.ite rfl hF (fun e36 hF => ?_) (fun e36 hF => ?_)
              ·
               refine Run.seq ?_
               refine Run.reg ?_
               refine op (OpS.mv rfl rfl rfl ?_)
               refine op (OpS.mv rfl rfl rfl ?_)
               obtain ⟨x18, e37, hF⟩ := bindP_use hF
               refine op (OpS.iown h83 (.s (.s (.s .z))) Try.underlying33 ty3 rfl rfl rfl rfl e37 ?_)
               refine op (OpS.loadOi h83 (.s (.s (.s .z))) (idx_ne e37) PA.a (Get.arr e37) ty3 rfl rfl rfl ?_)
               refine op (OpS.bin rfl rfl rfl rfl rfl ?_)
               obtain ⟨x19, e38, hF⟩ := bindP_use hF
               refine op (OpS.iown h83 (.s (.s (.s .z))) Try.underlying33 ty3 rfl rfl rfl rfl e38 ?_)
               obtain ⟨d2, e39, hF⟩ := letP_use hF
               refine op (OpS.storeO (f' := true) h83 (.s (.s (.s .z))) (idx_ne e38) PA.a (Put.of (Put.arr e38) e39) ty3 rfl rfl rfl V.int (.inl rfl) (fun w28 h84 => ?_))
               refine RunL.nil ?_
               refine Run.slim [(2, v2), (7, .int .i64 x1), (8, u7), (9, u2), (11, (q1 1)), (12, (q1 3)), (13, .int .i64 s5.1), (14, u9), (15, u14), (17, .int .i64 s7.1), (18, .int .i64 x10)] ⟨rfl, rfl, rfl, rfl, rfl, rfl, rfl, rfl, rfl, rfl, rfl, trivial⟩ ?_
               refine Run.reg ?_
               refine op (OpS.mv rfl rfl rfl ?_)
               refine op (OpS.mv rfl rfl rfl ?_)
               obtain ⟨x20, e40, hF⟩ := bindP_use hF
               refine op (OpS.iown h84 (.s (.s (.s (.s .z)))) Try.underlying33 ty3 rfl rfl rfl rfl e40 ?_)
               obtain ⟨d3, e41, hF⟩ := letP_use hF
               refine op (OpS.storeO (f' := true) h84 (.s (.s (.s (.s .z)))) (idx_ne e40) PA.a (Put.of (Put.arr e40) e41) ty3 rfl rfl rfl V.int (.inl rfl) (fun w29 h85 => ?_))
               refine RunL.nil ?_
               refine Run.slim [(2, v2), (7, .int .i64 x1), (8, u7), (9, u2), (11, (q1 1)), (12, (q1 3)), (13, .int .i64 s5.1), (14, u9), (15, u14), (17, .int .i64 s7.1)] ⟨rfl, rfl, rfl, rfl, rfl, rfl, rfl, rfl, rfl, rfl, trivial⟩ ?_
               refine Run.endBlock ?_
               refine Run.reg ?_
               refine op (OpS.mv rfl rfl rfl ?_)
               refine op (OpS.bin rfl rfl rfl rfl rfl ?_)
               refine op (OpS.as rfl rfl rfl ?_)
               obtain ⟨x21, e42, hF⟩ := letP_use hF
               refine RunL.name e42 ?_
               refine RunL.nil ?_
               refine Run.slim [(17, .int .i64 x21), (2, v2), (7, .int .i64 x1), (8, u7), (9, u2), (11, (q1 1)), (12, (q1 3)), (13, .int .i64 s5.1), (14, u9), (15, u14)] ⟨rfl, rfl, rfl, rfl, rfl, rfl, rfl, rfl, rfl, rfl, trivial⟩ ?_
               refine Run.slim [(2, v2), (7, .int .i64 x1), (8, u7), (9, u2), (11, (q1 1)), (12, (q1 3)), (13, .int .i64 s5.1), (14, u9), (15, u14), (17, .int .i64 x21)] ⟨rfl, rfl, rfl, rfl, rfl, rfl, rfl, rfl, rfl, rfl, trivial⟩ ?_
               exact hk3 (x21, d2, d3) _ _ ⟨rfl, (h85.facts (.atm .z (.atm (.s .z) .nil))).picks (.cons (.s (.s .z)) (.cons (.s (.s .z)) (.cons (.s (.s .z)) (.cons (.s .z) (.cons .z (.cons .z .nil))))))⟩ hF
              ·
               refine Run.skip ?_
               refine Run.endBlock ?_
               refine Run.reg ?_
               refine op (OpS.mv rfl rfl rfl ?_)
               refine op (OpS.bin rfl rfl rfl rfl rfl ?_)
               refine op (OpS.as rfl rfl rfl ?_)
               obtain ⟨x22, e43, hF⟩ := letP_use hF
               refine RunL.name e43 ?_
               refine RunL.nil ?_
               refine Run.slim [(17, .int .i64 x22), (2, v2), (7, .int .i64 x1), (8, u7), (9, u2), (11, (q1 1)), (12, (q1 3)), (13, .int .i64 s5.1), (14, u9), (15, u14)] ⟨rfl, rfl, rfl, rfl, rfl, rfl, rfl, rfl, rfl, rfl, trivial⟩ ?_
               refine Run.slim [(2, v2), (7, .int .i64 x1), (8, u7), (9, u2), (11, (q1 1)), (12, (q1 3)), (13, .int .i64 s5.1), (14, u9), (15, u14), (17, .int .i64 x22)] ⟨rfl, rfl, rfl, rfl, rfl, rfl, rfl, rfl, rfl, rfl, trivial⟩ ?_
               exact hk3 (x22, s7.2.1, d1) _ _ ⟨rfl, (h83.facts (.atm .z (.atm (.s .z) .nil))).picks (.cons .z (.cons .z (.cons .z (.cons .z (.cons .z (.cons .z .nil))))))⟩ hF
             ·
              refine RunL.caseb hF (fun e44 hF => ?_) (fun e44 hF => ?_)
              ·
               refine op (OpS.pass rfl rfl rfl ?_)
               refine op (OpS.pick rfl rfl rfl rfl ?_)
               refine RunL.nil ?_
               refine Run.slim [(153, .bool true), (2, v2), (7, .int .i64 x1), (8, u7), (9, u2), (11, (q1 1)), (12, (q1 3)), (13, .int .i64 s5.1), (14, u9), (15, u14), (17, .int .i64 s7.1), (18, .int .i64 x10)] ⟨rfl, rfl, rfl, rfl, rfl, rfl, rfl, rfl, rfl, rfl, rfl, rfl, trivial⟩ ?_
               refine Run.slim [(2, v2), (7, .int .i64 x1), (8, u7), (9, u2), (11, (q1 1)), (12, (q1 3)), (13, .int .i64 s5.1), (14, u9), (15, u14), (17, .int .i64 s7.1), (18, .int .i64 x10), (153, .bool true)] ⟨rfl, rfl, rfl, rfl, rfl, rfl, rfl, rfl, rfl, rfl, rfl, rfl, trivial⟩ ?_
               exact hj7 (true) _ _ ⟨rfl, (h82.facts (.atm .z (.atm (.s .z) .nil))).picks (.cons .z (.cons .z (.cons .z (.cons .z (.cons .z (.cons .z .nil))))))⟩ hF
              ·
               refine op (OpS.mv rfl rfl rfl ?_)
               refine op (OpS.pick rfl rfl rfl rfl ?_)
               refine RunL.nil ?_
               refine Run.slim [(153, .bool x17), (2, v2), (7, .int .i64 x1), (8, u7), (9, u2), (11, (q1 1)), (12, (q1 3)), (13, .int .i64 s5.1), (14, u9), (15, u14), (17, .int .i64 s7.1), (18, .int .i64 x10)] ⟨rfl, rfl, rfl, rfl, rfl, rfl, rfl, rfl, rfl, rfl, rfl, rfl, trivial⟩ ?_
               refine Run.slim [(2, v2), (7, .int .i64 x1), (8, u7), (9, u2), (11, (q1 1)), (12, (q1 3)), (13, .int .i64 s5.1), (14, u9), (15, u14), (17, .int .i64 s7.1), (18, .int .i64 x10), (153, .bool x17)] ⟨rfl, rfl, rfl, rfl, rfl, rfl, rfl, rfl, rfl, rfl, rfl, rfl, trivial⟩ ?_
               exact hj7 (x17) _ _ ⟨rfl, (h82.facts (.atm .z (.atm (.s .z) .nil))).picks (.cons .z (.cons .z (.cons .z (.cons .z (.cons .z (.cons .z .nil))))))⟩ hF
           ·
            refine RunL.caseb hF (fun e45 hF => ?_) (fun e45 hF => ?_)
            ·
             refine op (OpS.mv rfl rfl rfl ?_)
             refine op (OpS.fbox (o3 := 1) h81 (.s (.s (.s (.s .z)))) PA.z fa46_1 rfl rfl rfl rfl ?_)
             refine op (OpS.loadB h81 (.s (.s (.s (.s .z)))) PA.a (Get.fld Delivery_.f1) ty34 rfl rfl rfl (fun u18 h86 => ?_))
             obtain ⟨y8, e46, hF⟩ := bindP_use hF
             refine op (OpS.callP h86 Try.func26 rfl rfl rfl rfl (vs := [(q3 9), u18]) rfl (ref01_Same_ok e46) (.cons (f := true) (V.at (.s (.s (.s (.s .z))))) (.cons (f := true) (V.at .z) .nil)) ?_)
             rintro _ w30 _ _ _ ⟨rfl, rfl, rfl, rfl⟩ h87
             have h88 := h87 rfl rfl
             simp only [List.cons_append, List.nil_append] at h88
             refine op (OpS.not rfl rfl rfl ?_)
             refine op (OpS.mv rfl rfl rfl ?_)
             refine RunL.caseb hF (fun e47 hF => ?_) (fun e47 hF => ?_)
             ·
              refine op (OpS.pass rfl rfl rfl ?_)
              refine op (OpS.pass rfl rfl rfl ?_)
              refine op (OpS.pass rfl rfl rfl ?_)
              refine op (OpS.pick rfl rfl rfl rfl ?_)
              refine op (OpS.pick rfl rfl rfl rfl ?_)
              refine op (OpS.mv rfl rfl rfl ?_)
              refine op (OpS.pass rfl rfl rfl ?_)
              refine op (OpS.pass rfl rfl rfl ?_)
              refine op (OpS.pass rfl rfl rfl ?_)
              refine op (OpS.pass rfl rfl rfl ?_)
              refine op (OpS.pass rfl rfl rfl ?_)
              refine op (OpS.pass rfl rfl rfl ?_)
              refine op (OpS.pass rfl rfl rfl ?_)
              refine op (OpS.pass rfl rfl rfl ?_)
              refine op (OpS.pass rfl rfl rfl ?_)
              refine op (OpS.pass rfl rfl rfl ?_)
              refine op (OpS.pass rfl rfl rfl ?_)
              refine op (OpS.pick rfl rfl rfl rfl ?_)
              refine RunL.nil ?_
              refine Run.slim [(148, .bool true), (20, .bool x17), (2, v2), (7, .int .i64 x1), (8, u7), (9, u2), (11, (q1 1)), (12, (q1 3)), (13, .int .i64 s5.1), (14, u9), (15, u14), (17, .int .i64 s7.1), (18, .int .i64 x10)] ⟨rfl, rfl, rfl, rfl, rfl, rfl, rfl, rfl, rfl, rfl, rfl, rfl, rfl, trivial⟩ ?_
              refine Run.slim [(2, v2), (7, .int .i64 x1), (8, u7), (9, u2), (11, (q1 1)), (12, (q1 3)), (13, .int .i64 s5.1), (14, u9), (15, u14), (17, .int .i64 s7.1), (18, .int .i64 x10), (20, .bool x17), (148, .bool true)] ⟨rfl, rfl, rfl, rfl, rfl, rfl, rfl, rfl, rfl, rfl, rfl, rfl, rfl, trivial⟩ ?_
              exact hj6 (true) _ _ ⟨rfl, (h88.facts (.atm (.s (.s (.s (.s (.s .z))))) (.atm (.s (.s (.s (.s (.s (.s .z)))))) .nil))).picks (.cons (.s (.s .z)) (.cons (.s (.s .z)) (.cons (.s (.s .z)) (.cons .z (.cons .z (.cons .z .nil))))))⟩ hF
             ·
              refine op (OpS.fbox (o3 := 0) h88 (.s (.s (.s .z))) PA.z fa38_0 rfl rfl rfl rfl ?_)
              refine op (OpS.loadBi h88 (.s (.s (.s .z))) PA.a (Get.fld Fault_.f0) ty3 rfl rfl rfl ?_)
              refine op (OpS.bin rfl rfl rfl rfl rfl ?_)
              refine op (OpS.pick rfl rfl rfl rfl ?_)
              refine op (OpS.pick rfl rfl rfl rfl ?_)
              refine op (OpS.mv rfl rfl rfl ?_)
              refine RunL.caseb hF (fun e48 hF => ?_) (fun e48 hF => ?_)
              ·
               refine op (OpS.pass rfl rfl rfl ?_)
               refine op (OpS.pass rfl rfl rfl ?_)
               refine op (OpS.pass rfl rfl rfl ?_)
               refine op (OpS.pass rfl rfl rfl ?_)
               refine op (OpS.pass rfl rfl rfl ?_)
               refine op (OpS.pass rfl rfl rfl ?_)
               refine op (OpS.pass rfl rfl rfl ?_)
               refine op (OpS.pass rfl rfl rfl ?_)
               refine op (OpS.pass rfl rfl rfl ?_)
               refine op (OpS.pass rfl rfl rfl ?_)
               refine op (OpS.pass rfl rfl rfl ?_)
               refine op (OpS.pick rfl rfl rfl rfl ?_)
               refine RunL.nil ?_
               refine Run.slim [(148, .bool true), (20, .bool x17), (2, v2), (7, .int .i64 x1), (8, u7), (9, u2), (11, (q1 1)), (12, (q1 3)), (13, .int .i64 s5.1), (14, u9), (15, u14), (17, .int .i64 s7.1), (18, .int .i64 x10)] ⟨rfl, rfl, rfl, rfl, rfl, rfl, rfl, rfl, rfl, rfl, rfl, rfl, rfl, trivial⟩ ?_
               refine Run.slim [(2, v2), (7, .int .i64 x1), (8, u7), (9, u2), (11, (q1 1)), (12, (q1 3)), (13, .int .i64 s5.1), (14, u9), (15, u14), (17, .int .i64 s7.1), (18, .int .i64 x10), (20, .bool x17), (148, .bool true)] ⟨rfl, rfl, rfl, rfl, rfl, rfl, rfl, rfl, rfl, rfl, rfl, rfl, rfl, trivial⟩ ?_
               exact hj6 (true) _ _ ⟨rfl, (h88.facts (.atm (.s (.s (.s (.s (.s .z))))) (.atm (.s (.s (.s (.s (.s (.s .z)))))) .nil))).picks (.cons (.s (.s .z)) (.cons (.s (.s .z)) (.cons (.s (.s .z)) (.cons .z (.cons .z (.cons .z .nil))))))⟩ hF
              ·
               refine op (OpS.fbox (o3 := 2) h88 (.s (.s (.s (.s .z)))) PA.z fa46_2 rfl rfl rfl rfl ?_)
               refine op (OpS.loadBb h88 (.s (.s (.s (.s .z)))) PA.a (Get.fld Delivery_.f2) ty4 rfl rfl rfl ?_)
               refine op (OpS.not rfl rfl rfl ?_)
               refine op (OpS.mv rfl rfl rfl ?_)
               refine RunL.caseb hF (fun e49 hF => ?_) (fun e49 hF => ?_)
               ·
                refine op (OpS.fbox (o3 := 3) h88 (.s (.s (.s (.s .z)))) PA.z fa46_3 rfl rfl rfl rfl ?_)
                refine op (OpS.loadB h88 (.s (.s (.s (.s .z)))) PA.a (Get.fld Delivery_.f3) ty33 rfl rfl rfl (fun u19 h89 => ?_))
                refine op (OpS.mv rfl rfl rfl ?_)
                obtain ⟨y9, e50, hF⟩ := bindP_use hF
                refine op (OpS.callP h89 Try.func27 rfl rfl rfl rfl (vs := [u19, .int .i64 x10]) rfl (law21_among_ok e50) (.cons (f := true) (V.at .z) .nil) ?_)
                rintro _ w31 _ _ _ ⟨rfl, rfl, rfl, rfl⟩ h90
                have h91 := h90 rfl rfl
                simp only [List.cons_append, List.nil_append] at h91
                refine op (OpS.mv rfl rfl rfl ?_)
                refine op (OpS.neb Try.underlying4 rfl rfl rfl rfl ?_)
                refine op (OpS.pick rfl rfl rfl rfl ?_)
                refine op (OpS.pick rfl rfl rfl rfl ?_)
                refine RunL.nil ?_
                refine Run.slim [(148, .bool (y9 != x17)), (20, .bool x17), (2, v2), (7, .int .i64 x1), (8, u7), (9, u2), (11, (q1 1)), (12, (q1 3)), (13, .int .i64 s5.1), (14, u9), (15, u14), (17, .int .i64 s7.1), (18, .int .i64 x10)] ⟨rfl, rfl, rfl, rfl, rfl, rfl, rfl, rfl, rfl, rfl, rfl, rfl, rfl, trivial⟩ ?_
                refine Run.slim [(2, v2), (7, .int .i64 x1), (8, u7), (9, u2), (11, (q1 1)), (12, (q1 3)), (13, .int .i64 s5.1), (14, u9), (15, u14), (17, .int .i64 s7.1), (18, .int .i64 x10), (20, .bool x17), (148, .bool (y9 != x17))] ⟨rfl, rfl, rfl, rfl, rfl, rfl, rfl, rfl, rfl, rfl, rfl, rfl, rfl, trivial⟩ ?_
                exact hj6 (y9 != x17) _ _ ⟨rfl, (h91.facts (.atm (.s (.s (.s (.s (.s (.s .z)))))) (.atm (.s (.s (.s (.s (.s (.s (.s .z))))))) .nil))).picks (.cons (.s (.s .z)) (.cons (.s (.s .z)) (.cons (.s (.s .z)) (.cons .z (.cons .z (.cons .z .nil))))))⟩ hF
               ·
                refine op (OpS.pass rfl rfl rfl ?_)
                refine op (OpS.pass rfl rfl rfl ?_)
                refine op (OpS.pass rfl rfl rfl ?_)
                refine op (OpS.pass rfl rfl rfl ?_)
                refine op (OpS.pass rfl rfl rfl ?_)
                refine op (OpS.pass rfl rfl rfl ?_)
                refine op (OpS.pick rfl rfl rfl rfl ?_)
                refine op (OpS.pick rfl rfl rfl rfl ?_)
                refine RunL.nil ?_
                refine Run.slim [(148, .bool false), (20, .bool x17), (2, v2), (7, .int .i64 x1), (8, u7), (9, u2), (11, (q1 1)), (12, (q1 3)), (13, .int .i64 s5.1), (14, u9), (15, u14), (17, .int .i64 s7.1), (18, .int .i64 x10)] ⟨rfl, rfl, rfl, rfl, rfl, rfl, rfl, rfl, rfl, rfl, rfl, rfl, rfl, trivial⟩ ?_
                refine Run.slim [(2, v2), (7, .int .i64 x1), (8, u7), (9, u2), (11, (q1 1)), (12, (q1 3)), (13, .int .i64 s5.1), (14, u9), (15, u14), (17, .int .i64 s7.1), (18, .int .i64 x10), (20, .bool x17), (148, .bool false)] ⟨rfl, rfl, rfl, rfl, rfl, rfl, rfl, rfl, rfl, rfl, rfl, rfl, rfl, trivial⟩ ?_
                exact hj6 (false) _ _ ⟨rfl, (h88.facts (.atm (.s (.s (.s (.s (.s .z))))) (.atm (.s (.s (.s (.s (.s (.s .z)))))) .nil))).picks (.cons (.s (.s .z)) (.cons (.s (.s .z)) (.cons (.s (.s .z)) (.cons .z (.cons .z (.cons .z .nil))))))⟩ hF
            ·
             refine op (OpS.pass rfl rfl rfl ?_)
             refine op (OpS.pass rfl rfl rfl ?_)
             refine op (OpS.pass rfl rfl rfl ?_)
             refine op (OpS.pass rfl rfl rfl ?_)
             refine op (OpS.pass rfl rfl rfl ?_)
             refine op (OpS.pass rfl rfl rfl ?_)
             refine op (OpS.pass rfl rfl rfl ?_)
             refine op (OpS.pass rfl rfl rfl ?_)
             refine op (OpS.pass rfl rfl rfl ?_)
             refine op (OpS.pass rfl rfl rfl ?_)
             refine op (OpS.pick rfl rfl rfl rfl ?_)
             refine op (OpS.mv rfl rfl rfl ?_)
             refine op (OpS.fbox (o3 := 2) h81 (.s (.s (.s (.s .z)))) PA.z fa46_2 rfl rfl rfl rfl ?_)
             refine op (OpS.loadBb h81 (.s (.s (.s (.s .z)))) PA.a (Get.fld Delivery_.f2) ty4 rfl rfl rfl ?_)
             refine op (OpS.not rfl rfl rfl ?_)
             refine op (OpS.mv rfl rfl rfl ?_)
             refine RunL.caseb hF (fun e51 hF => ?_) (fun e51 hF => ?_)
             ·
              refine op (OpS.fbox (o3 := 3) h81 (.s (.s (.s (.s .z)))) PA.z fa46_3 rfl rfl rfl rfl ?_)
              refine op (OpS.loadB h81 (.s (.s (.s (.s .z)))) PA.a (Get.fld Delivery_.f3) ty33 rfl rfl rfl (fun u20 h92 => ?_))
              refine op (OpS.mv rfl rfl rfl ?_)
              obtain ⟨y10, e52, hF⟩ := bindP_use hF
              refine op (OpS.callP h92 Try.func27 rfl rfl rfl rfl (vs := [u20, .int .i64 x10]) rfl (law21_among_ok e52) (.cons (f := true) (V.at .z) .nil) ?_)
              rintro _ w32 _ _ _ ⟨rfl, rfl, rfl, rfl⟩ h93
              have h94 := h93 rfl rfl
              simp only [List.cons_append, List.nil_append] at h94
              refine op (OpS.mv rfl rfl rfl ?_)
              refine op (OpS.neb Try.underlying4 rfl rfl rfl rfl ?_)
              refine op (OpS.pick rfl rfl rfl rfl ?_)
              refine op (OpS.pick rfl rfl rfl rfl ?_)
              refine RunL.nil ?_
              refine Run.slim [(148, .bool (y10 != x17)), (20, .bool x17), (2, v2), (7, .int .i64 x1), (8, u7), (9, u2), (11, (q1 1)), (12, (q1 3)), (13, .int .i64 s5.1), (14, u9), (15, u14), (17, .int .i64 s7.1), (18, .int .i64 x10)] ⟨rfl, rfl, rfl, rfl, rfl, rfl, rfl, rfl, rfl, rfl, rfl, rfl, rfl, trivial⟩ ?_
              refine Run.slim [(2, v2), (7, .int .i64 x1), (8, u7), (9, u2), (11, (q1 1)), (12, (q1 3)), (13, .int .i64 s5.1), (14, u9), (15, u14), (17, .int .i64 s7.1), (18, .int .i64 x10), (20, .bool x17), (148, .bool (y10 != x17))] ⟨rfl, rfl, rfl, rfl, rfl, rfl, rfl, rfl, rfl, rfl, rfl, rfl, rfl, trivial⟩ ?_
              exact hj6 (y10 != x17) _ _ ⟨rfl, (h94.facts (.atm (.s (.s (.s (.s (.s .z))))) (.atm (.s (.s (.s (.s (.s (.s .z)))))) .nil))).picks (.cons (.s (.s .z)) (.cons (.s (.s .z)) (.cons (.s (.s .z)) (.cons .z (.cons .z (.cons .z .nil))))))⟩ hF
             ·
              refine op (OpS.pass rfl rfl rfl ?_)
              refine op (OpS.pass rfl rfl rfl ?_)
              refine op (OpS.pass rfl rfl rfl ?_)
              refine op (OpS.pass rfl rfl rfl ?_)
              refine op (OpS.pass rfl rfl rfl ?_)
              refine op (OpS.pass rfl rfl rfl ?_)
              refine op (OpS.pick rfl rfl rfl rfl ?_)
              refine op (OpS.pick rfl rfl rfl rfl ?_)
              refine RunL.nil ?_
              refine Run.slim [(148, .bool false), (20, .bool x17), (2, v2), (7, .int .i64 x1), (8, u7), (9, u2), (11, (q1 1)), (12, (q1 3)), (13, .int .i64 s5.1), (14, u9), (15, u14), (17, .int .i64 s7.1), (18, .int .i64 x10)] ⟨rfl, rfl, rfl, rfl, rfl, rfl, rfl, rfl, rfl, rfl, rfl, rfl, rfl, trivial⟩ ?_
              refine Run.slim [(2, v2), (7, .int .i64 x1), (8, u7), (9, u2), (11, (q1 1)), (12, (q1 3)), (13, .int .i64 s5.1), (14, u9), (15, u14), (17, .int .i64 s7.1), (18, .int .i64 x10), (20, .bool x17), (148, .bool false)] ⟨rfl, rfl, rfl, rfl, rfl, rfl, rfl, rfl, rfl, rfl, rfl, rfl, rfl, trivial⟩ ?_
              exact hj6 (false) _ _ ⟨rfl, (h81.facts (.atm (.s (.s (.s (.s .z)))) (.atm (.s (.s (.s (.s (.s .z))))) .nil))).picks (.cons (.s (.s .z)) (.cons (.s (.s .z)) (.cons (.s (.s .z)) (.cons .z (.cons .z (.cons .z .nil))))))⟩ hF
         ·
          have h95 := h69.picks (.cons (.s (.s (.s .z))) (.cons .z (.cons .z (.cons .z (.cons .z (.cons .z .nil))))))
          obtain ⟨x23, e53, hF⟩ := letP_use hF
          refine iteP_use hF (fun e54 hF => ?_) (fun e54 hF => ?_)
          ·
           have hG := hF
           subst e54
           have hF := hG
           refine Run.drawV (Ωs := [(false, .box 76 (Rep.iso (fun s : bus_Bus => (s.masters, ())) (Rep.prod (Rep.raw (α := List bus_master) u13) Rep.unit)) u7 y7.2.2), (false, .box 38 Fault_.rep u9 s6), (true, .box 46 Delivery_.rep u14 y7.1), (true, .slice 3 (Rep.int .i64) (q1 3) s7.2.2), (false, .oval (oslice 85 3 (fun _ => bus_master.orep)) u13 y7.2.2.masters)]) [⟨some 82, some (.int .i64 x10), fun _ => [], fun ds_ u_ => [], [], [], none⟩, ⟨some 83, some (.bool (decide (x10 < 0))), fun _ => [], fun ds_ u_ => [], [], [], none⟩, ⟨some 84, some (.bool true), fun _ => [], fun ds_ u_ => [], [], [], none⟩, ⟨some 85, some undef, fun _ => [], fun _ _ => [], [], [], none⟩, ⟨some 86, some undef, fun _ => [], fun _ _ => [], [], [], none⟩, ⟨some 87, some undef, fun _ => [], fun _ _ => [], [], [], none⟩, ⟨some 88, some (.bool true), fun _ => [], fun ds_ u_ => [], [], [], none⟩, ⟨some 89, some (.bool true), fun _ => [], fun ds_ u_ => [], [], [], none⟩, ⟨some 90, some undef, fun _ => [], fun _ _ => [], [], [], none⟩, ⟨some 91, some undef, fun _ => [], fun _ _ => [], [], [], none⟩, ⟨some 92, some undef, fun _ => [], fun _ _ => [], [], [], none⟩, ⟨some 93, some undef, fun _ => [], fun _ _ => [], [], [], none⟩, ⟨some 94, some undef, fun _ => [], fun _ _ => [], [], [], none⟩, ⟨some 95, some undef, fun _ => [], fun _ _ => [], [], [], none⟩, ⟨some 96, some undef, fun _ => [], fun _ _ => [], [], [], none⟩, ⟨some 97, some undef, fun _ => [], fun _ _ => [], [], [], none⟩, ⟨some 98, some undef, fun _ => [], fun _ _ => [], [], [], none⟩, ⟨some 99, some undef, fun _ => [], fun _ _ => [], [], [], none⟩, ⟨some 100, some (.bool true), fun _ => [], fun ds_ u_ => [], [], [], none⟩] [[], [0], [1], [2], [2], [2], [2, 5], [6], [7], [7], [7], [7], [7], [7], [7], [7], [7], [7], [7, 17]] [[(true, .slice 3 (Rep.int .i64) (q1 1) s7.2.1)]] [0, 1, 2, 3, 4, 5, 6, 7, 8, 9, 10, 11, 12, 13, 14, 15, 16, 17, 18, 19] Try_mixed rfl rfl rfl h95 (.cons ?_ (.cons ?_ (.cons ?_ (.cons ?_ (.cons ?_ (.cons ?_ (.cons ?_ (.cons ?_ (.cons ?_ (.cons ?_ (.cons ?_ (.cons ?_ (.cons ?_ (.cons ?_ (.cons ?_ (.cons ?_ (.cons ?_ (.cons ?_ (.cons ?_ .nil))))))))))))))))))) (fun q4 w hq5 h => ?_)
           ·intro q4 w Γx Ωx h
            refine OpS.mv rfl rfl rfl ?_
            exact ⟨undef, rfl, trivial, h⟩
           ·intro q4 w Γx Ωx h
            refine OpS.bin rfl rfl rfl rfl rfl ?_
            exact ⟨undef, rfl, trivial, h⟩
           ·intro q4 w Γx Ωx h
            refine OpS.mv rfl rfl rfl ?_
            exact ⟨undef, (congrArg (fun z_ => some (Value.bool z_)) e53), trivial, h⟩
           ·intro q4 w Γx Ωx h
            exact OpS.pass rfl rfl rfl ⟨undef, rfl, trivial, h⟩
           ·intro q4 w Γx Ωx h
            exact OpS.pass rfl rfl rfl ⟨undef, rfl, trivial, h⟩
           ·intro q4 w Γx Ωx h
            exact OpS.pass rfl rfl rfl ⟨undef, rfl, trivial, h⟩
           ·intro q4 w Γx Ωx h
            refine OpS.pick rfl rfl rfl rfl ?_
            exact ⟨undef, rfl, trivial, h⟩
           ·intro q4 w Γx Ωx h
            refine OpS.mv rfl rfl rfl ?_
            exact ⟨undef, rfl, trivial, h⟩
           ·intro q4 w Γx Ωx h
            exact OpS.pass rfl rfl rfl ⟨undef, rfl, trivial, h⟩
           ·intro q4 w Γx Ωx h
            exact OpS.pass rfl rfl rfl ⟨undef, rfl, trivial, h⟩
           ·intro q4 w Γx Ωx h
            exact OpS.pass rfl rfl rfl ⟨undef, rfl, trivial, h⟩
           ·intro q4 w Γx Ωx h
            exact OpS.pass rfl rfl rfl ⟨undef, rfl, trivial, h⟩
           ·intro q4 w Γx Ωx h
            exact OpS.pass rfl rfl rfl ⟨undef, rfl, trivial, h⟩
           ·intro q4 w Γx Ωx h
            exact OpS.pass rfl rfl rfl ⟨undef, rfl, trivial, h⟩
           ·intro q4 w Γx Ωx h
            exact OpS.pass rfl rfl rfl ⟨undef, rfl, trivial, h⟩
           ·intro q4 w Γx Ωx h
            exact OpS.pass rfl rfl rfl ⟨undef, rfl, trivial, h⟩
           ·intro q4 w Γx Ωx h
            exact OpS.pass rfl rfl rfl ⟨undef, rfl, trivial, h⟩
           ·intro q4 w Γx Ωx h
            exact OpS.pass rfl rfl rfl ⟨undef, rfl, trivial, h⟩
           ·intro q4 w Γx Ωx h
            refine OpS.pick rfl rfl rfl rfl ?_
            exact ⟨undef, rfl, trivial, h⟩
           have h96 : St e w [(true, .ptr (Rep.int .i64) u17 x10), (true, .val (Rep.slice (Rep.int .i64)) u16 y7.1.Masters), (true, .val (Rep.slice (Rep.int .i64)) u15 y7.1.Masters), (false, .val (Rep.slice Fault_.rep) v2 a2), (true, .val (Rep.slice (Rep.slice (Rep.slice (Rep.int .u8)))) u2 y4.2.1)] [(true, .slice 3 (Rep.int .i64) (q1 1) s7.2.1), (false, .box 76 (Rep.iso (fun s : bus_Bus => (s.masters, ())) (Rep.prod (Rep.raw (α := List bus_master) u13) Rep.unit)) u7 y7.2.2), (false, .box 38 Fault_.rep u9 s6), (true, .box 46 Delivery_.rep u14 y7.1), (true, .slice 3 (Rep.int .i64) (q1 3) s7.2.2), (false, .oval (oslice 85 3 (fun _ => bus_master.orep)) u13 y7.2.2.masters)] := h
           refine RunL.nil ?_
           refine Run.slim [(100, .bool true), (18, .int .i64 x10), (2, v2), (7, .int .i64 x1), (8, u7), (9, u2), (11, (q1 1)), (12, (q1 3)), (13, .int .i64 s5.1), (14, u9), (15, u14), (17, .int .i64 s7.1)] ⟨rfl, rfl, rfl, rfl, rfl, rfl, rfl, rfl, rfl, rfl, rfl, rfl, trivial⟩ ?_
           refine Run.slim [(2, v2), (7, .int .i64 x1), (8, u7), (9, u2), (11, (q1 1)), (12, (q1 3)), (13, .int .i64 s5.1), (14, u9), (15, u14), (17, .int .i64 s7.1), (18, .int .i64 x10), (100, .bool true)] ⟨rfl, rfl, rfl, rfl, rfl, rfl, rfl, rfl, rfl, rfl, rfl, rfl, trivial⟩ ?_
           exact hj5 (true) _ _ ⟨rfl, (h96.facts (.atm (.s (.s (.s .z))) (.atm (.s (.s (.s (.s .z)))) .nil))).picks (.cons (.s .z) (.cons (.s .z) (.cons (.s .z) (.cons .z (.cons .z (.cons .z .nil))))))⟩ hF
          ·
           have hG := hF
           subst e54
           have hF := hG
           obtain ⟨x24, e55, hF⟩ := letP_use hF
           refine iteP_use hF (fun e56 hF => ?_) (fun e56 hF => ?_)
           ·
            have hG := hF
            subst e56
            have hF := hG
            refine Run.drawV (Ωs := [(false, .box 76 (Rep.iso (fun s : bus_Bus => (s.masters, ())) (Rep.prod (Rep.raw (α := List bus_master) u13) Rep.unit)) u7 y7.2.2), (false, .box 38 Fault_.rep u9 s6), (true, .box 46 Delivery_.rep u14 y7.1), (true, .slice 3 (Rep.int .i64) (q1 3) s7.2.2), (false, .oval (oslice 85 3 (fun _ => bus_master.orep)) u13 y7.2.2.masters)]) [⟨some 82, some (.int .i64 x10), fun _ => [], fun ds_ u_ => [], [], [], none⟩, ⟨some 83, some (.bool (decide (x10 < 0))), fun _ => [], fun ds_ u_ => [], [], [], none⟩, ⟨some 84, some (.bool false), fun _ => [], fun ds_ u_ => [], [], [], none⟩, ⟨some 85, some (.int .i64 x10), fun _ => [], fun ds_ u_ => [], [], [], none⟩, ⟨some 86, some (.int .i64 x1), fun _ => [], fun ds_ u_ => [], [], [], none⟩, ⟨some 87, some (.bool (decide (x10 ≥ x1))), fun _ => [], fun ds_ u_ => [], [], [], none⟩, ⟨some 88, some (.bool (decide (x10 ≥ x1))), fun _ => [], fun ds_ u_ => [], [], [], none⟩, ⟨some 89, some (.bool true), fun _ => [], fun ds_ u_ => [], [], [], none⟩, ⟨some 90, some undef, fun _ => [], fun _ _ => [], [], [], none⟩, ⟨some 91, some undef, fun _ => [], fun _ _ => [], [], [], none⟩, ⟨some 92, some undef, fun _ => [], fun _ _ => [], [], [], none⟩, ⟨some 93, some undef, fun _ => [], fun _ _ => [], [], [], none⟩, ⟨some 94, some undef, fun _ => [], fun _ _ => [], [], [], none⟩, ⟨some 95, some undef, fun _ => [], fun _ _ => [], [], [], none⟩, ⟨some 96, some undef, fun _ => [], fun _ _ => [], [], [], none⟩, ⟨some 97, some undef, fun _ => [], fun _ _ => [], [], [], none⟩, ⟨some 98, some undef, fun _ => [], fun _ _ => [], [], [], none⟩, ⟨some 99, some undef, fun _ => [], fun _ _ => [], [], [], none⟩, ⟨some 100, some (.bool true), fun _ => [], fun ds_ u_ => [], [], [], none⟩] [[], [0], [1], [2], [2], [3, 4, 2], [2, 5], [6], [7], [7], [7], [7], [7], [7], [7], [7], [7], [7], [7, 17]] [[(true, .slice 3 (Rep.int .i64) (q1 1) s7.2.1)]] [0, 1, 2, 3, 4, 5, 6, 7, 8, 9, 10, 11, 12, 13, 14, 15, 16, 17, 18, 19] Try_mixed rfl rfl rfl h95 (.cons ?_ (.cons ?_ (.cons ?_ (.cons ?_ (.cons ?_ (.cons ?_ (.cons ?_ (.cons ?_ (.cons ?_ (.cons ?_ (.cons ?_ (.cons ?_ (.cons ?_ (.cons ?_ (.cons ?_ (.cons ?_ (.cons ?_ (.cons ?_ (.cons ?_ .nil))))))))))))))))))) (fun q4 w hq6 h => ?_)
            ·intro q4 w Γx Ωx h
             refine OpS.mv rfl rfl rfl ?_
             exact ⟨undef, rfl, trivial, h⟩
            ·intro q4 w Γx Ωx h
             refine OpS.bin rfl rfl rfl rfl rfl ?_
             exact ⟨undef, rfl, trivial, h⟩
            ·intro q4 w Γx Ωx h
             refine OpS.mv rfl rfl rfl ?_
             exact ⟨undef, (congrArg (fun z_ => some (Value.bool z_)) e53), trivial, h⟩
            ·intro q4 w Γx Ωx h
             refine OpS.mv rfl rfl rfl ?_
             exact ⟨undef, rfl, trivial, h⟩
            ·intro q4 w Γx Ωx h
             refine OpS.mv rfl rfl rfl ?_
             exact ⟨undef, rfl, trivial, h⟩
            ·intro q4 w Γx Ωx h
             refine OpS.bin rfl rfl rfl rfl rfl ?_
             exact ⟨undef, rfl, trivial, h⟩
            ·intro q4 w Γx Ωx h
             refine OpS.pick rfl rfl rfl rfl ?_
             exact ⟨undef, rfl, trivial, h⟩
            ·intro q4 w Γx Ωx h
             refine OpS.mv rfl rfl rfl ?_
             exact ⟨undef, (congrArg (fun z_ => some (Value.bool z_)) e55), trivial, h⟩
            ·intro q4 w Γx Ωx h
             exact OpS.pass rfl rfl rfl ⟨undef, rfl, trivial, h⟩
            ·intro q4 w Γx Ωx h
             exact OpS.pass rfl rfl rfl ⟨undef, rfl, trivial, h⟩
            ·intro q4 w Γx Ωx h
             exact OpS.pass rfl rfl rfl ⟨undef, rfl, trivial, h⟩
            ·intro q4 w Γx Ωx h
             exact OpS.pass rfl rfl rfl ⟨undef, rfl, trivial, h⟩
            ·intro q4 w Γx Ωx h
             exact OpS.pass rfl rfl rfl ⟨undef, rfl, trivial, h⟩
            ·intro q4 w Γx Ωx h
             exact OpS.pass rfl rfl rfl ⟨undef, rfl, trivial, h⟩
            ·intro q4 w Γx Ωx h
             exact OpS.pass rfl rfl rfl ⟨undef, rfl, trivial, h⟩
            ·intro q4 w Γx Ωx h
             exact OpS.pass rfl rfl rfl ⟨undef, rfl, trivial, h⟩
            ·intro q4 w Γx Ωx h
             exact OpS.pass rfl rfl rfl ⟨undef, rfl, trivial, h⟩
            ·intro q4 w Γx Ωx h
             exact OpS.pass rfl rfl rfl ⟨undef, rfl, trivial, h⟩
            ·intro q4 w Γx Ωx h
             refine OpS.pick rfl rfl rfl rfl ?_
             exact ⟨undef, rfl, trivial, h⟩
            have h97 : St e w [(true, .ptr (Rep.int .i64) u17 x10), (true, .val (Rep.slice (Rep.int .i64)) u16 y7.1.Masters), (true, .val (Rep.slice (Rep.int .i64)) u15 y7.1.Masters), (false, .val (Rep.slice Fault_.rep) v2 a2), (true, .val (Rep.slice (Rep.slice (Rep.slice (Rep.int .u8)))) u2 y4.2.1)] [(true, .slice 3 (Rep.int .i64) (q1 1) s7.2.1), (false, .box 76 (Rep.iso (fun s : bus_Bus => (s.masters, ())) (Rep.prod (Rep.raw (α := List bus_master) u13) Rep.unit)) u7 y7.2.2), (false, .box 38 Fault_.rep u9 s6), (true, .box 46 Delivery_.rep u14 y7.1), (true, .slice 3 (Rep.int .i64) (q1 3) s7.2.2), (false, .oval (oslice 85 3 (fun _ => bus_master.orep)) u13 y7.2.2.masters)] := h
            refine RunL.nil ?_
            refine Run.slim [(100, .bool true), (18, .int .i64 x10), (2, v2), (7, .int .i64 x1), (8, u7), (9, u2), (11, (q1 1)), (12, (q1 3)), (13, .int .i64 s5.1), (14, u9), (15, u14), (17, .int .i64 s7.1)] ⟨rfl, rfl, rfl, rfl, rfl, rfl, rfl, rfl, rfl, rfl, rfl, rfl, trivial⟩ ?_
            refine Run.slim [(2, v2), (7, .int .i64 x1), (8, u7), (9, u2), (11, (q1 1)), (12, (q1 3)), (13, .int .i64 s5.1), (14, u9), (15, u14), (17, .int .i64 s7.1), (18, .int .i64 x10), (100, .bool true)] ⟨rfl, rfl, rfl, rfl, rfl, rfl, rfl, rfl, rfl, rfl, rfl, rfl, trivial⟩ ?_
            exact hj5 (true) _ _ ⟨rfl, (h97.facts (.atm (.s (.s (.s .z))) (.atm (.s (.s (.s (.s .z)))) .nil))).picks (.cons (.s .z) (.cons (.s .z) (.cons (.s .z) (.cons .z (.cons .z (.cons .z .nil))))))⟩ hF
           ·
            have hG := hF
            subst e56
            have hF := hG
            obtain ⟨x25, e57, hF⟩ := bindP_use hF
            obtain ⟨x26, e58, hF⟩ := bindP_use hF
            refine Run.drawV (Ωs := [(false, .box 76 (Rep.iso (fun s : bus_Bus => (s.masters, ())) (Rep.prod (Rep.raw (α := List bus_master) u13) Rep.unit)) u7 y7.2.2), (false, .box 38 Fault_.rep u9 s6), (true, .box 46 Delivery_.rep u14 y7.1), (true, .slice 3 (Rep.int .i64) (q1 3) s7.2.2), (false, .oval (oslice 85 3 (fun _ => bus_master.orep)) u13 y7.2.2.masters)]) [⟨some 82, some (.int .i64 x10), fun _ => [], fun ds_ u_ => [], [], [], none⟩, ⟨some 83, some (.bool (decide (x10 < 0))), fun _ => [], fun ds_ u_ => [], [], [], none⟩, ⟨some 84, some (.bool false), fun _ => [], fun ds_ u_ => [], [], [], none⟩, ⟨some 85, some (.int .i64 x10), fun _ => [], fun ds_ u_ => [], [], [], none⟩, ⟨some 86, some (.int .i64 x1), fun _ => [], fun ds_ u_ => [], [], [], none⟩, ⟨some 87, some (.bool (decide (x10 ≥ x1))), fun _ => [], fun ds_ u_ => [], [], [], none⟩, ⟨some 88, some (.bool (decide (x10 ≥ x1))), fun _ => [], fun ds_ u_ => [], [], [], none⟩, ⟨some 89, some (.bool false), fun _ => [], fun ds_ u_ => [], [], [], none⟩, ⟨some 90, some ((q1 1)), fun _ => [], fun ds_ u_ => [], [], [], none⟩, ⟨some 91, some (.int .i64 x10), fun _ => [], fun ds_ u_ => [], [], [], none⟩, ⟨some 92, some ((padd (sp (q1 1)) ((x10 : Int).toNat * (Rep.int .i64).n))), fun _ => [], fun ds_ u_ => [], [], [(0, [])], none⟩, ⟨some 93, some (.int .i64 x25), fun _ => [], fun ds_ u_ => [], [], [(0, [])], none⟩, ⟨some 94, some (u2), fun _ => [], fun ds_ u_ => [], [], [], none⟩, ⟨some 95, some (.int .i64 x10), fun _ => [], fun ds_ u_ => [], [], [], none⟩, ⟨some 96, none, fun u_ => [(true, .ptr (Rep.slice (Rep.slice (Rep.int .u8))) u_ x26)], fun ds_ u_ => [], [], [], none⟩, ⟨some 97, none, fun u_ => [(true, .val (Rep.slice (Rep.slice (Rep.int .u8))) u_ x26)], fun ds_ u_ => [], [], [], none⟩, ⟨some 98, some (.int .i64 (x26.length : Int)), fun _ => [], fun ds_ u_ => [], [], [], none⟩, ⟨some 99, some (.bool (decide (x25 ≥ (x26.length : Int)))), fun _ => [], fun ds_ u_ => [], [], [], none⟩, ⟨some 100, some (.bool (decide (x25 ≥ (x26.length : Int)))), fun _ => [], fun ds_ u_ => [], [], [], none⟩] [[], [0], [1], [2], [2], [3, 4, 2], [2, 5], [6], [7], [7], [8, 9, 7], [10, 7], [7], [7], [12, 13, 7], [14, 7], [15, 7], [11, 16, 7], [7, 17]] [[(true, .slice 3 (Rep.int .i64) (q1 1) s7.2.1)]] [0, 1, 2, 3, 4, 5, 6, 7, 8, 9, 10, 11, 12, 13, 14, 15, 16, 17, 18, 19] Try_mixed rfl rfl rfl h95 (.cons ?_ (.cons ?_ (.cons ?_ (.cons ?_ (.cons ?_ (.cons ?_ (.cons ?_ (.cons ?_ (.cons ?_ (.cons ?_ (.cons ?_ (.cons ?_ (.cons ?_ (.cons ?_ (.cons ?_ (.cons ?_ (.cons ?_ (.cons ?_ (.cons ?_ .nil))))))))))))))))))) (fun q4 w hq7 h => ?_)
            ·intro q4 w Γx Ωx h
             refine OpS.mv rfl rfl rfl ?_
             exact ⟨undef, rfl, trivial, h⟩
            ·intro q4 w Γx Ωx h
             refine OpS.bin rfl rfl rfl rfl rfl ?_
             exact ⟨undef, rfl, trivial, h⟩
            ·intro q4 w Γx Ωx h
             refine OpS.mv rfl rfl rfl ?_
             exact ⟨undef, (congrArg (fun z_ => some (Value.bool z_)) e53), trivial, h⟩
            ·intro q4 w Γx Ωx h
             refine OpS.mv rfl rfl rfl ?_
             exact ⟨undef, rfl, trivial, h⟩
            ·intro q4 w Γx Ωx h
             refine OpS.mv rfl rfl rfl ?_
             exact ⟨undef, rfl, trivial, h⟩
            ·intro q4 w Γx Ωx h
             refine OpS.bin rfl rfl rfl rfl rfl ?_
             exact ⟨undef, rfl, trivial, h⟩
            ·intro q4 w Γx Ωx h
             refine OpS.pick rfl rfl rfl rfl ?_
             exact ⟨undef, rfl, trivial, h⟩
            ·intro q4 w Γx Ωx h
             refine OpS.mv rfl rfl rfl ?_
             exact ⟨undef, (congrArg (fun z_ => some (Value.bool z_)) e55), trivial, h⟩
            ·intro q4 w Γx Ωx h
             refine OpS.mv rfl rfl rfl ?_
             exact ⟨undef, rfl, trivial, h⟩
            ·intro q4 w Γx Ωx h
             refine OpS.mv rfl rfl rfl ?_
             exact ⟨undef, rfl, trivial, h⟩
            ·intro q4 w Γx Ωx h
             have h : St e w ([(true, .ptr (Rep.int .i64) u17 x10), (true, .val (Rep.slice (Rep.int .i64)) u16 y7.1.Masters), (true, .val (Rep.slice (Rep.int .i64)) u15 y7.1.Masters), (false, .val (Rep.slice Fault_.rep) v2 a2), (true, .val (Rep.slice (Rep.slice (Rep.slice (Rep.int .u8)))) u2 y4.2.1)] ++ Γx) ([(true, .slice 3 (Rep.int .i64) (q1 1) s7.2.1), (false, .box 76 (Rep.iso (fun s : bus_Bus => (s.masters, ())) (Rep.prod (Rep.raw (α := List bus_master) u13) Rep.unit)) u7 y7.2.2), (false, .box 38 Fault_.rep u9 s6), (true, .box 46 Delivery_.rep u14 y7.1), (true, .slice 3 (Rep.int .i64) (q1 3) s7.2.2), (false, .oval (oslice 85 3 (fun _ => bus_master.orep)) u13 y7.2.2.masters)] ++ Ωx) := h
             refine OpS.iown h .z Try.underlying33 ty3 rfl rfl rfl rfl e57 ?_
             exact ⟨undef, rfl, trivial, h⟩
            ·intro q4 w Γx Ωx h
             have h : St e w ([(true, .ptr (Rep.int .i64) u17 x10), (true, .val (Rep.slice (Rep.int .i64)) u16 y7.1.Masters), (true, .val (Rep.slice (Rep.int .i64)) u15 y7.1.Masters), (false, .val (Rep.slice Fault_.rep) v2 a2), (true, .val (Rep.slice (Rep.slice (Rep.slice (Rep.int .u8)))) u2 y4.2.1)] ++ Γx) ([(true, .slice 3 (Rep.int .i64) (q1 1) s7.2.1), (false, .box 76 (Rep.iso (fun s : bus_Bus => (s.masters, ())) (Rep.prod (Rep.raw (α := List bus_master) u13) Rep.unit)) u7 y7.2.2), (false, .box 38 Fault_.rep u9 s6), (true, .box 46 Delivery_.rep u14 y7.1), (true, .slice 3 (Rep.int .i64) (q1 3) s7.2.2), (false, .oval (oslice 85 3 (fun _ => bus_master.orep)) u13 y7.2.2.masters)] ++ Ωx) := h
             refine OpS.loadOi h .z (idx_ne e57) PA.a (Get.arr e57) ty3 rfl rfl rfl ?_
             exact ⟨undef, rfl, trivial, h⟩
            ·intro q4 w Γx Ωx h
             refine OpS.mv rfl rfl rfl ?_
             exact ⟨undef, rfl, trivial, h⟩
            ·intro q4 w Γx Ωx h
             refine OpS.mv rfl rfl rfl ?_
             exact ⟨undef, rfl, trivial, h⟩
            ·intro q4 w Γx Ωx h
             refine OpS.iptr h Try.underlying54 ty59 rfl rfl rfl rfl (V.at (.s (.s (.s (.s .z))))) e58 (fun u h100 => ?_)
             exact ⟨u, rfl, trivial, h100⟩
            ·intro q4 w Γx Ωx h
             refine OpS.load h ty59 rfl rfl rfl .z (fun u h101 => ?_)
             exact ⟨u, rfl, trivial, h101⟩
            ·intro q4 w Γx Ωx h
             refine OpS.len h Try.underlying59 rfl rfl rfl (V.at .z) ?_
             exact ⟨undef, rfl, trivial, h⟩
            ·intro q4 w Γx Ωx h
             refine OpS.bin rfl rfl rfl rfl rfl ?_
             exact ⟨undef, rfl, trivial, h⟩
            ·intro q4 w Γx Ωx h
             refine OpS.pick rfl rfl rfl rfl ?_
             exact ⟨undef, rfl, trivial, h⟩
            have h102 : St e w [(true, .ptr (Rep.slice (Rep.slice (Rep.int .u8))) (q4 14) x26), (true, .val (Rep.slice (Rep.slice (Rep.int .u8))) (q4 15) x26), (true, .ptr (Rep.int .i64) u17 x10), (true, .val (Rep.slice (Rep.int .i64)) u16 y7.1.Masters), (true, .val (Rep.slice (Rep.int .i64)) u15 y7.1.Masters), (false, .val (Rep.slice Fault_.rep) v2 a2), (true, .val (Rep.slice (Rep.slice (Rep.slice (Rep.int .u8)))) u2 y4.2.1)] [(true, .slice 3 (Rep.int .i64) (q1 1) s7.2.1), (false, .box 76 (Rep.iso (fun s : bus_Bus => (s.masters, ())) (Rep.prod (Rep.raw (α := List bus_master) u13) Rep.unit)) u7 y7.2.2), (false, .box 38 Fault_.rep u9 s6), (true, .box 46 Delivery_.rep u14 y7.1), (true, .slice 3 (Rep.int .i64) (q1 3) s7.2.2), (false, .oval (oslice 85 3 (fun _ => bus_master.orep)) u13 y7.2.2.masters)] := h
            refine RunL.nil ?_
            refine Run.slim [(100, .bool (decide (x25 ≥ (x26.length : Int)))), (18, .int .i64 x10), (2, v2), (7, .int .i64 x1), (8, u7), (9, u2), (11, (q1 1)), (12, (q1 3)), (13, .int .i64 s5.1), (14, u9), (15, u14), (17, .int .i64 s7.1)] ⟨rfl, rfl, rfl, rfl, rfl, rfl, rfl, rfl, rfl, rfl, rfl, rfl, trivial⟩ ?_
            refine Run.slim [(2, v2), (7, .int .i64 x1), (8, u7), (9, u2), (11, (q1 1)), (12, (q1 3)), (13, .int .i64 s5.1), (14, u9), (15, u14), (17, .int .i64 s7.1), (18, .int .i64 x10), (100, .bool (decide (x25 ≥ (x26.length : Int))))] ⟨rfl, rfl, rfl, rfl, rfl, rfl, rfl, rfl, rfl, rfl, rfl, rfl, trivial⟩ ?_
            exact hj5 (decide (x25 ≥ (x26.length : Int))) _ _ ⟨rfl, (h102.facts (.atm (.s (.s (.s (.s (.s .z))))) (.atm (.s (.s (.s (.s (.s (.s .z)))))) .nil))).picks (.cons (.s .z) (.cons (.s .z) (.cons (.s .z) (.cons .z (.cons .z (.cons .z .nil))))))⟩ hF
        ·
         refine Run.exit rfl ?_
         refine Run.seq ?_
         refine Run.reg ?_
         refine op (OpS.as rfl rfl rfl ?_)
         refine RunL.nil ?_
         refine Run.slim [(21, .int .i64 0), (2, v2), (7, .int .i64 x1), (8, u7), (9, u2), (11, (q1 1)), (12, (q1 3)), (13, .int .i64 s5.1), (15, u14)] ⟨rfl, rfl, rfl, rfl, rfl, rfl, rfl, rfl, rfl, trivial⟩ ?_
         refine Run.block ?_
         refine Run.slim [(2, v2), (7, .int .i64 x1), (8, u7), (9, u2), (11, (q1 1)), (12, (q1 3)), (13, .int .i64 s5.1), (15, u14), (21, .int .i64 0)] ⟨rfl, rfl, rfl, rfl, rfl, rfl, rfl, rfl, rfl, trivial⟩ ?_
         refine Run.loopP (σ := Int) (fun s_ L_ w_ => L_ = [(2, v2), (7, .int .i64 x1), (8, u7), (9, u2), (11, (q1 1)), (12, (q1 3)), (13, .int .i64 s5.1), (15, u14), (21, .int .i64 s_)] ∧ St e w_ [(false, .val (Rep.slice Fault_.rep) v2 a2), (true, .val (Rep.slice (Rep.slice (Rep.slice (Rep.int .u8)))) u2 y4.2.1)] [(false, .box 76 (Rep.iso (fun s : bus_Bus => (s.masters, ())) (Rep.prod (Rep.raw (α := List bus_master) u13) Rep.unit)) u7 y7.2.2), (true, .box 46 Delivery_.rep u14 y7.1), (true, .slice 3 (Rep.int .i64) (q1 1) s7.2.1), (true, .slice 3 (Rep.int .i64) (q1 3) s7.2.2), (false, .oval (oslice 85 3 (fun _ => bus_master.orep)) u13 y7.2.2.masters)]) hF ⟨rfl, (h67.facts (.atm (.s .z) (.atm (.s (.s .z)) .nil))).picks (.cons .z (.cons (.s .z) (.cons (.s .z) (.cons (.s .z) (.cons (.s .z) .nil)))))⟩ (fun k4 hk4 s11 _ w33 hI hF => ?_)
         obtain ⟨rfl, h103⟩ := hI
         refine Run.seq ?_
         refine Run.seq ?_
         refine Run.reg ?_
         refine op (OpS.mv rfl rfl rfl ?_)
         refine op (OpS.fbox (o3 := 3) h103 (.s .z) PA.z fa46_3 rfl rfl rfl rfl ?_)
         refine op (OpS.loadB h103 (.s .z) PA.a (Get.fld Delivery_.f3) ty33 rfl rfl rfl (fun u21 h104 => ?_))
         refine op (OpS.len h104 Try.underlying33 rfl rfl rfl (V.at .z) ?_)
         refine op (OpS.bin rfl rfl rfl rfl rfl ?_)
         refine RunL.nil ?_
         refine Run.slim [(167, .bool (decide (s11 < (y7.1.Failed.length : Int)))), (2, v2), (7, .int .i64 x1), (8, u7), (9, u2), (11, (q1 1)), (12, (q1 3)), (13, .int .i64 s5.1), (15, u14), (21, .int .i64 s11)] ⟨rfl, rfl, rfl, rfl, rfl, rfl, rfl, rfl, rfl, rfl, trivial⟩ ?_
         refine Run.ite rfl hF (fun e59 hF => ?_) (fun e59 hF => ?_)
         ·
          refine Run.skip ?_
          refine Run.seq ?_
          refine Run.block ?_
          refine Run.seq ?_
          refine Run.join (σ := Bool) (fun s_ L_ w_ => L_ = [(2, v2), (7, .int .i64 x1), (8, u7), (9, u2), (11, (q1 1)), (12, (q1 3)), (13, .int .i64 s5.1), (15, u14), (21, .int .i64 s11), (182, .bool s_)] ∧ St e w_ [(false, .val (Rep.slice Fault_.rep) v2 a2), (true, .val (Rep.slice (Rep.slice (Rep.slice (Rep.int .u8)))) u2 y4.2.1)] [(false, .box 76 (Rep.iso (fun s : bus_Bus => (s.masters, ())) (Rep.prod (Rep.raw (α := List bus_master) u13) Rep.unit)) u7 y7.2.2), (true, .box 46 Delivery_.rep u14 y7.1), (true, .slice 3 (Rep.int .i64) (q1 1) s7.2.1), (true, .slice 3 (Rep.int .i64) (q1 3) s7.2.2), (false, .oval (oslice 85 3 (fun _ => bus_master.orep)) u13 y7.2.2.masters)]) hF (fun s12 _ w34 hI hF => ?_) (fun j8 hj8 hF => ?_)
          ·
           obtain ⟨rfl, h105⟩ := hI
           refine Run.ite rfl hF (fun e60 hF => ?_) (fun e60 hF => ?_)
           ·
            refine Run.seq ?_
            refine Run.reg ?_
            refine op (OpS.as rfl rfl rfl ?_)
            refine RunL.nil ?_
            refine Run.slim [(6, .bool false)] ⟨rfl, trivial⟩ ?_
            refine Run.retP rfl (.tmp rfl .nil) ?_
            cases hF
            exact Post.mk' ⟨rfl, rfl, rfl, rfl⟩ (h105.picks .nil) .nil
           ·
            refine Run.skip ?_
            refine Run.endBlock ?_
            refine Run.reg ?_
            refine op (OpS.mv rfl rfl rfl ?_)
            refine op (OpS.bin rfl rfl rfl rfl rfl ?_)
            refine op (OpS.as rfl rfl rfl ?_)
            obtain ⟨x27, e61, hF⟩ := letP_use hF
            refine RunL.name e61 ?_
            refine RunL.nil ?_
            refine Run.slim [(21, .int .i64 x27), (2, v2), (7, .int .i64 x1), (8, u7), (9, u2), (11, (q1 1)), (12, (q1 3)), (13, .int .i64 s5.1), (15, u14)] ⟨rfl, rfl, rfl, rfl, rfl, rfl, rfl, rfl, rfl, trivial⟩ ?_
            refine Run.slim [(2, v2), (7, .int .i64 x1), (8, u7), (9, u2), (11, (q1 1)), (12, (q1 3)), (13, .int .i64 s5.1), (15, u14), (21, .int .i64 x27)] ⟨rfl, rfl, rfl, rfl, rfl, rfl, rfl, rfl, rfl, trivial⟩ ?_
            exact hk4 (x27) _ _ ⟨rfl, (h105.facts (.atm .z (.atm (.s .z) .nil))).picks (.cons .z (.cons .z (.cons .z (.cons .z (.cons .z .nil)))))⟩ hF
          ·
           have h106 := h104.picks (.cons (.s .z) (.cons .z (.cons .z (.cons .z (.cons .z .nil)))))
           obtain ⟨x28, e62, hF⟩ := letP_use hF
           refine iteP_use hF (fun e63 hF => ?_) (fun e63 hF => ?_)
           ·
            have hG := hF
            subst e63
            have hF := hG
            refine Run.drawV (Ωs := [(false, .box 76 (Rep.iso (fun s : bus_Bus => (s.masters, ())) (Rep.prod (Rep.raw (α := List bus_master) u13) Rep.unit)) u7 y7.2.2), (true, .slice 3 (Rep.int .i64) (q1 1) s7.2.1), (true, .slice 3 (Rep.int .i64) (q1 3) s7.2.2), (false, .oval (oslice 85 3 (fun _ => bus_master.orep)) u13 y7.2.2.masters)]) [⟨some 170, some ((padd u14 2)), fun _ => [], fun ds_ u_ => [], [], [(0, [])], none⟩, ⟨some 171, some (.bool y7.1.OK), fun _ => [], fun ds_ u_ => [], [], [(0, [])], none⟩, ⟨some 172, some (.bool true), fun _ => [], fun ds_ u_ => [], [], [], none⟩, ⟨some 173, some undef, fun _ => [], fun _ _ => [], [], [], none⟩, ⟨some 174, some undef, fun _ => [], fun _ _ => [], [], [], none⟩, ⟨some 175, some undef, fun _ => [], fun _ _ => [], [], [], none⟩, ⟨some 176, some undef, fun _ => [], fun _ _ => [], [], [], none⟩, ⟨some 177, some undef, fun _ => [], fun _ _ => [], [], [], none⟩, ⟨some 178, some undef, fun _ => [], fun _ _ => [], [], [], none⟩, ⟨some 179, some undef, fun _ => [], fun _ _ => [], [], [], none⟩, ⟨some 180, some undef, fun _ => [], fun _ _ => [], [], [], none⟩, ⟨some 181, some undef, fun _ => [], fun _ _ => [], [], [], none⟩, ⟨some 182, some (.bool true), fun _ => [], fun ds_ u_ => [], [], [], none⟩] [[], [0], [1], [2], [2], [2], [2], [2], [2], [2], [2], [2], [2, 11]] [[(true, .box 46 Delivery_.rep u14 y7.1)]] [0, 1, 2, 3, 4, 5, 6, 7, 8, 9, 10, 11, 12, 13] Try_mixed rfl rfl rfl h106 (.cons ?_ (.cons ?_ (.cons ?_ (.cons ?_ (.cons ?_ (.cons ?_ (.cons ?_ (.cons ?_ (.cons ?_ (.cons ?_ (.cons ?_ (.cons ?_ (.cons ?_ .nil))))))))))))) (fun q5 w hq8 h => ?_)
            ·intro q5 w Γx Ωx h
             have h : St e w ([(true, .val (Rep.slice (Rep.int .i64)) u21 y7.1.Failed), (false, .val (Rep.slice Fault_.rep) v2 a2), (true, .val (Rep.slice (Rep.slice (Rep.slice (Rep.int .u8)))) u2 y4.2.1)] ++ Γx) ([(true, .box 46 Delivery_.rep u14 y7.1), (false, .box 76 (Rep.iso (fun s : bus_Bus => (s.masters, ())) (Rep.prod (Rep.raw (α := List bus_master) u13) Rep.unit)) u7 y7.2.2), (true, .slice 3 (Rep.int .i64) (q1 1) s7.2.1), (true, .slice 3 (Rep.int .i64) (q1 3) s7.2.2), (false, .oval (oslice 85 3 (fun _ => bus_master.orep)) u13 y7.2.2.masters)] ++ Ωx) := h
             refine OpS.fbox (o3 := 2) h .z PA.z fa46_2 rfl rfl rfl rfl ?_
             exact ⟨undef, rfl, trivial, h⟩
            ·intro q5 w Γx Ωx h
             have h : St e w ([(true, .val (Rep.slice (Rep.int .i64)) u21 y7.1.Failed), (false, .val (Rep.slice Fault_.rep) v2 a2), (true, .val (Rep.slice (Rep.slice (Rep.slice (Rep.int .u8)))) u2 y4.2.1)] ++ Γx) ([(true, .box 46 Delivery_.rep u14 y7.1), (false, .box 76 (Rep.iso (fun s : bus_Bus => (s.masters, ())) (Rep.prod (Rep.raw (α := List bus_master) u13) Rep.unit)) u7 y7.2.2), (true, .slice 3 (Rep.int .i64) (q1 1) s7.2.1), (true, .slice 3 (Rep.int .i64) (q1 3) s7.2.2), (false, .oval (oslice 85 3 (fun _ => bus_master.orep)) u13 y7.2.2.masters)] ++ Ωx) := h
             refine OpS.loadBb h .z PA.a (Get.fld Delivery_.f2) ty4 rfl rfl rfl ?_
             exact ⟨undef, rfl, trivial, h⟩
            ·intro q5 w Γx Ωx h
             refine OpS.mv rfl rfl rfl ?_
             exact ⟨undef, (congrArg (fun z_ => some (Value.bool z_)) e62), trivial, h⟩
            ·intro q5 w Γx Ωx h
             exact OpS.pass rfl rfl rfl ⟨undef, rfl, trivial, h⟩
            ·intro q5 w Γx Ωx h
             exact OpS.pass rfl rfl rfl ⟨undef, rfl, trivial, h⟩
            ·intro q5 w Γx Ωx h
             exact OpS.pass rfl rfl rfl ⟨undef, rfl, trivial, h⟩
            ·intro q5 w Γx Ωx h
             exact OpS.pass rfl rfl rfl ⟨undef, rfl, trivial, h⟩
            ·intro q5 w Γx Ωx h
             exact OpS.pass rfl rfl rfl ⟨undef, rfl, trivial, h⟩
            ·intro q5 w Γx Ωx h
             exact OpS.pass rfl rfl rfl ⟨undef, rfl, trivial, h⟩
            ·intro q5 w Γx Ωx h
             exact OpS.pass rfl rfl rfl ⟨undef, rfl, trivial, h⟩
            ·intro q5 w Γx Ωx h
             exact OpS.pass rfl rfl rfl ⟨undef, rfl, trivial, h⟩
            ·intro q5 w Γx Ωx h
             exact OpS.pass rfl rfl rfl ⟨undef, rfl, trivial, h⟩
            ·intro q5 w Γx Ωx h
             refine OpS.pick rfl rfl rfl rfl ?_
             exact ⟨undef, rfl, trivial, h⟩
            have h107 : St e w [(true, .val (Rep.slice (Rep.int .i64)) u21 y7.1.Failed), (false, .val (Rep.slice Fault_.rep) v2 a2), (true, .val (Rep.slice (Rep.slice (Rep.slice (Rep.int .u8)))) u2 y4.2.1)] [(true, .box 46 Delivery_.rep u14 y7.1), (false, .box 76 (Rep.iso (fun s : bus_Bus => (s.masters, ())) (Rep.prod (Rep.raw (α := List bus_master) u13) Rep.unit)) u7 y7.2.2), (true, .slice 3 (Rep.int .i64) (q1 1) s7.2.1), (true, .slice 3 (Rep.int .i64) (q1 3) s7.2.2), (false, .oval (oslice 85 3 (fun _ => bus_master.orep)) u13 y7.2.2.masters)] := h
            refine RunL.nil ?_
            refine Run.slim [(182, .bool true), (2, v2), (7, .int .i64 x1), (8, u7), (9, u2), (11, (q1 1)), (12, (q1 3)), (13, .int .i64 s5.1), (15, u14), (21, .int .i64 s11)] ⟨rfl, rfl, rfl, rfl, rfl, rfl, rfl, rfl, rfl, rfl, trivial⟩ ?_
            refine Run.slim [(2, v2), (7, .int .i64 x1), (8, u7), (9, u2), (11, (q1 1)), (12, (q1 3)), (13, .int .i64 s5.1), (15, u14), (21, .int .i64 s11), (182, .bool true)] ⟨rfl, rfl, rfl, rfl, rfl, rfl, rfl, rfl, rfl, rfl, trivial⟩ ?_
            exact hj8 (true) _ _ ⟨rfl, (h107.facts (.atm (.s .z) (.atm (.s (.s .z)) .nil))).picks (.cons (.s .z) (.cons .z (.cons .z (.cons .z (.cons .z .nil)))))⟩ hF
           ·
            have hG := hF
            subst e63
            have hF := hG
            obtain ⟨x29, e64, hF⟩ := bindP_use hF
            obtain ⟨y11, e65, hF⟩ := bindP_use hF
            refine Run.drawV (Ωs := [(false, .box 76 (Rep.iso (fun s : bus_Bus => (s.masters, ())) (Rep.prod (Rep.raw (α := List bus_master) u13) Rep.unit)) u7 y7.2.2), (true, .slice 3 (Rep.int .i64) (q1 1) s7.2.1), (true, .slice 3 (Rep.int .i64) (q1 3) s7.2.2), (false, .oval (oslice 85 3 (fun _ => bus_master.orep)) u13 y7.2.2.masters)]) [⟨some 170, some ((padd u14 2)), fun _ => [], fun ds_ u_ => [], [], [(0, [])], none⟩, ⟨some 171, some (.bool y7.1.OK), fun _ => [], fun ds_ u_ => [], [], [(0, [])], none⟩, ⟨some 172, some (.bool false), fun _ => [], fun ds_ u_ => [], [], [], none⟩, ⟨some 173, some ((padd u14 0)), fun _ => [], fun ds_ u_ => [], [], [(0, [])], none⟩, ⟨some 174, none, fun u_ => [(true, .val (Rep.slice (Rep.int .i64)) u_ y7.1.Masters)], fun ds_ u_ => [], [], [(0, [])], none⟩, ⟨some 175, some ((padd u14 3)), fun _ => [], fun ds_ u_ => [], [], [(0, [])], none⟩, ⟨some 176, none, fun u_ => [(true, .val (Rep.slice (Rep.int .i64)) u_ y7.1.Failed)], fun ds_ u_ => [], [], [(0, [])], none⟩, ⟨some 177, some (.int .i64 s11), fun _ => [], fun ds_ u_ => [], [], [], none⟩, ⟨some 178, none, fun u_ => [(true, .ptr (Rep.int .i64) u_ x29)], fun ds_ u_ => [], [], [], none⟩, ⟨some 179, some (.int .i64 x29), fun _ => [], fun ds_ u_ => [], [], [], none⟩, ⟨some 180, some (.bool y11), fun _ => [], fun ds_ u_ => [], [], [], none⟩, ⟨some 181, some (.bool (!y11)), fun _ => [], fun ds_ u_ => [], [], [], none⟩, ⟨some 182, some (.bool (!y11)), fun _ => [], fun ds_ u_ => [], [], [], none⟩] [[], [0], [1], [2], [3, 2], [2], [5, 2], [2], [6, 7, 2], [8, 2], [4, 9, 2], [10, 2], [2, 11]] [[(true, .box 46 Delivery_.rep u14 y7.1)]] [0, 1, 2, 3, 4, 5, 6, 7, 8, 9, 10, 11, 12, 13] Try_mixed rfl rfl rfl h106 (.cons ?_ (.cons ?_ (.cons ?_ (.cons ?_ (.cons ?_ (.cons ?_ (.cons ?_ (.cons ?_ (.cons ?_ (.cons ?_ (.cons ?_ (.cons ?_ (.cons ?_ .nil))))))))))))) (fun q5 w hq9 h => ?_)
            ·intro q5 w Γx Ωx h
             have h : St e w ([(true, .val (Rep.slice (Rep.int .i64)) u21 y7.1.Failed), (false, .val (Rep.slice Fault_.rep) v2 a2), (true, .val (Rep.slice (Rep.slice (Rep.slice (Rep.int .u8)))) u2 y4.2.1)] ++ Γx) ([(true, .box 46 Delivery_.rep u14 y7.1), (false, .box 76 (Rep.iso (fun s : bus_Bus => (s.masters, ())) (Rep.prod (Rep.raw (α := List bus_master) u13) Rep.unit)) u7 y7.2.2), (true, .slice 3 (Rep.int .i64) (q1 1) s7.2.1), (true, .slice 3 (Rep.int .i64) (q1 3) s7.2.2), (false, .oval (oslice 85 3 (fun _ => bus_master.orep)) u13 y7.2.2.masters)] ++ Ωx) := h
             refine OpS.fbox (o3 := 2) h .z PA.z fa46_2 rfl rfl rfl rfl ?_
             exact ⟨undef, rfl, trivial, h⟩
            ·intro q5 w Γx Ωx h
             have h : St e w ([(true, .val (Rep.slice (Rep.int .i64)) u21 y7.1.Failed), (false, .val (Rep.slice Fault_.rep) v2 a2), (true, .val (Rep.slice (Rep.slice (Rep.slice (Rep.int .u8)))) u2 y4.2.1)] ++ Γx) ([(true, .box 46 Delivery_.rep u14 y7.1), (false, .box 76 (Rep.iso (fun s : bus_Bus => (s.masters, ())) (Rep.prod (Rep.raw (α := List bus_master) u13) Rep.unit)) u7 y7.2.2), (true, .slice 3 (Rep.int .i64) (q1 1) s7.2.1), (true, .slice 3 (Rep.int .i64) (q1 3) s7.2.2), (false, .oval (oslice 85 3 (fun _ => bus_master.orep)) u13 y7.2.2.masters)] ++ Ωx) := h
             refine OpS.loadBb h .z PA.a (Get.fld Delivery_.f2) ty4 rfl rfl rfl ?_
             exact ⟨undef, rfl, trivial, h⟩
            ·intro q5 w Γx Ωx h
             refine OpS.mv rfl rfl rfl ?_
             exact ⟨undef, (congrArg (fun z_ => some (Value.bool z_)) e62), trivial, h⟩
            ·intro q5 w Γx Ωx h
             have h : St e w ([(true, .val (Rep.slice (Rep.int .i64)) u21 y7.1.Failed), (false, .val (Rep.slice Fault_.rep) v2 a2), (true, .val (Rep.slice (Rep.slice (Rep.slice (Rep.int .u8)))) u2 y4.2.1)] ++ Γx) ([(true, .box 46 Delivery_.rep u14 y7.1), (false, .box 76 (Rep.iso (fun s : bus_Bus => (s.masters, ())) (Rep.prod (Rep.raw (α := List bus_master) u13) Rep.unit)) u7 y7.2.2), (true, .slice 3 (Rep.int .i64) (q1 1) s7.2.1), (true, .slice 3 (Rep.int .i64) (q1 3) s7.2.2), (false, .oval (oslice 85 3 (fun _ => bus_master.orep)) u13 y7.2.2.masters)] ++ Ωx) := h
             refine OpS.fbox (o3 := 0) h .z PA.z fa46_0 rfl rfl rfl rfl ?_
             exact ⟨undef, rfl, trivial, h⟩
            ·intro q5 w Γx Ωx h
             have h : St e w ([(true, .val (Rep.slice (Rep.int .i64)) u21 y7.1.Failed), (false, .val (Rep.slice Fault_.rep) v2 a2), (true, .val (Rep.slice (Rep.slice (Rep.slice (Rep.int .u8)))) u2 y4.2.1)] ++ Γx) ([(true, .box 46 Delivery_.rep u14 y7.1), (false, .box 76 (Rep.iso (fun s : bus_Bus => (s.masters, ())) (Rep.prod (Rep.raw (α := List bus_master) u13) Rep.unit)) u7 y7.2.2), (true, .slice 3 (Rep.int .i64) (q1 1) s7.2.1), (true, .slice 3 (Rep.int .i64) (q1 3) s7.2.2), (false, .oval (oslice 85 3 (fun _ => bus_master.orep)) u13 y7.2.2.masters)] ++ Ωx) := h
             refine OpS.loadB h .z PA.a (Get.fld Delivery_.f0) ty33 rfl rfl rfl (fun u h113 => ?_)
             exact ⟨u, rfl, trivial, h113⟩
            ·intro q5 w Γx Ωx h
             have h : St e w ([(true, .val (Rep.slice (Rep.int .i64)) u21 y7.1.Failed), (false, .val (Rep.slice Fault_.rep) v2 a2), (true, .val (Rep.slice (Rep.slice (Rep.slice (Rep.int .u8)))) u2 y4.2.1)] ++ Γx) ([(true, .box 46 Delivery_.rep u14 y7.1), (false, .box 76 (Rep.iso (fun s : bus_Bus => (s.masters, ())) (Rep.prod (Rep.raw (α := List bus_master) u13) Rep.unit)) u7 y7.2.2), (true, .slice 3 (Rep.int .i64) (q1 1) s7.2.1), (true, .slice 3 (Rep.int .i64) (q1 3) s7.2.2), (false, .oval (oslice 85 3 (fun _ => bus_master.orep)) u13 y7.2.2.masters)] ++ Ωx) := h
             refine OpS.fbox (o3 := 3) h .z PA.z fa46_3 rfl rfl rfl rfl ?_
             exact ⟨undef, rfl, trivial, h⟩
            ·intro q5 w Γx Ωx h
             have h : St e w ([(true, .val (Rep.slice (Rep.int .i64)) u21 y7.1.Failed), (false, .val (Rep.slice Fault_.rep) v2 a2), (true, .val (Rep.slice (Rep.slice (Rep.slice (Rep.int .u8)))) u2 y4.2.1)] ++ Γx) ([(true, .box 46 Delivery_.rep u14 y7.1), (false, .box 76 (Rep.iso (fun s : bus_Bus => (s.masters, ())) (Rep.prod (Rep.raw (α := List bus_master) u13) Rep.unit)) u7 y7.2.2), (true, .slice 3 (Rep.int .i64) (q1 1) s7.2.1), (true, .slice 3 (Rep.int .i64) (q1 3) s7.2.2), (false, .oval (oslice 85 3 (fun _ => bus_master.orep)) u13 y7.2.2.masters)] ++ Ωx) := h
             refine OpS.loadB h .z PA.a (Get.fld Delivery_.f3) ty33 rfl rfl rfl (fun u h114 => ?_)
             exact ⟨u, rfl, trivial, h114⟩
            ·intro q5 w Γx Ωx h
             refine OpS.mv rfl rfl rfl ?_
             exact ⟨undef, rfl, trivial, h⟩
            ·intro q5 w Γx Ωx h
             refine OpS.iptr h Try.underlying33 ty3 rfl rfl rfl rfl (V.at .z) e64 (fun u h115 => ?_)
             exact ⟨u, rfl, trivial, h115⟩
            ·intro q5 w Γx Ωx h
             refine OpS.loadi h ty3 rfl rfl rfl .z ?_
             exact ⟨undef, rfl, trivial, h⟩
            ·intro q5 w Γx Ωx h
             refine OpS.callP h Try.func27 rfl rfl rfl rfl (vs := [(q5 4), .int .i64 x29]) rfl (law21_among_ok e65) (.cons (f := true) (V.at .z) .nil) ?_
             rintro _ w36 _ _ _ ⟨rfl, rfl, rfl, rfl⟩ h116
             have h117 := h116 rfl rfl
             simp only [List.cons_append, List.nil_append] at h117
             exact ⟨undef, rfl, trivial, h117⟩
            ·intro q5 w Γx Ωx h
             refine OpS.not rfl rfl rfl ?_
             exact ⟨undef, rfl, trivial, h⟩
            ·intro q5 w Γx Ωx h
             refine OpS.pick rfl rfl rfl rfl ?_
             exact ⟨undef, rfl, trivial, h⟩
            have h118 : St e w [(true, .val (Rep.slice (Rep.int .i64)) (q5 4) y7.1.Masters), (true, .val (Rep.slice (Rep.int .i64)) (q5 6) y7.1.Failed), (true, .ptr (Rep.int .i64) (q5 8) x29), (true, .val (Rep.slice (Rep.int .i64)) u21 y7.1.Failed), (false, .val (Rep.slice Fault_.rep) v2 a2), (true, .val (Rep.slice (Rep.slice (Rep.slice (Rep.int .u8)))) u2 y4.2.1)] [(true, .box 46 Delivery_.rep u14 y7.1), (false, .box 76 (Rep.iso (fun s : bus_Bus => (s.masters, ())) (Rep.prod (Rep.raw (α := List bus_master) u13) Rep.unit)) u7 y7.2.2), (true, .slice 3 (Rep.int .i64) (q1 1) s7.2.1), (true, .slice 3 (Rep.int .i64) (q1 3) s7.2.2), (false, .oval (oslice 85 3 (fun _ => bus_master.orep)) u13 y7.2.2.masters)] := h
            refine RunL.nil ?_
            refine Run.slim [(182, .bool (!y11)), (2, v2), (7, .int .i64 x1), (8, u7), (9, u2), (11, (q1 1)), (12, (q1 3)), (13, .int .i64 s5.1), (15, u14), (21, .int .i64 s11)] ⟨rfl, rfl, rfl, rfl, rfl, rfl, rfl, rfl, rfl, rfl, trivial⟩ ?_
            refine Run.slim [(2, v2), (7, .int .i64 x1), (8, u7), (9, u2), (11, (q1 1)), (12, (q1 3)), (13, .int .i64 s5.1), (15, u14), (21, .int .i64 s11), (182, .bool (!y11))] ⟨rfl, rfl, rfl, rfl, rfl, rfl, rfl, rfl, rfl, rfl, trivial⟩ ?_
            exact hj8 (!y11) _ _ ⟨rfl, (h118.facts (.atm (.s (.s (.s (.s .z)))) (.atm (.s (.s (.s (.s (.s .z))))) .nil))).picks (.cons (.s .z) (.cons .z (.cons .z (.cons .z (.cons .z .nil)))))⟩ hF
         ·
          refine Run.exit rfl ?_
          refine Run.endBlock ?_
          refine Run.reg ?_
          refine op (OpS.mv rfl rfl rfl ?_)
          refine op (OpS.bin rfl rfl rfl rfl rfl ?_)
          refine op (OpS.as rfl rfl rfl ?_)
          obtain ⟨x30, e66, hF⟩ := letP_use hF
          refine RunL.name e66 ?_
          refine RunL.nil ?_
          refine Run.slim [(13, .int .i64 x30), (2, v2), (7, .int .i64 x1), (8, u7), (9, u2), (11, (q1 1)), (12, (q1 3))] ⟨rfl, rfl, rfl, rfl, rfl, rfl, rfl, trivial⟩ ?_
          have h119 := h104.front (.cons .z (.cons (.s (.s (.s .z))) .nil))
          have h120 := St.some (H := (fun x_ => .ex fun v_ => .sep (.box 76 (Rep.iso (fun s : bus_Bus => (s.masters, ())) (Rep.prod (Rep.raw (α := List bus_master) v_) Rep.unit)) u7 x_) (.oval (oslice 85 3 (fun _ => bus_master.orep)) v_ x_.masters))) (q := u7) (x := y7.2.2) (St.ex (H := fun v_ => .sep (.box 76 (Rep.iso (fun s : bus_Bus => (s.masters, ())) (Rep.prod (Rep.raw (α := List bus_master) v_) Rep.unit)) u7 y7.2.2) (.oval (oslice 85 3 (fun _ => bus_master.orep)) v_ y7.2.2.masters)) u13 (St.sep h119))
          refine Run.slim [(2, v2), (7, .int .i64 x1), (8, u7), (9, u2), (11, (q1 1)), (12, (q1 3)), (13, .int .i64 x30)] ⟨rfl, rfl, rfl, rfl, rfl, rfl, rfl, trivial⟩ ?_
          exact hk2 (x30, s7.2.1, s7.2.2, (some y7.2.2)) _ _ ⟨u7, rfl, (h120.facts (.atm (.s .z) (.atm (.s (.s .z)) .nil))).picks (.cons (.s (.s .z)) (.cons (.s (.s .z)) (.cons .z .nil)))⟩ hF
      ·
       refine Run.ite rfl hF (fun e67 hF => ?_) (fun e67 hF => ?_)
       ·
        refine Run.reg ?_
        refine op (OpS.mv rfl rfl rfl ?_)
        refine op (OpS.mv rfl rfl rfl ?_)
        obtain ⟨x31, e68, hF⟩ := bindP_use hF
        refine op (OpS.iptr h53 Try.underlying63 ty38 rfl rfl rfl rfl (V.at (.s .z)) e68 (fun u22 h121 => ?_))
        refine op (OpS.load h121 ty38 rfl rfl rfl .z (fun u23 h122 => ?_))
        obtain ⟨y12, e69, hF⟩ := bindP_use hF
        have h123 := h122.front .nil
        refine op (OpS.callO h123 Try.func19 rfl rfl rfl rfl (vs := [u23]) rfl (law21_fault_ok e69) rfl (.cons (f := false) (V.at .z) .nil) ?_)
        rintro u24 w37 _ _ _ ⟨_, rfl, rfl, rfl, rfl⟩ h124
        have h125 := h124
        simp only [List.cons_append, List.nil_append] at h125
        have h126 := (h125.pick .z).weak
        refine op (OpS.storeB (f' := false) h126 .z PA.z Put.id ty38 rfl rfl rfl (V.at .z) (.inr rfl) (fun w38 h127 => ?_))
        refine RunL.nil ?_
        refine Run.slim [(14, u9), (2, v2), (7, .int .i64 x1), (8, u7), (9, u2), (11, (q1 1)), (12, (q1 3)), (13, .int .i64 s5.1)] ⟨rfl, rfl, rfl, rfl, rfl, rfl, rfl, rfl, trivial⟩ ?_
        refine Run.slim [(2, v2), (7, .int .i64 x1), (8, u7), (9, u2), (11, (q1 1)), (12, (q1 3)), (13, .int .i64 s5.1), (14, u9)] ⟨rfl, rfl, rfl, rfl, rfl, rfl, rfl, rfl, trivial⟩ ?_
        exact hj4 (y12) _ _ ⟨rfl, (h127.facts (.atm (.s (.s (.s (.s .z)))) (.atm (.s (.s (.s (.s (.s .z))))) .nil))).picks (.cons (.s (.s (.s .z))) (.cons .z (.cons .z (.cons .z .nil))))⟩ hF
       ·
        refine Run.skip ?_
        have h128 := (h53.pick .z).weak
        refine Run.slim [(2, v2), (7, .int .i64 x1), (8, u7), (9, u2), (11, (q1 1)), (12, (q1 3)), (13, .int .i64 s5.1), (14, u9)] ⟨rfl, rfl, rfl, rfl, rfl, rfl, rfl, rfl, trivial⟩ ?_
        exact hj4 (Fault_.z) _ _ ⟨rfl, (h128.facts (.atm (.s .z) (.atm (.s (.s .z)) .nil))).picks (.cons (.s (.s (.s .z))) (.cons .z (.cons .z (.cons .z .nil))))⟩ hF
     ·
      refine Run.exit rfl ?_
      refine Run.slim [(7, .int .i64 x1), (8, u7), (9, u2), (11, (q1 1))] ⟨rfl, rfl, rfl, rfl, trivial⟩ ?_
      exact hj2 (s5.2.1, s5.2.2.2) _ _ ⟨u7, rfl, (h50.facts (.atm (.s .z) .nil)).picks (.cons .z (.cons (.s .z) .nil))⟩ hF
 ·
  refine RunL.caseb hF (fun e70 hF => ?_) (fun e70 hF => ?_)
  ·
   refine op (OpS.pass rfl rfl rfl ?_)
   refine op (OpS.pass rfl rfl rfl ?_)
   refine op (OpS.pass rfl rfl rfl ?_)
   refine op (OpS.pick rfl rfl rfl rfl ?_)
   refine RunL.nil ?_
   refine Run.slim [(30, .bool true), (0, .int .i64 a0), (1, v1), (2, v2)] ⟨rfl, rfl, rfl, rfl, trivial⟩ ?_
   refine Run.slim [(0, .int .i64 a0), (1, v1), (2, v2), (30, .bool true)] ⟨rfl, rfl, rfl, rfl, trivial⟩ ?_
   exact hj1 (true) _ _ ⟨rfl, (h2.facts (.atm .z (.atm (.s .z) .nil))).picks .nil⟩ hF
  ·
   refine op (OpS.mv rfl rfl rfl ?_)
   refine op (OpS.len h2 Try.underlying63 rfl rfl rfl (V.at (.s .z)) ?_)
   refine op (OpS.bin rfl rfl rfl rfl rfl ?_)
   refine op (OpS.pick rfl rfl rfl rfl ?_)
   refine RunL.nil ?_
   refine Run.slim [(30, .bool (decide ((a2.length : Int) > 300))), (0, .int .i64 a0), (1, v1), (2, v2)] ⟨rfl, rfl, rfl, rfl, trivial⟩ ?_
   refine Run.slim [(0, .int .i64 a0), (1, v1), (2, v2), (30, .bool (decide ((a2.length : Int) > 300)))] ⟨rfl, rfl, rfl, rfl, trivial⟩ ?_
   exact hj1 (decide ((a2.length : Int) > 300)) _ _ ⟨rfl, (h2.facts (.atm .z (.atm (.s .z) .nil))).picks .nil⟩ hF
end Lift
