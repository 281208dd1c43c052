/- Each Go function computes its plain function. Written by lift.py. -/
import Derived.Test.YtedddoifbhcinaaBusFaultsWalksA
set_option linter.unusedVariables false
set_option linter.unusedSimpArgs false
namespace Lift
open Go Go.Proofs
open RunL (op)
theorem made_Dice_Frame_ok {fuel : Nat} {a0 : made_Dice} {y : Frame_ × made_Dice} (hF : made_Dice_Frame fuel a0 = some y) {w : World} {v0 : Value} :
  Spec Try.prog 15 [v0].toArray w [] [(false, .box 81 made_Dice.rep v0 a0)] (fun v Γr Ωr Ωo => ∃ u0 : Value, v = u0 ∧ Γr = [(true, .val Frame_.rep u0 y.1)] ∧ Ωr = [] ∧ Ωo = [(false, .box 81 made_Dice.rep v0 y.2)]) := by
 refine Spec.of (L := [(0, v0)]) Try.func15 rfl ⟨rfl, trivial⟩ rfl (fun e h => ?_)
 unfold made_Dice_Frame at hF
 refine Run.seq ?_
 refine Run.reg ?_
 refine op (OpS.alloc h ti36 Frame_.zr rfl rfl (fun u1 w1 h1 => ?_))
 refine RunL.nil ?_
 refine Run.seq ?_
 refine Run.reg ?_
 refine op (OpS.mv rfl rfl rfl ?_)
 obtain ⟨y1, e1, hF⟩ := bindP_use hF
 have h2 := h1.front (.cons (.s .z) .nil)
 refine op (OpS.callO h2 Try.func32 rfl rfl rfl rfl (vs := [v0, .int .i64 4]) rfl (made_Dice_Next_ok e1) rfl .nil ?_)
 rintro _ w2 _ _ _ ⟨rfl, rfl, rfl, rfl⟩ h3
 have h4 := h3
 simp only [List.cons_append, List.nil_append] at h4
 refine op (OpS.bin rfl rfl rfl rfl rfl ?_)
 refine op (OpS.conv Try.underlying3 Try.underlying5 rfl rfl rfl ?_)
 refine op (OpS.mv rfl rfl rfl ?_)
 obtain ⟨y2, e2, hF⟩ := bindP_use hF
 have h5 := h4.front (.cons .z .nil)
 refine op (OpS.callO h5 Try.func32 rfl rfl rfl rfl (vs := [v0, .int .i64 3]) rfl (made_Dice_Next_ok e2) rfl .nil ?_)
 rintro _ w3 _ _ _ ⟨rfl, rfl, rfl, rfl⟩ h6
 have h7 := h6
 simp only [List.cons_append, List.nil_append] at h7
 refine op (OpS.bin rfl rfl rfl rfl rfl ?_)
 refine op (OpS.conv Try.underlying3 Try.underlying5 rfl rfl rfl ?_)
 refine op (OpS.mv rfl rfl rfl ?_)
 obtain ⟨y3, e3, hF⟩ := bindP_use hF
 have h8 := h7.front (.cons .z .nil)
 refine op (OpS.callO h8 Try.func33 rfl rfl rfl rfl (vs := [v0, .int .i64 6]) rfl (made_Dice_Bytes_ok e3) rfl .nil ?_)
 rintro u2 w4 _ _ _ ⟨_, rfl, rfl, rfl, rfl⟩ h9
 have h10 := h9
 simp only [List.cons_append, List.nil_append] at h10
 have h11 := (h10.pick .z).freeze
 refine op (OpS.build (f := true) (x' := (⟨(IntKind.u8.wrap (IntKind.i64.wrap (8 + y1.1))), (IntKind.u8.wrap (IntKind.i64.wrap (32 + y2.1))), y3.1⟩ : Frame_)) h11 pl36 ti36 Frame_.zr rfl rfl rfl (.cons rfl Frame_.f0 rfl V.int (.cons rfl Frame_.f1 rfl V.int (.cons rfl Frame_.f2 rfl (V.at .z) .nil))) (fun u3 h12 => ?_))
 refine op (OpS.alloc h12 ti36 Frame_.zr rfl rfl (fun u4 w5 h13 => ?_))
 refine op (OpS.storeB (f' := true) h13 .z PA.z Put.id ty36 rfl rfl rfl (V.at .z) (.inl rfl) (fun w6 h14 => ?_))
 refine RunL.nil ?_
 refine Run.slim [(3, u4), (2, u1), (0, v0)] ⟨rfl, rfl, rfl, trivial⟩ ?_
 refine Run.seq ?_
 refine Run.seq ?_
 refine Run.reg ?_
 refine op (OpS.mv rfl rfl rfl ?_)
 obtain ⟨y4, e4, hF⟩ := bindP_use hF
 have h15 := h14.front (.cons (.s .z) .nil)
 refine op (OpS.callO h15 Try.func34 rfl rfl rfl rfl (vs := [v0, .int .i64 30]) rfl (made_Dice_Bool_ok e4) rfl .nil ?_)
 rintro _ w7 _ _ _ ⟨rfl, rfl, rfl, rfl⟩ h16
 have h17 := h16
 simp only [List.cons_append, List.nil_append] at h17
 refine RunL.nil ?_
 refine Run.slim [(16, .bool y4.1), (3, u4), (2, u1)] ⟨rfl, rfl, rfl, trivial⟩ ?_
 refine Run.ite rfl hF (fun e5 hF => ?_) (fun e5 hF => ?_)
 ·
  refine Run.seq ?_
  refine Run.reg ?_
  obtain ⟨x1, e6, hF⟩ := bindP_use hF
  refine op (OpS.make h17 Try.underlying34 ti5 rfl rfl (Zr.int .u8 0) rfl rfl rfl rfl e6 (by simp) (mk_fits e6) rfl (fun u5 w8 h18 => ?_))
  refine op (OpS.fbox (o3 := 2) h18 (.s (.s .z)) PA.z fa36_2 rfl rfl rfl rfl ?_)
  refine op (OpS.storeC (f' := true) (fr := (Rep.raw u5)) (r' := (Rep.iso (fun s : Frame_ => (s.To, s.From, s.Data, ())) (Rep.prod (Rep.int .u8) (Rep.prod (Rep.int .u8) (Rep.prod (Rep.raw (α := List Int) u5) Rep.unit))))) (x' := (⟨(IntKind.u8.wrap (IntKind.i64.wrap (8 + y1.1))), (IntKind.u8.wrap (IntKind.i64.wrap (32 + y2.1))), y3.1⟩ : Frame_)) h18 (.s (.s .z)) PA.a (Chg.iso _ (Chg.there (Chg.there (Chg.here (Chg.id (by rfl)))))) (Ty.like ty34 (by rfl) (by rfl)) rfl rfl rfl (V.raw (f := true) (St.own1 h18 .z) ((⟨(IntKind.u8.wrap (IntKind.i64.wrap (8 + y1.1))), (IntKind.u8.wrap (IntKind.i64.wrap (32 + y2.1))), y3.1⟩ : Frame_).Data)) (.inl rfl) (fun w9 h19 => ?_))
  refine RunL.nil ?_
  refine Run.slim [(3, u4), (2, u1)] ⟨rfl, rfl, trivial⟩ ?_
  refine Run.reg ?_
  refine op (OpS.fbox (o3 := 0) h19 .z PA.z fa36_0 rfl rfl rfl rfl ?_)
  obtain ⟨d1, e7, hF⟩ := letP_use hF
  refine op (OpS.storeC (f' := true) (fr := (Rep.int .u8)) (r' := (Rep.iso (fun s : Frame_ => (s.To, s.From, s.Data, ())) (Rep.prod (Rep.int .u8) (Rep.prod (Rep.int .u8) (Rep.prod (Rep.raw (α := List Int) u5) Rep.unit))))) (x' := d1) h19 .z PA.a (Chg.of (x' := { (⟨(IntKind.u8.wrap (IntKind.i64.wrap (8 + y1.1))), (IntKind.u8.wrap (IntKind.i64.wrap (32 + y2.1))), y3.1⟩ : Frame_) with To := 119 }) (Chg.iso _ (Chg.here (Chg.id (by rfl)))) e7) ty5 rfl rfl rfl V.int (.inl rfl) (fun w10 h20 => ?_))
  refine RunL.nil ?_
  refine Run.slim [(3, u4), (2, u1)] ⟨rfl, rfl, trivial⟩ ?_
  refine Run.seq ?_
  refine Run.reg ?_
  refine op (OpS.loadB (fr := (Rep.iso (fun s : Frame_ => (s.To, s.From, s.Data, ())) (Rep.prod (Rep.int .u8) (Rep.prod (Rep.int .u8) (Rep.prod (Rep.raw (α := List Int) u5) Rep.unit))))) h20 .z PA.z (GetS.ok GetS.id) (Ty.like ty36 (by rfl) (by rfl)) rfl rfl rfl (fun u6 h21 => ?_))
  refine op (OpS.storeC (f' := true) (fr := (Rep.iso (fun s : Frame_ => (s.To, s.From, s.Data, ())) (Rep.prod (Rep.int .u8) (Rep.prod (Rep.int .u8) (Rep.prod (Rep.raw (α := List Int) u5) Rep.unit))))) (r' := (Rep.iso (fun s : Frame_ => (s.To, s.From, s.Data, ())) (Rep.prod (Rep.int .u8) (Rep.prod (Rep.int .u8) (Rep.prod (Rep.raw (α := List Int) u5) Rep.unit))))) (x' := d1) h21 (.s (.s (.s .z))) PA.z (Chg.id (by rfl)) (Ty.like ty36 (by rfl) (by rfl)) rfl rfl rfl (V.at .z) (.inl rfl) (fun w11 h22 => ?_))
  refine RunL.nil ?_
  refine Run.slim [(2, u1)] ⟨rfl, trivial⟩ ?_
  obtain ⟨u7, hu1, h23⟩ := res_box h22 .z (Ty.like ty36 (by rfl) (by rfl))
  have h24 := (h23.pick (.s (.s .z))).freeze
  have h25 := h24.pick .z
  have h26 := St.boxJ (r' := Frame_.rep) (x' := { d1 with Data := x1 }) h25 (fun _ _ hs_ => (Jn.iso _ (Jn.prod Jn.refl (Jn.prod Jn.refl (Jn.prod (Jn.raw ((V.at .z) _ _ hs_) rfl) Jn.refl)))))
  have h27 := h26.pick (.s .z)
  have h28 := St.boxJ (r' := Frame_.rep) (x' := { d1 with Data := x1 }) h27 (fun _ _ hs_ => (Jn.iso _ (Jn.prod Jn.refl (Jn.prod Jn.refl (Jn.prod (Jn.raw ((V.at .z) _ _ hs_) rfl) Jn.refl)))))
  have h29 := St.addV (f := true) (r := Frame_.rep) (x := { d1 with Data := x1 }) h28 (V.jn (r := (Rep.iso (fun s : Frame_ => (s.To, s.From, s.Data, ())) (Rep.prod (Rep.int .u8) (Rep.prod (Rep.int .u8) (Rep.prod (Rep.raw (α := List Int) u5) Rep.unit))))) (x := d1) (V.at (.s .z)) rfl (fun _ _ hs_ => (Jn.iso _ (Jn.prod Jn.refl (Jn.prod Jn.refl (Jn.prod (Jn.raw ((V.at .z) _ _ hs_) rfl) Jn.refl))))))
  refine Run.retP rfl (.cell rfl hu1 .nil) ?_
  cases hF
  exact Post.mk' ⟨u7, rfl, rfl, rfl, rfl⟩ (h29.picks (.cons (.s (.s .z)) .nil)) (.val (V.at .z) .nil)
 ·
  refine Run.skip ?_
  refine Run.seq ?_
  refine Run.reg ?_
  refine op (OpS.loadB h17 (.s .z) PA.z Get.id ty36 rfl rfl rfl (fun u8 h30 => ?_))
  refine op (OpS.storeB (f' := true) h30 (.s (.s .z)) PA.z Put.id ty36 rfl rfl rfl (V.at .z) (.inl rfl) (fun w12 h31 => ?_))
  refine RunL.nil ?_
  refine Run.slim [(2, u1)] ⟨rfl, trivial⟩ ?_
  obtain ⟨u9, hu2, h32⟩ := res_box h31 .z ty36
  refine Run.retP rfl (.cell rfl hu2 .nil) ?_
  cases hF
  exact Post.mk' ⟨u9, rfl, rfl, rfl, rfl⟩ (h32.picks (.cons (.s .z) .nil)) (.val (V.at .z) .nil)
theorem law21_fault_ok {fuel : Nat} {a0 : Fault_} {y : Fault_} (hF : law21_fault fuel a0 = some y) {w : World} {v0 : Value} :
  Spec Try.prog 19 [v0].toArray w [(false, .val Fault_.rep v0 a0)] [] (fun v Γr Ωr Ωo => ∃ u0 : Value, v = u0 ∧ Γr = [(false, .val Fault_.rep u0 y)] ∧ Ωr = [] ∧ Ωo = []) := by
 refine Spec.of (L := [(0, v0)]) Try.func19 rfl ⟨rfl, trivial⟩ rfl (fun e h => ?_)
 unfold law21_fault at hF
 refine Run.seq ?_
 refine Run.reg ?_
 refine op (OpS.boxF h rfl rfl rfl (V.at .z) (fun u1 w1 h1 => ?_))
 refine op (OpS.alloc h1 ti38 Fault_.zr rfl rfl (fun u2 w2 h2 => ?_))
 refine RunL.nil ?_
 refine Run.slim [(2, u2), (1, u1)] ⟨rfl, rfl, trivial⟩ ?_
 refine Run.seq ?_
 refine Run.seq ?_
 refine Run.reg ?_
 refine op (OpS.fbox (o3 := 1) h2 (.s .z) PA.z fa38_1 rfl rfl rfl rfl ?_)
 refine op (OpS.loadBi h2 (.s .z) PA.a (Get.fld Fault_.f1) ty3 rfl rfl rfl ?_)
 refine op (OpS.rem rfl rfl rfl rfl (by decide) ?_)
 refine op (OpS.bin rfl rfl rfl rfl rfl ?_)
 refine RunL.nil ?_
 refine Run.slim [(6, .bool ((Int.tmod a0.Index 5) != 0)), (2, u2), (1, u1)] ⟨rfl, rfl, rfl, trivial⟩ ?_
 refine Run.ite rfl hF (fun e1 hF => ?_) (fun e1 hF => ?_)
 ·
  refine Run.seq ?_
  refine Run.reg ?_
  refine op (OpS.fbox (o3 := 0) h2 (.s .z) PA.z fa38_0 rfl rfl rfl rfl ?_)
  refine op (OpS.loadBi h2 (.s .z) PA.a (Get.fld Fault_.f0) ty3 rfl rfl rfl ?_)
  obtain ⟨y1, e2, hF⟩ := bindP_use hF
  refine op (OpS.callP h2 Try.func13 rfl rfl rfl rfl (vs := [.int .i64 a0.Kind, .int .i64 3]) rfl (made_Mod_ok e2) .nil ?_)
  rintro _ w3 _ _ _ ⟨rfl, rfl, rfl, rfl⟩ h3
  have h4 := h3 rfl rfl
  simp only [List.cons_append, List.nil_append] at h4
  refine op (OpS.fbox (o3 := 0) h4 (.s .z) PA.z fa38_0 rfl rfl rfl rfl ?_)
  obtain ⟨d1, e3, hF⟩ := letP_use hF
  refine op (OpS.storeB (f' := true) h4 (.s .z) PA.a (Put.of (Put.fld Fault_.f0) e3) ty3 rfl rfl rfl V.int (.inr rfl) (fun w4 h5 => ?_))
  refine RunL.nil ?_
  refine Run.slim [(2, u2), (1, u1)] ⟨rfl, rfl, trivial⟩ ?_
  refine Run.reg ?_
  refine op (OpS.fbox (o3 := 1) h5 .z PA.z fa38_1 rfl rfl rfl rfl ?_)
  refine op (OpS.loadBi h5 .z PA.a (Get.fld Fault_.f1) ty3 rfl rfl rfl ?_)
  obtain ⟨y2, e4, hF⟩ := bindP_use hF
  refine op (OpS.callP h5 Try.func13 rfl rfl rfl rfl (vs := [.int .i64 d1.Index, .int .i64 12]) rfl (made_Mod_ok e4) .nil ?_)
  rintro _ w5 _ _ _ ⟨rfl, rfl, rfl, rfl⟩ h6
  have h7 := h6 rfl rfl
  simp only [List.cons_append, List.nil_append] at h7
  refine op (OpS.fbox (o3 := 1) h7 .z PA.z fa38_1 rfl rfl rfl rfl ?_)
  obtain ⟨d2, e5, hF⟩ := letP_use hF
  refine op (OpS.storeB (f' := true) h7 .z PA.a (Put.of (Put.fld Fault_.f1) e5) ty3 rfl rfl rfl V.int (.inr rfl) (fun w6 h8 => ?_))
  refine RunL.nil ?_
  refine Run.slim [(2, u2), (1, u1)] ⟨rfl, rfl, trivial⟩ ?_
  refine Run.seq ?_
  refine Run.reg ?_
  refine op (OpS.loadB h8 .z PA.z Get.id ty38 rfl rfl rfl (fun u3 h9 => ?_))
  have h10 := (h9.pick (.s .z)).weak
  refine op (OpS.storeB (f' := false) h10 .z PA.z Put.id ty38 rfl rfl rfl (V.at .z) (.inr rfl) (fun w7 h11 => ?_))
  refine RunL.nil ?_
  refine Run.slim [(2, u2)] ⟨rfl, trivial⟩ ?_
  obtain ⟨u4, hu1, h12⟩ := res_box h11 .z ty38
  refine Run.retP rfl (.cell rfl hu1 .nil) ?_
  cases hF
  exact Post.mk' ⟨u4, rfl, rfl, rfl, rfl⟩ (h12.picks .nil) (.val (V.at .z) .nil)
 ·
  refine Run.skip ?_
  refine Run.seq ?_
  refine Run.reg ?_
  refine op (OpS.loadB h2 (.s .z) PA.z Get.id ty38 rfl rfl rfl (fun u5 h13 => ?_))
  have h14 := (h13.pick .z).weak
  refine op (OpS.storeB (f' := false) h14 .z PA.z Put.id ty38 rfl rfl rfl (V.at .z) (.inr rfl) (fun w8 h15 => ?_))
  refine RunL.nil ?_
  refine Run.slim [(2, u2)] ⟨rfl, trivial⟩ ?_
  obtain ⟨u6, hu2, h16⟩ := res_box h15 .z ty38
  refine Run.retP rfl (.cell rfl hu2 .nil) ?_
  cases hF
  exact Post.mk' ⟨u6, rfl, rfl, rfl, rfl⟩ (h16.picks .nil) (.val (V.at .z) .nil)
theorem ref01_Same_ok {fuel : Nat} {a0 : List Int} {a1 : List Int} {y : Bool} (hF : ref01_Same fuel a0 a1 = some y) {w : World} {v0 v1 : Value} :
  Spec Try.prog 26 [v0, v1].toArray w [(false, .val (Rep.slice (Rep.int .u8)) v0 a0), (false, .val (Rep.slice (Rep.int .u8)) v1 a1)] [] (fun v Γr Ωr Ωo => v = .bool y ∧ Γr = [] ∧ Ωr = [] ∧ Ωo = []) := by
 refine Spec.of (L := [(0, v0), (1, v1)]) Try.func26 rfl ⟨rfl, rfl, trivial⟩ rfl (fun e h => ?_)
 unfold ref01_Same at hF
 refine Run.seq ?_
 refine Run.reg ?_
 refine op (OpS.as rfl rfl rfl ?_)
 refine RunL.nil ?_
 refine Run.slim [(0, v0), (1, v1)] ⟨rfl, rfl, trivial⟩ ?_
 refine Run.seq ?_
 refine Run.seq ?_
 refine Run.reg ?_
 refine op (OpS.mv rfl rfl rfl ?_)
 refine op (OpS.len h Try.underlying34 rfl rfl rfl (V.at .z) ?_)
 refine op (OpS.mv rfl rfl rfl ?_)
 refine op (OpS.len h Try.underlying34 rfl rfl rfl (V.at (.s .z)) ?_)
 refine op (OpS.bin rfl rfl rfl rfl rfl ?_)
 refine RunL.nil ?_
 refine Run.slim [(10, .bool ((a0.length : Int) != (a1.length : Int))), (0, v0), (1, v1)] ⟨rfl, rfl, rfl, trivial⟩ ?_
 refine Run.ite rfl hF (fun e1 hF => ?_) (fun e1 hF => ?_)
 ·
  refine Run.seq ?_
  refine Run.reg ?_
  refine op (OpS.as rfl rfl rfl ?_)
  refine RunL.nil ?_
  refine Run.slim [(4, .bool false)] ⟨rfl, trivial⟩ ?_
  refine Run.retP rfl (.tmp rfl .nil) ?_
  cases hF
  exact Post.mk' ⟨rfl, rfl, rfl, rfl⟩ (h.picks .nil) .nil
 ·
  refine Run.skip ?_
  refine Run.seq ?_
  refine Run.seq ?_
  refine Run.reg ?_
  refine op (OpS.as rfl rfl rfl ?_)
  refine RunL.nil ?_
  refine Run.slim [(5, .int .i64 0), (0, v0), (1, v1)] ⟨rfl, rfl, rfl, trivial⟩ ?_
  refine Run.block ?_
  refine Run.slim [(0, v0), (1, v1), (5, .int .i64 0)] ⟨rfl, rfl, rfl, trivial⟩ ?_
  refine Run.loopP (σ := Int) (fun s_ L_ w_ => L_ = [(0, v0), (1, v1), (5, .int .i64 s_)] ∧ St e w_ [(false, .val (Rep.slice (Rep.int .u8)) v0 a0), (false, .val (Rep.slice (Rep.int .u8)) v1 a1)] []) hF ⟨rfl, (h.facts (.atm .z (.atm (.s .z) .nil))).picks .nil⟩ (fun k1 hk1 s1 _ w1 hI hF => ?_)
  obtain ⟨rfl, h1⟩ := hI
  refine Run.seq ?_
  refine Run.seq ?_
  refine Run.reg ?_
  refine op (OpS.mv rfl rfl rfl ?_)
  refine op (OpS.mv rfl rfl rfl ?_)
  refine op (OpS.len h1 Try.underlying34 rfl rfl rfl (V.at .z) ?_)
  refine op (OpS.bin rfl rfl rfl rfl rfl ?_)
  refine RunL.nil ?_
  refine Run.slim [(14, .bool (decide (s1 < (a0.length : Int)))), (0, v0), (1, v1), (5, .int .i64 s1)] ⟨rfl, rfl, rfl, rfl, trivial⟩ ?_
  refine Run.ite rfl hF (fun e2 hF => ?_) (fun e2 hF => ?_)
  ·
   refine Run.skip ?_
   refine Run.seq ?_
   refine Run.block ?_
   refine Run.seq ?_
   obtain ⟨x1, e3, hF⟩ := bindP_use hF
   obtain ⟨x2, e4, hF⟩ := bindP_use hF
   refine Run.drawV (Ωs := []) [⟨some 17, some (v0), fun _ => [], fun ds_ u_ => [], [], [], none⟩, ⟨some 18, some (.int .i64 s1), fun _ => [], fun ds_ u_ => [], [], [], none⟩, ⟨some 19, none, fun u_ => [(false, .ptr (Rep.int .u8) u_ x1)], fun ds_ u_ => [], [], [], none⟩, ⟨some 20, some (.int .u8 x1), fun _ => [], fun ds_ u_ => [], [], [], none⟩, ⟨some 21, some (v1), fun _ => [], fun ds_ u_ => [], [], [], none⟩, ⟨some 22, some (.int .i64 s1), fun _ => [], fun ds_ u_ => [], [], [], none⟩, ⟨some 23, none, fun u_ => [(false, .ptr (Rep.int .u8) u_ x2)], fun ds_ u_ => [], [], [], none⟩, ⟨some 24, some (.int .u8 x2), fun _ => [], fun ds_ u_ => [], [], [], none⟩, ⟨some 25, some (.bool (x1 != x2)), fun _ => [], fun ds_ u_ => [], [], [], none⟩] [[], [], [0, 1], [2], [], [], [4, 5], [6], [3, 7]] [] [0, 1, 2, 3, 4, 5, 6, 7, 8] Try_mixed rfl rfl rfl h1 (.cons ?_ (.cons ?_ (.cons ?_ (.cons ?_ (.cons ?_ (.cons ?_ (.cons ?_ (.cons ?_ (.cons ?_ .nil))))))))) (fun q1 w hq1 h => ?_)
   ·intro q1 w Γx Ωx h
    refine OpS.mv rfl rfl rfl ?_
    exact ⟨undef, rfl, trivial, h⟩
   ·intro q1 w Γx Ωx h
    refine OpS.mv rfl rfl rfl ?_
    exact ⟨undef, rfl, trivial, h⟩
   ·intro q1 w Γx Ωx h
    refine OpS.iptr h Try.underlying34 ty5 rfl rfl rfl rfl (V.at .z) e3 (fun u h4 => ?_)
    exact ⟨u, rfl, trivial, h4⟩
   ·intro q1 w Γx Ωx h
    refine OpS.loadi h ty5 rfl rfl rfl .z ?_
    exact ⟨undef, rfl, trivial, h⟩
   ·intro q1 w Γx Ωx h
    refine OpS.mv rfl rfl rfl ?_
    exact ⟨undef, rfl, trivial, h⟩
   ·intro q1 w Γx Ωx h
    refine OpS.mv rfl rfl rfl ?_
    exact ⟨undef, rfl, trivial, h⟩
   ·intro q1 w Γx Ωx h
    refine OpS.iptr h Try.underlying34 ty5 rfl rfl rfl rfl (V.at (.s .z)) e4 (fun u h5 => ?_)
    exact ⟨u, rfl, trivial, h5⟩
   ·intro q1 w Γx Ωx h
    refine OpS.loadi h ty5 rfl rfl rfl .z ?_
    exact ⟨undef, rfl, trivial, h⟩
   ·intro q1 w Γx Ωx h
    refine OpS.bin rfl rfl rfl rfl rfl ?_
    exact ⟨undef, rfl, trivial, h⟩
   have h6 : St e w [(false, .ptr (Rep.int .u8) (q1 2) x1), (false, .ptr (Rep.int .u8) (q1 6) x2), (false, .val (Rep.slice (Rep.int .u8)) v0 a0), (false, .val (Rep.slice (Rep.int .u8)) v1 a1)] [] := h
   refine RunL.nil ?_
   refine Run.slim [(25, .bool (x1 != x2)), (0, v0), (1, v1), (5, .int .i64 s1)] ⟨rfl, rfl, rfl, rfl, trivial⟩ ?_
   refine Run.ite rfl hF (fun e5 hF => ?_) (fun e5 hF => ?_)
   ·
    refine Run.seq ?_
    refine Run.reg ?_
    refine op (OpS.as rfl rfl rfl ?_)
    refine RunL.nil ?_
    refine Run.slim [(4, .bool false)] ⟨rfl, trivial⟩ ?_
    refine Run.retP rfl (.tmp rfl .nil) ?_
    cases hF
    exact Post.mk' ⟨rfl, rfl, rfl, rfl⟩ (h6.picks .nil) .nil
   ·
    refine Run.skip ?_
    refine Run.endBlock ?_
    refine Run.reg ?_
    refine op (OpS.mv rfl rfl rfl ?_)
    refine op (OpS.bin rfl rfl rfl rfl rfl ?_)
    refine op (OpS.as rfl rfl rfl ?_)
    obtain ⟨x3, e6, hF⟩ := letP_use hF
    refine RunL.name e6 ?_
    refine RunL.nil ?_
    refine Run.slim [(5, .int .i64 x3), (0, v0), (1, v1)] ⟨rfl, rfl, rfl, trivial⟩ ?_
    refine Run.slim [(0, v0), (1, v1), (5, .int .i64 x3)] ⟨rfl, rfl, rfl, trivial⟩ ?_
    exact hk1 (x3) _ _ ⟨rfl, (h6.facts (.atm (.s (.s .z)) (.atm (.s (.s (.s .z))) .nil))).picks .nil⟩ hF
  ·
   refine Run.exit rfl ?_
   refine Run.seq ?_
   refine Run.reg ?_
   refine op (OpS.as rfl rfl rfl ?_)
   refine RunL.nil ?_
   refine Run.slim [(4, .bool true)] ⟨rfl, trivial⟩ ?_
   refine Run.retP rfl (.tmp rfl .nil) ?_
   cases hF
   exact Post.mk' ⟨rfl, rfl, rfl, rfl⟩ (h1.picks .nil) .nil
theorem made_Light_ok {fuel : Nat} {a0 : List Int} {y : Bool} (hF : made_Light fuel a0 = some y) {w : World} {v0 : Value} :
  Spec Try.prog 24 [v0].toArray w [(false, .val (Rep.slice (Rep.int .i64)) v0 a0)] [] (fun v Γr Ωr Ωo => v = .bool y ∧ Γr = [] ∧ Ωr = [] ∧ Ωo = []) := by
 refine Spec.of (L := [(0, v0)]) Try.func24 rfl ⟨rfl, trivial⟩ rfl (fun e h => ?_)
 unfold made_Light at hF
 refine Run.seq ?_
 refine Run.reg ?_
 refine op (OpS.as rfl rfl rfl ?_)
 refine RunL.nil ?_
 refine Run.slim [(0, v0)] ⟨rfl, trivial⟩ ?_
 refine Run.seq ?_
 refine Run.reg ?_
 refine op (OpS.mv rfl rfl rfl ?_)
 refine op (OpS.len h Try.underlying33 rfl rfl rfl (V.at .z) ?_)
 refine op (OpS.bin rfl rfl rfl rfl rfl ?_)
 refine op (OpS.as rfl rfl rfl ?_)
 obtain ⟨x1, e1, hF⟩ := letP_use hF
 refine RunL.nameb e1 ?_
 refine RunL.nil ?_
 refine Run.slim [(2, .bool x1)] ⟨rfl, trivial⟩ ?_
 refine Run.retP rfl (.tmp rfl .nil) ?_
 cases hF
 exact Post.mk' ⟨rfl, rfl, rfl, rfl⟩ (h.picks .nil) .nil
theorem ref20_Same_ok {fuel : Nat} {a0 : Frame_} {a1 : Frame_} {y : Bool} (hF : ref20_Same fuel a0 a1 = some y) {w : World} {v0 v1 : Value} :
  Spec Try.prog 30 [v0, v1].toArray w [(false, .val Frame_.rep v0 a0), (false, .val Frame_.rep v1 a1)] [] (fun v Γr Ωr Ωo => v = .bool y ∧ Γr = [] ∧ Ωr = [] ∧ Ωo = []) := by
 refine Spec.of (L := [(0, v0), (1, v1)]) Try.func30 rfl ⟨rfl, rfl, trivial⟩ rfl (fun e h => ?_)
 unfold ref20_Same at hF
 refine Run.seq ?_
 refine Run.reg ?_
 refine op (OpS.boxF h rfl rfl rfl (V.at .z) (fun u1 w1 h1 => ?_))
 refine op (OpS.boxF h1 rfl rfl rfl (V.at (.s .z)) (fun u2 w2 h2 => ?_))
 refine op (OpS.as rfl rfl rfl ?_)
 refine RunL.nil ?_
 refine Run.slim [(3, u2), (2, u1)] ⟨rfl, rfl, trivial⟩ ?_
 refine Run.seq ?_
 refine Run.reg ?_
 refine op (OpS.fbox (o3 := 0) h2 (.s .z) PA.z fa36_0 rfl rfl rfl rfl ?_)
 refine op (OpS.loadBi h2 (.s .z) PA.a (Get.fld Frame_.f0) ty5 rfl rfl rfl ?_)
 refine op (OpS.fbox (o3 := 0) h2 .z PA.z fa36_0 rfl rfl rfl rfl ?_)
 refine op (OpS.loadBi h2 .z PA.a (Get.fld Frame_.f0) ty5 rfl rfl rfl ?_)
 refine op (OpS.bin rfl rfl rfl rfl rfl ?_)
 refine op (OpS.mv rfl rfl rfl ?_)
 refine RunL.caseb hF (fun e1 hF => ?_) (fun e1 hF => ?_)
 ·
  refine op (OpS.fbox (o3 := 1) h2 (.s .z) PA.z fa36_1 rfl rfl rfl rfl ?_)
  refine op (OpS.loadBi h2 (.s .z) PA.a (Get.fld Frame_.f1) ty5 rfl rfl rfl ?_)
  refine op (OpS.fbox (o3 := 1) h2 .z PA.z fa36_1 rfl rfl rfl rfl ?_)
  refine op (OpS.loadBi h2 .z PA.a (Get.fld Frame_.f1) ty5 rfl rfl rfl ?_)
  refine op (OpS.bin rfl rfl rfl rfl rfl ?_)
  refine op (OpS.pick rfl rfl rfl rfl ?_)
  refine op (OpS.mv rfl rfl rfl ?_)
  refine RunL.caseb hF (fun e2 hF => ?_) (fun e2 hF => ?_)
  ·
   refine op (OpS.fbox (o3 := 2) h2 (.s .z) PA.z fa36_2 rfl rfl rfl rfl ?_)
   refine op (OpS.loadB h2 (.s .z) PA.a (Get.fld Frame_.f2) ty34 rfl rfl rfl (fun u3 h3 => ?_))
   refine op (OpS.fbox (o3 := 2) h3 .z PA.z fa36_2 rfl rfl rfl rfl ?_)
   refine op (OpS.loadB h3 .z PA.a (Get.fld Frame_.f2) ty34 rfl rfl rfl (fun u4 h4 => ?_))
   obtain ⟨y1, e3, hF⟩ := bindP_use hF
   refine op (OpS.callP h4 Try.func26 rfl rfl rfl rfl (vs := [u3, u4]) rfl (ref01_Same_ok e3) (.cons (f := false) (V.at (.s .z)) (.cons (f := false) (V.at .z) .nil)) ?_)
   rintro _ w3 _ _ _ ⟨rfl, rfl, rfl, rfl⟩ h5
   have h6 := h5 rfl rfl
   simp only [List.cons_append, List.nil_append] at h6
   refine op (OpS.pick rfl rfl rfl rfl ?_)
   refine op (OpS.as rfl rfl rfl ?_)
   refine RunL.nil ?_
   refine Run.slim [(4, .bool y1)] ⟨rfl, trivial⟩ ?_
   refine Run.retP rfl (.tmp rfl .nil) ?_
   cases hF
   exact Post.mk' ⟨rfl, rfl, rfl, rfl⟩ (h6.picks .nil) .nil
  ·
   refine op (OpS.pass rfl rfl rfl ?_)
   refine op (OpS.pass rfl rfl rfl ?_)
   refine op (OpS.pass rfl rfl rfl ?_)
   refine op (OpS.pass rfl rfl rfl ?_)
   refine op (OpS.pass rfl rfl rfl ?_)
   refine op (OpS.pick rfl rfl rfl rfl ?_)
   refine op (OpS.as rfl rfl rfl ?_)
   refine RunL.nil ?_
   refine Run.slim [(4, .bool false)] ⟨rfl, trivial⟩ ?_
   refine Run.retP rfl (.tmp rfl .nil) ?_
   cases hF
   exact Post.mk' ⟨rfl, rfl, rfl, rfl⟩ (h2.picks .nil) .nil
 ·
  refine op (OpS.pass rfl rfl rfl ?_)
  refine op (OpS.pass rfl rfl rfl ?_)
  refine op (OpS.pass rfl rfl rfl ?_)
  refine op (OpS.pass rfl rfl rfl ?_)
  refine op (OpS.pass rfl rfl rfl ?_)
  refine op (OpS.pick rfl rfl rfl rfl ?_)
  refine op (OpS.mv rfl rfl rfl ?_)
  refine op (OpS.pass rfl rfl rfl ?_)
  refine op (OpS.pass rfl rfl rfl ?_)
  refine op (OpS.pass rfl rfl rfl ?_)
  refine op (OpS.pass rfl rfl rfl ?_)
  refine op (OpS.pass rfl rfl rfl ?_)
  refine op (OpS.pick rfl rfl rfl rfl ?_)
  refine op (OpS.as rfl rfl rfl ?_)
  refine RunL.nil ?_
  refine Run.slim [(4, .bool false)] ⟨rfl, trivial⟩ ?_
  refine Run.retP rfl (.tmp rfl .nil) ?_
  cases hF
  exact Post.mk' ⟨rfl, rfl, rfl, rfl⟩ (h2.picks .nil) .nil
set_option maxHeartbeats 8000000 in
theorem law21_BusFaults_ok {fuel : Nat} {a0 : List Int} {a1 : Fault_} {y : Bool} (hF : law21_BusFaults fuel a0 a1 = some y) {w : World} {v0 v1 : Value} :
  Spec Try.prog 6 [v0, v1].toArray w [(false, .val (Rep.slice (Rep.int .i64)) v0 a0), (false, .val Fault_.rep v1 a1)] [] (fun v Γr Ωr Ωo => v = .bool y ∧ Γr = [] ∧ Ωr = [] ∧ Ωo = []) := by
 refine Spec.of (L := [(0, v0), (1, v1)]) Try.func6 rfl ⟨rfl, rfl, trivial⟩ rfl (fun e h => ?_)
 unfold law21_BusFaults at hF
 refine Run.seq ?_
 refine Run.reg ?_
 refine op (OpS.boxF h rfl rfl rfl (V.at (.s .z)) (fun u1 w1 h1 => ?_))
 refine op (OpS.as rfl rfl rfl ?_)
 refine RunL.nil ?_
 refine Run.slim [(3, u1), (0, v0)] ⟨rfl, rfl, trivial⟩ ?_
 refine Run.seq ?_
 refine Run.seq ?_
 refine Run.reg ?_
 refine op (OpS.mv rfl rfl rfl ?_)
 obtain ⟨y1, e1, hF⟩ := bindP_use hF
 refine op (OpS.callP h1 Try.func24 rfl rfl rfl rfl (vs := [v0]) rfl (made_Light_ok e1) (.cons (f := false) (V.at .z) .nil) ?_)
 rintro _ w2 _ _ _ ⟨rfl, rfl, rfl, rfl⟩ h2
 have h3 := h2 rfl rfl
 simp only [List.cons_append, List.nil_append] at h3
 refine op (OpS.not rfl rfl rfl ?_)
 refine RunL.nil ?_
 refine Run.slim [(16, .bool (!y1)), (3, u1), (0, v0)] ⟨rfl, rfl, rfl, trivial⟩ ?_
 refine Run.ite rfl hF (fun e2 hF => ?_) (fun e2 hF => ?_)
 ·
  refine Run.seq ?_
  refine Run.reg ?_
  obtain ⟨y2, e3, hF⟩ := bindP_use hF
  refine op (OpS.callP h3 Try.func10 rfl rfl rfl rfl (vs := []) rfl (law21_awake_ok e3) .nil ?_)
  rintro _ w3 _ _ _ ⟨rfl, rfl, rfl, rfl⟩ h4
  have h5 := h4 rfl rfl
  simp only [List.cons_append, List.nil_append] at h5
  refine op (OpS.as rfl rfl rfl ?_)
  refine RunL.nil ?_
  refine Run.slim [(4, .bool y2)] ⟨rfl, trivial⟩ ?_
  refine Run.retP rfl (.tmp rfl .nil) ?_
  cases hF
  exact Post.mk' ⟨rfl, rfl, rfl, rfl⟩ (h5.picks .nil) .nil
 ·
  refine Run.skip ?_
  refine Run.seq ?_
  refine Run.reg ?_
  obtain ⟨y3, e4, hF⟩ := bindP_use hF
  refine op (OpS.callP h3 Try.func11 rfl rfl rfl rfl (vs := [.int .i64 1]) rfl (bus_New_ok e4) .nil ?_)
  rintro _ w4 _ _ _ ⟨u2, rfl, rfl, rfl, rfl⟩ h6
  have h7 := h6 rfl rfl
  simp only [List.cons_append, List.nil_append] at h7
  refine op (OpS.mv rfl rfl rfl ?_)
  refine op (OpS.ext rfl rfl rfl rfl ?_)
  refine op (OpS.ext rfl rfl rfl rfl ?_)
  refine op (OpS.as rfl rfl rfl ?_)
  refine op (OpS.as rfl rfl rfl ?_)
  refine RunL.nil ?_
  refine Run.slim [(6, .int .i64 y3.2), (5, u2), (3, u1), (0, v0)] ⟨rfl, rfl, rfl, rfl, trivial⟩ ?_
  refine Run.seq ?_
  refine Run.reg ?_
  refine op (OpS.mv rfl rfl rfl ?_)
  obtain ⟨y4, e5, hF⟩ := bindP_use hF
  have h8 := h7.front .nil
  refine op (OpS.callO h8 Try.func14 rfl rfl rfl rfl (vs := [v0]) rfl (made_Roll_ok e5) rfl (.cons (f := false) (V.at .z) .nil) ?_)
  rintro u3 w5 _ _ _ ⟨_, rfl, rfl, rfl, rfl⟩ h9
  have h10 := h9
  simp only [List.cons_append, List.nil_append] at h10
  obtain ⟨y5, e6, hF⟩ := bindP_use hF
  have h11 := h10.front (.cons .z .nil)
  refine op (OpS.callO h11 Try.func15 rfl rfl rfl rfl (vs := [u3]) rfl (made_Dice_Frame_ok e6) rfl .nil ?_)
  rintro u4 w6 _ _ _ ⟨_, rfl, rfl, rfl, rfl⟩ h12
  have h13 := h12
  simp only [List.cons_append, List.nil_append] at h13
  refine op (OpS.alloc h13 ti36 Frame_.zr rfl rfl (fun u5 w7 h14 => ?_))
  refine op (OpS.storeB (f' := true) h14 .z PA.z Put.id ty36 rfl rfl rfl (V.at .z) (.inl rfl) (fun w8 h15 => ?_))
  refine RunL.nil ?_
  refine Run.slim [(7, u5), (6, .int .i64 y3.2), (5, u2), (3, u1)] ⟨rfl, rfl, rfl, rfl, trivial⟩ ?_
  refine Run.seq ?_
  refine Run.reg ?_
  refine op (OpS.loadB h15 .z PA.z Get.id ty36 rfl rfl rfl (fun u6 h16 => ?_))
  obtain ⟨y6, e7, hF⟩ := bindP_use hF
  refine op (OpS.callP h16 Try.func28 rfl rfl rfl rfl (vs := [u6]) rfl (frame_Encode_ok e7) (.cons (f := true) (V.at .z) .nil) ?_)
  rintro _ w9 _ _ _ ⟨u7, rfl, rfl, rfl, rfl⟩ h17
  have h18 := h17 rfl rfl
  simp only [List.cons_append, List.nil_append] at h18
  refine op (OpS.mv rfl rfl rfl ?_)
  refine op (OpS.ext rfl rfl rfl rfl ?_)
  refine op (OpS.ext rfl rfl rfl rfl ?_)
  refine op (OpS.as rfl rfl rfl ?_)
  refine op (OpS.as rfl rfl rfl ?_)
  refine RunL.nil ?_
  refine Run.slim [(9, .int .i64 y6.2), (8, u7), (7, u5), (6, .int .i64 y3.2), (5, u2), (3, u1)] ⟨rfl, rfl, rfl, rfl, rfl, rfl, trivial⟩ ?_
  refine Run.seq ?_
  refine Run.seq ?_
  refine Run.reg ?_
  refine op (OpS.mv rfl rfl rfl ?_)
  refine op (OpS.onilE h18 (.s (.s (.s .z))) (fun _ G_ S_ w_ h_ => ptr_one1 G_ S_ w_ h_) Try.underlying25 rfl rfl rfl rfl ?_)
  refine op (OpS.mv rfl rfl rfl ?_)
  refine RunL.join (σ := (Bool × (Option bus_Bus))) (fun s_ L_ w_ => ∃ u0_ : Value, L_ = [(3, u1), (5, u0_), (7, u5), (8, u7), (45, .bool s_.1)] ∧ St e w_ [] [(false, .box 38 Fault_.rep u1 a1), (true, .box 36 Frame_.rep u5 y5.1), (true, .slice 5 (Rep.int .u8) u7 y6.1), (false, .opt (fun x_ => .ex fun v_ => .sep (.box 76 (Rep.iso (fun s : bus_Bus => (s.masters, ())) (Rep.prod (Rep.raw (α := List bus_master) v_) Rep.unit)) u0_ x_) (.oval (oslice 85 3 (fun _ => bus_master.orep)) v_ x_.masters)) u0_ s_.2)]) hF (fun s1 _ w10 hI hF => ?_) (fun j1 hj1 hF => ?_)
  ·
   obtain ⟨u8, rfl, h19⟩ := hI
   refine Run.ite rfl hF (fun e8 hF => ?_) (fun e8 hF => ?_)
   ·
    refine Run.seq ?_
    refine Run.reg ?_
    refine op (OpS.as rfl rfl rfl ?_)
    refine RunL.nil ?_
    refine Run.slim [(4, .bool false)] ⟨rfl, trivial⟩ ?_
    refine Run.retP rfl (.tmp rfl .nil) ?_
    cases hF
    exact Post.mk' ⟨rfl, rfl, rfl, rfl⟩ (h19.picks .nil) .nil
   ·
    refine Run.skip ?_
    refine Run.seq ?_
    refine Run.seq ?_
    refine Run.reg ?_
    refine op (OpS.fbox (o3 := 1) h19 .z PA.z fa38_1 rfl rfl rfl rfl ?_)
    refine op (OpS.loadBi h19 .z PA.a (Get.fld Fault_.f1) ty3 rfl rfl rfl ?_)
    refine op (OpS.rem rfl rfl rfl rfl (by decide) ?_)
    refine op (OpS.bin rfl rfl rfl rfl rfl ?_)
    refine RunL.nil ?_
    refine Run.slim [(49, .bool ((Int.tmod a1.Index 2) == 0)), (3, u1), (5, u8), (7, u5), (8, u7)] ⟨rfl, rfl, rfl, rfl, rfl, trivial⟩ ?_
    refine Run.join (σ := Fault_) (fun s_ L_ w_ => L_ = [(3, u1), (5, u8), (7, u5), (8, u7)] ∧ St e w_ [] [(false, .box 38 Fault_.rep u1 s_), (false, .opt (fun x_ => .ex fun v_ => .sep (.box 76 (Rep.iso (fun s : bus_Bus => (s.masters, ())) (Rep.prod (Rep.raw (α := List bus_master) v_) Rep.unit)) u8 x_) (.oval (oslice 85 3 (fun _ => bus_master.orep)) v_ x_.masters)) u8 s1.2), (true, .box 36 Frame_.rep u5 y5.1), (true, .slice 5 (Rep.int .u8) u7 y6.1)]) hF (fun s2 _ w11 hI hF => ?_) (fun j2 hj2 hF => ?_)
    ·
     obtain ⟨rfl, h20⟩ := hI
     refine Run.seq ?_
     refine Run.reg ?_
     refine op (OpS.mv rfl rfl rfl ?_)
     refine op (OpS.loadB h20 .z PA.z Get.id ty38 rfl rfl rfl (fun u9 h21 => ?_))
     obtain ⟨x1, e9, hF⟩ := bindP_use hF
     have h22 := St.unopt (h21.pick (.s .z)) e9
     obtain ⟨u10, h23⟩ := h22.unex
     have h24 := h23.unsep
     obtain ⟨y7, e10, hF⟩ := bindP_use hF
     have h25 := h24.front (.cons .z (.cons .z .nil))
     refine op (OpS.callO h25 Try.func18 rfl rfl rfl rfl (vs := [u8, u9]) rfl (bus_Bus_Step_ok e10) rfl (.cons (f := false) (V.at .z) .nil) ?_)
     rintro _ w12 _ _ _ ⟨u11, u12, rfl, rfl, rfl, rfl⟩ h26
     have h27 := h26
     simp only [List.cons_append, List.nil_append] at h27
     refine op (OpS.mv rfl rfl rfl ?_)
     refine op (OpS.ext rfl rfl rfl rfl ?_)
     refine op (OpS.ext rfl rfl rfl rfl ?_)
     refine op (OpS.alloc h27 ti46 Delivery_.zr rfl rfl (fun u13 w13 h28 => ?_))
     refine op (OpS.storeB (f' := true) h28 .z PA.z Put.id ty46 rfl rfl rfl (V.at .z) (.inl rfl) (fun w14 h29 => ?_))
     refine op (OpS.as rfl rfl rfl ?_)
     refine RunL.nil ?_
     refine Run.slim [(11, .bool y7.2.1), (10, u13), (3, u1), (5, u8), (7, u5), (8, u7)] ⟨rfl, rfl, rfl, rfl, rfl, rfl, trivial⟩ ?_
     refine Run.seq ?_
     refine Run.seq ?_
     refine Run.reg ?_
     refine op (OpS.mv rfl rfl rfl ?_)
     refine op (OpS.not rfl rfl rfl ?_)
     refine op (OpS.mv rfl rfl rfl ?_)
     refine RunL.join (σ := Bool) (fun s_ L_ w_ => L_ = [(3, u1), (5, u8), (7, u5), (8, u7), (10, u13), (65, .bool s_)] ∧ St e w_ [] [(false, .box 38 Fault_.rep u1 s2), (false, .box 76 (Rep.iso (fun s : bus_Bus => (s.masters, ())) (Rep.prod (Rep.raw (α := List bus_master) u12) Rep.unit)) u8 y7.2.2), (true, .box 36 Frame_.rep u5 y5.1), (true, .box 46 Delivery_.rep u13 y7.1), (true, .slice 5 (Rep.int .u8) u7 y6.1), (false, .oval (oslice 85 3 (fun _ => bus_master.orep)) u12 y7.2.2.masters)]) hF (fun s3 _ w15 hI hF => ?_) (fun j3 hj3 hF => ?_)
     ·
      obtain ⟨rfl, h30⟩ := hI
      refine Run.ite rfl hF (fun e11 hF => ?_) (fun e11 hF => ?_)
      ·
       refine Run.seq ?_
       refine Run.reg ?_
       refine op (OpS.as rfl rfl rfl ?_)
       refine RunL.nil ?_
       refine Run.slim [(4, .bool false)] ⟨rfl, trivial⟩ ?_
       refine Run.retP rfl (.tmp rfl .nil) ?_
       cases hF
       exact Post.mk' ⟨rfl, rfl, rfl, rfl⟩ (h30.picks .nil) .nil
      ·
       refine Run.skip ?_
       refine Run.seq ?_
       refine Run.block ?_
       refine Run.seq ?_
       refine Run.reg ?_
       refine op (OpS.fbox (o3 := 0) h30 .z PA.z fa38_0 rfl rfl rfl rfl ?_)
       refine op (OpS.loadBi h30 .z PA.a (Get.fld Fault_.f0) ty3 rfl rfl rfl ?_)
       refine op (OpS.bin rfl rfl rfl rfl rfl ?_)
       refine op (OpS.as rfl rfl rfl ?_)
       obtain ⟨x2, e12, hF⟩ := letP_use hF
       refine RunL.nameb e12 ?_
       refine RunL.nil ?_
       refine Run.slim [(66, .bool x2), (3, u1), (5, u8), (7, u5), (8, u7), (10, u13)] ⟨rfl, rfl, rfl, rfl, rfl, rfl, trivial⟩ ?_
       refine Run.ite rfl hF (fun e13 hF => ?_) (fun e13 hF => ?_)
       ·
        refine Run.seq ?_
        refine Run.reg ?_
        refine op (OpS.fbox (o3 := 2) h30 (.s (.s (.s .z))) PA.z fa46_2 rfl rfl rfl rfl ?_)
        refine op (OpS.loadBb h30 (.s (.s (.s .z))) PA.a (Get.fld Delivery_.f2) ty4 rfl rfl rfl ?_)
        refine op (OpS.not rfl rfl rfl ?_)
        refine op (OpS.mv rfl rfl rfl ?_)
        refine RunL.join (σ := Bool) (fun s_ L_ w_ => L_ = [(4, .bool s_)] ∧ St e w_ [] []) hF (fun s4 _ w16 hI hF => ?_) (fun j4 hj4 hF => ?_)
        ·
         obtain ⟨rfl, h31⟩ := hI
         refine Run.retP rfl (.tmp rfl .nil) ?_
         cases hF
         exact Post.mk' ⟨rfl, rfl, rfl, rfl⟩ (h31.picks .nil) .nil
        ·
         refine RunL.caseb hF (fun e14 hF => ?_) (fun e14 hF => ?_)
         ·
          refine op (OpS.fbox (o3 := 1) h30 (.s (.s (.s .z))) PA.z fa46_1 rfl rfl rfl rfl ?_)
          refine op (OpS.loadB h30 (.s (.s (.s .z))) PA.a (Get.fld Delivery_.f1) ty34 rfl rfl rfl (fun u14 h32 => ?_))
          refine op (OpS.len h32 Try.underlying34 rfl rfl rfl (V.at .z) ?_)
          refine op (OpS.bin rfl rfl rfl rfl rfl ?_)
          refine op (OpS.pick rfl rfl rfl rfl ?_)
          refine op (OpS.mv rfl rfl rfl ?_)
          refine RunL.caseb hF (fun e15 hF => ?_) (fun e15 hF => ?_)
          ·
           refine op (OpS.mv rfl rfl rfl ?_)
           obtain ⟨y8, e16, hF⟩ := bindP_use hF
           have h33 := h32.front (.cons (.s .z) (.cons (.s (.s (.s (.s .z)))) .nil))
           refine op (OpS.callO h33 Try.func22 rfl rfl rfl rfl (vs := [u8, .int .i64 0]) rfl (bus_Bus_Pending_ok e16) rfl .nil ?_)
           rintro _ w17 _ _ _ ⟨rfl, rfl, rfl, rfl⟩ h34
           have h35 := h34
           simp only [List.cons_append, List.nil_append] at h35
           refine op (OpS.bin rfl rfl rfl rfl rfl ?_)
           refine op (OpS.pick rfl rfl rfl rfl ?_)
           refine op (OpS.mv rfl rfl rfl ?_)
           refine RunL.caseb hF (fun e17 hF => ?_) (fun e17 hF => ?_)
           ·
            obtain ⟨y9, e18, hF⟩ := bindP_use hF
            refine op (OpS.callP h35 Try.func10 rfl rfl rfl rfl (vs := []) rfl (law21_awake_ok e18) .nil ?_)
            rintro _ w18 _ _ _ ⟨rfl, rfl, rfl, rfl⟩ h36
            have h37 := h36 rfl rfl
            simp only [List.cons_append, List.nil_append] at h37
            refine op (OpS.pick rfl rfl rfl rfl ?_)
            refine op (OpS.as rfl rfl rfl ?_)
            refine RunL.nil ?_
            refine Run.slim [(4, .bool y9)] ⟨rfl, trivial⟩ ?_
            refine Run.slim [(4, .bool y9)] ⟨rfl, trivial⟩ ?_
            exact hj4 (y9) _ _ ⟨rfl, (h37.facts .nil).picks .nil⟩ hF
           ·
            refine op (OpS.pass rfl rfl rfl ?_)
            refine op (OpS.pick rfl rfl rfl rfl ?_)
            refine op (OpS.as rfl rfl rfl ?_)
            refine RunL.nil ?_
            refine Run.slim [(4, .bool false)] ⟨rfl, trivial⟩ ?_
            refine Run.slim [(4, .bool false)] ⟨rfl, trivial⟩ ?_
            exact hj4 (false) _ _ ⟨rfl, (h35.facts .nil).picks .nil⟩ hF
          ·
           refine op (OpS.pass rfl rfl rfl ?_)
           refine op (OpS.pass rfl rfl rfl ?_)
           refine op (OpS.pass rfl rfl rfl ?_)
           refine op (OpS.pick rfl rfl rfl rfl ?_)
           refine op (OpS.mv rfl rfl rfl ?_)
           refine op (OpS.pass rfl rfl rfl ?_)
           refine op (OpS.pick rfl rfl rfl rfl ?_)
           refine op (OpS.as rfl rfl rfl ?_)
           refine RunL.nil ?_
           refine Run.slim [(4, .bool false)] ⟨rfl, trivial⟩ ?_
           refine Run.slim [(4, .bool false)] ⟨rfl, trivial⟩ ?_
           exact hj4 (false) _ _ ⟨rfl, (h32.facts .nil).picks .nil⟩ hF
         ·
          refine op (OpS.pass rfl rfl rfl ?_)
          refine op (OpS.pass rfl rfl rfl ?_)
          refine op (OpS.pass rfl rfl rfl ?_)
          refine op (OpS.pass rfl rfl rfl ?_)
          refine op (OpS.pick rfl rfl rfl rfl ?_)
          refine op (OpS.mv rfl rfl rfl ?_)
          refine op (OpS.pass rfl rfl rfl ?_)
          refine op (OpS.pass rfl rfl rfl ?_)
          refine op (OpS.pass rfl rfl rfl ?_)
          refine op (OpS.pick rfl rfl rfl rfl ?_)
          refine op (OpS.mv rfl rfl rfl ?_)
          refine op (OpS.pass rfl rfl rfl ?_)
          refine op (OpS.pick rfl rfl rfl rfl ?_)
          refine op (OpS.as rfl rfl rfl ?_)
          refine RunL.nil ?_
          refine Run.slim [(4, .bool false)] ⟨rfl, trivial⟩ ?_
          refine Run.slim [(4, .bool false)] ⟨rfl, trivial⟩ ?_
          exact hj4 (false) _ _ ⟨rfl, (h30.facts .nil).picks .nil⟩ hF
       ·
        refine Run.seq ?_
        refine Run.reg ?_
        refine op (OpS.fbox (o3 := 0) h30 .z PA.z fa38_0 rfl rfl rfl rfl ?_)
        refine op (OpS.loadBi h30 .z PA.a (Get.fld Fault_.f0) ty3 rfl rfl rfl ?_)
        refine op (OpS.bin rfl rfl rfl rfl rfl ?_)
        refine op (OpS.mv rfl rfl rfl ?_)
        refine RunL.join (σ := Bool) (fun s_ L_ w_ => L_ = [(3, u1), (5, u8), (7, u5), (8, u7), (10, u13), (87, .bool s_)] ∧ St e w_ [] [(false, .box 38 Fault_.rep u1 s2), (false, .box 76 (Rep.iso (fun s : bus_Bus => (s.masters, ())) (Rep.prod (Rep.raw (α := List bus_master) u12) Rep.unit)) u8 y7.2.2), (true, .box 36 Frame_.rep u5 y5.1), (true, .box 46 Delivery_.rep u13 y7.1), (true, .slice 5 (Rep.int .u8) u7 y6.1), (false, .oval (oslice 85 3 (fun _ => bus_master.orep)) u12 y7.2.2.masters)]) hF (fun s5 _ w19 hI hF => ?_) (fun j5 hj5 hF => ?_)
        ·
         obtain ⟨rfl, h38⟩ := hI
         refine Run.ite rfl hF (fun e19 hF => ?_) (fun e19 hF => ?_)
         ·
          refine Run.seq ?_
          have h39 := h38.picks (.cons .z (.cons (.s (.s (.s .z))) (.cons .z (.cons .z (.cons .z (.cons .z .nil))))))
          obtain ⟨x3, e20, hF⟩ := bindP_use hF
          refine Run.drawV (Ωs := [(false, .box 76 (Rep.iso (fun s : bus_Bus => (s.masters, ())) (Rep.prod (Rep.raw (α := List bus_master) u12) Rep.unit)) u8 y7.2.2), (true, .box 36 Frame_.rep u5 y5.1), (true, .box 46 Delivery_.rep u13 y7.1), (false, .oval (oslice 85 3 (fun _ => bus_master.orep)) u12 y7.2.2.masters)]) [⟨some 108, some (u7), fun _ => [], fun ds_ u_ => [], [], [], none⟩, ⟨some 109, some ((padd u1 1)), fun _ => [], fun ds_ u_ => [], [], [(0, [])], none⟩, ⟨some 110, some (.int .i64 s2.Index), fun _ => [], fun ds_ u_ => [], [], [(0, [])], none⟩, ⟨some 111, some ((padd (sp u7) ((s2.Index : Int).toNat * (Rep.int .u8).n))), fun _ => [], fun ds_ u_ => [], [], [(1, [])], none⟩, ⟨some 112, some (.int .u8 x3), fun _ => [], fun ds_ u_ => [], [], [(1, [])], none⟩, ⟨some 113, some ((padd u1 2)), fun _ => [], fun ds_ u_ => [], [], [(0, [])], none⟩, ⟨some 114, some (.int .u8 s2.Mask), fun _ => [], fun ds_ u_ => [], [], [(0, [])], none⟩, ⟨some 115, some (.int .u8 (bXor .u8 x3 s2.Mask)), fun _ => [], fun ds_ u_ => [], [], [], none⟩] [[], [], [1], [0, 2], [3], [], [5], [4, 6]] [[(false, .box 38 Fault_.rep u1 s2)], [(true, .slice 5 (Rep.int .u8) u7 y6.1)]] [0, 1, 2, 3, 4, 5, 6, 7, 8, 9] Try_mixed rfl rfl rfl h39 (.cons ?_ (.cons ?_ (.cons ?_ (.cons ?_ (.cons ?_ (.cons ?_ (.cons ?_ (.cons ?_ .nil)))))))) (fun q1 w hq1 h => ?_)
          ·intro q1 w Γx Ωx h
           refine OpS.mv rfl rfl rfl ?_
           exact ⟨undef, rfl, trivial, h⟩
          ·intro q1 w Γx Ωx h
           have h : St e w ([] ++ Γx) ([(false, .box 38 Fault_.rep u1 s2), (false, .box 76 (Rep.iso (fun s : bus_Bus => (s.masters, ())) (Rep.prod (Rep.raw (α := List bus_master) u12) Rep.unit)) u8 y7.2.2), (true, .box 36 Frame_.rep u5 y5.1), (true, .box 46 Delivery_.rep u13 y7.1), (false, .oval (oslice 85 3 (fun _ => bus_master.orep)) u12 y7.2.2.masters)] ++ Ωx) := h
           refine OpS.fbox (o3 := 1) h .z PA.z fa38_1 rfl rfl rfl rfl ?_
           exact ⟨undef, rfl, trivial, h⟩
          ·intro q1 w Γx Ωx h
           have h : St e w ([] ++ Γx) ([(false, .box 38 Fault_.rep u1 s2), (false, .box 76 (Rep.iso (fun s : bus_Bus => (s.masters, ())) (Rep.prod (Rep.raw (α := List bus_master) u12) Rep.unit)) u8 y7.2.2), (true, .box 36 Frame_.rep u5 y5.1), (true, .box 46 Delivery_.rep u13 y7.1), (false, .oval (oslice 85 3 (fun _ => bus_master.orep)) u12 y7.2.2.masters)] ++ Ωx) := h
           refine OpS.loadBi h .z PA.a (Get.fld Fault_.f1) ty3 rfl rfl rfl ?_
           exact ⟨undef, rfl, trivial, h⟩
          ·intro q1 w Γx Ωx h
           have h : St e w ([] ++ Γx) ([(true, .slice 5 (Rep.int .u8) u7 y6.1), (false, .box 76 (Rep.iso (fun s : bus_Bus => (s.masters, ())) (Rep.prod (Rep.raw (α := List bus_master) u12) Rep.unit)) u8 y7.2.2), (true, .box 36 Frame_.rep u5 y5.1), (true, .box 46 Delivery_.rep u13 y7.1), (false, .oval (oslice 85 3 (fun _ => bus_master.orep)) u12 y7.2.2.masters)] ++ Ωx) := h
           refine OpS.iown h .z Try.underlying34 ty5 rfl rfl rfl rfl e20 ?_
           exact ⟨undef, rfl, trivial, h⟩
          ·intro q1 w Γx Ωx h
           have h : St e w ([] ++ Γx) ([(true, .slice 5 (Rep.int .u8) u7 y6.1), (false, .box 76 (Rep.iso (fun s : bus_Bus => (s.masters, ())) (Rep.prod (Rep.raw (α := List bus_master) u12) Rep.unit)) u8 y7.2.2), (true, .box 36 Frame_.rep u5 y5.1), (true, .box 46 Delivery_.rep u13 y7.1), (false, .oval (oslice 85 3 (fun _ => bus_master.orep)) u12 y7.2.2.masters)] ++ Ωx) := h
           refine OpS.loadOi h .z (idx_ne e20) PA.a (Get.arr e20) ty5 rfl rfl rfl ?_
           exact ⟨undef, rfl, trivial, h⟩
          ·intro q1 w Γx Ωx h
           have h : St e w ([] ++ Γx) ([(false, .box 38 Fault_.rep u1 s2), (false, .box 76 (Rep.iso (fun s : bus_Bus => (s.masters, ())) (Rep.prod (Rep.raw (α := List bus_master) u12) Rep.unit)) u8 y7.2.2), (true, .box 36 Frame_.rep u5 y5.1), (true, .box 46 Delivery_.rep u13 y7.1), (false, .oval (oslice 85 3 (fun _ => bus_master.orep)) u12 y7.2.2.masters)] ++ Ωx) := h
           refine OpS.fbox (o3 := 2) h .z PA.z fa38_2 rfl rfl rfl rfl ?_
           exact ⟨undef, rfl, trivial, h⟩
          ·intro q1 w Γx Ωx h
           have h : St e w ([] ++ Γx) ([(false, .box 38 Fault_.rep u1 s2), (false, .box 76 (Rep.iso (fun s : bus_Bus => (s.masters, ())) (Rep.prod (Rep.raw (α := List bus_master) u12) Rep.unit)) u8 y7.2.2), (true, .box 36 Frame_.rep u5 y5.1), (true, .box 46 Delivery_.rep u13 y7.1), (false, .oval (oslice 85 3 (fun _ => bus_master.orep)) u12 y7.2.2.masters)] ++ Ωx) := h
           refine OpS.loadBi h .z PA.a (Get.fld Fault_.f2) ty5 rfl rfl rfl ?_
           exact ⟨undef, rfl, trivial, h⟩
          ·intro q1 w Γx Ωx h
           refine OpS.bin rfl rfl rfl rfl rfl ?_
           exact ⟨undef, rfl, trivial, h⟩
          have h40 : St e w [] [(false, .box 38 Fault_.rep u1 s2), (true, .slice 5 (Rep.int .u8) u7 y6.1), (false, .box 76 (Rep.iso (fun s : bus_Bus => (s.masters, ())) (Rep.prod (Rep.raw (α := List bus_master) u12) Rep.unit)) u8 y7.2.2), (true, .box 36 Frame_.rep u5 y5.1), (true, .box 46 Delivery_.rep u13 y7.1), (false, .oval (oslice 85 3 (fun _ => bus_master.orep)) u12 y7.2.2.masters)] := h
          obtain ⟨x4, e21, hF⟩ := bindP_use hF
          refine op (OpS.iown h40 (.s .z) Try.underlying34 ty5 rfl rfl rfl rfl e21 ?_)
          obtain ⟨d1, e22, hF⟩ := letP_use hF
          refine op (OpS.storeO (f' := true) h40 (.s .z) (idx_ne e21) PA.a (Put.of (Put.arr e21) e22) ty5 rfl rfl rfl V.int (.inl rfl) (fun w20 h41 => ?_))
          refine RunL.nil ?_
          refine Run.slim [(5, u8), (8, u7), (10, u13)] ⟨rfl, rfl, rfl, trivial⟩ ?_
          refine Run.seq ?_
          refine Run.reg ?_
          refine op (OpS.fbox (o3 := 2) h41 (.s (.s (.s (.s .z)))) PA.z fa46_2 rfl rfl rfl rfl ?_)
          refine op (OpS.loadBb h41 (.s (.s (.s (.s .z)))) PA.a (Get.fld Delivery_.f2) ty4 rfl rfl rfl ?_)
          refine op (OpS.not rfl rfl rfl ?_)
          refine op (OpS.mv rfl rfl rfl ?_)
          refine RunL.join (σ := Bool) (fun s_ L_ w_ => L_ = [(4, .bool s_)] ∧ St e w_ [] []) hF (fun s6 _ w21 hI hF => ?_) (fun j6 hj6 hF => ?_)
          ·
           obtain ⟨rfl, h42⟩ := hI
           refine Run.retP rfl (.tmp rfl .nil) ?_
           cases hF
           exact Post.mk' ⟨rfl, rfl, rfl, rfl⟩ (h42.picks .nil) .nil
          ·
           refine RunL.caseb hF (fun e23 hF => ?_) (fun e23 hF => ?_)
           ·
            refine op (OpS.fbox (o3 := 1) h41 (.s (.s (.s (.s .z)))) PA.z fa46_1 rfl rfl rfl rfl ?_)
            refine op (OpS.loadB h41 (.s (.s (.s (.s .z)))) PA.a (Get.fld Delivery_.f1) ty34 rfl rfl rfl (fun u15 h43 => ?_))
            refine op (OpS.mv rfl rfl rfl ?_)
            obtain ⟨y10, e24, hF⟩ := bindP_use hF
            refine op (OpS.callP h43 Try.func26 rfl rfl rfl rfl (vs := [u15, u7]) rfl (ref01_Same_ok e24) (.cons (f := true) (V.at .z) (.own .z .nil)) ?_)
            rintro _ w22 _ _ _ ⟨rfl, rfl, rfl, rfl⟩ h44
            have h45 := h44 rfl rfl
            simp only [List.cons_append, List.nil_append] at h45
            refine op (OpS.pick rfl rfl rfl rfl ?_)
            refine op (OpS.mv rfl rfl rfl ?_)
            refine RunL.caseb hF (fun e25 hF => ?_) (fun e25 hF => ?_)
            ·
             refine op (OpS.mv rfl rfl rfl ?_)
             obtain ⟨y11, e26, hF⟩ := bindP_use hF
             have h46 := h45.front (.cons (.s (.s .z)) (.cons (.s (.s (.s (.s .z)))) .nil))
             refine op (OpS.callO h46 Try.func22 rfl rfl rfl rfl (vs := [u8, .int .i64 0]) rfl (bus_Bus_Pending_ok e26) rfl .nil ?_)
             rintro _ w23 _ _ _ ⟨rfl, rfl, rfl, rfl⟩ h47
             have h48 := h47
             simp only [List.cons_append, List.nil_append] at h48
             refine op (OpS.bin rfl rfl rfl rfl rfl ?_)
             refine op (OpS.pick rfl rfl rfl rfl ?_)
             refine op (OpS.mv rfl rfl rfl ?_)
             refine RunL.caseb hF (fun e27 hF => ?_) (fun e27 hF => ?_)
             ·
              obtain ⟨y12, e28, hF⟩ := bindP_use hF
              refine op (OpS.callP h48 Try.func10 rfl rfl rfl rfl (vs := []) rfl (law21_awake_ok e28) .nil ?_)
              rintro _ w24 _ _ _ ⟨rfl, rfl, rfl, rfl⟩ h49
              have h50 := h49 rfl rfl
              simp only [List.cons_append, List.nil_append] at h50
              refine op (OpS.pick rfl rfl rfl rfl ?_)
              refine op (OpS.as rfl rfl rfl ?_)
              refine RunL.nil ?_
              refine Run.slim [(4, .bool y12)] ⟨rfl, trivial⟩ ?_
              refine Run.slim [(4, .bool y12)] ⟨rfl, trivial⟩ ?_
              exact hj6 (y12) _ _ ⟨rfl, (h50.facts .nil).picks .nil⟩ hF
             ·
              refine op (OpS.pass rfl rfl rfl ?_)
              refine op (OpS.pick rfl rfl rfl rfl ?_)
              refine op (OpS.as rfl rfl rfl ?_)
              refine RunL.nil ?_
              refine Run.slim [(4, .bool false)] ⟨rfl, trivial⟩ ?_
              refine Run.slim [(4, .bool false)] ⟨rfl, trivial⟩ ?_
              exact hj6 (false) _ _ ⟨rfl, (h48.facts .nil).picks .nil⟩ hF
            ·
             refine op (OpS.pass rfl rfl rfl ?_)
             refine op (OpS.pass rfl rfl rfl ?_)
             refine op (OpS.pass rfl rfl rfl ?_)
             refine op (OpS.pick rfl rfl rfl rfl ?_)
             refine op (OpS.mv rfl rfl rfl ?_)
             refine op (OpS.pass rfl rfl rfl ?_)
             refine op (OpS.pick rfl rfl rfl rfl ?_)
             refine op (OpS.as rfl rfl rfl ?_)
             refine RunL.nil ?_
             refine Run.slim [(4, .bool false)] ⟨rfl, trivial⟩ ?_
             refine Run.slim [(4, .bool false)] ⟨rfl, trivial⟩ ?_
             exact hj6 (false) _ _ ⟨rfl, (h45.facts .nil).picks .nil⟩ hF
           ·
            refine op (OpS.pass rfl rfl rfl ?_)
            refine op (OpS.pass rfl rfl rfl ?_)
            refine op (OpS.pass rfl rfl rfl ?_)
            refine op (OpS.pass rfl rfl rfl ?_)
            refine op (OpS.pick rfl rfl rfl rfl ?_)
            refine op (OpS.mv rfl rfl rfl ?_)
            refine op (OpS.pass rfl rfl rfl ?_)
            refine op (OpS.pass rfl rfl rfl ?_)
            refine op (OpS.pass rfl rfl rfl ?_)
            refine op (OpS.pick rfl rfl rfl rfl ?_)
            refine op (OpS.mv rfl rfl rfl ?_)
            refine op (OpS.pass rfl rfl rfl ?_)
            refine op (OpS.pick rfl rfl rfl rfl ?_)
            refine op (OpS.as rfl rfl rfl ?_)
            refine RunL.nil ?_
            refine Run.slim [(4, .bool false)] ⟨rfl, trivial⟩ ?_
            refine Run.slim [(4, .bool false)] ⟨rfl, trivial⟩ ?_
            exact hj6 (false) _ _ ⟨rfl, (h41.facts .nil).picks .nil⟩ hF
         ·
          refine Run.skip ?_
          refine Run.endBlock ?_
          refine Run.seq ?_
          refine Run.reg ?_
          refine op (OpS.fbox (o3 := 1) h38 (.s (.s (.s .z))) PA.z fa46_1 rfl rfl rfl rfl ?_)
          refine op (OpS.loadB h38 (.s (.s (.s .z))) PA.a (Get.fld Delivery_.f1) ty34 rfl rfl rfl (fun u16 h51 => ?_))
          obtain ⟨y13, e29, hF⟩ := bindP_use hF
          refine op (OpS.callP h51 Try.func29 rfl rfl rfl rfl (vs := [u16]) rfl (frame_Decode_ok e29) (.cons (f := true) (V.at .z) .nil) ?_)
          rintro _ w25 _ _ _ ⟨u17, rfl, rfl, rfl, rfl⟩ h52
          have h53 := h52 rfl rfl
          simp only [List.cons_append, List.nil_append] at h53
          refine op (OpS.mv rfl rfl rfl ?_)
          refine op (OpS.ext rfl rfl rfl rfl ?_)
          refine op (OpS.ext rfl rfl rfl rfl ?_)
          refine op (OpS.alloc h53 ti36 Frame_.zr rfl rfl (fun u18 w26 h54 => ?_))
          refine op (OpS.storeB (f' := true) h54 .z PA.z Put.id ty36 rfl rfl rfl (V.at .z) (.inl rfl) (fun w27 h55 => ?_))
          refine op (OpS.as rfl rfl rfl ?_)
          refine RunL.nil ?_
          refine Run.slim [(13, .int .i64 y13.2), (12, u18), (5, u8), (7, u5), (8, u7), (10, u13)] ⟨rfl, rfl, rfl, rfl, rfl, rfl, trivial⟩ ?_
          refine Run.seq ?_
          refine Run.reg ?_
          refine op (OpS.fbox (o3 := 2) h55 (.s (.s (.s (.s .z)))) PA.z fa46_2 rfl rfl rfl rfl ?_)
          refine op (OpS.loadBb h55 (.s (.s (.s (.s .z)))) PA.a (Get.fld Delivery_.f2) ty4 rfl rfl rfl ?_)
          refine op (OpS.mv rfl rfl rfl ?_)
          refine RunL.caseb hF (fun e30 hF => ?_) (fun e30 hF => ?_)
          ·
           refine op (OpS.fbox (o3 := 1) h55 (.s (.s (.s (.s .z)))) PA.z fa46_1 rfl rfl rfl rfl ?_)
           refine op (OpS.loadB h55 (.s (.s (.s (.s .z)))) PA.a (Get.fld Delivery_.f1) ty34 rfl rfl rfl (fun u19 h56 => ?_))
           refine op (OpS.mv rfl rfl rfl ?_)
           obtain ⟨y14, e31, hF⟩ := bindP_use hF
           refine op (OpS.callP h56 Try.func26 rfl rfl rfl rfl (vs := [u19, u7]) rfl (ref01_Same_ok e31) (.cons (f := true) (V.at .z) (.own (.s (.s (.s (.s (.s .z))))) .nil)) ?_)
           rintro _ w28 _ _ _ ⟨rfl, rfl, rfl, rfl⟩ h57
           have h58 := h57 rfl rfl
           simp only [List.cons_append, List.nil_append] at h58
           refine op (OpS.pick rfl rfl rfl rfl ?_)
           refine op (OpS.mv rfl rfl rfl ?_)
           refine RunL.caseb hF (fun e32 hF => ?_) (fun e32 hF => ?_)
           ·
            refine op (OpS.mv rfl rfl rfl ?_)
            refine op (OpS.bin rfl rfl rfl rfl rfl ?_)
            refine op (OpS.pick rfl rfl rfl rfl ?_)
            refine op (OpS.mv rfl rfl rfl ?_)
            refine RunL.caseb hF (fun e33 hF => ?_) (fun e33 hF => ?_)
            ·
             refine op (OpS.loadB h58 .z PA.z Get.id ty36 rfl rfl rfl (fun u20 h59 => ?_))
             refine op (OpS.loadB h59 (.s (.s (.s .z))) PA.z Get.id ty36 rfl rfl rfl (fun u21 h60 => ?_))
             obtain ⟨y15, e34, hF⟩ := bindP_use hF
             refine op (OpS.callP h60 Try.func30 rfl rfl rfl rfl (vs := [u20, u21]) rfl (ref20_Same_ok e34) (.cons (f := true) (V.at (.s .z)) (.cons (f := true) (V.at .z) .nil)) ?_)
             rintro _ w29 _ _ _ ⟨rfl, rfl, rfl, rfl⟩ h61
             have h62 := h61 rfl rfl
             simp only [List.cons_append, List.nil_append] at h62
             refine op (OpS.pick rfl rfl rfl rfl ?_)
             refine op (OpS.mv rfl rfl rfl ?_)
             refine RunL.caseb hF (fun e35 hF => ?_) (fun e35 hF => ?_)
             ·
              refine op (OpS.mv rfl rfl rfl ?_)
              obtain ⟨y16, e36, hF⟩ := bindP_use hF
              have h63 := h62.front (.cons (.s (.s .z)) (.cons (.s (.s (.s (.s (.s .z))))) .nil))
              refine op (OpS.callO h63 Try.func22 rfl rfl rfl rfl (vs := [u8, .int .i64 0]) rfl (bus_Bus_Pending_ok e36) rfl .nil ?_)
              rintro _ w30 _ _ _ ⟨rfl, rfl, rfl, rfl⟩ h64
              have h65 := h64
              simp only [List.cons_append, List.nil_append] at h65
              refine op (OpS.bin rfl rfl rfl rfl rfl ?_)
              refine op (OpS.pick rfl rfl rfl rfl ?_)
              refine op (OpS.mv rfl rfl rfl ?_)
              refine RunL.caseb hF (fun e37 hF => ?_) (fun e37 hF => ?_)
              ·
               obtain ⟨y17, e38, hF⟩ := bindP_use hF
               refine op (OpS.callP h65 Try.func10 rfl rfl rfl rfl (vs := []) rfl (law21_awake_ok e38) .nil ?_)
               rintro _ w31 _ _ _ ⟨rfl, rfl, rfl, rfl⟩ h66
               have h67 := h66 rfl rfl
               simp only [List.cons_append, List.nil_append] at h67
               refine op (OpS.pick rfl rfl rfl rfl ?_)
               refine op (OpS.as rfl rfl rfl ?_)
               refine RunL.nil ?_
               refine Run.slim [(4, .bool y17)] ⟨rfl, trivial⟩ ?_
               refine Run.retP rfl (.tmp rfl .nil) ?_
               cases hF
               exact Post.mk' ⟨rfl, rfl, rfl, rfl⟩ (h67.picks .nil) .nil
              ·
               refine op (OpS.pass rfl rfl rfl ?_)
               refine op (OpS.pick rfl rfl rfl rfl ?_)
               refine op (OpS.as rfl rfl rfl ?_)
               refine RunL.nil ?_
               refine Run.slim [(4, .bool false)] ⟨rfl, trivial⟩ ?_
               refine Run.retP rfl (.tmp rfl .nil) ?_
               cases hF
               exact Post.mk' ⟨rfl, rfl, rfl, rfl⟩ (h65.picks .nil) .nil
             ·
              refine op (OpS.pass rfl rfl rfl ?_)
              refine op (OpS.pass rfl rfl rfl ?_)
              refine op (OpS.pass rfl rfl rfl ?_)
              refine op (OpS.pick rfl rfl rfl rfl ?_)
              refine op (OpS.mv rfl rfl rfl ?_)
              refine op (OpS.pass rfl rfl rfl ?_)
              refine op (OpS.pick rfl rfl rfl rfl ?_)
              refine op (OpS.as rfl rfl rfl ?_)
              refine RunL.nil ?_
              refine Run.slim [(4, .bool false)] ⟨rfl, trivial⟩ ?_
              refine Run.retP rfl (.tmp rfl .nil) ?_
              cases hF
              exact Post.mk' ⟨rfl, rfl, rfl, rfl⟩ (h62.picks .nil) .nil
            ·
             refine op (OpS.pass rfl rfl rfl ?_)
             refine op (OpS.pass rfl rfl rfl ?_)
             refine op (OpS.pass rfl rfl rfl ?_)
             refine op (OpS.pick rfl rfl rfl rfl ?_)
             refine op (OpS.mv rfl rfl rfl ?_)
             refine op (OpS.pass rfl rfl rfl ?_)
             refine op (OpS.pass rfl rfl rfl ?_)
             refine op (OpS.pass rfl rfl rfl ?_)
             refine op (OpS.pick rfl rfl rfl rfl ?_)
             refine op (OpS.mv rfl rfl rfl ?_)
             refine op (OpS.pass rfl rfl rfl ?_)
             refine op (OpS.pick rfl rfl rfl rfl ?_)
             refine op (OpS.as rfl rfl rfl ?_)
             refine RunL.nil ?_
             refine Run.slim [(4, .bool false)] ⟨rfl, trivial⟩ ?_
             refine Run.retP rfl (.tmp rfl .nil) ?_
             cases hF
             exact Post.mk' ⟨rfl, rfl, rfl, rfl⟩ (h58.picks .nil) .nil
           ·
            refine op (OpS.pass rfl rfl rfl ?_)
            refine op (OpS.pass rfl rfl rfl ?_)
            refine op (OpS.pick rfl rfl rfl rfl ?_)
            refine op (OpS.mv rfl rfl rfl ?_)
            refine op (OpS.pass rfl rfl rfl ?_)
            refine op (OpS.pass rfl rfl rfl ?_)
            refine op (OpS.pass rfl rfl rfl ?_)
            refine op (OpS.pick rfl rfl rfl rfl ?_)
            refine op (OpS.mv rfl rfl rfl ?_)
            refine op (OpS.pass rfl rfl rfl ?_)
            refine op (OpS.pass rfl rfl rfl ?_)
            refine op (OpS.pass rfl rfl rfl ?_)
            refine op (OpS.pick rfl rfl rfl rfl ?_)
            refine op (OpS.mv rfl rfl rfl ?_)
            refine op (OpS.pass rfl rfl rfl ?_)
            refine op (OpS.pick rfl rfl rfl rfl ?_)
            refine op (OpS.as rfl rfl rfl ?_)
            refine RunL.nil ?_
            refine Run.slim [(4, .bool false)] ⟨rfl, trivial⟩ ?_
            refine Run.retP rfl (.tmp rfl .nil) ?_
            cases hF
            exact Post.mk' ⟨rfl, rfl, rfl, rfl⟩ (h58.picks .nil) .nil
          ·
           refine op (OpS.pass rfl rfl rfl ?_)
           refine op (OpS.pass rfl rfl rfl ?_)
           refine op (OpS.pass rfl rfl rfl ?_)
           refine op (OpS.pass rfl rfl rfl ?_)
           refine op (OpS.pick rfl rfl rfl rfl ?_)
           refine op (OpS.mv rfl rfl rfl ?_)
           refine op (OpS.pass rfl rfl rfl ?_)
           refine op (OpS.pass rfl rfl rfl ?_)
           refine op (OpS.pick rfl rfl rfl rfl ?_)
           refine op (OpS.mv rfl rfl rfl ?_)
           refine op (OpS.pass rfl rfl rfl ?_)
           refine op (OpS.pass rfl rfl rfl ?_)
           refine op (OpS.pass rfl rfl rfl ?_)
           refine op (OpS.pick rfl rfl rfl rfl ?_)
           refine op (OpS.mv rfl rfl rfl ?_)
           refine op (OpS.pass rfl rfl rfl ?_)
           refine op (OpS.pass rfl rfl rfl ?_)
           refine op (OpS.pass rfl rfl rfl ?_)
           refine op (OpS.pick rfl rfl rfl rfl ?_)
           refine op (OpS.mv rfl rfl rfl ?_)
           refine op (OpS.pass rfl rfl rfl ?_)
           refine op (OpS.pick rfl rfl rfl rfl ?_)
           refine op (OpS.as rfl rfl rfl ?_)
           refine RunL.nil ?_
           refine Run.slim [(4, .bool false)] ⟨rfl, trivial⟩ ?_
           refine Run.retP rfl (.tmp rfl .nil) ?_
           cases hF
           exact Post.mk' ⟨rfl, rfl, rfl, rfl⟩ (h55.picks .nil) .nil
        ·
         refine RunL.caseb hF (fun e39 hF => ?_) (fun e39 hF => ?_)
         ·
          refine op (OpS.fbox (o3 := 1) h30 .z PA.z fa38_1 rfl rfl rfl rfl ?_)
          refine op (OpS.loadBi h30 .z PA.a (Get.fld Fault_.f1) ty3 rfl rfl rfl ?_)
          refine op (OpS.bin rfl rfl rfl rfl rfl ?_)
          refine op (OpS.pick rfl rfl rfl rfl ?_)
          refine op (OpS.mv rfl rfl rfl ?_)
          refine RunL.caseb hF (fun e40 hF => ?_) (fun e40 hF => ?_)
          ·
           refine op (OpS.fbox (o3 := 1) h30 .z PA.z fa38_1 rfl rfl rfl rfl ?_)
           refine op (OpS.loadBi h30 .z PA.a (Get.fld Fault_.f1) ty3 rfl rfl rfl ?_)
           refine op (OpS.mv rfl rfl rfl ?_)
           refine op (OpS.lenO h30 (.s (.s (.s (.s .z)))) Try.underlying34 rfl rfl rfl ?_)
           refine op (OpS.bin rfl rfl rfl rfl rfl ?_)
           refine op (OpS.pick rfl rfl rfl rfl ?_)
           refine op (OpS.mv rfl rfl rfl ?_)
           refine RunL.caseb hF (fun e41 hF => ?_) (fun e41 hF => ?_)
           ·
            refine op (OpS.fbox (o3 := 2) h30 .z PA.z fa38_2 rfl rfl rfl rfl ?_)
            refine op (OpS.loadBi h30 .z PA.a (Get.fld Fault_.f2) ty5 rfl rfl rfl ?_)
            refine op (OpS.bin rfl rfl rfl rfl rfl ?_)
            refine op (OpS.pick rfl rfl rfl rfl ?_)
            refine op (OpS.as rfl rfl rfl ?_)
            obtain ⟨x5, e42, hF⟩ := letP_use hF
            refine RunL.nameb e42 ?_
            refine RunL.nil ?_
            refine Run.slim [(87, .bool x5), (3, u1), (5, u8), (7, u5), (8, u7), (10, u13)] ⟨rfl, rfl, rfl, rfl, rfl, rfl, trivial⟩ ?_
            refine Run.slim [(3, u1), (5, u8), (7, u5), (8, u7), (10, u13), (87, .bool x5)] ⟨rfl, rfl, rfl, rfl, rfl, rfl, trivial⟩ ?_
            exact hj5 (x5) _ _ ⟨rfl, (h30.facts .nil).picks (.cons .z (.cons .z (.cons .z (.cons .z (.cons .z (.cons .z .nil))))))⟩ hF
           ·
            refine op (OpS.pass rfl rfl rfl ?_)
            refine op (OpS.pass rfl rfl rfl ?_)
            refine op (OpS.pass rfl rfl rfl ?_)
            refine op (OpS.pick rfl rfl rfl rfl ?_)
            refine op (OpS.as rfl rfl rfl ?_)
            refine RunL.nil ?_
            refine Run.slim [(87, .bool false), (3, u1), (5, u8), (7, u5), (8, u7), (10, u13)] ⟨rfl, rfl, rfl, rfl, rfl, rfl, trivial⟩ ?_
            refine Run.slim [(3, u1), (5, u8), (7, u5), (8, u7), (10, u13), (87, .bool false)] ⟨rfl, rfl, rfl, rfl, rfl, rfl, trivial⟩ ?_
            exact hj5 (false) _ _ ⟨rfl, (h30.facts .nil).picks (.cons .z (.cons .z (.cons .z (.cons .z (.cons .z (.cons .z .nil))))))⟩ hF
          ·
           refine op (OpS.pass rfl rfl rfl ?_)
           refine op (OpS.pass rfl rfl rfl ?_)
           refine op (OpS.pass rfl rfl rfl ?_)
           refine op (OpS.pass rfl rfl rfl ?_)
           refine op (OpS.pass rfl rfl rfl ?_)
           refine op (OpS.pick rfl rfl rfl rfl ?_)
           refine op (OpS.mv rfl rfl rfl ?_)
           refine op (OpS.pass rfl rfl rfl ?_)
           refine op (OpS.pass rfl rfl rfl ?_)
           refine op (OpS.pass rfl rfl rfl ?_)
           refine op (OpS.pick rfl rfl rfl rfl ?_)
           refine op (OpS.as rfl rfl rfl ?_)
           refine RunL.nil ?_
           refine Run.slim [(87, .bool false), (3, u1), (5, u8), (7, u5), (8, u7), (10, u13)] ⟨rfl, rfl, rfl, rfl, rfl, rfl, trivial⟩ ?_
           refine Run.slim [(3, u1), (5, u8), (7, u5), (8, u7), (10, u13), (87, .bool false)] ⟨rfl, rfl, rfl, rfl, rfl, rfl, trivial⟩ ?_
           exact hj5 (false) _ _ ⟨rfl, (h30.facts .nil).picks (.cons .z (.cons .z (.cons .z (.cons .z (.cons .z (.cons .z .nil))))))⟩ hF
         ·
          refine op (OpS.pass rfl rfl rfl ?_)
          refine op (OpS.pass rfl rfl rfl ?_)
          refine op (OpS.pass rfl rfl rfl ?_)
          refine op (OpS.pick rfl rfl rfl rfl ?_)
          refine op (OpS.mv rfl rfl rfl ?_)
          refine op (OpS.pass rfl rfl rfl ?_)
          refine op (OpS.pass rfl rfl rfl ?_)
          refine op (OpS.pass rfl rfl rfl ?_)
          refine op (OpS.pass rfl rfl rfl ?_)
          refine op (OpS.pass rfl rfl rfl ?_)
          refine op (OpS.pick rfl rfl rfl rfl ?_)
          refine op (OpS.mv rfl rfl rfl ?_)
          refine op (OpS.pass rfl rfl rfl ?_)
          refine op (OpS.pass rfl rfl rfl ?_)
          refine op (OpS.pass rfl rfl rfl ?_)
          refine op (OpS.pick rfl rfl rfl rfl ?_)
          refine op (OpS.as rfl rfl rfl ?_)
          refine RunL.nil ?_
          refine Run.slim [(87, .bool false), (3, u1), (5, u8), (7, u5), (8, u7), (10, u13)] ⟨rfl, rfl, rfl, rfl, rfl, rfl, trivial⟩ ?_
          refine Run.slim [(3, u1), (5, u8), (7, u5), (8, u7), (10, u13), (87, .bool false)] ⟨rfl, rfl, rfl, rfl, rfl, rfl, trivial⟩ ?_
          exact hj5 (false) _ _ ⟨rfl, (h30.facts .nil).picks (.cons .z (.cons .z (.cons .z (.cons .z (.cons .z (.cons .z .nil))))))⟩ hF
     ·
      refine RunL.caseb hF (fun e43 hF => ?_) (fun e43 hF => ?_)
      ·
       refine op (OpS.pass rfl rfl rfl ?_)
       refine op (OpS.pass rfl rfl rfl ?_)
       refine op (OpS.pass rfl rfl rfl ?_)
       refine op (OpS.pass rfl rfl rfl ?_)
       refine op (OpS.pick rfl rfl rfl rfl ?_)
       refine RunL.nil ?_
       refine Run.slim [(65, .bool true), (10, u13), (3, u1), (5, u8), (7, u5), (8, u7)] ⟨rfl, rfl, rfl, rfl, rfl, rfl, trivial⟩ ?_
       refine Run.slim [(3, u1), (5, u8), (7, u5), (8, u7), (10, u13), (65, .bool true)] ⟨rfl, rfl, rfl, rfl, rfl, rfl, trivial⟩ ?_
       exact hj3 (true) _ _ ⟨rfl, (h29.facts .nil).picks (.cons (.s (.s (.s .z))) (.cons (.s .z) (.cons (.s (.s .z)) (.cons .z (.cons (.s .z) (.cons .z .nil))))))⟩ hF
      ·
       refine op (OpS.fbox (o3 := 0) h29 .z PA.z fa46_0 rfl rfl rfl rfl ?_)
       refine op (OpS.loadB h29 .z PA.a (Get.fld Delivery_.f0) ty33 rfl rfl rfl (fun u22 h68 => ?_))
       refine op (OpS.len h68 Try.underlying33 rfl rfl rfl (V.at .z) ?_)
       refine op (OpS.bin rfl rfl rfl rfl rfl ?_)
       refine op (OpS.pick rfl rfl rfl rfl ?_)
       refine RunL.nil ?_
       refine Run.slim [(65, .bool ((y7.1.Masters.length : Int) != 1)), (10, u13), (3, u1), (5, u8), (7, u5), (8, u7)] ⟨rfl, rfl, rfl, rfl, rfl, rfl, trivial⟩ ?_
       refine Run.slim [(3, u1), (5, u8), (7, u5), (8, u7), (10, u13), (65, .bool ((y7.1.Masters.length : Int) != 1))] ⟨rfl, rfl, rfl, rfl, rfl, rfl, trivial⟩ ?_
       exact hj3 ((y7.1.Masters.length : Int) != 1) _ _ ⟨rfl, (h68.facts .nil).picks (.cons (.s (.s (.s .z))) (.cons (.s .z) (.cons (.s (.s .z)) (.cons .z (.cons (.s .z) (.cons .z .nil))))))⟩ hF
    ·
     refine Run.ite rfl hF (fun e44 hF => ?_) (fun e44 hF => ?_)
     ·
      refine Run.reg ?_
      refine op (OpS.loadB h19 .z PA.z Get.id ty38 rfl rfl rfl (fun u23 h69 => ?_))
      obtain ⟨y18, e45, hF⟩ := bindP_use hF
      have h70 := h69.front .nil
      refine op (OpS.callO h70 Try.func19 rfl rfl rfl rfl (vs := [u23]) rfl (law21_fault_ok e45) rfl (.cons (f := false) (V.at .z) .nil) ?_)
      rintro u24 w32 _ _ _ ⟨_, rfl, rfl, rfl, rfl⟩ h71
      have h72 := h71
      simp only [List.cons_append, List.nil_append] at h72
      refine op (OpS.storeB (f' := false) h72 .z PA.z Put.id ty38 rfl rfl rfl (V.at .z) (.inr rfl) (fun w33 h73 => ?_))
      refine RunL.nil ?_
      refine Run.slim [(3, u1), (5, u8), (7, u5), (8, u7)] ⟨rfl, rfl, rfl, rfl, trivial⟩ ?_
      refine Run.slim [(3, u1), (5, u8), (7, u5), (8, u7)] ⟨rfl, rfl, rfl, rfl, trivial⟩ ?_
      exact hj2 (y18) _ _ ⟨rfl, (h73.facts .nil).picks (.cons .z (.cons (.s (.s .z)) (.cons .z (.cons .z .nil))))⟩ hF
     ·
      refine Run.skip ?_
      refine Run.slim [(3, u1), (5, u8), (7, u5), (8, u7)] ⟨rfl, rfl, rfl, rfl, trivial⟩ ?_
      exact hj2 (a1) _ _ ⟨rfl, (h19.facts .nil).picks (.cons .z (.cons (.s (.s .z)) (.cons .z (.cons .z .nil))))⟩ hF
  ·
   refine RunL.caseb hF (fun e46 hF => ?_) (fun e46 hF => ?_)
   ·
    refine op (OpS.pass rfl rfl rfl ?_)
    refine op (OpS.pass rfl rfl rfl ?_)
    refine op (OpS.pick rfl rfl rfl rfl ?_)
    refine op (OpS.mv rfl rfl rfl ?_)
    refine op (OpS.pass rfl rfl rfl ?_)
    refine op (OpS.pass rfl rfl rfl ?_)
    refine op (OpS.pick rfl rfl rfl rfl ?_)
    refine op (OpS.mv rfl rfl rfl ?_)
    refine op (OpS.pass rfl rfl rfl ?_)
    refine op (OpS.pass rfl rfl rfl ?_)
    refine op (OpS.pass rfl rfl rfl ?_)
    refine op (OpS.pass rfl rfl rfl ?_)
    refine op (OpS.pick rfl rfl rfl rfl ?_)
    refine RunL.nil ?_
    refine Run.slim [(45, .bool true), (8, u7), (7, u5), (5, u2), (3, u1)] ⟨rfl, rfl, rfl, rfl, rfl, trivial⟩ ?_
    have h74 := (h18.pick (.s (.s (.s .z)))).weak
    refine Run.slim [(3, u1), (5, u2), (7, u5), (8, u7), (45, .bool true)] ⟨rfl, rfl, rfl, rfl, rfl, trivial⟩ ?_
    exact hj1 (true, y3.1) _ _ ⟨u2, rfl, (h74.facts .nil).picks (.cons (.s (.s (.s (.s .z)))) (.cons (.s (.s .z)) (.cons (.s .z) (.cons .z .nil))))⟩ hF
   ·
    refine op (OpS.mv rfl rfl rfl ?_)
    refine op (OpS.bin rfl rfl rfl rfl rfl ?_)
    refine op (OpS.pick rfl rfl rfl rfl ?_)
    refine op (OpS.mv rfl rfl rfl ?_)
    refine RunL.caseb hF (fun e47 hF => ?_) (fun e47 hF => ?_)
    ·
     refine op (OpS.pass rfl rfl rfl ?_)
     refine op (OpS.pass rfl rfl rfl ?_)
     refine op (OpS.pick rfl rfl rfl rfl ?_)
     refine op (OpS.mv rfl rfl rfl ?_)
     refine op (OpS.pass rfl rfl rfl ?_)
     refine op (OpS.pass rfl rfl rfl ?_)
     refine op (OpS.pass rfl rfl rfl ?_)
     refine op (OpS.pass rfl rfl rfl ?_)
     refine op (OpS.pick rfl rfl rfl rfl ?_)
     refine RunL.nil ?_
     refine Run.slim [(45, .bool true), (8, u7), (7, u5), (5, u2), (3, u1)] ⟨rfl, rfl, rfl, rfl, rfl, trivial⟩ ?_
     have h75 := (h18.pick (.s (.s (.s .z)))).weak
     refine Run.slim [(3, u1), (5, u2), (7, u5), (8, u7), (45, .bool true)] ⟨rfl, rfl, rfl, rfl, rfl, trivial⟩ ?_
     exact hj1 (true, y3.1) _ _ ⟨u2, rfl, (h75.facts .nil).picks (.cons (.s (.s (.s (.s .z)))) (.cons (.s (.s .z)) (.cons (.s .z) (.cons .z .nil))))⟩ hF
    ·
     refine op (OpS.mv rfl rfl rfl ?_)
     refine op (OpS.bin rfl rfl rfl rfl rfl ?_)
     refine op (OpS.pick rfl rfl rfl rfl ?_)
     refine op (OpS.mv rfl rfl rfl ?_)
     refine RunL.caseb hF (fun e48 hF => ?_) (fun e48 hF => ?_)
     ·
      refine op (OpS.pass rfl rfl rfl ?_)
      refine op (OpS.pass rfl rfl rfl ?_)
      refine op (OpS.pass rfl rfl rfl ?_)
      refine op (OpS.pass rfl rfl rfl ?_)
      refine op (OpS.pick rfl rfl rfl rfl ?_)
      refine RunL.nil ?_
      refine Run.slim [(45, .bool true), (8, u7), (7, u5), (5, u2), (3, u1)] ⟨rfl, rfl, rfl, rfl, rfl, trivial⟩ ?_
      have h76 := (h18.pick (.s (.s (.s .z)))).weak
      refine Run.slim [(3, u1), (5, u2), (7, u5), (8, u7), (45, .bool true)] ⟨rfl, rfl, rfl, rfl, rfl, trivial⟩ ?_
      exact hj1 (true, y3.1) _ _ ⟨u2, rfl, (h76.facts .nil).picks (.cons (.s (.s (.s (.s .z)))) (.cons (.s (.s .z)) (.cons (.s .z) (.cons .z .nil))))⟩ hF
     ·
      refine op (OpS.mv rfl rfl rfl ?_)
      refine op (OpS.loadB h18 (.s .z) PA.z Get.id ty36 rfl rfl rfl (fun u25 h77 => ?_))
      obtain ⟨x6, e49, hF⟩ := bindP_use hF
      have h78 := St.unopt (h77.pick (.s (.s (.s .z)))) e49
      obtain ⟨u26, h79⟩ := h78.unex
      have h80 := h79.unsep
      obtain ⟨y19, e50, hF⟩ := bindP_use hF
      have h81 := (h80.pick .z).weak
      have h82 := (h81.pick (.s .z)).weak
      have h83 := h82.front (.cons (.s .z) (.cons .z .nil))
      refine op (OpS.callO h83 Try.func16 rfl rfl rfl rfl (vs := [u2, .int .i64 0, u25]) rfl (bus_Bus_Submit_ok e50) rfl (.cons (f := true) (V.at .z) .nil) ?_)
      rintro _ w34 _ _ _ ⟨u27, rfl, rfl, rfl, rfl⟩ h84
      have h85 := h84
      simp only [List.cons_append, List.nil_append] at h85
      refine op (OpS.bin rfl rfl rfl rfl rfl ?_)
      refine op (OpS.pick rfl rfl rfl rfl ?_)
      refine RunL.nil ?_
      refine Run.slim [(45, .bool (y19.1 != 0)), (8, u7), (7, u5), (5, u2), (3, u1)] ⟨rfl, rfl, rfl, rfl, rfl, trivial⟩ ?_
      have h86 := h85.front (.cons .z (.cons .z .nil))
      have h87 := St.some (H := (fun x_ => .ex fun v_ => .sep (.box 76 (Rep.iso (fun s : bus_Bus => (s.masters, ())) (Rep.prod (Rep.raw (α := List bus_master) v_) Rep.unit)) u2 x_) (.oval (oslice 85 3 (fun _ => bus_master.orep)) v_ x_.masters))) (q := u2) (x := y19.2) (St.ex (H := fun v_ => .sep (.box 76 (Rep.iso (fun s : bus_Bus => (s.masters, ())) (Rep.prod (Rep.raw (α := List bus_master) v_) Rep.unit)) u2 y19.2) (.oval (oslice 85 3 (fun _ => bus_master.orep)) v_ y19.2.masters)) u27 (St.sep h86))
      refine Run.slim [(3, u1), (5, u2), (7, u5), (8, u7), (45, .bool (y19.1 != 0))] ⟨rfl, rfl, rfl, rfl, rfl, trivial⟩ ?_
      exact hj1 (y19.1 != 0, (some y19.2)) _ _ ⟨u2, rfl, (h87.facts .nil).picks (.cons (.s (.s (.s (.s .z)))) (.cons (.s (.s .z)) (.cons (.s .z) (.cons .z .nil))))⟩ hF
end Lift
