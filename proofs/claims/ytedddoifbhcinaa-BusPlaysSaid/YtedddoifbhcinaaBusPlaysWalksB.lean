/- Each Go function computes its plain function. Written by lift.py. -/
import Derived.Test.YtedddoifbhcinaaBusPlaysWalksA
set_option linter.unusedVariables false
set_option linter.unusedSimpArgs false
namespace Lift
open Go Go.Proofs
open RunL (op)
theorem made_Dice_Byte_ok {fuel : Nat} {a0 : made_Dice} {y : Int × made_Dice} (hF : made_Dice_Byte fuel a0 = some y) {w : World} {v0 : Value} :
  Spec Try.prog 54 [v0].toArray w [] [(false, .box 81 made_Dice.rep v0 a0)] (fun v Γr Ωr Ωo => v = .int .u8 y.1 ∧ Γr = [] ∧ Ωr = [] ∧ Ωo = [(false, .box 81 made_Dice.rep v0 y.2)]) := by
 refine Spec.of (L := [(0, v0)]) Try.func54 rfl ⟨rfl, trivial⟩ rfl (fun e h => ?_)
 unfold made_Dice_Byte at hF
 refine Run.seq ?_
 refine Run.reg ?_
 refine op (OpS.as rfl rfl rfl ?_)
 refine RunL.nil ?_
 refine Run.slim [(0, v0)] ⟨rfl, trivial⟩ ?_
 refine Run.seq ?_
 refine Run.reg ?_
 refine op (OpS.buildA (f := true) (r := (Rep.int .u8)) h Try.underlying102 ti5 rfl ti102 rfl rfl rfl (.cons rfl V.int (.cons rfl V.int (.cons rfl V.int (.cons rfl V.int (.cons rfl V.int (.cons rfl V.int (.cons rfl V.int (.cons rfl V.int .nil)))))))) rfl (fun u1 h1 => ?_))
 refine op (OpS.alloc h1 ti102 (Zr.of (Zr.arr (Zr.int .u8 0) 8) rfl) rfl rfl (fun u2 w1 h2 => ?_))
 obtain ⟨d1, e1, hF⟩ := letP_use hF
 refine op (OpS.storeB (f' := true) h2 .z PA.z (Put.of Put.id e1) ty102 rfl rfl rfl (V.at .z) (.inl rfl) (fun w2 h3 => ?_))
 refine RunL.nil ?_
 refine Run.slim [(3, u2), (0, v0)] ⟨rfl, rfl, trivial⟩ ?_
 refine Run.seq ?_
 refine Run.seq ?_
 refine Run.reg ?_
 refine op (OpS.mv rfl rfl rfl ?_)
 obtain ⟨y1, e2, hF⟩ := bindP_use hF
 have h4 := h3.front (.cons (.s .z) .nil)
 refine op (OpS.callO h4 Try.func34 rfl rfl rfl rfl (vs := [v0, .int .i64 3]) rfl (made_Dice_Bool_ok e2) rfl .nil ?_)
 rintro _ w3 _ _ _ ⟨rfl, rfl, rfl, rfl⟩ h5
 have h6 := h5
 simp only [List.cons_append, List.nil_append] at h6
 refine RunL.nil ?_
 refine Run.slim [(6, .bool y1.1), (3, u2), (0, v0)] ⟨rfl, rfl, rfl, trivial⟩ ?_
 refine Run.ite rfl hF (fun e3 hF => ?_) (fun e3 hF => ?_)
 ·
  refine Run.seq ?_
  refine Run.reg ?_
  refine op (OpS.mv rfl rfl rfl ?_)
  obtain ⟨y2, e4, hF⟩ := bindP_use hF
  have h7 := h6.front (.cons .z .nil)
  refine op (OpS.callO h7 Try.func32 rfl rfl rfl rfl (vs := [v0, .int .i64 8]) rfl (made_Dice_Next_ok e4) rfl .nil ?_)
  rintro _ w4 _ _ _ ⟨rfl, rfl, rfl, rfl⟩ h8
  have h9 := h8
  simp only [List.cons_append, List.nil_append] at h9
  obtain ⟨x1, e5, hF⟩ := bindP_use hF
  obtain ⟨e6, hF⟩ := chk_use hF
  refine op (OpS.ibox h9 (.s .z) PA.z Try.underlying102 ty5 (Nat.eq_of_beq_eq_true e6) rfl rfl rfl rfl e5 ?_)
  refine op (OpS.loadBi h9 (.s .z) PA.a (Get.comp Get.id (Get.arr e5)) ty5 rfl rfl rfl ?_)
  refine op (OpS.as rfl rfl rfl ?_)
  refine RunL.nil ?_
  refine Run.slim [(2, .int .u8 x1)] ⟨rfl, trivial⟩ ?_
  refine Run.retP rfl (.tmp rfl .nil) ?_
  cases hF
  exact Post.mk' ⟨rfl, rfl, rfl, rfl⟩ (h9.picks (.cons .z .nil)) .nil
 ·
  refine Run.skip ?_
  refine Run.seq ?_
  refine Run.reg ?_
  refine op (OpS.mv rfl rfl rfl ?_)
  obtain ⟨y3, e7, hF⟩ := bindP_use hF
  have h10 := h6.front (.cons .z .nil)
  refine op (OpS.callO h10 Try.func32 rfl rfl rfl rfl (vs := [v0, .int .i64 256]) rfl (made_Dice_Next_ok e7) rfl .nil ?_)
  rintro _ w5 _ _ _ ⟨rfl, rfl, rfl, rfl⟩ h11
  have h12 := h11
  simp only [List.cons_append, List.nil_append] at h12
  refine op (OpS.conv Try.underlying3 Try.underlying5 rfl rfl rfl ?_)
  refine op (OpS.as rfl rfl rfl ?_)
  refine RunL.nil ?_
  refine Run.slim [(2, .int .u8 (IntKind.u8.wrap y3.1))] ⟨rfl, trivial⟩ ?_
  refine Run.retP rfl (.tmp rfl .nil) ?_
  cases hF
  exact Post.mk' ⟨rfl, rfl, rfl, rfl⟩ (h12.picks (.cons .z .nil)) .nil
theorem made_Dice_Bytes_ok {fuel : Nat} {a0 : made_Dice} {a1 : Int} {y : (List Int) × made_Dice} (hF : made_Dice_Bytes fuel a0 a1 = some y) {w : World} {v0 : Value} :
  Spec Try.prog 33 [v0, .int .i64 a1].toArray w [] [(false, .box 81 made_Dice.rep v0 a0)] (fun v Γr Ωr Ωo => ∃ u0 : Value, v = u0 ∧ Γr = [] ∧ Ωr = [(true, (.slice 5 (Rep.int .u8) u0 y.1))] ∧ Ωo = [(false, .box 81 made_Dice.rep v0 y.2)]) := by
 refine Spec.of (L := [(0, v0), (1, .int .i64 a1)]) Try.func33 rfl ⟨rfl, rfl, trivial⟩ rfl (fun e h => ?_)
 unfold made_Dice_Bytes at hF
 refine Run.seq ?_
 refine Run.reg ?_
 refine op (OpS.as rfl rfl rfl ?_)
 refine RunL.nil ?_
 refine Run.slim [(0, v0), (1, .int .i64 a1)] ⟨rfl, rfl, trivial⟩ ?_
 refine Run.seq ?_
 refine Run.reg ?_
 refine op (OpS.as rfl rfl rfl ?_)
 refine RunL.nil ?_
 refine Run.seq ?_
 refine Run.seq ?_
 refine Run.reg ?_
 refine op (OpS.mv rfl rfl rfl ?_)
 refine op (OpS.mv rfl rfl rfl ?_)
 refine op (OpS.bin rfl rfl rfl rfl rfl ?_)
 obtain ⟨y1, e1, hF⟩ := bindP_use hF
 have h1 := h.front (.cons .z .nil)
 refine op (OpS.callO h1 Try.func32 rfl rfl rfl rfl (vs := [v0, .int .i64 (IntKind.i64.wrap (a1 + 1))]) rfl (made_Dice_Next_ok e1) rfl .nil ?_)
 rintro _ w1 _ _ _ ⟨rfl, rfl, rfl, rfl⟩ h2
 have h3 := h2
 simp only [List.cons_append, List.nil_append] at h3
 refine op (OpS.as rfl rfl rfl ?_)
 refine RunL.nil ?_
 refine Run.slim [(6, .int .i64 y1.1), (5, .slice none 0 0), (0, v0)] ⟨rfl, rfl, rfl, trivial⟩ ?_
 refine Run.block ?_
 have h4 := St.nil 5 (Rep.int .u8) h3
 refine Run.slim [(0, v0), (5, (.slice none 0 0)), (6, .int .i64 y1.1)] ⟨rfl, rfl, rfl, trivial⟩ ?_
 refine Run.loopP (σ := (Int × made_Dice × (List Int))) (fun s_ L_ w_ => ∃ u0_ : Value, L_ = [(0, v0), (5, u0_), (6, .int .i64 s_.1)] ∧ St e w_ [] [(false, .box 81 made_Dice.rep v0 s_.2.1), (true, .slice 5 (Rep.int .u8) u0_ s_.2.2)]) hF ⟨(.slice none 0 0), rfl, (h4.facts .nil).picks (.cons (.s .z) (.cons .z .nil))⟩ (fun k1 hk1 s1 _ w2 hI hF => ?_)
 obtain ⟨u1, rfl, h5⟩ := hI
 refine Run.seq ?_
 refine Run.seq ?_
 refine Run.reg ?_
 refine op (OpS.mv rfl rfl rfl ?_)
 refine op (OpS.bin rfl rfl rfl rfl rfl ?_)
 refine RunL.nil ?_
 refine Run.slim [(12, .bool (decide (s1.1 > 0))), (0, v0), (5, u1), (6, .int .i64 s1.1)] ⟨rfl, rfl, rfl, rfl, trivial⟩ ?_
 refine Run.ite rfl hF (fun e2 hF => ?_) (fun e2 hF => ?_)
 ·
  refine Run.skip ?_
  refine Run.seq ?_
  refine Run.block ?_
  refine Run.reg ?_
  refine op (OpS.mv rfl rfl rfl ?_)
  refine op (OpS.mv rfl rfl rfl ?_)
  obtain ⟨y2, e3, hF⟩ := bindP_use hF
  have h6 := h5.front (.cons .z .nil)
  refine op (OpS.callO h6 Try.func54 rfl rfl rfl rfl (vs := [v0]) rfl (made_Dice_Byte_ok e3) rfl .nil ?_)
  rintro _ w3 _ _ _ ⟨rfl, rfl, rfl, rfl⟩ h7
  have h8 := h7
  simp only [List.cons_append, List.nil_append] at h8
  refine op (OpS.lit (r := (Rep.int .u8)) (f := true) h8 Try.underlying34 ti5 rfl rfl rfl rfl rfl (.cons rfl V.int .nil) rfl rfl (fun u2 w4 h9 => ?_))
  obtain ⟨x1, e4, hF⟩ := bindP_use hF
  refine op (OpS.app (f' := true) h9 (.s .z) Try.underlying34 ti5 rfl rfl rfl rfl rfl rfl rfl (V.at .z) (.inr Pure.int) e4 (fun u3 w5 h10 => ?_))
  refine op (OpS.as rfl rfl rfl ?_)
  refine RunL.nil ?_
  refine Run.slim [(5, u3), (0, v0), (6, .int .i64 s1.1)] ⟨rfl, rfl, rfl, trivial⟩ ?_
  refine Run.endBlock ?_
  refine Run.reg ?_
  refine op (OpS.mv rfl rfl rfl ?_)
  refine op (OpS.bin rfl rfl rfl rfl rfl ?_)
  refine op (OpS.as rfl rfl rfl ?_)
  obtain ⟨x2, e5, hF⟩ := letP_use hF
  refine RunL.name e5 ?_
  refine RunL.nil ?_
  refine Run.slim [(6, .int .i64 x2), (5, u3), (0, v0)] ⟨rfl, rfl, rfl, trivial⟩ ?_
  refine Run.slim [(0, v0), (5, u3), (6, .int .i64 x2)] ⟨rfl, rfl, rfl, trivial⟩ ?_
  exact hk1 (x2, y2.2, x1) _ _ ⟨u3, rfl, (h10.facts .nil).picks (.cons (.s .z) (.cons .z .nil))⟩ hF
 ·
  refine Run.exit rfl ?_
  refine Run.seq ?_
  refine Run.reg ?_
  refine op (OpS.mv rfl rfl rfl ?_)
  refine op (OpS.as rfl rfl rfl ?_)
  refine RunL.nil ?_
  refine Run.slim [(4, u1)] ⟨rfl, trivial⟩ ?_
  refine Run.retP rfl (.tmp rfl .nil) ?_
  cases hF
  exact Post.mk' ⟨u1, rfl, rfl, rfl, rfl⟩ (h5.picks (.cons (.s .z) (.cons .z .nil))) .nil
theorem made_Dice_Frame_ok {fuel : Nat} {a0 : made_Dice} {y : Frame_ × made_Dice} (hF : made_Dice_Frame fuel a0 = some y) {w : World} {v0 : Value} :
  Spec Try.prog 15 [v0].toArray w [] [(false, .box 81 made_Dice.rep v0 a0)] (fun v Γr Ωr Ωo => ∃ u0 : Value, v = u0 ∧ Γr = [(true, .val Frame_.rep u0 y.1)] ∧ Ωr = [] ∧ Ωo = [(false, .box 81 made_Dice.rep v0 y.2)]) := by
 refine Spec.of (L := [(0, v0)]) Try.func15 rfl ⟨rfl, trivial⟩ rfl (fun e h => ?_)
 unfold made_Dice_Frame at hF
 refine Run.seq ?_
 refine Run.reg ?_
 refine op (OpS.alloc h ti36 Frame_.zr rfl rfl (fun u1 w1 h1 => ?_))
 refine RunL.nil ?_
 refine Run.seq ?_
 refine Run.reg ?_
 refine op (OpS.mv rfl rfl rfl ?_)
 obtain ⟨y1, e1, hF⟩ := bindP_use hF
 have h2 := h1.front (.cons (.s .z) .nil)
 refine op (OpS.callO h2 Try.func32 rfl rfl rfl rfl (vs := [v0, .int .i64 4]) rfl (made_Dice_Next_ok e1) rfl .nil ?_)
 rintro _ w2 _ _ _ ⟨rfl, rfl, rfl, rfl⟩ h3
 have h4 := h3
 simp only [List.cons_append, List.nil_append] at h4
 refine op (OpS.bin rfl rfl rfl rfl rfl ?_)
 refine op (OpS.conv Try.underlying3 Try.underlying5 rfl rfl rfl ?_)
 refine op (OpS.mv rfl rfl rfl ?_)
 obtain ⟨y2, e2, hF⟩ := bindP_use hF
 have h5 := h4.front (.cons .z .nil)
 refine op (OpS.callO h5 Try.func32 rfl rfl rfl rfl (vs := [v0, .int .i64 3]) rfl (made_Dice_Next_ok e2) rfl .nil ?_)
 rintro _ w3 _ _ _ ⟨rfl, rfl, rfl, rfl⟩ h6
 have h7 := h6
 simp only [List.cons_append, List.nil_append] at h7
 refine op (OpS.bin rfl rfl rfl rfl rfl ?_)
 refine op (OpS.conv Try.underlying3 Try.underlying5 rfl rfl rfl ?_)
 refine op (OpS.mv rfl rfl rfl ?_)
 obtain ⟨y3, e3, hF⟩ := bindP_use hF
 have h8 := h7.front (.cons .z .nil)
 refine op (OpS.callO h8 Try.func33 rfl rfl rfl rfl (vs := [v0, .int .i64 6]) rfl (made_Dice_Bytes_ok e3) rfl .nil ?_)
 rintro u2 w4 _ _ _ ⟨_, rfl, rfl, rfl, rfl⟩ h9
 have h10 := h9
 simp only [List.cons_append, List.nil_append] at h10
 have h11 := (h10.pick .z).freeze
 refine op (OpS.build (f := true) (x' := (⟨(IntKind.u8.wrap (IntKind.i64.wrap (8 + y1.1))), (IntKind.u8.wrap (IntKind.i64.wrap (32 + y2.1))), y3.1⟩ : Frame_)) h11 pl36 ti36 Frame_.zr rfl rfl rfl (.cons rfl Frame_.f0 rfl V.int (.cons rfl Frame_.f1 rfl V.int (.cons rfl Frame_.f2 rfl (V.at .z) .nil))) (fun u3 h12 => ?_))
 refine op (OpS.alloc h12 ti36 Frame_.zr rfl rfl (fun u4 w5 h13 => ?_))
 refine op (OpS.storeB (f' := true) h13 .z PA.z Put.id ty36 rfl rfl rfl (V.at .z) (.inl rfl) (fun w6 h14 => ?_))
 refine RunL.nil ?_
 refine Run.slim [(3, u4), (2, u1), (0, v0)] ⟨rfl, rfl, rfl, trivial⟩ ?_
 refine Run.seq ?_
 refine Run.seq ?_
 refine Run.reg ?_
 refine op (OpS.mv rfl rfl rfl ?_)
 obtain ⟨y4, e4, hF⟩ := bindP_use hF
 have h15 := h14.front (.cons (.s .z) .nil)
 refine op (OpS.callO h15 Try.func34 rfl rfl rfl rfl (vs := [v0, .int .i64 30]) rfl (made_Dice_Bool_ok e4) rfl .nil ?_)
 rintro _ w7 _ _ _ ⟨rfl, rfl, rfl, rfl⟩ h16
 have h17 := h16
 simp only [List.cons_append, List.nil_append] at h17
 refine RunL.nil ?_
 refine Run.slim [(16, .bool y4.1), (3, u4), (2, u1)] ⟨rfl, rfl, rfl, trivial⟩ ?_
 refine Run.ite rfl hF (fun e5 hF => ?_) (fun e5 hF => ?_)
 ·
  refine Run.seq ?_
  refine Run.reg ?_
  obtain ⟨x1, e6, hF⟩ := bindP_use hF
  refine op (OpS.make h17 Try.underlying34 ti5 rfl rfl (Zr.int .u8 0) rfl rfl rfl rfl e6 (by simp) (mk_fits e6) rfl (fun u5 w8 h18 => ?_))
  refine op (OpS.fbox (o3 := 2) h18 (.s (.s .z)) PA.z fa36_2 rfl rfl rfl rfl ?_)
  refine op (OpS.storeC (f' := true) (fr := (Rep.raw u5)) (r' := (Rep.iso (fun s : Frame_ => (s.To, s.From, s.Data, ())) (Rep.prod (Rep.int .u8) (Rep.prod (Rep.int .u8) (Rep.prod (Rep.raw (α := List Int) u5) Rep.unit))))) (x' := (⟨(IntKind.u8.wrap (IntKind.i64.wrap (8 + y1.1))), (IntKind.u8.wrap (IntKind.i64.wrap (32 + y2.1))), y3.1⟩ : Frame_)) h18 (.s (.s .z)) PA.a (Chg.iso _ (Chg.there (Chg.there (Chg.here (Chg.id (by rfl)))))) (Ty.like ty34 (by rfl) (by rfl)) rfl rfl rfl (V.raw (f := true) (St.own1 h18 .z) ((⟨(IntKind.u8.wrap (IntKind.i64.wrap (8 + y1.1))), (IntKind.u8.wrap (IntKind.i64.wrap (32 + y2.1))), y3.1⟩ : Frame_).Data)) (.inl rfl) (fun w9 h19 => ?_))
  refine RunL.nil ?_
  refine Run.slim [(3, u4), (2, u1)] ⟨rfl, rfl, trivial⟩ ?_
  refine Run.reg ?_
  refine op (OpS.fbox (o3 := 0) h19 .z PA.z fa36_0 rfl rfl rfl rfl ?_)
  obtain ⟨d1, e7, hF⟩ := letP_use hF
  refine op (OpS.storeC (f' := true) (fr := (Rep.int .u8)) (r' := (Rep.iso (fun s : Frame_ => (s.To, s.From, s.Data, ())) (Rep.prod (Rep.int .u8) (Rep.prod (Rep.int .u8) (Rep.prod (Rep.raw (α := List Int) u5) Rep.unit))))) (x' := d1) h19 .z PA.a (Chg.of (x' := { (⟨(IntKind.u8.wrap (IntKind.i64.wrap (8 + y1.1))), (IntKind.u8.wrap (IntKind.i64.wrap (32 + y2.1))), y3.1⟩ : Frame_) with To := 119 }) (Chg.iso _ (Chg.here (Chg.id (by rfl)))) e7) ty5 rfl rfl rfl V.int (.inl rfl) (fun w10 h20 => ?_))
  refine RunL.nil ?_
  refine Run.slim [(3, u4), (2, u1)] ⟨rfl, rfl, trivial⟩ ?_
  refine Run.seq ?_
  refine Run.reg ?_
  refine op (OpS.loadB (fr := (Rep.iso (fun s : Frame_ => (s.To, s.From, s.Data, ())) (Rep.prod (Rep.int .u8) (Rep.prod (Rep.int .u8) (Rep.prod (Rep.raw (α := List Int) u5) Rep.unit))))) h20 .z PA.z (GetS.ok GetS.id) (Ty.like ty36 (by rfl) (by rfl)) rfl rfl rfl (fun u6 h21 => ?_))
  refine op (OpS.storeC (f' := true) (fr := (Rep.iso (fun s : Frame_ => (s.To, s.From, s.Data, ())) (Rep.prod (Rep.int .u8) (Rep.prod (Rep.int .u8) (Rep.prod (Rep.raw (α := List Int) u5) Rep.unit))))) (r' := (Rep.iso (fun s : Frame_ => (s.To, s.From, s.Data, ())) (Rep.prod (Rep.int .u8) (Rep.prod (Rep.int .u8) (Rep.prod (Rep.raw (α := List Int) u5) Rep.unit))))) (x' := d1) h21 (.s (.s (.s .z))) PA.z (Chg.id (by rfl)) (Ty.like ty36 (by rfl) (by rfl)) rfl rfl rfl (V.at .z) (.inl rfl) (fun w11 h22 => ?_))
  refine RunL.nil ?_
  refine Run.slim [(2, u1)] ⟨rfl, trivial⟩ ?_
  obtain ⟨u7, hu1, h23⟩ := res_box h22 .z (Ty.like ty36 (by rfl) (by rfl))
  have h24 := (h23.pick (.s (.s .z))).freeze
  have h25 := h24.pick .z
  have h26 := St.boxJ (r' := Frame_.rep) (x' := { d1 with Data := x1 }) h25 (fun _ _ hs_ => (Jn.iso _ (Jn.prod Jn.refl (Jn.prod Jn.refl (Jn.prod (Jn.raw ((V.at .z) _ _ hs_) rfl) Jn.refl)))))
  have h27 := h26.pick (.s .z)
  have h28 := St.boxJ (r' := Frame_.rep) (x' := { d1 with Data := x1 }) h27 (fun _ _ hs_ => (Jn.iso _ (Jn.prod Jn.refl (Jn.prod Jn.refl (Jn.prod (Jn.raw ((V.at .z) _ _ hs_) rfl) Jn.refl)))))
  have h29 := St.addV (f := true) (r := Frame_.rep) (x := { d1 with Data := x1 }) h28 (V.jn (r := (Rep.iso (fun s : Frame_ => (s.To, s.From, s.Data, ())) (Rep.prod (Rep.int .u8) (Rep.prod (Rep.int .u8) (Rep.prod (Rep.raw (α := List Int) u5) Rep.unit))))) (x := d1) (V.at (.s .z)) rfl (fun _ _ hs_ => (Jn.iso _ (Jn.prod Jn.refl (Jn.prod Jn.refl (Jn.prod (Jn.raw ((V.at .z) _ _ hs_) rfl) Jn.refl))))))
  refine Run.retP rfl (.cell rfl hu1 .nil) ?_
  cases hF
  exact Post.mk' ⟨u7, rfl, rfl, rfl, rfl⟩ (h29.picks (.cons (.s (.s .z)) .nil)) (.val (V.at .z) .nil)
 ·
  refine Run.skip ?_
  refine Run.seq ?_
  refine Run.reg ?_
  refine op (OpS.loadB h17 (.s .z) PA.z Get.id ty36 rfl rfl rfl (fun u8 h30 => ?_))
  refine op (OpS.storeB (f' := true) h30 (.s (.s .z)) PA.z Put.id ty36 rfl rfl rfl (V.at .z) (.inl rfl) (fun w12 h31 => ?_))
  refine RunL.nil ?_
  refine Run.slim [(2, u1)] ⟨rfl, trivial⟩ ?_
  obtain ⟨u9, hu2, h32⟩ := res_box h31 .z ty36
  refine Run.retP rfl (.cell rfl hu2 .nil) ?_
  cases hF
  exact Post.mk' ⟨u9, rfl, rfl, rfl, rfl⟩ (h32.picks (.cons (.s .z) .nil)) (.val (V.at .z) .nil)
theorem ref20_Address_ok {fuel : Nat} {a0 : Int} {y : Bool} (hF : ref20_Address fuel a0 = some y) {w : World} :
  Spec Try.prog 58 [.int .u8 a0].toArray w [] [] (fun v Γr Ωr Ωo => v = .bool y ∧ Γr = [] ∧ Ωr = [] ∧ Ωo = []) := by
 refine Spec.of (L := [(0, .int .u8 a0)]) Try.func58 rfl ⟨rfl, trivial⟩ rfl (fun e h => ?_)
 unfold ref20_Address at hF
 refine Run.seq ?_
 refine Run.reg ?_
 refine op (OpS.as rfl rfl rfl ?_)
 refine RunL.nil ?_
 refine Run.slim [(0, .int .u8 a0)] ⟨rfl, trivial⟩ ?_
 refine Run.seq ?_
 refine Run.reg ?_
 refine op (OpS.mv rfl rfl rfl ?_)
 refine op (OpS.bin rfl rfl rfl rfl rfl ?_)
 refine op (OpS.mv rfl rfl rfl ?_)
 refine RunL.caseb hF (fun e1 hF => ?_) (fun e1 hF => ?_)
 ·
  refine op (OpS.mv rfl rfl rfl ?_)
  refine op (OpS.bin rfl rfl rfl rfl rfl ?_)
  refine op (OpS.pick rfl rfl rfl rfl ?_)
  refine op (OpS.as rfl rfl rfl ?_)
  obtain ⟨x1, e2, hF⟩ := letP_use hF
  refine RunL.nameb e2 ?_
  refine RunL.nil ?_
  refine Run.slim [(2, .bool x1)] ⟨rfl, trivial⟩ ?_
  refine Run.retP rfl (.tmp rfl .nil) ?_
  cases hF
  exact Post.mk' ⟨rfl, rfl, rfl, rfl⟩ (h.picks .nil) .nil
 ·
  refine op (OpS.pass rfl rfl rfl ?_)
  refine op (OpS.pass rfl rfl rfl ?_)
  refine op (OpS.pick rfl rfl rfl rfl ?_)
  refine op (OpS.as rfl rfl rfl ?_)
  refine RunL.nil ?_
  refine Run.slim [(2, .bool false)] ⟨rfl, trivial⟩ ?_
  refine Run.retP rfl (.tmp rfl .nil) ?_
  cases hF
  exact Post.mk' ⟨rfl, rfl, rfl, rfl⟩ (h.picks .nil) .nil
theorem ref20_Valid_ok {fuel : Nat} {a0 : Frame_} {y : Bool} (hF : ref20_Valid fuel a0 = some y) {w : World} {v0 : Value} :
  Spec Try.prog 55 [v0].toArray w [(false, .val Frame_.rep v0 a0)] [] (fun v Γr Ωr Ωo => v = .bool y ∧ Γr = [] ∧ Ωr = [] ∧ Ωo = []) := by
 refine Spec.of (L := [(0, v0)]) Try.func55 rfl ⟨rfl, trivial⟩ rfl (fun e h => ?_)
 unfold ref20_Valid at hF
 refine Run.seq ?_
 refine Run.reg ?_
 refine op (OpS.boxF h rfl rfl rfl (V.at .z) (fun u1 w1 h1 => ?_))
 refine op (OpS.as rfl rfl rfl ?_)
 refine RunL.nil ?_
 refine Run.slim [(1, u1)] ⟨rfl, trivial⟩ ?_
 refine Run.seq ?_
 refine Run.reg ?_
 refine op (OpS.fbox (o3 := 0) h1 .z PA.z fa36_0 rfl rfl rfl rfl ?_)
 refine op (OpS.loadBi h1 .z PA.a (Get.fld Frame_.f0) ty5 rfl rfl rfl ?_)
 obtain ⟨y1, e1, hF⟩ := bindP_use hF
 refine op (OpS.callP h1 Try.func58 rfl rfl rfl rfl (vs := [.int .u8 a0.To]) rfl (ref20_Address_ok e1) .nil ?_)
 rintro _ w2 _ _ _ ⟨rfl, rfl, rfl, rfl⟩ h2
 have h3 := h2 rfl rfl
 simp only [List.cons_append, List.nil_append] at h3
 refine op (OpS.mv rfl rfl rfl ?_)
 refine RunL.caseb hF (fun e2 hF => ?_) (fun e2 hF => ?_)
 ·
  refine op (OpS.fbox (o3 := 1) h3 .z PA.z fa36_1 rfl rfl rfl rfl ?_)
  refine op (OpS.loadBi h3 .z PA.a (Get.fld Frame_.f1) ty5 rfl rfl rfl ?_)
  obtain ⟨y2, e3, hF⟩ := bindP_use hF
  refine op (OpS.callP h3 Try.func58 rfl rfl rfl rfl (vs := [.int .u8 a0.From]) rfl (ref20_Address_ok e3) .nil ?_)
  rintro _ w3 _ _ _ ⟨rfl, rfl, rfl, rfl⟩ h4
  have h5 := h4 rfl rfl
  simp only [List.cons_append, List.nil_append] at h5
  refine op (OpS.pick rfl rfl rfl rfl ?_)
  refine op (OpS.mv rfl rfl rfl ?_)
  refine RunL.caseb hF (fun e4 hF => ?_) (fun e4 hF => ?_)
  ·
   refine op (OpS.fbox (o3 := 2) h5 .z PA.z fa36_2 rfl rfl rfl rfl ?_)
   refine op (OpS.loadB h5 .z PA.a (Get.fld Frame_.f2) ty34 rfl rfl rfl (fun u2 h6 => ?_))
   refine op (OpS.len h6 Try.underlying34 rfl rfl rfl (V.at .z) ?_)
   refine op (OpS.bin rfl rfl rfl rfl rfl ?_)
   refine op (OpS.pick rfl rfl rfl rfl ?_)
   refine op (OpS.as rfl rfl rfl ?_)
   obtain ⟨x1, e5, hF⟩ := letP_use hF
   refine RunL.nameb e5 ?_
   refine RunL.nil ?_
   refine Run.slim [(2, .bool x1)] ⟨rfl, trivial⟩ ?_
   refine Run.retP rfl (.tmp rfl .nil) ?_
   cases hF
   exact Post.mk' ⟨rfl, rfl, rfl, rfl⟩ (h6.picks .nil) .nil
  ·
   refine op (OpS.pass rfl rfl rfl ?_)
   refine op (OpS.pass rfl rfl rfl ?_)
   refine op (OpS.pass rfl rfl rfl ?_)
   refine op (OpS.pass rfl rfl rfl ?_)
   refine op (OpS.pick rfl rfl rfl rfl ?_)
   refine op (OpS.as rfl rfl rfl ?_)
   refine RunL.nil ?_
   refine Run.slim [(2, .bool false)] ⟨rfl, trivial⟩ ?_
   refine Run.retP rfl (.tmp rfl .nil) ?_
   cases hF
   exact Post.mk' ⟨rfl, rfl, rfl, rfl⟩ (h5.picks .nil) .nil
 ·
  refine op (OpS.pass rfl rfl rfl ?_)
  refine op (OpS.pass rfl rfl rfl ?_)
  refine op (OpS.pass rfl rfl rfl ?_)
  refine op (OpS.pick rfl rfl rfl rfl ?_)
  refine op (OpS.mv rfl rfl rfl ?_)
  refine op (OpS.pass rfl rfl rfl ?_)
  refine op (OpS.pass rfl rfl rfl ?_)
  refine op (OpS.pass rfl rfl rfl ?_)
  refine op (OpS.pass rfl rfl rfl ?_)
  refine op (OpS.pick rfl rfl rfl rfl ?_)
  refine op (OpS.as rfl rfl rfl ?_)
  refine RunL.nil ?_
  refine Run.slim [(2, .bool false)] ⟨rfl, trivial⟩ ?_
  refine Run.retP rfl (.tmp rfl .nil) ?_
  cases hF
  exact Post.mk' ⟨rfl, rfl, rfl, rfl⟩ (h3.picks .nil) .nil
theorem ref01_Copy_ok {fuel : Nat} {a0 : List Int} {y : (List Int)} (hF : ref01_Copy fuel a0 = some y) {w : World} {v0 : Value} :
  Spec Try.prog 45 [v0].toArray w [(false, .val (Rep.slice (Rep.int .u8)) v0 a0)] [] (fun v Γr Ωr Ωo => ∃ u0 : Value, v = u0 ∧ Γr = [] ∧ Ωr = [(true, (.slice 5 (Rep.int .u8) u0 y))] ∧ Ωo = []) := by
 refine Spec.of (L := [(0, v0)]) Try.func45 rfl ⟨rfl, trivial⟩ rfl (fun e h => ?_)
 unfold ref01_Copy at hF
 refine Run.seq ?_
 refine Run.reg ?_
 refine op (OpS.as rfl rfl rfl ?_)
 refine RunL.nil ?_
 refine Run.slim [(0, v0)] ⟨rfl, trivial⟩ ?_
 refine Run.seq ?_
 refine Run.reg ?_
 refine op (OpS.as rfl rfl rfl ?_)
 refine RunL.nil ?_
 refine Run.seq ?_
 refine Run.seq ?_
 refine Run.reg ?_
 refine op (OpS.as rfl rfl rfl ?_)
 refine RunL.nil ?_
 refine Run.block ?_
 have h1 := St.nil 5 (Rep.int .u8) h
 refine Run.slim [(0, v0), (3, (.slice none 0 0)), (4, .int .i64 0)] ⟨rfl, rfl, rfl, trivial⟩ ?_
 refine Run.loopP (σ := (Int × (List Int))) (fun s_ L_ w_ => ∃ u0_ : Value, L_ = [(0, v0), (3, u0_), (4, .int .i64 s_.1)] ∧ St e w_ [(false, .val (Rep.slice (Rep.int .u8)) v0 a0)] [(true, .slice 5 (Rep.int .u8) u0_ s_.2)]) hF ⟨(.slice none 0 0), rfl, (h1.facts (.atm .z .nil)).picks (.cons .z .nil)⟩ (fun k1 hk1 s1 _ w1 hI hF => ?_)
 obtain ⟨u1, rfl, h2⟩ := hI
 refine Run.seq ?_
 refine Run.seq ?_
 refine Run.reg ?_
 refine op (OpS.mv rfl rfl rfl ?_)
 refine op (OpS.mv rfl rfl rfl ?_)
 refine op (OpS.len h2 Try.underlying34 rfl rfl rfl (V.at .z) ?_)
 refine op (OpS.bin rfl rfl rfl rfl rfl ?_)
 refine RunL.nil ?_
 refine Run.slim [(8, .bool (decide (s1.1 < (a0.length : Int)))), (0, v0), (3, u1), (4, .int .i64 s1.1)] ⟨rfl, rfl, rfl, rfl, trivial⟩ ?_
 refine Run.ite rfl hF (fun e1 hF => ?_) (fun e1 hF => ?_)
 ·
  refine Run.skip ?_
  refine Run.seq ?_
  refine Run.block ?_
  refine Run.reg ?_
  refine op (OpS.mv rfl rfl rfl ?_)
  refine op (OpS.mv rfl rfl rfl ?_)
  refine op (OpS.mv rfl rfl rfl ?_)
  obtain ⟨x1, e2, hF⟩ := bindP_use hF
  refine op (OpS.iptr h2 Try.underlying34 ty5 rfl rfl rfl rfl (V.at .z) e2 (fun u2 h3 => ?_))
  refine op (OpS.loadi h3 ty5 rfl rfl rfl .z ?_)
  refine op (OpS.lit (r := (Rep.int .u8)) (f := true) h3 Try.underlying34 ti5 rfl rfl rfl rfl rfl (.cons rfl V.int .nil) rfl rfl (fun u3 w2 h4 => ?_))
  obtain ⟨x2, e3, hF⟩ := bindP_use hF
  refine op (OpS.app (f' := true) h4 .z Try.underlying34 ti5 rfl rfl rfl rfl rfl rfl rfl (V.at .z) (.inr Pure.int) e3 (fun u4 w3 h5 => ?_))
  refine op (OpS.as rfl rfl rfl ?_)
  refine RunL.nil ?_
  refine Run.slim [(3, u4), (0, v0), (4, .int .i64 s1.1)] ⟨rfl, rfl, rfl, trivial⟩ ?_
  refine Run.endBlock ?_
  refine Run.reg ?_
  refine op (OpS.mv rfl rfl rfl ?_)
  refine op (OpS.bin rfl rfl rfl rfl rfl ?_)
  refine op (OpS.as rfl rfl rfl ?_)
  obtain ⟨x3, e4, hF⟩ := letP_use hF
  refine RunL.name e4 ?_
  refine RunL.nil ?_
  refine Run.slim [(4, .int .i64 x3), (3, u4), (0, v0)] ⟨rfl, rfl, rfl, trivial⟩ ?_
  refine Run.slim [(0, v0), (3, u4), (4, .int .i64 x3)] ⟨rfl, rfl, rfl, trivial⟩ ?_
  exact hk1 (x3, x2) _ _ ⟨u4, rfl, (h5.facts (.atm (.s (.s .z)) .nil)).picks (.cons .z .nil)⟩ hF
 ·
  refine Run.exit rfl ?_
  refine Run.seq ?_
  refine Run.reg ?_
  refine op (OpS.mv rfl rfl rfl ?_)
  refine op (OpS.as rfl rfl rfl ?_)
  refine RunL.nil ?_
  refine Run.slim [(2, u1)] ⟨rfl, trivial⟩ ?_
  refine Run.retP rfl (.tmp rfl .nil) ?_
  cases hF
  exact Post.mk' ⟨u1, rfl, rfl, rfl, rfl⟩ (h2.picks (.cons .z .nil)) .nil
theorem ref01_CRC8_ok {fuel : Nat} {a0 : List Int} {y : Int} (hF : ref01_CRC8 fuel a0 = some y) {w : World} {v0 : Value} :
  Spec Try.prog 61 [v0].toArray w [(false, .val (Rep.slice (Rep.int .u8)) v0 a0)] [] (fun v Γr Ωr Ωo => v = .int .u8 y ∧ Γr = [] ∧ Ωr = [] ∧ Ωo = []) := by
 refine Spec.of (L := [(0, v0)]) Try.func61 rfl ⟨rfl, trivial⟩ rfl (fun e h => ?_)
 unfold ref01_CRC8 at hF
 refine Run.seq ?_
 refine Run.reg ?_
 refine op (OpS.as rfl rfl rfl ?_)
 refine RunL.nil ?_
 refine Run.slim [(0, v0)] ⟨rfl, trivial⟩ ?_
 refine Run.seq ?_
 refine Run.reg ?_
 refine op (OpS.as rfl rfl rfl ?_)
 refine RunL.nil ?_
 refine Run.seq ?_
 refine Run.seq ?_
 refine Run.reg ?_
 refine op (OpS.as rfl rfl rfl ?_)
 refine RunL.nil ?_
 refine Run.block ?_
 refine Run.slim [(0, v0), (3, .int .i64 0), (4, .int .i64 0)] ⟨rfl, rfl, rfl, trivial⟩ ?_
 refine Run.loopP (σ := (Int × Int)) (fun s_ L_ w_ => L_ = [(0, v0), (3, .int .i64 s_.1), (4, .int .i64 s_.2)] ∧ St e w_ [(false, .val (Rep.slice (Rep.int .u8)) v0 a0)] []) hF ⟨rfl, (h.facts (.atm .z .nil)).picks .nil⟩ (fun k1 hk1 s1 _ w1 hI hF => ?_)
 obtain ⟨rfl, h1⟩ := hI
 refine Run.seq ?_
 refine Run.seq ?_
 refine Run.reg ?_
 refine op (OpS.mv rfl rfl rfl ?_)
 refine op (OpS.mv rfl rfl rfl ?_)
 refine op (OpS.len h1 Try.underlying34 rfl rfl rfl (V.at .z) ?_)
 refine op (OpS.bin rfl rfl rfl rfl rfl ?_)
 refine RunL.nil ?_
 refine Run.slim [(9, .bool (decide (s1.2 < (a0.length : Int)))), (0, v0), (3, .int .i64 s1.1), (4, .int .i64 s1.2)] ⟨rfl, rfl, rfl, rfl, trivial⟩ ?_
 refine Run.ite rfl hF (fun e1 hF => ?_) (fun e1 hF => ?_)
 ·
  refine Run.skip ?_
  refine Run.seq ?_
  refine Run.block ?_
  refine Run.seq ?_
  refine Run.reg ?_
  refine op (OpS.mv rfl rfl rfl ?_)
  refine op (OpS.mv rfl rfl rfl ?_)
  refine op (OpS.mv rfl rfl rfl ?_)
  obtain ⟨x1, e2, hF⟩ := bindP_use hF
  refine op (OpS.iptr h1 Try.underlying34 ty5 rfl rfl rfl rfl (V.at .z) e2 (fun u1 h2 => ?_))
  refine op (OpS.loadi h2 ty5 rfl rfl rfl .z ?_)
  refine op (OpS.conv Try.underlying5 Try.underlying3 rfl rfl rfl ?_)
  refine op (OpS.bin rfl rfl rfl rfl rfl ?_)
  refine op (OpS.as rfl rfl rfl ?_)
  obtain ⟨x2, e3, hF⟩ := letP_use hF
  refine RunL.name e3 ?_
  refine RunL.nil ?_
  refine Run.slim [(3, .int .i64 x2), (0, v0), (4, .int .i64 s1.2)] ⟨rfl, rfl, rfl, trivial⟩ ?_
  refine Run.seq ?_
  refine Run.reg ?_
  refine op (OpS.as rfl rfl rfl ?_)
  refine RunL.nil ?_
  refine Run.block ?_
  refine Run.slim [(0, v0), (3, .int .i64 x2), (4, .int .i64 s1.2), (5, .int .i64 0)] ⟨rfl, rfl, rfl, rfl, trivial⟩ ?_
  refine Run.loopP (σ := (Int × Int)) (fun s_ L_ w_ => L_ = [(0, v0), (3, .int .i64 s_.1), (4, .int .i64 s1.2), (5, .int .i64 s_.2)] ∧ St e w_ [(false, .val (Rep.slice (Rep.int .u8)) v0 a0)] []) hF ⟨rfl, (h2.facts (.atm (.s .z) .nil)).picks .nil⟩ (fun k2 hk2 s2 _ w2 hI hF => ?_)
  obtain ⟨rfl, h3⟩ := hI
  refine Run.seq ?_
  refine Run.seq ?_
  refine Run.reg ?_
  refine op (OpS.mv rfl rfl rfl ?_)
  refine op (OpS.bin rfl rfl rfl rfl rfl ?_)
  refine RunL.nil ?_
  refine Run.slim [(20, .bool (decide (s2.2 < 8))), (0, v0), (3, .int .i64 s2.1), (4, .int .i64 s1.2), (5, .int .i64 s2.2)] ⟨rfl, rfl, rfl, rfl, rfl, trivial⟩ ?_
  refine Run.ite rfl hF (fun e4 hF => ?_) (fun e4 hF => ?_)
  ·
   refine Run.skip ?_
   refine Run.seq ?_
   refine Run.block ?_
   refine Run.seq ?_
   refine Run.reg ?_
   refine op (OpS.mv rfl rfl rfl ?_)
   refine op (OpS.bin rfl rfl rfl rfl rfl ?_)
   refine op (OpS.as rfl rfl rfl ?_)
   obtain ⟨x3, e5, hF⟩ := letP_use hF
   refine RunL.name e5 ?_
   refine RunL.nil ?_
   refine Run.slim [(3, .int .i64 x3), (0, v0), (4, .int .i64 s1.2), (5, .int .i64 s2.2)] ⟨rfl, rfl, rfl, rfl, trivial⟩ ?_
   refine Run.seq ?_
   refine Run.reg ?_
   refine op (OpS.mv rfl rfl rfl ?_)
   refine op (OpS.bin rfl rfl rfl rfl rfl ?_)
   refine RunL.nil ?_
   refine Run.slim [(26, .bool (decide (x3 ≥ 256))), (3, .int .i64 x3), (0, v0), (4, .int .i64 s1.2), (5, .int .i64 s2.2)] ⟨rfl, rfl, rfl, rfl, rfl, trivial⟩ ?_
   refine Run.ite rfl hF (fun e6 hF => ?_) (fun e6 hF => ?_)
   ·
    refine Run.reg ?_
    refine op (OpS.mv rfl rfl rfl ?_)
    refine op (OpS.bin rfl rfl rfl rfl rfl ?_)
    refine op (OpS.bin rfl rfl rfl rfl rfl ?_)
    refine op (OpS.as rfl rfl rfl ?_)
    obtain ⟨x4, e7, hF⟩ := letP_use hF
    refine RunL.name e7 ?_
    refine RunL.nil ?_
    refine Run.slim [(3, .int .i64 x4), (0, v0), (4, .int .i64 s1.2), (5, .int .i64 s2.2)] ⟨rfl, rfl, rfl, rfl, trivial⟩ ?_
    refine Run.endBlock ?_
    refine Run.reg ?_
    refine op (OpS.mv rfl rfl rfl ?_)
    refine op (OpS.bin rfl rfl rfl rfl rfl ?_)
    refine op (OpS.as rfl rfl rfl ?_)
    obtain ⟨x5, e8, hF⟩ := letP_use hF
    refine RunL.name e8 ?_
    refine RunL.nil ?_
    refine Run.slim [(5, .int .i64 x5), (3, .int .i64 x4), (0, v0), (4, .int .i64 s1.2)] ⟨rfl, rfl, rfl, rfl, trivial⟩ ?_
    refine Run.slim [(0, v0), (3, .int .i64 x4), (4, .int .i64 s1.2), (5, .int .i64 x5)] ⟨rfl, rfl, rfl, rfl, trivial⟩ ?_
    exact hk2 (x4, x5) _ _ ⟨rfl, (h3.facts (.atm .z .nil)).picks .nil⟩ hF
   ·
    refine Run.skip ?_
    refine Run.endBlock ?_
    refine Run.reg ?_
    refine op (OpS.mv rfl rfl rfl ?_)
    refine op (OpS.bin rfl rfl rfl rfl rfl ?_)
    refine op (OpS.as rfl rfl rfl ?_)
    obtain ⟨x6, e9, hF⟩ := letP_use hF
    refine RunL.name e9 ?_
    refine RunL.nil ?_
    refine Run.slim [(5, .int .i64 x6), (3, .int .i64 x3), (0, v0), (4, .int .i64 s1.2)] ⟨rfl, rfl, rfl, rfl, trivial⟩ ?_
    refine Run.slim [(0, v0), (3, .int .i64 x3), (4, .int .i64 s1.2), (5, .int .i64 x6)] ⟨rfl, rfl, rfl, rfl, trivial⟩ ?_
    exact hk2 (x3, x6) _ _ ⟨rfl, (h3.facts (.atm .z .nil)).picks .nil⟩ hF
  ·
   refine Run.exit rfl ?_
   refine Run.endBlock ?_
   refine Run.reg ?_
   refine op (OpS.mv rfl rfl rfl ?_)
   refine op (OpS.bin rfl rfl rfl rfl rfl ?_)
   refine op (OpS.as rfl rfl rfl ?_)
   obtain ⟨x7, e10, hF⟩ := letP_use hF
   refine RunL.name e10 ?_
   refine RunL.nil ?_
   refine Run.slim [(4, .int .i64 x7), (0, v0), (3, .int .i64 s2.1)] ⟨rfl, rfl, rfl, trivial⟩ ?_
   refine Run.slim [(0, v0), (3, .int .i64 s2.1), (4, .int .i64 x7)] ⟨rfl, rfl, rfl, trivial⟩ ?_
   exact hk1 (s2.1, x7) _ _ ⟨rfl, (h3.facts (.atm .z .nil)).picks .nil⟩ hF
 ·
  refine Run.exit rfl ?_
  refine Run.seq ?_
  refine Run.reg ?_
  refine op (OpS.mv rfl rfl rfl ?_)
  refine op (OpS.conv Try.underlying3 Try.underlying5 rfl rfl rfl ?_)
  refine op (OpS.as rfl rfl rfl ?_)
  refine RunL.nil ?_
  refine Run.slim [(2, .int .u8 (IntKind.u8.wrap s1.1))] ⟨rfl, trivial⟩ ?_
  refine Run.retP rfl (.tmp rfl .nil) ?_
  cases hF
  exact Post.mk' ⟨rfl, rfl, rfl, rfl⟩ (h1.picks .nil) .nil
theorem ref01_SealCRC8_ok {fuel : Nat} {a0 : List Int} {y : (List Int)} (hF : ref01_SealCRC8 fuel a0 = some y) {w : World} {v0 : Value} :
  Spec Try.prog 56 [v0].toArray w [(false, .val (Rep.slice (Rep.int .u8)) v0 a0)] [] (fun v Γr Ωr Ωo => ∃ u0 : Value, v = u0 ∧ Γr = [] ∧ Ωr = [(true, (.slice 5 (Rep.int .u8) u0 y))] ∧ Ωo = []) := by
 refine Spec.of (L := [(0, v0)]) Try.func56 rfl ⟨rfl, trivial⟩ rfl (fun e h => ?_)
 unfold ref01_SealCRC8 at hF
 refine Run.seq ?_
 refine Run.reg ?_
 refine op (OpS.as rfl rfl rfl ?_)
 refine RunL.nil ?_
 refine Run.slim [(0, v0)] ⟨rfl, trivial⟩ ?_
 refine Run.seq ?_
 refine Run.reg ?_
 refine op (OpS.mv rfl rfl rfl ?_)
 obtain ⟨y1, e1, hF⟩ := bindP_use hF
 refine op (OpS.callP h Try.func45 rfl rfl rfl rfl (vs := [v0]) rfl (ref01_Copy_ok e1) (.cons (f := false) (V.at .z) .nil) ?_)
 rintro u1 w1 _ _ _ ⟨_, rfl, rfl, rfl, rfl⟩ h1
 have h2 := h1 rfl rfl
 simp only [List.cons_append, List.nil_append] at h2
 refine op (OpS.mv rfl rfl rfl ?_)
 obtain ⟨y2, e2, hF⟩ := bindP_use hF
 refine op (OpS.callP h2 Try.func61 rfl rfl rfl rfl (vs := [v0]) rfl (ref01_CRC8_ok e2) (.cons (f := false) (V.at .z) .nil) ?_)
 rintro _ w2 _ _ _ ⟨rfl, rfl, rfl, rfl⟩ h3
 have h4 := h3 rfl rfl
 simp only [List.cons_append, List.nil_append] at h4
 refine op (OpS.lit (r := (Rep.int .u8)) (f := true) h4 Try.underlying34 ti5 rfl rfl rfl rfl rfl (.cons rfl V.int .nil) rfl rfl (fun u2 w3 h5 => ?_))
 obtain ⟨x1, e3, hF⟩ := bindP_use hF
 refine op (OpS.app (f' := true) h5 .z Try.underlying34 ti5 rfl rfl rfl rfl rfl rfl rfl (V.at .z) (.inr Pure.int) e3 (fun u3 w4 h6 => ?_))
 refine op (OpS.as rfl rfl rfl ?_)
 refine RunL.nil ?_
 refine Run.slim [(2, u3)] ⟨rfl, trivial⟩ ?_
 refine Run.retP rfl (.tmp rfl .nil) ?_
 cases hF
 exact Post.mk' ⟨u3, rfl, rfl, rfl, rfl⟩ (h6.picks (.cons .z .nil)) .nil
theorem ref20_Encode_ok {fuel : Nat} {a0 : Frame_} {y : (List Int) × Int} (hF : ref20_Encode fuel a0 = some y) {w : World} {v0 : Value} :
  Spec Try.prog 36 [v0].toArray w [(false, .val Frame_.rep v0 a0)] [] (fun v Γr Ωr Ωo => ∃ u0 : Value, v = .tuple #[u0, .int .i64 y.2] ∧ Γr = [] ∧ Ωr = [(true, (.slice 5 (Rep.int .u8) u0 y.1))] ∧ Ωo = []) := by
 refine Spec.of (L := [(0, v0)]) Try.func36 rfl ⟨rfl, trivial⟩ rfl (fun e h => ?_)
 unfold ref20_Encode at hF
 refine Run.seq ?_
 refine Run.reg ?_
 refine op (OpS.boxF h rfl rfl rfl (V.at .z) (fun u1 w1 h1 => ?_))
 refine op (OpS.as rfl rfl rfl ?_)
 refine op (OpS.as rfl rfl rfl ?_)
 refine RunL.nil ?_
 refine Run.slim [(1, u1)] ⟨rfl, trivial⟩ ?_
 refine Run.seq ?_
 refine Run.seq ?_
 refine Run.reg ?_
 refine op (OpS.loadB h1 .z PA.z Get.id ty36 rfl rfl rfl (fun u2 h2 => ?_))
 obtain ⟨y1, e1, hF⟩ := bindP_use hF
 refine op (OpS.callP h2 Try.func55 rfl rfl rfl rfl (vs := [u2]) rfl (ref20_Valid_ok e1) (.cons (f := false) (V.at .z) .nil) ?_)
 rintro _ w2 _ _ _ ⟨rfl, rfl, rfl, rfl⟩ h3
 have h4 := h3 rfl rfl
 simp only [List.cons_append, List.nil_append] at h4
 refine op (OpS.not rfl rfl rfl ?_)
 refine RunL.nil ?_
 refine Run.slim [(7, .bool (!y1)), (1, u1)] ⟨rfl, rfl, trivial⟩ ?_
 refine Run.ite rfl hF (fun e2 hF => ?_) (fun e2 hF => ?_)
 ·
  refine Run.seq ?_
  refine Run.reg ?_
  refine op (OpS.as rfl rfl rfl ?_)
  refine op (OpS.as rfl rfl rfl ?_)
  refine RunL.nil ?_
  refine Run.slim [(3, .int .i64 1), (2, .slice none 0 0)] ⟨rfl, rfl, trivial⟩ ?_
  have h5 := St.nil 5 (Rep.int .u8) h4
  refine Run.retP rfl (.tmp rfl (.tmp rfl .nil)) ?_
  cases hF
  exact Post.mk' ⟨(.slice none 0 0), rfl, rfl, rfl, rfl⟩ (h5.picks (.cons .z .nil)) .nil
 ·
  refine Run.skip ?_
  refine Run.seq ?_
  refine Run.reg ?_
  refine op (OpS.fbox (o3 := 0) h4 .z PA.z fa36_0 rfl rfl rfl rfl ?_)
  refine op (OpS.loadBi h4 .z PA.a (Get.fld Frame_.f0) ty5 rfl rfl rfl ?_)
  refine op (OpS.bin rfl rfl rfl rfl rfl ?_)
  refine op (OpS.fbox (o3 := 2) h4 .z PA.z fa36_2 rfl rfl rfl rfl ?_)
  refine op (OpS.loadB h4 .z PA.a (Get.fld Frame_.f2) ty34 rfl rfl rfl (fun u3 h6 => ?_))
  refine op (OpS.len h6 Try.underlying34 rfl rfl rfl (V.at .z) ?_)
  refine op (OpS.bin rfl rfl rfl rfl rfl ?_)
  refine op (OpS.conv Try.underlying3 Try.underlying5 rfl rfl rfl ?_)
  refine op (OpS.fbox (o3 := 1) h6 .z PA.z fa36_1 rfl rfl rfl rfl ?_)
  refine op (OpS.loadBi h6 .z PA.a (Get.fld Frame_.f1) ty5 rfl rfl rfl ?_)
  refine op (OpS.bin rfl rfl rfl rfl rfl ?_)
  refine op (OpS.bin rfl rfl rfl rfl rfl ?_)
  refine op (OpS.litO (r := (Rep.int .u8)) (f := true) h6 Try.underlying34 ti5 rfl rfl rfl rfl rfl (.cons rfl V.int (.cons rfl V.int (.cons rfl V.int (.cons rfl V.int .nil)))) rfl rfl (fun u4 w3 h7 => ?_))
  refine op (OpS.as rfl rfl rfl ?_)
  refine RunL.nil ?_
  refine Run.slim [(4, u4), (1, u1)] ⟨rfl, rfl, trivial⟩ ?_
  refine Run.seq ?_
  refine Run.reg ?_
  refine op (OpS.mv rfl rfl rfl ?_)
  refine op (OpS.fbox (o3 := 2) h7 (.s .z) PA.z fa36_2 rfl rfl rfl rfl ?_)
  refine op (OpS.loadB h7 (.s .z) PA.a (Get.fld Frame_.f2) ty34 rfl rfl rfl (fun u5 h8 => ?_))
  obtain ⟨x1, e3, hF⟩ := bindP_use hF
  refine op (OpS.app (f' := false) h8 .z Try.underlying34 ti5 rfl rfl rfl rfl rfl rfl rfl (V.at .z) (.inr Pure.int) e3 (fun u6 w4 h9 => ?_))
  obtain ⟨y2, e4, hF⟩ := bindP_use hF
  refine op (OpS.callP h9 Try.func56 rfl rfl rfl rfl (vs := [u6]) rfl (ref01_SealCRC8_ok e4) (.own .z .nil) ?_)
  rintro u7 w5 _ _ _ ⟨_, rfl, rfl, rfl, rfl⟩ h10
  have h11 := h10 rfl rfl
  simp only [List.cons_append, List.nil_append] at h11
  refine op (OpS.as rfl rfl rfl ?_)
  refine op (OpS.as rfl rfl rfl ?_)
  refine RunL.nil ?_
  refine Run.slim [(3, .int .i64 0), (2, u7)] ⟨rfl, rfl, trivial⟩ ?_
  refine Run.retP rfl (.tmp rfl (.tmp rfl .nil)) ?_
  cases hF
  exact Post.mk' ⟨u7, rfl, rfl, rfl, rfl⟩ (h11.picks (.cons .z .nil)) .nil
set_option maxHeartbeats 8000000 in
theorem ref21_Bus_Submit_ok {fuel : Nat} {a0 : ref21_Bus} {a1 : Int} {a2 : Frame_} {y : Int × ref21_Bus} (hF : ref21_Bus_Submit fuel a0 a1 a2 = some y) {w : World} {v0 v0_0 v2 : Value} :
  Spec Try.prog 17 [v0, .int .i64 a1, v2].toArray w [(false, .val Frame_.rep v2 a2)] [(false, .box 79 (Rep.iso (fun s : ref21_Bus => (s.Masters, ())) (Rep.prod (Rep.raw (α := List ref21_Master) v0_0) Rep.unit)) v0 a0), (false, .oval (oslice 87 3 (fun _ => ref21_Master.orep)) v0_0 a0.Masters)] (fun v Γr Ωr Ωo => ∃ w0_0 : Value, v = .int .i64 y.1 ∧ Γr = [] ∧ Ωr = [] ∧ Ωo = [(false, .box 79 (Rep.iso (fun s : ref21_Bus => (s.Masters, ())) (Rep.prod (Rep.raw (α := List ref21_Master) w0_0) Rep.unit)) v0 y.2), (false, (.oval (oslice 87 3 (fun _ => ref21_Master.orep)) w0_0 y.2.Masters))]) := by
 refine Spec.of (L := [(0, v0), (1, .int .i64 a1), (2, v2)]) Try.func17 rfl ⟨rfl, rfl, rfl, trivial⟩ rfl (fun e h => ?_)
 unfold ref21_Bus_Submit at hF
 refine Run.seq ?_
 refine Run.reg ?_
 refine op (OpS.boxF h rfl rfl rfl (V.at .z) (fun u1 w1 h1 => ?_))
 refine op (OpS.as rfl rfl rfl ?_)
 refine RunL.nil ?_
 refine Run.slim [(5, u1), (0, v0), (1, .int .i64 a1)] ⟨rfl, rfl, rfl, trivial⟩ ?_
 refine Run.seq ?_
 refine Run.seq ?_
 refine Run.reg ?_
 refine op (OpS.mv rfl rfl rfl ?_)
 refine op (OpS.bin rfl rfl rfl rfl rfl ?_)
 refine op (OpS.mv rfl rfl rfl ?_)
 refine RunL.join (σ := Bool) (fun s_ L_ w_ => L_ = [(0, v0), (1, .int .i64 a1), (5, u1), (19, .bool s_)] ∧ St e w_ [] [(false, .box 79 (Rep.iso (fun s : ref21_Bus => (s.Masters, ())) (Rep.prod (Rep.raw (α := List ref21_Master) v0_0) Rep.unit)) v0 a0), (false, .box 36 Frame_.rep u1 a2), (false, .oval (oslice 87 3 (fun _ => ref21_Master.orep)) v0_0 a0.Masters)]) hF (fun s1 _ w2 hI hF => ?_) (fun j1 hj1 hF => ?_)
 ·
  obtain ⟨rfl, h2⟩ := hI
  refine Run.ite rfl hF (fun e1 hF => ?_) (fun e1 hF => ?_)
  ·
   refine Run.seq ?_
   refine Run.reg ?_
   refine op (OpS.as rfl rfl rfl ?_)
   refine RunL.nil ?_
   refine Run.slim [(6, .int .i64 2)] ⟨rfl, trivial⟩ ?_
   refine Run.retP rfl (.tmp rfl .nil) ?_
   cases hF
   exact Post.mk' ⟨v0_0, rfl, rfl, rfl, rfl⟩ (h2.picks (.cons .z (.cons (.s .z) .nil))) .nil
  ·
   refine Run.skip ?_
   refine Run.seq ?_
   refine Run.reg ?_
   refine op (OpS.loadB h2 (.s .z) PA.z Get.id ty36 rfl rfl rfl (fun u2 h3 => ?_))
   obtain ⟨y1, e2, hF⟩ := bindP_use hF
   refine op (OpS.callP h3 Try.func36 rfl rfl rfl rfl (vs := [u2]) rfl (ref20_Encode_ok e2) (.cons (f := false) (V.at .z) .nil) ?_)
   rintro _ w3 _ _ _ ⟨u3, rfl, rfl, rfl, rfl⟩ h4
   have h5 := h4 rfl rfl
   simp only [List.cons_append, List.nil_append] at h5
   refine op (OpS.mv rfl rfl rfl ?_)
   refine op (OpS.ext rfl rfl rfl rfl ?_)
   refine op (OpS.ext rfl rfl rfl rfl ?_)
   refine op (OpS.as rfl rfl rfl ?_)
   have h6 := (h5.pick .z).freeze
   refine op (OpS.as rfl rfl rfl ?_)
   refine RunL.nil ?_
   refine Run.slim [(8, .int .i64 y1.2), (7, u3), (0, v0), (1, .int .i64 a1)] ⟨rfl, rfl, rfl, rfl, trivial⟩ ?_
   refine Run.seq ?_
   refine Run.seq ?_
   refine Run.reg ?_
   refine op (OpS.mv rfl rfl rfl ?_)
   refine op (OpS.bin rfl rfl rfl rfl rfl ?_)
   refine RunL.nil ?_
   refine Run.slim [(26, .bool (y1.2 != 0)), (8, .int .i64 y1.2), (7, u3), (0, v0), (1, .int .i64 a1)] ⟨rfl, rfl, rfl, rfl, rfl, trivial⟩ ?_
   refine Run.ite rfl hF (fun e3 hF => ?_) (fun e3 hF => ?_)
   ·
    refine Run.seq ?_
    refine Run.reg ?_
    refine op (OpS.mv rfl rfl rfl ?_)
    refine op (OpS.as rfl rfl rfl ?_)
    refine RunL.nil ?_
    refine Run.slim [(6, .int .i64 y1.2)] ⟨rfl, trivial⟩ ?_
    refine Run.retP rfl (.tmp rfl .nil) ?_
    cases hF
    exact Post.mk' ⟨v0_0, rfl, rfl, rfl, rfl⟩ (h6.picks (.cons .z (.cons (.s .z) .nil))) .nil
   ·
    refine Run.skip ?_
    refine Run.seq ?_
    refine Run.seq ?_
    refine Run.reg ?_
    refine op (OpS.mv rfl rfl rfl ?_)
    refine op (OpS.nchk h6 .z rfl rfl rfl ?_)
    refine op (OpS.fbox (o3 := 0) h6 .z PA.z fa79_0 rfl rfl rfl rfl ?_)
    refine op (OpS.loadR h6 .z PA.a (GetS.ok (GetS.iso _ (GetS.here GetS.id))) ty77 rfl rfl rfl rfl rfl ?_)
    refine op (OpS.mv rfl rfl rfl ?_)
    obtain ⟨x1, e4, hF⟩ := bindP_use hF
    refine op (OpS.iownD h6 (.s (.s .z)) Try.underlying77 sz87 rfl rfl rfl rfl e4 ?_)
    refine op (OpS.fownD h6 (.s (.s .z)) (idx_ne e4) PA.a fa87_0 rfl rfl rfl ?_)
    refine op (OpS.loadS (fr := Rep.hollow) h6 (.s (.s .z)) ref21_Master.wk rfl (idx_ne e4) PA.a (Get.comp (Get.arr e4) (GetS.ok (GetS.iso _ (GetS.here GetS.id)))) (Ty.like ty59 (by rfl) (by rfl)) rfl rfl rfl (fun u4 h7 => ?_))
    refine op (OpS.lenH h7 Try.underlying59 rfl rfl rfl (V.at .z) ?_)
    refine op (OpS.bin rfl rfl rfl rfl rfl ?_)
    refine RunL.nil ?_
    refine Run.slim [(37, .bool (decide ((x1.Queue.length : Int) ≥ 16))), (7, u3), (0, v0), (1, .int .i64 a1)] ⟨rfl, rfl, rfl, rfl, trivial⟩ ?_
    refine Run.ite rfl hF (fun e5 hF => ?_) (fun e5 hF => ?_)
    ·
     refine Run.seq ?_
     refine Run.reg ?_
     refine op (OpS.as rfl rfl rfl ?_)
     refine RunL.nil ?_
     refine Run.slim [(6, .int .i64 9)] ⟨rfl, trivial⟩ ?_
     refine Run.retP rfl (.tmp rfl .nil) ?_
     cases hF
     exact Post.mk' ⟨v0_0, rfl, rfl, rfl, rfl⟩ (h7.picks (.cons .z (.cons (.s .z) .nil))) .nil
    ·
     refine Run.skip ?_
     refine Run.seq ?_
     have h8 := h7.picks (.cons .z (.cons (.s .z) (.cons .z .nil)))
     obtain ⟨x2, e6, hF⟩ := bindP_use hF
     obtain ⟨x3, e7, hF⟩ := bindP_use hF
     refine Run.drawV (Ωs := [(false, .box 36 Frame_.rep u1 a2)]) [⟨some 38, some (v0), fun _ => [], fun ds_ u_ => [], [], [], none⟩, ⟨some 39, some (v0), fun _ => [], fun ds_ u_ => [], [], [(0, [])], none⟩, ⟨some 40, some ((padd v0 0)), fun _ => [], fun ds_ u_ => [], [], [(0, [])], none⟩, ⟨some 41, some (v0_0), fun _ => [], fun ds_ u_ => [], [], [(0, [])], none⟩, ⟨some 42, some (.int .i64 a1), fun _ => [], fun ds_ u_ => [], [], [], none⟩, ⟨some 43, some (v0), fun _ => [], fun ds_ u_ => [], [], [], none⟩, ⟨some 44, some (v0), fun _ => [], fun ds_ u_ => [], [], [(0, [])], none⟩, ⟨some 45, some ((padd v0 0)), fun _ => [], fun ds_ u_ => [], [], [(0, [])], none⟩, ⟨some 46, some (v0_0), fun _ => [], fun ds_ u_ => [], [], [(0, [])], none⟩, ⟨some 47, some (.int .i64 a1), fun _ => [], fun ds_ u_ => [], [], [], none⟩, ⟨some 48, some ((padd (sp v0_0) ((a1 : Int).toNat * 3))), fun _ => [], fun ds_ u_ => [], [], [(1, [12, 11, 10])], none⟩, ⟨some 49, some ((padd (sp v0_0) ((a1 : Int).toNat * 3 + 0))), fun _ => [], fun ds_ u_ => [], [], [(1, [12, 11])], none⟩, ⟨some 50, none, fun u_ => [], fun ds_ u_ => [(false, .oval (oslice 87 3 (at' (fun _ => ref21_Master.orep) (a1).toNat (ref21_Master.orepW (raw u_)))) v0_0 a0.Masters), (false, .oval (oslice 34 1 (fun _ => (sh (Rep.slice (Rep.int .u8))))) u_ x2.Queue)], [1], [], none⟩, ⟨some 51, some (u3), fun _ => [], fun ds_ u_ => [], [], [], none⟩, ⟨some 52, none, fun u_ => [(true, .val (Rep.slice (Rep.slice (Rep.int .u8))) u_ ([y1.1]))], fun ds_ u_ => [], [], [], none⟩, ⟨some 53, none, fun u_ => [], fun ds_ u_ => [(false, .oval (oslice 87 3 (at' (fun _ => ref21_Master.orep) (a1).toNat (ref21_Master.orepW (raw (nth ds_ 0))))) v0_0 a0.Masters), (false, .oval (oslice 34 1 (fun _ => (sh (Rep.slice (Rep.int .u8))))) u_ x3)], [14], [], none⟩] [[], [0], [1], [2], [], [], [5], [6], [7], [], [8, 9], [10], [11], [], [13], [12, 14]] [[(false, .box 79 (Rep.iso (fun s : ref21_Bus => (s.Masters, ())) (Rep.prod (Rep.raw (α := List ref21_Master) v0_0) Rep.unit)) v0 a0)], [(false, .oval (oslice 87 3 (fun _ => ref21_Master.orep)) v0_0 a0.Masters)]] [0, 2, 3, 4, 5, 6, 7, 8, 9, 10, 11, 12, 13, 15, 16, 17] Try_mixed rfl rfl rfl h8 (.cons ?_ (.cons ?_ (.cons ?_ (.cons ?_ (.cons ?_ (.cons ?_ (.cons ?_ (.cons ?_ (.cons ?_ (.cons ?_ (.cons ?_ (.cons ?_ (.cons ?_ (.cons ?_ (.cons ?_ (.cons ?_ .nil)))))))))))))))) (fun q1 w hq1 h => ?_)
     ·intro q1 w Γx Ωx h
      refine OpS.mv rfl rfl rfl ?_
      exact ⟨undef, rfl, trivial, h⟩
     ·intro q1 w Γx Ωx h
      have h : St e w ([(false, .val Rep.hollow u4 x1.Queue), (true, .val (Rep.slice (Rep.int .u8)) u3 y1.1), (false, .val Frame_.rep u2 a2)] ++ Γx) ([(false, .box 79 (Rep.iso (fun s : ref21_Bus => (s.Masters, ())) (Rep.prod (Rep.raw (α := List ref21_Master) v0_0) Rep.unit)) v0 a0), (false, .box 36 Frame_.rep u1 a2)] ++ Ωx) := h
      refine OpS.nchk h .z rfl rfl rfl ?_
      exact ⟨undef, rfl, trivial, h⟩
     ·intro q1 w Γx Ωx h
      have h : St e w ([(false, .val Rep.hollow u4 x1.Queue), (true, .val (Rep.slice (Rep.int .u8)) u3 y1.1), (false, .val Frame_.rep u2 a2)] ++ Γx) ([(false, .box 79 (Rep.iso (fun s : ref21_Bus => (s.Masters, ())) (Rep.prod (Rep.raw (α := List ref21_Master) v0_0) Rep.unit)) v0 a0), (false, .box 36 Frame_.rep u1 a2)] ++ Ωx) := h
      refine OpS.fbox (o3 := 0) h .z PA.z fa79_0 rfl rfl rfl rfl ?_
      exact ⟨undef, rfl, trivial, h⟩
     ·intro q1 w Γx Ωx h
      have h : St e w ([(false, .val Rep.hollow u4 x1.Queue), (true, .val (Rep.slice (Rep.int .u8)) u3 y1.1), (false, .val Frame_.rep u2 a2)] ++ Γx) ([(false, .box 79 (Rep.iso (fun s : ref21_Bus => (s.Masters, ())) (Rep.prod (Rep.raw (α := List ref21_Master) v0_0) Rep.unit)) v0 a0), (false, .box 36 Frame_.rep u1 a2)] ++ Ωx) := h
      refine OpS.loadR h .z PA.a (GetS.ok (GetS.iso _ (GetS.here GetS.id))) ty77 rfl rfl rfl rfl rfl ?_
      exact ⟨undef, rfl, trivial, h⟩
     ·intro q1 w Γx Ωx h
      refine OpS.mv rfl rfl rfl ?_
      exact ⟨undef, rfl, trivial, h⟩
     ·intro q1 w Γx Ωx h
      refine OpS.mv rfl rfl rfl ?_
      exact ⟨undef, rfl, trivial, h⟩
     ·intro q1 w Γx Ωx h
      have h : St e w ([(false, .val Rep.hollow u4 x1.Queue), (true, .val (Rep.slice (Rep.int .u8)) u3 y1.1), (false, .val Frame_.rep u2 a2)] ++ Γx) ([(false, .box 79 (Rep.iso (fun s : ref21_Bus => (s.Masters, ())) (Rep.prod (Rep.raw (α := List ref21_Master) v0_0) Rep.unit)) v0 a0), (false, .box 36 Frame_.rep u1 a2)] ++ Ωx) := h
      refine OpS.nchk h .z rfl rfl rfl ?_
      exact ⟨undef, rfl, trivial, h⟩
     ·intro q1 w Γx Ωx h
      have h : St e w ([(false, .val Rep.hollow u4 x1.Queue), (true, .val (Rep.slice (Rep.int .u8)) u3 y1.1), (false, .val Frame_.rep u2 a2)] ++ Γx) ([(false, .box 79 (Rep.iso (fun s : ref21_Bus => (s.Masters, ())) (Rep.prod (Rep.raw (α := List ref21_Master) v0_0) Rep.unit)) v0 a0), (false, .box 36 Frame_.rep u1 a2)] ++ Ωx) := h
      refine OpS.fbox (o3 := 0) h .z PA.z fa79_0 rfl rfl rfl rfl ?_
      exact ⟨undef, rfl, trivial, h⟩
     ·intro q1 w Γx Ωx h
      have h : St e w ([(false, .val Rep.hollow u4 x1.Queue), (true, .val (Rep.slice (Rep.int .u8)) u3 y1.1), (false, .val Frame_.rep u2 a2)] ++ Γx) ([(false, .box 79 (Rep.iso (fun s : ref21_Bus => (s.Masters, ())) (Rep.prod (Rep.raw (α := List ref21_Master) v0_0) Rep.unit)) v0 a0), (false, .box 36 Frame_.rep u1 a2)] ++ Ωx) := h
      refine OpS.loadR h .z PA.a (GetS.ok (GetS.iso _ (GetS.here GetS.id))) ty77 rfl rfl rfl rfl rfl ?_
      exact ⟨undef, rfl, trivial, h⟩
     ·intro q1 w Γx Ωx h
      refine OpS.mv rfl rfl rfl ?_
      exact ⟨undef, rfl, trivial, h⟩
     ·intro q1 w Γx Ωx h
      have h : St e w ([(false, .val Rep.hollow u4 x1.Queue), (true, .val (Rep.slice (Rep.int .u8)) u3 y1.1), (false, .val Frame_.rep u2 a2)] ++ Γx) ([(false, .oval (oslice 87 3 (fun _ => ref21_Master.orep)) v0_0 a0.Masters), (false, .box 36 Frame_.rep u1 a2)] ++ Ωx) := h
      refine OpS.iownD h .z Try.underlying77 sz87 rfl rfl rfl rfl e6 ?_
      exact ⟨undef, rfl, trivial, h⟩
     ·intro q1 w Γx Ωx h
      have h : St e w ([(false, .val Rep.hollow u4 x1.Queue), (true, .val (Rep.slice (Rep.int .u8)) u3 y1.1), (false, .val Frame_.rep u2 a2)] ++ Γx) ([(false, .oval (oslice 87 3 (fun _ => ref21_Master.orep)) v0_0 a0.Masters), (false, .box 36 Frame_.rep u1 a2)] ++ Ωx) := h
      refine OpS.fownD h .z (idx_ne e6) PA.a fa87_0 rfl rfl rfl ?_
      exact ⟨undef, rfl, trivial, h⟩
     ·intro q1 w Γx Ωx h
      have h : St e w ([(false, .val Rep.hollow u4 x1.Queue), (true, .val (Rep.slice (Rep.int .u8)) u3 y1.1), (false, .val Frame_.rep u2 a2)] ++ Γx) ([(false, .oval (oslice 87 3 (fun _ => ref21_Master.orep)) v0_0 a0.Masters), (false, .box 36 Frame_.rep u1 a2)] ++ Ωx) := h
      refine OpS.openO (F' := fun v_ => at' (fun _ => ref21_Master.orep) (a1).toNat (ref21_Master.orepW (raw v_))) (hn := fun _ => rfl) (hn' := fun _ => at_hn rfl rfl) h .z (idx_ne e6) PA.a (fun v_ => Len.comp (Len.arrOpen e6) (ref21_Master.lenO v_)) rfl ty59 rfl rfl rfl rfl (fun u h12 => ?_)
      exact ⟨u, rfl, trivial, h12⟩
     ·intro q1 w Γx Ωx h
      refine OpS.mv rfl rfl rfl ?_
      exact ⟨undef, rfl, trivial, h⟩
     ·intro q1 w Γx Ωx h
      refine OpS.lit (r := (Rep.slice (Rep.int .u8))) (f := true) h Try.underlying59 ti34 rfl rfl rfl rfl rfl (.cons rfl (V.at (.s .z)) .nil) rfl rfl (fun u w6 h13 => ?_)
      exact ⟨u, rfl, trivial, h13⟩
     ·intro q1 w Γx Ωx h
      have h : St e w ([(true, .val (Rep.slice (Rep.slice (Rep.int .u8))) (q1 14) ([y1.1])), (false, .val Rep.hollow u4 x1.Queue), (true, .val (Rep.slice (Rep.int .u8)) u3 y1.1), (false, .val Frame_.rep u2 a2)] ++ Γx) ([(false, .oval (oslice 87 3 (at' (fun _ => ref21_Master.orep) (a1).toNat (ref21_Master.orepW (raw (q1 12))))) v0_0 a0.Masters), (false, .oval (oslice 34 1 (fun _ => (sh (Rep.slice (Rep.int .u8))))) (q1 12) x2.Queue), (false, .box 36 Frame_.rep u1 a2)] ++ Ωx) := h
      refine OpS.appD (fr := (Rep.slice (Rep.int .u8))) (f' := true) h (.s .z) Try.underlying59 ti34 rfl rfl rfl rfl rfl rfl rfl (V.at .z) (.inl rfl) e7 (fun u w7 h14 => ?_)
      have h15 := h14.front (.cons (.s .z) (.cons .z (.cons .z .nil)))
      exact ⟨u, rfl, trivial, h15⟩
     have h16 : St e w [(true, .val (Rep.slice (Rep.slice (Rep.int .u8))) (q1 14) ([y1.1])), (false, .val Rep.hollow u4 x1.Queue), (true, .val (Rep.slice (Rep.int .u8)) u3 y1.1), (false, .val Frame_.rep u2 a2)] [(false, .box 79 (Rep.iso (fun s : ref21_Bus => (s.Masters, ())) (Rep.prod (Rep.raw (α := List ref21_Master) v0_0) Rep.unit)) v0 a0), (false, .oval (oslice 87 3 (at' (fun _ => ref21_Master.orep) (a1).toNat (ref21_Master.orepW (raw (q1 12))))) v0_0 a0.Masters), (false, .oval (oslice 34 1 (fun _ => (sh (Rep.slice (Rep.int .u8))))) (q1 15) x3), (false, .box 36 Frame_.rep u1 a2)] := h
     obtain ⟨x4, e8, hF⟩ := bindP_use hF
     refine op (OpS.iownD h16 (.s .z) Try.underlying77 sz87 rfl rfl rfl rfl e8 ?_)
     refine op (OpS.fownD h16 (.s .z) (idx_ne e8) PA.a fa87_0 rfl rfl rfl ?_)
     obtain ⟨d1, e9, hF⟩ := letP_use hF
     refine op (OpS.storePO (F := (at' (fun _ => ref21_Master.orep) (a1).toNat (ref21_Master.orepW (raw (q1 12))))) (F2 := fun _ => ref21_Master.orep) (hn := at_hn rfl rfl) (hn2 := fun _ => rfl) h16 (.s .z) (.s .z) (idx_ne e8) PA.a (Len.comp (Len.arrShut e8) (ref21_Master.lenC (q1 12))) ty59 rfl rfl rfl rfl (.inr rfl) (fun w8 h17 => ?_))
     have h18 := St.termD (l' := d1) h17 e9
     refine RunL.nil ?_
     refine Run.slim [] trivial ?_
     refine Run.seq ?_
     refine Run.reg ?_
     refine op (OpS.as rfl rfl rfl ?_)
     refine RunL.nil ?_
     have h19 := St.boxJ (r' := (Rep.iso (fun s : ref21_Bus => (s.Masters, ())) (Rep.prod (Rep.raw (α := List ref21_Master) v0_0) Rep.unit))) (x' := { a0 with Masters := d1 }) (h18.pick (.s .z)) (fun _ _ hs_ => (Jn.iso _ (Jn.prod Jn.same Jn.refl)))
     refine Run.retP rfl (.tmp rfl .nil) ?_
     cases hF
     exact Post.mk' ⟨v0_0, rfl, rfl, rfl, rfl⟩ (h19.picks (.cons .z (.cons .z .nil))) .nil
 ·
  refine RunL.caseb hF (fun e10 hF => ?_) (fun e10 hF => ?_)
  ·
   refine op (OpS.pass rfl rfl rfl ?_)
   refine op (OpS.pass rfl rfl rfl ?_)
   refine op (OpS.pass rfl rfl rfl ?_)
   refine op (OpS.pass rfl rfl rfl ?_)
   refine op (OpS.pass rfl rfl rfl ?_)
   refine op (OpS.pass rfl rfl rfl ?_)
   refine op (OpS.pass rfl rfl rfl ?_)
   refine op (OpS.pick rfl rfl rfl rfl ?_)
   refine RunL.nil ?_
   refine Run.slim [(19, .bool true), (5, u1), (0, v0), (1, .int .i64 a1)] ⟨rfl, rfl, rfl, rfl, trivial⟩ ?_
   refine Run.slim [(0, v0), (1, .int .i64 a1), (5, u1), (19, .bool true)] ⟨rfl, rfl, rfl, rfl, trivial⟩ ?_
   exact hj1 (true) _ _ ⟨rfl, (h1.facts .nil).picks (.cons (.s .z) (.cons .z (.cons .z .nil)))⟩ hF
  ·
   refine op (OpS.mv rfl rfl rfl ?_)
   refine op (OpS.mv rfl rfl rfl ?_)
   refine op (OpS.nchk h1 (.s .z) rfl rfl rfl ?_)
   refine op (OpS.fbox (o3 := 0) h1 (.s .z) PA.z fa79_0 rfl rfl rfl rfl ?_)
   refine op (OpS.loadR h1 (.s .z) PA.a (GetS.ok (GetS.iso _ (GetS.here GetS.id))) ty77 rfl rfl rfl rfl rfl ?_)
   refine op (OpS.lenD h1 (.s (.s .z)) Try.underlying77 rfl rfl rfl ?_)
   refine op (OpS.bin rfl rfl rfl rfl rfl ?_)
   refine op (OpS.pick rfl rfl rfl rfl ?_)
   refine RunL.nil ?_
   refine Run.slim [(19, .bool (decide (a1 ≥ (a0.Masters.length : Int)))), (5, u1), (0, v0), (1, .int .i64 a1)] ⟨rfl, rfl, rfl, rfl, trivial⟩ ?_
   refine Run.slim [(0, v0), (1, .int .i64 a1), (5, u1), (19, .bool (decide (a1 ≥ (a0.Masters.length : Int))))] ⟨rfl, rfl, rfl, rfl, trivial⟩ ?_
   exact hj1 (decide (a1 ≥ (a0.Masters.length : Int))) _ _ ⟨rfl, (h1.facts .nil).picks (.cons (.s .z) (.cons .z (.cons .z .nil)))⟩ hF
theorem law21_fault_ok {fuel : Nat} {a0 : Fault_} {y : Fault_} (hF : law21_fault fuel a0 = some y) {w : World} {v0 : Value} :
  Spec Try.prog 19 [v0].toArray w [(false, .val Fault_.rep v0 a0)] [] (fun v Γr Ωr Ωo => ∃ u0 : Value, v = u0 ∧ Γr = [(false, .val Fault_.rep u0 y)] ∧ Ωr = [] ∧ Ωo = []) := by
 refine Spec.of (L := [(0, v0)]) Try.func19 rfl ⟨rfl, trivial⟩ rfl (fun e h => ?_)
 unfold law21_fault at hF
 refine Run.seq ?_
 refine Run.reg ?_
 refine op (OpS.boxF h rfl rfl rfl (V.at .z) (fun u1 w1 h1 => ?_))
 refine op (OpS.alloc h1 ti38 Fault_.zr rfl rfl (fun u2 w2 h2 => ?_))
 refine RunL.nil ?_
 refine Run.slim [(2, u2), (1, u1)] ⟨rfl, rfl, trivial⟩ ?_
 refine Run.seq ?_
 refine Run.seq ?_
 refine Run.reg ?_
 refine op (OpS.fbox (o3 := 1) h2 (.s .z) PA.z fa38_1 rfl rfl rfl rfl ?_)
 refine op (OpS.loadBi h2 (.s .z) PA.a (Get.fld Fault_.f1) ty3 rfl rfl rfl ?_)
 refine op (OpS.rem rfl rfl rfl rfl (by decide) ?_)
 refine op (OpS.bin rfl rfl rfl rfl rfl ?_)
 refine RunL.nil ?_
 refine Run.slim [(6, .bool ((Int.tmod a0.Index 5) != 0)), (2, u2), (1, u1)] ⟨rfl, rfl, rfl, trivial⟩ ?_
 refine Run.ite rfl hF (fun e1 hF => ?_) (fun e1 hF => ?_)
 ·
  refine Run.seq ?_
  refine Run.reg ?_
  refine op (OpS.fbox (o3 := 0) h2 (.s .z) PA.z fa38_0 rfl rfl rfl rfl ?_)
  refine op (OpS.loadBi h2 (.s .z) PA.a (Get.fld Fault_.f0) ty3 rfl rfl rfl ?_)
  obtain ⟨y1, e2, hF⟩ := bindP_use hF
  refine op (OpS.callP h2 Try.func13 rfl rfl rfl rfl (vs := [.int .i64 a0.Kind, .int .i64 3]) rfl (made_Mod_ok e2) .nil ?_)
  rintro _ w3 _ _ _ ⟨rfl, rfl, rfl, rfl⟩ h3
  have h4 := h3 rfl rfl
  simp only [List.cons_append, List.nil_append] at h4
  refine op (OpS.fbox (o3 := 0) h4 (.s .z) PA.z fa38_0 rfl rfl rfl rfl ?_)
  obtain ⟨d1, e3, hF⟩ := letP_use hF
  refine op (OpS.storeB (f' := true) h4 (.s .z) PA.a (Put.of (Put.fld Fault_.f0) e3) ty3 rfl rfl rfl V.int (.inr rfl) (fun w4 h5 => ?_))
  refine RunL.nil ?_
  refine Run.slim [(2, u2), (1, u1)] ⟨rfl, rfl, trivial⟩ ?_
  refine Run.reg ?_
  refine op (OpS.fbox (o3 := 1) h5 .z PA.z fa38_1 rfl rfl rfl rfl ?_)
  refine op (OpS.loadBi h5 .z PA.a (Get.fld Fault_.f1) ty3 rfl rfl rfl ?_)
  obtain ⟨y2, e4, hF⟩ := bindP_use hF
  refine op (OpS.callP h5 Try.func13 rfl rfl rfl rfl (vs := [.int .i64 d1.Index, .int .i64 12]) rfl (made_Mod_ok e4) .nil ?_)
  rintro _ w5 _ _ _ ⟨rfl, rfl, rfl, rfl⟩ h6
  have h7 := h6 rfl rfl
  simp only [List.cons_append, List.nil_append] at h7
  refine op (OpS.fbox (o3 := 1) h7 .z PA.z fa38_1 rfl rfl rfl rfl ?_)
  obtain ⟨d2, e5, hF⟩ := letP_use hF
  refine op (OpS.storeB (f' := true) h7 .z PA.a (Put.of (Put.fld Fault_.f1) e5) ty3 rfl rfl rfl V.int (.inr rfl) (fun w6 h8 => ?_))
  refine RunL.nil ?_
  refine Run.slim [(2, u2), (1, u1)] ⟨rfl, rfl, trivial⟩ ?_
  refine Run.seq ?_
  refine Run.reg ?_
  refine op (OpS.loadB h8 .z PA.z Get.id ty38 rfl rfl rfl (fun u3 h9 => ?_))
  have h10 := (h9.pick (.s .z)).weak
  refine op (OpS.storeB (f' := false) h10 .z PA.z Put.id ty38 rfl rfl rfl (V.at .z) (.inr rfl) (fun w7 h11 => ?_))
  refine RunL.nil ?_
  refine Run.slim [(2, u2)] ⟨rfl, trivial⟩ ?_
  obtain ⟨u4, hu1, h12⟩ := res_box h11 .z ty38
  refine Run.retP rfl (.cell rfl hu1 .nil) ?_
  cases hF
  exact Post.mk' ⟨u4, rfl, rfl, rfl, rfl⟩ (h12.picks .nil) (.val (V.at .z) .nil)
 ·
  refine Run.skip ?_
  refine Run.seq ?_
  refine Run.reg ?_
  refine op (OpS.loadB h2 (.s .z) PA.z Get.id ty38 rfl rfl rfl (fun u5 h13 => ?_))
  have h14 := (h13.pick .z).weak
  refine op (OpS.storeB (f' := false) h14 .z PA.z Put.id ty38 rfl rfl rfl (V.at .z) (.inr rfl) (fun w8 h15 => ?_))
  refine RunL.nil ?_
  refine Run.slim [(2, u2)] ⟨rfl, trivial⟩ ?_
  obtain ⟨u6, hu2, h16⟩ := res_box h15 .z ty38
  refine Run.retP rfl (.cell rfl hu2 .nil) ?_
  cases hF
  exact Post.mk' ⟨u6, rfl, rfl, rfl, rfl⟩ (h16.picks .nil) (.val (V.at .z) .nil)
theorem ref21_Bus_waits_ok {fuel : Nat} {a0 : ref21_Bus} {a1 : Int} {a2 : Bool} {y : Bool} (hF : ref21_Bus_waits fuel a0 a1 a2 = some y) {w : World} {v0 v0_0 : Value} :
  Spec Try.prog 43 [v0, .int .i64 a1, .bool a2].toArray w [] [(false, .box 79 (Rep.iso (fun s : ref21_Bus => (s.Masters, ())) (Rep.prod (Rep.raw (α := List ref21_Master) v0_0) Rep.unit)) v0 a0), (false, .oval (oslice 87 3 (fun _ => ref21_Master.orep)) v0_0 a0.Masters)] (fun v Γr Ωr Ωo => v = .bool y ∧ Γr = [] ∧ Ωr = [] ∧ Ωo = [(false, .box 79 (Rep.iso (fun s : ref21_Bus => (s.Masters, ())) (Rep.prod (Rep.raw (α := List ref21_Master) v0_0) Rep.unit)) v0 a0), (false, (.oval (oslice 87 3 (fun _ => ref21_Master.orep)) v0_0 a0.Masters))]) := by
 refine Spec.of (L := [(0, v0), (1, .int .i64 a1), (2, .bool a2)]) Try.func43 rfl ⟨rfl, rfl, rfl, trivial⟩ rfl (fun e h => ?_)
 unfold ref21_Bus_waits at hF
 refine Run.seq ?_
 refine Run.reg ?_
 refine op (OpS.as rfl rfl rfl ?_)
 refine RunL.nil ?_
 refine Run.slim [(0, v0), (1, .int .i64 a1), (2, .bool a2)] ⟨rfl, rfl, rfl, trivial⟩ ?_
 refine Run.seq ?_
 refine Run.reg ?_
 refine op (OpS.mv rfl rfl rfl ?_)
 refine op (OpS.nchk h .z rfl rfl rfl ?_)
 refine op (OpS.fbox (o3 := 0) h .z PA.z fa79_0 rfl rfl rfl rfl ?_)
 refine op (OpS.loadR h .z PA.a (GetS.ok (GetS.iso _ (GetS.here GetS.id))) ty77 rfl rfl rfl rfl rfl ?_)
 refine op (OpS.mv rfl rfl rfl ?_)
 obtain ⟨x1, e1, hF⟩ := bindP_use hF
 refine op (OpS.iownD h (.s .z) Try.underlying77 sz87 rfl rfl rfl rfl e1 ?_)
 refine op (OpS.fownD h (.s .z) (idx_ne e1) PA.a fa87_0 rfl rfl rfl ?_)
 refine op (OpS.loadS (fr := Rep.hollow) h (.s .z) ref21_Master.wk rfl (idx_ne e1) PA.a (Get.comp (Get.arr e1) (GetS.ok (GetS.iso _ (GetS.here GetS.id)))) (Ty.like ty59 (by rfl) (by rfl)) rfl rfl rfl (fun u1 h1 => ?_))
 refine op (OpS.lenH h1 Try.underlying59 rfl rfl rfl (V.at .z) ?_)
 refine op (OpS.bin rfl rfl rfl rfl rfl ?_)
 refine op (OpS.mv rfl rfl rfl ?_)
 refine RunL.caseb hF (fun e2 hF => ?_) (fun e2 hF => ?_)
 ·
  refine op (OpS.mv rfl rfl rfl ?_)
  refine op (OpS.mv rfl rfl rfl ?_)
  refine RunL.caseb hF (fun e3 hF => ?_) (fun e3 hF => ?_)
  ·
   refine op (OpS.mv rfl rfl rfl ?_)
   refine op (OpS.nchk h1 .z rfl rfl rfl ?_)
   refine op (OpS.fbox (o3 := 0) h1 .z PA.z fa79_0 rfl rfl rfl rfl ?_)
   refine op (OpS.loadR h1 .z PA.a (GetS.ok (GetS.iso _ (GetS.here GetS.id))) ty77 rfl rfl rfl rfl rfl ?_)
   refine op (OpS.mv rfl rfl rfl ?_)
   obtain ⟨x2, e4, hF⟩ := bindP_use hF
   refine op (OpS.iownD h1 (.s .z) Try.underlying77 sz87 rfl rfl rfl rfl e4 ?_)
   refine op (OpS.fownD h1 (.s .z) (idx_ne e4) PA.a fa87_2 rfl rfl rfl ?_)
   refine op (OpS.loadSb h1 (.s .z) ref21_Master.wk rfl (idx_ne e4) PA.a (Get.comp (Get.arr e4) (GetS.ok (GetS.iso _ (GetS.there (GetS.there (GetS.here GetS.id)))))) ty4 rfl rfl rfl ?_)
   refine op (OpS.pick rfl rfl rfl rfl ?_)
   refine op (OpS.not rfl rfl rfl ?_)
   refine op (OpS.pick rfl rfl rfl rfl ?_)
   refine op (OpS.as rfl rfl rfl ?_)
   obtain ⟨x3, e5, hF⟩ := letP_use hF
   refine RunL.nameb e5 ?_
   refine RunL.nil ?_
   refine Run.slim [(6, .bool x3)] ⟨rfl, trivial⟩ ?_
   refine Run.retP rfl (.tmp rfl .nil) ?_
   cases hF
   exact Post.mk' ⟨rfl, rfl, rfl, rfl⟩ (h1.picks (.cons .z (.cons .z .nil))) .nil
  ·
   refine op (OpS.pass rfl rfl rfl ?_)
   refine op (OpS.pass rfl rfl rfl ?_)
   refine op (OpS.pass rfl rfl rfl ?_)
   refine op (OpS.pass rfl rfl rfl ?_)
   refine op (OpS.pass rfl rfl rfl ?_)
   refine op (OpS.pass rfl rfl rfl ?_)
   refine op (OpS.pass rfl rfl rfl ?_)
   refine op (OpS.pass rfl rfl rfl ?_)
   refine op (OpS.pick rfl rfl rfl rfl ?_)
   refine op (OpS.not rfl rfl rfl ?_)
   refine op (OpS.pick rfl rfl rfl rfl ?_)
   refine op (OpS.as rfl rfl rfl ?_)
   obtain ⟨x4, e6, hF⟩ := letP_use hF
   refine RunL.nameb e6 ?_
   refine RunL.nil ?_
   refine Run.slim [(6, .bool x4)] ⟨rfl, trivial⟩ ?_
   refine Run.retP rfl (.tmp rfl .nil) ?_
   cases hF
   exact Post.mk' ⟨rfl, rfl, rfl, rfl⟩ (h1.picks (.cons .z (.cons .z .nil))) .nil
 ·
  refine op (OpS.pass rfl rfl rfl ?_)
  refine op (OpS.pass rfl rfl rfl ?_)
  refine op (OpS.pass rfl rfl rfl ?_)
  refine op (OpS.pass rfl rfl rfl ?_)
  refine op (OpS.pass rfl rfl rfl ?_)
  refine op (OpS.pass rfl rfl rfl ?_)
  refine op (OpS.pass rfl rfl rfl ?_)
  refine op (OpS.pass rfl rfl rfl ?_)
  refine op (OpS.pass rfl rfl rfl ?_)
  refine op (OpS.pass rfl rfl rfl ?_)
  refine op (OpS.pass rfl rfl rfl ?_)
  refine op (OpS.pass rfl rfl rfl ?_)
  refine op (OpS.pick rfl rfl rfl rfl ?_)
  refine op (OpS.as rfl rfl rfl ?_)
  refine RunL.nil ?_
  refine Run.slim [(6, .bool false)] ⟨rfl, trivial⟩ ?_
  refine Run.retP rfl (.tmp rfl .nil) ?_
  cases hF
  exact Post.mk' ⟨rfl, rfl, rfl, rfl⟩ (h1.picks (.cons .z (.cons .z .nil))) .nil
theorem ref21_Bus_anyone_ok {fuel : Nat} {a0 : ref21_Bus} {a1 : Bool} {y : Bool} (hF : ref21_Bus_anyone fuel a0 a1 = some y) {w : World} {v0 v0_0 : Value} :
  Spec Try.prog 42 [v0, .bool a1].toArray w [] [(false, .box 79 (Rep.iso (fun s : ref21_Bus => (s.Masters, ())) (Rep.prod (Rep.raw (α := List ref21_Master) v0_0) Rep.unit)) v0 a0), (false, .oval (oslice 87 3 (fun _ => ref21_Master.orep)) v0_0 a0.Masters)] (fun v Γr Ωr Ωo => v = .bool y ∧ Γr = [] ∧ Ωr = [] ∧ Ωo = [(false, .box 79 (Rep.iso (fun s : ref21_Bus => (s.Masters, ())) (Rep.prod (Rep.raw (α := List ref21_Master) v0_0) Rep.unit)) v0 a0), (false, (.oval (oslice 87 3 (fun _ => ref21_Master.orep)) v0_0 a0.Masters))]) := by
 refine Spec.of (L := [(0, v0), (1, .bool a1)]) Try.func42 rfl ⟨rfl, rfl, trivial⟩ rfl (fun e h => ?_)
 unfold ref21_Bus_anyone at hF
 refine Run.seq ?_
 refine Run.reg ?_
 refine op (OpS.as rfl rfl rfl ?_)
 refine RunL.nil ?_
 refine Run.slim [(0, v0), (1, .bool a1)] ⟨rfl, rfl, trivial⟩ ?_
 refine Run.seq ?_
 refine Run.seq ?_
 refine Run.reg ?_
 refine op (OpS.as rfl rfl rfl ?_)
 refine RunL.nil ?_
 refine Run.block ?_
 refine Run.slim [(0, v0), (1, .bool a1), (5, .int .i64 0)] ⟨rfl, rfl, rfl, trivial⟩ ?_
 refine Run.loopP (σ := Int) (fun s_ L_ w_ => L_ = [(0, v0), (1, .bool a1), (5, .int .i64 s_)] ∧ St e w_ [] [(false, .box 79 (Rep.iso (fun s : ref21_Bus => (s.Masters, ())) (Rep.prod (Rep.raw (α := List ref21_Master) v0_0) Rep.unit)) v0 a0), (false, .oval (oslice 87 3 (fun _ => ref21_Master.orep)) v0_0 a0.Masters)]) hF ⟨rfl, (h.facts .nil).picks (.cons .z (.cons .z .nil))⟩ (fun k1 hk1 s1 _ w1 hI hF => ?_)
 obtain ⟨rfl, h1⟩ := hI
 refine Run.seq ?_
 refine Run.seq ?_
 refine Run.reg ?_
 refine op (OpS.mv rfl rfl rfl ?_)
 refine op (OpS.mv rfl rfl rfl ?_)
 refine op (OpS.nchk h1 .z rfl rfl rfl ?_)
 refine op (OpS.fbox (o3 := 0) h1 .z PA.z fa79_0 rfl rfl rfl rfl ?_)
 refine op (OpS.loadR h1 .z PA.a (GetS.ok (GetS.iso _ (GetS.here GetS.id))) ty77 rfl rfl rfl rfl rfl ?_)
 refine op (OpS.lenD h1 (.s .z) Try.underlying77 rfl rfl rfl ?_)
 refine op (OpS.bin rfl rfl rfl rfl rfl ?_)
 refine RunL.nil ?_
 refine Run.slim [(12, .bool (decide (s1 < (a0.Masters.length : Int)))), (0, v0), (1, .bool a1), (5, .int .i64 s1)] ⟨rfl, rfl, rfl, rfl, trivial⟩ ?_
 refine Run.ite rfl hF (fun e1 hF => ?_) (fun e1 hF => ?_)
 ·
  refine Run.skip ?_
  refine Run.seq ?_
  refine Run.block ?_
  refine Run.seq ?_
  refine Run.reg ?_
  refine op (OpS.mv rfl rfl rfl ?_)
  refine op (OpS.mv rfl rfl rfl ?_)
  refine op (OpS.mv rfl rfl rfl ?_)
  obtain ⟨y1, e2, hF⟩ := bindP_use hF
  have h2 := h1.front (.cons .z (.cons .z .nil))
  refine op (OpS.callO h2 Try.func43 rfl rfl rfl rfl (vs := [v0, .int .i64 s1, .bool a1]) rfl (ref21_Bus_waits_ok e2) rfl .nil ?_)
  rintro _ w2 _ _ _ ⟨rfl, rfl, rfl, rfl⟩ h3
  have h4 := h3
  simp only [List.cons_append, List.nil_append] at h4
  refine RunL.nil ?_
  refine Run.slim [(18, .bool y1), (0, v0), (1, .bool a1), (5, .int .i64 s1)] ⟨rfl, rfl, rfl, rfl, trivial⟩ ?_
  refine Run.ite rfl hF (fun e3 hF => ?_) (fun e3 hF => ?_)
  ·
   refine Run.seq ?_
   refine Run.reg ?_
   refine op (OpS.as rfl rfl rfl ?_)
   refine RunL.nil ?_
   refine Run.slim [(4, .bool true)] ⟨rfl, trivial⟩ ?_
   refine Run.retP rfl (.tmp rfl .nil) ?_
   cases hF
   exact Post.mk' ⟨rfl, rfl, rfl, rfl⟩ (h4.picks (.cons .z (.cons .z .nil))) .nil
  ·
   refine Run.skip ?_
   refine Run.endBlock ?_
   refine Run.reg ?_
   refine op (OpS.mv rfl rfl rfl ?_)
   refine op (OpS.bin rfl rfl rfl rfl rfl ?_)
   refine op (OpS.as rfl rfl rfl ?_)
   obtain ⟨x1, e4, hF⟩ := letP_use hF
   refine RunL.name e4 ?_
   refine RunL.nil ?_
   refine Run.slim [(5, .int .i64 x1), (0, v0), (1, .bool a1)] ⟨rfl, rfl, rfl, trivial⟩ ?_
   refine Run.slim [(0, v0), (1, .bool a1), (5, .int .i64 x1)] ⟨rfl, rfl, rfl, trivial⟩ ?_
   exact hk1 (x1) _ _ ⟨rfl, (h4.facts .nil).picks (.cons .z (.cons .z .nil))⟩ hF
 ·
  refine Run.exit rfl ?_
  refine Run.seq ?_
  refine Run.reg ?_
  refine op (OpS.as rfl rfl rfl ?_)
  refine RunL.nil ?_
  refine Run.slim [(4, .bool false)] ⟨rfl, trivial⟩ ?_
  refine Run.retP rfl (.tmp rfl .nil) ?_
  cases hF
  exact Post.mk' ⟨rfl, rfl, rfl, rfl⟩ (h1.picks (.cons .z (.cons .z .nil))) .nil
theorem ref20_Compare_ok {fuel : Nat} {a0 : List Int} {a1 : List Int} {y : Int} (hF : ref20_Compare fuel a0 a1 = some y) {w : World} {v0 v1 : Value} :
  Spec Try.prog 44 [v0, v1].toArray w [(false, .val (Rep.slice (Rep.int .u8)) v0 a0), (false, .val (Rep.slice (Rep.int .u8)) v1 a1)] [] (fun v Γr Ωr Ωo => v = .int .i64 y ∧ Γr = [] ∧ Ωr = [] ∧ Ωo = []) := by
 refine Spec.of (L := [(0, v0), (1, v1)]) Try.func44 rfl ⟨rfl, rfl, trivial⟩ rfl (fun e h => ?_)
 unfold ref20_Compare at hF
 refine Run.seq ?_
 refine Run.reg ?_
 refine op (OpS.as rfl rfl rfl ?_)
 refine RunL.nil ?_
 refine Run.slim [(0, v0), (1, v1)] ⟨rfl, rfl, trivial⟩ ?_
 refine Run.seq ?_
 refine Run.seq ?_
 refine Run.reg ?_
 refine op (OpS.as rfl rfl rfl ?_)
 refine RunL.nil ?_
 refine Run.block ?_
 refine Run.slim [(0, v0), (1, v1), (5, .int .i64 0)] ⟨rfl, rfl, rfl, trivial⟩ ?_
 refine Run.loopP (σ := Int) (fun s_ L_ w_ => L_ = [(0, v0), (1, v1), (5, .int .i64 s_)] ∧ St e w_ [(false, .val (Rep.slice (Rep.int .u8)) v0 a0), (false, .val (Rep.slice (Rep.int .u8)) v1 a1)] []) hF ⟨rfl, (h.facts (.atm .z (.atm (.s .z) .nil))).picks .nil⟩ (fun k1 hk1 s1 _ w1 hI hF => ?_)
 obtain ⟨rfl, h1⟩ := hI
 refine Run.seq ?_
 refine Run.seq ?_
 refine Run.reg ?_
 refine op (OpS.mv rfl rfl rfl ?_)
 refine op (OpS.mv rfl rfl rfl ?_)
 refine op (OpS.len h1 Try.underlying34 rfl rfl rfl (V.at .z) ?_)
 refine op (OpS.bin rfl rfl rfl rfl rfl ?_)
 refine op (OpS.mv rfl rfl rfl ?_)
 refine RunL.join (σ := Bool) (fun s_ L_ w_ => L_ = [(0, v0), (1, v1), (5, .int .i64 s1), (15, .bool s_)] ∧ St e w_ [(false, .val (Rep.slice (Rep.int .u8)) v0 a0), (false, .val (Rep.slice (Rep.int .u8)) v1 a1)] []) hF (fun s2 _ w2 hI hF => ?_) (fun j1 hj1 hF => ?_)
 ·
  obtain ⟨rfl, h2⟩ := hI
  refine Run.ite rfl hF (fun e1 hF => ?_) (fun e1 hF => ?_)
  ·
   refine Run.skip ?_
   refine Run.seq ?_
   refine Run.block ?_
   refine Run.seq ?_
   refine Run.seq ?_
   obtain ⟨x1, e2, hF⟩ := bindP_use hF
   obtain ⟨x2, e3, hF⟩ := bindP_use hF
   refine Run.drawV (Ωs := []) [⟨some 18, some (v0), fun _ => [], fun ds_ u_ => [], [], [], none⟩, ⟨some 19, some (.int .i64 s1), fun _ => [], fun ds_ u_ => [], [], [], none⟩, ⟨some 20, none, fun u_ => [(false, .ptr (Rep.int .u8) u_ x1)], fun ds_ u_ => [], [], [], none⟩, ⟨some 21, some (.int .u8 x1), fun _ => [], fun ds_ u_ => [], [], [], none⟩, ⟨some 22, some (v1), fun _ => [], fun ds_ u_ => [], [], [], none⟩, ⟨some 23, some (.int .i64 s1), fun _ => [], fun ds_ u_ => [], [], [], none⟩, ⟨some 24, none, fun u_ => [(false, .ptr (Rep.int .u8) u_ x2)], fun ds_ u_ => [], [], [], none⟩, ⟨some 25, some (.int .u8 x2), fun _ => [], fun ds_ u_ => [], [], [], none⟩, ⟨some 26, some (.bool (decide (x1 < x2))), fun _ => [], fun ds_ u_ => [], [], [], none⟩] [[], [], [0, 1], [2], [], [], [4, 5], [6], [3, 7]] [] [0, 1, 2, 3, 4, 5, 6, 7, 8] Try_mixed rfl rfl rfl h2 (.cons ?_ (.cons ?_ (.cons ?_ (.cons ?_ (.cons ?_ (.cons ?_ (.cons ?_ (.cons ?_ (.cons ?_ .nil))))))))) (fun q1 w hq1 h => ?_)
   ·intro q1 w Γx Ωx h
    refine OpS.mv rfl rfl rfl ?_
    exact ⟨undef, rfl, trivial, h⟩
   ·intro q1 w Γx Ωx h
    refine OpS.mv rfl rfl rfl ?_
    exact ⟨undef, rfl, trivial, h⟩
   ·intro q1 w Γx Ωx h
    refine OpS.iptr h Try.underlying34 ty5 rfl rfl rfl rfl (V.at .z) e2 (fun u h5 => ?_)
    exact ⟨u, rfl, trivial, h5⟩
   ·intro q1 w Γx Ωx h
    refine OpS.loadi h ty5 rfl rfl rfl .z ?_
    exact ⟨undef, rfl, trivial, h⟩
   ·intro q1 w Γx Ωx h
    refine OpS.mv rfl rfl rfl ?_
    exact ⟨undef, rfl, trivial, h⟩
   ·intro q1 w Γx Ωx h
    refine OpS.mv rfl rfl rfl ?_
    exact ⟨undef, rfl, trivial, h⟩
   ·intro q1 w Γx Ωx h
    refine OpS.iptr h Try.underlying34 ty5 rfl rfl rfl rfl (V.at (.s .z)) e3 (fun u h6 => ?_)
    exact ⟨u, rfl, trivial, h6⟩
   ·intro q1 w Γx Ωx h
    refine OpS.loadi h ty5 rfl rfl rfl .z ?_
    exact ⟨undef, rfl, trivial, h⟩
   ·intro q1 w Γx Ωx h
    refine OpS.bin rfl rfl rfl rfl rfl ?_
    exact ⟨undef, rfl, trivial, h⟩
   have h7 : St e w [(false, .ptr (Rep.int .u8) (q1 2) x1), (false, .ptr (Rep.int .u8) (q1 6) x2), (false, .val (Rep.slice (Rep.int .u8)) v0 a0), (false, .val (Rep.slice (Rep.int .u8)) v1 a1)] [] := h
   refine RunL.nil ?_
   refine Run.slim [(26, .bool (decide (x1 < x2))), (0, v0), (1, v1), (5, .int .i64 s1)] ⟨rfl, rfl, rfl, rfl, trivial⟩ ?_
   refine Run.ite rfl hF (fun e4 hF => ?_) (fun e4 hF => ?_)
   ·
    refine Run.seq ?_
    refine Run.reg ?_
    refine op (OpS.as rfl rfl rfl ?_)
    refine RunL.nil ?_
    refine Run.slim [(4, .int .i64 (-1))] ⟨rfl, trivial⟩ ?_
    refine Run.retP rfl (.tmp rfl .nil) ?_
    cases hF
    exact Post.mk' ⟨rfl, rfl, rfl, rfl⟩ (h7.picks .nil) .nil
   ·
    refine Run.skip ?_
    refine Run.seq ?_
    obtain ⟨x3, e5, hF⟩ := bindP_use hF
    obtain ⟨x4, e6, hF⟩ := bindP_use hF
    refine Run.drawV (Ωs := []) [⟨some 27, some (v0), fun _ => [], fun ds_ u_ => [], [], [], none⟩, ⟨some 28, some (.int .i64 s1), fun _ => [], fun ds_ u_ => [], [], [], none⟩, ⟨some 29, none, fun u_ => [(false, .ptr (Rep.int .u8) u_ x3)], fun ds_ u_ => [], [], [], none⟩, ⟨some 30, some (.int .u8 x3), fun _ => [], fun ds_ u_ => [], [], [], none⟩, ⟨some 31, some (v1), fun _ => [], fun ds_ u_ => [], [], [], none⟩, ⟨some 32, some (.int .i64 s1), fun _ => [], fun ds_ u_ => [], [], [], none⟩, ⟨some 33, none, fun u_ => [(false, .ptr (Rep.int .u8) u_ x4)], fun ds_ u_ => [], [], [], none⟩, ⟨some 34, some (.int .u8 x4), fun _ => [], fun ds_ u_ => [], [], [], none⟩, ⟨some 35, some (.bool (decide (x3 > x4))), fun _ => [], fun ds_ u_ => [], [], [], none⟩] [[], [], [0, 1], [2], [], [], [4, 5], [6], [3, 7]] [] [0, 1, 2, 3, 4, 5, 6, 7, 8] Try_mixed rfl rfl rfl h7 (.cons ?_ (.cons ?_ (.cons ?_ (.cons ?_ (.cons ?_ (.cons ?_ (.cons ?_ (.cons ?_ (.cons ?_ .nil))))))))) (fun q2 w hq2 h => ?_)
    ·intro q2 w Γx Ωx h
     refine OpS.mv rfl rfl rfl ?_
     exact ⟨undef, rfl, trivial, h⟩
    ·intro q2 w Γx Ωx h
     refine OpS.mv rfl rfl rfl ?_
     exact ⟨undef, rfl, trivial, h⟩
    ·intro q2 w Γx Ωx h
     refine OpS.iptr h Try.underlying34 ty5 rfl rfl rfl rfl (V.at (.s (.s .z))) e5 (fun u h10 => ?_)
     exact ⟨u, rfl, trivial, h10⟩
    ·intro q2 w Γx Ωx h
     refine OpS.loadi h ty5 rfl rfl rfl .z ?_
     exact ⟨undef, rfl, trivial, h⟩
    ·intro q2 w Γx Ωx h
     refine OpS.mv rfl rfl rfl ?_
     exact ⟨undef, rfl, trivial, h⟩
    ·intro q2 w Γx Ωx h
     refine OpS.mv rfl rfl rfl ?_
     exact ⟨undef, rfl, trivial, h⟩
    ·intro q2 w Γx Ωx h
     refine OpS.iptr h Try.underlying34 ty5 rfl rfl rfl rfl (V.at (.s (.s (.s .z)))) e6 (fun u h11 => ?_)
     exact ⟨u, rfl, trivial, h11⟩
    ·intro q2 w Γx Ωx h
     refine OpS.loadi h ty5 rfl rfl rfl .z ?_
     exact ⟨undef, rfl, trivial, h⟩
    ·intro q2 w Γx Ωx h
     refine OpS.bin rfl rfl rfl rfl rfl ?_
     exact ⟨undef, rfl, trivial, h⟩
    have h12 : St e w [(false, .ptr (Rep.int .u8) (q2 2) x3), (false, .ptr (Rep.int .u8) (q2 6) x4), (false, .ptr (Rep.int .u8) (q1 2) x1), (false, .ptr (Rep.int .u8) (q1 6) x2), (false, .val (Rep.slice (Rep.int .u8)) v0 a0), (false, .val (Rep.slice (Rep.int .u8)) v1 a1)] [] := h
    refine RunL.nil ?_
    refine Run.slim [(35, .bool (decide (x3 > x4))), (0, v0), (1, v1), (5, .int .i64 s1)] ⟨rfl, rfl, rfl, rfl, trivial⟩ ?_
    refine Run.ite rfl hF (fun e7 hF => ?_) (fun e7 hF => ?_)
    ·
     refine Run.seq ?_
     refine Run.reg ?_
     refine op (OpS.as rfl rfl rfl ?_)
     refine RunL.nil ?_
     refine Run.slim [(4, .int .i64 1)] ⟨rfl, trivial⟩ ?_
     refine Run.retP rfl (.tmp rfl .nil) ?_
     cases hF
     exact Post.mk' ⟨rfl, rfl, rfl, rfl⟩ (h12.picks .nil) .nil
    ·
     refine Run.skip ?_
     refine Run.endBlock ?_
     refine Run.reg ?_
     refine op (OpS.mv rfl rfl rfl ?_)
     refine op (OpS.bin rfl rfl rfl rfl rfl ?_)
     refine op (OpS.as rfl rfl rfl ?_)
     obtain ⟨x5, e8, hF⟩ := letP_use hF
     refine RunL.name e8 ?_
     refine RunL.nil ?_
     refine Run.slim [(5, .int .i64 x5), (0, v0), (1, v1)] ⟨rfl, rfl, rfl, trivial⟩ ?_
     refine Run.slim [(0, v0), (1, v1), (5, .int .i64 x5)] ⟨rfl, rfl, rfl, trivial⟩ ?_
     exact hk1 (x5) _ _ ⟨rfl, (h12.facts (.atm (.s (.s (.s (.s .z)))) (.atm (.s (.s (.s (.s (.s .z))))) .nil))).picks .nil⟩ hF
  ·
   refine Run.exit rfl ?_
   refine Run.seq ?_
   refine Run.block ?_
   refine Run.seq ?_
   refine Run.reg ?_
   refine op (OpS.mv rfl rfl rfl ?_)
   refine op (OpS.len h2 Try.underlying34 rfl rfl rfl (V.at .z) ?_)
   refine op (OpS.mv rfl rfl rfl ?_)
   refine op (OpS.len h2 Try.underlying34 rfl rfl rfl (V.at (.s .z)) ?_)
   refine op (OpS.bin rfl rfl rfl rfl rfl ?_)
   refine op (OpS.as rfl rfl rfl ?_)
   obtain ⟨x6, e9, hF⟩ := letP_use hF
   refine RunL.nameb e9 ?_
   refine RunL.nil ?_
   refine Run.slim [(36, .bool x6), (0, v0), (1, v1)] ⟨rfl, rfl, rfl, trivial⟩ ?_
   refine Run.ite rfl hF (fun e10 hF => ?_) (fun e10 hF => ?_)
   ·
    refine Run.seq ?_
    refine Run.reg ?_
    refine op (OpS.as rfl rfl rfl ?_)
    refine RunL.nil ?_
    refine Run.slim [(4, .int .i64 (-1))] ⟨rfl, trivial⟩ ?_
    refine Run.retP rfl (.tmp rfl .nil) ?_
    cases hF
    exact Post.mk' ⟨rfl, rfl, rfl, rfl⟩ (h2.picks .nil) .nil
   ·
    refine Run.seq ?_
    refine Run.reg ?_
    refine op (OpS.mv rfl rfl rfl ?_)
    refine op (OpS.len h2 Try.underlying34 rfl rfl rfl (V.at .z) ?_)
    refine op (OpS.mv rfl rfl rfl ?_)
    refine op (OpS.len h2 Try.underlying34 rfl rfl rfl (V.at (.s .z)) ?_)
    refine op (OpS.bin rfl rfl rfl rfl rfl ?_)
    refine op (OpS.as rfl rfl rfl ?_)
    obtain ⟨x7, e11, hF⟩ := letP_use hF
    refine RunL.nameb e11 ?_
    refine RunL.nil ?_
    refine Run.slim [(42, .bool x7)] ⟨rfl, trivial⟩ ?_
    refine Run.ite rfl hF (fun e12 hF => ?_) (fun e12 hF => ?_)
    ·
     refine Run.seq ?_
     refine Run.reg ?_
     refine op (OpS.as rfl rfl rfl ?_)
     refine RunL.nil ?_
     refine Run.slim [(4, .int .i64 1)] ⟨rfl, trivial⟩ ?_
     refine Run.retP rfl (.tmp rfl .nil) ?_
     cases hF
     exact Post.mk' ⟨rfl, rfl, rfl, rfl⟩ (h2.picks .nil) .nil
    ·
     refine Run.skip ?_
     refine Run.endBlock ?_
     refine Run.seq ?_
     refine Run.reg ?_
     refine op (OpS.as rfl rfl rfl ?_)
     refine RunL.nil ?_
     refine Run.slim [(4, .int .i64 0)] ⟨rfl, trivial⟩ ?_
     refine Run.retP rfl (.tmp rfl .nil) ?_
     cases hF
     exact Post.mk' ⟨rfl, rfl, rfl, rfl⟩ (h2.picks .nil) .nil
 ·
  refine RunL.caseb hF (fun e13 hF => ?_) (fun e13 hF => ?_)
  ·
   refine op (OpS.mv rfl rfl rfl ?_)
   refine op (OpS.mv rfl rfl rfl ?_)
   refine op (OpS.len h1 Try.underlying34 rfl rfl rfl (V.at (.s .z)) ?_)
   refine op (OpS.bin rfl rfl rfl rfl rfl ?_)
   refine op (OpS.pick rfl rfl rfl rfl ?_)
   refine RunL.nil ?_
   refine Run.slim [(15, .bool (decide (s1 < (a1.length : Int)))), (0, v0), (1, v1), (5, .int .i64 s1)] ⟨rfl, rfl, rfl, rfl, trivial⟩ ?_
   refine Run.slim [(0, v0), (1, v1), (5, .int .i64 s1), (15, .bool (decide (s1 < (a1.length : Int))))] ⟨rfl, rfl, rfl, rfl, trivial⟩ ?_
   exact hj1 (decide (s1 < (a1.length : Int))) _ _ ⟨rfl, (h1.facts (.atm .z (.atm (.s .z) .nil))).picks .nil⟩ hF
  ·
   refine op (OpS.pass rfl rfl rfl ?_)
   refine op (OpS.pass rfl rfl rfl ?_)
   refine op (OpS.pass rfl rfl rfl ?_)
   refine op (OpS.pass rfl rfl rfl ?_)
   refine op (OpS.pick rfl rfl rfl rfl ?_)
   refine RunL.nil ?_
   refine Run.slim [(15, .bool false), (0, v0), (1, v1), (5, .int .i64 s1)] ⟨rfl, rfl, rfl, rfl, trivial⟩ ?_
   refine Run.slim [(0, v0), (1, v1), (5, .int .i64 s1), (15, .bool false)] ⟨rfl, rfl, rfl, rfl, trivial⟩ ?_
   exact hj1 (false) _ _ ⟨rfl, (h1.facts (.atm .z (.atm (.s .z) .nil))).picks .nil⟩ hF
theorem ref01_OpenCRC8_ok {fuel : Nat} {a0 : List Int} {y : (List Int) × Int} (hF : ref01_OpenCRC8 fuel a0 = some y) {w : World} {v0 : Value} :
  Spec Try.prog 57 [v0].toArray w [(false, .val (Rep.slice (Rep.int .u8)) v0 a0)] [] (fun v Γr Ωr Ωo => ∃ u0 : Value, v = .tuple #[u0, .int .i64 y.2] ∧ Γr = [] ∧ Ωr = [(true, (.slice 5 (Rep.int .u8) u0 y.1))] ∧ Ωo = []) := by
 refine Spec.of (L := [(0, v0)]) Try.func57 rfl ⟨rfl, trivial⟩ rfl (fun e h => ?_)
 unfold ref01_OpenCRC8 at hF
 refine Run.seq ?_
 refine Run.reg ?_
 refine op (OpS.as rfl rfl rfl ?_)
 refine op (OpS.as rfl rfl rfl ?_)
 refine RunL.nil ?_
 refine Run.slim [(0, v0)] ⟨rfl, trivial⟩ ?_
 refine Run.seq ?_
 refine Run.seq ?_
 refine Run.reg ?_
 refine op (OpS.mv rfl rfl rfl ?_)
 refine op (OpS.len h Try.underlying34 rfl rfl rfl (V.at .z) ?_)
 refine op (OpS.bin rfl rfl rfl rfl rfl ?_)
 refine RunL.nil ?_
 refine Run.slim [(7, .bool ((a0.length : Int) == 0)), (0, v0)] ⟨rfl, rfl, trivial⟩ ?_
 refine Run.ite rfl hF (fun e1 hF => ?_) (fun e1 hF => ?_)
 ·
  refine Run.seq ?_
  refine Run.reg ?_
  refine op (OpS.as rfl rfl rfl ?_)
  refine op (OpS.as rfl rfl rfl ?_)
  refine RunL.nil ?_
  refine Run.slim [(3, .int .i64 4), (2, .slice none 0 0)] ⟨rfl, rfl, trivial⟩ ?_
  have h1 := St.nil 5 (Rep.int .u8) h
  refine Run.retP rfl (.tmp rfl (.tmp rfl .nil)) ?_
  cases hF
  exact Post.mk' ⟨(.slice none 0 0), rfl, rfl, rfl, rfl⟩ (h1.picks (.cons .z .nil)) .nil
 ·
  refine Run.skip ?_
  refine Run.seq ?_
  refine Run.reg ?_
  refine op (OpS.mv rfl rfl rfl ?_)
  refine op (OpS.len h Try.underlying34 rfl rfl rfl (V.at .z) ?_)
  refine op (OpS.bin rfl rfl rfl rfl rfl ?_)
  refine op (OpS.as rfl rfl rfl ?_)
  obtain ⟨x1, e2, hF⟩ := letP_use hF
  refine RunL.name e2 ?_
  refine RunL.nil ?_
  refine Run.slim [(4, .int .i64 x1), (0, v0)] ⟨rfl, rfl, trivial⟩ ?_
  refine Run.seq ?_
  refine Run.seq ?_
  obtain ⟨x2, e3, hF⟩ := bindP_use hF
  obtain ⟨y1, e4, hF⟩ := bindP_use hF
  obtain ⟨x3, e5, hF⟩ := bindP_use hF
  refine Run.drawV (Ωs := []) [⟨some 11, some (v0), fun _ => [], fun ds_ u_ => [], [], [], none⟩, ⟨some 12, some (.int .i64 x1), fun _ => [], fun ds_ u_ => [], [], [], none⟩, ⟨some 13, none, fun u_ => [(false, .val (Rep.slice (Rep.int .u8)) u_ x2)], fun ds_ u_ => [], [], [], none⟩, ⟨some 14, some (.int .u8 y1), fun _ => [], fun ds_ u_ => [], [], [], none⟩, ⟨some 15, some (v0), fun _ => [], fun ds_ u_ => [], [], [], none⟩, ⟨some 16, some (.int .i64 x1), fun _ => [], fun ds_ u_ => [], [], [], none⟩, ⟨some 17, none, fun u_ => [(false, .ptr (Rep.int .u8) u_ x3)], fun ds_ u_ => [], [], [], none⟩, ⟨some 18, some (.int .u8 x3), fun _ => [], fun ds_ u_ => [], [], [], none⟩, ⟨some 19, some (.bool (y1 != x3)), fun _ => [], fun ds_ u_ => [], [], [], none⟩] [[], [], [0, 1], [2], [], [], [4, 5], [6], [3, 7]] [] [0, 1, 2, 3, 4, 5, 6, 7, 8] Try_mixed rfl rfl rfl h (.cons ?_ (.cons ?_ (.cons ?_ (.cons ?_ (.cons ?_ (.cons ?_ (.cons ?_ (.cons ?_ (.cons ?_ .nil))))))))) (fun q1 w hq1 h => ?_)
  ·intro q1 w Γx Ωx h
   refine OpS.mv rfl rfl rfl ?_
   exact ⟨undef, rfl, trivial, h⟩
  ·intro q1 w Γx Ωx h
   refine OpS.mv rfl rfl rfl ?_
   exact ⟨undef, rfl, trivial, h⟩
  ·intro q1 w Γx Ωx h
   refine OpS.sub h Try.underlying34 ty5 rfl rfl rfl rfl rfl (V.at .z) e3 (fun u h6 => ?_)
   exact ⟨u, rfl, trivial, h6⟩
  ·intro q1 w Γx Ωx h
   refine OpS.callP h Try.func61 rfl rfl rfl rfl (vs := [(q1 2)]) rfl (ref01_CRC8_ok e4) (.cons (f := false) (V.at .z) .nil) ?_
   rintro _ w2 _ _ _ ⟨rfl, rfl, rfl, rfl⟩ h7
   have h8 := h7 rfl rfl
   simp only [List.cons_append, List.nil_append] at h8
   exact ⟨undef, rfl, trivial, h8⟩
  ·intro q1 w Γx Ωx h
   refine OpS.mv rfl rfl rfl ?_
   exact ⟨undef, rfl, trivial, h⟩
  ·intro q1 w Γx Ωx h
   refine OpS.mv rfl rfl rfl ?_
   exact ⟨undef, rfl, trivial, h⟩
  ·intro q1 w Γx Ωx h
   refine OpS.iptr h Try.underlying34 ty5 rfl rfl rfl rfl (V.at .z) e5 (fun u h9 => ?_)
   exact ⟨u, rfl, trivial, h9⟩
  ·intro q1 w Γx Ωx h
   refine OpS.loadi h ty5 rfl rfl rfl .z ?_
   exact ⟨undef, rfl, trivial, h⟩
  ·intro q1 w Γx Ωx h
   refine OpS.bin rfl rfl rfl rfl rfl ?_
   exact ⟨undef, rfl, trivial, h⟩
  have h10 : St e w [(false, .val (Rep.slice (Rep.int .u8)) (q1 2) x2), (false, .ptr (Rep.int .u8) (q1 6) x3), (false, .val (Rep.slice (Rep.int .u8)) v0 a0)] [] := h
  refine RunL.nil ?_
  refine Run.slim [(19, .bool (y1 != x3)), (4, .int .i64 x1), (0, v0)] ⟨rfl, rfl, rfl, trivial⟩ ?_
  refine Run.ite rfl hF (fun e6 hF => ?_) (fun e6 hF => ?_)
  ·
   refine Run.seq ?_
   refine Run.reg ?_
   refine op (OpS.as rfl rfl rfl ?_)
   refine op (OpS.as rfl rfl rfl ?_)
   refine RunL.nil ?_
   refine Run.slim [(3, .int .i64 5), (2, .slice none 0 0)] ⟨rfl, rfl, trivial⟩ ?_
   have h11 := St.nil 5 (Rep.int .u8) h10
   refine Run.retP rfl (.tmp rfl (.tmp rfl .nil)) ?_
   cases hF
   exact Post.mk' ⟨(.slice none 0 0), rfl, rfl, rfl, rfl⟩ (h11.picks (.cons .z .nil)) .nil
  ·
   refine Run.skip ?_
   refine Run.seq ?_
   refine Run.reg ?_
   refine op (OpS.mv rfl rfl rfl ?_)
   refine op (OpS.mv rfl rfl rfl ?_)
   obtain ⟨x4, e7, hF⟩ := bindP_use hF
   refine op (OpS.sub h10 Try.underlying34 ty5 rfl rfl rfl rfl rfl (V.at (.s (.s .z))) e7 (fun u1 h12 => ?_))
   obtain ⟨y2, e8, hF⟩ := bindP_use hF
   refine op (OpS.callP h12 Try.func45 rfl rfl rfl rfl (vs := [u1]) rfl (ref01_Copy_ok e8) (.cons (f := false) (V.at .z) .nil) ?_)
   rintro u2 w3 _ _ _ ⟨_, rfl, rfl, rfl, rfl⟩ h13
   have h14 := h13 rfl rfl
   simp only [List.cons_append, List.nil_append] at h14
   refine op (OpS.as rfl rfl rfl ?_)
   refine op (OpS.as rfl rfl rfl ?_)
   refine RunL.nil ?_
   refine Run.slim [(3, .int .i64 0), (2, u2)] ⟨rfl, rfl, trivial⟩ ?_
   refine Run.retP rfl (.tmp rfl (.tmp rfl .nil)) ?_
   cases hF
   exact Post.mk' ⟨u2, rfl, rfl, rfl, rfl⟩ (h14.picks (.cons .z .nil)) .nil
set_option maxHeartbeats 8000000 in
theorem ref20_Decode_ok {fuel : Nat} {a0 : List Int} {y : Frame_ × Int} (hF : ref20_Decode fuel a0 = some y) {w : World} {v0 : Value} :
  Spec Try.prog 46 [v0].toArray w [(false, .val (Rep.slice (Rep.int .u8)) v0 a0)] [] (fun v Γr Ωr Ωo => ∃ u0 : Value, v = .tuple #[u0, .int .i64 y.2] ∧ Γr = [(true, .val Frame_.rep u0 y.1)] ∧ Ωr = [] ∧ Ωo = []) := by
 refine Spec.of (L := [(0, v0)]) Try.func46 rfl ⟨rfl, trivial⟩ rfl (fun e h => ?_)
 unfold ref20_Decode at hF
 refine Run.seq ?_
 refine Run.reg ?_
 refine op (OpS.alloc h ti36 Frame_.zr rfl rfl (fun u1 w1 h1 => ?_))
 refine op (OpS.as rfl rfl rfl ?_)
 refine RunL.nil ?_
 refine Run.slim [(2, u1), (0, v0)] ⟨rfl, rfl, trivial⟩ ?_
 refine Run.seq ?_
 refine Run.reg ?_
 refine op (OpS.build (f := true) (x' := Frame_.z) h1 pl36 ti36 Frame_.zr rfl rfl rfl .nil (fun u2 h2 => ?_))
 refine op (OpS.alloc h2 ti36 Frame_.zr rfl rfl (fun u3 w2 h3 => ?_))
 refine op (OpS.storeB (f' := true) h3 .z PA.z Put.id ty36 rfl rfl rfl (V.at .z) (.inl rfl) (fun w3 h4 => ?_))
 refine RunL.nil ?_
 refine Run.slim [(4, u3), (2, u1), (0, v0)] ⟨rfl, rfl, rfl, trivial⟩ ?_
 refine Run.seq ?_
 refine Run.seq ?_
 refine Run.reg ?_
 refine op (OpS.mv rfl rfl rfl ?_)
 refine op (OpS.len h4 Try.underlying34 rfl rfl rfl (V.at (.s .z)) ?_)
 refine op (OpS.bin rfl rfl rfl rfl rfl ?_)
 refine RunL.nil ?_
 refine Run.slim [(11, .bool (decide ((a0.length : Int) < 5))), (4, u3), (2, u1), (0, v0)] ⟨rfl, rfl, rfl, rfl, trivial⟩ ?_
 refine Run.ite rfl hF (fun e1 hF => ?_) (fun e1 hF => ?_)
 ·
  refine Run.seq ?_
  refine Run.reg ?_
  refine op (OpS.loadB h4 .z PA.z Get.id ty36 rfl rfl rfl (fun u4 h5 => ?_))
  refine op (OpS.storeB (f' := true) h5 (.s .z) PA.z Put.id ty36 rfl rfl rfl (V.at .z) (.inl rfl) (fun w4 h6 => ?_))
  refine op (OpS.as rfl rfl rfl ?_)
  refine RunL.nil ?_
  refine Run.slim [(3, .int .i64 4), (2, u1)] ⟨rfl, rfl, trivial⟩ ?_
  obtain ⟨u5, hu1, h7⟩ := res_box h6 .z ty36
  refine Run.retP rfl (.cell rfl hu1 (.tmp rfl .nil)) ?_
  cases hF
  exact Post.mk' ⟨u5, rfl, rfl, rfl, rfl⟩ (h7.picks .nil) (.val (V.at .z) .nil)
 ·
  refine Run.skip ?_
  refine Run.seq ?_
  refine Run.reg ?_
  refine op (OpS.mv rfl rfl rfl ?_)
  obtain ⟨y1, e2, hF⟩ := bindP_use hF
  refine op (OpS.callP h4 Try.func57 rfl rfl rfl rfl (vs := [v0]) rfl (ref01_OpenCRC8_ok e2) (.cons (f := false) (V.at (.s .z)) .nil) ?_)
  rintro _ w5 _ _ _ ⟨u6, rfl, rfl, rfl, rfl⟩ h8
  have h9 := h8 rfl rfl
  simp only [List.cons_append, List.nil_append] at h9
  refine op (OpS.mv rfl rfl rfl ?_)
  refine op (OpS.ext rfl rfl rfl rfl ?_)
  refine op (OpS.ext rfl rfl rfl rfl ?_)
  refine op (OpS.as rfl rfl rfl ?_)
  have h10 := (h9.pick .z).freeze
  refine op (OpS.as rfl rfl rfl ?_)
  refine RunL.nil ?_
  refine Run.slim [(6, .int .i64 y1.2), (5, u6), (4, u3), (2, u1), (0, v0)] ⟨rfl, rfl, rfl, rfl, rfl, trivial⟩ ?_
  refine Run.seq ?_
  refine Run.seq ?_
  refine Run.reg ?_
  refine op (OpS.mv rfl rfl rfl ?_)
  refine op (OpS.bin rfl rfl rfl rfl rfl ?_)
  refine RunL.nil ?_
  refine Run.slim [(19, .bool (y1.2 != 0)), (6, .int .i64 y1.2), (5, u6), (4, u3), (2, u1), (0, v0)] ⟨rfl, rfl, rfl, rfl, rfl, rfl, trivial⟩ ?_
  refine Run.ite rfl hF (fun e3 hF => ?_) (fun e3 hF => ?_)
  ·
   refine Run.seq ?_
   refine Run.reg ?_
   refine op (OpS.loadB h10 .z PA.z Get.id ty36 rfl rfl rfl (fun u7 h11 => ?_))
   refine op (OpS.mv rfl rfl rfl ?_)
   refine op (OpS.storeB (f' := true) h11 (.s .z) PA.z Put.id ty36 rfl rfl rfl (V.at .z) (.inl rfl) (fun w6 h12 => ?_))
   refine op (OpS.as rfl rfl rfl ?_)
   refine RunL.nil ?_
   refine Run.slim [(3, .int .i64 y1.2), (2, u1)] ⟨rfl, rfl, trivial⟩ ?_
   obtain ⟨u8, hu2, h13⟩ := res_box h12 .z ty36
   refine Run.retP rfl (.cell rfl hu2 (.tmp rfl .nil)) ?_
   cases hF
   exact Post.mk' ⟨u8, rfl, rfl, rfl, rfl⟩ (h13.picks .nil) (.val (V.at .z) .nil)
  ·
   refine Run.skip ?_
   refine Run.seq ?_
   refine Run.seq ?_
   refine Run.reg ?_
   refine op (OpS.mv rfl rfl rfl ?_)
   obtain ⟨x1, e4, hF⟩ := bindP_use hF
   refine op (OpS.iptr h10 Try.underlying34 ty5 rfl rfl rfl rfl (V.at .z) e4 (fun u9 h14 => ?_))
   refine op (OpS.loadi h14 ty5 rfl rfl rfl .z ?_)
   refine op (OpS.rem rfl rfl rfl rfl (by decide) ?_)
   refine op (OpS.bin rfl rfl rfl rfl rfl ?_)
   refine op (OpS.mv rfl rfl rfl ?_)
   refine RunL.join (σ := Bool) (fun s_ L_ w_ => L_ = [(2, u1), (4, u3), (5, u6), (49, .bool s_)] ∧ St e w_ [(true, .val (Rep.slice (Rep.int .u8)) u6 y1.1)] [(true, .box 36 Frame_.rep u1 Frame_.z), (true, .box 36 Frame_.rep u3 Frame_.z)]) hF (fun s1 _ w7 hI hF => ?_) (fun j1 hj1 hF => ?_)
   ·
    obtain ⟨rfl, h15⟩ := hI
    refine Run.ite rfl hF (fun e5 hF => ?_) (fun e5 hF => ?_)
    ·
     refine Run.seq ?_
     refine Run.reg ?_
     refine op (OpS.loadB h15 (.s .z) PA.z Get.id ty36 rfl rfl rfl (fun u10 h16 => ?_))
     refine op (OpS.storeB (f' := true) h16 .z PA.z Put.id ty36 rfl rfl rfl (V.at .z) (.inl rfl) (fun w8 h17 => ?_))
     refine op (OpS.as rfl rfl rfl ?_)
     refine RunL.nil ?_
     refine Run.slim [(3, .int .i64 6), (2, u1)] ⟨rfl, rfl, trivial⟩ ?_
     obtain ⟨u11, hu3, h18⟩ := res_box h17 .z ty36
     refine Run.retP rfl (.cell rfl hu3 (.tmp rfl .nil)) ?_
     cases hF
     exact Post.mk' ⟨u11, rfl, rfl, rfl, rfl⟩ (h18.picks .nil) (.val (V.at .z) .nil)
    ·
     refine Run.skip ?_
     refine Run.seq ?_
     obtain ⟨x2, e6, hF⟩ := bindP_use hF
     obtain ⟨x3, e7, hF⟩ := bindP_use hF
     obtain ⟨x4, e8, hF⟩ := bindP_use hF
     obtain ⟨y2, e9, hF⟩ := bindP_use hF
     refine Run.drawV (Ωs := [(true, .box 36 Frame_.rep u1 Frame_.z), (true, .box 36 Frame_.rep u3 Frame_.z)]) [⟨some 51, some (u6), fun _ => [], fun ds_ u_ => [], [], [], none⟩, ⟨some 52, none, fun u_ => [(true, .ptr (Rep.int .u8) u_ x2)], fun ds_ u_ => [], [], [], none⟩, ⟨some 53, some (.int .u8 x2), fun _ => [], fun ds_ u_ => [], [], [], none⟩, ⟨some 54, some (.int .u8 (IntKind.u8.wrap (Int.tdiv x2 2))), fun _ => [], fun ds_ u_ => [], [], [], none⟩, ⟨some 55, some (u6), fun _ => [], fun ds_ u_ => [], [], [], none⟩, ⟨some 56, none, fun u_ => [(true, .ptr (Rep.int .u8) u_ x3)], fun ds_ u_ => [], [], [], none⟩, ⟨some 57, some (.int .u8 x3), fun _ => [], fun ds_ u_ => [], [], [], none⟩, ⟨some 58, some (.int .u8 (IntKind.u8.wrap (Int.tdiv x3 2))), fun _ => [], fun ds_ u_ => [], [], [], none⟩, ⟨some 59, some (u6), fun _ => [], fun ds_ u_ => [], [], [], none⟩, ⟨some 60, none, fun u_ => [(true, .val (Rep.slice (Rep.int .u8)) u_ x4)], fun ds_ u_ => [], [], [], none⟩, ⟨some 61, none, fun u_ => [(true, .val (Rep.slice (Rep.int .u8)) u_ y2)], fun ds_ u_ => [], [], [], none⟩, ⟨some 62, none, fun u_ => [(true, .val Frame_.rep u_ (⟨(IntKind.u8.wrap (Int.tdiv x2 2)), (IntKind.u8.wrap (Int.tdiv x3 2)), y2⟩ : Frame_))], fun ds_ u_ => [], [], [], none⟩, ⟨some 7, none, fun u_ => [], fun ds_ u_ => [(true, .box 36 Frame_.rep u_ Frame_.z)], [], [], none⟩] [[], [0], [1], [2], [], [4], [5], [6], [], [8], [9], [3, 7, 10], []] [] [0, 1, 2, 3, 4, 5, 6, 7, 8, 9, 10, 11, 12] Try_mixed rfl rfl rfl h15 (.cons ?_ (.cons ?_ (.cons ?_ (.cons ?_ (.cons ?_ (.cons ?_ (.cons ?_ (.cons ?_ (.cons ?_ (.cons ?_ (.cons ?_ (.cons ?_ (.cons ?_ .nil))))))))))))) (fun q1 w hq1 h => ?_)
     ·intro q1 w Γx Ωx h
      refine OpS.mv rfl rfl rfl ?_
      exact ⟨undef, rfl, trivial, h⟩
     ·intro q1 w Γx Ωx h
      refine OpS.iptr h Try.underlying34 ty5 rfl rfl rfl rfl (V.at .z) e6 (fun u h27 => ?_)
      exact ⟨u, rfl, trivial, h27⟩
     ·intro q1 w Γx Ωx h
      refine OpS.loadi h ty5 rfl rfl rfl .z ?_
      exact ⟨undef, rfl, trivial, h⟩
     ·intro q1 w Γx Ωx h
      refine OpS.quo rfl rfl rfl rfl (by decide) ?_
      exact ⟨undef, rfl, trivial, h⟩
     ·intro q1 w Γx Ωx h
      refine OpS.mv rfl rfl rfl ?_
      exact ⟨undef, rfl, trivial, h⟩
     ·intro q1 w Γx Ωx h
      refine OpS.iptr h Try.underlying34 ty5 rfl rfl rfl rfl (V.at .z) e7 (fun u h28 => ?_)
      exact ⟨u, rfl, trivial, h28⟩
     ·intro q1 w Γx Ωx h
      refine OpS.loadi h ty5 rfl rfl rfl .z ?_
      exact ⟨undef, rfl, trivial, h⟩
     ·intro q1 w Γx Ωx h
      refine OpS.quo rfl rfl rfl rfl (by decide) ?_
      exact ⟨undef, rfl, trivial, h⟩
     ·intro q1 w Γx Ωx h
      refine OpS.mv rfl rfl rfl ?_
      exact ⟨undef, rfl, trivial, h⟩
     ·intro q1 w Γx Ωx h
      refine OpS.sub h Try.underlying34 ty5 rfl rfl rfl rfl rfl (V.at .z) e8 (fun u h29 => ?_)
      exact ⟨u, rfl, trivial, h29⟩
     ·intro q1 w Γx Ωx h
      refine OpS.callP h Try.func45 rfl rfl rfl rfl (vs := [(q1 9)]) rfl (ref01_Copy_ok e9) (.cons (f := true) (V.at .z) .nil) ?_
      rintro u w11 _ _ _ ⟨_, rfl, rfl, rfl, rfl⟩ h30
      have h31 := h30 rfl rfl
      simp only [List.cons_append, List.nil_append] at h31
      have h32 := h31.freeze
      exact ⟨u, rfl, trivial, h32⟩
     ·intro q1 w Γx Ωx h
      refine OpS.build (f := true) (x' := (⟨(IntKind.u8.wrap (Int.tdiv x2 2)), (IntKind.u8.wrap (Int.tdiv x3 2)), y2⟩ : Frame_)) h pl36 ti36 Frame_.zr rfl rfl rfl (.cons rfl Frame_.f0 rfl V.int (.cons rfl Frame_.f1 rfl V.int (.cons rfl Frame_.f2 rfl (V.at .z) .nil))) (fun u h33 => ?_)
      exact ⟨u, rfl, trivial, h33⟩
     ·intro q1 w Γx Ωx h
      refine OpS.alloc h ti36 Frame_.zr rfl rfl (fun u w12 h34 => ?_)
      exact ⟨u, rfl, trivial, h34⟩
     have h35 : St e w [(true, .ptr (Rep.int .u8) (q1 1) x2), (true, .ptr (Rep.int .u8) (q1 5) x3), (true, .val (Rep.slice (Rep.int .u8)) (q1 9) x4), (true, .val (Rep.slice (Rep.int .u8)) (q1 10) y2), (true, .val Frame_.rep (q1 11) (⟨(IntKind.u8.wrap (Int.tdiv x2 2)), (IntKind.u8.wrap (Int.tdiv x3 2)), y2⟩ : Frame_)), (true, .val (Rep.slice (Rep.int .u8)) u6 y1.1)] [(true, .box 36 Frame_.rep (q1 12) Frame_.z), (true, .box 36 Frame_.rep u1 Frame_.z), (true, .box 36 Frame_.rep u3 Frame_.z)] := h
     refine op (OpS.storeB (f' := true) h35 .z PA.z Put.id ty36 rfl rfl rfl (V.at (.s (.s (.s (.s .z))))) (.inl rfl) (fun w13 h36 => ?_))
     refine RunL.nil ?_
     refine Run.slim [(7, (q1 12)), (2, u1), (4, u3)] ⟨rfl, rfl, rfl, trivial⟩ ?_
     refine Run.seq ?_
     refine Run.seq ?_
     refine Run.reg ?_
     refine op (OpS.fbox (o3 := 0) h36 .z PA.z fa36_0 rfl rfl rfl rfl ?_)
     refine op (OpS.loadBi h36 .z PA.a (Get.fld Frame_.f0) ty5 rfl rfl rfl ?_)
     obtain ⟨y3, e10, hF⟩ := bindP_use hF
     refine op (OpS.callP h36 Try.func58 rfl rfl rfl rfl (vs := [.int .u8 ((⟨(IntKind.u8.wrap (Int.tdiv x2 2)), (IntKind.u8.wrap (Int.tdiv x3 2)), y2⟩ : Frame_).To)]) rfl (ref20_Address_ok e10) .nil ?_)
     rintro _ w14 _ _ _ ⟨rfl, rfl, rfl, rfl⟩ h37
     have h38 := h37 rfl rfl
     simp only [List.cons_append, List.nil_append] at h38
     refine op (OpS.not rfl rfl rfl ?_)
     refine op (OpS.mv rfl rfl rfl ?_)
     refine RunL.join (σ := Bool) (fun s_ L_ w_ => L_ = [(2, u1), (4, u3), (7, (q1 12)), (72, .bool s_)] ∧ St e w_ [] [(true, .box 36 Frame_.rep u1 Frame_.z), (true, .box 36 Frame_.rep u3 Frame_.z), (true, .box 36 Frame_.rep (q1 12) (⟨(IntKind.u8.wrap (Int.tdiv x2 2)), (IntKind.u8.wrap (Int.tdiv x3 2)), y2⟩ : Frame_))]) hF (fun s2 _ w15 hI hF => ?_) (fun j2 hj2 hF => ?_)
     ·
      obtain ⟨rfl, h39⟩ := hI
      refine Run.ite rfl hF (fun e11 hF => ?_) (fun e11 hF => ?_)
      ·
       refine Run.seq ?_
       refine Run.reg ?_
       refine op (OpS.loadB h39 (.s .z) PA.z Get.id ty36 rfl rfl rfl (fun u12 h40 => ?_))
       refine op (OpS.storeB (f' := true) h40 .z PA.z Put.id ty36 rfl rfl rfl (V.at .z) (.inl rfl) (fun w16 h41 => ?_))
       refine op (OpS.as rfl rfl rfl ?_)
       refine RunL.nil ?_
       refine Run.slim [(3, .int .i64 13), (2, u1)] ⟨rfl, rfl, trivial⟩ ?_
       obtain ⟨u13, hu4, h42⟩ := res_box h41 .z ty36
       refine Run.retP rfl (.cell rfl hu4 (.tmp rfl .nil)) ?_
       cases hF
       exact Post.mk' ⟨u13, rfl, rfl, rfl, rfl⟩ (h42.picks .nil) (.val (V.at .z) .nil)
      ·
       refine Run.skip ?_
       refine Run.seq ?_
       refine Run.seq ?_
       refine Run.reg ?_
       refine op (OpS.fbox (o3 := 2) h39 (.s (.s .z)) PA.z fa36_2 rfl rfl rfl rfl ?_)
       refine op (OpS.loadB h39 (.s (.s .z)) PA.a (Get.fld Frame_.f2) ty34 rfl rfl rfl (fun u14 h43 => ?_))
       refine op (OpS.len h43 Try.underlying34 rfl rfl rfl (V.at .z) ?_)
       refine op (OpS.bin rfl rfl rfl rfl rfl ?_)
       refine RunL.nil ?_
       refine Run.slim [(77, .bool (decide ((((⟨(IntKind.u8.wrap (Int.tdiv x2 2)), (IntKind.u8.wrap (Int.tdiv x3 2)), y2⟩ : Frame_).Data).length : Int) > 72))), (2, u1), (4, u3), (7, (q1 12))] ⟨rfl, rfl, rfl, rfl, trivial⟩ ?_
       refine Run.ite rfl hF (fun e12 hF => ?_) (fun e12 hF => ?_)
       ·
        refine Run.seq ?_
        refine Run.reg ?_
        refine op (OpS.loadB h43 (.s .z) PA.z Get.id ty36 rfl rfl rfl (fun u15 h44 => ?_))
        refine op (OpS.storeB (f' := true) h44 .z PA.z Put.id ty36 rfl rfl rfl (V.at .z) (.inl rfl) (fun w17 h45 => ?_))
        refine op (OpS.as rfl rfl rfl ?_)
        refine RunL.nil ?_
        refine Run.slim [(3, .int .i64 3), (2, u1)] ⟨rfl, rfl, trivial⟩ ?_
        obtain ⟨u16, hu5, h46⟩ := res_box h45 .z ty36
        refine Run.retP rfl (.cell rfl hu5 (.tmp rfl .nil)) ?_
        cases hF
        exact Post.mk' ⟨u16, rfl, rfl, rfl, rfl⟩ (h46.picks .nil) (.val (V.at .z) .nil)
       ·
        refine Run.skip ?_
        refine Run.seq ?_
        refine Run.reg ?_
        refine op (OpS.loadB h43 (.s (.s .z)) PA.z Get.id ty36 rfl rfl rfl (fun u17 h47 => ?_))
        refine op (OpS.storeB (f' := true) h47 .z PA.z Put.id ty36 rfl rfl rfl (V.at .z) (.inl rfl) (fun w18 h48 => ?_))
        refine op (OpS.as rfl rfl rfl ?_)
        refine RunL.nil ?_
        refine Run.slim [(3, .int .i64 0), (2, u1)] ⟨rfl, rfl, trivial⟩ ?_
        obtain ⟨u18, hu6, h49⟩ := res_box h48 .z ty36
        refine Run.retP rfl (.cell rfl hu6 (.tmp rfl .nil)) ?_
        cases hF
        exact Post.mk' ⟨u18, rfl, rfl, rfl, rfl⟩ (h49.picks .nil) (.val (V.at .z) .nil)
     ·
      refine RunL.caseb hF (fun e13 hF => ?_) (fun e13 hF => ?_)
      ·
       refine op (OpS.pass rfl rfl rfl ?_)
       refine op (OpS.pass rfl rfl rfl ?_)
       refine op (OpS.pass rfl rfl rfl ?_)
       refine op (OpS.pass rfl rfl rfl ?_)
       refine op (OpS.pick rfl rfl rfl rfl ?_)
       refine RunL.nil ?_
       refine Run.slim [(72, .bool true), (7, (q1 12)), (2, u1), (4, u3)] ⟨rfl, rfl, rfl, rfl, trivial⟩ ?_
       refine Run.slim [(2, u1), (4, u3), (7, (q1 12)), (72, .bool true)] ⟨rfl, rfl, rfl, rfl, trivial⟩ ?_
       exact hj2 (true) _ _ ⟨rfl, (h38.facts .nil).picks (.cons (.s .z) (.cons (.s .z) (.cons .z .nil)))⟩ hF
      ·
       refine op (OpS.fbox (o3 := 1) h38 .z PA.z fa36_1 rfl rfl rfl rfl ?_)
       refine op (OpS.loadBi h38 .z PA.a (Get.fld Frame_.f1) ty5 rfl rfl rfl ?_)
       obtain ⟨y4, e14, hF⟩ := bindP_use hF
       refine op (OpS.callP h38 Try.func58 rfl rfl rfl rfl (vs := [.int .u8 ((⟨(IntKind.u8.wrap (Int.tdiv x2 2)), (IntKind.u8.wrap (Int.tdiv x3 2)), y2⟩ : Frame_).From)]) rfl (ref20_Address_ok e14) .nil ?_)
       rintro _ w19 _ _ _ ⟨rfl, rfl, rfl, rfl⟩ h50
       have h51 := h50 rfl rfl
       simp only [List.cons_append, List.nil_append] at h51
       refine op (OpS.not rfl rfl rfl ?_)
       refine op (OpS.pick rfl rfl rfl rfl ?_)
       refine RunL.nil ?_
       refine Run.slim [(72, .bool (!y4)), (7, (q1 12)), (2, u1), (4, u3)] ⟨rfl, rfl, rfl, rfl, trivial⟩ ?_
       refine Run.slim [(2, u1), (4, u3), (7, (q1 12)), (72, .bool (!y4))] ⟨rfl, rfl, rfl, rfl, trivial⟩ ?_
       exact hj2 (!y4) _ _ ⟨rfl, (h51.facts .nil).picks (.cons (.s .z) (.cons (.s .z) (.cons .z .nil)))⟩ hF
   ·
    refine RunL.caseb hF (fun e15 hF => ?_) (fun e15 hF => ?_)
    ·
     refine op (OpS.pass rfl rfl rfl ?_)
     refine op (OpS.pass rfl rfl rfl ?_)
     refine op (OpS.pass rfl rfl rfl ?_)
     refine op (OpS.pass rfl rfl rfl ?_)
     refine op (OpS.pick rfl rfl rfl rfl ?_)
     refine op (OpS.mv rfl rfl rfl ?_)
     refine op (OpS.pass rfl rfl rfl ?_)
     refine op (OpS.pass rfl rfl rfl ?_)
     refine op (OpS.pass rfl rfl rfl ?_)
     refine op (OpS.pass rfl rfl rfl ?_)
     refine op (OpS.pass rfl rfl rfl ?_)
     refine op (OpS.pass rfl rfl rfl ?_)
     refine op (OpS.pass rfl rfl rfl ?_)
     refine op (OpS.pass rfl rfl rfl ?_)
     refine op (OpS.pick rfl rfl rfl rfl ?_)
     refine op (OpS.mv rfl rfl rfl ?_)
     refine op (OpS.pass rfl rfl rfl ?_)
     refine op (OpS.pass rfl rfl rfl ?_)
     refine op (OpS.pass rfl rfl rfl ?_)
     refine op (OpS.pass rfl rfl rfl ?_)
     refine op (OpS.pass rfl rfl rfl ?_)
     refine op (OpS.pick rfl rfl rfl rfl ?_)
     refine RunL.nil ?_
     refine Run.slim [(49, .bool true), (5, u6), (4, u3), (2, u1)] ⟨rfl, rfl, rfl, rfl, trivial⟩ ?_
     refine Run.slim [(2, u1), (4, u3), (5, u6), (49, .bool true)] ⟨rfl, rfl, rfl, rfl, trivial⟩ ?_
     exact hj1 (true) _ _ ⟨rfl, (h14.facts (.atm (.s .z) .nil)).picks (.cons (.s .z) (.cons .z .nil))⟩ hF
    ·
     refine op (OpS.mv rfl rfl rfl ?_)
     obtain ⟨x5, e16, hF⟩ := bindP_use hF
     refine op (OpS.iptr h14 Try.underlying34 ty5 rfl rfl rfl rfl (V.at (.s .z)) e16 (fun u19 h52 => ?_))
     refine op (OpS.loadi h52 ty5 rfl rfl rfl .z ?_)
     refine op (OpS.bin rfl rfl rfl rfl rfl ?_)
     refine op (OpS.pick rfl rfl rfl rfl ?_)
     refine op (OpS.mv rfl rfl rfl ?_)
     refine RunL.caseb hF (fun e17 hF => ?_) (fun e17 hF => ?_)
     ·
      refine op (OpS.pass rfl rfl rfl ?_)
      refine op (OpS.pass rfl rfl rfl ?_)
      refine op (OpS.pass rfl rfl rfl ?_)
      refine op (OpS.pass rfl rfl rfl ?_)
      refine op (OpS.pass rfl rfl rfl ?_)
      refine op (OpS.pass rfl rfl rfl ?_)
      refine op (OpS.pass rfl rfl rfl ?_)
      refine op (OpS.pass rfl rfl rfl ?_)
      refine op (OpS.pick rfl rfl rfl rfl ?_)
      refine op (OpS.mv rfl rfl rfl ?_)
      refine op (OpS.pass rfl rfl rfl ?_)
      refine op (OpS.pass rfl rfl rfl ?_)
      refine op (OpS.pass rfl rfl rfl ?_)
      refine op (OpS.pass rfl rfl rfl ?_)
      refine op (OpS.pass rfl rfl rfl ?_)
      refine op (OpS.pick rfl rfl rfl rfl ?_)
      refine RunL.nil ?_
      refine Run.slim [(49, .bool true), (5, u6), (4, u3), (2, u1)] ⟨rfl, rfl, rfl, rfl, trivial⟩ ?_
      refine Run.slim [(2, u1), (4, u3), (5, u6), (49, .bool true)] ⟨rfl, rfl, rfl, rfl, trivial⟩ ?_
      exact hj1 (true) _ _ ⟨rfl, (h52.facts (.atm (.s (.s .z)) .nil)).picks (.cons (.s .z) (.cons .z .nil))⟩ hF
     ·
      refine op (OpS.mv rfl rfl rfl ?_)
      obtain ⟨x6, e18, hF⟩ := bindP_use hF
      refine op (OpS.iptr h52 Try.underlying34 ty5 rfl rfl rfl rfl (V.at (.s (.s .z))) e18 (fun u20 h53 => ?_))
      refine op (OpS.loadi h53 ty5 rfl rfl rfl .z ?_)
      refine op (OpS.conv Try.underlying5 Try.underlying3 rfl rfl rfl ?_)
      refine op (OpS.mv rfl rfl rfl ?_)
      refine op (OpS.len h53 Try.underlying34 rfl rfl rfl (V.at (.s (.s (.s (.s (.s .z)))))) ?_)
      refine op (OpS.bin rfl rfl rfl rfl rfl ?_)
      refine op (OpS.bin rfl rfl rfl rfl rfl ?_)
      refine op (OpS.pick rfl rfl rfl rfl ?_)
      refine op (OpS.mv rfl rfl rfl ?_)
      refine RunL.caseb hF (fun e19 hF => ?_) (fun e19 hF => ?_)
      ·
       refine op (OpS.pass rfl rfl rfl ?_)
       refine op (OpS.pass rfl rfl rfl ?_)
       refine op (OpS.pass rfl rfl rfl ?_)
       refine op (OpS.pass rfl rfl rfl ?_)
       refine op (OpS.pass rfl rfl rfl ?_)
       refine op (OpS.pick rfl rfl rfl rfl ?_)
       refine RunL.nil ?_
       refine Run.slim [(49, .bool true), (5, u6), (4, u3), (2, u1)] ⟨rfl, rfl, rfl, rfl, trivial⟩ ?_
       refine Run.slim [(2, u1), (4, u3), (5, u6), (49, .bool true)] ⟨rfl, rfl, rfl, rfl, trivial⟩ ?_
       exact hj1 (true) _ _ ⟨rfl, (h53.facts (.atm (.s (.s (.s .z))) .nil)).picks (.cons (.s .z) (.cons .z .nil))⟩ hF
      ·
       refine op (OpS.mv rfl rfl rfl ?_)
       obtain ⟨x7, e20, hF⟩ := bindP_use hF
       refine op (OpS.iptr h53 Try.underlying34 ty5 rfl rfl rfl rfl (V.at (.s (.s (.s .z)))) e20 (fun u21 h54 => ?_))
       refine op (OpS.loadi h54 ty5 rfl rfl rfl .z ?_)
       refine op (OpS.rem rfl rfl rfl rfl (by decide) ?_)
       refine op (OpS.bin rfl rfl rfl rfl rfl ?_)
       refine op (OpS.pick rfl rfl rfl rfl ?_)
       refine RunL.nil ?_
       refine Run.slim [(49, .bool ((Int.tmod x7 2) != 1)), (5, u6), (4, u3), (2, u1)] ⟨rfl, rfl, rfl, rfl, trivial⟩ ?_
       refine Run.slim [(2, u1), (4, u3), (5, u6), (49, .bool ((Int.tmod x7 2) != 1))] ⟨rfl, rfl, rfl, rfl, trivial⟩ ?_
       exact hj1 ((Int.tmod x7 2) != 1) _ _ ⟨rfl, (h54.facts (.atm (.s (.s (.s (.s .z)))) .nil)).picks (.cons (.s .z) (.cons .z .nil))⟩ hF
set_option maxHeartbeats 8000000 in
theorem ref21_Bus_Step_ok {fuel : Nat} {a0 : ref21_Bus} {a1 : Fault_} {y : Delivery_ × Bool × ref21_Bus} (hF : ref21_Bus_Step fuel a0 a1 = some y) {w : World} {v0 v0_0 v1 : Value} :
  Spec Try.prog 20 [v0, v1].toArray w [(false, .val Fault_.rep v1 a1)] [(false, .box 79 (Rep.iso (fun s : ref21_Bus => (s.Masters, ())) (Rep.prod (Rep.raw (α := List ref21_Master) v0_0) Rep.unit)) v0 a0), (false, .oval (oslice 87 3 (fun _ => ref21_Master.orep)) v0_0 a0.Masters)] (fun v Γr Ωr Ωo => ∃ u0 w0_0 : Value, v = .tuple #[u0, .bool y.2.1] ∧ Γr = [(true, .val Delivery_.rep u0 y.1)] ∧ Ωr = [] ∧ Ωo = [(false, .box 79 (Rep.iso (fun s : ref21_Bus => (s.Masters, ())) (Rep.prod (Rep.raw (α := List ref21_Master) w0_0) Rep.unit)) v0 y.2.2), (false, (.oval (oslice 87 3 (fun _ => ref21_Master.orep)) w0_0 y.2.2.Masters))]) := by
 refine Spec.of (L := [(0, v0), (1, v1)]) Try.func20 rfl ⟨rfl, rfl, trivial⟩ rfl (fun e h => ?_)
 unfold ref21_Bus_Step at hF
 refine Run.seq ?_
 refine Run.reg ?_
 refine op (OpS.boxF h rfl rfl rfl (V.at .z) (fun u1 w1 h1 => ?_))
 refine op (OpS.alloc h1 ti46 Delivery_.zr rfl rfl (fun u2 w2 h2 => ?_))
 refine op (OpS.as rfl rfl rfl ?_)
 refine RunL.nil ?_
 refine Run.slim [(4, u2), (3, u1), (0, v0)] ⟨rfl, rfl, rfl, trivial⟩ ?_
 refine Run.seq ?_
 refine Run.seq ?_
 refine Run.reg ?_
 refine op (OpS.mv rfl rfl rfl ?_)
 obtain ⟨y1, e1, hF⟩ := bindP_use hF
 have h3 := h2.front (.cons (.s (.s .z)) (.cons (.s (.s .z)) .nil))
 refine op (OpS.callO h3 Try.func42 rfl rfl rfl rfl (vs := [v0, .bool false]) rfl (ref21_Bus_anyone_ok e1) rfl .nil ?_)
 rintro _ w3 _ _ _ ⟨rfl, rfl, rfl, rfl⟩ h4
 have h5 := h4
 simp only [List.cons_append, List.nil_append] at h5
 refine op (OpS.not rfl rfl rfl ?_)
 refine RunL.nil ?_
 refine Run.slim [(17, .bool (!y1)), (4, u2), (3, u1), (0, v0)] ⟨rfl, rfl, rfl, rfl, trivial⟩ ?_
 refine Run.ite rfl hF (fun e2 hF => ?_) (fun e2 hF => ?_)
 ·
  refine Run.seq ?_
  refine Run.reg ?_
  refine op (OpS.build (f := true) (x' := Delivery_.z) h5 pl46 ti46 Delivery_.zr rfl rfl rfl .nil (fun u3 h6 => ?_))
  refine op (OpS.storeB (f' := true) h6 (.s (.s .z)) PA.z Put.id ty46 rfl rfl rfl (V.at .z) (.inl rfl) (fun w4 h7 => ?_))
  refine op (OpS.as rfl rfl rfl ?_)
  refine RunL.nil ?_
  refine Run.slim [(5, .bool false), (4, u2)] ⟨rfl, rfl, trivial⟩ ?_
  obtain ⟨u4, hu1, h8⟩ := res_box h7 .z ty46
  refine Run.retP rfl (.cell rfl hu1 (.tmp rfl .nil)) ?_
  cases hF
  exact Post.mk' ⟨u4, v0_0, rfl, rfl, rfl, rfl⟩ (h8.picks (.cons (.s .z) (.cons (.s .z) .nil))) (.val (V.at .z) .nil)
 ·
  refine Run.skip ?_
  refine Run.seq ?_
  refine Run.seq ?_
  refine Run.reg ?_
  refine op (OpS.mv rfl rfl rfl ?_)
  obtain ⟨y2, e3, hF⟩ := bindP_use hF
  have h9 := h5.front (.cons .z (.cons .z .nil))
  refine op (OpS.callO h9 Try.func42 rfl rfl rfl rfl (vs := [v0, .bool true]) rfl (ref21_Bus_anyone_ok e3) rfl .nil ?_)
  rintro _ w5 _ _ _ ⟨rfl, rfl, rfl, rfl⟩ h10
  have h11 := h10
  simp only [List.cons_append, List.nil_append] at h11
  refine op (OpS.not rfl rfl rfl ?_)
  refine RunL.nil ?_
  refine Run.slim [(21, .bool (!y2)), (4, u2), (3, u1), (0, v0)] ⟨rfl, rfl, rfl, rfl, trivial⟩ ?_
  refine Run.join (σ := ref21_Bus) (fun s_ L_ w_ => L_ = [(0, v0), (3, u1), (4, u2)] ∧ St e w_ [] [(false, .box 79 (Rep.iso (fun s : ref21_Bus => (s.Masters, ())) (Rep.prod (Rep.raw (α := List ref21_Master) v0_0) Rep.unit)) v0 s_), (false, .box 38 Fault_.rep u1 a1), (true, .box 46 Delivery_.rep u2 Delivery_.z), (false, .oval (oslice 87 3 (fun _ => ref21_Master.orep)) v0_0 s_.Masters)]) hF (fun s1 _ w6 hI hF => ?_) (fun j1 hj1 hF => ?_)
  ·
   obtain ⟨rfl, h12⟩ := hI
   refine Run.seq ?_
   refine Run.reg ?_
   refine op (OpS.as rfl rfl rfl ?_)
   refine RunL.nil ?_
   refine Run.seq ?_
   refine Run.seq ?_
   refine Run.reg ?_
   refine op (OpS.as rfl rfl rfl ?_)
   refine RunL.nil ?_
   refine Run.block ?_
   refine Run.slim [(0, v0), (3, u1), (4, u2), (7, .slice none 0 0), (8, .int .i64 0)] ⟨rfl, rfl, rfl, rfl, rfl, trivial⟩ ?_
   refine Run.loopP (σ := ((List Int) × Int)) (fun s_ L_ w_ => ∃ u0_ : Value, L_ = [(0, v0), (3, u1), (4, u2), (7, u0_), (8, .int .i64 s_.2)] ∧ St e w_ [(false, .val (Rep.slice (Rep.int .u8)) u0_ s_.1)] [(false, .box 79 (Rep.iso (fun s : ref21_Bus => (s.Masters, ())) (Rep.prod (Rep.raw (α := List ref21_Master) v0_0) Rep.unit)) v0 s1), (false, .box 38 Fault_.rep u1 a1), (true, .box 46 Delivery_.rep u2 Delivery_.z), (false, .oval (oslice 87 3 (fun _ => ref21_Master.orep)) v0_0 s1.Masters)]) hF ⟨.slice none 0 0, rfl, (h12.facts (.val V.nil .nil)).picks (.cons .z (.cons .z (.cons .z (.cons .z .nil))))⟩ (fun k1 hk1 s2 _ w7 hI hF => ?_)
   obtain ⟨u5, rfl, h13⟩ := hI
   refine Run.seq ?_
   refine Run.seq ?_
   refine Run.reg ?_
   refine op (OpS.mv rfl rfl rfl ?_)
   refine op (OpS.mv rfl rfl rfl ?_)
   refine op (OpS.nchk h13 .z rfl rfl rfl ?_)
   refine op (OpS.fbox (o3 := 0) h13 .z PA.z fa79_0 rfl rfl rfl rfl ?_)
   refine op (OpS.loadR h13 .z PA.a (GetS.ok (GetS.iso _ (GetS.here GetS.id))) ty77 rfl rfl rfl rfl rfl ?_)
   refine op (OpS.lenD h13 (.s (.s (.s .z))) Try.underlying77 rfl rfl rfl ?_)
   refine op (OpS.bin rfl rfl rfl rfl rfl ?_)
   refine RunL.nil ?_
   refine Run.slim [(44, .bool (decide (s2.2 < (s1.Masters.length : Int)))), (0, v0), (3, u1), (4, u2), (7, u5), (8, .int .i64 s2.2)] ⟨rfl, rfl, rfl, rfl, rfl, rfl, trivial⟩ ?_
   refine Run.ite rfl hF (fun e4 hF => ?_) (fun e4 hF => ?_)
   ·
    refine Run.skip ?_
    refine Run.seq ?_
    refine Run.block ?_
    refine Run.seq ?_
    refine Run.reg ?_
    refine op (OpS.mv rfl rfl rfl ?_)
    refine op (OpS.mv rfl rfl rfl ?_)
    obtain ⟨y3, e5, hF⟩ := bindP_use hF
    have h14 := h13.front (.cons .z (.cons (.s (.s .z)) .nil))
    refine op (OpS.callO h14 Try.func43 rfl rfl rfl rfl (vs := [v0, .int .i64 s2.2, .bool true]) rfl (ref21_Bus_waits_ok e5) rfl .nil ?_)
    rintro _ w8 _ _ _ ⟨rfl, rfl, rfl, rfl⟩ h15
    have h16 := h15
    simp only [List.cons_append, List.nil_append] at h16
    refine op (OpS.mv rfl rfl rfl ?_)
    refine RunL.join (σ := Bool) (fun s_ L_ w_ => L_ = [(0, v0), (3, u1), (4, u2), (7, u5), (8, .int .i64 s2.2), (69, .bool s_)] ∧ St e w_ [(false, .val (Rep.slice (Rep.int .u8)) u5 s2.1)] [(false, .box 79 (Rep.iso (fun s : ref21_Bus => (s.Masters, ())) (Rep.prod (Rep.raw (α := List ref21_Master) v0_0) Rep.unit)) v0 s1), (false, .box 38 Fault_.rep u1 a1), (true, .box 46 Delivery_.rep u2 Delivery_.z), (false, .oval (oslice 87 3 (fun _ => ref21_Master.orep)) v0_0 s1.Masters)]) hF (fun s3 _ w9 hI hF => ?_) (fun j2 hj2 hF => ?_)
    ·
     obtain ⟨rfl, h17⟩ := hI
     refine Run.ite rfl hF (fun e6 hF => ?_) (fun e6 hF => ?_)
     ·
      refine Run.reg ?_
      refine op (OpS.mv rfl rfl rfl ?_)
      refine op (OpS.nchk h17 .z rfl rfl rfl ?_)
      refine op (OpS.fbox (o3 := 0) h17 .z PA.z fa79_0 rfl rfl rfl rfl ?_)
      refine op (OpS.loadR h17 .z PA.a (GetS.ok (GetS.iso _ (GetS.here GetS.id))) ty77 rfl rfl rfl rfl rfl ?_)
      refine op (OpS.mv rfl rfl rfl ?_)
      obtain ⟨x1, e7, hF⟩ := bindP_use hF
      refine op (OpS.iownD h17 (.s (.s (.s .z))) Try.underlying77 sz87 rfl rfl rfl rfl e7 ?_)
      refine op (OpS.fownD h17 (.s (.s (.s .z))) (idx_ne e7) PA.a fa87_0 rfl rfl rfl ?_)
      refine op (OpS.openO (F' := fun v_ => at' (fun _ => ref21_Master.orep) (s2.2).toNat (ref21_Master.orepW (raw v_))) (hn := fun _ => rfl) (hn' := fun _ => at_hn rfl rfl) h17 (.s (.s (.s .z))) (idx_ne e7) PA.a (fun v_ => Len.comp (Len.arrOpen e7) (ref21_Master.lenO v_)) rfl ty59 rfl rfl rfl rfl (fun u6 h18 => ?_))
      obtain ⟨x2, e8, hF⟩ := bindP_use hF
      refine op (OpS.iownD h18 (.s .z) Try.underlying59 sz34 rfl rfl rfl rfl e8 ?_)
      refine op (OpS.loadS h18 (.s .z) Wk.sh rfl (idx_ne e8) PA.a (Get.arr e8) ty34 rfl rfl rfl (fun u7 h19 => ?_))
      refine op (OpS.as rfl rfl rfl ?_)
      refine RunL.nil ?_
      refine Run.slim [(7, u7), (0, v0), (3, u1), (4, u2), (8, .int .i64 s2.2)] ⟨rfl, rfl, rfl, rfl, rfl, trivial⟩ ?_
      refine Run.endBlock ?_
      refine Run.reg ?_
      refine op (OpS.mv rfl rfl rfl ?_)
      refine op (OpS.bin rfl rfl rfl rfl rfl ?_)
      refine op (OpS.as rfl rfl rfl ?_)
      obtain ⟨x3, e9, hF⟩ := letP_use hF
      refine RunL.name e9 ?_
      refine RunL.nil ?_
      refine Run.slim [(8, .int .i64 x3), (7, u7), (0, v0), (3, u1), (4, u2)] ⟨rfl, rfl, rfl, rfl, rfl, trivial⟩ ?_
      have h20 := St.shutS (F := (at' (fun _ => ref21_Master.orep) (s2.2).toNat (ref21_Master.orepW (raw u6)))) (F2 := fun _ => ref21_Master.orep) (hn := at_hn rfl rfl) (hn2 := fun _ => rfl) (h19.front (.cons .z (.cons .z .nil))) (.inr rfl) (idx_ne e7) (Len.comp (Len.arrShut e7) (ref21_Master.lenC u6)) rfl
      refine Run.slim [(0, v0), (3, u1), (4, u2), (7, u7), (8, .int .i64 x3)] ⟨rfl, rfl, rfl, rfl, rfl, trivial⟩ ?_
      exact hk1 (x2, x3) _ _ ⟨u7, rfl, (h20.facts (.val (V.at .z) .nil)).picks (.cons (.s .z) (.cons (.s .z) (.cons (.s .z) (.cons .z .nil))))⟩ hF
     ·
      refine Run.skip ?_
      refine Run.endBlock ?_
      refine Run.reg ?_
      refine op (OpS.mv rfl rfl rfl ?_)
      refine op (OpS.bin rfl rfl rfl rfl rfl ?_)
      refine op (OpS.as rfl rfl rfl ?_)
      obtain ⟨x4, e10, hF⟩ := letP_use hF
      refine RunL.name e10 ?_
      refine RunL.nil ?_
      refine Run.slim [(8, .int .i64 x4), (0, v0), (3, u1), (4, u2), (7, u5)] ⟨rfl, rfl, rfl, rfl, rfl, trivial⟩ ?_
      refine Run.slim [(0, v0), (3, u1), (4, u2), (7, u5), (8, .int .i64 x4)] ⟨rfl, rfl, rfl, rfl, rfl, trivial⟩ ?_
      exact hk1 (s2.1, x4) _ _ ⟨u5, rfl, (h17.facts (.val (V.at .z) .nil)).picks (.cons .z (.cons .z (.cons .z (.cons .z .nil))))⟩ hF
    ·
     refine RunL.caseb hF (fun e11 hF => ?_) (fun e11 hF => ?_)
     ·
      refine op (OpS.mv rfl rfl rfl ?_)
      refine op (OpS.len h16 Try.underlying34 rfl rfl rfl (V.at .z) ?_)
      refine op (OpS.bin rfl rfl rfl rfl rfl ?_)
      refine op (OpS.mv rfl rfl rfl ?_)
      refine RunL.caseb hF (fun e12 hF => ?_) (fun e12 hF => ?_)
      ·
       refine op (OpS.pass rfl rfl rfl ?_)
       refine op (OpS.pass rfl rfl rfl ?_)
       refine op (OpS.pass rfl rfl rfl ?_)
       refine op (OpS.pass rfl rfl rfl ?_)
       refine op (OpS.pass rfl rfl rfl ?_)
       refine op (OpS.pass rfl rfl rfl ?_)
       refine op (OpS.pass rfl rfl rfl ?_)
       refine op (OpS.pass rfl rfl rfl ?_)
       refine op (OpS.pass rfl rfl rfl ?_)
       refine op (OpS.pass rfl rfl rfl ?_)
       refine op (OpS.pass rfl rfl rfl ?_)
       refine op (OpS.pass rfl rfl rfl ?_)
       refine op (OpS.pass rfl rfl rfl ?_)
       refine op (OpS.pick rfl rfl rfl rfl ?_)
       refine op (OpS.pick rfl rfl rfl rfl ?_)
       refine RunL.nil ?_
       refine Run.slim [(69, .bool true), (0, v0), (3, u1), (4, u2), (7, u5), (8, .int .i64 s2.2)] ⟨rfl, rfl, rfl, rfl, rfl, rfl, trivial⟩ ?_
       refine Run.slim [(0, v0), (3, u1), (4, u2), (7, u5), (8, .int .i64 s2.2), (69, .bool true)] ⟨rfl, rfl, rfl, rfl, rfl, rfl, trivial⟩ ?_
       exact hj2 (true) _ _ ⟨rfl, (h16.facts (.atm .z .nil)).picks (.cons .z (.cons (.s .z) (.cons (.s .z) (.cons .z .nil))))⟩ hF
      ·
       refine op (OpS.mv rfl rfl rfl ?_)
       refine op (OpS.nchk h16 .z rfl rfl rfl ?_)
       refine op (OpS.fbox (o3 := 0) h16 .z PA.z fa79_0 rfl rfl rfl rfl ?_)
       refine op (OpS.loadR h16 .z PA.a (GetS.ok (GetS.iso _ (GetS.here GetS.id))) ty77 rfl rfl rfl rfl rfl ?_)
       refine op (OpS.mv rfl rfl rfl ?_)
       obtain ⟨x5, e13, hF⟩ := bindP_use hF
       refine op (OpS.iownD h16 (.s .z) Try.underlying77 sz87 rfl rfl rfl rfl e13 ?_)
       refine op (OpS.fownD h16 (.s .z) (idx_ne e13) PA.a fa87_0 rfl rfl rfl ?_)
       refine op (OpS.openO (F' := fun v_ => at' (fun _ => ref21_Master.orep) (s2.2).toNat (ref21_Master.orepW (raw v_))) (hn := fun _ => rfl) (hn' := fun _ => at_hn rfl rfl) h16 (.s .z) (idx_ne e13) PA.a (fun v_ => Len.comp (Len.arrOpen e13) (ref21_Master.lenO v_)) rfl ty59 rfl rfl rfl rfl (fun u8 h21 => ?_))
       obtain ⟨x6, e14, hF⟩ := bindP_use hF
       refine op (OpS.iownD h21 (.s .z) Try.underlying59 sz34 rfl rfl rfl rfl e14 ?_)
       refine op (OpS.loadS h21 (.s .z) Wk.sh rfl (idx_ne e14) PA.a (Get.arr e14) ty34 rfl rfl rfl (fun u9 h22 => ?_))
       refine op (OpS.mv rfl rfl rfl ?_)
       obtain ⟨y4, e15, hF⟩ := bindP_use hF
       refine op (OpS.callP h22 Try.func44 rfl rfl rfl rfl (vs := [u9, u5]) rfl (ref20_Compare_ok e15) (.cons (f := false) (V.at .z) (.cons (f := false) (V.at (.s .z)) .nil)) ?_)
       rintro _ w10 _ _ _ ⟨rfl, rfl, rfl, rfl⟩ h23
       have h24 := h23 rfl rfl
       simp only [List.cons_append, List.nil_append] at h24
       refine op (OpS.bin rfl rfl rfl rfl rfl ?_)
       refine op (OpS.pick rfl rfl rfl rfl ?_)
       refine op (OpS.pick rfl rfl rfl rfl ?_)
       refine RunL.nil ?_
       refine Run.slim [(69, .bool (decide (y4 < 0))), (0, v0), (3, u1), (4, u2), (7, u5), (8, .int .i64 s2.2)] ⟨rfl, rfl, rfl, rfl, rfl, rfl, trivial⟩ ?_
       have h25 := St.shutS (F := (at' (fun _ => ref21_Master.orep) (s2.2).toNat (ref21_Master.orepW (raw u8)))) (F2 := fun _ => ref21_Master.orep) (hn := at_hn rfl rfl) (hn2 := fun _ => rfl) (h24.front (.cons .z (.cons .z .nil))) (.inr rfl) (idx_ne e13) (Len.comp (Len.arrShut e13) (ref21_Master.lenC u8)) rfl
       refine Run.slim [(0, v0), (3, u1), (4, u2), (7, u5), (8, .int .i64 s2.2), (69, .bool (decide (y4 < 0)))] ⟨rfl, rfl, rfl, rfl, rfl, rfl, trivial⟩ ?_
       exact hj2 (decide (y4 < 0)) _ _ ⟨rfl, (h25.facts (.atm (.s .z) .nil)).picks (.cons (.s .z) (.cons (.s .z) (.cons (.s .z) (.cons .z .nil))))⟩ hF
     ·
      refine op (OpS.pass rfl rfl rfl ?_)
      refine op (OpS.pass rfl rfl rfl ?_)
      refine op (OpS.pass rfl rfl rfl ?_)
      refine op (OpS.pass rfl rfl rfl ?_)
      refine op (OpS.pass rfl rfl rfl ?_)
      refine op (OpS.pass rfl rfl rfl ?_)
      refine op (OpS.pass rfl rfl rfl ?_)
      refine op (OpS.pass rfl rfl rfl ?_)
      refine op (OpS.pass rfl rfl rfl ?_)
      refine op (OpS.pass rfl rfl rfl ?_)
      refine op (OpS.pass rfl rfl rfl ?_)
      refine op (OpS.pass rfl rfl rfl ?_)
      refine op (OpS.pass rfl rfl rfl ?_)
      refine op (OpS.pass rfl rfl rfl ?_)
      refine op (OpS.pass rfl rfl rfl ?_)
      refine op (OpS.pass rfl rfl rfl ?_)
      refine op (OpS.pass rfl rfl rfl ?_)
      refine op (OpS.pass rfl rfl rfl ?_)
      refine op (OpS.pick rfl rfl rfl rfl ?_)
      refine RunL.nil ?_
      refine Run.slim [(69, .bool false), (0, v0), (3, u1), (4, u2), (7, u5), (8, .int .i64 s2.2)] ⟨rfl, rfl, rfl, rfl, rfl, rfl, trivial⟩ ?_
      refine Run.slim [(0, v0), (3, u1), (4, u2), (7, u5), (8, .int .i64 s2.2), (69, .bool false)] ⟨rfl, rfl, rfl, rfl, rfl, rfl, trivial⟩ ?_
      exact hj2 (false) _ _ ⟨rfl, (h16.facts (.atm .z .nil)).picks (.cons .z (.cons (.s .z) (.cons (.s .z) (.cons .z .nil))))⟩ hF
   ·
    refine Run.exit rfl ?_
    refine Run.seq ?_
    refine Run.reg ?_
    have h26 := St.nil 3 (Rep.int .i64) h13
    have h27 := St.nil 5 (Rep.int .u8) h26
    have h28 := St.nil 3 (Rep.int .i64) h27
    refine op (OpS.alloc (r := (Rep.iso (fun s : Delivery_ => (s.Masters, s.Bytes, s.OK, s.Failed, ())) (Rep.prod (Rep.raw (α := List Int) (.slice none 0 0)) (Rep.prod (Rep.raw (α := List Int) (.slice none 0 0)) (Rep.prod Rep.bool (Rep.prod (Rep.raw (α := List Int) (.slice none 0 0)) Rep.unit)))))) h28 ti46 (Zr.iso (y := Delivery_.z) _ (Zr.of (Zr.prod (Zr.raw rfl ([] : List Int)) (Zr.prod (Zr.raw rfl ([] : List Int)) (Zr.prod (Zr.bool false) (Zr.prod (Zr.raw rfl ([] : List Int)) Zr.unit)))) (by rfl))) rfl rfl (fun u10 w11 h29 => ?_))
    refine RunL.nil ?_
    refine Run.slim [(9, u10), (0, v0), (3, u1), (4, u2), (7, u5)] ⟨rfl, rfl, rfl, rfl, rfl, trivial⟩ ?_
    refine Run.seq ?_
    refine Run.seq ?_
    refine Run.reg ?_
    refine op (OpS.as rfl rfl rfl ?_)
    refine RunL.nil ?_
    refine Run.block ?_
    refine Run.slim [(0, v0), (3, u1), (4, u2), (7, u5), (9, u10), (10, .int .i64 0)] ⟨rfl, rfl, rfl, rfl, rfl, rfl, trivial⟩ ?_
    refine Run.loopP (σ := (Int × (List Int))) (fun s_ L_ w_ => ∃ u0_ : Value, L_ = [(0, v0), (3, u1), (4, u2), (7, u5), (9, u10), (10, .int .i64 s_.1)] ∧ St e w_ [(false, .val (Rep.slice (Rep.int .u8)) u5 s2.1)] [(false, .box 79 (Rep.iso (fun s : ref21_Bus => (s.Masters, ())) (Rep.prod (Rep.raw (α := List ref21_Master) v0_0) Rep.unit)) v0 s1), (false, .box 38 Fault_.rep u1 a1), (true, .box 46 Delivery_.rep u2 Delivery_.z), (true, .box 46 (Rep.iso (fun s : Delivery_ => (s.Masters, s.Bytes, s.OK, s.Failed, ())) (Rep.prod (Rep.raw (α := List Int) u0_) (Rep.prod (Rep.raw (α := List Int) (.slice none 0 0)) (Rep.prod Rep.bool (Rep.prod (Rep.raw (α := List Int) (.slice none 0 0)) Rep.unit))))) u10 Delivery_.z), (false, .oval (oslice 87 3 (fun _ => ref21_Master.orep)) v0_0 s1.Masters), (true, .slice 3 (Rep.int .i64) u0_ s_.2), (true, .slice 5 (Rep.int .u8) (.slice none 0 0) ([])), (true, .slice 3 (Rep.int .i64) (.slice none 0 0) ([]))]) hF ⟨(.slice none 0 0), rfl, (h29.facts (.atm .z .nil)).picks (.cons (.s (.s (.s (.s .z)))) (.cons (.s (.s (.s (.s .z)))) (.cons (.s (.s (.s (.s .z)))) (.cons .z (.cons (.s (.s (.s .z))) (.cons (.s (.s .z)) (.cons (.s .z) (.cons .z .nil))))))))⟩ (fun k2 hk2 s4 _ w12 hI hF => ?_)
    obtain ⟨u11, rfl, h30⟩ := hI
    refine Run.seq ?_
    refine Run.seq ?_
    refine Run.reg ?_
    refine op (OpS.mv rfl rfl rfl ?_)
    refine op (OpS.mv rfl rfl rfl ?_)
    refine op (OpS.nchk h30 .z rfl rfl rfl ?_)
    refine op (OpS.fbox (o3 := 0) h30 .z PA.z fa79_0 rfl rfl rfl rfl ?_)
    refine op (OpS.loadR h30 .z PA.a (GetS.ok (GetS.iso _ (GetS.here GetS.id))) ty77 rfl rfl rfl rfl rfl ?_)
    refine op (OpS.lenD h30 (.s (.s (.s (.s .z)))) Try.underlying77 rfl rfl rfl ?_)
    refine op (OpS.bin rfl rfl rfl rfl rfl ?_)
    refine RunL.nil ?_
    refine Run.slim [(86, .bool (decide (s4.1 < (s1.Masters.length : Int)))), (0, v0), (3, u1), (4, u2), (7, u5), (9, u10), (10, .int .i64 s4.1)] ⟨rfl, rfl, rfl, rfl, rfl, rfl, rfl, trivial⟩ ?_
    refine Run.ite rfl hF (fun e16 hF => ?_) (fun e16 hF => ?_)
    ·
     refine Run.skip ?_
     refine Run.seq ?_
     refine Run.block ?_
     refine Run.seq ?_
     refine Run.reg ?_
     refine op (OpS.mv rfl rfl rfl ?_)
     refine op (OpS.mv rfl rfl rfl ?_)
     obtain ⟨y5, e17, hF⟩ := bindP_use hF
     have h31 := h30.front (.cons .z (.cons (.s (.s (.s .z))) .nil))
     refine op (OpS.callO h31 Try.func43 rfl rfl rfl rfl (vs := [v0, .int .i64 s4.1, .bool true]) rfl (ref21_Bus_waits_ok e17) rfl .nil ?_)
     rintro _ w13 _ _ _ ⟨rfl, rfl, rfl, rfl⟩ h32
     have h33 := h32
     simp only [List.cons_append, List.nil_append] at h33
     refine op (OpS.mv rfl rfl rfl ?_)
     refine RunL.join (σ := Bool) (fun s_ L_ w_ => L_ = [(0, v0), (3, u1), (4, u2), (7, u5), (9, u10), (10, .int .i64 s4.1), (106, .bool s_)] ∧ St e w_ [(false, .val (Rep.slice (Rep.int .u8)) u5 s2.1)] [(false, .box 79 (Rep.iso (fun s : ref21_Bus => (s.Masters, ())) (Rep.prod (Rep.raw (α := List ref21_Master) v0_0) Rep.unit)) v0 s1), (false, .box 38 Fault_.rep u1 a1), (true, .box 46 Delivery_.rep u2 Delivery_.z), (true, .box 46 (Rep.iso (fun s : Delivery_ => (s.Masters, s.Bytes, s.OK, s.Failed, ())) (Rep.prod (Rep.raw (α := List Int) u11) (Rep.prod (Rep.raw (α := List Int) (.slice none 0 0)) (Rep.prod Rep.bool (Rep.prod (Rep.raw (α := List Int) (.slice none 0 0)) Rep.unit))))) u10 Delivery_.z), (false, .oval (oslice 87 3 (fun _ => ref21_Master.orep)) v0_0 s1.Masters), (true, .slice 3 (Rep.int .i64) u11 s4.2), (true, .slice 5 (Rep.int .u8) (.slice none 0 0) ([])), (true, .slice 3 (Rep.int .i64) (.slice none 0 0) ([]))]) hF (fun s5 _ w14 hI hF => ?_) (fun j3 hj3 hF => ?_)
     ·
      obtain ⟨rfl, h34⟩ := hI
      refine Run.ite rfl hF (fun e18 hF => ?_) (fun e18 hF => ?_)
      ·
       refine Run.reg ?_
       refine op (OpS.fbox (o3 := 0) h34 (.s (.s (.s .z))) PA.z fa46_0 rfl rfl rfl rfl ?_)
       refine op (OpS.loadR h34 (.s (.s (.s .z))) PA.a (GetS.ok (GetS.iso _ (GetS.here GetS.id))) ty33 rfl rfl rfl rfl rfl ?_)
       refine op (OpS.mv rfl rfl rfl ?_)
       refine op (OpS.lit (r := (Rep.int .i64)) (f := true) h34 Try.underlying33 ti3 rfl rfl rfl rfl rfl (.cons rfl V.int .nil) rfl rfl (fun u12 w15 h35 => ?_))
       obtain ⟨x7, e19, hF⟩ := bindP_use hF
       refine op (OpS.app (f' := true) h35 (.s (.s (.s (.s (.s .z))))) Try.underlying33 ti3 rfl rfl rfl rfl rfl rfl rfl (V.at .z) (.inr Pure.int) e19 (fun u13 w16 h36 => ?_))
       refine op (OpS.fbox (o3 := 0) h36 (.s (.s (.s (.s .z)))) PA.z fa46_0 rfl rfl rfl rfl ?_)
       refine op (OpS.storeC (f' := true) (fr := (Rep.raw u13)) (r' := (Rep.iso (fun s : Delivery_ => (s.Masters, s.Bytes, s.OK, s.Failed, ())) (Rep.prod (Rep.raw (α := List Int) u13) (Rep.prod (Rep.raw (α := List Int) (.slice none 0 0)) (Rep.prod Rep.bool (Rep.prod (Rep.raw (α := List Int) (.slice none 0 0)) Rep.unit)))))) (x' := Delivery_.z) h36 (.s (.s (.s (.s .z)))) PA.a (Chg.iso _ (Chg.here (Chg.id (by rfl)))) (Ty.like ty33 (by rfl) (by rfl)) rfl rfl rfl (V.raw (f := true) (St.own1 h36 .z) Delivery_.z.Masters) (.inl rfl) (fun w17 h37 => ?_))
       refine RunL.nil ?_
       refine Run.slim [(0, v0), (3, u1), (4, u2), (7, u5), (9, u10), (10, .int .i64 s4.1)] ⟨rfl, rfl, rfl, rfl, rfl, rfl, trivial⟩ ?_
       refine Run.endBlock ?_
       refine Run.reg ?_
       refine op (OpS.mv rfl rfl rfl ?_)
       refine op (OpS.bin rfl rfl rfl rfl rfl ?_)
       refine op (OpS.as rfl rfl rfl ?_)
       obtain ⟨x8, e20, hF⟩ := letP_use hF
       refine RunL.name e20 ?_
       refine RunL.nil ?_
       refine Run.slim [(10, .int .i64 x8), (0, v0), (3, u1), (4, u2), (7, u5), (9, u10)] ⟨rfl, rfl, rfl, rfl, rfl, rfl, trivial⟩ ?_
       refine Run.slim [(0, v0), (3, u1), (4, u2), (7, u5), (9, u10), (10, .int .i64 x8)] ⟨rfl, rfl, rfl, rfl, rfl, rfl, trivial⟩ ?_
       exact hk2 (x8, x7) _ _ ⟨u13, rfl, (h37.facts (.atm (.s .z) .nil)).picks (.cons (.s (.s .z)) (.cons (.s (.s .z)) (.cons (.s (.s .z)) (.cons .z (.cons (.s .z) (.cons .z (.cons .z (.cons .z .nil))))))))⟩ hF
      ·
       refine Run.skip ?_
       refine Run.endBlock ?_
       refine Run.reg ?_
       refine op (OpS.mv rfl rfl rfl ?_)
       refine op (OpS.bin rfl rfl rfl rfl rfl ?_)
       refine op (OpS.as rfl rfl rfl ?_)
       obtain ⟨x9, e21, hF⟩ := letP_use hF
       refine RunL.name e21 ?_
       refine RunL.nil ?_
       refine Run.slim [(10, .int .i64 x9), (0, v0), (3, u1), (4, u2), (7, u5), (9, u10)] ⟨rfl, rfl, rfl, rfl, rfl, rfl, trivial⟩ ?_
       refine Run.slim [(0, v0), (3, u1), (4, u2), (7, u5), (9, u10), (10, .int .i64 x9)] ⟨rfl, rfl, rfl, rfl, rfl, rfl, trivial⟩ ?_
       exact hk2 (x9, s4.2) _ _ ⟨u11, rfl, (h34.facts (.atm .z .nil)).picks (.cons .z (.cons .z (.cons .z (.cons .z (.cons .z (.cons .z (.cons .z (.cons .z .nil))))))))⟩ hF
     ·
      refine RunL.caseb hF (fun e22 hF => ?_) (fun e22 hF => ?_)
      ·
       refine op (OpS.mv rfl rfl rfl ?_)
       refine op (OpS.nchk h33 .z rfl rfl rfl ?_)
       refine op (OpS.fbox (o3 := 0) h33 .z PA.z fa79_0 rfl rfl rfl rfl ?_)
       refine op (OpS.loadR h33 .z PA.a (GetS.ok (GetS.iso _ (GetS.here GetS.id))) ty77 rfl rfl rfl rfl rfl ?_)
       refine op (OpS.mv rfl rfl rfl ?_)
       obtain ⟨x10, e23, hF⟩ := bindP_use hF
       refine op (OpS.iownD h33 (.s .z) Try.underlying77 sz87 rfl rfl rfl rfl e23 ?_)
       refine op (OpS.fownD h33 (.s .z) (idx_ne e23) PA.a fa87_0 rfl rfl rfl ?_)
       refine op (OpS.openO (F' := fun v_ => at' (fun _ => ref21_Master.orep) (s4.1).toNat (ref21_Master.orepW (raw v_))) (hn := fun _ => rfl) (hn' := fun _ => at_hn rfl rfl) h33 (.s .z) (idx_ne e23) PA.a (fun v_ => Len.comp (Len.arrOpen e23) (ref21_Master.lenO v_)) rfl ty59 rfl rfl rfl rfl (fun u14 h38 => ?_))
       obtain ⟨x11, e24, hF⟩ := bindP_use hF
       refine op (OpS.iownD h38 (.s .z) Try.underlying59 sz34 rfl rfl rfl rfl e24 ?_)
       refine op (OpS.loadS h38 (.s .z) Wk.sh rfl (idx_ne e24) PA.a (Get.arr e24) ty34 rfl rfl rfl (fun u15 h39 => ?_))
       refine op (OpS.mv rfl rfl rfl ?_)
       obtain ⟨y6, e25, hF⟩ := bindP_use hF
       refine op (OpS.callP h39 Try.func44 rfl rfl rfl rfl (vs := [u15, u5]) rfl (ref20_Compare_ok e25) (.cons (f := false) (V.at .z) (.cons (f := false) (V.at (.s .z)) .nil)) ?_)
       rintro _ w18 _ _ _ ⟨rfl, rfl, rfl, rfl⟩ h40
       have h41 := h40 rfl rfl
       simp only [List.cons_append, List.nil_append] at h41
       refine op (OpS.bin rfl rfl rfl rfl rfl ?_)
       refine op (OpS.pick rfl rfl rfl rfl ?_)
       refine RunL.nil ?_
       refine Run.slim [(106, .bool (y6 == 0)), (0, v0), (3, u1), (4, u2), (7, u5), (9, u10), (10, .int .i64 s4.1)] ⟨rfl, rfl, rfl, rfl, rfl, rfl, rfl, trivial⟩ ?_
       have h42 := St.shutS (F := (at' (fun _ => ref21_Master.orep) (s4.1).toNat (ref21_Master.orepW (raw u14)))) (F2 := fun _ => ref21_Master.orep) (hn := at_hn rfl rfl) (hn2 := fun _ => rfl) (h41.front (.cons .z (.cons .z .nil))) (.inr rfl) (idx_ne e23) (Len.comp (Len.arrShut e23) (ref21_Master.lenC u14)) rfl
       refine Run.slim [(0, v0), (3, u1), (4, u2), (7, u5), (9, u10), (10, .int .i64 s4.1), (106, .bool (y6 == 0))] ⟨rfl, rfl, rfl, rfl, rfl, rfl, rfl, trivial⟩ ?_
       exact hj3 (y6 == 0) _ _ ⟨rfl, (h42.facts (.atm (.s .z) .nil)).picks (.cons (.s .z) (.cons (.s .z) (.cons (.s .z) (.cons (.s .z) (.cons .z (.cons .z (.cons .z (.cons .z .nil))))))))⟩ hF
      ·
       refine op (OpS.pass rfl rfl rfl ?_)
       refine op (OpS.pass rfl rfl rfl ?_)
       refine op (OpS.pass rfl rfl rfl ?_)
       refine op (OpS.pass rfl rfl rfl ?_)
       refine op (OpS.pass rfl rfl rfl ?_)
       refine op (OpS.pass rfl rfl rfl ?_)
       refine op (OpS.pass rfl rfl rfl ?_)
       refine op (OpS.pass rfl rfl rfl ?_)
       refine op (OpS.pass rfl rfl rfl ?_)
       refine op (OpS.pass rfl rfl rfl ?_)
       refine op (OpS.pass rfl rfl rfl ?_)
       refine op (OpS.pass rfl rfl rfl ?_)
       refine op (OpS.pass rfl rfl rfl ?_)
       refine op (OpS.pick rfl rfl rfl rfl ?_)
       refine RunL.nil ?_
       refine Run.slim [(106, .bool false), (0, v0), (3, u1), (4, u2), (7, u5), (9, u10), (10, .int .i64 s4.1)] ⟨rfl, rfl, rfl, rfl, rfl, rfl, rfl, trivial⟩ ?_
       refine Run.slim [(0, v0), (3, u1), (4, u2), (7, u5), (9, u10), (10, .int .i64 s4.1), (106, .bool false)] ⟨rfl, rfl, rfl, rfl, rfl, rfl, rfl, trivial⟩ ?_
       exact hj3 (false) _ _ ⟨rfl, (h33.facts (.atm .z .nil)).picks (.cons .z (.cons (.s .z) (.cons (.s .z) (.cons (.s .z) (.cons .z (.cons .z (.cons .z (.cons .z .nil))))))))⟩ hF
    ·
     refine Run.exit rfl ?_
     refine Run.seq ?_
     refine Run.seq ?_
     refine Run.reg ?_
     refine op (OpS.fbox (o3 := 0) h30 (.s .z) PA.z fa38_0 rfl rfl rfl rfl ?_)
     refine op (OpS.loadBi h30 (.s .z) PA.a (Get.fld Fault_.f0) ty3 rfl rfl rfl ?_)
     refine op (OpS.bin rfl rfl rfl rfl rfl ?_)
     refine RunL.nil ?_
     refine Run.slim [(115, .bool (a1.Kind != 1)), (0, v0), (3, u1), (4, u2), (7, u5), (9, u10)] ⟨rfl, rfl, rfl, rfl, rfl, rfl, trivial⟩ ?_
     refine Run.join (σ := (Delivery_ × (List Int))) (fun s_ L_ w_ => ∃ u0_ : Value, L_ = [(0, v0), (4, u2), (9, u10)] ∧ St e w_ [] [(false, .box 79 (Rep.iso (fun s : ref21_Bus => (s.Masters, ())) (Rep.prod (Rep.raw (α := List ref21_Master) v0_0) Rep.unit)) v0 s1), (true, .box 46 Delivery_.rep u2 Delivery_.z), (true, .box 46 (Rep.iso (fun s : Delivery_ => (s.Masters, s.Bytes, s.OK, s.Failed, ())) (Rep.prod (Rep.slice (Rep.int .i64)) (Rep.prod (Rep.raw (α := List Int) u0_) (Rep.prod Rep.bool (Rep.prod (Rep.raw (α := List Int) (.slice none 0 0)) Rep.unit))))) u10 s_.1), (false, .oval (oslice 87 3 (fun _ => ref21_Master.orep)) v0_0 s1.Masters), (true, .slice 3 (Rep.int .i64) (.slice none 0 0) ([])), (true, .slice 5 (Rep.int .u8) u0_ s_.2)]) hF (fun s6 _ w19 hI hF => ?_) (fun j4 hj4 hF => ?_)
     ·
      obtain ⟨u16, rfl, h43⟩ := hI
      refine Run.seq ?_
      refine Run.seq ?_
      refine Run.reg ?_
      refine op (OpS.as rfl rfl rfl ?_)
      refine RunL.nil ?_
      refine Run.block ?_
      have h44 := (h43.pick (.s (.s (.s (.s (.s .z)))))).freeze
      have h45 := h44.pick (.s (.s .z))
      have h46 := St.boxJ (r' := (Rep.iso (fun s : Delivery_ => (s.Masters, s.Bytes, s.OK, s.Failed, ())) (Rep.prod (Rep.slice (Rep.int .i64)) (Rep.prod (Rep.slice (Rep.int .u8)) (Rep.prod Rep.bool (Rep.prod (Rep.raw (α := List Int) (.slice none 0 0)) Rep.unit)))))) (x' := { s6.1 with Bytes := s6.2 }) h45 (fun _ _ hs_ => (Jn.iso _ (Jn.prod Jn.refl (Jn.prod (Jn.raw ((V.at .z) _ _ hs_) rfl) (Jn.prod Jn.refl (Jn.prod Jn.same Jn.refl))))))
      refine Run.slim [(0, v0), (4, u2), (9, u10), (13, .int .i64 0)] ⟨rfl, rfl, rfl, rfl, trivial⟩ ?_
      refine Run.loopP (σ := (Int × ref21_Bus × (List Int))) (fun s_ L_ w_ => ∃ u0_ : Value, L_ = [(0, v0), (4, u2), (9, u10), (13, .int .i64 s_.1)] ∧ St e w_ [] [(false, .box 79 (Rep.iso (fun s : ref21_Bus => (s.Masters, ())) (Rep.prod (Rep.raw (α := List ref21_Master) v0_0) Rep.unit)) v0 s_.2.1), (true, .box 46 Delivery_.rep u2 Delivery_.z), (true, .box 46 (Rep.iso (fun s : Delivery_ => (s.Masters, s.Bytes, s.OK, s.Failed, ())) (Rep.prod (Rep.slice (Rep.int .i64)) (Rep.prod (Rep.slice (Rep.int .u8)) (Rep.prod Rep.bool (Rep.prod (Rep.raw (α := List Int) u0_) Rep.unit))))) u10 ({ s6.1 with Bytes := s6.2 })), (false, .oval (oslice 87 3 (fun _ => ref21_Master.orep)) v0_0 s_.2.1.Masters), (true, .slice 3 (Rep.int .i64) u0_ s_.2.2)]) hF ⟨(.slice none 0 0), rfl, (h46.facts .nil).picks (.cons (.s .z) (.cons (.s .z) (.cons .z (.cons .z (.cons .z .nil)))))⟩ (fun k3 hk3 s7 _ w20 hI hF => ?_)
      obtain ⟨u17, rfl, h47⟩ := hI
      refine Run.seq ?_
      refine Run.seq ?_
      refine Run.reg ?_
      refine op (OpS.mv rfl rfl rfl ?_)
      refine op (OpS.fbox (o3 := 0) h47 (.s (.s .z)) PA.z fa46_0 rfl rfl rfl rfl ?_)
      refine op (OpS.loadB (fr := (Rep.slice (Rep.int .i64))) h47 (.s (.s .z)) PA.a (GetS.ok (GetS.iso _ (GetS.here GetS.id))) (Ty.like ty33 (by rfl) (by rfl)) rfl rfl rfl (fun u18 h48 => ?_))
      refine op (OpS.len h48 Try.underlying33 rfl rfl rfl (V.at .z) ?_)
      refine op (OpS.bin rfl rfl rfl rfl rfl ?_)
      refine RunL.nil ?_
      refine Run.slim [(162, .bool (decide (s7.1 < ((({ s6.1 with Bytes := s6.2 }).Masters).length : Int)))), (0, v0), (4, u2), (9, u10), (13, .int .i64 s7.1)] ⟨rfl, rfl, rfl, rfl, rfl, trivial⟩ ?_
      refine Run.ite rfl hF (fun e26 hF => ?_) (fun e26 hF => ?_)
      ·
       refine Run.skip ?_
       refine Run.seq ?_
       refine Run.block ?_
       refine Run.seq ?_
       have h49 := h48.picks (.cons .z (.cons (.s .z) (.cons (.s .z) (.cons .z (.cons .z .nil)))))
       obtain ⟨x12, e27, hF⟩ := bindP_use hF
       obtain ⟨x13, e28, hF⟩ := bindP_use hF
       refine Run.drawV (Ωs := [(true, .box 46 Delivery_.rep u2 Delivery_.z), (true, .slice 3 (Rep.int .i64) u17 s7.2.2)]) [⟨some 165, some (v0), fun _ => [], fun ds_ u_ => [], [], [], none⟩, ⟨some 166, some (v0), fun _ => [], fun ds_ u_ => [], [], [(0, [])], none⟩, ⟨some 167, some ((padd v0 0)), fun _ => [], fun ds_ u_ => [], [], [(0, [])], none⟩, ⟨some 168, some (v0_0), fun _ => [], fun ds_ u_ => [], [], [(0, [])], none⟩, ⟨some 169, some ((padd u10 0)), fun _ => [], fun ds_ u_ => [], [], [(1, [])], none⟩, ⟨some 170, none, fun u_ => [(true, .val (Rep.slice (Rep.int .i64)) u_ (({ s6.1 with Bytes := s6.2 }).Masters))], fun ds_ u_ => [], [], [(1, [])], none⟩, ⟨some 171, some (.int .i64 s7.1), fun _ => [], fun ds_ u_ => [], [], [], none⟩, ⟨some 172, none, fun u_ => [(true, .ptr (Rep.int .i64) u_ x12)], fun ds_ u_ => [], [], [], none⟩, ⟨some 173, some (.int .i64 x12), fun _ => [], fun ds_ u_ => [], [], [], none⟩, ⟨some 174, some ((padd (sp v0_0) ((x12 : Int).toNat * 3))), fun _ => [], fun ds_ u_ => [], [], [(2, [])], none⟩] [[], [0], [1], [2], [], [4], [], [5, 6], [7], [3, 8]] [[(false, .box 79 (Rep.iso (fun s : ref21_Bus => (s.Masters, ())) (Rep.prod (Rep.raw (α := List ref21_Master) v0_0) Rep.unit)) v0 s7.2.1)], [(true, .box 46 (Rep.iso (fun s : Delivery_ => (s.Masters, s.Bytes, s.OK, s.Failed, ())) (Rep.prod (Rep.slice (Rep.int .i64)) (Rep.prod (Rep.slice (Rep.int .u8)) (Rep.prod Rep.bool (Rep.prod (Rep.raw (α := List Int) u17) Rep.unit))))) u10 ({ s6.1 with Bytes := s6.2 }))], [(false, .oval (oslice 87 3 (fun _ => ref21_Master.orep)) v0_0 s7.2.1.Masters)]] [0, 1, 2, 3, 4, 5, 6, 7, 8, 9, 10, 11, 12] Try_mixed rfl rfl rfl h49 (.cons ?_ (.cons ?_ (.cons ?_ (.cons ?_ (.cons ?_ (.cons ?_ (.cons ?_ (.cons ?_ (.cons ?_ (.cons ?_ .nil)))))))))) (fun q1 w hq1 h => ?_)
       ·intro q1 w Γx Ωx h
        refine OpS.mv rfl rfl rfl ?_
        exact ⟨undef, rfl, trivial, h⟩
       ·intro q1 w Γx Ωx h
        have h : St e w ([(true, .val (Rep.slice (Rep.int .i64)) u18 (({ s6.1 with Bytes := s6.2 }).Masters))] ++ Γx) ([(false, .box 79 (Rep.iso (fun s : ref21_Bus => (s.Masters, ())) (Rep.prod (Rep.raw (α := List ref21_Master) v0_0) Rep.unit)) v0 s7.2.1), (true, .box 46 Delivery_.rep u2 Delivery_.z), (true, .slice 3 (Rep.int .i64) u17 s7.2.2)] ++ Ωx) := h
        refine OpS.nchk h .z rfl rfl rfl ?_
        exact ⟨undef, rfl, trivial, h⟩
       ·intro q1 w Γx Ωx h
        have h : St e w ([(true, .val (Rep.slice (Rep.int .i64)) u18 (({ s6.1 with Bytes := s6.2 }).Masters))] ++ Γx) ([(false, .box 79 (Rep.iso (fun s : ref21_Bus => (s.Masters, ())) (Rep.prod (Rep.raw (α := List ref21_Master) v0_0) Rep.unit)) v0 s7.2.1), (true, .box 46 Delivery_.rep u2 Delivery_.z), (true, .slice 3 (Rep.int .i64) u17 s7.2.2)] ++ Ωx) := h
        refine OpS.fbox (o3 := 0) h .z PA.z fa79_0 rfl rfl rfl rfl ?_
        exact ⟨undef, rfl, trivial, h⟩
       ·intro q1 w Γx Ωx h
        have h : St e w ([(true, .val (Rep.slice (Rep.int .i64)) u18 (({ s6.1 with Bytes := s6.2 }).Masters))] ++ Γx) ([(false, .box 79 (Rep.iso (fun s : ref21_Bus => (s.Masters, ())) (Rep.prod (Rep.raw (α := List ref21_Master) v0_0) Rep.unit)) v0 s7.2.1), (true, .box 46 Delivery_.rep u2 Delivery_.z), (true, .slice 3 (Rep.int .i64) u17 s7.2.2)] ++ Ωx) := h
        refine OpS.loadR h .z PA.a (GetS.ok (GetS.iso _ (GetS.here GetS.id))) ty77 rfl rfl rfl rfl rfl ?_
        exact ⟨undef, rfl, trivial, h⟩
       ·intro q1 w Γx Ωx h
        have h : St e w ([(true, .val (Rep.slice (Rep.int .i64)) u18 (({ s6.1 with Bytes := s6.2 }).Masters))] ++ Γx) ([(true, .box 46 (Rep.iso (fun s : Delivery_ => (s.Masters, s.Bytes, s.OK, s.Failed, ())) (Rep.prod (Rep.slice (Rep.int .i64)) (Rep.prod (Rep.slice (Rep.int .u8)) (Rep.prod Rep.bool (Rep.prod (Rep.raw (α := List Int) u17) Rep.unit))))) u10 ({ s6.1 with Bytes := s6.2 })), (true, .box 46 Delivery_.rep u2 Delivery_.z), (true, .slice 3 (Rep.int .i64) u17 s7.2.2)] ++ Ωx) := h
        refine OpS.fbox (o3 := 0) h .z PA.z fa46_0 rfl rfl rfl rfl ?_
        exact ⟨undef, rfl, trivial, h⟩
       ·intro q1 w Γx Ωx h
        have h : St e w ([(true, .val (Rep.slice (Rep.int .i64)) u18 (({ s6.1 with Bytes := s6.2 }).Masters))] ++ Γx) ([(true, .box 46 (Rep.iso (fun s : Delivery_ => (s.Masters, s.Bytes, s.OK, s.Failed, ())) (Rep.prod (Rep.slice (Rep.int .i64)) (Rep.prod (Rep.slice (Rep.int .u8)) (Rep.prod Rep.bool (Rep.prod (Rep.raw (α := List Int) u17) Rep.unit))))) u10 ({ s6.1 with Bytes := s6.2 })), (true, .box 46 Delivery_.rep u2 Delivery_.z), (true, .slice 3 (Rep.int .i64) u17 s7.2.2)] ++ Ωx) := h
        refine OpS.loadB (fr := (Rep.slice (Rep.int .i64))) h .z PA.a (GetS.ok (GetS.iso _ (GetS.here GetS.id))) (Ty.like ty33 (by rfl) (by rfl)) rfl rfl rfl (fun u h52 => ?_)
        exact ⟨u, rfl, trivial, h52⟩
       ·intro q1 w Γx Ωx h
        refine OpS.mv rfl rfl rfl ?_
        exact ⟨undef, rfl, trivial, h⟩
       ·intro q1 w Γx Ωx h
        refine OpS.iptr h Try.underlying33 ty3 rfl rfl rfl rfl (V.at .z) e27 (fun u h53 => ?_)
        exact ⟨u, rfl, trivial, h53⟩
       ·intro q1 w Γx Ωx h
        refine OpS.loadi h ty3 rfl rfl rfl .z ?_
        exact ⟨undef, rfl, trivial, h⟩
       ·intro q1 w Γx Ωx h
        have h : St e w ([(true, .val (Rep.slice (Rep.int .i64)) u18 (({ s6.1 with Bytes := s6.2 }).Masters))] ++ Γx) ([(false, .oval (oslice 87 3 (fun _ => ref21_Master.orep)) v0_0 s7.2.1.Masters), (true, .box 46 Delivery_.rep u2 Delivery_.z), (true, .slice 3 (Rep.int .i64) u17 s7.2.2)] ++ Ωx) := h
        refine OpS.iownD h .z Try.underlying77 sz87 rfl rfl rfl rfl e28 ?_
        exact ⟨undef, rfl, trivial, h⟩
       have h54 : St e w [(true, .val (Rep.slice (Rep.int .i64)) (q1 5) (({ s6.1 with Bytes := s6.2 }).Masters)), (true, .ptr (Rep.int .i64) (q1 7) x12), (true, .val (Rep.slice (Rep.int .i64)) u18 (({ s6.1 with Bytes := s6.2 }).Masters))] [(false, .box 79 (Rep.iso (fun s : ref21_Bus => (s.Masters, ())) (Rep.prod (Rep.raw (α := List ref21_Master) v0_0) Rep.unit)) v0 s7.2.1), (true, .box 46 (Rep.iso (fun s : Delivery_ => (s.Masters, s.Bytes, s.OK, s.Failed, ())) (Rep.prod (Rep.slice (Rep.int .i64)) (Rep.prod (Rep.slice (Rep.int .u8)) (Rep.prod Rep.bool (Rep.prod (Rep.raw (α := List Int) u17) Rep.unit))))) u10 ({ s6.1 with Bytes := s6.2 })), (false, .oval (oslice 87 3 (fun _ => ref21_Master.orep)) v0_0 s7.2.1.Masters), (true, .box 46 Delivery_.rep u2 Delivery_.z), (true, .slice 3 (Rep.int .i64) u17 s7.2.2)] := h
       refine op (OpS.as rfl rfl rfl ?_)
       refine RunL.nil ?_
       refine Run.slim [(14, (padd (sp v0_0) ((x12 : Int).toNat * 3))), (0, v0), (4, u2), (9, u10), (13, .int .i64 s7.1)] ⟨rfl, rfl, rfl, rfl, rfl, trivial⟩ ?_
       refine Run.seq ?_
       refine Run.reg ?_
       refine op (OpS.mv rfl rfl rfl ?_)
       refine op (OpS.nchkO h54 (.s (.s .z)) (idx_ne e28) PA.a rfl rfl rfl ?_)
       refine op (OpS.fownD h54 (.s (.s .z)) (idx_ne e28) PA.a fa87_2 rfl rfl rfl ?_)
       obtain ⟨d1, e29, hF⟩ := letP_use hF
       refine op (OpS.storeOD (F2 := fun _ => ref21_Master.orep) (f' := true) (hn := fun _ => rfl) (hn2 := fun _ => rfl) h54 (.s (.s .z)) (idx_ne e28) PA.a (Len.comp (Len.arrSame e28) ref21_Master.l2) ty4 rfl rfl rfl V.bool (.inr rfl) (fun w21 h55 => ?_))
       have h56 := St.termD (l' := d1) h55 e29
       refine RunL.nil ?_
       refine Run.slim [(14, (padd (sp v0_0) ((x12 : Int).toNat * 3))), (0, v0), (4, u2), (9, u10), (13, .int .i64 s7.1)] ⟨rfl, rfl, rfl, rfl, rfl, trivial⟩ ?_
       refine Run.seq ?_
       refine Run.reg ?_
       refine op (OpS.mv rfl rfl rfl ?_)
       obtain ⟨x14, e30, hF⟩ := bindP_use hF
       refine op (OpS.nchkO h56 .z (idx_ne e30) PA.a rfl rfl rfl ?_)
       refine op (OpS.fownD h56 .z (idx_ne e30) PA.a fa87_1 rfl rfl rfl ?_)
       refine op (OpS.loadSi h56 .z ref21_Master.wk rfl (idx_ne e30) PA.a (Get.comp (Get.arr e30) (GetS.ok (GetS.iso _ (GetS.there (GetS.here GetS.id))))) ty3 rfl rfl rfl ?_)
       refine op (OpS.bin rfl rfl rfl rfl rfl ?_)
       obtain ⟨x15, e31, hF⟩ := bindP_use hF
       refine op (OpS.nchkO h56 .z (idx_ne e31) PA.a rfl rfl rfl ?_)
       refine op (OpS.fownD h56 .z (idx_ne e31) PA.a fa87_1 rfl rfl rfl ?_)
       obtain ⟨d2, e32, hF⟩ := letP_use hF
       refine op (OpS.storeOD (F2 := fun _ => ref21_Master.orep) (f' := true) (hn := fun _ => rfl) (hn2 := fun _ => rfl) h56 .z (idx_ne e31) PA.a (Len.comp (Len.arrSame e31) ref21_Master.l1) ty3 rfl rfl rfl V.int (.inr rfl) (fun w22 h57 => ?_))
       have h58 := St.termD (l' := d2) h57 e32
       refine RunL.nil ?_
       refine Run.slim [(14, (padd (sp v0_0) ((x12 : Int).toNat * 3))), (0, v0), (4, u2), (9, u10), (13, .int .i64 s7.1)] ⟨rfl, rfl, rfl, rfl, rfl, trivial⟩ ?_
       refine Run.seq ?_
       refine Run.seq ?_
       refine Run.reg ?_
       refine op (OpS.fbox (o3 := 2) h58 (.s (.s .z)) PA.z fa46_2 rfl rfl rfl rfl ?_)
       refine op (OpS.loadBb h58 (.s (.s .z)) PA.a (GetS.ok (GetS.iso _ (GetS.there (GetS.there (GetS.here GetS.id))))) ty4 rfl rfl rfl ?_)
       refine op (OpS.not rfl rfl rfl ?_)
       refine op (OpS.mv rfl rfl rfl ?_)
       refine RunL.join (σ := Bool) (fun s_ L_ w_ => L_ = [(0, v0), (4, u2), (9, u10), (13, .int .i64 s7.1), (14, (padd (sp v0_0) ((x12 : Int).toNat * 3))), (194, .bool s_)] ∧ St e w_ [] [(false, .box 79 (Rep.iso (fun s : ref21_Bus => (s.Masters, ())) (Rep.prod (Rep.raw (α := List ref21_Master) v0_0) Rep.unit)) v0 ({ s7.2.1 with Masters := d2 })), (true, .box 46 Delivery_.rep u2 Delivery_.z), (true, .box 46 (Rep.iso (fun s : Delivery_ => (s.Masters, s.Bytes, s.OK, s.Failed, ())) (Rep.prod (Rep.slice (Rep.int .i64)) (Rep.prod (Rep.slice (Rep.int .u8)) (Rep.prod Rep.bool (Rep.prod (Rep.raw (α := List Int) u17) Rep.unit))))) u10 ({ s6.1 with Bytes := s6.2 })), (false, .oval (oslice 87 3 (fun _ => ref21_Master.orep)) v0_0 d2), (true, .slice 3 (Rep.int .i64) u17 s7.2.2)]) hF (fun s8 _ w23 hI hF => ?_) (fun j5 hj5 hF => ?_)
       ·
        obtain ⟨rfl, h59⟩ := hI
        refine Run.ite rfl hF (fun e33 hF => ?_) (fun e33 hF => ?_)
        ·
         refine Run.exit rfl ?_
         refine Run.reg ?_
         refine op (OpS.mv rfl rfl rfl ?_)
         refine op (OpS.bin rfl rfl rfl rfl rfl ?_)
         refine op (OpS.as rfl rfl rfl ?_)
         obtain ⟨x16, e34, hF⟩ := letP_use hF
         refine RunL.name e34 ?_
         refine RunL.nil ?_
         refine Run.slim [(13, .int .i64 x16), (0, v0), (4, u2), (9, u10)] ⟨rfl, rfl, rfl, rfl, trivial⟩ ?_
         refine Run.slim [(0, v0), (4, u2), (9, u10), (13, .int .i64 x16)] ⟨rfl, rfl, rfl, rfl, trivial⟩ ?_
         exact hk3 (x16, { s7.2.1 with Masters := d2 }, s7.2.2) _ _ ⟨u17, rfl, (h59.facts .nil).picks (.cons .z (.cons .z (.cons .z (.cons .z (.cons .z .nil)))))⟩ hF
        ·
         refine Run.skip ?_
         refine Run.seq ?_
         refine Run.seq ?_
         refine Run.reg ?_
         refine op (OpS.fbox (o3 := 2) h59 (.s (.s .z)) PA.z fa46_2 rfl rfl rfl rfl ?_)
         refine op (OpS.loadBb h59 (.s (.s .z)) PA.a (GetS.ok (GetS.iso _ (GetS.there (GetS.there (GetS.here GetS.id))))) ty4 rfl rfl rfl ?_)
         refine op (OpS.not rfl rfl rfl ?_)
         refine RunL.nil ?_
         refine Run.slim [(197, .bool (!(({ s6.1 with Bytes := s6.2 }).OK))), (0, v0), (4, u2), (9, u10), (13, .int .i64 s7.1), (14, (padd (sp v0_0) ((x12 : Int).toNat * 3)))] ⟨rfl, rfl, rfl, rfl, rfl, rfl, trivial⟩ ?_
         refine Run.join (σ := ((List Int))) (fun s_ L_ w_ => ∃ u0_ : Value, L_ = [(0, v0), (4, u2), (9, u10), (13, .int .i64 s7.1), (14, (padd (sp v0_0) ((x12 : Int).toNat * 3)))] ∧ St e w_ [] [(false, .box 79 (Rep.iso (fun s : ref21_Bus => (s.Masters, ())) (Rep.prod (Rep.raw (α := List ref21_Master) v0_0) Rep.unit)) v0 ({ s7.2.1 with Masters := d2 })), (true, .box 46 Delivery_.rep u2 Delivery_.z), (true, .box 46 (Rep.iso (fun s : Delivery_ => (s.Masters, s.Bytes, s.OK, s.Failed, ())) (Rep.prod (Rep.slice (Rep.int .i64)) (Rep.prod (Rep.slice (Rep.int .u8)) (Rep.prod Rep.bool (Rep.prod (Rep.raw (α := List Int) u0_) Rep.unit))))) u10 ({ s6.1 with Bytes := s6.2 })), (false, .oval (oslice 87 3 (fun _ => ref21_Master.orep)) v0_0 d2), (true, .slice 3 (Rep.int .i64) u0_ s_)]) hF (fun s9 _ w24 hI hF => ?_) (fun j6 hj6 hF => ?_)
         ·
          obtain ⟨u19, rfl, h60⟩ := hI
          refine Run.seq ?_
          refine Run.reg ?_
          refine op (OpS.mv rfl rfl rfl ?_)
          refine op (OpS.mv rfl rfl rfl ?_)
          obtain ⟨x17, e35, hF⟩ := bindP_use hF
          refine op (OpS.nchkO h60 (.s (.s (.s .z))) (idx_ne e35) PA.a rfl rfl rfl ?_)
          refine op (OpS.fownD h60 (.s (.s (.s .z))) (idx_ne e35) PA.a fa87_0 rfl rfl rfl ?_)
          refine op (OpS.openO (F' := fun v_ => at' (fun _ => ref21_Master.orep) (x12).toNat (ref21_Master.orepW (raw v_))) (hn := fun _ => rfl) (hn' := fun _ => at_hn rfl rfl) h60 (.s (.s (.s .z))) (idx_ne e35) PA.a (fun v_ => Len.comp (Len.arrOpen e35) (ref21_Master.lenO v_)) rfl ty59 rfl rfl rfl rfl (fun u20 h61 => ?_))
          obtain ⟨e36, hF⟩ := chk_use hF
          refine op (OpS.subD h61 (.s .z) rfl rfl Try.underlying59 ty34 rfl rfl rfl rfl (of_decide_eq_true e36) (fun u21 h62 => ?_))
          obtain ⟨x18, e37, hF⟩ := bindP_use hF
          refine op (OpS.nchkO h62 (.s .z) (idx_ne e37) PA.a rfl rfl rfl ?_)
          refine op (OpS.fownD h62 (.s .z) (idx_ne e37) PA.a fa87_0 rfl rfl rfl ?_)
          obtain ⟨d3, e38, hF⟩ := letP_use hF
          refine op (OpS.storePO (F := (at' (fun _ => ref21_Master.orep) (x12).toNat (ref21_Master.orepW (raw u20)))) (F2 := fun _ => ref21_Master.orep) (hn := at_hn rfl rfl) (hn2 := fun _ => rfl) h62 (.s .z) .z (idx_ne e37) PA.a (Len.comp (Len.arrShut e37) (ref21_Master.lenC u20)) ty59 rfl rfl rfl rfl (.inr rfl) (fun w25 h63 => ?_))
          have h64 := St.termD (l' := d3) h63 e38
          refine RunL.nil ?_
          refine Run.slim [(0, v0), (4, u2), (9, u10), (13, .int .i64 s7.1), (14, (padd (sp v0_0) ((x12 : Int).toNat * 3)))] ⟨rfl, rfl, rfl, rfl, rfl, trivial⟩ ?_
          refine Run.reg ?_
          refine op (OpS.mv rfl rfl rfl ?_)
          obtain ⟨x19, e39, hF⟩ := bindP_use hF
          refine op (OpS.nchkO h64 .z (idx_ne e39) PA.a rfl rfl rfl ?_)
          refine op (OpS.fownD h64 .z (idx_ne e39) PA.a fa87_1 rfl rfl rfl ?_)
          obtain ⟨d4, e40, hF⟩ := letP_use hF
          refine op (OpS.storeOD (F2 := fun _ => ref21_Master.orep) (f' := true) (hn := fun _ => rfl) (hn2 := fun _ => rfl) h64 .z (idx_ne e39) PA.a (Len.comp (Len.arrSame e39) ref21_Master.l1) ty3 rfl rfl rfl V.int (.inr rfl) (fun w26 h65 => ?_))
          have h66 := St.termD (l' := d4) h65 e40
          refine RunL.nil ?_
          refine Run.slim [(0, v0), (4, u2), (9, u10), (13, .int .i64 s7.1)] ⟨rfl, rfl, rfl, rfl, trivial⟩ ?_
          refine Run.endBlock ?_
          refine Run.reg ?_
          refine op (OpS.mv rfl rfl rfl ?_)
          refine op (OpS.bin rfl rfl rfl rfl rfl ?_)
          refine op (OpS.as rfl rfl rfl ?_)
          obtain ⟨x20, e41, hF⟩ := letP_use hF
          refine RunL.name e41 ?_
          refine RunL.nil ?_
          refine Run.slim [(13, .int .i64 x20), (0, v0), (4, u2), (9, u10)] ⟨rfl, rfl, rfl, rfl, trivial⟩ ?_
          have h67 := St.boxJ (r' := (Rep.iso (fun s : ref21_Bus => (s.Masters, ())) (Rep.prod (Rep.raw (α := List ref21_Master) v0_0) Rep.unit))) (x' := { { s7.2.1 with Masters := d2 } with Masters := d4 }) (h66.pick (.s .z)) (fun _ _ hs_ => (Jn.iso _ (Jn.prod Jn.same Jn.refl)))
          refine Run.slim [(0, v0), (4, u2), (9, u10), (13, .int .i64 x20)] ⟨rfl, rfl, rfl, rfl, trivial⟩ ?_
          exact hk3 (x20, { { s7.2.1 with Masters := d2 } with Masters := d4 }, s9) _ _ ⟨u19, rfl, (h67.facts .nil).picks (.cons .z (.cons (.s .z) (.cons (.s .z) (.cons .z (.cons .z .nil)))))⟩ hF
         ·
          refine Run.ite rfl hF (fun e42 hF => ?_) (fun e42 hF => ?_)
          ·
           have h68 := h59.picks (.cons (.s (.s .z)) (.cons (.s (.s (.s .z))) (.cons .z (.cons .z (.cons .z .nil)))))
           obtain ⟨x21, e43, hF⟩ := bindP_use hF
           obtain ⟨x22, e44, hF⟩ := bindP_use hF
           refine Run.drawV (Ωs := [(false, .box 79 (Rep.iso (fun s : ref21_Bus => (s.Masters, ())) (Rep.prod (Rep.raw (α := List ref21_Master) v0_0) Rep.unit)) v0 ({ s7.2.1 with Masters := d2 })), (true, .box 46 Delivery_.rep u2 Delivery_.z), (false, .oval (oslice 87 3 (fun _ => ref21_Master.orep)) v0_0 d2)]) [⟨some 198, some ((padd u10 3)), fun _ => [], fun ds_ u_ => [], [], [(0, [])], none⟩, ⟨some 199, some (u17), fun _ => [], fun ds_ u_ => [], [], [(0, [])], none⟩, ⟨some 200, some ((padd u10 0)), fun _ => [], fun ds_ u_ => [], [], [(0, [])], none⟩, ⟨some 201, none, fun u_ => [(true, .val (Rep.slice (Rep.int .i64)) u_ (({ s6.1 with Bytes := s6.2 }).Masters))], fun ds_ u_ => [], [], [(0, [])], none⟩, ⟨some 202, some (.int .i64 s7.1), fun _ => [], fun ds_ u_ => [], [], [], none⟩, ⟨some 203, none, fun u_ => [(true, .ptr (Rep.int .i64) u_ x21)], fun ds_ u_ => [], [], [], none⟩, ⟨some 204, some (.int .i64 x21), fun _ => [], fun ds_ u_ => [], [], [], none⟩, ⟨some 205, none, fun u_ => [(true, .val (Rep.slice (Rep.int .i64)) u_ ([x21]))], fun ds_ u_ => [], [], [], none⟩, ⟨some 206, none, fun u_ => [], fun ds_ u_ => [(true, .slice 3 (Rep.int .i64) u_ x22)], [1], [], none⟩] [[], [0], [], [2], [], [3, 4], [5], [6], [1, 7]] [[(true, .box 46 (Rep.iso (fun s : Delivery_ => (s.Masters, s.Bytes, s.OK, s.Failed, ())) (Rep.prod (Rep.slice (Rep.int .i64)) (Rep.prod (Rep.slice (Rep.int .u8)) (Rep.prod Rep.bool (Rep.prod (Rep.raw (α := List Int) u17) Rep.unit))))) u10 ({ s6.1 with Bytes := s6.2 }))], [(true, .slice 3 (Rep.int .i64) u17 s7.2.2)]] [0, 2, 3, 4, 5, 6, 7, 8, 9, 10] Try_mixed rfl rfl rfl h68 (.cons ?_ (.cons ?_ (.cons ?_ (.cons ?_ (.cons ?_ (.cons ?_ (.cons ?_ (.cons ?_ (.cons ?_ .nil))))))))) (fun q2 w hq2 h => ?_)
           ·intro q2 w Γx Ωx h
            have h : St e w ([] ++ Γx) ([(true, .box 46 (Rep.iso (fun s : Delivery_ => (s.Masters, s.Bytes, s.OK, s.Failed, ())) (Rep.prod (Rep.slice (Rep.int .i64)) (Rep.prod (Rep.slice (Rep.int .u8)) (Rep.prod Rep.bool (Rep.prod (Rep.raw (α := List Int) u17) Rep.unit))))) u10 ({ s6.1 with Bytes := s6.2 })), (false, .box 79 (Rep.iso (fun s : ref21_Bus => (s.Masters, ())) (Rep.prod (Rep.raw (α := List ref21_Master) v0_0) Rep.unit)) v0 ({ s7.2.1 with Masters := d2 })), (true, .box 46 Delivery_.rep u2 Delivery_.z), (false, .oval (oslice 87 3 (fun _ => ref21_Master.orep)) v0_0 d2)] ++ Ωx) := h
            refine OpS.fbox (o3 := 3) h .z PA.z fa46_3 rfl rfl rfl rfl ?_
            exact ⟨undef, rfl, trivial, h⟩
           ·intro q2 w Γx Ωx h
            have h : St e w ([] ++ Γx) ([(true, .box 46 (Rep.iso (fun s : Delivery_ => (s.Masters, s.Bytes, s.OK, s.Failed, ())) (Rep.prod (Rep.slice (Rep.int .i64)) (Rep.prod (Rep.slice (Rep.int .u8)) (Rep.prod Rep.bool (Rep.prod (Rep.raw (α := List Int) u17) Rep.unit))))) u10 ({ s6.1 with Bytes := s6.2 })), (false, .box 79 (Rep.iso (fun s : ref21_Bus => (s.Masters, ())) (Rep.prod (Rep.raw (α := List ref21_Master) v0_0) Rep.unit)) v0 ({ s7.2.1 with Masters := d2 })), (true, .box 46 Delivery_.rep u2 Delivery_.z), (false, .oval (oslice 87 3 (fun _ => ref21_Master.orep)) v0_0 d2)] ++ Ωx) := h
            refine OpS.loadR h .z PA.a (GetS.ok (GetS.iso _ (GetS.there (GetS.there (GetS.there (GetS.here GetS.id)))))) ty33 rfl rfl rfl rfl rfl ?_
            exact ⟨undef, rfl, trivial, h⟩
           ·intro q2 w Γx Ωx h
            have h : St e w ([] ++ Γx) ([(true, .box 46 (Rep.iso (fun s : Delivery_ => (s.Masters, s.Bytes, s.OK, s.Failed, ())) (Rep.prod (Rep.slice (Rep.int .i64)) (Rep.prod (Rep.slice (Rep.int .u8)) (Rep.prod Rep.bool (Rep.prod (Rep.raw (α := List Int) u17) Rep.unit))))) u10 ({ s6.1 with Bytes := s6.2 })), (false, .box 79 (Rep.iso (fun s : ref21_Bus => (s.Masters, ())) (Rep.prod (Rep.raw (α := List ref21_Master) v0_0) Rep.unit)) v0 ({ s7.2.1 with Masters := d2 })), (true, .box 46 Delivery_.rep u2 Delivery_.z), (false, .oval (oslice 87 3 (fun _ => ref21_Master.orep)) v0_0 d2)] ++ Ωx) := h
            refine OpS.fbox (o3 := 0) h .z PA.z fa46_0 rfl rfl rfl rfl ?_
            exact ⟨undef, rfl, trivial, h⟩
           ·intro q2 w Γx Ωx h
            have h : St e w ([] ++ Γx) ([(true, .box 46 (Rep.iso (fun s : Delivery_ => (s.Masters, s.Bytes, s.OK, s.Failed, ())) (Rep.prod (Rep.slice (Rep.int .i64)) (Rep.prod (Rep.slice (Rep.int .u8)) (Rep.prod Rep.bool (Rep.prod (Rep.raw (α := List Int) u17) Rep.unit))))) u10 ({ s6.1 with Bytes := s6.2 })), (false, .box 79 (Rep.iso (fun s : ref21_Bus => (s.Masters, ())) (Rep.prod (Rep.raw (α := List ref21_Master) v0_0) Rep.unit)) v0 ({ s7.2.1 with Masters := d2 })), (true, .box 46 Delivery_.rep u2 Delivery_.z), (false, .oval (oslice 87 3 (fun _ => ref21_Master.orep)) v0_0 d2)] ++ Ωx) := h
            refine OpS.loadB (fr := (Rep.slice (Rep.int .i64))) h .z PA.a (GetS.ok (GetS.iso _ (GetS.here GetS.id))) (Ty.like ty33 (by rfl) (by rfl)) rfl rfl rfl (fun u h73 => ?_)
            exact ⟨u, rfl, trivial, h73⟩
           ·intro q2 w Γx Ωx h
            refine OpS.mv rfl rfl rfl ?_
            exact ⟨undef, rfl, trivial, h⟩
           ·intro q2 w Γx Ωx h
            refine OpS.iptr h Try.underlying33 ty3 rfl rfl rfl rfl (V.at .z) e43 (fun u h74 => ?_)
            exact ⟨u, rfl, trivial, h74⟩
           ·intro q2 w Γx Ωx h
            refine OpS.loadi h ty3 rfl rfl rfl .z ?_
            exact ⟨undef, rfl, trivial, h⟩
           ·intro q2 w Γx Ωx h
            refine OpS.lit (r := (Rep.int .i64)) (f := true) h Try.underlying33 ti3 rfl rfl rfl rfl rfl (.cons rfl V.int .nil) rfl rfl (fun u w29 h75 => ?_)
            exact ⟨u, rfl, trivial, h75⟩
           ·intro q2 w Γx Ωx h
            have h : St e w ([(true, .val (Rep.slice (Rep.int .i64)) (q2 7) ([x21]))] ++ Γx) ([(true, .slice 3 (Rep.int .i64) u17 s7.2.2), (false, .box 79 (Rep.iso (fun s : ref21_Bus => (s.Masters, ())) (Rep.prod (Rep.raw (α := List ref21_Master) v0_0) Rep.unit)) v0 ({ s7.2.1 with Masters := d2 })), (true, .box 46 Delivery_.rep u2 Delivery_.z), (false, .oval (oslice 87 3 (fun _ => ref21_Master.orep)) v0_0 d2)] ++ Ωx) := h
            refine OpS.app (f' := true) h .z Try.underlying33 ti3 rfl rfl rfl rfl rfl rfl rfl (V.at .z) (.inr Pure.int) e44 (fun u w30 h76 => ?_)
            exact ⟨u, rfl, trivial, h76⟩
           have h77 : St e w [(true, .val (Rep.slice (Rep.int .i64)) (q2 3) (({ s6.1 with Bytes := s6.2 }).Masters)), (true, .ptr (Rep.int .i64) (q2 5) x21), (true, .val (Rep.slice (Rep.int .i64)) (q2 7) ([x21]))] [(true, .box 46 (Rep.iso (fun s : Delivery_ => (s.Masters, s.Bytes, s.OK, s.Failed, ())) (Rep.prod (Rep.slice (Rep.int .i64)) (Rep.prod (Rep.slice (Rep.int .u8)) (Rep.prod Rep.bool (Rep.prod (Rep.raw (α := List Int) u17) Rep.unit))))) u10 ({ s6.1 with Bytes := s6.2 })), (true, .slice 3 (Rep.int .i64) (q2 8) x22), (false, .box 79 (Rep.iso (fun s : ref21_Bus => (s.Masters, ())) (Rep.prod (Rep.raw (α := List ref21_Master) v0_0) Rep.unit)) v0 ({ s7.2.1 with Masters := d2 })), (true, .box 46 Delivery_.rep u2 Delivery_.z), (false, .oval (oslice 87 3 (fun _ => ref21_Master.orep)) v0_0 d2)] := h
           refine op (OpS.fbox (o3 := 3) h77 .z PA.z fa46_3 rfl rfl rfl rfl ?_)
           refine op (OpS.storeC (f' := true) (fr := (Rep.raw (q2 8))) (r' := (Rep.iso (fun s : Delivery_ => (s.Masters, s.Bytes, s.OK, s.Failed, ())) (Rep.prod (Rep.slice (Rep.int .i64)) (Rep.prod (Rep.slice (Rep.int .u8)) (Rep.prod Rep.bool (Rep.prod (Rep.raw (α := List Int) (q2 8)) Rep.unit)))))) (x' := { s6.1 with Bytes := s6.2 }) h77 .z PA.a (Chg.iso _ (Chg.there (Chg.there (Chg.there (Chg.here (Chg.id (by rfl))))))) (Ty.like ty33 (by rfl) (by rfl)) rfl rfl rfl (V.raw (f := true) (St.own1 h77 (.s .z)) (({ s6.1 with Bytes := s6.2 }).Failed)) (.inl rfl) (fun w31 h78 => ?_))
           refine RunL.nil ?_
           refine Run.slim [(0, v0), (4, u2), (9, u10), (13, .int .i64 s7.1), (14, (padd (sp v0_0) ((x12 : Int).toNat * 3)))] ⟨rfl, rfl, rfl, rfl, rfl, trivial⟩ ?_
           refine Run.slim [(0, v0), (4, u2), (9, u10), (13, .int .i64 s7.1), (14, (padd (sp v0_0) ((x12 : Int).toNat * 3)))] ⟨rfl, rfl, rfl, rfl, rfl, trivial⟩ ?_
           exact hj6 (x22) _ _ ⟨(q2 8), rfl, (h78.facts .nil).picks (.cons (.s (.s .z)) (.cons (.s (.s .z)) (.cons .z (.cons (.s .z) (.cons .z .nil)))))⟩ hF
          ·
           refine Run.skip ?_
           refine Run.slim [(0, v0), (4, u2), (9, u10), (13, .int .i64 s7.1), (14, (padd (sp v0_0) ((x12 : Int).toNat * 3)))] ⟨rfl, rfl, rfl, rfl, rfl, trivial⟩ ?_
           exact hj6 (s7.2.2) _ _ ⟨u17, rfl, (h59.facts .nil).picks (.cons .z (.cons .z (.cons .z (.cons .z (.cons .z .nil)))))⟩ hF
       ·
        refine RunL.caseb hF (fun e45 hF => ?_) (fun e45 hF => ?_)
        ·
         refine op (OpS.mv rfl rfl rfl ?_)
         obtain ⟨x23, e46, hF⟩ := bindP_use hF
         refine op (OpS.nchkO h58 .z (idx_ne e46) PA.a rfl rfl rfl ?_)
         refine op (OpS.fownD h58 .z (idx_ne e46) PA.a fa87_1 rfl rfl rfl ?_)
         refine op (OpS.loadSi h58 .z ref21_Master.wk rfl (idx_ne e46) PA.a (Get.comp (Get.arr e46) (GetS.ok (GetS.iso _ (GetS.there (GetS.here GetS.id))))) ty3 rfl rfl rfl ?_)
         refine op (OpS.bin rfl rfl rfl rfl rfl ?_)
         refine op (OpS.pick rfl rfl rfl rfl ?_)
         refine RunL.nil ?_
         refine Run.slim [(194, .bool (decide (x23.Tries < 4))), (14, (padd (sp v0_0) ((x12 : Int).toNat * 3))), (0, v0), (4, u2), (9, u10), (13, .int .i64 s7.1)] ⟨rfl, rfl, rfl, rfl, rfl, rfl, trivial⟩ ?_
         refine Run.slim [(0, v0), (4, u2), (9, u10), (13, .int .i64 s7.1), (14, (padd (sp v0_0) ((x12 : Int).toNat * 3))), (194, .bool (decide (x23.Tries < 4)))] ⟨rfl, rfl, rfl, rfl, rfl, rfl, trivial⟩ ?_
         exact hj5 (decide (x23.Tries < 4)) _ _ ⟨rfl, (h58.facts .nil).picks (.cons (.s .z) (.cons (.s (.s .z)) (.cons (.s .z) (.cons .z (.cons .z .nil)))))⟩ hF
        ·
         refine op (OpS.pass rfl rfl rfl ?_)
         refine op (OpS.pass rfl rfl rfl ?_)
         refine op (OpS.pass rfl rfl rfl ?_)
         refine op (OpS.pass rfl rfl rfl ?_)
         refine op (OpS.pass rfl rfl rfl ?_)
         refine op (OpS.pick rfl rfl rfl rfl ?_)
         refine RunL.nil ?_
         refine Run.slim [(194, .bool false), (14, (padd (sp v0_0) ((x12 : Int).toNat * 3))), (0, v0), (4, u2), (9, u10), (13, .int .i64 s7.1)] ⟨rfl, rfl, rfl, rfl, rfl, rfl, trivial⟩ ?_
         refine Run.slim [(0, v0), (4, u2), (9, u10), (13, .int .i64 s7.1), (14, (padd (sp v0_0) ((x12 : Int).toNat * 3))), (194, .bool false)] ⟨rfl, rfl, rfl, rfl, rfl, rfl, trivial⟩ ?_
         exact hj5 (false) _ _ ⟨rfl, (h58.facts .nil).picks (.cons (.s .z) (.cons (.s (.s .z)) (.cons (.s .z) (.cons .z (.cons .z .nil)))))⟩ hF
      ·
       refine Run.exit rfl ?_
       refine Run.seq ?_
       refine Run.reg ?_
       refine op (OpS.loadB (fr := (Rep.iso (fun s : Delivery_ => (s.Masters, s.Bytes, s.OK, s.Failed, ())) (Rep.prod (Rep.slice (Rep.int .i64)) (Rep.prod (Rep.slice (Rep.int .u8)) (Rep.prod Rep.bool (Rep.prod (Rep.raw (α := List Int) u17) Rep.unit)))))) h48 (.s (.s .z)) PA.z (GetS.ok GetS.id) (Ty.like ty46 (by rfl) (by rfl)) rfl rfl rfl (fun u22 h79 => ?_))
       obtain ⟨d5, e47, hF⟩ := letP_use hF
       refine op (OpS.storeC (f' := true) (fr := (Rep.iso (fun s : Delivery_ => (s.Masters, s.Bytes, s.OK, s.Failed, ())) (Rep.prod (Rep.slice (Rep.int .i64)) (Rep.prod (Rep.slice (Rep.int .u8)) (Rep.prod Rep.bool (Rep.prod (Rep.raw (α := List Int) u17) Rep.unit)))))) (r' := (Rep.iso (fun s : Delivery_ => (s.Masters, s.Bytes, s.OK, s.Failed, ())) (Rep.prod (Rep.slice (Rep.int .i64)) (Rep.prod (Rep.slice (Rep.int .u8)) (Rep.prod Rep.bool (Rep.prod (Rep.raw (α := List Int) u17) Rep.unit)))))) (x' := d5) h79 (.s .z) PA.z (Chg.of (x' := { s6.1 with Bytes := s6.2 }) (Chg.id (by rfl)) e47) (Ty.like ty46 (by rfl) (by rfl)) rfl rfl rfl (V.at .z) (.inl rfl) (fun w32 h80 => ?_))
       refine op (OpS.as rfl rfl rfl ?_)
       refine RunL.nil ?_
       refine Run.slim [(5, .bool true), (4, u2)] ⟨rfl, rfl, trivial⟩ ?_
       have h82 := (h80.pick (.s (.s (.s (.s .z))))).freeze
       have h83 := h82.pick .z
       have h84 := St.boxJ (r' := Delivery_.rep) (x' := { d5 with Failed := s7.2.2 }) h83 (fun _ _ hs_ => (Jn.iso _ (Jn.prod Jn.refl (Jn.prod Jn.refl (Jn.prod Jn.refl (Jn.prod (Jn.raw ((V.at .z) _ _ hs_) rfl) Jn.refl))))))
       have h85 := h84.pick (.s (.s .z))
       have h86 := St.boxJ (r' := Delivery_.rep) (x' := { { s6.1 with Bytes := s6.2 } with Failed := s7.2.2 }) h85 (fun _ _ hs_ => (Jn.iso _ (Jn.prod Jn.refl (Jn.prod Jn.refl (Jn.prod Jn.refl (Jn.prod (Jn.raw ((V.at .z) _ _ hs_) rfl) Jn.refl))))))
       obtain ⟨u23, hu2, h81⟩ := res_box h86 (.s .z) ty46
       refine Run.retP rfl (.cell rfl hu2 (.tmp rfl .nil)) ?_
       cases hF
       exact Post.mk' ⟨u23, v0_0, rfl, rfl, rfl, rfl⟩ (h81.picks (.cons (.s (.s .z)) (.cons (.s (.s .z)) .nil))) (.val (V.at .z) .nil)
     ·
      refine Run.ite rfl hF (fun e48 hF => ?_) (fun e48 hF => ?_)
      ·
       refine Run.seq ?_
       refine Run.reg ?_
       refine op (OpS.mv rfl rfl rfl ?_)
       obtain ⟨y7, e49, hF⟩ := bindP_use hF
       refine op (OpS.callP h30 Try.func45 rfl rfl rfl rfl (vs := [u5]) rfl (ref01_Copy_ok e49) (.cons (f := false) (V.at .z) .nil) ?_)
       rintro u24 w33 _ _ _ ⟨_, rfl, rfl, rfl, rfl⟩ h87
       have h88 := h87 rfl rfl
       simp only [List.cons_append, List.nil_append] at h88
       refine op (OpS.fbox (o3 := 1) h88 (.s (.s (.s (.s .z)))) PA.z fa46_1 rfl rfl rfl rfl ?_)
       refine op (OpS.storeC (f' := true) (fr := (Rep.raw u24)) (r' := (Rep.iso (fun s : Delivery_ => (s.Masters, s.Bytes, s.OK, s.Failed, ())) (Rep.prod (Rep.raw (α := List Int) u11) (Rep.prod (Rep.raw (α := List Int) u24) (Rep.prod Rep.bool (Rep.prod (Rep.raw (α := List Int) (.slice none 0 0)) Rep.unit)))))) (x' := Delivery_.z) h88 (.s (.s (.s (.s .z)))) PA.a (Chg.iso _ (Chg.there (Chg.here (Chg.id (by rfl))))) (Ty.like ty34 (by rfl) (by rfl)) rfl rfl rfl (V.raw (f := true) (St.own1 h88 .z) Delivery_.z.Bytes) (.inl rfl) (fun w34 h89 => ?_))
       refine RunL.nil ?_
       refine Run.slim [(0, v0), (3, u1), (4, u2), (9, u10)] ⟨rfl, rfl, rfl, rfl, trivial⟩ ?_
       refine Run.seq ?_
       refine Run.seq ?_
       refine Run.reg ?_
       refine op (OpS.fbox (o3 := 0) h89 (.s (.s (.s .z))) PA.z fa38_0 rfl rfl rfl rfl ?_)
       refine op (OpS.loadBi h89 (.s (.s (.s .z))) PA.a (Get.fld Fault_.f0) ty3 rfl rfl rfl ?_)
       refine op (OpS.bin rfl rfl rfl rfl rfl ?_)
       refine op (OpS.mv rfl rfl rfl ?_)
       refine RunL.join (σ := Bool) (fun s_ L_ w_ => L_ = [(0, v0), (3, u1), (4, u2), (9, u10), (134, .bool s_)] ∧ St e w_ [] [(false, .box 79 (Rep.iso (fun s : ref21_Bus => (s.Masters, ())) (Rep.prod (Rep.raw (α := List ref21_Master) v0_0) Rep.unit)) v0 s1), (false, .box 38 Fault_.rep u1 a1), (true, .box 46 Delivery_.rep u2 Delivery_.z), (true, .box 46 (Rep.iso (fun s : Delivery_ => (s.Masters, s.Bytes, s.OK, s.Failed, ())) (Rep.prod (Rep.raw (α := List Int) u11) (Rep.prod (Rep.raw (α := List Int) u24) (Rep.prod Rep.bool (Rep.prod (Rep.raw (α := List Int) (.slice none 0 0)) Rep.unit))))) u10 Delivery_.z), (false, .oval (oslice 87 3 (fun _ => ref21_Master.orep)) v0_0 s1.Masters), (true, .slice 3 (Rep.int .i64) u11 s4.2), (true, .slice 3 (Rep.int .i64) (.slice none 0 0) ([])), (true, .slice 5 (Rep.int .u8) u24 y7)]) hF (fun s10 _ w35 hI hF => ?_) (fun j7 hj7 hF => ?_)
       ·
        obtain ⟨rfl, h90⟩ := hI
        refine Run.join (σ := ((List Int))) (fun s_ L_ w_ => L_ = [(0, v0), (4, u2), (9, u10)] ∧ St e w_ [] [(false, .box 79 (Rep.iso (fun s : ref21_Bus => (s.Masters, ())) (Rep.prod (Rep.raw (α := List ref21_Master) v0_0) Rep.unit)) v0 s1), (true, .box 46 Delivery_.rep u2 Delivery_.z), (true, .box 46 (Rep.iso (fun s : Delivery_ => (s.Masters, s.Bytes, s.OK, s.Failed, ())) (Rep.prod (Rep.slice (Rep.int .i64)) (Rep.prod (Rep.raw (α := List Int) u24) (Rep.prod Rep.bool (Rep.prod (Rep.raw (α := List Int) (.slice none 0 0)) Rep.unit))))) u10 ({ Delivery_.z with Masters := s4.2 })), (false, .oval (oslice 87 3 (fun _ => ref21_Master.orep)) v0_0 s1.Masters), (true, .slice 3 (Rep.int .i64) (.slice none 0 0) ([])), (true, .slice 5 (Rep.int .u8) u24 s_)]) hF (fun s11 _ w36 hI hF => ?_) (fun j8 hj8 hF => ?_)
        ·
         obtain ⟨rfl, h91⟩ := hI
         refine Run.seq ?_
         refine Run.reg ?_
         refine op (OpS.fbox (o3 := 1) h91 (.s (.s .z)) PA.z fa46_1 rfl rfl rfl rfl ?_)
         refine op (OpS.loadR h91 (.s (.s .z)) PA.a (GetS.ok (GetS.iso _ (GetS.there (GetS.here GetS.id)))) ty34 rfl rfl rfl rfl rfl ?_)
         obtain ⟨y8, e50, hF⟩ := bindP_use hF
         refine op (OpS.callP h91 Try.func46 rfl rfl rfl rfl (vs := [u24]) rfl (ref20_Decode_ok e50) (.own (.s (.s (.s (.s (.s .z))))) .nil) ?_)
         rintro _ w37 _ _ _ ⟨u25, rfl, rfl, rfl, rfl⟩ h92
         have h93 := h92 rfl rfl
         simp only [List.cons_append, List.nil_append] at h93
         refine op (OpS.mv rfl rfl rfl ?_)
         refine op (OpS.ext rfl rfl rfl rfl ?_)
         refine op (OpS.ext rfl rfl rfl rfl ?_)
         refine op (OpS.alloc h93 ti36 Frame_.zr rfl rfl (fun u26 w38 h94 => ?_))
         refine op (OpS.storeB (f' := true) h94 .z PA.z Put.id ty36 rfl rfl rfl (V.at .z) (.inl rfl) (fun w39 h95 => ?_))
         refine op (OpS.as rfl rfl rfl ?_)
         refine RunL.nil ?_
         refine Run.slim [(12, .int .i64 y8.2), (0, v0), (4, u2), (9, u10)] ⟨rfl, rfl, rfl, rfl, trivial⟩ ?_
         refine Run.reg ?_
         refine op (OpS.mv rfl rfl rfl ?_)
         refine op (OpS.bin rfl rfl rfl rfl rfl ?_)
         refine op (OpS.fbox (o3 := 2) h95 (.s (.s (.s .z))) PA.z fa46_2 rfl rfl rfl rfl ?_)
         obtain ⟨d6, e51, hF⟩ := letP_use hF
         refine op (OpS.storeC (f' := true) (fr := Rep.bool) (r' := (Rep.iso (fun s : Delivery_ => (s.Masters, s.Bytes, s.OK, s.Failed, ())) (Rep.prod (Rep.slice (Rep.int .i64)) (Rep.prod (Rep.raw (α := List Int) u24) (Rep.prod Rep.bool (Rep.prod (Rep.raw (α := List Int) (.slice none 0 0)) Rep.unit)))))) (x' := d6) h95 (.s (.s (.s .z))) PA.a (Chg.of (x' := { { Delivery_.z with Masters := s4.2 } with OK := y8.2 == 0 }) (Chg.iso _ (Chg.there (Chg.there (Chg.here (Chg.id (by rfl)))))) e51) ty4 rfl rfl rfl V.bool (.inl rfl) (fun w40 h96 => ?_))
         refine RunL.nil ?_
         refine Run.slim [(0, v0), (4, u2), (9, u10)] ⟨rfl, rfl, rfl, trivial⟩ ?_
         refine Run.slim [(0, v0), (4, u2), (9, u10)] ⟨rfl, rfl, rfl, trivial⟩ ?_
         exact hj4 (d6, s11) _ _ ⟨u24, rfl, (h96.facts .nil).picks (.cons (.s (.s .z)) (.cons (.s (.s .z)) (.cons .z (.cons (.s .z) (.cons (.s .z) (.cons (.s .z) .nil))))))⟩ hF
        ·
         refine Run.ite rfl hF (fun e52 hF => ?_) (fun e52 hF => ?_)
         ·
          have h97 := (h90.pick (.s (.s (.s (.s (.s .z)))))).freeze
          have h98 := h97.pick (.s (.s (.s .z)))
          have h99 := St.boxJ (r' := (Rep.iso (fun s : Delivery_ => (s.Masters, s.Bytes, s.OK, s.Failed, ())) (Rep.prod (Rep.slice (Rep.int .i64)) (Rep.prod (Rep.raw (α := List Int) u24) (Rep.prod Rep.bool (Rep.prod (Rep.raw (α := List Int) (.slice none 0 0)) Rep.unit)))))) (x' := { Delivery_.z with Masters := s4.2 }) h98 (fun _ _ hs_ => (Jn.iso _ (Jn.prod (Jn.raw ((V.at .z) _ _ hs_) rfl) (Jn.prod Jn.same (Jn.prod Jn.refl (Jn.prod Jn.same Jn.refl))))))
          have h100 := h99.picks (.cons .z (.cons (.s .z) (.cons (.s (.s (.s (.s .z)))) (.cons .z (.cons .z (.cons .z (.cons .z .nil)))))))
          obtain ⟨x24, e53, hF⟩ := bindP_use hF
          refine Run.drawV (Ωs := [(false, .box 79 (Rep.iso (fun s : ref21_Bus => (s.Masters, ())) (Rep.prod (Rep.raw (α := List ref21_Master) v0_0) Rep.unit)) v0 s1), (true, .box 46 Delivery_.rep u2 Delivery_.z), (false, .oval (oslice 87 3 (fun _ => ref21_Master.orep)) v0_0 s1.Masters), (true, .slice 3 (Rep.int .i64) (.slice none 0 0) ([]))]) [⟨some 135, some ((padd u10 1)), fun _ => [], fun ds_ u_ => [], [], [(0, [])], none⟩, ⟨some 136, some (u24), fun _ => [], fun ds_ u_ => [], [], [(0, [])], none⟩, ⟨some 137, some ((padd u1 1)), fun _ => [], fun ds_ u_ => [], [], [(1, [])], none⟩, ⟨some 138, some (.int .i64 a1.Index), fun _ => [], fun ds_ u_ => [], [], [(1, [])], none⟩, ⟨some 139, some ((padd u10 1)), fun _ => [], fun ds_ u_ => [], [], [(0, [])], none⟩, ⟨some 140, some (u24), fun _ => [], fun ds_ u_ => [], [], [(0, [])], none⟩, ⟨some 141, some ((padd u1 1)), fun _ => [], fun ds_ u_ => [], [], [(1, [])], none⟩, ⟨some 142, some (.int .i64 a1.Index), fun _ => [], fun ds_ u_ => [], [], [(1, [])], none⟩, ⟨some 143, some ((padd (sp u24) ((a1.Index : Int).toNat * (Rep.int .u8).n))), fun _ => [], fun ds_ u_ => [], [], [(2, [])], none⟩, ⟨some 144, some (.int .u8 x24), fun _ => [], fun ds_ u_ => [], [], [(2, [])], none⟩, ⟨some 145, some ((padd u1 2)), fun _ => [], fun ds_ u_ => [], [], [(1, [])], none⟩, ⟨some 146, some (.int .u8 a1.Mask), fun _ => [], fun ds_ u_ => [], [], [(1, [])], none⟩, ⟨some 147, some (.int .u8 (bXor .u8 x24 a1.Mask)), fun _ => [], fun ds_ u_ => [], [], [], none⟩] [[], [0], [], [2], [], [4], [], [6], [5, 7], [8], [], [10], [9, 11]] [[(true, .box 46 (Rep.iso (fun s : Delivery_ => (s.Masters, s.Bytes, s.OK, s.Failed, ())) (Rep.prod (Rep.slice (Rep.int .i64)) (Rep.prod (Rep.raw (α := List Int) u24) (Rep.prod Rep.bool (Rep.prod (Rep.raw (α := List Int) (.slice none 0 0)) Rep.unit))))) u10 ({ Delivery_.z with Masters := s4.2 }))], [(false, .box 38 Fault_.rep u1 a1)], [(true, .slice 5 (Rep.int .u8) u24 y7)]] [0, 1, 2, 3, 4, 5, 6, 7, 8, 9, 10, 11, 12, 13, 14, 15] Try_mixed rfl rfl rfl h100 (.cons ?_ (.cons ?_ (.cons ?_ (.cons ?_ (.cons ?_ (.cons ?_ (.cons ?_ (.cons ?_ (.cons ?_ (.cons ?_ (.cons ?_ (.cons ?_ (.cons ?_ .nil))))))))))))) (fun q3 w hq3 h => ?_)
          ·intro q3 w Γx Ωx h
           have h : St e w ([(true, .val (Rep.slice (Rep.int .i64)) u11 s4.2)] ++ Γx) ([(true, .box 46 (Rep.iso (fun s : Delivery_ => (s.Masters, s.Bytes, s.OK, s.Failed, ())) (Rep.prod (Rep.slice (Rep.int .i64)) (Rep.prod (Rep.raw (α := List Int) u24) (Rep.prod Rep.bool (Rep.prod (Rep.raw (α := List Int) (.slice none 0 0)) Rep.unit))))) u10 ({ Delivery_.z with Masters := s4.2 })), (false, .box 79 (Rep.iso (fun s : ref21_Bus => (s.Masters, ())) (Rep.prod (Rep.raw (α := List ref21_Master) v0_0) Rep.unit)) v0 s1), (true, .box 46 Delivery_.rep u2 Delivery_.z), (false, .oval (oslice 87 3 (fun _ => ref21_Master.orep)) v0_0 s1.Masters), (true, .slice 3 (Rep.int .i64) (.slice none 0 0) ([]))] ++ Ωx) := h
           refine OpS.fbox (o3 := 1) h .z PA.z fa46_1 rfl rfl rfl rfl ?_
           exact ⟨undef, rfl, trivial, h⟩
          ·intro q3 w Γx Ωx h
           have h : St e w ([(true, .val (Rep.slice (Rep.int .i64)) u11 s4.2)] ++ Γx) ([(true, .box 46 (Rep.iso (fun s : Delivery_ => (s.Masters, s.Bytes, s.OK, s.Failed, ())) (Rep.prod (Rep.slice (Rep.int .i64)) (Rep.prod (Rep.raw (α := List Int) u24) (Rep.prod Rep.bool (Rep.prod (Rep.raw (α := List Int) (.slice none 0 0)) Rep.unit))))) u10 ({ Delivery_.z with Masters := s4.2 })), (false, .box 79 (Rep.iso (fun s : ref21_Bus => (s.Masters, ())) (Rep.prod (Rep.raw (α := List ref21_Master) v0_0) Rep.unit)) v0 s1), (true, .box 46 Delivery_.rep u2 Delivery_.z), (false, .oval (oslice 87 3 (fun _ => ref21_Master.orep)) v0_0 s1.Masters), (true, .slice 3 (Rep.int .i64) (.slice none 0 0) ([]))] ++ Ωx) := h
           refine OpS.loadR h .z PA.a (GetS.ok (GetS.iso _ (GetS.there (GetS.here GetS.id)))) ty34 rfl rfl rfl rfl rfl ?_
           exact ⟨undef, rfl, trivial, h⟩
          ·intro q3 w Γx Ωx h
           have h : St e w ([(true, .val (Rep.slice (Rep.int .i64)) u11 s4.2)] ++ Γx) ([(false, .box 38 Fault_.rep u1 a1), (false, .box 79 (Rep.iso (fun s : ref21_Bus => (s.Masters, ())) (Rep.prod (Rep.raw (α := List ref21_Master) v0_0) Rep.unit)) v0 s1), (true, .box 46 Delivery_.rep u2 Delivery_.z), (false, .oval (oslice 87 3 (fun _ => ref21_Master.orep)) v0_0 s1.Masters), (true, .slice 3 (Rep.int .i64) (.slice none 0 0) ([]))] ++ Ωx) := h
           refine OpS.fbox (o3 := 1) h .z PA.z fa38_1 rfl rfl rfl rfl ?_
           exact ⟨undef, rfl, trivial, h⟩
          ·intro q3 w Γx Ωx h
           have h : St e w ([(true, .val (Rep.slice (Rep.int .i64)) u11 s4.2)] ++ Γx) ([(false, .box 38 Fault_.rep u1 a1), (false, .box 79 (Rep.iso (fun s : ref21_Bus => (s.Masters, ())) (Rep.prod (Rep.raw (α := List ref21_Master) v0_0) Rep.unit)) v0 s1), (true, .box 46 Delivery_.rep u2 Delivery_.z), (false, .oval (oslice 87 3 (fun _ => ref21_Master.orep)) v0_0 s1.Masters), (true, .slice 3 (Rep.int .i64) (.slice none 0 0) ([]))] ++ Ωx) := h
           refine OpS.loadBi h .z PA.a (Get.fld Fault_.f1) ty3 rfl rfl rfl ?_
           exact ⟨undef, rfl, trivial, h⟩
          ·intro q3 w Γx Ωx h
           have h : St e w ([(true, .val (Rep.slice (Rep.int .i64)) u11 s4.2)] ++ Γx) ([(true, .box 46 (Rep.iso (fun s : Delivery_ => (s.Masters, s.Bytes, s.OK, s.Failed, ())) (Rep.prod (Rep.slice (Rep.int .i64)) (Rep.prod (Rep.raw (α := List Int) u24) (Rep.prod Rep.bool (Rep.prod (Rep.raw (α := List Int) (.slice none 0 0)) Rep.unit))))) u10 ({ Delivery_.z with Masters := s4.2 })), (false, .box 79 (Rep.iso (fun s : ref21_Bus => (s.Masters, ())) (Rep.prod (Rep.raw (α := List ref21_Master) v0_0) Rep.unit)) v0 s1), (true, .box 46 Delivery_.rep u2 Delivery_.z), (false, .oval (oslice 87 3 (fun _ => ref21_Master.orep)) v0_0 s1.Masters), (true, .slice 3 (Rep.int .i64) (.slice none 0 0) ([]))] ++ Ωx) := h
           refine OpS.fbox (o3 := 1) h .z PA.z fa46_1 rfl rfl rfl rfl ?_
           exact ⟨undef, rfl, trivial, h⟩
          ·intro q3 w Γx Ωx h
           have h : St e w ([(true, .val (Rep.slice (Rep.int .i64)) u11 s4.2)] ++ Γx) ([(true, .box 46 (Rep.iso (fun s : Delivery_ => (s.Masters, s.Bytes, s.OK, s.Failed, ())) (Rep.prod (Rep.slice (Rep.int .i64)) (Rep.prod (Rep.raw (α := List Int) u24) (Rep.prod Rep.bool (Rep.prod (Rep.raw (α := List Int) (.slice none 0 0)) Rep.unit))))) u10 ({ Delivery_.z with Masters := s4.2 })), (false, .box 79 (Rep.iso (fun s : ref21_Bus => (s.Masters, ())) (Rep.prod (Rep.raw (α := List ref21_Master) v0_0) Rep.unit)) v0 s1), (true, .box 46 Delivery_.rep u2 Delivery_.z), (false, .oval (oslice 87 3 (fun _ => ref21_Master.orep)) v0_0 s1.Masters), (true, .slice 3 (Rep.int .i64) (.slice none 0 0) ([]))] ++ Ωx) := h
           refine OpS.loadR h .z PA.a (GetS.ok (GetS.iso _ (GetS.there (GetS.here GetS.id)))) ty34 rfl rfl rfl rfl rfl ?_
           exact ⟨undef, rfl, trivial, h⟩
          ·intro q3 w Γx Ωx h
           have h : St e w ([(true, .val (Rep.slice (Rep.int .i64)) u11 s4.2)] ++ Γx) ([(false, .box 38 Fault_.rep u1 a1), (false, .box 79 (Rep.iso (fun s : ref21_Bus => (s.Masters, ())) (Rep.prod (Rep.raw (α := List ref21_Master) v0_0) Rep.unit)) v0 s1), (true, .box 46 Delivery_.rep u2 Delivery_.z), (false, .oval (oslice 87 3 (fun _ => ref21_Master.orep)) v0_0 s1.Masters), (true, .slice 3 (Rep.int .i64) (.slice none 0 0) ([]))] ++ Ωx) := h
           refine OpS.fbox (o3 := 1) h .z PA.z fa38_1 rfl rfl rfl rfl ?_
           exact ⟨undef, rfl, trivial, h⟩
          ·intro q3 w Γx Ωx h
           have h : St e w ([(true, .val (Rep.slice (Rep.int .i64)) u11 s4.2)] ++ Γx) ([(false, .box 38 Fault_.rep u1 a1), (false, .box 79 (Rep.iso (fun s : ref21_Bus => (s.Masters, ())) (Rep.prod (Rep.raw (α := List ref21_Master) v0_0) Rep.unit)) v0 s1), (true, .box 46 Delivery_.rep u2 Delivery_.z), (false, .oval (oslice 87 3 (fun _ => ref21_Master.orep)) v0_0 s1.Masters), (true, .slice 3 (Rep.int .i64) (.slice none 0 0) ([]))] ++ Ωx) := h
           refine OpS.loadBi h .z PA.a (Get.fld Fault_.f1) ty3 rfl rfl rfl ?_
           exact ⟨undef, rfl, trivial, h⟩
          ·intro q3 w Γx Ωx h
           have h : St e w ([(true, .val (Rep.slice (Rep.int .i64)) u11 s4.2)] ++ Γx) ([(true, .slice 5 (Rep.int .u8) u24 y7), (false, .box 79 (Rep.iso (fun s : ref21_Bus => (s.Masters, ())) (Rep.prod (Rep.raw (α := List ref21_Master) v0_0) Rep.unit)) v0 s1), (true, .box 46 Delivery_.rep u2 Delivery_.z), (false, .oval (oslice 87 3 (fun _ => ref21_Master.orep)) v0_0 s1.Masters), (true, .slice 3 (Rep.int .i64) (.slice none 0 0) ([]))] ++ Ωx) := h
           refine OpS.iown h .z Try.underlying34 ty5 rfl rfl rfl rfl e53 ?_
           exact ⟨undef, rfl, trivial, h⟩
          ·intro q3 w Γx Ωx h
           have h : St e w ([(true, .val (Rep.slice (Rep.int .i64)) u11 s4.2)] ++ Γx) ([(true, .slice 5 (Rep.int .u8) u24 y7), (false, .box 79 (Rep.iso (fun s : ref21_Bus => (s.Masters, ())) (Rep.prod (Rep.raw (α := List ref21_Master) v0_0) Rep.unit)) v0 s1), (true, .box 46 Delivery_.rep u2 Delivery_.z), (false, .oval (oslice 87 3 (fun _ => ref21_Master.orep)) v0_0 s1.Masters), (true, .slice 3 (Rep.int .i64) (.slice none 0 0) ([]))] ++ Ωx) := h
           refine OpS.loadOi h .z (idx_ne e53) PA.a (Get.arr e53) ty5 rfl rfl rfl ?_
           exact ⟨undef, rfl, trivial, h⟩
          ·intro q3 w Γx Ωx h
           have h : St e w ([(true, .val (Rep.slice (Rep.int .i64)) u11 s4.2)] ++ Γx) ([(false, .box 38 Fault_.rep u1 a1), (false, .box 79 (Rep.iso (fun s : ref21_Bus => (s.Masters, ())) (Rep.prod (Rep.raw (α := List ref21_Master) v0_0) Rep.unit)) v0 s1), (true, .box 46 Delivery_.rep u2 Delivery_.z), (false, .oval (oslice 87 3 (fun _ => ref21_Master.orep)) v0_0 s1.Masters), (true, .slice 3 (Rep.int .i64) (.slice none 0 0) ([]))] ++ Ωx) := h
           refine OpS.fbox (o3 := 2) h .z PA.z fa38_2 rfl rfl rfl rfl ?_
           exact ⟨undef, rfl, trivial, h⟩
          ·intro q3 w Γx Ωx h
           have h : St e w ([(true, .val (Rep.slice (Rep.int .i64)) u11 s4.2)] ++ Γx) ([(false, .box 38 Fault_.rep u1 a1), (false, .box 79 (Rep.iso (fun s : ref21_Bus => (s.Masters, ())) (Rep.prod (Rep.raw (α := List ref21_Master) v0_0) Rep.unit)) v0 s1), (true, .box 46 Delivery_.rep u2 Delivery_.z), (false, .oval (oslice 87 3 (fun _ => ref21_Master.orep)) v0_0 s1.Masters), (true, .slice 3 (Rep.int .i64) (.slice none 0 0) ([]))] ++ Ωx) := h
           refine OpS.loadBi h .z PA.a (Get.fld Fault_.f2) ty5 rfl rfl rfl ?_
           exact ⟨undef, rfl, trivial, h⟩
          ·intro q3 w Γx Ωx h
           refine OpS.bin rfl rfl rfl rfl rfl ?_
           exact ⟨undef, rfl, trivial, h⟩
          have h101 : St e w [(true, .val (Rep.slice (Rep.int .i64)) u11 s4.2)] [(true, .box 46 (Rep.iso (fun s : Delivery_ => (s.Masters, s.Bytes, s.OK, s.Failed, ())) (Rep.prod (Rep.slice (Rep.int .i64)) (Rep.prod (Rep.raw (α := List Int) u24) (Rep.prod Rep.bool (Rep.prod (Rep.raw (α := List Int) (.slice none 0 0)) Rep.unit))))) u10 ({ Delivery_.z with Masters := s4.2 })), (false, .box 38 Fault_.rep u1 a1), (true, .slice 5 (Rep.int .u8) u24 y7), (false, .box 79 (Rep.iso (fun s : ref21_Bus => (s.Masters, ())) (Rep.prod (Rep.raw (α := List ref21_Master) v0_0) Rep.unit)) v0 s1), (true, .box 46 Delivery_.rep u2 Delivery_.z), (false, .oval (oslice 87 3 (fun _ => ref21_Master.orep)) v0_0 s1.Masters), (true, .slice 3 (Rep.int .i64) (.slice none 0 0) ([]))] := h
          obtain ⟨x25, e54, hF⟩ := bindP_use hF
          refine op (OpS.iown h101 (.s (.s .z)) Try.underlying34 ty5 rfl rfl rfl rfl e54 ?_)
          obtain ⟨d7, e55, hF⟩ := letP_use hF
          refine op (OpS.storeO (f' := true) h101 (.s (.s .z)) (idx_ne e54) PA.a (Put.of (Put.arr e54) e55) ty5 rfl rfl rfl V.int (.inl rfl) (fun w41 h102 => ?_))
          refine RunL.nil ?_
          refine Run.slim [(0, v0), (4, u2), (9, u10)] ⟨rfl, rfl, rfl, trivial⟩ ?_
          refine Run.slim [(0, v0), (4, u2), (9, u10)] ⟨rfl, rfl, rfl, trivial⟩ ?_
          exact hj8 (d7) _ _ ⟨rfl, (h102.facts .nil).picks (.cons (.s (.s (.s .z))) (.cons (.s (.s (.s .z))) (.cons (.s .z) (.cons (.s (.s .z)) (.cons (.s (.s .z)) (.cons .z .nil))))))⟩ hF
         ·
          refine Run.skip ?_
          have h103 := (h90.pick (.s (.s (.s (.s (.s .z)))))).freeze
          have h104 := h103.pick (.s (.s (.s .z)))
          have h105 := St.boxJ (r' := (Rep.iso (fun s : Delivery_ => (s.Masters, s.Bytes, s.OK, s.Failed, ())) (Rep.prod (Rep.slice (Rep.int .i64)) (Rep.prod (Rep.raw (α := List Int) u24) (Rep.prod Rep.bool (Rep.prod (Rep.raw (α := List Int) (.slice none 0 0)) Rep.unit)))))) (x' := { Delivery_.z with Masters := s4.2 }) h104 (fun _ _ hs_ => (Jn.iso _ (Jn.prod (Jn.raw ((V.at .z) _ _ hs_) rfl) (Jn.prod Jn.same (Jn.prod Jn.refl (Jn.prod Jn.same Jn.refl))))))
          refine Run.slim [(0, v0), (4, u2), (9, u10)] ⟨rfl, rfl, rfl, trivial⟩ ?_
          exact hj8 (y7) _ _ ⟨rfl, (h105.facts .nil).picks (.cons (.s .z) (.cons (.s (.s .z)) (.cons .z (.cons (.s .z) (.cons (.s .z) (.cons (.s .z) .nil))))))⟩ hF
       ·
        refine RunL.caseb hF (fun e56 hF => ?_) (fun e56 hF => ?_)
        ·
         refine op (OpS.fbox (o3 := 1) h89 (.s (.s (.s .z))) PA.z fa38_1 rfl rfl rfl rfl ?_)
         refine op (OpS.loadBi h89 (.s (.s (.s .z))) PA.a (Get.fld Fault_.f1) ty3 rfl rfl rfl ?_)
         refine op (OpS.bin rfl rfl rfl rfl rfl ?_)
         refine op (OpS.pick rfl rfl rfl rfl ?_)
         refine op (OpS.mv rfl rfl rfl ?_)
         refine RunL.caseb hF (fun e57 hF => ?_) (fun e57 hF => ?_)
         ·
          refine op (OpS.fbox (o3 := 1) h89 (.s (.s (.s .z))) PA.z fa38_1 rfl rfl rfl rfl ?_)
          refine op (OpS.loadBi h89 (.s (.s (.s .z))) PA.a (Get.fld Fault_.f1) ty3 rfl rfl rfl ?_)
          refine op (OpS.fbox (o3 := 1) h89 .z PA.z fa46_1 rfl rfl rfl rfl ?_)
          refine op (OpS.loadR h89 .z PA.a (GetS.ok (GetS.iso _ (GetS.there (GetS.here GetS.id)))) ty34 rfl rfl rfl rfl rfl ?_)
          refine op (OpS.lenO h89 (.s .z) Try.underlying34 rfl rfl rfl ?_)
          refine op (OpS.bin rfl rfl rfl rfl rfl ?_)
          refine op (OpS.pick rfl rfl rfl rfl ?_)
          refine RunL.nil ?_
          refine Run.slim [(134, .bool (decide (a1.Index < (y7.length : Int)))), (0, v0), (3, u1), (4, u2), (9, u10)] ⟨rfl, rfl, rfl, rfl, rfl, trivial⟩ ?_
          refine Run.slim [(0, v0), (3, u1), (4, u2), (9, u10), (134, .bool (decide (a1.Index < (y7.length : Int))))] ⟨rfl, rfl, rfl, rfl, rfl, trivial⟩ ?_
          exact hj7 (decide (a1.Index < (y7.length : Int))) _ _ ⟨rfl, (h89.facts .nil).picks (.cons (.s (.s .z)) (.cons (.s (.s .z)) (.cons (.s (.s .z)) (.cons .z (.cons (.s .z) (.cons (.s .z) (.cons (.s (.s .z)) (.cons .z .nil))))))))⟩ hF
         ·
          refine op (OpS.pass rfl rfl rfl ?_)
          refine op (OpS.pass rfl rfl rfl ?_)
          refine op (OpS.pass rfl rfl rfl ?_)
          refine op (OpS.pass rfl rfl rfl ?_)
          refine op (OpS.pass rfl rfl rfl ?_)
          refine op (OpS.pass rfl rfl rfl ?_)
          refine op (OpS.pick rfl rfl rfl rfl ?_)
          refine RunL.nil ?_
          refine Run.slim [(134, .bool false), (0, v0), (3, u1), (4, u2), (9, u10)] ⟨rfl, rfl, rfl, rfl, rfl, trivial⟩ ?_
          refine Run.slim [(0, v0), (3, u1), (4, u2), (9, u10), (134, .bool false)] ⟨rfl, rfl, rfl, rfl, rfl, trivial⟩ ?_
          exact hj7 (false) _ _ ⟨rfl, (h89.facts .nil).picks (.cons (.s (.s .z)) (.cons (.s (.s .z)) (.cons (.s (.s .z)) (.cons .z (.cons (.s .z) (.cons (.s .z) (.cons (.s (.s .z)) (.cons .z .nil))))))))⟩ hF
        ·
         refine op (OpS.pass rfl rfl rfl ?_)
         refine op (OpS.pass rfl rfl rfl ?_)
         refine op (OpS.pass rfl rfl rfl ?_)
         refine op (OpS.pick rfl rfl rfl rfl ?_)
         refine op (OpS.mv rfl rfl rfl ?_)
         refine op (OpS.pass rfl rfl rfl ?_)
         refine op (OpS.pass rfl rfl rfl ?_)
         refine op (OpS.pass rfl rfl rfl ?_)
         refine op (OpS.pass rfl rfl rfl ?_)
         refine op (OpS.pass rfl rfl rfl ?_)
         refine op (OpS.pass rfl rfl rfl ?_)
         refine op (OpS.pick rfl rfl rfl rfl ?_)
         refine RunL.nil ?_
         refine Run.slim [(134, .bool false), (0, v0), (3, u1), (4, u2), (9, u10)] ⟨rfl, rfl, rfl, rfl, rfl, trivial⟩ ?_
         refine Run.slim [(0, v0), (3, u1), (4, u2), (9, u10), (134, .bool false)] ⟨rfl, rfl, rfl, rfl, rfl, trivial⟩ ?_
         exact hj7 (false) _ _ ⟨rfl, (h89.facts .nil).picks (.cons (.s (.s .z)) (.cons (.s (.s .z)) (.cons (.s (.s .z)) (.cons .z (.cons (.s .z) (.cons (.s .z) (.cons (.s (.s .z)) (.cons .z .nil))))))))⟩ hF
      ·
       refine Run.skip ?_
       have h106 := (h30.pick (.s (.s (.s (.s (.s .z)))))).freeze
       have h107 := h106.pick (.s (.s (.s .z)))
       have h108 := St.boxJ (r' := (Rep.iso (fun s : Delivery_ => (s.Masters, s.Bytes, s.OK, s.Failed, ())) (Rep.prod (Rep.slice (Rep.int .i64)) (Rep.prod (Rep.raw (α := List Int) (.slice none 0 0)) (Rep.prod Rep.bool (Rep.prod (Rep.raw (α := List Int) (.slice none 0 0)) Rep.unit)))))) (x' := { Delivery_.z with Masters := s4.2 }) h107 (fun _ _ hs_ => (Jn.iso _ (Jn.prod (Jn.raw ((V.at .z) _ _ hs_) rfl) (Jn.prod Jn.same (Jn.prod Jn.refl (Jn.prod Jn.same Jn.refl))))))
       refine Run.slim [(0, v0), (4, u2), (9, u10)] ⟨rfl, rfl, rfl, trivial⟩ ?_
       exact hj4 ({ Delivery_.z with Masters := s4.2 }, []) _ _ ⟨(.slice none 0 0), rfl, (h108.facts .nil).picks (.cons (.s .z) (.cons (.s (.s .z)) (.cons .z (.cons (.s .z) (.cons (.s (.s .z)) (.cons (.s .z) .nil))))))⟩ hF
  ·
   refine Run.ite rfl hF (fun e58 hF => ?_) (fun e58 hF => ?_)
   ·
    refine Run.seq ?_
    refine Run.reg ?_
    refine op (OpS.as rfl rfl rfl ?_)
    refine RunL.nil ?_
    refine Run.slim [(6, .int .i64 0), (4, u2), (3, u1), (0, v0)] ⟨rfl, rfl, rfl, rfl, trivial⟩ ?_
    refine Run.block ?_
    refine Run.slim [(0, v0), (3, u1), (4, u2), (6, .int .i64 0)] ⟨rfl, rfl, rfl, rfl, trivial⟩ ?_
    refine Run.loopP (σ := (Int × ref21_Bus)) (fun s_ L_ w_ => L_ = [(0, v0), (3, u1), (4, u2), (6, .int .i64 s_.1)] ∧ St e w_ [] [(false, .box 79 (Rep.iso (fun s : ref21_Bus => (s.Masters, ())) (Rep.prod (Rep.raw (α := List ref21_Master) v0_0) Rep.unit)) v0 s_.2), (false, .box 38 Fault_.rep u1 a1), (true, .box 46 Delivery_.rep u2 Delivery_.z), (false, .oval (oslice 87 3 (fun _ => ref21_Master.orep)) v0_0 s_.2.Masters)]) hF ⟨rfl, (h11.facts .nil).picks (.cons .z (.cons (.s (.s .z)) (.cons (.s .z) (.cons .z .nil))))⟩ (fun k4 hk4 s12 _ w42 hI hF => ?_)
    obtain ⟨rfl, h109⟩ := hI
    refine Run.seq ?_
    refine Run.seq ?_
    refine Run.reg ?_
    refine op (OpS.mv rfl rfl rfl ?_)
    refine op (OpS.mv rfl rfl rfl ?_)
    refine op (OpS.nchk h109 .z rfl rfl rfl ?_)
    refine op (OpS.fbox (o3 := 0) h109 .z PA.z fa79_0 rfl rfl rfl rfl ?_)
    refine op (OpS.loadR h109 .z PA.a (GetS.ok (GetS.iso _ (GetS.here GetS.id))) ty77 rfl rfl rfl rfl rfl ?_)
    refine op (OpS.lenD h109 (.s (.s (.s .z))) Try.underlying77 rfl rfl rfl ?_)
    refine op (OpS.bin rfl rfl rfl rfl rfl ?_)
    refine RunL.nil ?_
    refine Run.slim [(28, .bool (decide (s12.1 < (s12.2.Masters.length : Int)))), (0, v0), (3, u1), (4, u2), (6, .int .i64 s12.1)] ⟨rfl, rfl, rfl, rfl, rfl, trivial⟩ ?_
    refine Run.ite rfl hF (fun e59 hF => ?_) (fun e59 hF => ?_)
    ·
     refine Run.skip ?_
     refine Run.seq ?_
     refine Run.block ?_
     refine Run.reg ?_
     refine op (OpS.mv rfl rfl rfl ?_)
     refine op (OpS.nchk h109 .z rfl rfl rfl ?_)
     refine op (OpS.fbox (o3 := 0) h109 .z PA.z fa79_0 rfl rfl rfl rfl ?_)
     refine op (OpS.loadR h109 .z PA.a (GetS.ok (GetS.iso _ (GetS.here GetS.id))) ty77 rfl rfl rfl rfl rfl ?_)
     refine op (OpS.mv rfl rfl rfl ?_)
     obtain ⟨x26, e60, hF⟩ := bindP_use hF
     refine op (OpS.iownD h109 (.s (.s (.s .z))) Try.underlying77 sz87 rfl rfl rfl rfl e60 ?_)
     refine op (OpS.fownD h109 (.s (.s (.s .z))) (idx_ne e60) PA.a fa87_2 rfl rfl rfl ?_)
     obtain ⟨d8, e61, hF⟩ := letP_use hF
     refine op (OpS.storeOD (F2 := fun _ => ref21_Master.orep) (f' := true) (hn := fun _ => rfl) (hn2 := fun _ => rfl) h109 (.s (.s (.s .z))) (idx_ne e60) PA.a (Len.comp (Len.arrSame e60) ref21_Master.l2) ty4 rfl rfl rfl V.bool (.inr rfl) (fun w43 h110 => ?_))
     have h111 := St.termD (l' := d8) h110 e61
     refine RunL.nil ?_
     refine Run.slim [(0, v0), (3, u1), (4, u2), (6, .int .i64 s12.1)] ⟨rfl, rfl, rfl, rfl, trivial⟩ ?_
     refine Run.endBlock ?_
     refine Run.reg ?_
     refine op (OpS.mv rfl rfl rfl ?_)
     refine op (OpS.bin rfl rfl rfl rfl rfl ?_)
     refine op (OpS.as rfl rfl rfl ?_)
     obtain ⟨x27, e62, hF⟩ := letP_use hF
     refine RunL.name e62 ?_
     refine RunL.nil ?_
     refine Run.slim [(6, .int .i64 x27), (0, v0), (3, u1), (4, u2)] ⟨rfl, rfl, rfl, rfl, trivial⟩ ?_
     have h112 := St.boxJ (r' := (Rep.iso (fun s : ref21_Bus => (s.Masters, ())) (Rep.prod (Rep.raw (α := List ref21_Master) v0_0) Rep.unit))) (x' := { s12.2 with Masters := d8 }) (h111.pick (.s .z)) (fun _ _ hs_ => (Jn.iso _ (Jn.prod Jn.same Jn.refl)))
     refine Run.slim [(0, v0), (3, u1), (4, u2), (6, .int .i64 x27)] ⟨rfl, rfl, rfl, rfl, trivial⟩ ?_
     exact hk4 (x27, { s12.2 with Masters := d8 }) _ _ ⟨rfl, (h112.facts .nil).picks (.cons .z (.cons (.s .z) (.cons (.s .z) (.cons .z .nil))))⟩ hF
    ·
     refine Run.exit rfl ?_
     refine Run.slim [(0, v0), (3, u1), (4, u2)] ⟨rfl, rfl, rfl, trivial⟩ ?_
     exact hj1 (s12.2) _ _ ⟨rfl, (h109.facts .nil).picks (.cons .z (.cons .z (.cons .z (.cons .z .nil))))⟩ hF
   ·
    refine Run.skip ?_
    refine Run.slim [(0, v0), (3, u1), (4, u2)] ⟨rfl, rfl, rfl, trivial⟩ ?_
    exact hj1 (a0) _ _ ⟨rfl, (h11.facts .nil).picks (.cons .z (.cons (.s (.s .z)) (.cons (.s .z) (.cons .z .nil))))⟩ hF
theorem ref21_SameInts_ok {fuel : Nat} {a0 : List Int} {a1 : List Int} {y : Bool} (hF : ref21_SameInts fuel a0 a1 = some y) {w : World} {v0 v1 : Value} :
  Spec Try.prog 47 [v0, v1].toArray w [(false, .val (Rep.slice (Rep.int .i64)) v0 a0), (false, .val (Rep.slice (Rep.int .i64)) v1 a1)] [] (fun v Γr Ωr Ωo => v = .bool y ∧ Γr = [] ∧ Ωr = [] ∧ Ωo = []) := by
 refine Spec.of (L := [(0, v0), (1, v1)]) Try.func47 rfl ⟨rfl, rfl, trivial⟩ rfl (fun e h => ?_)
 unfold ref21_SameInts at hF
 refine Run.seq ?_
 refine Run.reg ?_
 refine op (OpS.as rfl rfl rfl ?_)
 refine RunL.nil ?_
 refine Run.slim [(0, v0), (1, v1)] ⟨rfl, rfl, trivial⟩ ?_
 refine Run.seq ?_
 refine Run.seq ?_
 refine Run.reg ?_
 refine op (OpS.mv rfl rfl rfl ?_)
 refine op (OpS.len h Try.underlying33 rfl rfl rfl (V.at .z) ?_)
 refine op (OpS.mv rfl rfl rfl ?_)
 refine op (OpS.len h Try.underlying33 rfl rfl rfl (V.at (.s .z)) ?_)
 refine op (OpS.bin rfl rfl rfl rfl rfl ?_)
 refine RunL.nil ?_
 refine Run.slim [(10, .bool ((a0.length : Int) != (a1.length : Int))), (0, v0), (1, v1)] ⟨rfl, rfl, rfl, trivial⟩ ?_
 refine Run.ite rfl hF (fun e1 hF => ?_) (fun e1 hF => ?_)
 ·
  refine Run.seq ?_
  refine Run.reg ?_
  refine op (OpS.as rfl rfl rfl ?_)
  refine RunL.nil ?_
  refine Run.slim [(4, .bool false)] ⟨rfl, trivial⟩ ?_
  refine Run.retP rfl (.tmp rfl .nil) ?_
  cases hF
  exact Post.mk' ⟨rfl, rfl, rfl, rfl⟩ (h.picks .nil) .nil
 ·
  refine Run.skip ?_
  refine Run.seq ?_
  refine Run.seq ?_
  refine Run.reg ?_
  refine op (OpS.as rfl rfl rfl ?_)
  refine RunL.nil ?_
  refine Run.slim [(5, .int .i64 0), (0, v0), (1, v1)] ⟨rfl, rfl, rfl, trivial⟩ ?_
  refine Run.block ?_
  refine Run.slim [(0, v0), (1, v1), (5, .int .i64 0)] ⟨rfl, rfl, rfl, trivial⟩ ?_
  refine Run.loopP (σ := Int) (fun s_ L_ w_ => L_ = [(0, v0), (1, v1), (5, .int .i64 s_)] ∧ St e w_ [(false, .val (Rep.slice (Rep.int .i64)) v0 a0), (false, .val (Rep.slice (Rep.int .i64)) v1 a1)] []) hF ⟨rfl, (h.facts (.atm .z (.atm (.s .z) .nil))).picks .nil⟩ (fun k1 hk1 s1 _ w1 hI hF => ?_)
  obtain ⟨rfl, h1⟩ := hI
  refine Run.seq ?_
  refine Run.seq ?_
  refine Run.reg ?_
  refine op (OpS.mv rfl rfl rfl ?_)
  refine op (OpS.mv rfl rfl rfl ?_)
  refine op (OpS.len h1 Try.underlying33 rfl rfl rfl (V.at .z) ?_)
  refine op (OpS.bin rfl rfl rfl rfl rfl ?_)
  refine RunL.nil ?_
  refine Run.slim [(14, .bool (decide (s1 < (a0.length : Int)))), (0, v0), (1, v1), (5, .int .i64 s1)] ⟨rfl, rfl, rfl, rfl, trivial⟩ ?_
  refine Run.ite rfl hF (fun e2 hF => ?_) (fun e2 hF => ?_)
  ·
   refine Run.skip ?_
   refine Run.seq ?_
   refine Run.block ?_
   refine Run.seq ?_
   obtain ⟨x1, e3, hF⟩ := bindP_use hF
   obtain ⟨x2, e4, hF⟩ := bindP_use hF
   refine Run.drawV (Ωs := []) [⟨some 17, some (v0), fun _ => [], fun ds_ u_ => [], [], [], none⟩, ⟨some 18, some (.int .i64 s1), fun _ => [], fun ds_ u_ => [], [], [], none⟩, ⟨some 19, none, fun u_ => [(false, .ptr (Rep.int .i64) u_ x1)], fun ds_ u_ => [], [], [], none⟩, ⟨some 20, some (.int .i64 x1), fun _ => [], fun ds_ u_ => [], [], [], none⟩, ⟨some 21, some (v1), fun _ => [], fun ds_ u_ => [], [], [], none⟩, ⟨some 22, some (.int .i64 s1), fun _ => [], fun ds_ u_ => [], [], [], none⟩, ⟨some 23, none, fun u_ => [(false, .ptr (Rep.int .i64) u_ x2)], fun ds_ u_ => [], [], [], none⟩, ⟨some 24, some (.int .i64 x2), fun _ => [], fun ds_ u_ => [], [], [], none⟩, ⟨some 25, some (.bool (x1 != x2)), fun _ => [], fun ds_ u_ => [], [], [], none⟩] [[], [], [0, 1], [2], [], [], [4, 5], [6], [3, 7]] [] [0, 1, 2, 3, 4, 5, 6, 7, 8] Try_mixed rfl rfl rfl h1 (.cons ?_ (.cons ?_ (.cons ?_ (.cons ?_ (.cons ?_ (.cons ?_ (.cons ?_ (.cons ?_ (.cons ?_ .nil))))))))) (fun q1 w hq1 h => ?_)
   ·intro q1 w Γx Ωx h
    refine OpS.mv rfl rfl rfl ?_
    exact ⟨undef, rfl, trivial, h⟩
   ·intro q1 w Γx Ωx h
    refine OpS.mv rfl rfl rfl ?_
    exact ⟨undef, rfl, trivial, h⟩
   ·intro q1 w Γx Ωx h
    refine OpS.iptr h Try.underlying33 ty3 rfl rfl rfl rfl (V.at .z) e3 (fun u h4 => ?_)
    exact ⟨u, rfl, trivial, h4⟩
   ·intro q1 w Γx Ωx h
    refine OpS.loadi h ty3 rfl rfl rfl .z ?_
    exact ⟨undef, rfl, trivial, h⟩
   ·intro q1 w Γx Ωx h
    refine OpS.mv rfl rfl rfl ?_
    exact ⟨undef, rfl, trivial, h⟩
   ·intro q1 w Γx Ωx h
    refine OpS.mv rfl rfl rfl ?_
    exact ⟨undef, rfl, trivial, h⟩
   ·intro q1 w Γx Ωx h
    refine OpS.iptr h Try.underlying33 ty3 rfl rfl rfl rfl (V.at (.s .z)) e4 (fun u h5 => ?_)
    exact ⟨u, rfl, trivial, h5⟩
   ·intro q1 w Γx Ωx h
    refine OpS.loadi h ty3 rfl rfl rfl .z ?_
    exact ⟨undef, rfl, trivial, h⟩
   ·intro q1 w Γx Ωx h
    refine OpS.bin rfl rfl rfl rfl rfl ?_
    exact ⟨undef, rfl, trivial, h⟩
   have h6 : St e w [(false, .ptr (Rep.int .i64) (q1 2) x1), (false, .ptr (Rep.int .i64) (q1 6) x2), (false, .val (Rep.slice (Rep.int .i64)) v0 a0), (false, .val (Rep.slice (Rep.int .i64)) v1 a1)] [] := h
   refine RunL.nil ?_
   refine Run.slim [(25, .bool (x1 != x2)), (0, v0), (1, v1), (5, .int .i64 s1)] ⟨rfl, rfl, rfl, rfl, trivial⟩ ?_
   refine Run.ite rfl hF (fun e5 hF => ?_) (fun e5 hF => ?_)
   ·
    refine Run.seq ?_
    refine Run.reg ?_
    refine op (OpS.as rfl rfl rfl ?_)
    refine RunL.nil ?_
    refine Run.slim [(4, .bool false)] ⟨rfl, trivial⟩ ?_
    refine Run.retP rfl (.tmp rfl .nil) ?_
    cases hF
    exact Post.mk' ⟨rfl, rfl, rfl, rfl⟩ (h6.picks .nil) .nil
   ·
    refine Run.skip ?_
    refine Run.endBlock ?_
    refine Run.reg ?_
    refine op (OpS.mv rfl rfl rfl ?_)
    refine op (OpS.bin rfl rfl rfl rfl rfl ?_)
    refine op (OpS.as rfl rfl rfl ?_)
    obtain ⟨x3, e6, hF⟩ := letP_use hF
    refine RunL.name e6 ?_
    refine RunL.nil ?_
    refine Run.slim [(5, .int .i64 x3), (0, v0), (1, v1)] ⟨rfl, rfl, rfl, trivial⟩ ?_
    refine Run.slim [(0, v0), (1, v1), (5, .int .i64 x3)] ⟨rfl, rfl, rfl, trivial⟩ ?_
    exact hk1 (x3) _ _ ⟨rfl, (h6.facts (.atm (.s (.s .z)) (.atm (.s (.s (.s .z))) .nil))).picks .nil⟩ hF
  ·
   refine Run.exit rfl ?_
   refine Run.seq ?_
   refine Run.reg ?_
   refine op (OpS.as rfl rfl rfl ?_)
   refine RunL.nil ?_
   refine Run.slim [(4, .bool true)] ⟨rfl, trivial⟩ ?_
   refine Run.retP rfl (.tmp rfl .nil) ?_
   cases hF
   exact Post.mk' ⟨rfl, rfl, rfl, rfl⟩ (h1.picks .nil) .nil
theorem ref01_Same_ok {fuel : Nat} {a0 : List Int} {a1 : List Int} {y : Bool} (hF : ref01_Same fuel a0 a1 = some y) {w : World} {v0 v1 : Value} :
  Spec Try.prog 26 [v0, v1].toArray w [(false, .val (Rep.slice (Rep.int .u8)) v0 a0), (false, .val (Rep.slice (Rep.int .u8)) v1 a1)] [] (fun v Γr Ωr Ωo => v = .bool y ∧ Γr = [] ∧ Ωr = [] ∧ Ωo = []) := by
 refine Spec.of (L := [(0, v0), (1, v1)]) Try.func26 rfl ⟨rfl, rfl, trivial⟩ rfl (fun e h => ?_)
 unfold ref01_Same at hF
 refine Run.seq ?_
 refine Run.reg ?_
 refine op (OpS.as rfl rfl rfl ?_)
 refine RunL.nil ?_
 refine Run.slim [(0, v0), (1, v1)] ⟨rfl, rfl, trivial⟩ ?_
 refine Run.seq ?_
 refine Run.seq ?_
 refine Run.reg ?_
 refine op (OpS.mv rfl rfl rfl ?_)
 refine op (OpS.len h Try.underlying34 rfl rfl rfl (V.at .z) ?_)
 refine op (OpS.mv rfl rfl rfl ?_)
 refine op (OpS.len h Try.underlying34 rfl rfl rfl (V.at (.s .z)) ?_)
 refine op (OpS.bin rfl rfl rfl rfl rfl ?_)
 refine RunL.nil ?_
 refine Run.slim [(10, .bool ((a0.length : Int) != (a1.length : Int))), (0, v0), (1, v1)] ⟨rfl, rfl, rfl, trivial⟩ ?_
 refine Run.ite rfl hF (fun e1 hF => ?_) (fun e1 hF => ?_)
 ·
  refine Run.seq ?_
  refine Run.reg ?_
  refine op (OpS.as rfl rfl rfl ?_)
  refine RunL.nil ?_
  refine Run.slim [(4, .bool false)] ⟨rfl, trivial⟩ ?_
  refine Run.retP rfl (.tmp rfl .nil) ?_
  cases hF
  exact Post.mk' ⟨rfl, rfl, rfl, rfl⟩ (h.picks .nil) .nil
 ·
  refine Run.skip ?_
  refine Run.seq ?_
  refine Run.seq ?_
  refine Run.reg ?_
  refine op (OpS.as rfl rfl rfl ?_)
  refine RunL.nil ?_
  refine Run.slim [(5, .int .i64 0), (0, v0), (1, v1)] ⟨rfl, rfl, rfl, trivial⟩ ?_
  refine Run.block ?_
  refine Run.slim [(0, v0), (1, v1), (5, .int .i64 0)] ⟨rfl, rfl, rfl, trivial⟩ ?_
  refine Run.loopP (σ := Int) (fun s_ L_ w_ => L_ = [(0, v0), (1, v1), (5, .int .i64 s_)] ∧ St e w_ [(false, .val (Rep.slice (Rep.int .u8)) v0 a0), (false, .val (Rep.slice (Rep.int .u8)) v1 a1)] []) hF ⟨rfl, (h.facts (.atm .z (.atm (.s .z) .nil))).picks .nil⟩ (fun k1 hk1 s1 _ w1 hI hF => ?_)
  obtain ⟨rfl, h1⟩ := hI
  refine Run.seq ?_
  refine Run.seq ?_
  refine Run.reg ?_
  refine op (OpS.mv rfl rfl rfl ?_)
  refine op (OpS.mv rfl rfl rfl ?_)
  refine op (OpS.len h1 Try.underlying34 rfl rfl rfl (V.at .z) ?_)
  refine op (OpS.bin rfl rfl rfl rfl rfl ?_)
  refine RunL.nil ?_
  refine Run.slim [(14, .bool (decide (s1 < (a0.length : Int)))), (0, v0), (1, v1), (5, .int .i64 s1)] ⟨rfl, rfl, rfl, rfl, trivial⟩ ?_
  refine Run.ite rfl hF (fun e2 hF => ?_) (fun e2 hF => ?_)
  ·
   refine Run.skip ?_
   refine Run.seq ?_
   refine Run.block ?_
   refine Run.seq ?_
   obtain ⟨x1, e3, hF⟩ := bindP_use hF
   obtain ⟨x2, e4, hF⟩ := bindP_use hF
   refine Run.drawV (Ωs := []) [⟨some 17, some (v0), fun _ => [], fun ds_ u_ => [], [], [], none⟩, ⟨some 18, some (.int .i64 s1), fun _ => [], fun ds_ u_ => [], [], [], none⟩, ⟨some 19, none, fun u_ => [(false, .ptr (Rep.int .u8) u_ x1)], fun ds_ u_ => [], [], [], none⟩, ⟨some 20, some (.int .u8 x1), fun _ => [], fun ds_ u_ => [], [], [], none⟩, ⟨some 21, some (v1), fun _ => [], fun ds_ u_ => [], [], [], none⟩, ⟨some 22, some (.int .i64 s1), fun _ => [], fun ds_ u_ => [], [], [], none⟩, ⟨some 23, none, fun u_ => [(false, .ptr (Rep.int .u8) u_ x2)], fun ds_ u_ => [], [], [], none⟩, ⟨some 24, some (.int .u8 x2), fun _ => [], fun ds_ u_ => [], [], [], none⟩, ⟨some 25, some (.bool (x1 != x2)), fun _ => [], fun ds_ u_ => [], [], [], none⟩] [[], [], [0, 1], [2], [], [], [4, 5], [6], [3, 7]] [] [0, 1, 2, 3, 4, 5, 6, 7, 8] Try_mixed rfl rfl rfl h1 (.cons ?_ (.cons ?_ (.cons ?_ (.cons ?_ (.cons ?_ (.cons ?_ (.cons ?_ (.cons ?_ (.cons ?_ .nil))))))))) (fun q1 w hq1 h => ?_)
   ·intro q1 w Γx Ωx h
    refine OpS.mv rfl rfl rfl ?_
    exact ⟨undef, rfl, trivial, h⟩
   ·intro q1 w Γx Ωx h
    refine OpS.mv rfl rfl rfl ?_
    exact ⟨undef, rfl, trivial, h⟩
   ·intro q1 w Γx Ωx h
    refine OpS.iptr h Try.underlying34 ty5 rfl rfl rfl rfl (V.at .z) e3 (fun u h4 => ?_)
    exact ⟨u, rfl, trivial, h4⟩
   ·intro q1 w Γx Ωx h
    refine OpS.loadi h ty5 rfl rfl rfl .z ?_
    exact ⟨undef, rfl, trivial, h⟩
   ·intro q1 w Γx Ωx h
    refine OpS.mv rfl rfl rfl ?_
    exact ⟨undef, rfl, trivial, h⟩
   ·intro q1 w Γx Ωx h
    refine OpS.mv rfl rfl rfl ?_
    exact ⟨undef, rfl, trivial, h⟩
   ·intro q1 w Γx Ωx h
    refine OpS.iptr h Try.underlying34 ty5 rfl rfl rfl rfl (V.at (.s .z)) e4 (fun u h5 => ?_)
    exact ⟨u, rfl, trivial, h5⟩
   ·intro q1 w Γx Ωx h
    refine OpS.loadi h ty5 rfl rfl rfl .z ?_
    exact ⟨undef, rfl, trivial, h⟩
   ·intro q1 w Γx Ωx h
    refine OpS.bin rfl rfl rfl rfl rfl ?_
    exact ⟨undef, rfl, trivial, h⟩
   have h6 : St e w [(false, .ptr (Rep.int .u8) (q1 2) x1), (false, .ptr (Rep.int .u8) (q1 6) x2), (false, .val (Rep.slice (Rep.int .u8)) v0 a0), (false, .val (Rep.slice (Rep.int .u8)) v1 a1)] [] := h
   refine RunL.nil ?_
   refine Run.slim [(25, .bool (x1 != x2)), (0, v0), (1, v1), (5, .int .i64 s1)] ⟨rfl, rfl, rfl, rfl, trivial⟩ ?_
   refine Run.ite rfl hF (fun e5 hF => ?_) (fun e5 hF => ?_)
   ·
    refine Run.seq ?_
    refine Run.reg ?_
    refine op (OpS.as rfl rfl rfl ?_)
    refine RunL.nil ?_
    refine Run.slim [(4, .bool false)] ⟨rfl, trivial⟩ ?_
    refine Run.retP rfl (.tmp rfl .nil) ?_
    cases hF
    exact Post.mk' ⟨rfl, rfl, rfl, rfl⟩ (h6.picks .nil) .nil
   ·
    refine Run.skip ?_
    refine Run.endBlock ?_
    refine Run.reg ?_
    refine op (OpS.mv rfl rfl rfl ?_)
    refine op (OpS.bin rfl rfl rfl rfl rfl ?_)
    refine op (OpS.as rfl rfl rfl ?_)
    obtain ⟨x3, e6, hF⟩ := letP_use hF
    refine RunL.name e6 ?_
    refine RunL.nil ?_
    refine Run.slim [(5, .int .i64 x3), (0, v0), (1, v1)] ⟨rfl, rfl, rfl, trivial⟩ ?_
    refine Run.slim [(0, v0), (1, v1), (5, .int .i64 x3)] ⟨rfl, rfl, rfl, trivial⟩ ?_
    exact hk1 (x3) _ _ ⟨rfl, (h6.facts (.atm (.s (.s .z)) (.atm (.s (.s (.s .z))) .nil))).picks .nil⟩ hF
  ·
   refine Run.exit rfl ?_
   refine Run.seq ?_
   refine Run.reg ?_
   refine op (OpS.as rfl rfl rfl ?_)
   refine RunL.nil ?_
   refine Run.slim [(4, .bool true)] ⟨rfl, trivial⟩ ?_
   refine Run.retP rfl (.tmp rfl .nil) ?_
   cases hF
   exact Post.mk' ⟨rfl, rfl, rfl, rfl⟩ (h1.picks .nil) .nil
theorem ref21_Same_ok {fuel : Nat} {a0 : Delivery_} {a1 : Delivery_} {y : Bool} (hF : ref21_Same fuel a0 a1 = some y) {w : World} {v0 v1 : Value} :
  Spec Try.prog 21 [v0, v1].toArray w [(false, .val Delivery_.rep v0 a0), (false, .val Delivery_.rep v1 a1)] [] (fun v Γr Ωr Ωo => v = .bool y ∧ Γr = [] ∧ Ωr = [] ∧ Ωo = []) := by
 refine Spec.of (L := [(0, v0), (1, v1)]) Try.func21 rfl ⟨rfl, rfl, trivial⟩ rfl (fun e h => ?_)
 unfold ref21_Same at hF
 refine Run.seq ?_
 refine Run.reg ?_
 refine op (OpS.boxF h rfl rfl rfl (V.at .z) (fun u1 w1 h1 => ?_))
 refine op (OpS.boxF h1 rfl rfl rfl (V.at (.s .z)) (fun u2 w2 h2 => ?_))
 refine op (OpS.as rfl rfl rfl ?_)
 refine RunL.nil ?_
 refine Run.slim [(3, u2), (2, u1)] ⟨rfl, rfl, trivial⟩ ?_
 refine Run.seq ?_
 refine Run.reg ?_
 refine op (OpS.fbox (o3 := 0) h2 (.s .z) PA.z fa46_0 rfl rfl rfl rfl ?_)
 refine op (OpS.loadB h2 (.s .z) PA.a (Get.fld Delivery_.f0) ty33 rfl rfl rfl (fun u3 h3 => ?_))
 refine op (OpS.fbox (o3 := 0) h3 .z PA.z fa46_0 rfl rfl rfl rfl ?_)
 refine op (OpS.loadB h3 .z PA.a (Get.fld Delivery_.f0) ty33 rfl rfl rfl (fun u4 h4 => ?_))
 obtain ⟨y1, e1, hF⟩ := bindP_use hF
 refine op (OpS.callP h4 Try.func47 rfl rfl rfl rfl (vs := [u3, u4]) rfl (ref21_SameInts_ok e1) (.cons (f := false) (V.at (.s .z)) (.cons (f := false) (V.at .z) .nil)) ?_)
 rintro _ w3 _ _ _ ⟨rfl, rfl, rfl, rfl⟩ h5
 have h6 := h5 rfl rfl
 simp only [List.cons_append, List.nil_append] at h6
 refine op (OpS.mv rfl rfl rfl ?_)
 refine RunL.caseb hF (fun e2 hF => ?_) (fun e2 hF => ?_)
 ·
  refine op (OpS.fbox (o3 := 1) h6 (.s .z) PA.z fa46_1 rfl rfl rfl rfl ?_)
  refine op (OpS.loadB h6 (.s .z) PA.a (Get.fld Delivery_.f1) ty34 rfl rfl rfl (fun u5 h7 => ?_))
  refine op (OpS.fbox (o3 := 1) h7 .z PA.z fa46_1 rfl rfl rfl rfl ?_)
  refine op (OpS.loadB h7 .z PA.a (Get.fld Delivery_.f1) ty34 rfl rfl rfl (fun u6 h8 => ?_))
  obtain ⟨y2, e3, hF⟩ := bindP_use hF
  refine op (OpS.callP h8 Try.func26 rfl rfl rfl rfl (vs := [u5, u6]) rfl (ref01_Same_ok e3) (.cons (f := false) (V.at (.s .z)) (.cons (f := false) (V.at .z) .nil)) ?_)
  rintro _ w4 _ _ _ ⟨rfl, rfl, rfl, rfl⟩ h9
  have h10 := h9 rfl rfl
  simp only [List.cons_append, List.nil_append] at h10
  refine op (OpS.pick rfl rfl rfl rfl ?_)
  refine op (OpS.mv rfl rfl rfl ?_)
  refine RunL.caseb hF (fun e4 hF => ?_) (fun e4 hF => ?_)
  ·
   refine op (OpS.fbox (o3 := 2) h10 (.s .z) PA.z fa46_2 rfl rfl rfl rfl ?_)
   refine op (OpS.loadBb h10 (.s .z) PA.a (Get.fld Delivery_.f2) ty4 rfl rfl rfl ?_)
   refine op (OpS.fbox (o3 := 2) h10 .z PA.z fa46_2 rfl rfl rfl rfl ?_)
   refine op (OpS.loadBb h10 .z PA.a (Get.fld Delivery_.f2) ty4 rfl rfl rfl ?_)
   refine op (OpS.eqb Try.underlying4 rfl rfl rfl rfl ?_)
   refine op (OpS.pick rfl rfl rfl rfl ?_)
   refine op (OpS.mv rfl rfl rfl ?_)
   refine RunL.caseb hF (fun e5 hF => ?_) (fun e5 hF => ?_)
   ·
    refine op (OpS.fbox (o3 := 3) h10 (.s .z) PA.z fa46_3 rfl rfl rfl rfl ?_)
    refine op (OpS.loadB h10 (.s .z) PA.a (Get.fld Delivery_.f3) ty33 rfl rfl rfl (fun u7 h11 => ?_))
    refine op (OpS.fbox (o3 := 3) h11 .z PA.z fa46_3 rfl rfl rfl rfl ?_)
    refine op (OpS.loadB h11 .z PA.a (Get.fld Delivery_.f3) ty33 rfl rfl rfl (fun u8 h12 => ?_))
    obtain ⟨y3, e6, hF⟩ := bindP_use hF
    refine op (OpS.callP h12 Try.func47 rfl rfl rfl rfl (vs := [u7, u8]) rfl (ref21_SameInts_ok e6) (.cons (f := false) (V.at (.s .z)) (.cons (f := false) (V.at .z) .nil)) ?_)
    rintro _ w5 _ _ _ ⟨rfl, rfl, rfl, rfl⟩ h13
    have h14 := h13 rfl rfl
    simp only [List.cons_append, List.nil_append] at h14
    refine op (OpS.pick rfl rfl rfl rfl ?_)
    refine op (OpS.as rfl rfl rfl ?_)
    refine RunL.nil ?_
    refine Run.slim [(4, .bool y3)] ⟨rfl, trivial⟩ ?_
    refine Run.retP rfl (.tmp rfl .nil) ?_
    cases hF
    exact Post.mk' ⟨rfl, rfl, rfl, rfl⟩ (h14.picks .nil) .nil
   ·
    refine op (OpS.pass rfl rfl rfl ?_)
    refine op (OpS.pass rfl rfl rfl ?_)
    refine op (OpS.pass rfl rfl rfl ?_)
    refine op (OpS.pass rfl rfl rfl ?_)
    refine op (OpS.pass rfl rfl rfl ?_)
    refine op (OpS.pick rfl rfl rfl rfl ?_)
    refine op (OpS.as rfl rfl rfl ?_)
    refine RunL.nil ?_
    refine Run.slim [(4, .bool false)] ⟨rfl, trivial⟩ ?_
    refine Run.retP rfl (.tmp rfl .nil) ?_
    cases hF
    exact Post.mk' ⟨rfl, rfl, rfl, rfl⟩ (h10.picks .nil) .nil
  ·
   refine op (OpS.pass rfl rfl rfl ?_)
   refine op (OpS.pass rfl rfl rfl ?_)
   refine op (OpS.pass rfl rfl rfl ?_)
   refine op (OpS.pass rfl rfl rfl ?_)
   refine op (OpS.pass rfl rfl rfl ?_)
   refine op (OpS.pick rfl rfl rfl rfl ?_)
   refine op (OpS.mv rfl rfl rfl ?_)
   refine op (OpS.pass rfl rfl rfl ?_)
   refine op (OpS.pass rfl rfl rfl ?_)
   refine op (OpS.pass rfl rfl rfl ?_)
   refine op (OpS.pass rfl rfl rfl ?_)
   refine op (OpS.pass rfl rfl rfl ?_)
   refine op (OpS.pick rfl rfl rfl rfl ?_)
   refine op (OpS.as rfl rfl rfl ?_)
   refine RunL.nil ?_
   refine Run.slim [(4, .bool false)] ⟨rfl, trivial⟩ ?_
   refine Run.retP rfl (.tmp rfl .nil) ?_
   cases hF
   exact Post.mk' ⟨rfl, rfl, rfl, rfl⟩ (h10.picks .nil) .nil
 ·
  refine op (OpS.pass rfl rfl rfl ?_)
  refine op (OpS.pass rfl rfl rfl ?_)
  refine op (OpS.pass rfl rfl rfl ?_)
  refine op (OpS.pass rfl rfl rfl ?_)
  refine op (OpS.pass rfl rfl rfl ?_)
  refine op (OpS.pick rfl rfl rfl rfl ?_)
  refine op (OpS.mv rfl rfl rfl ?_)
  refine op (OpS.pass rfl rfl rfl ?_)
  refine op (OpS.pass rfl rfl rfl ?_)
  refine op (OpS.pass rfl rfl rfl ?_)
  refine op (OpS.pass rfl rfl rfl ?_)
  refine op (OpS.pass rfl rfl rfl ?_)
  refine op (OpS.pick rfl rfl rfl rfl ?_)
  refine op (OpS.mv rfl rfl rfl ?_)
  refine op (OpS.pass rfl rfl rfl ?_)
  refine op (OpS.pass rfl rfl rfl ?_)
  refine op (OpS.pass rfl rfl rfl ?_)
  refine op (OpS.pass rfl rfl rfl ?_)
  refine op (OpS.pass rfl rfl rfl ?_)
  refine op (OpS.pick rfl rfl rfl rfl ?_)
  refine op (OpS.as rfl rfl rfl ?_)
  refine RunL.nil ?_
  refine Run.slim [(4, .bool false)] ⟨rfl, trivial⟩ ?_
  refine Run.retP rfl (.tmp rfl .nil) ?_
  cases hF
  exact Post.mk' ⟨rfl, rfl, rfl, rfl⟩ (h6.picks .nil) .nil
theorem ref21_Bus_Pending_ok {fuel : Nat} {a0 : ref21_Bus} {a1 : Int} {y : Int} (hF : ref21_Bus_Pending fuel a0 a1 = some y) {w : World} {v0 v0_0 : Value} :
  Spec Try.prog 23 [v0, .int .i64 a1].toArray w [] [(false, .box 79 (Rep.iso (fun s : ref21_Bus => (s.Masters, ())) (Rep.prod (Rep.raw (α := List ref21_Master) v0_0) Rep.unit)) v0 a0), (false, .oval (oslice 87 3 (fun _ => ref21_Master.orep)) v0_0 a0.Masters)] (fun v Γr Ωr Ωo => v = .int .i64 y ∧ Γr = [] ∧ Ωr = [] ∧ Ωo = [(false, .box 79 (Rep.iso (fun s : ref21_Bus => (s.Masters, ())) (Rep.prod (Rep.raw (α := List ref21_Master) v0_0) Rep.unit)) v0 a0), (false, (.oval (oslice 87 3 (fun _ => ref21_Master.orep)) v0_0 a0.Masters))]) := by
 refine Spec.of (L := [(0, v0), (1, .int .i64 a1)]) Try.func23 rfl ⟨rfl, rfl, trivial⟩ rfl (fun e h => ?_)
 unfold ref21_Bus_Pending at hF
 refine Run.seq ?_
 refine Run.reg ?_
 refine op (OpS.as rfl rfl rfl ?_)
 refine RunL.nil ?_
 refine Run.slim [(0, v0), (1, .int .i64 a1)] ⟨rfl, rfl, trivial⟩ ?_
 refine Run.seq ?_
 refine Run.seq ?_
 refine Run.reg ?_
 refine op (OpS.mv rfl rfl rfl ?_)
 refine op (OpS.bin rfl rfl rfl rfl rfl ?_)
 refine op (OpS.mv rfl rfl rfl ?_)
 refine RunL.join (σ := Bool) (fun s_ L_ w_ => L_ = [(0, v0), (1, .int .i64 a1), (15, .bool s_)] ∧ St e w_ [] [(false, .box 79 (Rep.iso (fun s : ref21_Bus => (s.Masters, ())) (Rep.prod (Rep.raw (α := List ref21_Master) v0_0) Rep.unit)) v0 a0), (false, .oval (oslice 87 3 (fun _ => ref21_Master.orep)) v0_0 a0.Masters)]) hF (fun s1 _ w1 hI hF => ?_) (fun j1 hj1 hF => ?_)
 ·
  obtain ⟨rfl, h1⟩ := hI
  refine Run.ite rfl hF (fun e1 hF => ?_) (fun e1 hF => ?_)
  ·
   refine Run.seq ?_
   refine Run.reg ?_
   refine op (OpS.as rfl rfl rfl ?_)
   refine RunL.nil ?_
   refine Run.slim [(4, .int .i64 0)] ⟨rfl, trivial⟩ ?_
   refine Run.retP rfl (.tmp rfl .nil) ?_
   cases hF
   exact Post.mk' ⟨rfl, rfl, rfl, rfl⟩ (h1.picks (.cons .z (.cons .z .nil))) .nil
  ·
   refine Run.skip ?_
   refine Run.seq ?_
   refine Run.reg ?_
   refine op (OpS.mv rfl rfl rfl ?_)
   refine op (OpS.nchk h1 .z rfl rfl rfl ?_)
   refine op (OpS.fbox (o3 := 0) h1 .z PA.z fa79_0 rfl rfl rfl rfl ?_)
   refine op (OpS.loadR h1 .z PA.a (GetS.ok (GetS.iso _ (GetS.here GetS.id))) ty77 rfl rfl rfl rfl rfl ?_)
   refine op (OpS.mv rfl rfl rfl ?_)
   obtain ⟨x1, e2, hF⟩ := bindP_use hF
   refine op (OpS.iownD h1 (.s .z) Try.underlying77 sz87 rfl rfl rfl rfl e2 ?_)
   refine op (OpS.fownD h1 (.s .z) (idx_ne e2) PA.a fa87_0 rfl rfl rfl ?_)
   refine op (OpS.loadS (fr := Rep.hollow) h1 (.s .z) ref21_Master.wk rfl (idx_ne e2) PA.a (Get.comp (Get.arr e2) (GetS.ok (GetS.iso _ (GetS.here GetS.id)))) (Ty.like ty59 (by rfl) (by rfl)) rfl rfl rfl (fun u1 h2 => ?_))
   refine op (OpS.lenH h2 Try.underlying59 rfl rfl rfl (V.at .z) ?_)
   refine op (OpS.as rfl rfl rfl ?_)
   refine RunL.nil ?_
   refine Run.slim [(4, .int .i64 (x1.Queue.length : Int))] ⟨rfl, trivial⟩ ?_
   refine Run.retP rfl (.tmp rfl .nil) ?_
   cases hF
   exact Post.mk' ⟨rfl, rfl, rfl, rfl⟩ (h2.picks (.cons .z (.cons .z .nil))) .nil
 ·
  refine RunL.caseb hF (fun e3 hF => ?_) (fun e3 hF => ?_)
  ·
   refine op (OpS.pass rfl rfl rfl ?_)
   refine op (OpS.pass rfl rfl rfl ?_)
   refine op (OpS.pass rfl rfl rfl ?_)
   refine op (OpS.pass rfl rfl rfl ?_)
   refine op (OpS.pass rfl rfl rfl ?_)
   refine op (OpS.pass rfl rfl rfl ?_)
   refine op (OpS.pass rfl rfl rfl ?_)
   refine op (OpS.pick rfl rfl rfl rfl ?_)
   refine RunL.nil ?_
   refine Run.slim [(15, .bool true), (0, v0), (1, .int .i64 a1)] ⟨rfl, rfl, rfl, trivial⟩ ?_
   refine Run.slim [(0, v0), (1, .int .i64 a1), (15, .bool true)] ⟨rfl, rfl, rfl, trivial⟩ ?_
   exact hj1 (true) _ _ ⟨rfl, (h.facts .nil).picks (.cons .z (.cons .z .nil))⟩ hF
  ·
   refine op (OpS.mv rfl rfl rfl ?_)
   refine op (OpS.mv rfl rfl rfl ?_)
   refine op (OpS.nchk h .z rfl rfl rfl ?_)
   refine op (OpS.fbox (o3 := 0) h .z PA.z fa79_0 rfl rfl rfl rfl ?_)
   refine op (OpS.loadR h .z PA.a (GetS.ok (GetS.iso _ (GetS.here GetS.id))) ty77 rfl rfl rfl rfl rfl ?_)
   refine op (OpS.lenD h (.s .z) Try.underlying77 rfl rfl rfl ?_)
   refine op (OpS.bin rfl rfl rfl rfl rfl ?_)
   refine op (OpS.pick rfl rfl rfl rfl ?_)
   refine RunL.nil ?_
   refine Run.slim [(15, .bool (decide (a1 ≥ (a0.Masters.length : Int)))), (0, v0), (1, .int .i64 a1)] ⟨rfl, rfl, rfl, trivial⟩ ?_
   refine Run.slim [(0, v0), (1, .int .i64 a1), (15, .bool (decide (a1 ≥ (a0.Masters.length : Int))))] ⟨rfl, rfl, rfl, trivial⟩ ?_
   exact hj1 (decide (a1 ≥ (a0.Masters.length : Int))) _ _ ⟨rfl, (h.facts .nil).picks (.cons .z (.cons .z .nil))⟩ hF
end Lift
