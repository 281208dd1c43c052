import Derived.Test.YtahlmfpllhmjoaaGreatDoorTopProvisionedWalksC
set_option linter.unusedVariables false
set_option linter.unusedSimpArgs false
namespace Lift
open Go Go.Proofs
open RunL (op sr nil gm ga gb gp gk dp du)
abbrev RqD1 : Rep Conversion_ := Rep.iso (fun s : Conversion_ => (s.Form, s.Signed, s.M, s.B, s.K1, s.K2, s.Points, ())) (Rep.prod (Rep.int .i64) (Rep.prod Rep.bool (Rep.prod (Rep.int .i64) (Rep.prod (Rep.int .i64) (Rep.prod (Rep.int .i64) (Rep.prod (Rep.int .i64) (Rep.prod (Rep.raw (α := List Point_) (.slice none 0 0)) Rep.unit)))))))
set_option maxHeartbeats 8000000 in set_option maxRecDepth 20000 in
theorem made_Dice_Conversion_ok {fuel : Nat} {a0 : made_Dice} {y : Conversion_ × made_Dice} (hF : made_Dice_Conversion fuel a0 = some y) {w : World} {v0 : Value} :
  Spec Tryz.prog 171 [v0].toArray w [] [(false, .box 163 made_Dice.rep v0 a0)] (fun v Γr Ωr Ωo => ∃ u0 : Value, v = u0 ∧ Γr = [(true, .val Conversion_.rep u0 y.1)] ∧ Ωr = [] ∧ Ωo = [(false, .box 163 made_Dice.rep v0 y.2)]) := by
 refine Spec.of (L := [(0, v0)]) Tryz.func171 rfl ⟨rfl, trivial⟩ rfl (fun e h => ?_)
 unfold made_Dice_Conversion at hF
 refine sr (op (OpS.alloc h ti69 Conversion_.zr rfl rfl (fun u1 w1 h1 => ?_)))
 refine nil (sr (gm rfl ?_))
 obtain ⟨y1, e1, hF⟩ := bindP_use hF
 have h2 := h1.front (.cons (.s .z) .nil)
 refine op (OpS.callO h2 Tryz.func54 rfl rfl rfl rfl (vs := [v0, .int .i64 5]) rfl (made_Dice_Next_ok e1) rfl .nil ?_)
 rintro _ w2 _ _ _ ⟨rfl, rfl, rfl, rfl⟩ h3
 have h4 := h3
 simp only [ca, na] at h4
 refine gb rfl (gm rfl ?_)
 obtain ⟨y2, e2, hF⟩ := bindP_use hF
 have h5 := h4.front (.cons .z .nil)
 refine op (OpS.callO h5 Tryz.func31 rfl rfl rfl rfl (vs := [v0, .int .i64 2]) rfl (made_Dice_Bool_ok e2) rfl .nil ?_)
 rintro _ w3 _ _ _ ⟨rfl, rfl, rfl, rfl⟩ h6
 have h7 := h6
 simp only [ca, na] at h7
 have h8 := St.nil 211 Point_.rep h7
 refine op (OpS.buildC (f := true) (r := RqD1) (x := Conversion_.z) (r' := RqD1) (x' := (⟨(IntKind.i64.wrap (1 + y1.1)), y2.1, 0, 0, 0, 0, []⟩ : Conversion_)) h8 pl69 ti69 (Zr.iso (y := Conversion_.z) _ (Zr.of (Zr.prod (Zr.int .i64 0) (Zr.prod (Zr.bool false) (Zr.prod (Zr.int .i64 0) (Zr.prod (Zr.int .i64 0) (Zr.prod (Zr.int .i64 0) (Zr.prod (Zr.int .i64 0) (Zr.prod (Zr.raw rfl ([] : List Point_)) Zr.unit))))))) (by rfl))) rfl rfl rfl (.cons (Rep.int .i64) RqD1 RqD1 Conversion_.z (⟨(IntKind.i64.wrap (1 + y1.1)), false, 0, 0, 0, 0, []⟩ : Conversion_) (Chg.iso _ (Chg.here (Chg.id (by rfl)))) rfl rfl V.int (.cons Rep.bool RqD1 RqD1 (⟨(IntKind.i64.wrap (1 + y1.1)), false, 0, 0, 0, 0, []⟩ : Conversion_) (⟨(IntKind.i64.wrap (1 + y1.1)), y2.1, 0, 0, 0, 0, []⟩ : Conversion_) (Chg.iso _ (Chg.there (Chg.here (Chg.id (by rfl))))) rfl rfl V.bool .nil)) (fun u2 h9 => ?_))
 have h10 := St.nil 211 Point_.rep h9
 refine op (OpS.alloc (r := RqD1) h10 ti69 (Zr.iso (y := Conversion_.z) _ (Zr.of (Zr.prod (Zr.int .i64 0) (Zr.prod (Zr.bool false) (Zr.prod (Zr.int .i64 0) (Zr.prod (Zr.int .i64 0) (Zr.prod (Zr.int .i64 0) (Zr.prod (Zr.int .i64 0) (Zr.prod (Zr.raw rfl ([] : List Point_)) Zr.unit))))))) (by rfl))) rfl rfl (fun u3 w4 h11 => ?_))
 refine op (OpS.storeC (f' := true) (fr := RqD1) (r' := RqD1) (x' := (⟨(IntKind.i64.wrap (1 + y1.1)), y2.1, 0, 0, 0, 0, []⟩ : Conversion_)) h11 .z PA.z (Chg.id (by rfl)) (Ty.like ty69 (by rfl) (by rfl)) rfl rfl rfl (V.at .z) (.inl rfl) (fun w5 h12 => ?_))
 refine nil (Run.seq (sr (op (OpS.fbox (o3 := 0) h12 .z PA.z fa69_0 rfl rfl rfl rfl ?_))))
 refine op (OpS.loadBi h12 .z PA.a (GetS.ok (GetS.iso _ (GetS.here GetS.id))) ty3 rfl rfl rfl ?_)
 refine gb rfl (nil ?_)
 refine Run.ite rfl hF (fun e3 hF => ?_) (fun e3 hF => ?_)
 ·
  refine sr (gm rfl ?_)
  obtain ⟨y3, e4, hF⟩ := bindP_use hF
  have h13 := h12.front (.cons (.s (.s (.s .z))) .nil)
  refine op (OpS.callO h13 Tryz.func54 rfl rfl rfl rfl (vs := [v0, .int .i64 1024]) rfl (made_Dice_Next_ok e4) rfl .nil ?_)
  rintro _ w6 _ _ _ ⟨rfl, rfl, rfl, rfl⟩ h14
  have h15 := h14
  simp only [ca, na] at h15
  refine gb rfl (op (OpS.fbox (o3 := 2) h15 (.s .z) PA.z fa69_2 rfl rfl rfl rfl ?_))
  refine op (OpS.storeC (f' := true) (fr := (Rep.int .i64)) (r' := RqD1) (x' := (⟨(IntKind.i64.wrap (1 + y1.1)), y2.1, (IntKind.i64.wrap (y3.1 - 512)), 0, 0, 0, []⟩ : Conversion_)) h15 (.s .z) PA.a (Chg.iso _ (Chg.there (Chg.there (Chg.here (Chg.id (by rfl)))))) ty3 rfl rfl rfl V.int (.inl rfl) (fun w7 h16 => ?_))
  refine nil (sr (gm rfl ?_))
  obtain ⟨y4, e5, hF⟩ := bindP_use hF
  have h17 := h16.front (.cons (.s .z) .nil)
  refine op (OpS.callO h17 Tryz.func54 rfl rfl rfl rfl (vs := [v0, .int .i64 1024]) rfl (made_Dice_Next_ok e5) rfl .nil ?_)
  rintro _ w8 _ _ _ ⟨rfl, rfl, rfl, rfl⟩ h18
  have h19 := h18
  simp only [ca, na] at h19
  refine gb rfl (op (OpS.fbox (o3 := 3) h19 (.s .z) PA.z fa69_3 rfl rfl rfl rfl ?_))
  refine op (OpS.storeC (f' := true) (fr := (Rep.int .i64)) (r' := RqD1) (x' := (⟨(IntKind.i64.wrap (1 + y1.1)), y2.1, (IntKind.i64.wrap (y3.1 - 512)), (IntKind.i64.wrap (y4.1 - 512)), 0, 0, []⟩ : Conversion_)) h19 (.s .z) PA.a (Chg.iso _ (Chg.there (Chg.there (Chg.there (Chg.here (Chg.id (by rfl))))))) ty3 rfl rfl rfl V.int (.inl rfl) (fun w9 h20 => ?_))
  refine nil (Run.seq (sr (gm rfl ?_)))
  obtain ⟨y5, e6, hF⟩ := bindP_use hF
  have h21 := h20.front (.cons (.s .z) .nil)
  refine op (OpS.callO h21 Tryz.func31 rfl rfl rfl rfl (vs := [v0, .int .i64 2]) rfl (made_Dice_Bool_ok e6) rfl .nil ?_)
  rintro _ w10 _ _ _ ⟨rfl, rfl, rfl, rfl⟩ h22
  have h23 := h22
  simp only [ca, na] at h23
  refine nil ?_
  refine Run.join (σ := (made_Dice × Conversion_)) (fun s_ L_ w_ => L_ = [(0, v0), (2, u1), (3, u3)] ∧ St e w_ [] [(false, .box 163 made_Dice.rep v0 s_.1), (true, .box 69 Conversion_.rep u1 Conversion_.z), (true, .box 69 RqD1 u3 s_.2), (true, .slice 211 Point_.rep (.slice none 0 0) ([]))]) hF (fun s1 _ w11 hI hF => ?_) (fun j1 hj1 hF => ?_)
  ·
   obtain ⟨rfl, h24⟩ := hI
   refine sr (gm rfl ?_)
   obtain ⟨y6, e7, hF⟩ := bindP_use hF
   have h25 := h24.front (.cons .z .nil)
   refine op (OpS.callO h25 Tryz.func54 rfl rfl rfl rfl (vs := [v0, .int .i64 7]) rfl (made_Dice_Next_ok e7) rfl .nil ?_)
   rintro _ w12 _ _ _ ⟨rfl, rfl, rfl, rfl⟩ h26
   have h27 := h26
   simp only [ca, na] at h27
   refine gb rfl (op (OpS.fbox (o3 := 4) h27 (.s (.s .z)) PA.z fa69_4 rfl rfl rfl rfl ?_))
   obtain ⟨d1, e8, hF⟩ := letP_use hF
   refine op (OpS.storeC (f' := true) (fr := (Rep.int .i64)) (r' := RqD1) (x' := d1) h27 (.s (.s .z)) PA.a (Chg.of (x' := { s1.2 with K1 := (IntKind.i64.wrap (y6.1 - 3)) }) (Chg.iso _ (Chg.there (Chg.there (Chg.there (Chg.there (Chg.here (Chg.id (by rfl)))))))) e8) ty3 rfl rfl rfl V.int (.inl rfl) (fun w13 h28 => ?_))
   refine nil (sr (gm rfl ?_))
   obtain ⟨y7, e9, hF⟩ := bindP_use hF
   have h29 := h28.front (.cons (.s .z) .nil)
   refine op (OpS.callO h29 Tryz.func54 rfl rfl rfl rfl (vs := [v0, .int .i64 7]) rfl (made_Dice_Next_ok e9) rfl .nil ?_)
   rintro _ w14 _ _ _ ⟨rfl, rfl, rfl, rfl⟩ h30
   have h31 := h30
   simp only [ca, na] at h31
   refine gb rfl (op (OpS.fbox (o3 := 5) h31 (.s .z) PA.z fa69_5 rfl rfl rfl rfl ?_))
   obtain ⟨d2, e10, hF⟩ := letP_use hF
   refine op (OpS.storeC (f' := true) (fr := (Rep.int .i64)) (r' := RqD1) (x' := d2) h31 (.s .z) PA.a (Chg.of (x' := { d1 with K2 := (IntKind.i64.wrap (y7.1 - 3)) }) (Chg.iso _ (Chg.there (Chg.there (Chg.there (Chg.there (Chg.there (Chg.here (Chg.id (by rfl))))))))) e10) ty3 rfl rfl rfl V.int (.inl rfl) (fun w15 h32 => ?_))
   refine nil (sr (op (OpS.loadB (fr := RqD1) h32 .z PA.z (GetS.ok GetS.id) (Ty.like ty69 (by rfl) (by rfl)) rfl rfl rfl (fun u4 h33 => ?_))))
   refine op (OpS.storeC (f' := true) (fr := RqD1) (r' := RqD1) (x' := d2) h33 (.s (.s .z)) PA.z (Chg.id (by rfl)) (Ty.like ty69 (by rfl) (by rfl)) rfl rfl rfl (V.at .z) (.inl rfl) (fun w16 h34 => ?_))
   refine nil ?_
   obtain ⟨u5, hu1, h35⟩ := res_box h34 .z (Ty.like ty69 (by rfl) (by rfl))
   have h36 := (h35.pick (.s (.s (.s .z)))).freeze
   have h37 := h36.pick .z
   have h38 := St.boxJ (r' := Conversion_.rep) (x' := { d2 with Points := [] }) h37 (fun _ _ hs_ => (Jn.iso _ (Jn.prod Jn.refl (Jn.prod Jn.refl (Jn.prod Jn.refl (Jn.prod Jn.refl (Jn.prod Jn.refl (Jn.prod Jn.refl (Jn.prod (Jn.raw ((V.at .z) _ _ hs_) rfl) Jn.refl)))))))))
   have h39 := h38.pick (.s .z)
   have h40 := St.boxJ (r' := Conversion_.rep) (x' := { d2 with Points := [] }) h39 (fun _ _ hs_ => (Jn.iso _ (Jn.prod Jn.refl (Jn.prod Jn.refl (Jn.prod Jn.refl (Jn.prod Jn.refl (Jn.prod Jn.refl (Jn.prod Jn.refl (Jn.prod (Jn.raw ((V.at .z) _ _ hs_) rfl) Jn.refl)))))))))
   have h41 := St.addV (f := true) (r := Conversion_.rep) (x := { d2 with Points := [] }) h40 (V.jn (r := RqD1) (x := d2) (V.at (.s .z)) rfl (fun _ _ hs_ => (Jn.iso _ (Jn.prod Jn.refl (Jn.prod Jn.refl (Jn.prod Jn.refl (Jn.prod Jn.refl (Jn.prod Jn.refl (Jn.prod Jn.refl (Jn.prod (Jn.raw ((V.at .z) _ _ hs_) rfl) Jn.refl))))))))))
   refine Run.retP rfl (.cell rfl hu1 .nil) ?_
   cases hF
   exact Post.mk' ⟨u5, rfl, rfl, rfl, rfl⟩ (h41.picks (.cons (.s (.s .z)) .nil)) (.val (V.at .z) .nil)
  ·
   refine Run.ite rfl hF (fun e11 hF => ?_) (fun e11 hF => ?_)
   ·
    refine sr (gm rfl ?_)
    obtain ⟨y8, e12, hF⟩ := bindP_use hF
    have h42 := h23.front (.cons .z .nil)
    refine op (OpS.callO h42 Tryz.func54 rfl rfl rfl rfl (vs := [v0, .int .i64 21]) rfl (made_Dice_Next_ok e12) rfl .nil ?_)
    rintro _ w17 _ _ _ ⟨rfl, rfl, rfl, rfl⟩ h43
    have h44 := h43
    simp only [ca, na] at h44
    refine gb rfl (op (OpS.fbox (o3 := 2) h44 (.s .z) PA.z fa69_2 rfl rfl rfl rfl ?_))
    refine op (OpS.storeC (f' := true) (fr := (Rep.int .i64)) (r' := RqD1) (x' := (⟨(IntKind.i64.wrap (1 + y1.1)), y2.1, (IntKind.i64.wrap (y8.1 - 10)), (IntKind.i64.wrap (y4.1 - 512)), 0, 0, []⟩ : Conversion_)) h44 (.s .z) PA.a (Chg.iso _ (Chg.there (Chg.there (Chg.here (Chg.id (by rfl)))))) ty3 rfl rfl rfl V.int (.inl rfl) (fun w18 h45 => ?_))
    refine nil (Run.reg (gm rfl ?_))
    obtain ⟨y9, e13, hF⟩ := bindP_use hF
    have h46 := h45.front (.cons (.s .z) .nil)
    refine op (OpS.callO h46 Tryz.func54 rfl rfl rfl rfl (vs := [v0, .int .i64 41]) rfl (made_Dice_Next_ok e13) rfl .nil ?_)
    rintro _ w19 _ _ _ ⟨rfl, rfl, rfl, rfl⟩ h47
    have h48 := h47
    simp only [ca, na] at h48
    refine gb rfl (op (OpS.fbox (o3 := 3) h48 (.s .z) PA.z fa69_3 rfl rfl rfl rfl ?_))
    refine op (OpS.storeC (f' := true) (fr := (Rep.int .i64)) (r' := RqD1) (x' := (⟨(IntKind.i64.wrap (1 + y1.1)), y2.1, (IntKind.i64.wrap (y8.1 - 10)), (IntKind.i64.wrap (y9.1 - 20)), 0, 0, []⟩ : Conversion_)) h48 (.s .z) PA.a (Chg.iso _ (Chg.there (Chg.there (Chg.there (Chg.here (Chg.id (by rfl))))))) ty3 rfl rfl rfl V.int (.inl rfl) (fun w20 h49 => ?_))
    refine nil (Run.slim [(0, v0), (2, u1), (3, u3)] ⟨rfl, rfl, rfl, trivial⟩ ?_)
    exact hj1 (y9.2, (⟨(IntKind.i64.wrap (1 + y1.1)), y2.1, (IntKind.i64.wrap (y8.1 - 10)), (IntKind.i64.wrap (y9.1 - 20)), 0, 0, []⟩ : Conversion_)) _ _ ⟨rfl, (h49.facts .nil).picks (.cons (.s .z) (.cons (.s (.s (.s .z))) (.cons .z (.cons (.s .z) .nil))))⟩ hF
   ·
    refine Run.skip (Run.slim [(0, v0), (2, u1), (3, u3)] ⟨rfl, rfl, rfl, trivial⟩ ?_)
    exact hj1 (y5.2, (⟨(IntKind.i64.wrap (1 + y1.1)), y2.1, (IntKind.i64.wrap (y3.1 - 512)), (IntKind.i64.wrap (y4.1 - 512)), 0, 0, []⟩ : Conversion_)) _ _ ⟨rfl, (h23.facts .nil).picks (.cons .z (.cons (.s (.s (.s .z))) (.cons .z (.cons (.s .z) .nil))))⟩ hF
 ·
  refine Run.skip (sr (gm rfl ?_))
  obtain ⟨y10, e14, hF⟩ := bindP_use hF
  have h50 := h12.front (.cons (.s (.s (.s .z))) .nil)
  refine op (OpS.callO h50 Tryz.func54 rfl rfl rfl rfl (vs := [v0, .int .i64 11]) rfl (made_Dice_Next_ok e14) rfl .nil ?_)
  rintro _ w21 _ _ _ ⟨rfl, rfl, rfl, rfl⟩ h51
  have h52 := h51
  simp only [ca, na] at h52
  refine gb rfl (ga rfl ?_)
  obtain ⟨x1, e15, hF⟩ := letP_use hF
  refine RunL.name e15 ?_
  refine nil (sr (op (OpS.fbox (o3 := 1) h52 (.s .z) PA.z fa69_1 rfl rfl rfl rfl ?_)))
  refine op (OpS.loadBb h52 (.s .z) PA.a (GetS.ok (GetS.iso _ (GetS.there (GetS.here GetS.id)))) ty4 rfl rfl rfl ?_)
  obtain ⟨y11, e16, hF⟩ := bindP_use hF
  refine op (OpS.callP h52 Tryz.func222 rfl rfl rfl rfl (vs := [.bool y2.1]) rfl (ref04_Least_ok e16) .nil ?_)
  rintro _ w22 _ _ _ ⟨rfl, rfl, rfl, rfl⟩ h53
  have h54 := h53 rfl rfl
  simp only [ca, na] at h54
  refine gm rfl ?_
  obtain ⟨y12, e17, hF⟩ := bindP_use hF
  have h55 := h54.front (.cons .z .nil)
  refine op (OpS.callO h55 Tryz.func54 rfl rfl rfl rfl (vs := [v0, .int .i64 40]) rfl (made_Dice_Next_ok e17) rfl .nil ?_)
  rintro _ w23 _ _ _ ⟨rfl, rfl, rfl, rfl⟩ h56
  have h57 := h56
  simp only [ca, na] at h57
  refine gb rfl (ga rfl ?_)
  obtain ⟨x2, e18, hF⟩ := letP_use hF
  refine RunL.name e18 ?_
  refine nil (Run.seq (sr (ga rfl (nil (Run.block (Run.slim [(0, v0), (2, u1), (3, u3), (4, .int .i64 x1), (5, .int .i64 x2), (6, .int .i64 0)] ⟨rfl, rfl, rfl, rfl, rfl, rfl, trivial⟩ ?_))))))
  refine Run.loopP (σ := (Int × Int × made_Dice × (List Point_))) (fun s_ L_ w_ => ∃ u0_ : Value, L_ = [(0, v0), (2, u1), (3, u3), (4, .int .i64 x1), (5, .int .i64 s_.1), (6, .int .i64 s_.2.1)] ∧ St e w_ [] [(false, .box 163 made_Dice.rep v0 s_.2.2.1), (true, .box 69 Conversion_.rep u1 Conversion_.z), (true, .box 69 (Rep.iso (fun s : Conversion_ => (s.Form, s.Signed, s.M, s.B, s.K1, s.K2, s.Points, ())) (Rep.prod (Rep.int .i64) (Rep.prod Rep.bool (Rep.prod (Rep.int .i64) (Rep.prod (Rep.int .i64) (Rep.prod (Rep.int .i64) (Rep.prod (Rep.int .i64) (Rep.prod (Rep.raw (α := List Point_) u0_) Rep.unit)))))))) u3 (⟨(IntKind.i64.wrap (1 + y1.1)), y2.1, 0, 0, 0, 0, []⟩ : Conversion_)), (true, .slice 211 Point_.rep u0_ s_.2.2.2)]) hF ⟨(.slice none 0 0), rfl, (h57.facts .nil).picks (.cons .z (.cons (.s (.s (.s .z))) (.cons .z (.cons (.s .z) .nil))))⟩ (fun k1 hk1 s2 _ w24 hI hF => ?_)
  obtain ⟨u6, rfl, h58⟩ := hI
  refine Run.seq (sr (gm rfl (gm rfl (gb rfl (nil ?_)))))
  refine Run.ite rfl hF (fun e19 hF => ?_) (fun e19 hF => ?_)
  ·
   refine Run.skip (Run.seq (Run.block (Run.seq ?_)))
   have h59 := h58.picks (.cons .z (.cons (.s .z) (.cons .z (.cons .z .nil))))
   obtain ⟨y13, e20, hF⟩ := bindP_use hF
   obtain ⟨y14, e21, hF⟩ := bindP_use hF
   refine Run.drawV (Ωs := [(true, .box 69 Conversion_.rep u1 Conversion_.z), (true, .slice 211 Point_.rep u6 s2.2.2.2)]) [.kr 57 (padd u3 6) [1], .kr 58 u6 [1], .k 59 (.int .i64 s2.1), .k 60 (.int .u8 y13), .k 61 v0, ⟨some 62, some (.int .i64 y14.1), fun _ => [], fun ds_ u_ => [(false, .box 163 made_Dice.rep v0 y14.2)], [0], [], none⟩, .f 63 (fun u_ => [(true, .val Point_.rep u_ (⟨y13, y14.1⟩ : Point_))]), .f 64 (fun u_ => [(true, .val (Rep.slice Point_.rep) u_ ([(⟨y13, y14.1⟩ : Point_)]))])] [[], [0], [], [2], [], [4], [3, 5], [6]] [[(false, .box 163 made_Dice.rep v0 s2.2.2.1)], [(true, .box 69 (Rep.iso (fun s : Conversion_ => (s.Form, s.Signed, s.M, s.B, s.K1, s.K2, s.Points, ())) (Rep.prod (Rep.int .i64) (Rep.prod Rep.bool (Rep.prod (Rep.int .i64) (Rep.prod (Rep.int .i64) (Rep.prod (Rep.int .i64) (Rep.prod (Rep.int .i64) (Rep.prod (Rep.raw (α := List Point_) u6) Rep.unit)))))))) u3 (⟨(IntKind.i64.wrap (1 + y1.1)), y2.1, 0, 0, 0, 0, []⟩ : Conversion_))]] [1, 2, 3, 4, 5, 6, 7, 8, 9] Try_mixed rfl rfl rfl h59 (.cons ?_ (.cons ?_ (.cons ?_ (.cons ?_ (.cons ?_ (.cons ?_ (.cons ?_ (.cons ?_ .nil)))))))) (fun q1 w hq1 h => ?_)
   ·intro q1 w Γx Ωx h
    refine OpS.fbox (o3 := 6) h .z PA.z fa69_6 rfl rfl rfl rfl ?_
    exact du h
   ·intro q1 w Γx Ωx h
    refine OpS.loadR h .z PA.a (GetS.ok (GetS.iso _ (GetS.there (GetS.there (GetS.there (GetS.there (GetS.there (GetS.there (GetS.here GetS.id))))))))) ty67 rfl rfl rfl rfl rfl ?_
    exact du h
   ·intro q1 w Γx Ωx h
    refine OpS.mv rfl rfl rfl ?_
    exact du h
   ·intro q1 w Γx Ωx h
    refine OpS.callP h Tryz.func223 rfl rfl rfl rfl (vs := [.int .i64 s2.1]) rfl (ref04_Raw_ok e20) .nil ?_
    rintro _ w28 _ _ _ ⟨rfl, rfl, rfl, rfl⟩ h67
    have h68 := h67 rfl rfl
    simp only [ca, na] at h68
    exact ⟨undef, rfl, trivial, h68⟩
   ·intro q1 w Γx Ωx h
    refine OpS.mv rfl rfl rfl ?_
    exact du h
   ·intro q1 w Γx Ωx h
    have h69 := h.front (.cons .z .nil)
    refine OpS.callO h69 Tryz.func224 rfl rfl rfl rfl (vs := [v0]) rfl (made_Dice_Micro_ok e21) rfl .nil ?_
    rintro _ w29 _ _ _ ⟨rfl, rfl, rfl, rfl⟩ h70
    have h71 := h70
    simp only [ca, na] at h71
    exact ⟨undef, rfl, trivial, h71⟩
   ·intro q1 w Γx Ωx h
    refine OpS.build (f := true) (x' := (⟨y13, y14.1⟩ : Point_)) h pl211 ti211 Point_.zr rfl rfl rfl (.cons rfl Point_.f0 rfl V.int (.cons rfl Point_.f1 rfl V.int .nil)) (fun u h72 => ?_)
    exact ⟨u, rfl, trivial, h72⟩
   ·intro q1 w Γx Ωx h
    refine OpS.lit (r := Point_.rep) (f := true) h Tryz.underlying67 ti211 rfl rfl rfl rfl rfl (.cons rfl (V.at .z) .nil) rfl rfl (fun u w30 h73 => ?_)
    exact ⟨u, rfl, trivial, h73⟩
   have h74 := h
   obtain ⟨x3, e22, hF⟩ := bindP_use hF
   refine op (OpS.app (f' := true) h74 (.s (.s (.s .z))) Tryz.underlying67 ti211 rfl rfl rfl rfl rfl rfl rfl (V.at (.s .z)) (.inr Point_.pure) e22 (fun u7 w31 h75 => ?_))
   refine op (OpS.fbox (o3 := 6) h75 (.s .z) PA.z fa69_6 rfl rfl rfl rfl ?_)
   refine op (OpS.storeC (f' := true) (fr := (Rep.raw u7)) (r' := (Rep.iso (fun s : Conversion_ => (s.Form, s.Signed, s.M, s.B, s.K1, s.K2, s.Points, ())) (Rep.prod (Rep.int .i64) (Rep.prod Rep.bool (Rep.prod (Rep.int .i64) (Rep.prod (Rep.int .i64) (Rep.prod (Rep.int .i64) (Rep.prod (Rep.int .i64) (Rep.prod (Rep.raw (α := List Point_) u7) Rep.unit))))))))) (x' := (⟨(IntKind.i64.wrap (1 + y1.1)), y2.1, 0, 0, 0, 0, []⟩ : Conversion_)) h75 (.s .z) PA.a (Chg.iso _ (Chg.there (Chg.there (Chg.there (Chg.there (Chg.there (Chg.there (Chg.here (Chg.id (by rfl)))))))))) (Ty.like ty67 (by rfl) (by rfl)) rfl rfl rfl (V.raw (f := true) (St.own1 h75 .z) ([])) (.inl rfl) (fun w32 h76 => ?_))
   refine nil (Run.reg (gm rfl (gm rfl ?_)))
   obtain ⟨y15, e23, hF⟩ := bindP_use hF
   have h77 := h76.front (.cons (.s (.s .z)) .nil)
   refine op (OpS.callO h77 Tryz.func54 rfl rfl rfl rfl (vs := [v0, .int .i64 18]) rfl (made_Dice_Next_ok e23) rfl .nil ?_)
   rintro _ w33 _ _ _ ⟨rfl, rfl, rfl, rfl⟩ h78
   have h79 := h78
   simp only [ca, na] at h79
   refine gb rfl (gb rfl (ga rfl ?_))
   obtain ⟨x4, e24, hF⟩ := letP_use hF
   refine RunL.name e24 ?_
   refine nil (Run.endBlock (Run.reg (gm rfl (gb rfl (ga rfl ?_)))))
   obtain ⟨x5, e25, hF⟩ := letP_use hF
   refine RunL.name e25 ?_
   refine nil (Run.slim [(0, v0), (2, u1), (3, u3), (4, .int .i64 x1), (5, .int .i64 x4), (6, .int .i64 x5)] ⟨rfl, rfl, rfl, rfl, rfl, rfl, trivial⟩ ?_)
   exact hk1 (x4, x5, y15.2, x3) _ _ ⟨u7, rfl, (h79.facts .nil).picks (.cons .z (.cons (.s (.s .z)) (.cons .z (.cons .z .nil))))⟩ hF
  ·
   refine Run.exit rfl ?_
   refine sr (op (OpS.loadB (fr := (Rep.iso (fun s : Conversion_ => (s.Form, s.Signed, s.M, s.B, s.K1, s.K2, s.Points, ())) (Rep.prod (Rep.int .i64) (Rep.prod Rep.bool (Rep.prod (Rep.int .i64) (Rep.prod (Rep.int .i64) (Rep.prod (Rep.int .i64) (Rep.prod (Rep.int .i64) (Rep.prod (Rep.raw (α := List Point_) u6) Rep.unit))))))))) h58 (.s (.s .z)) PA.z (GetS.ok GetS.id) (Ty.like ty69 (by rfl) (by rfl)) rfl rfl rfl (fun u8 h80 => ?_)))
   refine op (OpS.storeC (f' := true) (fr := (Rep.iso (fun s : Conversion_ => (s.Form, s.Signed, s.M, s.B, s.K1, s.K2, s.Points, ())) (Rep.prod (Rep.int .i64) (Rep.prod Rep.bool (Rep.prod (Rep.int .i64) (Rep.prod (Rep.int .i64) (Rep.prod (Rep.int .i64) (Rep.prod (Rep.int .i64) (Rep.prod (Rep.raw (α := List Point_) u6) Rep.unit))))))))) (r' := (Rep.iso (fun s : Conversion_ => (s.Form, s.Signed, s.M, s.B, s.K1, s.K2, s.Points, ())) (Rep.prod (Rep.int .i64) (Rep.prod Rep.bool (Rep.prod (Rep.int .i64) (Rep.prod (Rep.int .i64) (Rep.prod (Rep.int .i64) (Rep.prod (Rep.int .i64) (Rep.prod (Rep.raw (α := List Point_) u6) Rep.unit))))))))) (x' := (⟨(IntKind.i64.wrap (1 + y1.1)), y2.1, 0, 0, 0, 0, []⟩ : Conversion_)) h80 (.s .z) PA.z (Chg.id (by rfl)) (Ty.like ty69 (by rfl) (by rfl)) rfl rfl rfl (V.at .z) (.inl rfl) (fun w34 h81 => ?_))
   refine nil ?_
   obtain ⟨u9, hu2, h82⟩ := res_box h81 .z (Ty.like ty69 (by rfl) (by rfl))
   have h83 := (h82.pick (.s (.s (.s .z)))).freeze
   have h84 := h83.pick .z
   have h85 := St.boxJ (r' := Conversion_.rep) (x' := (⟨(IntKind.i64.wrap (1 + y1.1)), y2.1, 0, 0, 0, 0, s2.2.2.2⟩ : Conversion_)) h84 (fun _ _ hs_ => (Jn.iso _ (Jn.prod Jn.refl (Jn.prod Jn.refl (Jn.prod Jn.refl (Jn.prod Jn.refl (Jn.prod Jn.refl (Jn.prod Jn.refl (Jn.prod (Jn.raw ((V.at .z) _ _ hs_) rfl) Jn.refl)))))))))
   have h86 := h85.pick (.s (.s .z))
   have h87 := St.boxJ (r' := Conversion_.rep) (x' := (⟨(IntKind.i64.wrap (1 + y1.1)), y2.1, 0, 0, 0, 0, s2.2.2.2⟩ : Conversion_)) h86 (fun _ _ hs_ => (Jn.iso _ (Jn.prod Jn.refl (Jn.prod Jn.refl (Jn.prod Jn.refl (Jn.prod Jn.refl (Jn.prod Jn.refl (Jn.prod Jn.refl (Jn.prod (Jn.raw ((V.at .z) _ _ hs_) rfl) Jn.refl)))))))))
   have h88 := St.addV (f := true) (r := Conversion_.rep) (x := (⟨(IntKind.i64.wrap (1 + y1.1)), y2.1, 0, 0, 0, 0, s2.2.2.2⟩ : Conversion_)) h87 (V.jn (r := (Rep.iso (fun s : Conversion_ => (s.Form, s.Signed, s.M, s.B, s.K1, s.K2, s.Points, ())) (Rep.prod (Rep.int .i64) (Rep.prod Rep.bool (Rep.prod (Rep.int .i64) (Rep.prod (Rep.int .i64) (Rep.prod (Rep.int .i64) (Rep.prod (Rep.int .i64) (Rep.prod (Rep.raw (α := List Point_) u6) Rep.unit))))))))) (x := (⟨(IntKind.i64.wrap (1 + y1.1)), y2.1, 0, 0, 0, 0, []⟩ : Conversion_)) (V.at (.s .z)) rfl (fun _ _ hs_ => (Jn.iso _ (Jn.prod Jn.refl (Jn.prod Jn.refl (Jn.prod Jn.refl (Jn.prod Jn.refl (Jn.prod Jn.refl (Jn.prod Jn.refl (Jn.prod (Jn.raw ((V.at .z) _ _ hs_) rfl) Jn.refl))))))))))
   refine Run.retP rfl (.cell rfl hu2 .nil) ?_
   cases hF
   exact Post.mk' ⟨u9, rfl, rfl, rfl, rfl⟩ (h88.picks (.cons (.s (.s .z)) .nil)) (.val (V.at .z) .nil)
theorem ref10_Has_ok {fuel : Nat} {a0 : Int} {a1 : Int} {y : Bool} (hF : ref10_Has fuel a0 a1 = some y) {w : World} :
  Spec Tryz.prog 225 [.int .u16 a0, .int .i64 a1].toArray w [] [] (fun v Γr Ωr Ωo => v = .bool y ∧ Γr = [] ∧ Ωr = [] ∧ Ωo = []) := by
 refine Spec.of (L := [(0, .int .u16 a0), (1, .int .i64 a1)]) Tryz.func225 rfl ⟨rfl, rfl, trivial⟩ rfl (fun e h => ?_)
 unfold ref10_Has at hF
 refine sr (ga rfl (nil (sr (gm rfl (gm rfl (op (OpS.conv Tryz.underlying3 Tryz.underlying271 rfl rfl rfl ?_)))))))
 obtain ⟨e1, hF⟩ := chk_use hF
 refine op (OpS.shr rfl rfl rfl rfl e1 ?_)
 refine op (OpS.rem rfl rfl rfl rfl (by decide) ?_)
 refine gb rfl (ga rfl ?_)
 obtain ⟨x1, e2, hF⟩ := letP_use hF
 refine RunL.nameb e2 ?_
 refine nil (Run.retP rfl (.tmp rfl .nil) ?_)
 cases hF
 exact Post.mk' ⟨rfl, rfl, rfl, rfl⟩ (h.picks .nil) .nil
set_option maxRecDepth 20000 in
theorem made_Dice_thresholds_ok {fuel : Nat} {a0 : made_Dice} {a1 : Bool} {y : Thresholds_ × made_Dice} (hF : made_Dice_thresholds fuel a0 a1 = some y) {w : World} {v0 : Value} :
  Spec Tryz.prog 172 [v0, .bool a1].toArray w [] [(false, .box 163 made_Dice.rep v0 a0)] (fun v Γr Ωr Ωo => ∃ u0 : Value, v = u0 ∧ Γr = [(true, .val Thresholds_.rep u0 y.1)] ∧ Ωr = [] ∧ Ωo = [(false, .box 163 made_Dice.rep v0 y.2)]) := by
 refine Spec.of (L := [(0, v0), (1, .bool a1)]) Tryz.func172 rfl ⟨rfl, rfl, trivial⟩ rfl (fun e h => ?_)
 unfold made_Dice_thresholds at hF
 refine sr (op (OpS.alloc h ti72 Thresholds_.zr rfl rfl (fun u1 w1 h1 => ?_)))
 refine nil (sr (gm rfl ?_))
 obtain ⟨y1, e1, hF⟩ := bindP_use hF
 have h2 := h1.front (.cons (.s .z) .nil)
 refine op (OpS.callO h2 Tryz.func54 rfl rfl rfl rfl (vs := [v0, .int .i64 64]) rfl (made_Dice_Next_ok e1) rfl .nil ?_)
 rintro _ w2 _ _ _ ⟨rfl, rfl, rfl, rfl⟩ h3
 have h4 := h3
 simp only [ca, na] at h4
 refine op (OpS.conv Tryz.underlying3 Tryz.underlying5 rfl rfl rfl ?_)
 refine op (OpS.build (f := true) (x' := (⟨(IntKind.u8.wrap y1.1), (List.replicate 6 0)⟩ : Thresholds_)) h4 pl72 ti72 Thresholds_.zr rfl rfl rfl (.cons rfl Thresholds_.f0 rfl V.int .nil) (fun u2 h5 => ?_))
 refine op (OpS.alloc h5 ti72 Thresholds_.zr rfl rfl (fun u3 w3 h6 => ?_))
 refine op (OpS.storeB (f' := true) h6 .z PA.z Put.id ty72 rfl rfl rfl (V.at .z) (.inl rfl) (fun w4 h7 => ?_))
 refine nil (sr (gm rfl ?_))
 obtain ⟨y2, e2, hF⟩ := bindP_use hF
 refine op (OpS.callP h7 Tryz.func222 rfl rfl rfl rfl (vs := [.bool a1]) rfl (ref04_Least_ok e2) .nil ?_)
 rintro _ w5 _ _ _ ⟨rfl, rfl, rfl, rfl⟩ h8
 have h9 := h8 rfl rfl
 simp only [ca, na] at h9
 refine gm rfl ?_
 obtain ⟨y3, e3, hF⟩ := bindP_use hF
 have h10 := h9.front (.cons (.s .z) .nil)
 refine op (OpS.callO h10 Tryz.func54 rfl rfl rfl rfl (vs := [v0, .int .i64 40]) rfl (made_Dice_Next_ok e3) rfl .nil ?_)
 rintro _ w6 _ _ _ ⟨rfl, rfl, rfl, rfl⟩ h11
 have h12 := h11
 simp only [ca, na] at h12
 refine gb rfl (ga rfl ?_)
 obtain ⟨x1, e4, hF⟩ := letP_use hF
 refine RunL.name e4 ?_
 refine nil (sr (op (OpS.buildA (f := true) (r := (Rep.int .i64)) h12 Tryz.underlying346 ti3 rfl ti346 rfl rfl rfl (.cons rfl V.int (.cons rfl V.int (.cons rfl V.int (.cons rfl V.int (.cons rfl V.int (.cons rfl V.int .nil)))))) rfl (fun u4 h13 => ?_))))
 refine op (OpS.alloc h13 ti346 (Zr.of (Zr.arr (Zr.int .i64 0) 6) rfl) rfl rfl (fun u5 w7 h14 => ?_))
 obtain ⟨d1, e5, hF⟩ := letP_use hF
 refine op (OpS.storeB (f' := true) h14 .z PA.z (Put.of Put.id e5) ty346 rfl rfl rfl (V.at .z) (.inl rfl) (fun w8 h15 => ?_))
 refine nil (Run.seq (sr (ga rfl (nil (Run.block (Run.slim [(0, v0), (4, u1), (5, u3), (6, .int .i64 x1), (7, u5), (8, .int .i64 0)] ⟨rfl, rfl, rfl, rfl, rfl, rfl, trivial⟩ ?_))))))
 refine Run.loopP (σ := (Int × Int × made_Dice × Thresholds_)) (fun s_ L_ w_ => L_ = [(0, v0), (4, u1), (5, u3), (6, .int .i64 s_.1), (7, u5), (8, .int .i64 s_.2.1)] ∧ St e w_ [] [(false, .box 163 made_Dice.rep v0 s_.2.2.1), (true, .box 72 Thresholds_.rep u1 Thresholds_.z), (true, .box 72 Thresholds_.rep u3 s_.2.2.2), (true, .box 346 (Rep.arr 6 (Rep.int .i64)) u5 d1)]) hF ⟨rfl, (h15.facts .nil).picks (.cons (.s .z) (.cons (.s (.s .z)) (.cons (.s .z) (.cons .z .nil))))⟩ (fun k1 hk1 s1 _ w9 hI hF => ?_)
 obtain ⟨rfl, h16⟩ := hI
 refine Run.seq (sr (gm rfl (gb rfl (nil ?_))))
 refine Run.ite rfl hF (fun e6 hF => ?_) (fun e6 hF => ?_)
 ·
  refine Run.skip (Run.seq (Run.block (Run.seq (sr (gm rfl (gb rfl (nil ?_)))))))
  refine Run.join (σ := Int) (fun s_ L_ w_ => L_ = [(0, v0), (4, u1), (5, u3), (6, .int .i64 s_), (7, u5), (8, .int .i64 s1.2.1)] ∧ St e w_ [] [(false, .box 163 made_Dice.rep v0 s1.2.2.1), (true, .box 72 Thresholds_.rep u1 Thresholds_.z), (true, .box 72 Thresholds_.rep u3 s1.2.2.2), (true, .box 346 (Rep.arr 6 (Rep.int .i64)) u5 d1)]) hF (fun s2 _ w10 hI hF => ?_) (fun j1 hj1 hF => ?_)
  ·
   obtain ⟨rfl, h17⟩ := hI
   refine Run.seq ?_
   have h18 := h17.picks (.cons (.s (.s .z)) (.cons (.s (.s .z)) (.cons .z (.cons .z .nil))))
   obtain ⟨x2, e7, hF⟩ := bindP_use hF
   obtain ⟨e8, hF⟩ := chk_use hF
   refine Run.drawV (Ωs := [(false, .box 163 made_Dice.rep v0 s1.2.2.1), (true, .box 72 Thresholds_.rep u1 Thresholds_.z)]) [.kr 27 (padd u3 0) [0], .kr 28 (.int .u8 s1.2.2.2.Mask) [0], .k 29 (.int .u16 (IntKind.u16.wrap s1.2.2.2.Mask)), .k 30 (.int .i64 s1.2.1), .kr 31 (padd u5 (0 + (s1.2.1 : Int).toNat * (Rep.int .i64).n)) [1], .kr 32 (.int .i64 x2) [1]] [[], [0], [1], [], [3], [4]] [[(true, .box 72 Thresholds_.rep u3 s1.2.2.2)], [(true, .box 346 (Rep.arr 6 (Rep.int .i64)) u5 d1)]] [0, 1, 2, 3, 4, 5, 6, 7] Try_mixed rfl rfl rfl h18 (.cons ?_ (.cons ?_ (.cons ?_ (.cons ?_ (.cons ?_ (.cons ?_ .nil)))))) (fun q1 w hq1 h => ?_)
   ·intro q1 w Γx Ωx h
    refine OpS.fbox (o3 := 0) h .z PA.z fa72_0 rfl rfl rfl rfl ?_
    exact du h
   ·intro q1 w Γx Ωx h
    refine OpS.loadBi h .z PA.a (Get.fld Thresholds_.f0) ty5 rfl rfl rfl ?_
    exact du h
   ·intro q1 w Γx Ωx h
    refine OpS.conv Tryz.underlying5 Tryz.underlying49 rfl rfl rfl ?_
    exact du h
   ·intro q1 w Γx Ωx h
    refine OpS.mv rfl rfl rfl ?_
    exact du h
   ·intro q1 w Γx Ωx h
    refine OpS.ibox h .z PA.z Tryz.underlying346 ty3 (Nat.eq_of_beq_eq_true e8) rfl rfl rfl rfl e7 ?_
    exact du h
   ·intro q1 w Γx Ωx h
    refine OpS.loadBi h .z PA.a (Get.comp Get.id (Get.arr e7)) ty3 rfl rfl rfl ?_
    exact du h
   have h19 := h
   obtain ⟨y4, e9, hF⟩ := bindP_use hF
   refine op (OpS.callP h19 Tryz.func225 rfl rfl rfl rfl (vs := [.int .u16 (IntKind.u16.wrap s1.2.2.2.Mask), .int .i64 x2]) rfl (ref10_Has_ok e9) .nil ?_)
   rintro _ w11 _ _ _ ⟨rfl, rfl, rfl, rfl⟩ h20
   have h21 := h20 rfl rfl
   simp only [ca, na] at h21
   refine nil ?_
   refine Run.ite rfl hF (fun e10 hF => ?_) (fun e10 hF => ?_)
   ·
    refine Run.seq ?_
    obtain ⟨x3, e11, hF⟩ := bindP_use hF
    obtain ⟨e12, hF⟩ := chk_use hF
    obtain ⟨y5, e13, hF⟩ := bindP_use hF
    refine Run.drawV (Ωs := [(false, .box 163 made_Dice.rep v0 s1.2.2.1), (true, .box 72 Thresholds_.rep u1 Thresholds_.z)]) [.k 34 (.int .i64 s1.2.1), .kr 35 (padd u5 (0 + (s1.2.1 : Int).toNat * (Rep.int .i64).n)) [1], .kr 36 (.int .i64 x3) [1], .k 37 (.int .i64 s2), .k 38 (.int .u8 y5), .kr 39 (padd u3 1) [0]] [[], [0], [1], [], [3], []] [[(true, .box 72 Thresholds_.rep u3 s1.2.2.2)], [(true, .box 346 (Rep.arr 6 (Rep.int .i64)) u5 d1)]] [0, 1, 2, 3, 4, 5, 6, 7] Try_mixed rfl rfl rfl h21 (.cons ?_ (.cons ?_ (.cons ?_ (.cons ?_ (.cons ?_ (.cons ?_ .nil)))))) (fun q2 w hq2 h => ?_)
    ·intro q2 w Γx Ωx h
     refine OpS.mv rfl rfl rfl ?_
     exact du h
    ·intro q2 w Γx Ωx h
     refine OpS.ibox h .z PA.z Tryz.underlying346 ty3 (Nat.eq_of_beq_eq_true e12) rfl rfl rfl rfl e11 ?_
     exact du h
    ·intro q2 w Γx Ωx h
     refine OpS.loadBi h .z PA.a (Get.comp Get.id (Get.arr e11)) ty3 rfl rfl rfl ?_
     exact du h
    ·intro q2 w Γx Ωx h
     refine OpS.mv rfl rfl rfl ?_
     exact du h
    ·intro q2 w Γx Ωx h
     refine OpS.callP h Tryz.func223 rfl rfl rfl rfl (vs := [.int .i64 s2]) rfl (ref04_Raw_ok e13) .nil ?_
     rintro _ w13 _ _ _ ⟨rfl, rfl, rfl, rfl⟩ h24
     have h25 := h24 rfl rfl
     simp only [ca, na] at h25
     exact ⟨undef, rfl, trivial, h25⟩
    ·intro q2 w Γx Ωx h
     refine OpS.fbox (o3 := 1) h .z PA.z fa72_1 rfl rfl rfl rfl ?_
     exact du h
    have h26 := h
    obtain ⟨x4, e14, hF⟩ := bindP_use hF
    obtain ⟨e15, hF⟩ := chk_use hF
    refine op (OpS.ibox h26 .z PA.a Tryz.underlying70 ty5 (Nat.eq_of_beq_eq_true e15) rfl rfl rfl rfl e14 ?_)
    obtain ⟨d2, e16, hF⟩ := letP_use hF
    refine op (OpS.storeB (f' := true) h26 .z PA.a (Put.of (Put.comp (Get.fld Thresholds_.f1) (Put.arr e14) (Put.fld Thresholds_.f1)) e16) ty5 rfl rfl rfl V.int (.inl rfl) (fun w14 h27 => ?_))
    refine nil (Run.reg (gm rfl (gm rfl ?_)))
    obtain ⟨y6, e17, hF⟩ := bindP_use hF
    have h28 := h27.front (.cons (.s (.s .z)) .nil)
    refine op (OpS.callO h28 Tryz.func54 rfl rfl rfl rfl (vs := [v0, .int .i64 36]) rfl (made_Dice_Next_ok e17) rfl .nil ?_)
    rintro _ w15 _ _ _ ⟨rfl, rfl, rfl, rfl⟩ h29
    have h30 := h29
    simp only [ca, na] at h30
    refine gb rfl (ga rfl ?_)
    obtain ⟨x5, e18, hF⟩ := letP_use hF
    refine RunL.name e18 ?_
    refine nil (Run.endBlock (Run.reg (gm rfl (gb rfl (ga rfl ?_)))))
    obtain ⟨x6, e19, hF⟩ := letP_use hF
    refine RunL.name e19 ?_
    refine nil (Run.slim [(0, v0), (4, u1), (5, u3), (6, .int .i64 x5), (7, u5), (8, .int .i64 x6)] ⟨rfl, rfl, rfl, rfl, rfl, rfl, trivial⟩ ?_)
    exact hk1 (x5, x6, y6.2, d2) _ _ ⟨rfl, (h30.facts .nil).picks (.cons .z (.cons (.s (.s .z)) (.cons .z (.cons .z .nil))))⟩ hF
   ·
    refine Run.skip (Run.endBlock (Run.reg (gm rfl (gb rfl (ga rfl ?_)))))
    obtain ⟨x7, e20, hF⟩ := letP_use hF
    refine RunL.name e20 ?_
    refine nil (Run.slim [(0, v0), (4, u1), (5, u3), (6, .int .i64 s2), (7, u5), (8, .int .i64 x7)] ⟨rfl, rfl, rfl, rfl, rfl, rfl, trivial⟩ ?_)
    exact hk1 (s2, x7, s1.2.2.1, s1.2.2.2) _ _ ⟨rfl, (h21.facts .nil).picks (.cons (.s (.s .z)) (.cons (.s (.s .z)) (.cons .z (.cons .z .nil))))⟩ hF
  ·
   refine Run.ite rfl hF (fun e21 hF => ?_) (fun e21 hF => ?_)
   ·
    refine Run.reg (gm rfl (gb rfl (ga rfl ?_)))
    obtain ⟨x8, e22, hF⟩ := letP_use hF
    refine RunL.name e22 ?_
    refine nil (Run.slim [(0, v0), (4, u1), (5, u3), (6, .int .i64 x8), (7, u5), (8, .int .i64 s1.2.1)] ⟨rfl, rfl, rfl, rfl, rfl, rfl, trivial⟩ ?_)
    exact hj1 (x8) _ _ ⟨rfl, (h16.facts .nil).picks (.cons .z (.cons .z (.cons .z (.cons .z .nil))))⟩ hF
   ·
    refine Run.skip (Run.slim [(0, v0), (4, u1), (5, u3), (6, .int .i64 s1.1), (7, u5), (8, .int .i64 s1.2.1)] ⟨rfl, rfl, rfl, rfl, rfl, rfl, trivial⟩ ?_)
    exact hj1 (s1.1) _ _ ⟨rfl, (h16.facts .nil).picks (.cons .z (.cons .z (.cons .z (.cons .z .nil))))⟩ hF
 ·
  refine Run.exit rfl ?_
  refine sr (op (OpS.loadB h16 (.s (.s .z)) PA.z Get.id ty72 rfl rfl rfl (fun u6 h31 => ?_)))
  refine op (OpS.storeB (f' := true) h31 (.s .z) PA.z Put.id ty72 rfl rfl rfl (V.at .z) (.inl rfl) (fun w16 h32 => ?_))
  refine nil ?_
  obtain ⟨u7, hu1, h33⟩ := res_box h32 .z ty72
  refine Run.retP rfl (.cell rfl hu1 .nil) ?_
  cases hF
  exact Post.mk' ⟨u7, rfl, rfl, rfl, rfl⟩ (h33.picks (.cons (.s .z) .nil)) (.val (V.at .z) .nil)
set_option maxHeartbeats 8000000 in set_option maxRecDepth 20000 in
theorem made_Dice_Sensor_ok {fuel : Nat} {a0 : made_Dice} {a1 : Int} {y : Sensor_ × made_Dice} (hF : made_Dice_Sensor fuel a0 a1 = some y) {w : World} {v0 : Value} :
  Spec Tryz.prog 102 [v0, .int .u8 a1].toArray w [] [(false, .box 163 made_Dice.rep v0 a0)] (fun v Γr Ωr Ωo => ∃ u0 : Value, v = u0 ∧ Γr = [(true, .val Sensor_.rep u0 y.1)] ∧ Ωr = [] ∧ Ωo = [(false, .box 163 made_Dice.rep v0 y.2)]) := by
 refine Spec.of (L := [(0, v0), (1, .int .u8 a1)]) Tryz.func102 rfl ⟨rfl, rfl, trivial⟩ rfl (fun e h => ?_)
 unfold made_Dice_Sensor at hF
 refine sr (op (OpS.alloc h ti74 Sensor_.zr rfl rfl (fun u1 w1 h1 => ?_)))
 refine nil (sr (gm rfl (gm rfl ?_)))
 obtain ⟨y1, e1, hF⟩ := bindP_use hF
 have h2 := h1.front (.cons (.s .z) .nil)
 refine op (OpS.callO h2 Tryz.func54 rfl rfl rfl rfl (vs := [v0, .int .i64 4]) rfl (made_Dice_Next_ok e1) rfl .nil ?_)
 rintro _ w2 _ _ _ ⟨rfl, rfl, rfl, rfl⟩ h3
 have h4 := h3
 simp only [ca, na] at h4
 refine gb rfl (op (OpS.conv Tryz.underlying3 Tryz.underlying5 rfl rfl rfl ?_))
 refine gm rfl ?_
 obtain ⟨y2, e2, hF⟩ := bindP_use hF
 have h5 := h4.front (.cons .z .nil)
 refine op (OpS.callO h5 Tryz.func76 rfl rfl rfl rfl (vs := [v0]) rfl (made_Dice_Byte_ok e2) rfl .nil ?_)
 rintro _ w3 _ _ _ ⟨rfl, rfl, rfl, rfl⟩ h6
 have h7 := h6
 simp only [ca, na] at h7
 refine gm rfl (gm rfl ?_)
 obtain ⟨y3, e3, hF⟩ := bindP_use hF
 have h8 := h7.front (.cons .z .nil)
 refine op (OpS.callO h8 Tryz.func54 rfl rfl rfl rfl (vs := [v0, .int .i64 16]) rfl (made_Dice_Next_ok e3) rfl .nil ?_)
 rintro _ w4 _ _ _ ⟨rfl, rfl, rfl, rfl⟩ h9
 have h10 := h9
 simp only [ca, na] at h10
 refine gb rfl ?_
 obtain ⟨y4, e4, hF⟩ := bindP_use hF
 have h11 := h10.front (.cons .z .nil)
 refine op (OpS.callO h11 Tryz.func170 rfl rfl rfl rfl (vs := [v0, (.string ⟨#[67, 80, 85, 32, 84, 101, 109, 112, 46, 48, 49, 57]⟩), .int .i64 (IntKind.i64.wrap (1 + y3.1))]) rfl (made_Dice_Text_ok e4) rfl (.cons (f := true) (V.str (f := true)) .nil) ?_)
 rintro u2 w5 _ _ _ ⟨_, rfl, rfl, rfl, rfl⟩ h12
 have h13 := h12
 simp only [ca, na] at h13
 refine gm rfl ?_
 obtain ⟨y5, e5, hF⟩ := bindP_use hF
 have h14 := h13.front (.cons .z .nil)
 refine op (OpS.callO h14 Tryz.func32 rfl rfl rfl rfl (vs := [v0]) rfl (made_Dice_Entity_ok e5) rfl .nil ?_)
 rintro u3 w6 _ _ _ ⟨_, rfl, rfl, rfl, rfl⟩ h15
 have h16 := h15
 simp only [ca, na] at h16
 refine gm rfl ?_
 obtain ⟨y6, e6, hF⟩ := bindP_use hF
 have h17 := h16.front (.cons .z .nil)
 refine op (OpS.callO h17 Tryz.func31 rfl rfl rfl rfl (vs := [v0, .int .i64 4]) rfl (made_Dice_Bool_ok e6) rfl .nil ?_)
 rintro _ w7 _ _ _ ⟨rfl, rfl, rfl, rfl⟩ h18
 have h19 := h18
 simp only [ca, na] at h19
 refine op (OpS.build (f := true) (x' := (⟨a1, (IntKind.u8.wrap (IntKind.i64.wrap (1 + y1.1))), y2.1, y4.1, y5.1, false, Conversion_.z, Thresholds_.z, 0, 0, 0, 0, 0, y6.1, 1⟩ : Sensor_)) h19 pl74 ti74 Sensor_.zr rfl rfl rfl (.cons rfl Sensor_.f0 rfl V.int (.cons rfl Sensor_.f1 rfl V.int (.cons rfl Sensor_.f2 rfl V.int (.cons rfl Sensor_.f3 rfl (V.at (.s .z)) (.cons rfl Sensor_.f4 rfl (V.at .z) (.cons rfl Sensor_.f13 rfl V.bool (.cons rfl Sensor_.f14 rfl V.int .nil))))))) (fun u4 h20 => ?_))
 refine op (OpS.alloc h20 ti74 Sensor_.zr rfl rfl (fun u5 w8 h21 => ?_))
 refine op (OpS.storeB (f' := true) h21 .z PA.z Put.id ty74 rfl rfl rfl (V.at .z) (.inl rfl) (fun w9 h22 => ?_))
 refine nil (Run.seq (sr (gm rfl ?_)))
 obtain ⟨y7, e7, hF⟩ := bindP_use hF
 have h23 := h22.front (.cons (.s .z) .nil)
 refine op (OpS.callO h23 Tryz.func31 rfl rfl rfl rfl (vs := [v0, .int .i64 3]) rfl (made_Dice_Bool_ok e7) rfl .nil ?_)
 rintro _ w10 _ _ _ ⟨rfl, rfl, rfl, rfl⟩ h24
 have h25 := h24
 simp only [ca, na] at h25
 refine nil ?_
 refine Run.ite rfl hF (fun e8 hF => ?_) (fun e8 hF => ?_)
 ·
  refine sr (op (OpS.fbox (o3 := 6) h25 (.s .z) PA.z fa74_5 rfl rfl rfl rfl ?_))
  refine op (OpS.storeB (f' := true) h25 (.s .z) PA.a (Put.fld Sensor_.f5) ty4 rfl rfl rfl V.bool (.inl rfl) (fun w11 h26 => ?_))
  refine nil (sr (gm rfl ?_))
  obtain ⟨y8, e9, hF⟩ := bindP_use hF
  have h27 := h26.front (.cons (.s .z) .nil)
  refine op (OpS.callO h27 Tryz.func54 rfl rfl rfl rfl (vs := [v0, .int .i64 32768]) rfl (made_Dice_Next_ok e9) rfl .nil ?_)
  rintro _ w12 _ _ _ ⟨rfl, rfl, rfl, rfl⟩ h28
  have h29 := h28
  simp only [ca, na] at h29
  refine op (OpS.conv Tryz.underlying3 Tryz.underlying49 rfl rfl rfl ?_)
  refine op (OpS.fbox (o3 := 23) h29 (.s .z) PA.z fa74_10 rfl rfl rfl rfl ?_)
  refine op (OpS.storeB (f' := true) h29 (.s .z) PA.a (Put.fld Sensor_.f10) ty49 rfl rfl rfl V.int (.inl rfl) (fun w13 h30 => ?_))
  refine nil (Run.seq ?_)
  obtain ⟨y9, e10, hF⟩ := bindP_use hF
  refine Run.drawV (Ωs := [(true, .box 74 Sensor_.rep u1 Sensor_.z)]) [.kr 31 (padd u5 23) [0], .kr 32 (.int .u16 (IntKind.u16.wrap y8.1)) [0], .k 33 v0, ⟨some 34, some (.int .i64 y9.1), fun _ => [], fun ds_ u_ => [(false, .box 163 made_Dice.rep v0 y9.2)], [1], [], none⟩, .k 35 (.int .u16 (IntKind.u16.wrap y9.1))] [[], [0], [], [2], [3]] [[(true, .box 74 Sensor_.rep u5 (⟨a1, (IntKind.u8.wrap (IntKind.i64.wrap (1 + y1.1))), y2.1, y4.1, y5.1, true, Conversion_.z, Thresholds_.z, 0, 0, (IntKind.u16.wrap y8.1), 0, 0, y6.1, 1⟩ : Sensor_))], [(false, .box 163 made_Dice.rep v0 y8.2)]] [0, 2, 3, 4, 5, 6] Try_mixed rfl rfl rfl h30 (.cons ?_ (.cons ?_ (.cons ?_ (.cons ?_ (.cons ?_ .nil))))) (fun q1 w hq1 h => ?_)
  ·intro q1 w Γx Ωx h
   refine OpS.fbox (o3 := 23) h .z PA.z fa74_10 rfl rfl rfl rfl ?_
   exact du h
  ·intro q1 w Γx Ωx h
   refine OpS.loadBi h .z PA.a (Get.fld Sensor_.f10) ty49 rfl rfl rfl ?_
   exact du h
  ·intro q1 w Γx Ωx h
   refine OpS.mv rfl rfl rfl ?_
   exact du h
  ·intro q1 w Γx Ωx h
   have h34 := h.front (.cons .z .nil)
   refine OpS.callO h34 Tryz.func54 rfl rfl rfl rfl (vs := [v0, .int .i64 4]) rfl (made_Dice_Next_ok e10) rfl .nil ?_
   rintro _ w15 _ _ _ ⟨rfl, rfl, rfl, rfl⟩ h35
   have h36 := h35
   simp only [ca, na] at h36
   exact ⟨undef, rfl, trivial, h36⟩
  ·intro q1 w Γx Ωx h
   refine OpS.conv Tryz.underlying3 Tryz.underlying49 rfl rfl rfl ?_
   exact du h
  have h37 := h
  refine gb rfl (op (OpS.fbox (o3 := 24) h37 .z PA.z fa74_11 rfl rfl rfl rfl ?_))
  refine op (OpS.storeB (f' := true) h37 .z PA.a (Put.fld Sensor_.f11) ty49 rfl rfl rfl V.int (.inl rfl) (fun w16 h38 => ?_))
  refine nil (Run.slim [(5, u5), (4, u1), (0, v0)] ⟨rfl, rfl, rfl, trivial⟩ ?_)
  refine Run.seq ?_
  obtain ⟨y10, e11, hF⟩ := bindP_use hF
  obtain ⟨y11, e12, hF⟩ := bindP_use hF
  refine Run.drawV (Ωs := [(true, .box 74 Sensor_.rep u1 Sensor_.z)]) [.kr 38 (padd u5 23) [0], .kr 39 (.int .u16 (IntKind.u16.wrap y8.1)) [0], .k 40 v0, ⟨some 41, some (.int .i64 y10.1), fun _ => [], fun ds_ u_ => [(false, .box 163 made_Dice.rep v0 y10.2)], [1], [], none⟩, .k 42 v0, ⟨some 43, some (.int .i64 y11.1), fun _ => [], fun ds_ u_ => [(false, .box 163 made_Dice.rep v0 y11.2)], [5], [], none⟩, .k 44 (.int .i64 (IntKind.i64.wrap (y10.1 * y11.1))), .k 45 (.int .u16 (IntKind.u16.wrap (IntKind.i64.wrap (y10.1 * y11.1))))] [[], [0], [], [2], [], [4], [3, 5], [6]] [[(true, .box 74 Sensor_.rep u5 (⟨a1, (IntKind.u8.wrap (IntKind.i64.wrap (1 + y1.1))), y2.1, y4.1, y5.1, true, Conversion_.z, Thresholds_.z, 0, 0, (IntKind.u16.wrap y8.1), (bAndNot .u16 (IntKind.u16.wrap y8.1) (IntKind.u16.wrap y9.1)), 0, y6.1, 1⟩ : Sensor_))], [(false, .box 163 made_Dice.rep v0 y9.2)]] [0, 2, 3, 4, 6, 7, 8, 9] Try_mixed rfl rfl rfl h38 (.cons ?_ (.cons ?_ (.cons ?_ (.cons ?_ (.cons ?_ (.cons ?_ (.cons ?_ (.cons ?_ .nil)))))))) (fun q2 w hq2 h => ?_)
  ·intro q2 w Γx Ωx h
   refine OpS.fbox (o3 := 23) h .z PA.z fa74_10 rfl rfl rfl rfl ?_
   exact du h
  ·intro q2 w Γx Ωx h
   refine OpS.loadBi h .z PA.a (Get.fld Sensor_.f10) ty49 rfl rfl rfl ?_
   exact du h
  ·intro q2 w Γx Ωx h
   refine OpS.mv rfl rfl rfl ?_
   exact du h
  ·intro q2 w Γx Ωx h
   have h45 := h.front (.cons .z .nil)
   refine OpS.callO h45 Tryz.func54 rfl rfl rfl rfl (vs := [v0, .int .i64 4]) rfl (made_Dice_Next_ok e11) rfl .nil ?_
   rintro _ w19 _ _ _ ⟨rfl, rfl, rfl, rfl⟩ h46
   have h47 := h46
   simp only [ca, na] at h47
   exact ⟨undef, rfl, trivial, h47⟩
  ·intro q2 w Γx Ωx h
   refine OpS.mv rfl rfl rfl ?_
   exact du h
  ·intro q2 w Γx Ωx h
   have h48 := h.front (.cons .z .nil)
   refine OpS.callO h48 Tryz.func54 rfl rfl rfl rfl (vs := [v0, .int .i64 300]) rfl (made_Dice_Next_ok e12) rfl .nil ?_
   rintro _ w20 _ _ _ ⟨rfl, rfl, rfl, rfl⟩ h49
   have h50 := h49
   simp only [ca, na] at h50
   exact ⟨undef, rfl, trivial, h50⟩
  ·intro q2 w Γx Ωx h
   refine OpS.bin rfl rfl rfl rfl rfl ?_
   exact du h
  ·intro q2 w Γx Ωx h
   refine OpS.conv Tryz.underlying3 Tryz.underlying49 rfl rfl rfl ?_
   exact du h
  have h51 := h
  refine gb rfl (op (OpS.fbox (o3 := 25) h51 .z PA.z fa74_12 rfl rfl rfl rfl ?_))
  refine op (OpS.storeB (f' := true) h51 .z PA.a (Put.fld Sensor_.f12) ty49 rfl rfl rfl V.int (.inl rfl) (fun w21 h52 => ?_))
  refine nil (sr (op (OpS.loadB h52 .z PA.z Get.id ty74 rfl rfl rfl (fun u6 h53 => ?_))))
  refine op (OpS.storeB (f' := true) h53 (.s (.s .z)) PA.z Put.id ty74 rfl rfl rfl (V.at .z) (.inl rfl) (fun w22 h54 => ?_))
  refine nil ?_
  obtain ⟨u7, hu1, h55⟩ := res_box h54 .z ty74
  refine Run.retP rfl (.cell rfl hu1 .nil) ?_
  cases hF
  exact Post.mk' ⟨u7, rfl, rfl, rfl, rfl⟩ (h55.picks (.cons (.s (.s .z)) .nil)) (.val (V.at .z) .nil)
 ·
  refine Run.skip (sr (gm rfl ?_))
  obtain ⟨y12, e13, hF⟩ := bindP_use hF
  have h56 := h25.front (.cons .z .nil)
  refine op (OpS.callO h56 Tryz.func54 rfl rfl rfl rfl (vs := [v0, .int .i64 3]) rfl (made_Dice_Next_ok e13) rfl .nil ?_)
  rintro _ w23 _ _ _ ⟨rfl, rfl, rfl, rfl⟩ h57
  have h58 := h57
  simp only [ca, na] at h58
  refine gb rfl (gb rfl (op (OpS.fbox (o3 := 27) h58 (.s .z) PA.z fa74_14 rfl rfl rfl rfl ?_)))
  refine op (OpS.storeB (f' := true) h58 (.s .z) PA.a (Put.fld Sensor_.f14) ty3 rfl rfl rfl V.int (.inl rfl) (fun w24 h59 => ?_))
  refine nil (sr (gm rfl ?_))
  obtain ⟨y13, e14, hF⟩ := bindP_use hF
  have h60 := h59.front (.cons (.s .z) .nil)
  refine op (OpS.callO h60 Tryz.func171 rfl rfl rfl rfl (vs := [v0]) rfl (made_Dice_Conversion_ok e14) rfl .nil ?_)
  rintro u8 w25 _ _ _ ⟨_, rfl, rfl, rfl, rfl⟩ h61
  have h62 := h61
  simp only [ca, na] at h62
  refine op (OpS.fbox (o3 := 7) h62 (.s .z) PA.z fa74_6 rfl rfl rfl rfl ?_)
  refine op (OpS.storeB (f' := true) h62 (.s .z) PA.a (Put.fld Sensor_.f6) ty69 rfl rfl rfl (V.at .z) (.inl rfl) (fun w26 h63 => ?_))
  refine nil (sr (gm rfl (op (OpS.fbox (o3 := 7) h63 .z PA.z fa74_6 rfl rfl rfl rfl ?_))))
  refine op (OpS.fbox (o3 := 8) h63 .z PA.a fa69_1 rfl rfl rfl rfl ?_)
  refine op (OpS.loadBb h63 .z PA.a (Get.comp (Get.fld Sensor_.f6) (Get.fld Conversion_.f1)) ty4 rfl rfl rfl ?_)
  obtain ⟨y14, e15, hF⟩ := bindP_use hF
  have h64 := h63.front (.cons (.s .z) .nil)
  refine op (OpS.callO h64 Tryz.func172 rfl rfl rfl rfl (vs := [v0, .bool y13.1.Signed]) rfl (made_Dice_thresholds_ok e15) rfl .nil ?_)
  rintro u9 w27 _ _ _ ⟨_, rfl, rfl, rfl, rfl⟩ h65
  have h66 := h65
  simp only [ca, na] at h66
  refine op (OpS.fbox (o3 := 14) h66 (.s .z) PA.z fa74_7 rfl rfl rfl rfl ?_)
  refine op (OpS.storeB (f' := true) h66 (.s .z) PA.a (Put.fld Sensor_.f7) ty72 rfl rfl rfl (V.at .z) (.inl rfl) (fun w28 h67 => ?_))
  refine nil (Run.slim [(5, u5), (4, u1), (0, v0)] ⟨rfl, rfl, rfl, trivial⟩ ?_)
  refine sr (gm rfl ?_)
  obtain ⟨y15, e16, hF⟩ := bindP_use hF
  have h68 := h67.front (.cons (.s .z) .nil)
  refine op (OpS.callO h68 Tryz.func54 rfl rfl rfl rfl (vs := [v0, .int .i64 5]) rfl (made_Dice_Next_ok e16) rfl .nil ?_)
  rintro _ w29 _ _ _ ⟨rfl, rfl, rfl, rfl⟩ h69
  have h70 := h69
  simp only [ca, na] at h70
  refine op (OpS.conv Tryz.underlying3 Tryz.underlying5 rfl rfl rfl ?_)
  refine op (OpS.fbox (o3 := 21) h70 (.s .z) PA.z fa74_8 rfl rfl rfl rfl ?_)
  refine op (OpS.storeB (f' := true) h70 (.s .z) PA.a (Put.fld Sensor_.f8) ty5 rfl rfl rfl V.int (.inl rfl) (fun w30 h71 => ?_))
  refine nil (sr (gm rfl ?_))
  obtain ⟨y16, e17, hF⟩ := bindP_use hF
  have h72 := h71.front (.cons (.s .z) .nil)
  refine op (OpS.callO h72 Tryz.func54 rfl rfl rfl rfl (vs := [v0, .int .i64 5]) rfl (made_Dice_Next_ok e17) rfl .nil ?_)
  rintro _ w31 _ _ _ ⟨rfl, rfl, rfl, rfl⟩ h73
  have h74 := h73
  simp only [ca, na] at h74
  refine op (OpS.conv Tryz.underlying3 Tryz.underlying5 rfl rfl rfl ?_)
  refine op (OpS.fbox (o3 := 22) h74 (.s .z) PA.z fa74_9 rfl rfl rfl rfl ?_)
  refine op (OpS.storeB (f' := true) h74 (.s .z) PA.a (Put.fld Sensor_.f9) ty5 rfl rfl rfl V.int (.inl rfl) (fun w32 h75 => ?_))
  refine nil (Run.seq (sr (gm rfl ?_)))
  obtain ⟨y17, e18, hF⟩ := bindP_use hF
  have h76 := h75.front (.cons (.s .z) .nil)
  refine op (OpS.callO h76 Tryz.func31 rfl rfl rfl rfl (vs := [v0, .int .i64 12]) rfl (made_Dice_Bool_ok e18) rfl .nil ?_)
  rintro _ w33 _ _ _ ⟨rfl, rfl, rfl, rfl⟩ h77
  have h78 := h77
  simp only [ca, na] at h78
  refine nil ?_
  refine Run.join (σ := (made_Dice × Sensor_)) (fun s_ L_ w_ => L_ = [(0, v0), (4, u1), (5, u5)] ∧ St e w_ [] [(false, .box 163 made_Dice.rep v0 s_.1), (true, .box 74 Sensor_.rep u1 Sensor_.z), (true, .box 74 Sensor_.rep u5 s_.2)]) hF (fun s1 _ w34 hI hF => ?_) (fun j1 hj1 hF => ?_)
  ·
   obtain ⟨rfl, h79⟩ := hI
   refine sr (op (OpS.fbox (o3 := 14) h79 (.s (.s .z)) PA.z fa74_7 rfl rfl rfl rfl ?_))
   refine op (OpS.fbox (o3 := 14) h79 (.s (.s .z)) PA.a fa72_0 rfl rfl rfl rfl ?_)
   refine op (OpS.loadBi h79 (.s (.s .z)) PA.a (Get.comp (Get.fld Sensor_.f7) (Get.fld Thresholds_.f0)) ty5 rfl rfl rfl ?_)
   refine op (OpS.conv Tryz.underlying5 Tryz.underlying49 rfl rfl rfl ?_)
   refine ga rfl ?_
   obtain ⟨x1, e19, hF⟩ := letP_use hF
   refine RunL.name e19 ?_
   refine nil (sr (gm rfl (op (OpS.fbox (o3 := 24) h79 (.s (.s .z)) PA.z fa74_11 rfl rfl rfl rfl ?_))))
   obtain ⟨d1, e20, hF⟩ := letP_use hF
   refine op (OpS.storeB (f' := true) h79 (.s (.s .z)) PA.a (Put.of (Put.fld Sensor_.f11) e20) ty49 rfl rfl rfl V.int (.inl rfl) (fun w35 h80 => ?_))
   refine nil (sr (gm rfl (op (OpS.fbox (o3 := 25) h80 .z PA.z fa74_12 rfl rfl rfl rfl ?_))))
   obtain ⟨d2, e21, hF⟩ := letP_use hF
   refine op (OpS.storeB (f' := true) h80 .z PA.a (Put.of (Put.fld Sensor_.f12) e21) ty49 rfl rfl rfl V.int (.inl rfl) (fun w36 h81 => ?_))
   refine nil (Run.seq (sr (gm rfl ?_)))
   obtain ⟨y18, e22, hF⟩ := bindP_use hF
   have h82 := h81.front (.cons (.s .z) .nil)
   refine op (OpS.callO h82 Tryz.func31 rfl rfl rfl rfl (vs := [v0, .int .i64 3]) rfl (made_Dice_Bool_ok e22) rfl .nil ?_)
   rintro _ w37 _ _ _ ⟨rfl, rfl, rfl, rfl⟩ h83
   have h84 := h83
   simp only [ca, na] at h84
   refine nil ?_
   refine Run.ite rfl hF (fun e23 hF => ?_) (fun e23 hF => ?_)
   ·
    refine sr (gm rfl (gm rfl ?_))
    obtain ⟨y19, e24, hF⟩ := bindP_use hF
    have h85 := h84.front (.cons .z .nil)
    refine op (OpS.callO h85 Tryz.func54 rfl rfl rfl rfl (vs := [v0, .int .i64 64]) rfl (made_Dice_Next_ok e24) rfl .nil ?_)
    rintro _ w38 _ _ _ ⟨rfl, rfl, rfl, rfl⟩ h86
    have h87 := h86
    simp only [ca, na] at h87
    refine op (OpS.conv Tryz.underlying3 Tryz.underlying49 rfl rfl rfl ?_)
    refine gb rfl (op (OpS.fbox (o3 := 24) h87 (.s .z) PA.z fa74_11 rfl rfl rfl rfl ?_))
    obtain ⟨d3, e25, hF⟩ := letP_use hF
    refine op (OpS.storeB (f' := true) h87 (.s .z) PA.a (Put.of (Put.fld Sensor_.f11) e25) ty49 rfl rfl rfl V.int (.inl rfl) (fun w39 h88 => ?_))
    refine nil (Run.reg (gm rfl (gm rfl ?_)))
    obtain ⟨y20, e26, hF⟩ := bindP_use hF
    have h89 := h88.front (.cons (.s .z) .nil)
    refine op (OpS.callO h89 Tryz.func54 rfl rfl rfl rfl (vs := [v0, .int .i64 64]) rfl (made_Dice_Next_ok e26) rfl .nil ?_)
    rintro _ w40 _ _ _ ⟨rfl, rfl, rfl, rfl⟩ h90
    have h91 := h90
    simp only [ca, na] at h91
    refine op (OpS.conv Tryz.underlying3 Tryz.underlying49 rfl rfl rfl ?_)
    refine gb rfl (op (OpS.fbox (o3 := 25) h91 (.s .z) PA.z fa74_12 rfl rfl rfl rfl ?_))
    obtain ⟨d4, e27, hF⟩ := letP_use hF
    refine op (OpS.storeB (f' := true) h91 (.s .z) PA.a (Put.of (Put.fld Sensor_.f12) e27) ty49 rfl rfl rfl V.int (.inl rfl) (fun w41 h92 => ?_))
    refine nil (sr (op (OpS.loadB h92 .z PA.z Get.id ty74 rfl rfl rfl (fun u10 h93 => ?_))))
    refine op (OpS.storeB (f' := true) h93 (.s (.s .z)) PA.z Put.id ty74 rfl rfl rfl (V.at .z) (.inl rfl) (fun w42 h94 => ?_))
    refine nil ?_
    obtain ⟨u11, hu2, h95⟩ := res_box h94 .z ty74
    refine Run.retP rfl (.cell rfl hu2 .nil) ?_
    cases hF
    exact Post.mk' ⟨u11, rfl, rfl, rfl, rfl⟩ (h95.picks (.cons (.s (.s .z)) .nil)) (.val (V.at .z) .nil)
   ·
    refine Run.skip (sr (op (OpS.loadB h84 (.s .z) PA.z Get.id ty74 rfl rfl rfl (fun u12 h96 => ?_))))
    refine op (OpS.storeB (f' := true) h96 (.s (.s .z)) PA.z Put.id ty74 rfl rfl rfl (V.at .z) (.inl rfl) (fun w43 h97 => ?_))
    refine nil ?_
    obtain ⟨u13, hu3, h98⟩ := res_box h97 .z ty74
    refine Run.retP rfl (.cell rfl hu3 .nil) ?_
    cases hF
    exact Post.mk' ⟨u13, rfl, rfl, rfl, rfl⟩ (h98.picks (.cons (.s .z) .nil)) (.val (V.at .z) .nil)
  ·
   refine Run.ite rfl hF (fun e28 hF => ?_) (fun e28 hF => ?_)
   ·
    refine Run.reg (gm rfl ?_)
    obtain ⟨y21, e29, hF⟩ := bindP_use hF
    have h99 := h78.front (.cons .z .nil)
    refine op (OpS.callO h99 Tryz.func76 rfl rfl rfl rfl (vs := [v0]) rfl (made_Dice_Byte_ok e29) rfl .nil ?_)
    rintro _ w44 _ _ _ ⟨rfl, rfl, rfl, rfl⟩ h100
    have h101 := h100
    simp only [ca, na] at h101
    refine op (OpS.fbox (o3 := 22) h101 (.s .z) PA.z fa74_9 rfl rfl rfl rfl ?_)
    refine op (OpS.storeB (f' := true) h101 (.s .z) PA.a (Put.fld Sensor_.f9) ty5 rfl rfl rfl V.int (.inl rfl) (fun w45 h102 => ?_))
    refine nil (Run.slim [(0, v0), (4, u1), (5, u5)] ⟨rfl, rfl, rfl, trivial⟩ ?_)
    exact hj1 (y21.2, (⟨a1, (IntKind.u8.wrap (IntKind.i64.wrap (1 + y1.1))), y2.1, y4.1, y5.1, false, y13.1, y14.1, (IntKind.u8.wrap y15.1), y21.1, 0, 0, 0, y6.1, (IntKind.i64.wrap (1 + (IntKind.i64.wrap (2 * y12.1))))⟩ : Sensor_)) _ _ ⟨rfl, (h102.facts .nil).picks (.cons (.s .z) (.cons (.s .z) (.cons .z .nil)))⟩ hF
   ·
    refine Run.skip (Run.slim [(0, v0), (4, u1), (5, u5)] ⟨rfl, rfl, rfl, trivial⟩ ?_)
    exact hj1 (y17.2, (⟨a1, (IntKind.u8.wrap (IntKind.i64.wrap (1 + y1.1))), y2.1, y4.1, y5.1, false, y13.1, y14.1, (IntKind.u8.wrap y15.1), (IntKind.u8.wrap y16.1), 0, 0, 0, y6.1, (IntKind.i64.wrap (1 + (IntKind.i64.wrap (2 * y12.1))))⟩ : Sensor_)) _ _ ⟨rfl, (h78.facts .nil).picks (.cons .z (.cons (.s .z) (.cons .z .nil)))⟩ hF
theorem made_Dice_Sensors_ok {fuel : Nat} {a0 : made_Dice} {a1 : Int} {y : (List Sensor_) × made_Dice} (hF : made_Dice_Sensors fuel a0 a1 = some y) {w : World} {v0 : Value} :
  Spec Tryz.prog 40 [v0, .int .i64 a1].toArray w [] [(false, .box 163 made_Dice.rep v0 a0)] (fun v Γr Ωr Ωo => ∃ u0 : Value, v = u0 ∧ Γr = [] ∧ Ωr = [(true, (.slice 74 Sensor_.rep u0 y.1))] ∧ Ωo = [(false, .box 163 made_Dice.rep v0 y.2)]) := by
 refine Spec.of (L := [(0, v0), (1, .int .i64 a1)]) Tryz.func40 rfl ⟨rfl, rfl, trivial⟩ rfl (fun e h => ?_)
 unfold made_Dice_Sensors at hF
 refine sr (ga rfl (nil (sr (ga rfl (nil (sr (gm rfl ?_)))))))
 obtain ⟨y1, e1, hF⟩ := bindP_use hF
 have h1 := h.front (.cons .z .nil)
 refine op (OpS.callO h1 Tryz.func54 rfl rfl rfl rfl (vs := [v0, .int .i64 20]) rfl (made_Dice_Next_ok e1) rfl .nil ?_)
 rintro _ w1 _ _ _ ⟨rfl, rfl, rfl, rfl⟩ h2
 have h3 := h2
 simp only [ca, na] at h3
 refine ga rfl (nil (Run.seq (sr (gm rfl (gm rfl (gb rfl ?_))))))
 obtain ⟨y2, e2, hF⟩ := bindP_use hF
 have h4 := h3.front (.cons .z .nil)
 refine op (OpS.callO h4 Tryz.func54 rfl rfl rfl rfl (vs := [v0, .int .i64 (IntKind.i64.wrap (a1 + 1))]) rfl (made_Dice_Next_ok e2) rfl .nil ?_)
 rintro _ w2 _ _ _ ⟨rfl, rfl, rfl, rfl⟩ h5
 have h6 := h5
 simp only [ca, na] at h6
 refine ga rfl (nil (Run.block ?_))
 have h7 := St.nil 74 Sensor_.rep h6
 refine Run.slim [(0, v0), (5, (.slice none 0 0)), (6, .int .i64 y1.1), (7, .int .i64 y2.1)] ⟨rfl, rfl, rfl, rfl, trivial⟩ ?_
 refine Run.loopP (σ := (Int × Int × made_Dice × (List Sensor_))) (fun s_ L_ w_ => ∃ u0_ : Value, L_ = [(0, v0), (5, u0_), (6, .int .i64 s_.1), (7, .int .i64 s_.2.1)] ∧ St e w_ [] [(false, .box 163 made_Dice.rep v0 s_.2.2.1), (true, .slice 74 Sensor_.rep u0_ s_.2.2.2)]) hF ⟨(.slice none 0 0), rfl, (h7.facts .nil).picks (.cons (.s .z) (.cons .z .nil))⟩ (fun k1 hk1 s1 _ w3 hI hF => ?_)
 obtain ⟨u1, rfl, h8⟩ := hI
 refine Run.seq (sr (gm rfl (gb rfl (nil ?_))))
 refine Run.ite rfl hF (fun e3 hF => ?_) (fun e3 hF => ?_)
 ·
  refine Run.skip (Run.seq (Run.block (sr (gm rfl (gm rfl (gm rfl (op (OpS.conv Tryz.underlying3 Tryz.underlying5 rfl rfl rfl ?_))))))))
  obtain ⟨y3, e4, hF⟩ := bindP_use hF
  have h9 := h8.front (.cons .z .nil)
  refine op (OpS.callO h9 Tryz.func102 rfl rfl rfl rfl (vs := [v0, .int .u8 (IntKind.u8.wrap s1.1)]) rfl (made_Dice_Sensor_ok e4) rfl .nil ?_)
  rintro u2 w4 _ _ _ ⟨_, rfl, rfl, rfl, rfl⟩ h10
  have h11 := h10
  simp only [ca, na] at h11
  refine op (OpS.lit (r := Sensor_.rep) (f := true) h11 Tryz.underlying27 ti74 rfl rfl rfl rfl rfl (.cons rfl (V.at .z) .nil) rfl rfl (fun u3 w5 h12 => ?_))
  obtain ⟨x1, e5, hF⟩ := bindP_use hF
  refine op (OpS.app (f' := true) h12 (.s .z) Tryz.underlying27 ti74 rfl rfl rfl rfl rfl rfl rfl (V.at .z) (.inl (.inl rfl)) e5 (fun u4 w6 h13 => ?_))
  refine ga rfl (nil (Run.reg (gm rfl (gm rfl ?_))))
  obtain ⟨y4, e6, hF⟩ := bindP_use hF
  have h14 := h13.front (.cons (.s .z) .nil)
  refine op (OpS.callO h14 Tryz.func54 rfl rfl rfl rfl (vs := [v0, .int .i64 5]) rfl (made_Dice_Next_ok e6) rfl .nil ?_)
  rintro _ w7 _ _ _ ⟨rfl, rfl, rfl, rfl⟩ h15
  have h16 := h15
  simp only [ca, na] at h16
  refine gb rfl (gb rfl (ga rfl ?_))
  obtain ⟨x2, e7, hF⟩ := letP_use hF
  refine RunL.name e7 ?_
  refine nil (Run.endBlock (Run.reg (gm rfl (gb rfl (ga rfl ?_)))))
  obtain ⟨x3, e8, hF⟩ := letP_use hF
  refine RunL.name e8 ?_
  refine nil (Run.slim [(0, v0), (5, u4), (6, .int .i64 x2), (7, .int .i64 x3)] ⟨rfl, rfl, rfl, rfl, trivial⟩ ?_)
  exact hk1 (x2, x3, y4.2, x1) _ _ ⟨u4, rfl, (h16.facts .nil).picks (.cons .z (.cons .z .nil))⟩ hF
 ·
  refine Run.exit rfl ?_
  refine sr (gm rfl (ga rfl (nil (Run.retP rfl (.tmp rfl .nil) ?_))))
  cases hF
  exact Post.mk' ⟨u1, rfl, rfl, rfl, rfl⟩ (h8.picks (.cons (.s .z) (.cons .z .nil))) .nil
theorem repository_New_ok {fuel : Nat} {a0 : Int} {y : (Option repository_Repository) × Int} (hF : repository_New fuel a0 = some y) {w : World} :
  Spec Tryz.prog 41 [.int .i64 a0].toArray w [] [] (fun v Γr Ωr Ωo => ∃ u0 : Value, v = .tuple #[u0, .int .i64 y.2] ∧ Γr = [] ∧ Ωr = [(true, .opt (repository_Repository.mem u0) u0 y.1)] ∧ Ωo = []) := by
 refine Spec.of (L := [(0, .int .i64 a0)]) Tryz.func41 rfl ⟨rfl, trivial⟩ rfl (fun e h => ?_)
 unfold repository_New at hF
 refine sr (ga rfl (ga rfl (nil (Run.seq (sr (gm rfl (gb rfl (gm rfl ?_))))))))
 refine RunL.join (σ := Bool) (fun s_ L_ w_ => L_ = [(0, .int .i64 a0), (9, .bool s_)] ∧ St e w_ [] []) hF (fun s1 _ w1 hI hF => ?_) (fun j1 hj1 hF => ?_)
 ·
  obtain ⟨rfl, h1⟩ := hI
  refine Run.ite rfl hF (fun e1 hF => ?_) (fun e1 hF => ?_)
  ·
   refine sr (ga rfl (ga rfl (nil ?_)))
   have h2 := St.none (repository_Repository.mem (.pointer none)) h1
   refine Run.retP rfl (.tmp rfl (.tmp rfl .nil)) ?_
   cases hF
   exact Post.mk' ⟨(.pointer none), rfl, rfl, rfl, rfl⟩ (h2.picks (.cons .z .nil)) .nil
  ·
   refine Run.skip (sr (gm rfl ?_))
   have h3 := St.nil 231 repository_record.rep h1
   refine op (OpS.buildC (f := true) (r := (repository_Repository.repW (.slice none 0 0))) (x := repository_Repository.z) (r' := (repository_Repository.repW (.slice none 0 0))) (x' := (⟨a0, [], 0, 0, false⟩ : repository_Repository)) h3 pl225 ti225 (Zr.iso (y := repository_Repository.z) _ (Zr.of (Zr.prod (Zr.int .i64 0) (Zr.prod (Zr.raw rfl ([] : List repository_record)) (Zr.prod (Zr.int .u16 0) (Zr.prod (Zr.int .u16 0) (Zr.prod (Zr.bool false) Zr.unit))))) (by rfl))) rfl rfl rfl (.cons (Rep.int .i64) (repository_Repository.repW (.slice none 0 0)) (repository_Repository.repW (.slice none 0 0)) repository_Repository.z (⟨a0, [], 0, 0, false⟩ : repository_Repository) (Chg.iso _ (Chg.here (Chg.id (by rfl)))) rfl rfl V.int .nil) (fun u1 h4 => ?_))
   refine op (OpS.box (f' := true) h4 rfl rfl rfl (V.at .z) (fun u2 w2 h5 => ?_))
   refine ga rfl (ga rfl (nil ?_))
   have h6 := h5.front (.cons (.s .z) (.cons .z .nil))
   have h7 := St.sep (h6.pick (.s .z))
   have h8 := St.ex (H := fun w0_ => .sep (.box 225 (repository_Repository.repW w0_) u2 (⟨a0, [], 0, 0, false⟩ : repository_Repository)) (.slice 231 repository_record.rep w0_ ([]))) (.slice none 0 0) h7
   have h9 := St.some (H := (repository_Repository.mem u2)) (q := u2) (x := (⟨a0, [], 0, 0, false⟩ : repository_Repository)) h8
   refine Run.retP rfl (.tmp rfl (.tmp rfl .nil)) ?_
   cases hF
   exact Post.mk' ⟨u2, rfl, rfl, rfl, rfl⟩ (h9.picks (.cons .z .nil)) .nil
 ·
  refine RunL.caseb hF (fun e2 hF => ?_) (fun e2 hF => ?_)
  ·
   refine gp rfl (gp rfl (gk rfl (nil (Run.slim [(0, .int .i64 a0), (9, .bool true)] ⟨rfl, rfl, trivial⟩ ?_))))
   exact hj1 (true) _ _ ⟨rfl, (h.facts .nil).picks .nil⟩ hF
  ·
   refine gm rfl (gb rfl (gk rfl (nil (Run.slim [(0, .int .i64 a0), (9, .bool (decide (a0 > 10240)))] ⟨rfl, rfl, trivial⟩ ?_))))
   exact hj1 (decide (a0 > 10240)) _ _ ⟨rfl, (h.facts .nil).picks .nil⟩ hF
theorem sensor_two_ok {fuel : Nat} {a0 : List Int} {y : (List Int)} (hF : sensor_two fuel a0 = some y) {w : World} {v0 : Value} :
  Spec Tryz.prog 109 [v0].toArray w [(false, .val (Rep.slice (Rep.int .u16)) v0 a0)] [] (fun v Γr Ωr Ωo => ∃ u0 : Value, v = u0 ∧ Γr = [] ∧ Ωr = [(true, (.slice 5 (Rep.int .u8) u0 y))] ∧ Ωo = []) := by
 refine Spec.of (L := [(0, v0)]) Tryz.func109 rfl ⟨rfl, trivial⟩ rfl (fun e h => ?_)
 unfold sensor_two at hF
 refine sr (ga rfl (nil (sr (ga rfl (nil (Run.seq (sr (gm rfl (op (OpS.len h Tryz.underlying60 rfl rfl rfl (V.at .z) ?_))))))))))
 refine gm rfl (nil (Run.block ?_))
 have h1 := St.nil 5 (Rep.int .u8) h
 refine Run.slim [(3, (.slice none 0 0)), (6, v0), (7, .int .i64 (a0.length : Int)), (8, .int .i64 0)] ⟨rfl, rfl, rfl, rfl, trivial⟩ ?_
 refine Run.loopP (σ := (Int × (List Int))) (fun s_ L_ w_ => ∃ u0_ : Value, L_ = [(3, u0_), (6, v0), (7, .int .i64 (a0.length : Int)), (8, .int .i64 s_.1)] ∧ St e w_ [(false, .val (Rep.slice (Rep.int .u16)) v0 a0)] [(true, .slice 5 (Rep.int .u8) u0_ s_.2)]) hF ⟨(.slice none 0 0), rfl, (h1.facts (.atm .z .nil)).picks (.cons .z .nil)⟩ (fun k1 hk1 s1 _ w1 hI hF => ?_)
 obtain ⟨u1, rfl, h2⟩ := hI
 refine sr (gb rfl (nil (Run.seq ?_)))
 refine Run.ite rfl hF (fun e1 hF => ?_) (fun e1 hF => ?_)
 ·
  refine Run.skip (Run.seq (Run.block (sr ?_)))
  obtain ⟨x1, e2, hF⟩ := bindP_use hF
  refine op (OpS.iptr h2 Tryz.underlying60 ty49 rfl rfl rfl rfl (V.at .z) e2 (fun u2 h3 => ?_))
  refine op (OpS.loadi h3 ty49 rfl rfl rfl .z ?_)
  refine ga rfl (nil (Run.reg (gm rfl (gm rfl (op (OpS.conv Tryz.underlying49 Tryz.underlying5 rfl rfl rfl ?_))))))
  refine gm rfl (op (OpS.shr rfl rfl rfl rfl (by decide) ?_))
  refine op (OpS.conv Tryz.underlying49 Tryz.underlying5 rfl rfl rfl ?_)
  refine op (OpS.lit (r := (Rep.int .u8)) (f := true) h3 Tryz.underlying24 ti5 rfl rfl rfl rfl rfl (.cons rfl V.int (.cons rfl V.int .nil)) rfl rfl (fun u3 w2 h4 => ?_))
  obtain ⟨x2, e3, hF⟩ := bindP_use hF
  refine op (OpS.app (f' := true) h4 .z Tryz.underlying24 ti5 rfl rfl rfl rfl rfl rfl rfl (V.at .z) (.inr Pure.int) e3 (fun u4 w3 h5 => ?_))
  refine ga rfl (nil (Run.endBlock (Run.reg (gb rfl (gm rfl (nil (Run.slim [(3, u4), (6, v0), (7, .int .i64 (a0.length : Int)), (8, .int .i64 (IntKind.i64.wrap (s1.1 + 1)))] ⟨rfl, rfl, rfl, rfl, trivial⟩ ?_)))))))
  exact hk1 ((IntKind.i64.wrap (s1.1 + 1)), x2) _ _ ⟨u4, rfl, (h5.facts (.atm (.s (.s .z)) .nil)).picks (.cons .z .nil)⟩ hF
 ·
  refine Run.exit rfl ?_
  refine sr (gm rfl (ga rfl (nil (Run.retP rfl (.tmp rfl .nil) ?_))))
  cases hF
  exact Post.mk' ⟨u1, rfl, rfl, rfl, rfl⟩ (h2.picks (.cons .z .nil)) .nil
theorem checksum_Sum8_ok {fuel : Nat} {a0 : List Int} {y : Int} (hF : checksum_Sum8 fuel a0 = some y) {w : World} {v0 : Value} :
  Spec Tryz.prog 184 [v0].toArray w [(false, .val (Rep.slice (Rep.int .u8)) v0 a0)] [] (fun v Γr Ωr Ωo => v = .int .u8 y ∧ Γr = [] ∧ Ωr = [] ∧ Ωo = []) := by
 refine Spec.of (L := [(0, v0)]) Tryz.func184 rfl ⟨rfl, trivial⟩ rfl (fun e h => ?_)
 unfold checksum_Sum8 at hF
 refine sr (ga rfl (nil (sr (ga rfl (nil (Run.seq (sr (gm rfl (op (OpS.len h Tryz.underlying24 rfl rfl rfl (V.at .z) ?_))))))))))
 refine gm rfl (nil (Run.block (Run.slim [(3, .int .u8 0), (6, v0), (7, .int .i64 (a0.length : Int)), (8, .int .i64 0)] ⟨rfl, rfl, rfl, rfl, trivial⟩ ?_)))
 refine Run.loopP (σ := (Int × Int)) (fun s_ L_ w_ => L_ = [(3, .int .u8 s_.1), (6, v0), (7, .int .i64 (a0.length : Int)), (8, .int .i64 s_.2)] ∧ St e w_ [(false, .val (Rep.slice (Rep.int .u8)) v0 a0)] []) hF ⟨rfl, (h.facts (.atm .z .nil)).picks .nil⟩ (fun k1 hk1 s1 _ w1 hI hF => ?_)
 obtain ⟨rfl, h1⟩ := hI
 refine sr (gb rfl (nil (Run.seq ?_)))
 refine Run.ite rfl hF (fun e1 hF => ?_) (fun e1 hF => ?_)
 ·
  refine Run.skip (Run.seq (Run.block (sr ?_)))
  obtain ⟨x1, e2, hF⟩ := bindP_use hF
  refine op (OpS.iptr h1 Tryz.underlying24 ty5 rfl rfl rfl rfl (V.at .z) e2 (fun u1 h2 => ?_))
  refine op (OpS.loadi h2 ty5 rfl rfl rfl .z ?_)
  refine ga rfl (nil (Run.reg (gm rfl (gm rfl (gb rfl (ga rfl ?_))))))
  obtain ⟨x2, e3, hF⟩ := letP_use hF
  refine RunL.name e3 ?_
  refine nil (Run.endBlock (Run.reg (gb rfl (gm rfl (nil (Run.slim [(3, .int .u8 x2), (6, v0), (7, .int .i64 (a0.length : Int)), (8, .int .i64 (IntKind.i64.wrap (s1.2 + 1)))] ⟨rfl, rfl, rfl, rfl, trivial⟩ ?_))))))
  exact hk1 (x2, (IntKind.i64.wrap (s1.2 + 1))) _ _ ⟨rfl, (h2.facts (.atm (.s .z) .nil)).picks .nil⟩ hF
 ·
  refine Run.exit rfl ?_
  refine sr (gm rfl (op (OpS.neg rfl rfl rfl ?_)))
  refine ga rfl ?_
  obtain ⟨x3, e4, hF⟩ := letP_use hF
  refine RunL.name e4 ?_
  refine nil (Run.retP rfl (.tmp rfl .nil) ?_)
  cases hF
  exact Post.mk' ⟨rfl, rfl, rfl, rfl⟩ (h1.picks .nil) .nil
theorem checksum_Seal8_ok {fuel : Nat} {a0 : List Int} {y : (List Int)} (hF : checksum_Seal8 fuel a0 = some y) {w : World} {v0 : Value} :
  Spec Tryz.prog 108 [v0].toArray w [(false, .val (Rep.slice (Rep.int .u8)) v0 a0)] [] (fun v Γr Ωr Ωo => ∃ u0 : Value, v = u0 ∧ Γr = [] ∧ Ωr = [(true, (.slice 5 (Rep.int .u8) u0 y))] ∧ Ωo = []) := by
 refine Spec.of (L := [(0, v0)]) Tryz.func108 rfl ⟨rfl, trivial⟩ rfl (fun e h => ?_)
 unfold checksum_Seal8 at hF
 refine sr (ga rfl (nil (sr (gm rfl ?_))))
 obtain ⟨y1, e1, hF⟩ := bindP_use hF
 refine op (OpS.callP h Tryz.func113 rfl rfl rfl rfl (vs := [v0]) rfl (slices_Clone_byte_byte_ok e1) (.cons (f := false) (V.at .z) .nil) ?_)
 rintro u1 w1 _ _ _ ⟨_, rfl, rfl, rfl, rfl⟩ h1
 have h2 := h1 rfl rfl
 simp only [ca, na] at h2
 refine gm rfl ?_
 obtain ⟨y2, e2, hF⟩ := bindP_use hF
 refine op (OpS.callP h2 Tryz.func184 rfl rfl rfl rfl (vs := [v0]) rfl (checksum_Sum8_ok e2) (.cons (f := false) (V.at .z) .nil) ?_)
 rintro _ w2 _ _ _ ⟨rfl, rfl, rfl, rfl⟩ h3
 have h4 := h3 rfl rfl
 simp only [ca, na] at h4
 refine op (OpS.lit (r := (Rep.int .u8)) (f := true) h4 Tryz.underlying24 ti5 rfl rfl rfl rfl rfl (.cons rfl V.int .nil) rfl rfl (fun u2 w3 h5 => ?_))
 obtain ⟨x1, e3, hF⟩ := bindP_use hF
 refine op (OpS.app (f' := true) h5 .z Tryz.underlying24 ti5 rfl rfl rfl rfl rfl rfl rfl (V.at .z) (.inr Pure.int) e3 (fun u3 w4 h6 => ?_))
 refine ga rfl (nil (Run.retP rfl (.tmp rfl .nil) ?_))
 cases hF
 exact Post.mk' ⟨u3, rfl, rfl, rfl, rfl⟩ (h6.picks (.cons .z .nil)) .nil
theorem convert_write_ok {fuel : Nat} {a0 : Int} {a1 : Int} {y : (List Int)} (hF : convert_write fuel a0 a1 = some y) {w : World} :
  Spec Tryz.prog 185 [.int .i64 a0, .int .i64 a1].toArray w [] [] (fun v Γr Ωr Ωo => ∃ u0 : Value, v = u0 ∧ Γr = [] ∧ Ωr = [(true, (.slice 5 (Rep.int .u8) u0 y))] ∧ Ωo = []) := by
 refine Spec.of (L := [(0, .int .i64 a0), (1, .int .i64 a1)]) Tryz.func185 rfl ⟨rfl, rfl, trivial⟩ rfl (fun e h => ?_)
 unfold convert_write at hF
 refine sr (ga rfl (nil (sr (ga rfl (nil (Run.seq (sr (gm rfl (gm rfl (nil (Run.block ?_)))))))))))
 have h1 := St.nil 5 (Rep.int .u8) h
 refine Run.slim [(0, .int .i64 a0), (5, (.slice none 0 0)), (6, .int .i64 a1), (7, .int .i64 0)] ⟨rfl, rfl, rfl, rfl, trivial⟩ ?_
 refine Run.loopP (σ := (Int × Int × (List Int))) (fun s_ L_ w_ => ∃ u0_ : Value, L_ = [(0, .int .i64 s_.1), (5, u0_), (6, .int .i64 a1), (7, .int .i64 s_.2.1)] ∧ St e w_ [] [(true, .slice 5 (Rep.int .u8) u0_ s_.2.2)]) hF ⟨(.slice none 0 0), rfl, (h1.facts .nil).picks (.cons .z .nil)⟩ (fun k1 hk1 s1 _ w1 hI hF => ?_)
 obtain ⟨u1, rfl, h2⟩ := hI
 refine sr (gb rfl (nil (Run.seq ?_)))
 refine Run.ite rfl hF (fun e1 hF => ?_) (fun e1 hF => ?_)
 ·
  refine Run.skip (Run.seq (Run.block (sr (gm rfl (gm rfl (op (OpS.conv Tryz.underlying2 Tryz.underlying5 rfl rfl rfl ?_)))))))
  refine op (OpS.lit (r := (Rep.int .u8)) (f := true) h2 Tryz.underlying24 ti5 rfl rfl rfl rfl rfl (.cons rfl V.int .nil) rfl rfl (fun u2 w2 h3 => ?_))
  obtain ⟨x1, e2, hF⟩ := bindP_use hF
  refine op (OpS.app (f' := true) h3 .z Tryz.underlying24 ti5 rfl rfl rfl rfl rfl rfl rfl (V.at .z) (.inr Pure.int) e2 (fun u3 w3 h4 => ?_))
  refine ga rfl (nil (Run.reg (gm rfl (op (OpS.shr rfl rfl rfl rfl (by decide) ?_)))))
  refine ga rfl (nil (Run.endBlock (Run.reg (gb rfl (gm rfl (nil (Run.slim [(0, .int .i64 (bShr .i64 s1.1 8)), (5, u3), (6, .int .i64 a1), (7, .int .i64 (IntKind.i64.wrap (s1.2.1 + 1)))] ⟨rfl, rfl, rfl, rfl, trivial⟩ ?_)))))))
  exact hk1 ((bShr .i64 s1.1 8), (IntKind.i64.wrap (s1.2.1 + 1)), x1) _ _ ⟨u3, rfl, (h4.facts .nil).picks (.cons .z .nil)⟩ hF
 ·
  refine Run.exit rfl ?_
  refine sr (gm rfl (ga rfl (nil (Run.retP rfl (.tmp rfl .nil) ?_))))
  cases hF
  exact Post.mk' ⟨u1, rfl, rfl, rfl, rfl⟩ (h2.picks (.cons .z .nil)) .nil
set_option maxRecDepth 20000 in
theorem convert_Encode_ok {fuel : Nat} {a0 : Conversion_} {y : (List Int) × Int} (hF : convert_Encode fuel a0 = some y) {w : World} {v0 : Value} :
  Spec Tryz.prog 110 [v0].toArray w [(false, .val Conversion_.rep v0 a0)] [] (fun v Γr Ωr Ωo => ∃ u0 : Value, v = .tuple #[u0, .int .i64 y.2] ∧ Γr = [] ∧ Ωr = [(true, (.slice 5 (Rep.int .u8) u0 y.1))] ∧ Ωo = []) := by
 refine Spec.of (L := [(0, v0)]) Tryz.func110 rfl ⟨rfl, trivial⟩ rfl (fun e h => ?_)
 unfold convert_Encode at hF
 refine sr (op (OpS.boxF h rfl rfl rfl (V.at .z) (fun u1 w1 h1 => ?_)))
 refine ga rfl (ga rfl (nil (Run.seq (sr (op (OpS.loadB h1 .z PA.z Get.id ty69 rfl rfl rfl (fun u2 h2 => ?_)))))))
 obtain ⟨y1, e1, hF⟩ := bindP_use hF
 refine op (OpS.callP h2 Tryz.func103 rfl rfl rfl rfl (vs := [u2]) rfl (convert_Valid_ok e1) (.cons (f := false) (V.at .z) .nil) ?_)
 rintro _ w2 _ _ _ ⟨rfl, rfl, rfl, rfl⟩ h3
 have h4 := h3 rfl rfl
 simp only [ca, na] at h4
 refine op (OpS.not rfl rfl rfl ?_)
 refine nil ?_
 refine Run.ite rfl hF (fun e2 hF => ?_) (fun e2 hF => ?_)
 ·
  refine sr (ga rfl (ga rfl (nil ?_)))
  have h5 := St.nil 5 (Rep.int .u8) h4
  refine Run.retP rfl (.tmp rfl (.tmp rfl .nil)) ?_
  cases hF
  exact Post.mk' ⟨(.slice none 0 0), rfl, rfl, rfl, rfl⟩ (h5.picks (.cons .z .nil)) .nil
 ·
  refine Run.skip (sr (op (OpS.fbox (o3 := 0) h4 .z PA.z fa69_0 rfl rfl rfl rfl ?_)))
  refine op (OpS.loadBi h4 .z PA.a (Get.fld Conversion_.f0) ty3 rfl rfl rfl ?_)
  refine op (OpS.conv Tryz.underlying3 Tryz.underlying5 rfl rfl rfl ?_)
  refine op (OpS.litO (r := (Rep.int .u8)) (f := true) h4 Tryz.underlying24 ti5 rfl rfl rfl rfl rfl (.cons rfl V.int .nil) rfl rfl (fun u3 w3 h6 => ?_))
  refine ga rfl (nil (Run.seq (sr (op (OpS.fbox (o3 := 1) h6 (.s .z) PA.z fa69_1 rfl rfl rfl rfl ?_)))))
  refine op (OpS.loadBb h6 (.s .z) PA.a (Get.fld Conversion_.f1) ty4 rfl rfl rfl ?_)
  refine nil ?_
  refine Run.join (σ := ((List Int))) (fun s_ L_ w_ => L_ = [(1, u1), (4, u3)] ∧ St e w_ [] [(false, .box 69 Conversion_.rep u1 a0), (true, .slice 5 (Rep.int .u8) u3 s_)]) hF (fun s1 _ w4 hI hF => ?_) (fun j1 hj1 hF => ?_)
  ·
   obtain ⟨rfl, h7⟩ := hI
   refine Run.seq (sr (op (OpS.fbox (o3 := 0) h7 .z PA.z fa69_0 rfl rfl rfl rfl ?_)))
   refine op (OpS.loadBi h7 .z PA.a (Get.fld Conversion_.f0) ty3 rfl rfl rfl ?_)
   refine gb rfl (nil ?_)
   refine Run.ite rfl hF (fun e3 hF => ?_) (fun e3 hF => ?_)
   ·
    refine Run.seq ?_
    obtain ⟨y2, e4, hF⟩ := bindP_use hF
    obtain ⟨x1, e5, hF⟩ := bindP_use hF
    refine Run.drawV (Ωs := []) [.k 24 u3, .kr 25 (padd u1 2) [0], .kr 26 (.int .i64 a0.M) [0], .f 27 (fun u_ => [(true, .val (Rep.slice (Rep.int .u8)) u_ y2)]), ⟨some 28, none, fun u_ => [], fun ds_ u_ => [(true, .slice 5 (Rep.int .u8) u_ x1)], [1], [], none⟩, .kr 29 (padd u1 3) [0], .kr 30 (.int .i64 a0.B) [0]] [[], [], [1], [2], [0, 3], [], [5]] [[(false, .box 69 Conversion_.rep u1 a0)], [(true, .slice 5 (Rep.int .u8) u3 s1)]] [0, 2, 3, 4, 5, 6, 7, 8] Try_mixed rfl rfl rfl h7 (.cons ?_ (.cons ?_ (.cons ?_ (.cons ?_ (.cons ?_ (.cons ?_ (.cons ?_ .nil))))))) (fun q1 w hq1 h => ?_)
    ·intro q1 w Γx Ωx h
     refine OpS.mv rfl rfl rfl ?_
     exact du h
    ·intro q1 w Γx Ωx h
     refine OpS.fbox (o3 := 2) h .z PA.z fa69_2 rfl rfl rfl rfl ?_
     exact du h
    ·intro q1 w Γx Ωx h
     refine OpS.loadBi h .z PA.a (Get.fld Conversion_.f2) ty3 rfl rfl rfl ?_
     exact du h
    ·intro q1 w Γx Ωx h
     refine OpS.callP h Tryz.func185 rfl rfl rfl rfl (vs := [.int .i64 a0.M, .int .i64 2]) rfl (convert_write_ok e4) .nil ?_
     rintro u w7 _ _ _ ⟨_, rfl, rfl, rfl, rfl⟩ h12
     have h13 := h12 rfl rfl
     simp only [ca, na] at h13
     have h14 := h13.freeze
     exact ⟨u, rfl, trivial, h14⟩
    ·intro q1 w Γx Ωx h
     refine OpS.app (f' := true) h .z Tryz.underlying24 ti5 rfl rfl rfl rfl rfl rfl rfl (V.at .z) (.inr Pure.int) e5 (fun u w8 h15 => ?_)
     exact ⟨u, rfl, trivial, h15⟩
    ·intro q1 w Γx Ωx h
     refine OpS.fbox (o3 := 3) h .z PA.z fa69_3 rfl rfl rfl rfl ?_
     exact du h
    ·intro q1 w Γx Ωx h
     refine OpS.loadBi h .z PA.a (Get.fld Conversion_.f3) ty3 rfl rfl rfl ?_
     exact du h
    have h16 := h
    obtain ⟨y3, e6, hF⟩ := bindP_use hF
    refine op (OpS.callP h16 Tryz.func185 rfl rfl rfl rfl (vs := [.int .i64 a0.B, .int .i64 2]) rfl (convert_write_ok e6) .nil ?_)
    rintro u4 w9 _ _ _ ⟨_, rfl, rfl, rfl, rfl⟩ h17
    have h18 := h17 rfl rfl
    simp only [ca, na] at h18
    have h19 := (h18.pick .z).freeze
    obtain ⟨x2, e7, hF⟩ := bindP_use hF
    refine op (OpS.app (f' := true) h19 (.s .z) Tryz.underlying24 ti5 rfl rfl rfl rfl rfl rfl rfl (V.at .z) (.inr Pure.int) e7 (fun u5 w10 h20 => ?_))
    refine ga rfl (nil (sr (gm rfl (op (OpS.fbox (o3 := 4) h20 (.s .z) PA.z fa69_4 rfl rfl rfl rfl ?_)))))
    refine op (OpS.loadBi h20 (.s .z) PA.a (Get.fld Conversion_.f4) ty3 rfl rfl rfl ?_)
    refine op (OpS.conv Tryz.underlying3 Tryz.underlying5 rfl rfl rfl ?_)
    refine op (OpS.fbox (o3 := 5) h20 (.s .z) PA.z fa69_5 rfl rfl rfl rfl ?_)
    refine op (OpS.loadBi h20 (.s .z) PA.a (Get.fld Conversion_.f5) ty3 rfl rfl rfl ?_)
    refine op (OpS.conv Tryz.underlying3 Tryz.underlying5 rfl rfl rfl ?_)
    refine op (OpS.lit (r := (Rep.int .u8)) (f := true) h20 Tryz.underlying24 ti5 rfl rfl rfl rfl rfl (.cons rfl V.int (.cons rfl V.int .nil)) rfl rfl (fun u6 w11 h21 => ?_))
    obtain ⟨x3, e8, hF⟩ := bindP_use hF
    refine op (OpS.app (f' := true) h21 .z Tryz.underlying24 ti5 rfl rfl rfl rfl rfl rfl rfl (V.at .z) (.inr Pure.int) e8 (fun u7 w12 h22 => ?_))
    refine ga rfl (ga rfl (nil (Run.retP rfl (.tmp rfl (.tmp rfl .nil)) ?_)))
    cases hF
    exact Post.mk' ⟨u7, rfl, rfl, rfl, rfl⟩ (h22.picks (.cons .z .nil)) .nil
   ·
    refine Run.skip (sr (gm rfl (op (OpS.fbox (o3 := 6) h7 .z PA.z fa69_6 rfl rfl rfl rfl ?_))))
    refine op (OpS.loadB h7 .z PA.a (Get.fld Conversion_.f6) ty67 rfl rfl rfl (fun u8 h23 => ?_))
    refine op (OpS.len h23 Tryz.underlying67 rfl rfl rfl (V.at .z) ?_)
    refine op (OpS.conv Tryz.underlying3 Tryz.underlying5 rfl rfl rfl ?_)
    refine op (OpS.lit (r := (Rep.int .u8)) (f := true) h23 Tryz.underlying24 ti5 rfl rfl rfl rfl rfl (.cons rfl V.int .nil) rfl rfl (fun u9 w13 h24 => ?_))
    obtain ⟨x4, e9, hF⟩ := bindP_use hF
    refine op (OpS.app (f' := true) h24 (.s .z) Tryz.underlying24 ti5 rfl rfl rfl rfl rfl rfl rfl (V.at .z) (.inr Pure.int) e9 (fun u10 w14 h25 => ?_))
    refine ga rfl (nil (Run.seq (sr (op (OpS.fbox (o3 := 6) h25 (.s .z) PA.z fa69_6 rfl rfl rfl rfl ?_)))))
    refine op (OpS.loadB h25 (.s .z) PA.a (Get.fld Conversion_.f6) ty67 rfl rfl rfl (fun u11 h26 => ?_))
    refine op (OpS.len h26 Tryz.underlying67 rfl rfl rfl (V.at .z) ?_)
    refine gm rfl (nil (Run.block (Run.slim [(4, u10), (50, u11), (51, .int .i64 (a0.Points.length : Int)), (52, .int .i64 0)] ⟨rfl, rfl, rfl, rfl, trivial⟩ ?_)))
    refine Run.loopP (σ := (Int × (List Int))) (fun s_ L_ w_ => ∃ u0_ : Value, L_ = [(4, u0_), (50, u11), (51, .int .i64 (a0.Points.length : Int)), (52, .int .i64 s_.1)] ∧ St e w_ [(false, .val (Rep.slice Point_.rep) u11 a0.Points)] [(true, .slice 5 (Rep.int .u8) u0_ s_.2)]) hF ⟨u10, rfl, (h26.facts (.atm .z .nil)).picks (.cons .z .nil)⟩ (fun k1 hk1 s2 _ w15 hI hF => ?_)
    obtain ⟨u12, rfl, h27⟩ := hI
    refine sr (gb rfl (nil (Run.seq ?_)))
    refine Run.ite rfl hF (fun e10 hF => ?_) (fun e10 hF => ?_)
    ·
     refine Run.skip (Run.seq (Run.block (sr ?_)))
     obtain ⟨x5, e11, hF⟩ := bindP_use hF
     refine op (OpS.iptr h27 Tryz.underlying67 ty211 rfl rfl rfl rfl (V.at .z) e11 (fun u13 h28 => ?_))
     refine op (OpS.load h28 ty211 rfl rfl rfl .z (fun u14 h29 => ?_))
     refine op (OpS.alloc h29 ti211 Point_.zr rfl rfl (fun u15 w16 h30 => ?_))
     have h31 := (h30.pick .z).weak
     refine op (OpS.storeB (f' := false) h31 .z PA.z Put.id ty211 rfl rfl rfl (V.at .z) (.inr rfl) (fun w17 h32 => ?_))
     refine nil ?_
     obtain ⟨x6, e12, hF⟩ := bindP_use hF
     refine Run.drawV (Ωs := []) [.k 56 u12, .kr 57 (padd u15 0) [0], .kr 58 (.int .u8 x5.Raw) [0], .f 59 (fun u_ => [(true, .val (Rep.slice (Rep.int .u8)) u_ ([x5.Raw]))]), ⟨some 60, none, fun u_ => [], fun ds_ u_ => [(true, .slice 5 (Rep.int .u8) u_ x6)], [1], [], none⟩, .kr 61 (padd u15 1) [0], .kr 62 (.int .i64 x5.Value) [0]] [[], [], [1], [2], [0, 3], [], [5]] [[(false, .box 211 Point_.rep u15 x5)], [(true, .slice 5 (Rep.int .u8) u12 s2.2)]] [0, 2, 3, 4, 5, 6, 7, 8] Try_mixed rfl rfl rfl h32 (.cons ?_ (.cons ?_ (.cons ?_ (.cons ?_ (.cons ?_ (.cons ?_ (.cons ?_ .nil))))))) (fun q2 w hq2 h => ?_)
     ·intro q2 w Γx Ωx h
      refine OpS.mv rfl rfl rfl ?_
      exact du h
     ·intro q2 w Γx Ωx h
      refine OpS.fbox (o3 := 0) h .z PA.z fa211_0 rfl rfl rfl rfl ?_
      exact du h
     ·intro q2 w Γx Ωx h
      refine OpS.loadBi h .z PA.a (Get.fld Point_.f0) ty5 rfl rfl rfl ?_
      exact du h
     ·intro q2 w Γx Ωx h
      refine OpS.lit (r := (Rep.int .u8)) (f := true) h Tryz.underlying24 ti5 rfl rfl rfl rfl rfl (.cons rfl V.int .nil) rfl rfl (fun u w20 h35 => ?_)
      exact ⟨u, rfl, trivial, h35⟩
     ·intro q2 w Γx Ωx h
      refine OpS.app (f' := true) h .z Tryz.underlying24 ti5 rfl rfl rfl rfl rfl rfl rfl (V.at .z) (.inr Pure.int) e12 (fun u w21 h36 => ?_)
      exact ⟨u, rfl, trivial, h36⟩
     ·intro q2 w Γx Ωx h
      refine OpS.fbox (o3 := 1) h .z PA.z fa211_1 rfl rfl rfl rfl ?_
      exact du h
     ·intro q2 w Γx Ωx h
      refine OpS.loadBi h .z PA.a (Get.fld Point_.f1) ty2 rfl rfl rfl ?_
      exact du h
     have h37 := h
     obtain ⟨y4, e13, hF⟩ := bindP_use hF
     refine op (OpS.callP h37 Tryz.func185 rfl rfl rfl rfl (vs := [.int .i64 x5.Value, .int .i64 6]) rfl (convert_write_ok e13) .nil ?_)
     rintro u16 w22 _ _ _ ⟨_, rfl, rfl, rfl, rfl⟩ h38
     have h39 := h38 rfl rfl
     simp only [ca, na] at h39
     have h40 := (h39.pick .z).freeze
     obtain ⟨x7, e14, hF⟩ := bindP_use hF
     refine op (OpS.app (f' := true) h40 (.s .z) Tryz.underlying24 ti5 rfl rfl rfl rfl rfl rfl rfl (V.at .z) (.inr Pure.int) e14 (fun u17 w23 h41 => ?_))
     refine ga rfl (nil (Run.endBlock (Run.reg (gb rfl (gm rfl (nil (Run.slim [(4, u17), (50, u11), (51, .int .i64 (a0.Points.length : Int)), (52, .int .i64 (IntKind.i64.wrap (s2.1 + 1)))] ⟨rfl, rfl, rfl, rfl, trivial⟩ ?_)))))))
     exact hk1 ((IntKind.i64.wrap (s2.1 + 1)), x7) _ _ ⟨u17, rfl, (h41.facts (.atm (.s (.s (.s (.s .z)))) .nil)).picks (.cons .z .nil)⟩ hF
    ·
     refine Run.exit rfl ?_
     refine sr (gm rfl (ga rfl (ga rfl (nil (Run.retP rfl (.tmp rfl (.tmp rfl .nil)) ?_)))))
     cases hF
     exact Post.mk' ⟨u12, rfl, rfl, rfl, rfl⟩ (h27.picks (.cons .z .nil)) .nil
  ·
   refine Run.ite rfl hF (fun e15 hF => ?_) (fun e15 hF => ?_)
   ·
    refine Run.reg (gm rfl ?_)
    obtain ⟨x8, e16, hF⟩ := bindP_use hF
    refine op (OpS.iown h6 .z Tryz.underlying24 ty5 rfl rfl rfl rfl e16 ?_)
    refine op (OpS.loadOi h6 .z (idx_ne e16) PA.a (Get.arr e16) ty5 rfl rfl rfl ?_)
    refine gb rfl (op (OpS.iown h6 .z Tryz.underlying24 ty5 rfl rfl rfl rfl e16 ?_))
    obtain ⟨d1, e17, hF⟩ := letP_use hF
    refine op (OpS.storeO (f' := true) h6 .z (idx_ne e16) PA.a (Put.of (Put.arr e16) e17) ty5 rfl rfl rfl V.int (.inl rfl) (fun w24 h42 => ?_))
    refine nil (Run.slim [(1, u1), (4, u3)] ⟨rfl, rfl, trivial⟩ ?_)
    exact hj1 (d1) _ _ ⟨rfl, (h42.facts .nil).picks (.cons (.s .z) (.cons .z .nil))⟩ hF
   ·
    refine Run.skip (Run.slim [(1, u1), (4, u3)] ⟨rfl, rfl, trivial⟩ ?_)
    exact hj1 ([(IntKind.u8.wrap a0.Form)]) _ _ ⟨rfl, (h6.facts .nil).picks (.cons (.s .z) (.cons .z .nil))⟩ hF
set_option maxHeartbeats 8000000 in set_option maxRecDepth 20000 in
theorem sensor_Encode_ok {fuel : Nat} {a0 : Sensor_} {y : (List Int) × Int} (hF : sensor_Encode fuel a0 = some y) {w : World} {v0 : Value} :
  Spec Tryz.prog 42 [v0].toArray w [(false, .val Sensor_.rep v0 a0)] [] (fun v Γr Ωr Ωo => ∃ u0 : Value, v = .tuple #[u0, .int .i64 y.2] ∧ Γr = [] ∧ Ωr = [(true, (.slice 5 (Rep.int .u8) u0 y.1))] ∧ Ωo = []) := by
 refine Spec.of (L := [(0, v0)]) Tryz.func42 rfl ⟨rfl, trivial⟩ rfl (fun e h => ?_)
 unfold sensor_Encode at hF
 refine sr (op (OpS.boxF h rfl rfl rfl (V.at .z) (fun u1 w1 h1 => ?_)))
 refine ga rfl (ga rfl (nil (Run.seq (sr (op (OpS.loadB h1 .z PA.z Get.id ty74 rfl rfl rfl (fun u2 h2 => ?_)))))))
 obtain ⟨y1, e1, hF⟩ := bindP_use hF
 refine op (OpS.callP h2 Tryz.func107 rfl rfl rfl rfl (vs := [u2]) rfl (sensor_Valid_ok e1) (.cons (f := false) (V.at .z) .nil) ?_)
 rintro _ w2 _ _ _ ⟨rfl, rfl, rfl, rfl⟩ h3
 have h4 := h3 rfl rfl
 simp only [ca, na] at h4
 refine op (OpS.not rfl rfl rfl ?_)
 refine nil ?_
 refine Run.ite rfl hF (fun e2 hF => ?_) (fun e2 hF => ?_)
 ·
  refine sr (ga rfl (ga rfl (nil ?_)))
  have h5 := St.nil 5 (Rep.int .u8) h4
  refine Run.retP rfl (.tmp rfl (.tmp rfl .nil)) ?_
  cases hF
  exact Post.mk' ⟨(.slice none 0 0), rfl, rfl, rfl, rfl⟩ (h5.picks (.cons .z .nil)) .nil
 ·
  refine Run.skip (sr (op (OpS.fbox (o3 := 27) h4 .z PA.z fa74_14 rfl rfl rfl rfl ?_)))
  refine op (OpS.loadBi h4 .z PA.a (Get.fld Sensor_.f14) ty3 rfl rfl rfl ?_)
  refine gb rfl (op (OpS.conv Tryz.underlying3 Tryz.underlying5 rfl rfl rfl ?_))
  refine ga rfl ?_
  obtain ⟨x1, e3, hF⟩ := letP_use hF
  refine RunL.name e3 ?_
  refine nil (Run.seq (sr (op (OpS.fbox (o3 := 6) h4 .z PA.z fa74_5 rfl rfl rfl rfl ?_))))
  refine op (OpS.loadBb h4 .z PA.a (Get.fld Sensor_.f5) ty4 rfl rfl rfl ?_)
  refine nil ?_
  refine Run.join (σ := Int) (fun s_ L_ w_ => L_ = [(1, u1), (4, .int .u8 s_)] ∧ St e w_ [] [(false, .box 74 Sensor_.rep u1 a0)]) hF (fun s1 _ w3 hI hF => ?_) (fun j1 hj1 hF => ?_)
  ·
   obtain ⟨rfl, h6⟩ := hI
   refine Run.seq (sr (op (OpS.fbox (o3 := 26) h6 .z PA.z fa74_13 rfl rfl rfl rfl ?_)))
   refine op (OpS.loadBb h6 .z PA.a (Get.fld Sensor_.f13) ty4 rfl rfl rfl ?_)
   refine nil ?_
   refine Run.join (σ := Int) (fun s_ L_ w_ => L_ = [(1, u1), (4, .int .u8 s_)] ∧ St e w_ [] [(false, .box 74 Sensor_.rep u1 a0)]) hF (fun s2 _ w4 hI hF => ?_) (fun j2 hj2 hF => ?_)
   ·
    obtain ⟨rfl, h7⟩ := hI
    refine sr (op (OpS.fbox (o3 := 0) h7 .z PA.z fa74_0 rfl rfl rfl rfl ?_))
    refine op (OpS.loadBi h7 .z PA.a (Get.fld Sensor_.f0) ty5 rfl rfl rfl ?_)
    refine op (OpS.fbox (o3 := 1) h7 .z PA.z fa74_1 rfl rfl rfl rfl ?_)
    refine op (OpS.loadBi h7 .z PA.a (Get.fld Sensor_.f1) ty5 rfl rfl rfl ?_)
    refine op (OpS.fbox (o3 := 2) h7 .z PA.z fa74_2 rfl rfl rfl rfl ?_)
    refine op (OpS.loadBi h7 .z PA.a (Get.fld Sensor_.f2) ty5 rfl rfl rfl ?_)
    refine op (OpS.fbox (o3 := 4) h7 .z PA.z fa74_4 rfl rfl rfl rfl ?_)
    refine op (OpS.fbox (o3 := 4) h7 .z PA.a fa66_0 rfl rfl rfl rfl ?_)
    refine op (OpS.loadBi h7 .z PA.a (Get.comp (Get.fld Sensor_.f4) (Get.fld Entity_.f0)) ty5 rfl rfl rfl ?_)
    refine op (OpS.fbox (o3 := 4) h7 .z PA.z fa74_4 rfl rfl rfl rfl ?_)
    refine op (OpS.fbox (o3 := 5) h7 .z PA.a fa66_1 rfl rfl rfl rfl ?_)
    refine op (OpS.loadBi h7 .z PA.a (Get.comp (Get.fld Sensor_.f4) (Get.fld Entity_.f1)) ty5 rfl rfl rfl ?_)
    refine gm rfl (op (OpS.fbox (o3 := 3) h7 .z PA.z fa74_3 rfl rfl rfl rfl ?_))
    refine op (OpS.loadB h7 .z PA.a (Get.fld Sensor_.f3) ty9 rfl rfl rfl (fun u3 h8 => ?_))
    refine op (OpS.lenS h8 Tryz.underlying9 rfl rfl rfl (V.at .z) ?_)
    refine op (OpS.conv Tryz.underlying3 Tryz.underlying5 rfl rfl rfl ?_)
    refine op (OpS.litO (r := (Rep.int .u8)) (f := true) h8 Tryz.underlying24 ti5 rfl rfl rfl rfl rfl (.cons rfl V.int (.cons rfl V.int (.cons rfl V.int (.cons rfl V.int (.cons rfl V.int (.cons rfl V.int (.cons rfl V.int (.cons rfl V.int .nil)))))))) rfl rfl (fun u4 w5 h9 => ?_))
    refine ga rfl (nil (sr (gm rfl (op (OpS.fbox (o3 := 3) h9 (.s .z) PA.z fa74_3 rfl rfl rfl rfl ?_)))))
    refine op (OpS.loadB h9 (.s .z) PA.a (Get.fld Sensor_.f3) ty9 rfl rfl rfl (fun u5 h10 => ?_))
    obtain ⟨x2, e4, hF⟩ := bindP_use hF
    refine op (OpS.appS h10 .z Tryz.underlying24 Tryz.underlying9 ti5 rfl rfl rfl rfl (V.at .z) e4 (fun u6 w6 h11 => ?_))
    refine ga rfl (nil (Run.seq (sr (op (OpS.fbox (o3 := 6) h11 (.s .z) PA.z fa74_5 rfl rfl rfl rfl ?_)))))
    refine op (OpS.loadBb h11 (.s .z) PA.a (Get.fld Sensor_.f5) ty4 rfl rfl rfl ?_)
    refine nil ?_
    refine Run.ite rfl hF (fun e5 hF => ?_) (fun e5 hF => ?_)
    ·
     refine sr (gm rfl (op (OpS.fbox (o3 := 23) h11 (.s .z) PA.z fa74_10 rfl rfl rfl rfl ?_)))
     refine op (OpS.loadBi h11 (.s .z) PA.a (Get.fld Sensor_.f10) ty49 rfl rfl rfl ?_)
     refine op (OpS.fbox (o3 := 24) h11 (.s .z) PA.z fa74_11 rfl rfl rfl rfl ?_)
     refine op (OpS.loadBi h11 (.s .z) PA.a (Get.fld Sensor_.f11) ty49 rfl rfl rfl ?_)
     refine op (OpS.fbox (o3 := 25) h11 (.s .z) PA.z fa74_12 rfl rfl rfl rfl ?_)
     refine op (OpS.loadBi h11 (.s .z) PA.a (Get.fld Sensor_.f12) ty49 rfl rfl rfl ?_)
     refine op (OpS.lit (r := (Rep.int .u16)) (f := true) h11 Tryz.underlying60 ti49 rfl rfl rfl rfl rfl (.cons rfl V.int (.cons rfl V.int (.cons rfl V.int .nil))) rfl rfl (fun u7 w7 h12 => ?_))
     obtain ⟨y2, e6, hF⟩ := bindP_use hF
     refine op (OpS.callP h12 Tryz.func109 rfl rfl rfl rfl (vs := [u7]) rfl (sensor_two_ok e6) (.cons (f := true) (V.at .z) .nil) ?_)
     rintro u8 w8 _ _ _ ⟨_, rfl, rfl, rfl, rfl⟩ h13
     have h14 := h13 rfl rfl
     simp only [ca, na] at h14
     have h15 := (h14.pick .z).freeze
     obtain ⟨x3, e7, hF⟩ := bindP_use hF
     refine op (OpS.app (f' := true) h15 .z Tryz.underlying24 ti5 rfl rfl rfl rfl rfl rfl rfl (V.at .z) (.inr Pure.int) e7 (fun u9 w9 h16 => ?_))
     obtain ⟨y3, e8, hF⟩ := bindP_use hF
     refine op (OpS.callP h16 Tryz.func108 rfl rfl rfl rfl (vs := [u9]) rfl (checksum_Seal8_ok e8) (.own .z .nil) ?_)
     rintro u10 w10 _ _ _ ⟨_, rfl, rfl, rfl, rfl⟩ h17
     have h18 := h17 rfl rfl
     simp only [ca, na] at h18
     refine ga rfl (ga rfl (nil (Run.slim [(3, .int .i64 0), (2, u10)] ⟨rfl, rfl, trivial⟩ ?_)))
     refine Run.retP rfl (.tmp rfl (.tmp rfl .nil)) ?_
     cases hF
     exact Post.mk' ⟨u10, rfl, rfl, rfl, rfl⟩ (h18.picks (.cons .z .nil)) .nil
    ·
     refine Run.skip (sr (op (OpS.fbox (o3 := 7) h11 (.s .z) PA.z fa74_6 rfl rfl rfl rfl ?_)))
     refine op (OpS.loadB h11 (.s .z) PA.a (Get.fld Sensor_.f6) ty69 rfl rfl rfl (fun u11 h19 => ?_))
     obtain ⟨y4, e9, hF⟩ := bindP_use hF
     refine op (OpS.callP h19 Tryz.func110 rfl rfl rfl rfl (vs := [u11]) rfl (convert_Encode_ok e9) (.cons (f := false) (V.at .z) .nil) ?_)
     rintro _ w11 _ _ _ ⟨u12, rfl, rfl, rfl, rfl⟩ h20
     have h21 := h20 rfl rfl
     simp only [ca, na] at h21
     refine gm rfl (op (OpS.ext rfl rfl rfl rfl ?_))
     refine op (OpS.ext rfl rfl rfl rfl ?_)
     refine ga rfl ?_
     have h22 := (h21.pick .z).freeze
     refine ga rfl (nil (Run.slim [(6, u12), (5, u6), (1, u1)] ⟨rfl, rfl, rfl, trivial⟩ ?_))
     refine Run.seq ?_
     obtain ⟨x4, e10, hF⟩ := bindP_use hF
     refine Run.drawV (Ωs := []) [.k 64 u6, .k 65 u12, ⟨some 66, none, fun u_ => [], fun ds_ u_ => [(true, .slice 5 (Rep.int .u8) u_ x4)], [0], [], none⟩, .kr 67 (padd u1 14) [1], .kr 68 (padd u1 14) [1], .kr 69 (.int .u8 a0.Limits.Mask) [1], .f 70 (fun u_ => [(true, .val (Rep.slice (Rep.int .u8)) u_ ([a0.Limits.Mask]))])] [[], [], [0, 1], [], [3], [4], [5]] [[(true, .slice 5 (Rep.int .u8) u6 x2)], [(false, .box 74 Sensor_.rep u1 a0)]] [1, 2, 3, 4, 5, 6, 7, 8] Try_mixed rfl rfl rfl h22 (.cons ?_ (.cons ?_ (.cons ?_ (.cons ?_ (.cons ?_ (.cons ?_ (.cons ?_ .nil))))))) (fun q1 w hq1 h => ?_)
     ·intro q1 w Γx Ωx h
      refine OpS.mv rfl rfl rfl ?_
      exact du h
     ·intro q1 w Γx Ωx h
      refine OpS.mv rfl rfl rfl ?_
      exact du h
     ·intro q1 w Γx Ωx h
      refine OpS.app (f' := true) h .z Tryz.underlying24 ti5 rfl rfl rfl rfl rfl rfl rfl (V.at .z) (.inr Pure.int) e10 (fun u w14 h25 => ?_)
      exact ⟨u, rfl, trivial, h25⟩
     ·intro q1 w Γx Ωx h
      refine OpS.fbox (o3 := 14) h .z PA.z fa74_7 rfl rfl rfl rfl ?_
      exact du h
     ·intro q1 w Γx Ωx h
      refine OpS.fbox (o3 := 14) h .z PA.a fa72_0 rfl rfl rfl rfl ?_
      exact du h
     ·intro q1 w Γx Ωx h
      refine OpS.loadBi h .z PA.a (Get.comp (Get.fld Sensor_.f7) (Get.fld Thresholds_.f0)) ty5 rfl rfl rfl ?_
      exact du h
     ·intro q1 w Γx Ωx h
      refine OpS.lit (r := (Rep.int .u8)) (f := true) h Tryz.underlying24 ti5 rfl rfl rfl rfl rfl (.cons rfl V.int .nil) rfl rfl (fun u w15 h26 => ?_)
      exact ⟨u, rfl, trivial, h26⟩
     have h27 := h
     obtain ⟨x5, e11, hF⟩ := bindP_use hF
     refine op (OpS.app (f' := true) h27 (.s .z) Tryz.underlying24 ti5 rfl rfl rfl rfl rfl rfl rfl (V.at .z) (.inr Pure.int) e11 (fun u13 w16 h28 => ?_))
     refine ga rfl (nil (Run.seq ?_))
     have h29 := (h28.pick (.s .z)).freezeBox
     obtain ⟨x6, e12, hF⟩ := bindP_use hF
     refine Run.drawV (Ωs := []) [.k 72 u13, .f 73 (fun u_ => [(false, .ptr Thresholds_.rep u_ a0.Limits)]), .f 74 (fun u_ => [(false, .ptr (Rep.arr 6 (Rep.int .u8)) u_ a0.Limits.Raw)]), .f 75 (fun u_ => [(false, .val (Rep.slice (Rep.int .u8)) u_ a0.Limits.Raw)]), ⟨some 76, none, fun u_ => [], fun ds_ u_ => [(true, .slice 5 (Rep.int .u8) u_ x6)], [0], [], none⟩, .f 77 (fun u_ => [(false, .ptr (Rep.int .u8) u_ a0.HystLower)]), .k 78 (.int .u8 a0.HystLower), .f 79 (fun u_ => [(false, .ptr (Rep.int .u8) u_ a0.HystUpper)]), .k 80 (.int .u8 a0.HystUpper), .f 81 (fun u_ => [(true, .val (Rep.slice (Rep.int .u8)) u_ ([a0.HystLower, a0.HystUpper]))])] [[], [], [1], [2], [0, 3], [], [5], [], [7], [6, 8]] [[(true, .slice 5 (Rep.int .u8) u13 x5)]] [1, 2, 3, 4, 5, 6, 7, 8, 9, 10] Try_mixed rfl rfl rfl h29 (.cons ?_ (.cons ?_ (.cons ?_ (.cons ?_ (.cons ?_ (.cons ?_ (.cons ?_ (.cons ?_ (.cons ?_ (.cons ?_ .nil)))))))))) (fun q2 w hq2 h => ?_)
     ·intro q2 w Γx Ωx h
      refine OpS.mv rfl rfl rfl ?_
      exact du h
     ·intro q2 w Γx Ωx h
      refine OpS.fptr h fa74_7 Sensor_.f7 rfl rfl rfl .z (fun u h37 => ?_)
      exact ⟨u, rfl, trivial, h37⟩
     ·intro q2 w Γx Ωx h
      refine OpS.fptr h fa72_1 Thresholds_.f1 rfl rfl rfl .z (fun u h38 => ?_)
      exact ⟨u, rfl, trivial, h38⟩
     ·intro q2 w Γx Ωx h
      refine OpS.sarr h Tryz.underlying70 ty5 rfl rfl rfl rfl .z (fun u h39 => ?_)
      exact ⟨u, rfl, trivial, h39⟩
     ·intro q2 w Γx Ωx h
      refine OpS.app (f' := false) h .z Tryz.underlying24 ti5 rfl rfl rfl rfl rfl rfl rfl (V.at .z) (.inr Pure.int) e12 (fun u w19 h40 => ?_)
      exact ⟨u, rfl, trivial, h40⟩
     ·intro q2 w Γx Ωx h
      refine OpS.fptr h fa74_8 Sensor_.f8 rfl rfl rfl .z (fun u h41 => ?_)
      exact ⟨u, rfl, trivial, h41⟩
     ·intro q2 w Γx Ωx h
      refine OpS.loadi h ty5 rfl rfl rfl .z ?_
      exact du h
     ·intro q2 w Γx Ωx h
      refine OpS.fptr h fa74_9 Sensor_.f9 rfl rfl rfl .z (fun u h42 => ?_)
      exact ⟨u, rfl, trivial, h42⟩
     ·intro q2 w Γx Ωx h
      refine OpS.loadi h ty5 rfl rfl rfl .z ?_
      exact du h
     ·intro q2 w Γx Ωx h
      refine OpS.lit (r := (Rep.int .u8)) (f := true) h Tryz.underlying24 ti5 rfl rfl rfl rfl rfl (.cons rfl V.int (.cons rfl V.int .nil)) rfl rfl (fun u w20 h43 => ?_)
      exact ⟨u, rfl, trivial, h43⟩
     have h44 := h
     obtain ⟨x7, e13, hF⟩ := bindP_use hF
     refine op (OpS.app (f' := true) h44 .z Tryz.underlying24 ti5 rfl rfl rfl rfl rfl rfl rfl (V.at (.s (.s (.s (.s (.s .z)))))) (.inr Pure.int) e13 (fun u14 w21 h45 => ?_))
     refine ga rfl (nil (sr (gm rfl (op (OpS.fptr h45 fa74_11 Sensor_.f11 rfl rfl rfl (.s (.s (.s (.s (.s (.s .z)))))) (fun u15 h46 => ?_))))))
     refine op (OpS.loadi h46 ty49 rfl rfl rfl .z ?_)
     refine op (OpS.fptr h46 fa74_12 Sensor_.f12 rfl rfl rfl (.s (.s (.s (.s (.s (.s (.s .z))))))) (fun u16 h47 => ?_))
     refine op (OpS.loadi h47 ty49 rfl rfl rfl .z ?_)
     refine op (OpS.lit (r := (Rep.int .u16)) (f := true) h47 Tryz.underlying60 ti49 rfl rfl rfl rfl rfl (.cons rfl V.int (.cons rfl V.int .nil)) rfl rfl (fun u17 w22 h48 => ?_))
     obtain ⟨y5, e14, hF⟩ := bindP_use hF
     refine op (OpS.callP h48 Tryz.func109 rfl rfl rfl rfl (vs := [u17]) rfl (sensor_two_ok e14) (.cons (f := true) (V.at .z) .nil) ?_)
     rintro u18 w23 _ _ _ ⟨_, rfl, rfl, rfl, rfl⟩ h49
     have h50 := h49 rfl rfl
     simp only [ca, na] at h50
     have h51 := (h50.pick .z).freeze
     obtain ⟨x8, e15, hF⟩ := bindP_use hF
     refine op (OpS.app (f' := true) h51 .z Tryz.underlying24 ti5 rfl rfl rfl rfl rfl rfl rfl (V.at .z) (.inr Pure.int) e15 (fun u19 w24 h52 => ?_))
     obtain ⟨y6, e16, hF⟩ := bindP_use hF
     refine op (OpS.callP h52 Tryz.func108 rfl rfl rfl rfl (vs := [u19]) rfl (checksum_Seal8_ok e16) (.own .z .nil) ?_)
     rintro u20 w25 _ _ _ ⟨_, rfl, rfl, rfl, rfl⟩ h53
     have h54 := h53 rfl rfl
     simp only [ca, na] at h54
     refine ga rfl (ga rfl (nil (Run.slim [(3, .int .i64 0), (2, u20)] ⟨rfl, rfl, trivial⟩ ?_)))
     refine Run.retP rfl (.tmp rfl (.tmp rfl .nil)) ?_
     cases hF
     exact Post.mk' ⟨u20, rfl, rfl, rfl, rfl⟩ (h54.picks (.cons .z .nil)) .nil
   ·
    refine Run.ite rfl hF (fun e17 hF => ?_) (fun e17 hF => ?_)
    ·
     refine Run.reg (gm rfl (gb rfl (ga rfl (nil (Run.slim [(1, u1), (4, .int .u8 (bOr .u8 s1 2))] ⟨rfl, rfl, trivial⟩ ?_)))))
     exact hj2 ((bOr .u8 s1 2)) _ _ ⟨rfl, (h6.facts .nil).picks (.cons .z .nil)⟩ hF
    ·
     refine Run.skip (Run.slim [(1, u1), (4, .int .u8 s1)] ⟨rfl, rfl, trivial⟩ ?_)
     exact hj2 (s1) _ _ ⟨rfl, (h6.facts .nil).picks (.cons .z .nil)⟩ hF
  ·
   refine Run.ite rfl hF (fun e18 hF => ?_) (fun e18 hF => ?_)
   ·
    refine Run.reg (gm rfl (gb rfl (ga rfl (nil (Run.slim [(1, u1), (4, .int .u8 (bOr .u8 x1 1))] ⟨rfl, rfl, trivial⟩ ?_)))))
    exact hj1 ((bOr .u8 x1 1)) _ _ ⟨rfl, (h4.facts .nil).picks (.cons .z .nil)⟩ hF
   ·
    refine Run.skip (Run.slim [(1, u1), (4, .int .u8 x1)] ⟨rfl, rfl, trivial⟩ ?_)
    exact hj1 (x1) _ _ ⟨rfl, (h4.facts .nil).picks (.cons .z .nil)⟩ hF
theorem repository_Repository_Free_ok {fuel : Nat} {a0 : repository_Repository} {y : Int} (hF : repository_Repository_Free fuel a0 = some y) {w : World} {v0 v0_0 : Value} :
  Spec Tryz.prog 111 [v0].toArray w [] [(false, .box 225 (repository_Repository.repW v0_0) v0 a0), (false, .slice 231 repository_record.rep v0_0 a0.records)] (fun v Γr Ωr Ωo => v = .int .i64 y ∧ Γr = [] ∧ Ωr = [] ∧ Ωo = [(false, .box 225 (repository_Repository.repW v0_0) v0 a0), (false, (.slice 231 repository_record.rep v0_0 a0.records))]) := by
 refine Spec.of (L := [(0, v0)]) Tryz.func111 rfl ⟨rfl, trivial⟩ rfl (fun e h => ?_)
 unfold repository_Repository_Free at hF
 refine sr (ga rfl (nil (sr (gm rfl (op (OpS.nchk h .z rfl rfl rfl ?_))))))
 refine op (OpS.fbox (o3 := 0) h .z PA.z fa225_0 rfl rfl rfl rfl ?_)
 refine op (OpS.loadBi h .z PA.a (GetS.ok (GetS.iso _ (GetS.here GetS.id))) ty3 rfl rfl rfl ?_)
 refine ga rfl (nil (Run.seq (sr (gm rfl (op (OpS.nchk h .z rfl rfl rfl ?_))))))
 refine op (OpS.fbox (o3 := 1) h .z PA.z fa225_1 rfl rfl rfl rfl ?_)
 refine op (OpS.loadR h .z PA.a (GetS.ok (GetS.iso _ (GetS.there (GetS.here GetS.id)))) ty223 rfl rfl rfl rfl rfl ?_)
 refine op (OpS.lenO h (.s .z) Tryz.underlying223 rfl rfl rfl ?_)
 refine gm rfl (nil (Run.block (Run.slim [(3, .int .i64 a0.capacity), (13, v0_0), (14, .int .i64 (a0.records.length : Int)), (15, .int .i64 0)] ⟨rfl, rfl, rfl, rfl, trivial⟩ ?_)))
 refine Run.loopP (σ := (Int × Int)) (fun s_ L_ w_ => L_ = [(3, .int .i64 s_.1), (13, v0_0), (14, .int .i64 (a0.records.length : Int)), (15, .int .i64 s_.2)] ∧ St e w_ [] [(false, .box 225 (repository_Repository.repW v0_0) v0 a0), (false, .slice 231 repository_record.rep v0_0 a0.records)]) hF ⟨rfl, (h.facts .nil).picks (.cons .z (.cons .z .nil))⟩ (fun k1 hk1 s1 _ w1 hI hF => ?_)
 obtain ⟨rfl, h1⟩ := hI
 refine sr (gb rfl (nil (Run.seq ?_)))
 refine Run.ite rfl hF (fun e1 hF => ?_) (fun e1 hF => ?_)
 ·
  refine Run.skip (Run.seq (Run.block (sr ?_)))
  obtain ⟨x1, e2, hF⟩ := bindP_use hF
  refine op (OpS.iown h1 (.s .z) Tryz.underlying223 ty231 rfl rfl rfl rfl e2 ?_)
  refine op (OpS.loadO h1 (.s .z) (idx_ne e2) PA.a (Get.arr e2) ty231 rfl rfl rfl (fun u1 h2 => ?_))
  refine op (OpS.alloc h2 ti231 repository_record.zr rfl rfl (fun u2 w2 h3 => ?_))
  have h4 := (h3.pick .z).weak
  refine op (OpS.storeB (f' := false) h4 .z PA.z Put.id ty231 rfl rfl rfl (V.at .z) (.inr rfl) (fun w3 h5 => ?_))
  refine nil (Run.reg (gm rfl (op (OpS.fbox (o3 := 1) h5 .z PA.z fa231_1 rfl rfl rfl rfl ?_))))
  refine op (OpS.loadB h5 .z PA.a (Get.fld repository_record.f1) ty24 rfl rfl rfl (fun u3 h6 => ?_))
  refine op (OpS.len h6 Tryz.underlying24 rfl rfl rfl (V.at .z) ?_)
  refine gb rfl (ga rfl ?_)
  obtain ⟨x2, e3, hF⟩ := letP_use hF
  refine RunL.name e3 ?_
  refine nil (Run.endBlock (Run.reg (gb rfl (gm rfl (nil (Run.slim [(3, .int .i64 x2), (13, v0_0), (14, .int .i64 (a0.records.length : Int)), (15, .int .i64 (IntKind.i64.wrap (s1.2 + 1)))] ⟨rfl, rfl, rfl, rfl, trivial⟩ ?_))))))
  exact hk1 (x2, (IntKind.i64.wrap (s1.2 + 1))) _ _ ⟨rfl, (h6.facts .nil).picks (.cons (.s .z) (.cons (.s .z) .nil))⟩ hF
 ·
  refine Run.exit rfl ?_
  refine sr (gm rfl (ga rfl (nil (Run.retP rfl (.tmp rfl .nil) ?_))))
  cases hF
  exact Post.mk' ⟨rfl, rfl, rfl, rfl⟩ (h1.picks (.cons .z (.cons .z .nil))) .nil
theorem repository_Repository_find_1_2_ok {fuel : Nat} {a0 : repository_record} {a1 : Int} {y : Bool} (hF : repository_Repository_find_1_2 fuel a0 a1 = some y) {w : World} {v0 v1 : Value} :
  Spec Tryz.prog 187 [v0, v1].toArray w [(false, .val repository_record.rep v0 a0), (false, .ptr (Rep.int .u16) v1 a1)] [] (fun v Γr Ωr Ωo => v = .bool y ∧ Γr = [] ∧ Ωr = [] ∧ Ωo = []) := by
 refine Spec.of (L := [(0, v0), (1, v1)]) Tryz.func187 rfl ⟨rfl, rfl, trivial⟩ rfl (fun e h => ?_)
 unfold repository_Repository_find_1_2 at hF
 refine sr (op (OpS.boxF h rfl rfl rfl (V.at .z) (fun u1 w1 h1 => ?_)))
 refine ga rfl (nil (sr (op (OpS.fbox (o3 := 0) h1 .z PA.z fa231_0 rfl rfl rfl rfl ?_))))
 refine op (OpS.loadBi h1 .z PA.a (Get.fld repository_record.f0) ty49 rfl rfl rfl ?_)
 refine op (OpS.loadi h1 ty49 rfl rfl rfl (.s .z) ?_)
 refine gb rfl (ga rfl ?_)
 obtain ⟨x1, e1, hF⟩ := letP_use hF
 refine RunL.nameb e1 ?_
 refine nil (Run.retP rfl (.tmp rfl .nil) ?_)
 cases hF
 exact Post.mk' ⟨rfl, rfl, rfl, rfl⟩ (h1.picks .nil) .nil
theorem slices_IndexFunc_repository_record_repository_record_repository_Repository_find_1_ok {fuel : Nat} {a0 : List repository_record} {a1_0 : Int} {y : Int} (hF : slices_IndexFunc_repository_record_repository_record_repository_Repository_find_1 fuel a0 a1_0 = some y) {w : World} {v0 v1_0 : Value} :
  Spec Tryz.prog 186 [v0, .func (.func 187) #[] #[v1_0]].toArray w [(false, .val (Rep.slice repository_record.rep) v0 a0), (false, .ptr (Rep.int .u16) v1_0 a1_0)] [] (fun v Γr Ωr Ωo => v = .int .i64 y ∧ Γr = [] ∧ Ωr = [] ∧ Ωo = []) := by
 refine Spec.of (L := [(0, v0), (1, .func (.func 187) #[] #[v1_0])]) Tryz.func186 rfl ⟨rfl, rfl, trivial⟩ rfl (fun e h => ?_)
 unfold slices_IndexFunc_repository_record_repository_record_repository_Repository_find_1 at hF
 refine sr (ga rfl (nil (Run.seq (sr (gm rfl (op (OpS.len h Tryz.underlying223 rfl rfl rfl (V.at .z) ?_)))))))
 refine gm rfl (nil (Run.block (Run.slim [(0, v0), (1, .func (.func 187) #[] #[v1_0]), (7, .int .i64 (a0.length : Int)), (8, .int .i64 0)] ⟨rfl, rfl, rfl, rfl, trivial⟩ ?_)))
 refine Run.loopP (σ := Int) (fun s_ L_ w_ => L_ = [(0, v0), (1, .func (.func 187) #[] #[v1_0]), (7, .int .i64 (a0.length : Int)), (8, .int .i64 s_)] ∧ St e w_ [(false, .val (Rep.slice repository_record.rep) v0 a0), (false, .ptr (Rep.int .u16) v1_0 a1_0)] []) hF ⟨rfl, (h.facts (.atm .z (.atm (.s .z) .nil))).picks .nil⟩ (fun k1 hk1 s1 _ w1 hI hF => ?_)
 obtain ⟨rfl, h1⟩ := hI
 refine sr (gb rfl (nil (Run.seq ?_)))
 refine Run.ite rfl hF (fun e1 hF => ?_) (fun e1 hF => ?_)
 ·
  refine Run.skip (Run.seq (Run.block (sr (gm rfl (ga rfl (nil (sr (gm rfl (gm rfl (gm rfl ?_))))))))))
  obtain ⟨x1, e2, hF⟩ := bindP_use hF
  refine op (OpS.iptr h1 Tryz.underlying223 ty231 rfl rfl rfl rfl (V.at .z) e2 (fun u1 h2 => ?_))
  refine op (OpS.load h2 ty231 rfl rfl rfl .z (fun u2 h3 => ?_))
  obtain ⟨y1, e3, hF⟩ := bindP_use hF
  refine op (OpS.callPF (fl := []) (cl := [v1_0]) h3 Tryz.func187 rfl rfl rfl rfl rfl (vs := [u2]) rfl (repository_Repository_find_1_2_ok e3) (.cons (f := false) (V.at .z) (.ptr (.s (.s (.s .z))) .nil)) ?_)
  rintro _ w2 _ _ _ ⟨rfl, rfl, rfl, rfl⟩ h4
  have h5 := h4 rfl rfl
  simp only [ca, na] at h5
  refine nil ?_
  refine Run.ite rfl hF (fun e4 hF => ?_) (fun e4 hF => ?_)
  ·
   refine sr (gm rfl (ga rfl (nil (Run.retP rfl (.tmp rfl .nil) ?_))))
   cases hF
   exact Post.mk' ⟨rfl, rfl, rfl, rfl⟩ (h5.picks .nil) .nil
  ·
   refine Run.skip (Run.endBlock (Run.reg (gb rfl (gm rfl (nil (Run.slim [(0, v0), (1, .func (.func 187) #[] #[v1_0]), (7, .int .i64 (a0.length : Int)), (8, .int .i64 (IntKind.i64.wrap (s1 + 1)))] ⟨rfl, rfl, rfl, rfl, trivial⟩ ?_))))))
   exact hk1 ((IntKind.i64.wrap (s1 + 1))) _ _ ⟨rfl, (h5.facts (.atm (.s (.s .z)) (.atm (.s (.s (.s .z))) .nil))).picks .nil⟩ hF
 ·
  refine Run.exit rfl ?_
  refine sr (ga rfl (nil (Run.retP rfl (.tmp rfl .nil) ?_)))
  cases hF
  exact Post.mk' ⟨rfl, rfl, rfl, rfl⟩ (h1.picks .nil) .nil
theorem repository_Repository_find_ok {fuel : Nat} {a0 : repository_Repository} {a1 : Int} {y : Int} (hF : repository_Repository_find fuel a0 a1 = some y) {w : World} {v0 v0_0 : Value} :
  Spec Tryz.prog 112 [v0, .int .u16 a1].toArray w [] [(false, .box 225 (repository_Repository.repW v0_0) v0 a0), (false, .slice 231 repository_record.rep v0_0 a0.records)] (fun v Γr Ωr Ωo => v = .int .i64 y ∧ Γr = [] ∧ Ωr = [] ∧ Ωo = [(false, .box 225 (repository_Repository.repW v0_0) v0 a0), (false, (.slice 231 repository_record.rep v0_0 a0.records))]) := by
 refine Spec.of (L := [(0, v0), (1, .int .u16 a1)]) Tryz.func112 rfl ⟨rfl, rfl, trivial⟩ rfl (fun e h => ?_)
 unfold repository_Repository_find at hF
 refine sr (op (OpS.box (f' := true) h rfl rfl rfl V.int (fun u1 w1 h1 => ?_)))
 refine ga rfl (nil (sr (gm rfl (op (OpS.nchk h1 (.s .z) rfl rfl rfl ?_)))))
 refine op (OpS.fbox (o3 := 1) h1 (.s .z) PA.z fa225_1 rfl rfl rfl rfl ?_)
 refine op (OpS.loadR h1 (.s .z) PA.a (GetS.ok (GetS.iso _ (GetS.there (GetS.here GetS.id)))) ty223 rfl rfl rfl rfl rfl ?_)
 refine op (OpS.mkf (fl := []) (cl := [u1]) rfl rfl rfl rfl ?_)
 have h2 := (h1.pick .z).freezeBox
 obtain ⟨y1, e1, hF⟩ := bindP_use hF
 refine op (OpS.callP h2 Tryz.func186 rfl rfl rfl rfl (vs := [v0_0, .func (.func 187) #[] #[u1]]) rfl (slices_IndexFunc_repository_record_repository_record_repository_Repository_find_1_ok e1) (.own (.s .z) (.ptr .z .nil)) ?_)
 rintro _ w2 _ _ _ ⟨rfl, rfl, rfl, rfl⟩ h3
 have h4 := h3 rfl rfl
 simp only [ca, na] at h4
 refine ga rfl (nil (Run.retP rfl (.tmp rfl .nil) ?_))
 cases hF
 exact Post.mk' ⟨rfl, rfl, rfl, rfl⟩ (h4.picks (.cons .z (.cons .z .nil))) .nil
set_option maxRecDepth 20000 in
theorem repository_Repository_Add_ok {fuel : Nat} {a0 : repository_Repository} {a1 : List Int} {y : Int × Int × repository_Repository} (hF : repository_Repository_Add fuel a0 a1 = some y) {w : World} {v0 v0_0 v1 : Value} :
  Spec Tryz.prog 43 [v0, v1].toArray w [(false, .val (Rep.slice (Rep.int .u8)) v1 a1)] [(false, .box 225 (repository_Repository.repW v0_0) v0 a0), (false, .slice 231 repository_record.rep v0_0 a0.records)] (fun v Γr Ωr Ωo => ∃ w0_0 : Value, v = .tuple #[.int .u16 y.1, .int .i64 y.2.1] ∧ Γr = [] ∧ Ωr = [] ∧ Ωo = [(false, .box 225 (repository_Repository.repW w0_0) v0 y.2.2), (false, (.slice 231 repository_record.rep w0_0 y.2.2.records))]) := by
 refine Spec.of (L := [(0, v0), (1, v1)]) Tryz.func43 rfl ⟨rfl, rfl, trivial⟩ rfl (fun e h => ?_)
 unfold repository_Repository_Add at hF
 refine sr (ga rfl (ga rfl (nil (Run.seq (Run.block (sr (gm rfl (op (OpS.len h Tryz.underlying24 rfl rfl rfl (V.at .z) ?_)))))))))
 refine gb rfl (gm rfl ?_)
 refine RunL.join (σ := Bool) (fun s_ L_ w_ => L_ = [(0, v0), (1, v1), (6, .bool s_)] ∧ St e w_ [(false, .val (Rep.slice (Rep.int .u8)) v1 a1)] [(false, .box 225 (repository_Repository.repW v0_0) v0 a0), (false, .slice 231 repository_record.rep v0_0 a0.records)]) hF (fun s1 _ w1 hI hF => ?_) (fun j1 hj1 hF => ?_)
 ·
  obtain ⟨rfl, h1⟩ := hI
  refine Run.ite rfl hF (fun e1 hF => ?_) (fun e1 hF => ?_)
  ·
   refine sr (ga rfl (ga rfl (nil (Run.retP rfl (.tmp rfl (.tmp rfl .nil)) ?_))))
   cases hF
   exact Post.mk' ⟨v0_0, rfl, rfl, rfl, rfl⟩ (h1.picks (.cons .z (.cons .z .nil))) .nil
  ·
   refine sr (gm rfl (op (OpS.nchk h1 .z rfl rfl rfl ?_)))
   refine op (OpS.fbox (o3 := 1) h1 .z PA.z fa225_1 rfl rfl rfl rfl ?_)
   refine op (OpS.loadR h1 .z PA.a (GetS.ok (GetS.iso _ (GetS.there (GetS.here GetS.id)))) ty223 rfl rfl rfl rfl rfl ?_)
   refine op (OpS.lenO h1 (.s .z) Tryz.underlying223 rfl rfl rfl ?_)
   refine gb rfl (ga rfl ?_)
   obtain ⟨x1, e2, hF⟩ := letP_use hF
   refine RunL.nameb e2 ?_
   refine nil ?_
   refine Run.ite rfl hF (fun e3 hF => ?_) (fun e3 hF => ?_)
   ·
    refine sr (ga rfl (ga rfl (nil (Run.retP rfl (.tmp rfl (.tmp rfl .nil)) ?_))))
    cases hF
    exact Post.mk' ⟨v0_0, rfl, rfl, rfl, rfl⟩ (h1.picks (.cons .z (.cons .z .nil))) .nil
   ·
    refine sr (gm rfl (op (OpS.len h1 Tryz.underlying24 rfl rfl rfl (V.at .z) ?_)))
    refine gm rfl ?_
    obtain ⟨y1, e4, hF⟩ := bindP_use hF
    have h2 := h1.front (.cons .z (.cons .z .nil))
    refine op (OpS.callO h2 Tryz.func111 rfl rfl rfl rfl (vs := [v0]) rfl (repository_Repository_Free_ok e4) rfl .nil ?_)
    rintro _ w2 _ _ _ ⟨rfl, rfl, rfl, rfl⟩ h3
    have h4 := h3
    simp only [ca, na] at h4
    refine gb rfl (ga rfl ?_)
    obtain ⟨x2, e5, hF⟩ := letP_use hF
    refine RunL.nameb e5 ?_
    refine nil ?_
    refine Run.ite rfl hF (fun e6 hF => ?_) (fun e6 hF => ?_)
    ·
     refine sr (ga rfl (ga rfl (nil (Run.retP rfl (.tmp rfl (.tmp rfl .nil)) ?_))))
     cases hF
     exact Post.mk' ⟨v0_0, rfl, rfl, rfl, rfl⟩ (h4.picks (.cons .z (.cons .z .nil))) .nil
    ·
     refine Run.skip (Run.endBlock (Run.seq (Run.block (Run.slim [(0, v0), (1, v1)] ⟨rfl, rfl, trivial⟩ ?_))))
     refine Run.loopP (σ := repository_Repository) (fun s_ L_ w_ => L_ = [(0, v0), (1, v1)] ∧ St e w_ [(false, .val (Rep.slice (Rep.int .u8)) v1 a1)] [(false, .box 225 (repository_Repository.repW v0_0) v0 s_), (false, .slice 231 repository_record.rep v0_0 s_.records)]) hF ⟨rfl, (h4.facts (.atm .z .nil)).picks (.cons .z (.cons .z .nil))⟩ (fun k1 hk1 s2 _ w3 hI hF => ?_)
     obtain ⟨rfl, h5⟩ := hI
     refine Run.block (sr (gm rfl (gm rfl (op (OpS.nchk h5 .z rfl rfl rfl ?_)))))
     refine op (OpS.fbox (o3 := 2) h5 .z PA.z fa225_2 rfl rfl rfl rfl ?_)
     refine op (OpS.loadBi h5 .z PA.a (GetS.ok (GetS.iso _ (GetS.there (GetS.there (GetS.here GetS.id))))) ty49 rfl rfl rfl ?_)
     refine op (OpS.rem rfl rfl rfl rfl (by decide) ?_)
     refine gb rfl (op (OpS.nchk h5 .z rfl rfl rfl ?_))
     refine op (OpS.fbox (o3 := 2) h5 .z PA.z fa225_2 rfl rfl rfl rfl ?_)
     obtain ⟨d1, e7, hF⟩ := letP_use hF
     refine op (OpS.storeC (f' := true) (fr := (Rep.int .u16)) (r' := (repository_Repository.repW v0_0)) (x' := d1) h5 .z PA.a (Chg.of (x' := { s2 with last := (IntKind.u16.wrap ((Int.tmod s2.last 65534) + 1)) }) (Chg.iso _ (Chg.there (Chg.there (Chg.here (Chg.id (by rfl)))))) e7) ty49 rfl rfl rfl V.int (.inr rfl) (fun w4 h6 => ?_))
     refine nil (sr (gm rfl (gm rfl (op (OpS.nchk h6 .z rfl rfl rfl ?_)))))
     refine op (OpS.fbox (o3 := 2) h6 .z PA.z fa225_2 rfl rfl rfl rfl ?_)
     refine op (OpS.loadBi h6 .z PA.a (GetS.ok (GetS.iso _ (GetS.there (GetS.there (GetS.here GetS.id))))) ty49 rfl rfl rfl ?_)
     have h7 := St.boxJ (r' := (repository_Repository.repW v0_0)) (x' := { d1 with records := s2.records }) (h6.pick .z) (fun _ _ hs_ => (Jn.iso _ (Jn.prod Jn.refl (Jn.prod Jn.same Jn.refl))))
     obtain ⟨y2, e8, hF⟩ := bindP_use hF
     have h8 := h7.front (.cons .z (.cons .z .nil))
     refine op (OpS.callO h8 Tryz.func112 rfl rfl rfl rfl (vs := [v0, .int .u16 d1.last]) rfl (repository_Repository_find_ok e8) rfl .nil ?_)
     rintro _ w5 _ _ _ ⟨rfl, rfl, rfl, rfl⟩ h9
     have h10 := h9
     simp only [ca, na] at h10
     refine gb rfl (nil ?_)
     refine Run.ite rfl hF (fun e9 hF => ?_) (fun e9 hF => ?_)
     ·
      refine Run.exit rfl ?_
      refine Run.seq ?_
      obtain ⟨y3, e10, hF⟩ := bindP_use hF
      obtain ⟨x3, e11, hF⟩ := bindP_use hF
      refine Run.drawV (Ωs := []) [.k 44 v0, .k 45 v0, .kr 46 v0 [0], .kr 47 (padd v0 1) [0], .kr 48 v0_0 [0], .k 49 v0, .kr 50 v0 [0], .kr 51 (padd v0 2) [0], .kr 52 (.int .u16 (({ d1 with records := s2.records }).last)) [0], .k 53 v1, .f 54 (fun u_ => [(true, .val (Rep.slice (Rep.int .u8)) u_ y3)]), .f 55 (fun u_ => [(true, .val repository_record.rep u_ (⟨({ d1 with records := s2.records }).last, y3⟩ : repository_record))]), .f 56 (fun u_ => [(true, .val (Rep.slice repository_record.rep) u_ ([(⟨({ d1 with records := s2.records }).last, y3⟩ : repository_record)]))]), ⟨some 57, none, fun u_ => [], fun ds_ u_ => [(false, .slice 231 repository_record.rep u_ x3)], [1], [], none⟩] [[], [], [1], [2], [3], [], [5], [6], [7], [], [9], [8, 10], [11], [4, 12]] [[(false, .box 225 (repository_Repository.repW v0_0) v0 ({ d1 with records := s2.records }))], [(false, .slice 231 repository_record.rep v0_0 s2.records)]] [0, 2, 3, 4, 5, 6, 7, 8, 9, 10, 11, 12, 13, 14, 15] Try_mixed rfl rfl rfl h10 (.cons ?_ (.cons ?_ (.cons ?_ (.cons ?_ (.cons ?_ (.cons ?_ (.cons ?_ (.cons ?_ (.cons ?_ (.cons ?_ (.cons ?_ (.cons ?_ (.cons ?_ (.cons ?_ .nil)))))))))))))) (fun q1 w hq1 h => ?_)
      ·intro q1 w Γx Ωx h
       refine OpS.mv rfl rfl rfl ?_
       exact du h
      ·intro q1 w Γx Ωx h
       refine OpS.mv rfl rfl rfl ?_
       exact du h
      ·intro q1 w Γx Ωx h
       refine OpS.nchk h .z rfl rfl rfl ?_
       exact du h
      ·intro q1 w Γx Ωx h
       refine OpS.fbox (o3 := 1) h .z PA.z fa225_1 rfl rfl rfl rfl ?_
       exact du h
      ·intro q1 w Γx Ωx h
       refine OpS.loadR h .z PA.a (GetS.ok (GetS.iso _ (GetS.there (GetS.here GetS.id)))) ty223 rfl rfl rfl rfl rfl ?_
       exact du h
      ·intro q1 w Γx Ωx h
       refine OpS.mv rfl rfl rfl ?_
       exact du h
      ·intro q1 w Γx Ωx h
       refine OpS.nchk h .z rfl rfl rfl ?_
       exact du h
      ·intro q1 w Γx Ωx h
       refine OpS.fbox (o3 := 2) h .z PA.z fa225_2 rfl rfl rfl rfl ?_
       exact du h
      ·intro q1 w Γx Ωx h
       refine OpS.loadBi h .z PA.a (GetS.ok (GetS.iso _ (GetS.there (GetS.there (GetS.here GetS.id))))) ty49 rfl rfl rfl ?_
       exact du h
      ·intro q1 w Γx Ωx h
       refine OpS.mv rfl rfl rfl ?_
       exact du h
      ·intro q1 w Γx Ωx h
       refine OpS.callP h Tryz.func113 rfl rfl rfl rfl (vs := [v1]) rfl (slices_Clone_byte_byte_ok e10) (.cons (f := false) (V.at .z) .nil) ?_
       rintro u w9 _ _ _ ⟨_, rfl, rfl, rfl, rfl⟩ h17
       have h18 := h17 rfl rfl
       simp only [ca, na] at h18
       have h19 := h18.freeze
       exact ⟨u, rfl, trivial, h19⟩
      ·intro q1 w Γx Ωx h
       refine OpS.build (f := true) (x' := (⟨({ d1 with records := s2.records }).last, y3⟩ : repository_record)) h pl231 ti231 repository_record.zr rfl rfl rfl (.cons rfl repository_record.f0 rfl V.int (.cons rfl repository_record.f1 rfl (V.at .z) .nil)) (fun u h20 => ?_)
       exact ⟨u, rfl, trivial, h20⟩
      ·intro q1 w Γx Ωx h
       refine OpS.lit (r := repository_record.rep) (f := true) h Tryz.underlying223 ti231 rfl rfl rfl rfl rfl (.cons rfl (V.at .z) .nil) rfl rfl (fun u w10 h21 => ?_)
       exact ⟨u, rfl, trivial, h21⟩
      ·intro q1 w Γx Ωx h
       refine OpS.app (f' := true) h .z Tryz.underlying223 ti231 rfl rfl rfl rfl rfl rfl rfl (V.at .z) (.inl (.inl rfl)) e11 (fun u w11 h22 => ?_)
       exact ⟨u, rfl, trivial, h22⟩
      have h23 := h
      refine op (OpS.nchk h23 .z rfl rfl rfl ?_)
      refine op (OpS.fbox (o3 := 1) h23 .z PA.z fa225_1 rfl rfl rfl rfl ?_)
      refine op (OpS.storeC (f' := false) (fr := (Rep.raw (q1 13))) (r' := (repository_Repository.repW (q1 13))) (x' := { d1 with records := s2.records }) h23 .z PA.a (Chg.iso _ (Chg.there (Chg.here (Chg.id (by rfl))))) (Ty.like ty223 (by rfl) (by rfl)) rfl rfl rfl (V.raw (f := false) (St.own1 h23 (.s .z)) (({ d1 with records := s2.records }).records)) (.inr rfl) (fun w12 h24 => ?_))
      refine nil (Run.slim [(0, v0)] ⟨rfl, trivial⟩ ?_)
      refine sr (gm rfl (op (OpS.nchk h24 .z rfl rfl rfl ?_)))
      refine op (OpS.fbox (o3 := 4) h24 .z PA.z fa225_4 rfl rfl rfl rfl ?_)
      obtain ⟨d2, e12, hF⟩ := letP_use hF
      refine op (OpS.storeC (f' := true) (fr := Rep.bool) (r' := (repository_Repository.repW (q1 13))) (x' := d2) h24 .z PA.a (Chg.of (x' := { { d1 with records := s2.records } with held := false }) (Chg.iso _ (Chg.there (Chg.there (Chg.there (Chg.there (Chg.here (Chg.id (by rfl)))))))) e12) ty4 rfl rfl rfl V.bool (.inr rfl) (fun w13 h25 => ?_))
      refine nil (sr (gm rfl (op (OpS.nchk h25 .z rfl rfl rfl ?_))))
      refine op (OpS.fbox (o3 := 2) h25 .z PA.z fa225_2 rfl rfl rfl rfl ?_)
      refine op (OpS.loadBi h25 .z PA.a (GetS.ok (GetS.iso _ (GetS.there (GetS.there (GetS.here GetS.id))))) ty49 rfl rfl rfl ?_)
      refine ga rfl (ga rfl (nil ?_))
      have h26 := St.boxJ (r' := (repository_Repository.repW (q1 13))) (x' := { d2 with records := x3 }) (h25.pick .z) (fun _ _ hs_ => (Jn.iso _ (Jn.prod Jn.refl (Jn.prod Jn.same Jn.refl))))
      refine Run.retP rfl (.tmp rfl (.tmp rfl .nil)) ?_
      cases hF
      exact Post.mk' ⟨(q1 13), rfl, rfl, rfl, rfl⟩ (h26.picks (.cons .z (.cons .z .nil))) .nil
     ·
      refine Run.skip (Run.endBlock (Run.slim [(0, v0), (1, v1)] ⟨rfl, rfl, trivial⟩ ?_))
      exact hk1 ({ d1 with records := s2.records }) _ _ ⟨rfl, (h10.facts (.atm .z .nil)).picks (.cons .z (.cons .z .nil))⟩ hF
 ·
  refine RunL.caseb hF (fun e13 hF => ?_) (fun e13 hF => ?_)
  ·
   refine gp rfl (gp rfl (gp rfl (gk rfl (ga rfl (nil (Run.slim [(0, v0), (1, v1), (6, .bool true)] ⟨rfl, rfl, rfl, trivial⟩ ?_))))))
   exact hj1 (true) _ _ ⟨rfl, (h.facts (.atm .z .nil)).picks (.cons .z (.cons .z .nil))⟩ hF
  ·
   refine gm rfl (op (OpS.len h Tryz.underlying24 rfl rfl rfl (V.at .z) ?_))
   refine gb rfl (gk rfl (ga rfl ?_))
   obtain ⟨x4, e14, hF⟩ := letP_use hF
   refine RunL.nameb e14 ?_
   refine nil (Run.slim [(0, v0), (1, v1), (6, .bool x4)] ⟨rfl, rfl, rfl, trivial⟩ ?_)
   exact hj1 (x4) _ _ ⟨rfl, (h.facts (.atm .z .nil)).picks (.cons .z (.cons .z .nil))⟩ hF
theorem repository_Repository_Reserve_ok {fuel : Nat} {a0 : repository_Repository} {y : Int × repository_Repository} (hF : repository_Repository_Reserve fuel a0 = some y) {w : World} {v0 v0_0 : Value} :
  Spec Tryz.prog 44 [v0].toArray w [] [(false, .box 225 (repository_Repository.repW v0_0) v0 a0), (false, .slice 231 repository_record.rep v0_0 a0.records)] (fun v Γr Ωr Ωo => ∃ w0_0 : Value, v = .int .u16 y.1 ∧ Γr = [] ∧ Ωr = [] ∧ Ωo = [(false, .box 225 (repository_Repository.repW w0_0) v0 y.2), (false, (.slice 231 repository_record.rep w0_0 y.2.records))]) := by
 refine Spec.of (L := [(0, v0)]) Tryz.func44 rfl ⟨rfl, trivial⟩ rfl (fun e h => ?_)
 unfold repository_Repository_Reserve at hF
 refine sr (ga rfl (nil (Run.seq (sr (gm rfl (op (OpS.nchk h .z rfl rfl rfl ?_)))))))
 refine op (OpS.fbox (o3 := 3) h .z PA.z fa225_3 rfl rfl rfl rfl ?_)
 refine op (OpS.loadBi h .z PA.a (GetS.ok (GetS.iso _ (GetS.there (GetS.there (GetS.there (GetS.here GetS.id)))))) ty49 rfl rfl rfl ?_)
 refine gb rfl (nil ?_)
 refine Run.join (σ := repository_Repository) (fun s_ L_ w_ => L_ = [(0, v0)] ∧ St e w_ [] [(false, .box 225 (repository_Repository.repW v0_0) v0 s_), (false, .slice 231 repository_record.rep v0_0 s_.records)]) hF (fun s1 _ w1 hI hF => ?_) (fun j1 hj1 hF => ?_)
 ·
  obtain ⟨rfl, h1⟩ := hI
  refine sr (gm rfl (op (OpS.nchk h1 .z rfl rfl rfl ?_)))
  refine op (OpS.fbox (o3 := 3) h1 .z PA.z fa225_3 rfl rfl rfl rfl ?_)
  refine op (OpS.loadBi h1 .z PA.a (GetS.ok (GetS.iso _ (GetS.there (GetS.there (GetS.there (GetS.here GetS.id)))))) ty49 rfl rfl rfl ?_)
  refine gb rfl (op (OpS.nchk h1 .z rfl rfl rfl ?_))
  refine op (OpS.fbox (o3 := 3) h1 .z PA.z fa225_3 rfl rfl rfl rfl ?_)
  obtain ⟨d1, e1, hF⟩ := letP_use hF
  refine op (OpS.storeC (f' := true) (fr := (Rep.int .u16)) (r' := (repository_Repository.repW v0_0)) (x' := d1) h1 .z PA.a (Chg.of (x' := { s1 with number := (IntKind.u16.wrap (s1.number + 1)) }) (Chg.iso _ (Chg.there (Chg.there (Chg.there (Chg.here (Chg.id (by rfl))))))) e1) ty49 rfl rfl rfl V.int (.inr rfl) (fun w2 h2 => ?_))
  refine nil (sr (gm rfl (op (OpS.nchk h2 .z rfl rfl rfl ?_))))
  refine op (OpS.fbox (o3 := 4) h2 .z PA.z fa225_4 rfl rfl rfl rfl ?_)
  obtain ⟨d2, e2, hF⟩ := letP_use hF
  refine op (OpS.storeC (f' := true) (fr := Rep.bool) (r' := (repository_Repository.repW v0_0)) (x' := d2) h2 .z PA.a (Chg.of (x' := { d1 with held := true }) (Chg.iso _ (Chg.there (Chg.there (Chg.there (Chg.there (Chg.here (Chg.id (by rfl)))))))) e2) ty4 rfl rfl rfl V.bool (.inr rfl) (fun w3 h3 => ?_))
  refine nil (sr (gm rfl (op (OpS.nchk h3 .z rfl rfl rfl ?_))))
  refine op (OpS.fbox (o3 := 3) h3 .z PA.z fa225_3 rfl rfl rfl rfl ?_)
  refine op (OpS.loadBi h3 .z PA.a (GetS.ok (GetS.iso _ (GetS.there (GetS.there (GetS.there (GetS.here GetS.id)))))) ty49 rfl rfl rfl ?_)
  refine ga rfl (nil ?_)
  have h4 := St.boxJ (r' := (repository_Repository.repW v0_0)) (x' := { d2 with records := s1.records }) (h3.pick .z) (fun _ _ hs_ => (Jn.iso _ (Jn.prod Jn.refl (Jn.prod Jn.same Jn.refl))))
  refine Run.retP rfl (.tmp rfl .nil) ?_
  cases hF
  exact Post.mk' ⟨v0_0, rfl, rfl, rfl, rfl⟩ (h4.picks (.cons .z (.cons .z .nil))) .nil
 ·
  refine Run.ite rfl hF (fun e3 hF => ?_) (fun e3 hF => ?_)
  ·
   refine Run.reg (gm rfl (op (OpS.nchk h .z rfl rfl rfl ?_)))
   refine op (OpS.fbox (o3 := 3) h .z PA.z fa225_3 rfl rfl rfl rfl ?_)
   obtain ⟨d3, e4, hF⟩ := letP_use hF
   refine op (OpS.storeC (f' := true) (fr := (Rep.int .u16)) (r' := (repository_Repository.repW v0_0)) (x' := d3) h .z PA.a (Chg.of (x' := { a0 with number := 0 }) (Chg.iso _ (Chg.there (Chg.there (Chg.there (Chg.here (Chg.id (by rfl))))))) e4) ty49 rfl rfl rfl V.int (.inr rfl) (fun w4 h5 => ?_))
   refine nil ?_
   have h6 := St.boxJ (r' := (repository_Repository.repW v0_0)) (x' := { d3 with records := a0.records }) (h5.pick .z) (fun _ _ hs_ => (Jn.iso _ (Jn.prod Jn.refl (Jn.prod Jn.same Jn.refl))))
   refine Run.slim [(0, v0)] ⟨rfl, trivial⟩ ?_
   exact hj1 ({ d3 with records := a0.records }) _ _ ⟨rfl, (h6.facts .nil).picks (.cons .z (.cons .z .nil))⟩ hF
  ·
   refine Run.skip (Run.slim [(0, v0)] ⟨rfl, trivial⟩ ?_)
   exact hj1 (a0) _ _ ⟨rfl, (h.facts .nil).picks (.cons .z (.cons .z .nil))⟩ hF
theorem repository_Repository_IDs_ok {fuel : Nat} {a0 : repository_Repository} {y : (List Int)} (hF : repository_Repository_IDs fuel a0 = some y) {w : World} {v0 v0_0 : Value} :
  Spec Tryz.prog 45 [v0].toArray w [] [(false, .box 225 (repository_Repository.repW v0_0) v0 a0), (false, .slice 231 repository_record.rep v0_0 a0.records)] (fun v Γr Ωr Ωo => ∃ u0 : Value, v = u0 ∧ Γr = [] ∧ Ωr = [(true, (.slice 49 (Rep.int .u16) u0 y))] ∧ Ωo = [(false, .box 225 (repository_Repository.repW v0_0) v0 a0), (false, (.slice 231 repository_record.rep v0_0 a0.records))]) := by
 refine Spec.of (L := [(0, v0)]) Tryz.func45 rfl ⟨rfl, trivial⟩ rfl (fun e h => ?_)
 unfold repository_Repository_IDs at hF
 refine sr (ga rfl (nil (sr (ga rfl (nil (Run.seq (sr (gm rfl (op (OpS.nchk h .z rfl rfl rfl ?_))))))))))
 refine op (OpS.fbox (o3 := 1) h .z PA.z fa225_1 rfl rfl rfl rfl ?_)
 refine op (OpS.loadR h .z PA.a (GetS.ok (GetS.iso _ (GetS.there (GetS.here GetS.id)))) ty223 rfl rfl rfl rfl rfl ?_)
 refine op (OpS.lenO h (.s .z) Tryz.underlying223 rfl rfl rfl ?_)
 refine gm rfl (nil (Run.block ?_))
 have h1 := St.nil 49 (Rep.int .u16) h
 refine Run.slim [(3, (.slice none 0 0)), (9, v0_0), (10, .int .i64 (a0.records.length : Int)), (11, .int .i64 0)] ⟨rfl, rfl, rfl, rfl, trivial⟩ ?_
 refine Run.loopP (σ := (Int × (List Int))) (fun s_ L_ w_ => ∃ u0_ : Value, L_ = [(3, u0_), (9, v0_0), (10, .int .i64 (a0.records.length : Int)), (11, .int .i64 s_.1)] ∧ St e w_ [] [(false, .box 225 (repository_Repository.repW v0_0) v0 a0), (true, .slice 49 (Rep.int .u16) u0_ s_.2), (false, .slice 231 repository_record.rep v0_0 a0.records)]) hF ⟨(.slice none 0 0), rfl, (h1.facts .nil).picks (.cons (.s .z) (.cons .z (.cons .z .nil)))⟩ (fun k1 hk1 s1 _ w1 hI hF => ?_)
 obtain ⟨u1, rfl, h2⟩ := hI
 refine sr (gb rfl (nil (Run.seq ?_)))
 refine Run.ite rfl hF (fun e1 hF => ?_) (fun e1 hF => ?_)
 ·
  refine Run.skip (Run.seq (Run.block (sr ?_)))
  obtain ⟨x1, e2, hF⟩ := bindP_use hF
  refine op (OpS.iown h2 (.s (.s .z)) Tryz.underlying223 ty231 rfl rfl rfl rfl e2 ?_)
  refine op (OpS.loadO h2 (.s (.s .z)) (idx_ne e2) PA.a (Get.arr e2) ty231 rfl rfl rfl (fun u2 h3 => ?_))
  refine op (OpS.alloc h3 ti231 repository_record.zr rfl rfl (fun u3 w2 h4 => ?_))
  have h5 := (h4.pick .z).weak
  refine op (OpS.storeB (f' := false) h5 .z PA.z Put.id ty231 rfl rfl rfl (V.at .z) (.inr rfl) (fun w3 h6 => ?_))
  refine nil (Run.reg (gm rfl (op (OpS.fbox (o3 := 0) h6 .z PA.z fa231_0 rfl rfl rfl rfl ?_))))
  refine op (OpS.loadBi h6 .z PA.a (Get.fld repository_record.f0) ty49 rfl rfl rfl ?_)
  refine op (OpS.lit (r := (Rep.int .u16)) (f := true) h6 Tryz.underlying60 ti49 rfl rfl rfl rfl rfl (.cons rfl V.int .nil) rfl rfl (fun u4 w4 h7 => ?_))
  obtain ⟨x2, e3, hF⟩ := bindP_use hF
  refine op (OpS.app (f' := true) h7 (.s (.s .z)) Tryz.underlying60 ti49 rfl rfl rfl rfl rfl rfl rfl (V.at .z) (.inr Pure.int) e3 (fun u5 w5 h8 => ?_))
  refine ga rfl (nil (Run.endBlock (Run.reg (gb rfl (gm rfl (nil (Run.slim [(3, u5), (9, v0_0), (10, .int .i64 (a0.records.length : Int)), (11, .int .i64 (IntKind.i64.wrap (s1.1 + 1)))] ⟨rfl, rfl, rfl, rfl, trivial⟩ ?_)))))))
  exact hk1 ((IntKind.i64.wrap (s1.1 + 1)), x2) _ _ ⟨u5, rfl, (h8.facts .nil).picks (.cons (.s (.s .z)) (.cons .z (.cons (.s .z) .nil)))⟩ hF
 ·
  refine Run.exit rfl ?_
  refine sr (gm rfl (ga rfl (nil (Run.retP rfl (.tmp rfl .nil) ?_))))
  cases hF
  exact Post.mk' ⟨u1, rfl, rfl, rfl, rfl⟩ (h2.picks (.cons (.s .z) (.cons .z (.cons .z .nil)))) .nil
theorem repository_Repository_look_ok {fuel : Nat} {a0 : repository_Repository} {a1 : Int} {y : (List Int) × Int × Int} (hF : repository_Repository_look fuel a0 a1 = some y) {w : World} {v0 v0_0 : Value} :
  Spec Tryz.prog 114 [v0, .int .u16 a1].toArray w [] [(false, .box 225 (repository_Repository.repW v0_0) v0 a0), (false, .slice 231 repository_record.rep v0_0 a0.records)] (fun v Γr Ωr Ωo => ∃ u0 : Value, v = .tuple #[u0, .int .u16 y.2.1, .int .i64 y.2.2] ∧ Γr = [(false, .val (Rep.slice (Rep.int .u8)) u0 y.1)] ∧ Ωr = [] ∧ Ωo = [(false, .box 225 (repository_Repository.repW v0_0) v0 a0), (false, (.slice 231 repository_record.rep v0_0 a0.records))]) := by
 refine Spec.of (L := [(0, v0), (1, .int .u16 a1)]) Tryz.func114 rfl ⟨rfl, rfl, trivial⟩ rfl (fun e h => ?_)
 unfold repository_Repository_look at hF
 refine sr (ga rfl (ga rfl (ga rfl (nil (sr (gm rfl (gm rfl ?_)))))))
 obtain ⟨y1, e1, hF⟩ := bindP_use hF
 have h1 := h.front (.cons .z (.cons .z .nil))
 refine op (OpS.callO h1 Tryz.func112 rfl rfl rfl rfl (vs := [v0, .int .u16 a1]) rfl (repository_Repository_find_ok e1) rfl .nil ?_)
 rintro _ w1 _ _ _ ⟨rfl, rfl, rfl, rfl⟩ h2
 have h3 := h2
 simp only [ca, na] at h3
 refine ga rfl (nil (Run.seq (sr (gm rfl (gb rfl (nil ?_))))))
 refine Run.join (σ := Int) (fun s_ L_ w_ => L_ = [(0, v0), (5, .int .u16 0), (7, .int .i64 s_)] ∧ St e w_ [] [(false, .box 225 (repository_Repository.repW v0_0) v0 a0), (false, .slice 231 repository_record.rep v0_0 a0.records)]) hF (fun s1 _ w2 hI hF => ?_) (fun j1 hj1 hF => ?_)
 ·
  obtain ⟨rfl, h4⟩ := hI
  refine Run.seq (sr (gm rfl (gb rfl (gm rfl ?_))))
  refine RunL.join (σ := Bool) (fun s_ L_ w_ => L_ = [(0, v0), (5, .int .u16 0), (7, .int .i64 s1), (23, .bool s_)] ∧ St e w_ [] [(false, .box 225 (repository_Repository.repW v0_0) v0 a0), (false, .slice 231 repository_record.rep v0_0 a0.records)]) hF (fun s2 _ w3 hI hF => ?_) (fun j2 hj2 hF => ?_)
  ·
   obtain ⟨rfl, h5⟩ := hI
   refine Run.ite rfl hF (fun e2 hF => ?_) (fun e2 hF => ?_)
   ·
    refine sr (ga rfl (ga rfl (ga rfl (nil (Run.retP rfl (.tmp rfl (.tmp rfl (.tmp rfl .nil))) ?_)))))
    cases hF
    exact Post.mk' ⟨.slice none 0 0, rfl, rfl, rfl, rfl⟩ (h5.picks (.cons .z (.cons .z .nil))) (.val V.nil .nil)
   ·
    refine Run.skip (Run.seq (sr (gm rfl (gb rfl (gm rfl (op (OpS.nchk h5 .z rfl rfl rfl ?_)))))))
    refine op (OpS.fbox (o3 := 1) h5 .z PA.z fa225_1 rfl rfl rfl rfl ?_)
    refine op (OpS.loadR h5 .z PA.a (GetS.ok (GetS.iso _ (GetS.there (GetS.here GetS.id)))) ty223 rfl rfl rfl rfl rfl ?_)
    refine op (OpS.lenO h5 (.s .z) Tryz.underlying223 rfl rfl rfl ?_)
    refine gb rfl (nil ?_)
    refine Run.join (σ := Int) (fun s_ L_ w_ => L_ = [(0, v0), (5, .int .u16 s_), (7, .int .i64 s1)] ∧ St e w_ [] [(false, .box 225 (repository_Repository.repW v0_0) v0 a0), (false, .slice 231 repository_record.rep v0_0 a0.records)]) hF (fun s3 _ w4 hI hF => ?_) (fun j3 hj3 hF => ?_)
    ·
     obtain ⟨rfl, h6⟩ := hI
     refine sr (gm rfl (op (OpS.nchk h6 .z rfl rfl rfl ?_)))
     refine op (OpS.fbox (o3 := 1) h6 .z PA.z fa225_1 rfl rfl rfl rfl ?_)
     refine op (OpS.loadR h6 .z PA.a (GetS.ok (GetS.iso _ (GetS.there (GetS.here GetS.id)))) ty223 rfl rfl rfl rfl rfl ?_)
     refine gm rfl ?_
     obtain ⟨x1, e3, hF⟩ := bindP_use hF
     refine op (OpS.iown h6 (.s .z) Tryz.underlying223 ty231 rfl rfl rfl rfl e3 ?_)
     refine op (OpS.fown h6 (.s .z) (idx_ne e3) PA.a fa231_1 rfl rfl rfl ?_)
     refine op (OpS.loadO h6 (.s .z) (idx_ne e3) PA.a (Get.comp (Get.arr e3) (Get.fld repository_record.f1)) ty24 rfl rfl rfl (fun u1 h7 => ?_))
     refine gm rfl (ga rfl (ga rfl (ga rfl (nil (Run.retP rfl (.tmp rfl (.tmp rfl (.tmp rfl .nil))) ?_)))))
     cases hF
     exact Post.mk' ⟨u1, rfl, rfl, rfl, rfl⟩ (h7.picks (.cons .z (.cons .z .nil))) (.val (V.at .z) .nil)
    ·
     refine Run.ite rfl hF (fun e4 hF => ?_) (fun e4 hF => ?_)
     ·
      refine Run.reg (gm rfl (op (OpS.nchk h5 .z rfl rfl rfl ?_)))
      refine op (OpS.fbox (o3 := 1) h5 .z PA.z fa225_1 rfl rfl rfl rfl ?_)
      refine op (OpS.loadR h5 .z PA.a (GetS.ok (GetS.iso _ (GetS.there (GetS.here GetS.id)))) ty223 rfl rfl rfl rfl rfl ?_)
      refine gm rfl (gb rfl ?_)
      obtain ⟨x2, e5, hF⟩ := bindP_use hF
      refine op (OpS.iown h5 (.s .z) Tryz.underlying223 ty231 rfl rfl rfl rfl e5 ?_)
      refine op (OpS.fown h5 (.s .z) (idx_ne e5) PA.a fa231_0 rfl rfl rfl ?_)
      refine op (OpS.loadOi h5 (.s .z) (idx_ne e5) PA.a (Get.comp (Get.arr e5) (Get.fld repository_record.f0)) ty49 rfl rfl rfl ?_)
      refine ga rfl (nil (Run.slim [(0, v0), (5, .int .u16 x2.id), (7, .int .i64 s1)] ⟨rfl, rfl, rfl, trivial⟩ ?_))
      exact hj3 (x2.id) _ _ ⟨rfl, (h5.facts .nil).picks (.cons .z (.cons .z .nil))⟩ hF
     ·
      refine Run.skip (Run.slim [(0, v0), (5, .int .u16 0), (7, .int .i64 s1)] ⟨rfl, rfl, rfl, trivial⟩ ?_)
      exact hj3 (0) _ _ ⟨rfl, (h5.facts .nil).picks (.cons .z (.cons .z .nil))⟩ hF
  ·
   refine RunL.caseb hF (fun e6 hF => ?_) (fun e6 hF => ?_)
   ·
    refine gp rfl (gp rfl (gp rfl (gp rfl (gp rfl (gp rfl (gp rfl (gk rfl (nil (Run.slim [(0, v0), (5, .int .u16 0), (7, .int .i64 s1), (23, .bool true)] ⟨rfl, rfl, rfl, rfl, trivial⟩ ?_)))))))))
    exact hj2 (true) _ _ ⟨rfl, (h4.facts .nil).picks (.cons .z (.cons .z .nil))⟩ hF
   ·
    refine gm rfl (gm rfl (op (OpS.nchk h4 .z rfl rfl rfl ?_)))
    refine op (OpS.fbox (o3 := 1) h4 .z PA.z fa225_1 rfl rfl rfl rfl ?_)
    refine op (OpS.loadR h4 .z PA.a (GetS.ok (GetS.iso _ (GetS.there (GetS.here GetS.id)))) ty223 rfl rfl rfl rfl rfl ?_)
    refine op (OpS.lenO h4 (.s .z) Tryz.underlying223 rfl rfl rfl ?_)
    refine gb rfl (gk rfl (nil (Run.slim [(0, v0), (5, .int .u16 0), (7, .int .i64 s1), (23, .bool (decide (s1 ≥ (a0.records.length : Int))))] ⟨rfl, rfl, rfl, rfl, trivial⟩ ?_)))
    exact hj2 (decide (s1 ≥ (a0.records.length : Int))) _ _ ⟨rfl, (h4.facts .nil).picks (.cons .z (.cons .z .nil))⟩ hF
 ·
  refine Run.ite rfl hF (fun e7 hF => ?_) (fun e7 hF => ?_)
  ·
   refine Run.reg (ga rfl (nil (Run.slim [(0, v0), (5, .int .u16 0), (7, .int .i64 0)] ⟨rfl, rfl, rfl, trivial⟩ ?_)))
   exact hj1 (0) _ _ ⟨rfl, (h3.facts .nil).picks (.cons .z (.cons .z .nil))⟩ hF
  ·
   refine Run.skip (Run.slim [(0, v0), (5, .int .u16 0), (7, .int .i64 y1)] ⟨rfl, rfl, rfl, trivial⟩ ?_)
   exact hj1 (y1) _ _ ⟨rfl, (h3.facts .nil).picks (.cons .z (.cons .z .nil))⟩ hF
theorem repository_Repository_Get_ok {fuel : Nat} {a0 : repository_Repository} {a1 : Int} {y : (List Int) × Int × Int} (hF : repository_Repository_Get fuel a0 a1 = some y) {w : World} {v0 v0_0 : Value} :
  Spec Tryz.prog 46 [v0, .int .u16 a1].toArray w [] [(false, .box 225 (repository_Repository.repW v0_0) v0 a0), (false, .slice 231 repository_record.rep v0_0 a0.records)] (fun v Γr Ωr Ωo => ∃ u0 : Value, v = .tuple #[u0, .int .u16 y.2.1, .int .i64 y.2.2] ∧ Γr = [] ∧ Ωr = [(true, (.slice 5 (Rep.int .u8) u0 y.1))] ∧ Ωo = [(false, .box 225 (repository_Repository.repW v0_0) v0 a0), (false, (.slice 231 repository_record.rep v0_0 a0.records))]) := by
 refine Spec.of (L := [(0, v0), (1, .int .u16 a1)]) Tryz.func46 rfl ⟨rfl, rfl, trivial⟩ rfl (fun e h => ?_)
 unfold repository_Repository_Get at hF
 refine sr (ga rfl (ga rfl (ga rfl (nil (sr (gm rfl (gm rfl ?_)))))))
 obtain ⟨y1, e1, hF⟩ := bindP_use hF
 have h1 := h.front (.cons .z (.cons .z .nil))
 refine op (OpS.callO h1 Tryz.func114 rfl rfl rfl rfl (vs := [v0, .int .u16 a1]) rfl (repository_Repository_look_ok e1) rfl .nil ?_)
 rintro _ w1 _ _ _ ⟨u1, rfl, rfl, rfl, rfl⟩ h2
 have h3 := h2
 simp only [ca, na] at h3
 refine gm rfl (op (OpS.ext rfl rfl rfl rfl ?_))
 refine op (OpS.ext rfl rfl rfl rfl ?_)
 refine op (OpS.ext rfl rfl rfl rfl ?_)
 refine ga rfl (ga rfl (ga rfl (nil (sr (gm rfl ?_)))))
 obtain ⟨y2, e2, hF⟩ := bindP_use hF
 refine op (OpS.callP h3 Tryz.func113 rfl rfl rfl rfl (vs := [u1]) rfl (slices_Clone_byte_byte_ok e2) (.cons (f := false) (V.at .z) .nil) ?_)
 rintro u2 w2 _ _ _ ⟨_, rfl, rfl, rfl, rfl⟩ h4
 have h5 := h4 rfl rfl
 simp only [ca, na] at h5
 refine gm rfl (gm rfl (ga rfl (ga rfl (ga rfl (nil (Run.retP rfl (.tmp rfl (.tmp rfl (.tmp rfl .nil))) ?_))))))
 cases hF
 exact Post.mk' ⟨u2, rfl, rfl, rfl, rfl⟩ (h5.picks (.cons .z (.cons .z (.cons .z .nil)))) .nil
theorem repository_Repository_holds_ok {fuel : Nat} {a0 : repository_Repository} {a1 : Int} {y : Bool} (hF : repository_Repository_holds fuel a0 a1 = some y) {w : World} {v0 v0_0 : Value} :
  Spec Tryz.prog 115 [v0, .int .u16 a1].toArray w [] [(false, .box 225 (repository_Repository.repW v0_0) v0 a0), (false, .slice 231 repository_record.rep v0_0 a0.records)] (fun v Γr Ωr Ωo => v = .bool y ∧ Γr = [] ∧ Ωr = [] ∧ Ωo = [(false, .box 225 (repository_Repository.repW v0_0) v0 a0), (false, (.slice 231 repository_record.rep v0_0 a0.records))]) := by
 refine Spec.of (L := [(0, v0), (1, .int .u16 a1)]) Tryz.func115 rfl ⟨rfl, rfl, trivial⟩ rfl (fun e h => ?_)
 unfold repository_Repository_holds at hF
 refine sr (ga rfl (nil (sr (gm rfl (op (OpS.nchk h .z rfl rfl rfl ?_))))))
 refine op (OpS.fbox (o3 := 4) h .z PA.z fa225_4 rfl rfl rfl rfl ?_)
 refine op (OpS.loadBb h .z PA.a (GetS.ok (GetS.iso _ (GetS.there (GetS.there (GetS.there (GetS.there (GetS.here GetS.id))))))) ty4 rfl rfl rfl ?_)
 refine gm rfl ?_
 refine RunL.caseb hF (fun e1 hF => ?_) (fun e1 hF => ?_)
 ·
  refine gm rfl (gm rfl (op (OpS.nchk h .z rfl rfl rfl ?_)))
  refine op (OpS.fbox (o3 := 3) h .z PA.z fa225_3 rfl rfl rfl rfl ?_)
  refine op (OpS.loadBi h .z PA.a (GetS.ok (GetS.iso _ (GetS.there (GetS.there (GetS.there (GetS.here GetS.id)))))) ty49 rfl rfl rfl ?_)
  refine gb rfl (gk rfl (ga rfl ?_))
  obtain ⟨x1, e2, hF⟩ := letP_use hF
  refine RunL.nameb e2 ?_
  refine nil (Run.retP rfl (.tmp rfl .nil) ?_)
  cases hF
  exact Post.mk' ⟨rfl, rfl, rfl, rfl⟩ (h.picks (.cons .z (.cons .z .nil))) .nil
 ·
  refine gp rfl (gp rfl (gp rfl (gp rfl (gp rfl (gp rfl (gk rfl (ga rfl (nil (Run.retP rfl (.tmp rfl .nil) ?_)))))))))
  cases hF
  exact Post.mk' ⟨rfl, rfl, rfl, rfl⟩ (h.picks (.cons .z (.cons .z .nil))) .nil
theorem repository_Repository_Read_ok {fuel : Nat} {a0 : repository_Repository} {a1 : Int} {a2 : Int} {a3 : Int} {a4 : Int} {y : (List Int) × Int × Int} (hF : repository_Repository_Read fuel a0 a1 a2 a3 a4 = some y) {w : World} {v0 v0_0 : Value} :
  Spec Tryz.prog 47 [v0, .int .u16 a1, .int .u16 a2, .int .i64 a3, .int .i64 a4].toArray w [] [(false, .box 225 (repository_Repository.repW v0_0) v0 a0), (false, .slice 231 repository_record.rep v0_0 a0.records)] (fun v Γr Ωr Ωo => ∃ u0 : Value, v = .tuple #[u0, .int .u16 y.2.1, .int .i64 y.2.2] ∧ Γr = [] ∧ Ωr = [(true, (.slice 5 (Rep.int .u8) u0 y.1))] ∧ Ωo = [(false, .box 225 (repository_Repository.repW v0_0) v0 a0), (false, (.slice 231 repository_record.rep v0_0 a0.records))]) := by
 refine Spec.of (L := [(0, v0), (1, .int .u16 a1), (2, .int .u16 a2), (3, .int .i64 a3), (4, .int .i64 a4)]) Tryz.func47 rfl ⟨rfl, rfl, rfl, rfl, rfl, trivial⟩ rfl (fun e h => ?_)
 unfold repository_Repository_Read at hF
 refine sr (ga rfl (ga rfl (ga rfl (nil (Run.seq (sr (gm rfl (gb rfl (gm rfl ?_)))))))))
 refine RunL.join (σ := Bool) (fun s_ L_ w_ => L_ = [(0, v0), (2, .int .u16 a2), (3, .int .i64 a3), (4, .int .i64 a4), (20, .bool s_)] ∧ St e w_ [] [(false, .box 225 (repository_Repository.repW v0_0) v0 a0), (false, .slice 231 repository_record.rep v0_0 a0.records)]) hF (fun s1 _ w1 hI hF => ?_) (fun j1 hj1 hF => ?_)
 ·
  obtain ⟨rfl, h1⟩ := hI
  refine Run.ite rfl hF (fun e1 hF => ?_) (fun e1 hF => ?_)
  ·
   refine sr (ga rfl (ga rfl (ga rfl (nil ?_))))
   have h2 := St.nil 5 (Rep.int .u8) h1
   refine Run.retP rfl (.tmp rfl (.tmp rfl (.tmp rfl .nil))) ?_
   cases hF
   exact Post.mk' ⟨(.slice none 0 0), rfl, rfl, rfl, rfl⟩ (h2.picks (.cons .z (.cons .z (.cons .z .nil)))) .nil
  ·
   refine Run.skip (sr (gm rfl (gm rfl ?_)))
   obtain ⟨y1, e2, hF⟩ := bindP_use hF
   have h3 := h1.front (.cons .z (.cons .z .nil))
   refine op (OpS.callO h3 Tryz.func114 rfl rfl rfl rfl (vs := [v0, .int .u16 a2]) rfl (repository_Repository_look_ok e2) rfl .nil ?_)
   rintro _ w2 _ _ _ ⟨u1, rfl, rfl, rfl, rfl⟩ h4
   have h5 := h4
   simp only [ca, na] at h5
   refine gm rfl (op (OpS.ext rfl rfl rfl rfl ?_))
   refine op (OpS.ext rfl rfl rfl rfl ?_)
   refine op (OpS.ext rfl rfl rfl rfl ?_)
   refine ga rfl (ga rfl (ga rfl (nil (Run.seq (Run.block (sr (gm rfl (gb rfl (ga rfl ?_)))))))))
   obtain ⟨x1, e3, hF⟩ := letP_use hF
   refine RunL.nameb e3 ?_
   refine nil ?_
   refine Run.ite rfl hF (fun e4 hF => ?_) (fun e4 hF => ?_)
   ·
    refine sr (gm rfl (ga rfl (ga rfl (ga rfl (nil ?_)))))
    have h6 := St.nil 5 (Rep.int .u8) h5
    refine Run.retP rfl (.tmp rfl (.tmp rfl (.tmp rfl .nil))) ?_
    cases hF
    exact Post.mk' ⟨(.slice none 0 0), rfl, rfl, rfl, rfl⟩ (h6.picks (.cons .z (.cons .z (.cons .z .nil)))) .nil
   ·
    refine sr (gm rfl (gb rfl (gm rfl ?_)))
    refine RunL.join (σ := Bool) (fun s_ L_ w_ => L_ = [(3, .int .i64 a3), (4, .int .i64 a4), (10, u1), (11, .int .u16 y1.2.1), (32, .bool s_)] ∧ St e w_ [(false, .val (Rep.slice (Rep.int .u8)) u1 y1.1)] [(false, .box 225 (repository_Repository.repW v0_0) v0 a0), (false, .slice 231 repository_record.rep v0_0 a0.records)]) hF (fun s2 _ w3 hI hF => ?_) (fun j2 hj2 hF => ?_)
    ·
     obtain ⟨rfl, h7⟩ := hI
     refine Run.ite rfl hF (fun e5 hF => ?_) (fun e5 hF => ?_)
     ·
      refine sr (ga rfl (ga rfl (ga rfl (nil ?_))))
      have h8 := St.nil 5 (Rep.int .u8) h7
      refine Run.retP rfl (.tmp rfl (.tmp rfl (.tmp rfl .nil))) ?_
      cases hF
      exact Post.mk' ⟨(.slice none 0 0), rfl, rfl, rfl, rfl⟩ (h8.picks (.cons .z (.cons .z (.cons .z .nil)))) .nil
     ·
      refine Run.skip (Run.endBlock (sr (gm rfl (gm rfl (gm rfl (gm rfl (gb rfl ?_)))))))
      obtain ⟨x2, e6, hF⟩ := bindP_use hF
      refine op (OpS.sub h7 Tryz.underlying24 ty5 rfl rfl rfl rfl rfl (V.at .z) e6 (fun u2 h9 => ?_))
      obtain ⟨y2, e7, hF⟩ := bindP_use hF
      refine op (OpS.callP h9 Tryz.func113 rfl rfl rfl rfl (vs := [u2]) rfl (slices_Clone_byte_byte_ok e7) (.cons (f := false) (V.at .z) .nil) ?_)
      rintro u3 w4 _ _ _ ⟨_, rfl, rfl, rfl, rfl⟩ h10
      have h11 := h10 rfl rfl
      simp only [ca, na] at h11
      refine gm rfl (ga rfl (ga rfl (ga rfl (nil (Run.retP rfl (.tmp rfl (.tmp rfl (.tmp rfl .nil))) ?_)))))
      cases hF
      exact Post.mk' ⟨u3, rfl, rfl, rfl, rfl⟩ (h11.picks (.cons .z (.cons .z (.cons .z .nil)))) .nil
    ·
     refine RunL.caseb hF (fun e8 hF => ?_) (fun e8 hF => ?_)
     ·
      refine gp rfl (gp rfl (gk rfl (gm rfl (gp rfl (gp rfl (gp rfl (gp rfl (gk rfl (gm rfl (gp rfl (gp rfl (gp rfl (gp rfl (gp rfl (gp rfl (gk rfl ?_))))))))))))))))
      refine ga rfl (nil (Run.slim [(32, .bool true), (11, .int .u16 y1.2.1), (10, u1), (3, .int .i64 a3), (4, .int .i64 a4)] ⟨rfl, rfl, rfl, rfl, rfl, trivial⟩ ?_))
      refine Run.slim [(3, .int .i64 a3), (4, .int .i64 a4), (10, u1), (11, .int .u16 y1.2.1), (32, .bool true)] ⟨rfl, rfl, rfl, rfl, rfl, trivial⟩ ?_
      exact hj2 (true) _ _ ⟨rfl, (h5.facts (.atm .z .nil)).picks (.cons .z (.cons .z .nil))⟩ hF
     ·
      refine gm rfl (gb rfl (gk rfl (gm rfl ?_)))
      refine RunL.caseb hF (fun e9 hF => ?_) (fun e9 hF => ?_)
      ·
       refine gp rfl (gp rfl (gp rfl (gp rfl (gk rfl (gm rfl (gp rfl (gp rfl (gp rfl (gp rfl (gp rfl (gp rfl (gk rfl (ga rfl (nil (Run.slim [(32, .bool true), (11, .int .u16 y1.2.1), (10, u1), (3, .int .i64 a3), (4, .int .i64 a4)] ⟨rfl, rfl, rfl, rfl, rfl, trivial⟩ ?_)))))))))))))))
       refine Run.slim [(3, .int .i64 a3), (4, .int .i64 a4), (10, u1), (11, .int .u16 y1.2.1), (32, .bool true)] ⟨rfl, rfl, rfl, rfl, rfl, trivial⟩ ?_
       exact hj2 (true) _ _ ⟨rfl, (h5.facts (.atm .z .nil)).picks (.cons .z (.cons .z .nil))⟩ hF
      ·
       refine gm rfl (gm rfl (op (OpS.len h5 Tryz.underlying24 rfl rfl rfl (V.at .z) ?_)))
       refine gb rfl (gk rfl (gm rfl ?_))
       refine RunL.caseb hF (fun e10 hF => ?_) (fun e10 hF => ?_)
       ·
        refine gp rfl (gp rfl (gp rfl (gp rfl (gp rfl (gp rfl (gk rfl (ga rfl (nil (Run.slim [(32, .bool true), (11, .int .u16 y1.2.1), (10, u1), (3, .int .i64 a3), (4, .int .i64 a4)] ⟨rfl, rfl, rfl, rfl, rfl, trivial⟩ ?_)))))))))
        refine Run.slim [(3, .int .i64 a3), (4, .int .i64 a4), (10, u1), (11, .int .u16 y1.2.1), (32, .bool true)] ⟨rfl, rfl, rfl, rfl, rfl, trivial⟩ ?_
        exact hj2 (true) _ _ ⟨rfl, (h5.facts (.atm .z .nil)).picks (.cons .z (.cons .z .nil))⟩ hF
       ·
        refine gm rfl (gm rfl (op (OpS.len h5 Tryz.underlying24 rfl rfl rfl (V.at .z) ?_)))
        refine gm rfl (gb rfl (gb rfl (gk rfl (ga rfl ?_))))
        obtain ⟨x3, e11, hF⟩ := letP_use hF
        refine RunL.nameb e11 ?_
        refine nil (Run.slim [(32, .bool x3), (11, .int .u16 y1.2.1), (10, u1), (3, .int .i64 a3), (4, .int .i64 a4)] ⟨rfl, rfl, rfl, rfl, rfl, trivial⟩ ?_)
        refine Run.slim [(3, .int .i64 a3), (4, .int .i64 a4), (10, u1), (11, .int .u16 y1.2.1), (32, .bool x3)] ⟨rfl, rfl, rfl, rfl, rfl, trivial⟩ ?_
        exact hj2 (x3) _ _ ⟨rfl, (h5.facts (.atm .z .nil)).picks (.cons .z (.cons .z .nil))⟩ hF
 ·
  refine RunL.caseb hF (fun e12 hF => ?_) (fun e12 hF => ?_)
  ·
   refine gm rfl (gm rfl ?_)
   obtain ⟨y3, e13, hF⟩ := bindP_use hF
   have h12 := h.front (.cons .z (.cons .z .nil))
   refine op (OpS.callO h12 Tryz.func115 rfl rfl rfl rfl (vs := [v0, .int .u16 a1]) rfl (repository_Repository_holds_ok e13) rfl .nil ?_)
   rintro _ w5 _ _ _ ⟨rfl, rfl, rfl, rfl⟩ h13
   have h14 := h13
   simp only [ca, na] at h14
   refine op (OpS.not rfl rfl rfl ?_)
   refine gk rfl (nil (Run.slim [(0, v0), (2, .int .u16 a2), (3, .int .i64 a3), (4, .int .i64 a4), (20, .bool (!y3))] ⟨rfl, rfl, rfl, rfl, rfl, trivial⟩ ?_))
   exact hj1 (!y3) _ _ ⟨rfl, (h14.facts .nil).picks (.cons .z (.cons .z .nil))⟩ hF
  ·
   refine gp rfl (gp rfl (gp rfl (gp rfl (gk rfl (nil (Run.slim [(0, v0), (2, .int .u16 a2), (3, .int .i64 a3), (4, .int .i64 a4), (20, .bool false)] ⟨rfl, rfl, rfl, rfl, rfl, trivial⟩ ?_))))))
   exact hj1 (false) _ _ ⟨rfl, (h.facts .nil).picks (.cons .z (.cons .z .nil))⟩ hF
theorem checksum_Open8_ok {fuel : Nat} {a0 : List Int} {y : (List Int) × Int} (hF : checksum_Open8 fuel a0 = some y) {w : World} {v0 : Value} :
  Spec Tryz.prog 116 [v0].toArray w [(false, .val (Rep.slice (Rep.int .u8)) v0 a0)] [] (fun v Γr Ωr Ωo => ∃ u0 : Value, v = .tuple #[u0, .int .i64 y.2] ∧ Γr = [] ∧ Ωr = [(true, (.slice 5 (Rep.int .u8) u0 y.1))] ∧ Ωo = []) := by
 refine Spec.of (L := [(0, v0)]) Tryz.func116 rfl ⟨rfl, trivial⟩ rfl (fun e h => ?_)
 unfold checksum_Open8 at hF
 refine sr (ga rfl (ga rfl (nil (Run.seq (Run.block (sr (gm rfl (op (OpS.len h Tryz.underlying24 rfl rfl rfl (V.at .z) ?_)))))))))
 refine gb rfl (ga rfl ?_)
 obtain ⟨x1, e1, hF⟩ := letP_use hF
 refine RunL.nameb e1 ?_
 refine nil ?_
 refine Run.ite rfl hF (fun e2 hF => ?_) (fun e2 hF => ?_)
 ·
  refine sr (ga rfl (ga rfl (nil ?_)))
  have h1 := St.nil 5 (Rep.int .u8) h
  refine Run.retP rfl (.tmp rfl (.tmp rfl .nil)) ?_
  cases hF
  exact Post.mk' ⟨(.slice none 0 0), rfl, rfl, rfl, rfl⟩ (h1.picks (.cons .z .nil)) .nil
 ·
  refine sr (gm rfl ?_)
  obtain ⟨y1, e3, hF⟩ := bindP_use hF
  refine op (OpS.callP h Tryz.func184 rfl rfl rfl rfl (vs := [v0]) rfl (checksum_Sum8_ok e3) (.cons (f := false) (V.at .z) .nil) ?_)
  rintro _ w1 _ _ _ ⟨rfl, rfl, rfl, rfl⟩ h2
  have h3 := h2 rfl rfl
  simp only [ca, na] at h3
  refine gb rfl (ga rfl ?_)
  obtain ⟨x2, e4, hF⟩ := letP_use hF
  refine RunL.nameb e4 ?_
  refine nil ?_
  refine Run.ite rfl hF (fun e5 hF => ?_) (fun e5 hF => ?_)
  ·
   refine sr (ga rfl (ga rfl (nil ?_)))
   have h4 := St.nil 5 (Rep.int .u8) h3
   refine Run.retP rfl (.tmp rfl (.tmp rfl .nil)) ?_
   cases hF
   exact Post.mk' ⟨(.slice none 0 0), rfl, rfl, rfl, rfl⟩ (h4.picks (.cons .z .nil)) .nil
  ·
   refine Run.skip (Run.endBlock (sr (gm rfl (gm rfl (op (OpS.len h3 Tryz.underlying24 rfl rfl rfl (V.at .z) ?_))))))
   refine gb rfl ?_
   obtain ⟨x3, e6, hF⟩ := bindP_use hF
   refine op (OpS.sub h3 Tryz.underlying24 ty5 rfl rfl rfl rfl rfl (V.at .z) e6 (fun u1 h5 => ?_))
   obtain ⟨y2, e7, hF⟩ := bindP_use hF
   refine op (OpS.callP h5 Tryz.func113 rfl rfl rfl rfl (vs := [u1]) rfl (slices_Clone_byte_byte_ok e7) (.cons (f := false) (V.at .z) .nil) ?_)
   rintro u2 w2 _ _ _ ⟨_, rfl, rfl, rfl, rfl⟩ h6
   have h7 := h6 rfl rfl
   simp only [ca, na] at h7
   refine ga rfl (ga rfl (nil (Run.retP rfl (.tmp rfl (.tmp rfl .nil)) ?_)))
   cases hF
   exact Post.mk' ⟨u2, rfl, rfl, rfl, rfl⟩ (h7.picks (.cons .z .nil)) .nil
theorem convert_length_ok {fuel : Nat} {a0 : List Int} {y : Int × Int} (hF : convert_length fuel a0 = some y) {w : World} {v0 : Value} :
  Spec Tryz.prog 236 [v0].toArray w [(false, .val (Rep.slice (Rep.int .u8)) v0 a0)] [] (fun v Γr Ωr Ωo => v = .tuple #[.int .i64 y.1, .int .i64 y.2] ∧ Γr = [] ∧ Ωr = [] ∧ Ωo = []) := by
 refine Spec.of (L := [(0, v0)]) Tryz.func236 rfl ⟨rfl, trivial⟩ rfl (fun e h => ?_)
 unfold convert_length at hF
 refine sr (ga rfl (ga rfl (nil (Run.seq (Run.block (sr (gm rfl (op (OpS.len h Tryz.underlying24 rfl rfl rfl (V.at .z) ?_)))))))))
 refine gb rfl (ga rfl ?_)
 obtain ⟨x1, e1, hF⟩ := letP_use hF
 refine RunL.nameb e1 ?_
 refine nil ?_
 refine Run.ite rfl hF (fun e2 hF => ?_) (fun e2 hF => ?_)
 ·
  refine sr (ga rfl (ga rfl (nil (Run.retP rfl (.tmp rfl (.tmp rfl .nil)) ?_))))
  cases hF
  exact Post.mk' ⟨rfl, rfl, rfl, rfl⟩ (h.picks .nil) .nil
 ·
  refine sr (gm rfl ?_)
  obtain ⟨x2, e3, hF⟩ := bindP_use hF
  refine op (OpS.iptr h Tryz.underlying24 ty5 rfl rfl rfl rfl (V.at .z) e3 (fun u1 h1 => ?_))
  refine op (OpS.loadi h1 ty5 rfl rfl rfl .z ?_)
  refine gb rfl (gb rfl (gm rfl ?_))
  refine RunL.join (σ := Bool) (fun s_ L_ w_ => L_ = [(0, v0), (8, .bool s_)] ∧ St e w_ [(false, .val (Rep.slice (Rep.int .u8)) v0 a0)] []) hF (fun s1 _ w1 hI hF => ?_) (fun j1 hj1 hF => ?_)
  ·
   obtain ⟨rfl, h2⟩ := hI
   refine Run.ite rfl hF (fun e4 hF => ?_) (fun e4 hF => ?_)
   ·
    refine sr (ga rfl (ga rfl (nil (Run.retP rfl (.tmp rfl (.tmp rfl .nil)) ?_))))
    cases hF
    exact Post.mk' ⟨rfl, rfl, rfl, rfl⟩ (h2.picks .nil) .nil
   ·
    refine sr (gm rfl ?_)
    obtain ⟨x3, e5, hF⟩ := bindP_use hF
    refine op (OpS.iptr h2 Tryz.underlying24 ty5 rfl rfl rfl rfl (V.at .z) e5 (fun u2 h3 => ?_))
    refine op (OpS.loadi h3 ty5 rfl rfl rfl .z ?_)
    refine gb rfl (gb rfl (ga rfl ?_))
    obtain ⟨x4, e6, hF⟩ := letP_use hF
    refine RunL.nameb e6 ?_
    refine nil ?_
    refine Run.ite rfl hF (fun e7 hF => ?_) (fun e7 hF => ?_)
    ·
     refine sr (ga rfl (ga rfl (nil (Run.retP rfl (.tmp rfl (.tmp rfl .nil)) ?_))))
     cases hF
     exact Post.mk' ⟨rfl, rfl, rfl, rfl⟩ (h3.picks .nil) .nil
    ·
     refine sr (gm rfl (op (OpS.len h3 Tryz.underlying24 rfl rfl rfl (V.at (.s .z)) ?_)))
     refine gb rfl (ga rfl ?_)
     obtain ⟨x5, e8, hF⟩ := letP_use hF
     refine RunL.nameb e8 ?_
     refine nil ?_
     refine Run.ite rfl hF (fun e9 hF => ?_) (fun e9 hF => ?_)
     ·
      refine sr (ga rfl (ga rfl (nil (Run.retP rfl (.tmp rfl (.tmp rfl .nil)) ?_))))
      cases hF
      exact Post.mk' ⟨rfl, rfl, rfl, rfl⟩ (h3.picks .nil) .nil
     ·
      refine sr (gm rfl ?_)
      obtain ⟨x6, e10, hF⟩ := bindP_use hF
      refine op (OpS.iptr h3 Tryz.underlying24 ty5 rfl rfl rfl rfl (V.at (.s .z)) e10 (fun u3 h4 => ?_))
      refine op (OpS.loadi h4 ty5 rfl rfl rfl .z ?_)
      refine gb rfl (gm rfl ?_)
      refine RunL.join (σ := Bool) (fun s_ L_ w_ => L_ = [(0, v0), (31, .bool s_)] ∧ St e w_ [(false, .val (Rep.slice (Rep.int .u8)) v0 a0)] []) hF (fun s2 _ w2 hI hF => ?_) (fun j2 hj2 hF => ?_)
      ·
       obtain ⟨rfl, h5⟩ := hI
       refine Run.ite rfl hF (fun e11 hF => ?_) (fun e11 hF => ?_)
       ·
        refine sr (ga rfl (ga rfl (nil (Run.retP rfl (.tmp rfl (.tmp rfl .nil)) ?_))))
        cases hF
        exact Post.mk' ⟨rfl, rfl, rfl, rfl⟩ (h5.picks .nil) .nil
       ·
        refine Run.skip (Run.endBlock (sr (gm rfl ?_)))
        obtain ⟨x7, e12, hF⟩ := bindP_use hF
        refine op (OpS.iptr h5 Tryz.underlying24 ty5 rfl rfl rfl rfl (V.at .z) e12 (fun u4 h6 => ?_))
        refine op (OpS.loadi h6 ty5 rfl rfl rfl .z ?_)
        refine op (OpS.conv Tryz.underlying5 Tryz.underlying3 rfl rfl rfl ?_)
        refine gb rfl (gb rfl (ga rfl ?_))
        obtain ⟨x8, e13, hF⟩ := letP_use hF
        refine RunL.name e13 ?_
        refine ga rfl (nil (Run.retP rfl (.tmp rfl (.tmp rfl .nil)) ?_))
        cases hF
        exact Post.mk' ⟨rfl, rfl, rfl, rfl⟩ (h6.picks .nil) .nil
      ·
       refine RunL.caseb hF (fun e14 hF => ?_) (fun e14 hF => ?_)
       ·
        refine gp rfl (gp rfl (gp rfl (gp rfl (gk rfl (ga rfl (nil (Run.slim [(0, v0), (31, .bool true)] ⟨rfl, rfl, trivial⟩ ?_)))))))
        exact hj2 (true) _ _ ⟨rfl, (h4.facts (.atm (.s (.s .z)) .nil)).picks .nil⟩ hF
       ·
        refine gm rfl (op (OpS.iptr h4 Tryz.underlying24 ty5 rfl rfl rfl rfl (V.at (.s (.s .z))) e10 (fun u5 h7 => ?_)))
        refine op (OpS.loadi h7 ty5 rfl rfl rfl .z ?_)
        refine gb rfl (gk rfl (ga rfl ?_))
        obtain ⟨x9, e15, hF⟩ := letP_use hF
        refine RunL.nameb e15 ?_
        refine nil (Run.slim [(0, v0), (31, .bool x9)] ⟨rfl, rfl, trivial⟩ ?_)
        exact hj2 (x9) _ _ ⟨rfl, (h7.facts (.atm (.s (.s (.s .z))) .nil)).picks .nil⟩ hF
  ·
   refine RunL.caseb hF (fun e16 hF => ?_) (fun e16 hF => ?_)
   ·
    refine gp rfl (gp rfl (gp rfl (gp rfl (gp rfl (gk rfl (ga rfl (nil (Run.slim [(0, v0), (8, .bool true)] ⟨rfl, rfl, trivial⟩ ?_))))))))
    exact hj1 (true) _ _ ⟨rfl, (h1.facts (.atm (.s .z) .nil)).picks .nil⟩ hF
   ·
    refine gm rfl (op (OpS.iptr h1 Tryz.underlying24 ty5 rfl rfl rfl rfl (V.at (.s .z)) e3 (fun u6 h8 => ?_)))
    refine op (OpS.loadi h8 ty5 rfl rfl rfl .z ?_)
    refine gb rfl (gb rfl (gk rfl (ga rfl ?_)))
    obtain ⟨x10, e17, hF⟩ := letP_use hF
    refine RunL.nameb e17 ?_
    refine nil (Run.slim [(0, v0), (8, .bool x10)] ⟨rfl, rfl, trivial⟩ ?_)
    exact hj1 (x10) _ _ ⟨rfl, (h8.facts (.atm (.s (.s .z)) .nil)).picks .nil⟩ hF
theorem slices_Chunk_byte_byte_ok {fuel : Nat} {a0 : List Int} {a1 : Int} {y : ((List Int) × Int)} (hF : slices_Chunk_byte_byte fuel a0 a1 = some y) {w : World} {v0 : Value} :
  Spec Tryz.prog 126 [v0, .int .i64 a1].toArray w [(false, .val (Rep.slice (Rep.int .u8)) v0 a0)] [] (fun v Γr Ωr Ωo => ∃ u0_0 u0_1 : Value, v = .func (.func 193) #[] #[u0_0, u0_1] ∧ Γr = [] ∧ Ωr = [(false, .box 24 (Rep.slice (Rep.int .u8)) u0_0 y.1), (true, .box 3 (Rep.int .i64) u0_1 y.2)] ∧ Ωo = []) := by
 refine Spec.of (L := [(0, v0), (1, .int .i64 a1)]) Tryz.func126 rfl ⟨rfl, rfl, trivial⟩ rfl (fun e h => ?_)
 unfold slices_Chunk_byte_byte at hF
 refine sr (op (OpS.boxF h rfl rfl rfl (V.at .z) (fun u1 w1 h1 => ?_)))
 refine op (OpS.box (f' := true) h1 rfl rfl rfl V.int (fun u2 w2 h2 => ?_))
 refine ga rfl (nil (Run.seq (sr (op (OpS.loadBi h2 .z PA.z Get.id ty3 rfl rfl rfl ?_)))))
 refine gb rfl (nil ?_)
 refine Run.ite rfl hF (fun e1 hF => ?_) (fun e1 hF => ?_)
 ·
  refine Run.reg ?_
  cases hF
 ·
  refine Run.skip (sr (op (OpS.mkf (fl := []) (cl := [u1, u2]) rfl rfl rfl rfl ?_)))
  refine ga rfl (nil (Run.retP rfl (.tmp rfl .nil) ?_))
  cases hF
  exact Post.mk' ⟨u1, u2, rfl, rfl, rfl, rfl⟩ (h2.picks (.cons (.s .z) (.cons .z .nil))) .nil
theorem convert_read_ok {fuel : Nat} {a0 : List Int} {y : Int} (hF : convert_read fuel a0 = some y) {w : World} {v0 : Value} :
  Spec Tryz.prog 237 [v0].toArray w [(false, .val (Rep.slice (Rep.int .u8)) v0 a0)] [] (fun v Γr Ωr Ωo => v = .int .i64 y ∧ Γr = [] ∧ Ωr = [] ∧ Ωo = []) := by
 refine Spec.of (L := [(0, v0)]) Tryz.func237 rfl ⟨rfl, trivial⟩ rfl (fun e h => ?_)
 unfold convert_read at hF
 refine sr (ga rfl (nil (sr (gm rfl (gm rfl (op (OpS.len h Tryz.underlying24 rfl rfl rfl (V.at .z) ?_)))))))
 refine gb rfl ?_
 obtain ⟨x1, e1, hF⟩ := bindP_use hF
 refine op (OpS.iptr h Tryz.underlying24 ty5 rfl rfl rfl rfl (V.at .z) e1 (fun u1 h1 => ?_))
 refine op (OpS.loadi h1 ty5 rfl rfl rfl .z ?_)
 refine op (OpS.conv Tryz.underlying5 Tryz.underlying238 rfl rfl rfl ?_)
 refine op (OpS.conv Tryz.underlying238 Tryz.underlying2 rfl rfl rfl ?_)
 refine ga rfl ?_
 obtain ⟨x2, e2, hF⟩ := letP_use hF
 refine RunL.name e2 ?_
 refine nil (Run.seq (sr (gm rfl (op (OpS.len h1 Tryz.underlying24 rfl rfl rfl (V.at (.s .z)) ?_)))))
 refine gb rfl (ga rfl ?_)
 obtain ⟨x3, e3, hF⟩ := letP_use hF
 refine RunL.name e3 ?_
 refine nil (Run.block (Run.slim [(0, v0), (3, .int .i64 x2), (4, .int .i64 x3)] ⟨rfl, rfl, rfl, trivial⟩ ?_))
 refine Run.loopP (σ := (Int × Int)) (fun s_ L_ w_ => L_ = [(0, v0), (3, .int .i64 s_.1), (4, .int .i64 s_.2)] ∧ St e w_ [(false, .val (Rep.slice (Rep.int .u8)) v0 a0)] []) hF ⟨rfl, (h1.facts (.atm (.s .z) .nil)).picks .nil⟩ (fun k1 hk1 s1 _ w1 hI hF => ?_)
 obtain ⟨rfl, h2⟩ := hI
 refine Run.seq (sr (gm rfl (gb rfl (nil ?_))))
 refine Run.ite rfl hF (fun e4 hF => ?_) (fun e4 hF => ?_)
 ·
  refine Run.skip (Run.seq (Run.block (Run.reg (gm rfl (op (OpS.shl rfl rfl rfl rfl (by decide) ?_))))))
  refine gm rfl (gm rfl ?_)
  obtain ⟨x4, e5, hF⟩ := bindP_use hF
  refine op (OpS.iptr h2 Tryz.underlying24 ty5 rfl rfl rfl rfl (V.at .z) e5 (fun u2 h3 => ?_))
  refine op (OpS.loadi h3 ty5 rfl rfl rfl .z ?_)
  refine op (OpS.conv Tryz.underlying5 Tryz.underlying2 rfl rfl rfl ?_)
  refine gb rfl (ga rfl ?_)
  obtain ⟨x5, e6, hF⟩ := letP_use hF
  refine RunL.name e6 ?_
  refine nil (Run.endBlock (Run.reg (gm rfl (gb rfl (ga rfl ?_)))))
  obtain ⟨x6, e7, hF⟩ := letP_use hF
  refine RunL.name e7 ?_
  refine nil (Run.slim [(0, v0), (3, .int .i64 x5), (4, .int .i64 x6)] ⟨rfl, rfl, rfl, trivial⟩ ?_)
  exact hk1 (x5, x6) _ _ ⟨rfl, (h3.facts (.atm (.s .z) .nil)).picks .nil⟩ hF
 ·
  refine Run.exit rfl ?_
  refine sr (gm rfl (ga rfl (nil (Run.retP rfl (.tmp rfl .nil) ?_))))
  cases hF
  exact Post.mk' ⟨rfl, rfl, rfl, rfl⟩ (h2.picks .nil) .nil
set_option maxRecDepth 20000 in
theorem slices_Chunk_byte_byte_1_2_ok {σ : Type} {fuel : Nat} {bd_ : σ → (List Int) → Option σ} {s_ : σ} {a1 : List Int} {a2 : Int} {y : σ} (hF : slices_Chunk_byte_byte_1_2 fuel bd_ s_ a1 a2 = some y) {w : World} {v1 v2 : Value} {l_ : Nat} {I_ : σ → HAtom} (hY_ : YieldOK Tryz.prog l_ (Rep.slice (Rep.int .u8)) I_ bd_) :
  Spec Tryz.prog 193 [.func (.yield l_) #[] #[], v1, v2].toArray w [(false, .ptr (Rep.slice (Rep.int .u8)) v1 a1), (false, .ptr (Rep.int .i64) v2 a2)] [(false, I_ s_)] (fun v Γr Ωr Ωo => v = .tuple #[] ∧ Γr = [] ∧ Ωr = [] ∧ Ωo = [(false, I_ y)]) := by
 refine Spec.of (L := [(0, .func (.yield l_) #[] #[]), (1, v1), (2, v2)]) Tryz.func193 rfl ⟨rfl, rfl, rfl, trivial⟩ rfl (fun e h => ?_)
 unfold slices_Chunk_byte_byte_1_2 at hF
 refine sr (ga rfl (nil (Run.block (Run.slim [(0, .func (.yield l_) #[] #[]), (1, v1), (2, v2), (4, .int .i64 0)] ⟨rfl, rfl, rfl, rfl, trivial⟩ ?_))))
 refine Run.loopP (σ := (Int × σ)) (fun s_ L_ w_ => L_ = [(0, .func (.yield l_) #[] #[]), (1, v1), (2, v2), (4, .int .i64 s_.1)] ∧ St e w_ [(false, .ptr (Rep.slice (Rep.int .u8)) v1 a1), (false, .ptr (Rep.int .i64) v2 a2)] [(false, I_ s_.2)]) hF ⟨rfl, (h.facts (.atm .z (.atm (.s .z) .nil))).picks (.cons .z .nil)⟩ (fun k1 hk1 s1 _ w1 hI hF => ?_)
 obtain ⟨rfl, h1⟩ := hI
 refine Run.seq (sr (gm rfl (op (OpS.load h1 ty24 rfl rfl rfl .z (fun u1 h2 => ?_)))))
 refine op (OpS.len h2 Tryz.underlying24 rfl rfl rfl (V.at .z) ?_)
 refine gb rfl (nil ?_)
 refine Run.ite rfl hF (fun e1 hF => ?_) (fun e1 hF => ?_)
 ·
  refine Run.skip (Run.seq (Run.block (Run.seq ?_)))
  obtain ⟨x1, e2, hF⟩ := bindP_use hF
  refine Run.drawV (Ωs := [(false, I_ s1.2)]) [.k 13 (.int .i64 a2), .f 14 (fun u_ => [(false, .val (Rep.slice (Rep.int .u8)) u_ a1)]), .k 15 (.int .i64 s1.1), .f 16 (fun u_ => [(false, .val (Rep.slice (Rep.int .u8)) u_ x1)]), .k 17 (.int .i64 (x1.length : Int))] [[], [], [], [1, 2], [3]] [] [0, 1, 2, 3, 4] Try_mixed rfl rfl rfl h2 (.cons ?_ (.cons ?_ (.cons ?_ (.cons ?_ (.cons ?_ .nil))))) (fun q1 w hq1 h => ?_)
  ·intro q1 w Γx Ωx h
   refine OpS.loadi h ty3 rfl rfl rfl (.s (.s .z)) ?_
   exact du h
  ·intro q1 w Γx Ωx h
   refine OpS.load h ty24 rfl rfl rfl (.s .z) (fun u h5 => ?_)
   exact ⟨u, rfl, trivial, h5⟩
  ·intro q1 w Γx Ωx h
   refine OpS.mv rfl rfl rfl ?_
   exact du h
  ·intro q1 w Γx Ωx h
   refine OpS.sub h Tryz.underlying24 ty5 rfl rfl rfl rfl rfl (V.at .z) e2 (fun u h6 => ?_)
   exact ⟨u, rfl, trivial, h6⟩
  ·intro q1 w Γx Ωx h
   refine OpS.len h Tryz.underlying24 rfl rfl rfl (V.at .z) ?_
   exact du h
  have h7 := h
  refine op (OpS.mini rfl rfl rfl rfl ?_)
  refine ga rfl ?_
  obtain ⟨x2, e3, hF⟩ := letP_use hF
  refine RunL.name e3 ?_
  refine nil (sr (gm rfl (op (OpS.load h7 ty24 rfl rfl rfl (.s (.s (.s .z))) (fun u2 h8 => ?_)))))
  refine gm rfl (gm rfl (gm rfl (gb rfl (gm rfl (gm rfl (gb rfl ?_))))))
  obtain ⟨x3, e4, hF⟩ := bindP_use hF
  refine op (OpS.sub3F h8 Tryz.underlying24 ty5 rfl rfl rfl rfl rfl rfl (V.at .z) e4 (fun u3 h9 => ?_))
  obtain ⟨y1, e5, hF⟩ := bindP_use hF
  refine op (OpS.yield (f := false) h9 .z hY_ e5 rfl rfl rfl rfl (V.at .z) (fun w2 h10 => ?_))
  refine op (OpS.not rfl rfl rfl ?_)
  refine nil (Run.condF rfl ?_)
  refine Run.skip (Run.endBlock (Run.reg (gm rfl (op (OpS.loadi h10 ty3 rfl rfl rfl (.s (.s (.s (.s (.s (.s (.s .z))))))) ?_)))))
  refine gb rfl (ga rfl ?_)
  obtain ⟨x4, e6, hF⟩ := letP_use hF
  refine RunL.name e6 ?_
  refine nil (Run.slim [(0, .func (.yield l_) #[] #[]), (1, v1), (2, v2), (4, .int .i64 x4)] ⟨rfl, rfl, rfl, rfl, trivial⟩ ?_)
  exact hk1 (x4, y1) _ _ ⟨rfl, (h10.facts (.atm (.s (.s (.s (.s (.s (.s .z)))))) (.atm (.s (.s (.s (.s (.s (.s (.s .z))))))) .nil))).picks (.cons .z .nil)⟩ hF
 ·
  refine Run.exit rfl ?_
  refine Run.finP rfl .nil ?_
  cases hF
  exact Post.mk' ⟨rfl, rfl, rfl, rfl⟩ (h2.picks (.cons .z .nil)) .nil
end Lift
