import Derived.Test.YtahlmfpllhmjoaaGreatDoorTopBeyondWalksC
set_option linter.unusedVariables false
set_option linter.unusedSimpArgs false
namespace Lift
open Go Go.Proofs
open RunL (op mv asg bin pass pick sr nil)
set_option maxHeartbeats 8000000 in set_option maxRecDepth 20000 in
theorem made_Dice_Conversion_ok {fuel : Nat} {a0 : made_Dice} {y : Conversion_ × made_Dice} (hF : made_Dice_Conversion fuel a0 = some y) {w : World} {v0 : Value} :
  Spec Tryz.prog 171 [v0].toArray w [] [(false, .box 163 made_Dice.rep v0 a0)] (fun v Γr Ωr Ωo => ∃ u0 : Value, v = u0 ∧ Γr = [(true, .val Conversion_.rep u0 y.1)] ∧ Ωr = [] ∧ Ωo = [(false, .box 163 made_Dice.rep v0 y.2)]) := by
 refine Spec.of (L := [(0, v0)]) Tryz.func171 rfl ⟨rfl, trivial⟩ rfl (fun e h => ?_)
 unfold made_Dice_Conversion at hF
 refine sr ?_
 refine op (OpS.alloc h ti69 Conversion_.zr rfl rfl (fun u1 w1 h1 => ?_))
 refine nil ?_
 refine sr ?_
 refine mv rfl rfl rfl ?_
 obtain ⟨y1, e1, hF⟩ := bindP_use hF
 have h2 := h1.front (.cons (.s .z) .nil)
 refine op (OpS.callO h2 Tryz.func54 rfl rfl rfl rfl (vs := [v0, .int .i64 5]) rfl (made_Dice_Next_ok e1) rfl .nil ?_)
 rintro _ w2 _ _ _ ⟨rfl, rfl, rfl, rfl⟩ h3
 have h4 := h3
 simp only [ca, na] at h4
 refine bin rfl rfl rfl rfl rfl ?_
 refine mv rfl rfl rfl ?_
 obtain ⟨y2, e2, hF⟩ := bindP_use hF
 have h5 := h4.front (.cons .z .nil)
 refine op (OpS.callO h5 Tryz.func31 rfl rfl rfl rfl (vs := [v0, .int .i64 2]) rfl (made_Dice_Bool_ok e2) rfl .nil ?_)
 rintro _ w3 _ _ _ ⟨rfl, rfl, rfl, rfl⟩ h6
 have h7 := h6
 simp only [ca, na] at h7
 have h8 := St.nil 211 Point_.rep h7
 refine op (OpS.buildC (f := true) (r := (Rep.iso (fun s : Conversion_ => (s.Form, s.Signed, s.M, s.B, s.K1, s.K2, s.Points, ())) (Rep.prod (Rep.int .i64) (Rep.prod Rep.bool (Rep.prod (Rep.int .i64) (Rep.prod (Rep.int .i64) (Rep.prod (Rep.int .i64) (Rep.prod (Rep.int .i64) (Rep.prod (Rep.raw (α := List Point_) (.slice none 0 0)) Rep.unit))))))))) (x := Conversion_.z) (r' := (Rep.iso (fun s : Conversion_ => (s.Form, s.Signed, s.M, s.B, s.K1, s.K2, s.Points, ())) (Rep.prod (Rep.int .i64) (Rep.prod Rep.bool (Rep.prod (Rep.int .i64) (Rep.prod (Rep.int .i64) (Rep.prod (Rep.int .i64) (Rep.prod (Rep.int .i64) (Rep.prod (Rep.raw (α := List Point_) (.slice none 0 0)) Rep.unit))))))))) (x' := (⟨(IntKind.i64.wrap (1 + y1.1)), y2.1, 0, 0, 0, 0, []⟩ : Conversion_)) h8 pl69 ti69 (Zr.iso (y := Conversion_.z) _ (Zr.of (Zr.prod (Zr.int .i64 0) (Zr.prod (Zr.bool false) (Zr.prod (Zr.int .i64 0) (Zr.prod (Zr.int .i64 0) (Zr.prod (Zr.int .i64 0) (Zr.prod (Zr.int .i64 0) (Zr.prod (Zr.raw rfl ([] : List Point_)) Zr.unit))))))) (by rfl))) rfl rfl rfl (.cons (Rep.int .i64) (Rep.iso (fun s : Conversion_ => (s.Form, s.Signed, s.M, s.B, s.K1, s.K2, s.Points, ())) (Rep.prod (Rep.int .i64) (Rep.prod Rep.bool (Rep.prod (Rep.int .i64) (Rep.prod (Rep.int .i64) (Rep.prod (Rep.int .i64) (Rep.prod (Rep.int .i64) (Rep.prod (Rep.raw (α := List Point_) (.slice none 0 0)) Rep.unit)))))))) (Rep.iso (fun s : Conversion_ => (s.Form, s.Signed, s.M, s.B, s.K1, s.K2, s.Points, ())) (Rep.prod (Rep.int .i64) (Rep.prod Rep.bool (Rep.prod (Rep.int .i64) (Rep.prod (Rep.int .i64) (Rep.prod (Rep.int .i64) (Rep.prod (Rep.int .i64) (Rep.prod (Rep.raw (α := List Point_) (.slice none 0 0)) Rep.unit)))))))) Conversion_.z (⟨(IntKind.i64.wrap (1 + y1.1)), false, 0, 0, 0, 0, []⟩ : Conversion_) (Chg.iso _ (Chg.here (Chg.id (by rfl)))) rfl rfl V.int (.cons Rep.bool (Rep.iso (fun s : Conversion_ => (s.Form, s.Signed, s.M, s.B, s.K1, s.K2, s.Points, ())) (Rep.prod (Rep.int .i64) (Rep.prod Rep.bool (Rep.prod (Rep.int .i64) (Rep.prod (Rep.int .i64) (Rep.prod (Rep.int .i64) (Rep.prod (Rep.int .i64) (Rep.prod (Rep.raw (α := List Point_) (.slice none 0 0)) Rep.unit)))))))) (Rep.iso (fun s : Conversion_ => (s.Form, s.Signed, s.M, s.B, s.K1, s.K2, s.Points, ())) (Rep.prod (Rep.int .i64) (Rep.prod Rep.bool (Rep.prod (Rep.int .i64) (Rep.prod (Rep.int .i64) (Rep.prod (Rep.int .i64) (Rep.prod (Rep.int .i64) (Rep.prod (Rep.raw (α := List Point_) (.slice none 0 0)) Rep.unit)))))))) (⟨(IntKind.i64.wrap (1 + y1.1)), false, 0, 0, 0, 0, []⟩ : Conversion_) (⟨(IntKind.i64.wrap (1 + y1.1)), y2.1, 0, 0, 0, 0, []⟩ : Conversion_) (Chg.iso _ (Chg.there (Chg.here (Chg.id (by rfl))))) rfl rfl V.bool .nil)) (fun u2 h9 => ?_))
 have h10 := St.nil 211 Point_.rep h9
 refine op (OpS.alloc (r := (Rep.iso (fun s : Conversion_ => (s.Form, s.Signed, s.M, s.B, s.K1, s.K2, s.Points, ())) (Rep.prod (Rep.int .i64) (Rep.prod Rep.bool (Rep.prod (Rep.int .i64) (Rep.prod (Rep.int .i64) (Rep.prod (Rep.int .i64) (Rep.prod (Rep.int .i64) (Rep.prod (Rep.raw (α := List Point_) (.slice none 0 0)) Rep.unit))))))))) h10 ti69 (Zr.iso (y := Conversion_.z) _ (Zr.of (Zr.prod (Zr.int .i64 0) (Zr.prod (Zr.bool false) (Zr.prod (Zr.int .i64 0) (Zr.prod (Zr.int .i64 0) (Zr.prod (Zr.int .i64 0) (Zr.prod (Zr.int .i64 0) (Zr.prod (Zr.raw rfl ([] : List Point_)) Zr.unit))))))) (by rfl))) rfl rfl (fun u3 w4 h11 => ?_))
 refine op (OpS.storeC (f' := true) (fr := (Rep.iso (fun s : Conversion_ => (s.Form, s.Signed, s.M, s.B, s.K1, s.K2, s.Points, ())) (Rep.prod (Rep.int .i64) (Rep.prod Rep.bool (Rep.prod (Rep.int .i64) (Rep.prod (Rep.int .i64) (Rep.prod (Rep.int .i64) (Rep.prod (Rep.int .i64) (Rep.prod (Rep.raw (α := List Point_) (.slice none 0 0)) Rep.unit))))))))) (r' := (Rep.iso (fun s : Conversion_ => (s.Form, s.Signed, s.M, s.B, s.K1, s.K2, s.Points, ())) (Rep.prod (Rep.int .i64) (Rep.prod Rep.bool (Rep.prod (Rep.int .i64) (Rep.prod (Rep.int .i64) (Rep.prod (Rep.int .i64) (Rep.prod (Rep.int .i64) (Rep.prod (Rep.raw (α := List Point_) (.slice none 0 0)) Rep.unit))))))))) (x' := (⟨(IntKind.i64.wrap (1 + y1.1)), y2.1, 0, 0, 0, 0, []⟩ : Conversion_)) h11 .z PA.z (Chg.id (by rfl)) (Ty.like ty69 (by rfl) (by rfl)) rfl rfl rfl (V.at .z) (.inl rfl) (fun w5 h12 => ?_))
 refine nil ?_
 refine Run.seq ?_
 refine sr ?_
 refine op (OpS.fbox (o3 := 0) h12 .z PA.z fa69_0 rfl rfl rfl rfl ?_)
 refine op (OpS.loadBi h12 .z PA.a (GetS.ok (GetS.iso _ (GetS.here GetS.id))) ty3 rfl rfl rfl ?_)
 refine bin rfl rfl rfl rfl rfl ?_
 refine nil ?_
 refine Run.ite rfl hF (fun e3 hF => ?_) (fun e3 hF => ?_)
 ·
  refine sr ?_
  refine mv rfl rfl rfl ?_
  obtain ⟨y3, e4, hF⟩ := bindP_use hF
  have h13 := h12.front (.cons (.s (.s (.s .z))) .nil)
  refine op (OpS.callO h13 Tryz.func54 rfl rfl rfl rfl (vs := [v0, .int .i64 1024]) rfl (made_Dice_Next_ok e4) rfl .nil ?_)
  rintro _ w6 _ _ _ ⟨rfl, rfl, rfl, rfl⟩ h14
  have h15 := h14
  simp only [ca, na] at h15
  refine bin rfl rfl rfl rfl rfl ?_
  refine op (OpS.fbox (o3 := 2) h15 (.s .z) PA.z fa69_2 rfl rfl rfl rfl ?_)
  refine op (OpS.storeC (f' := true) (fr := (Rep.int .i64)) (r' := (Rep.iso (fun s : Conversion_ => (s.Form, s.Signed, s.M, s.B, s.K1, s.K2, s.Points, ())) (Rep.prod (Rep.int .i64) (Rep.prod Rep.bool (Rep.prod (Rep.int .i64) (Rep.prod (Rep.int .i64) (Rep.prod (Rep.int .i64) (Rep.prod (Rep.int .i64) (Rep.prod (Rep.raw (α := List Point_) (.slice none 0 0)) Rep.unit))))))))) (x' := (⟨(IntKind.i64.wrap (1 + y1.1)), y2.1, (IntKind.i64.wrap (y3.1 - 512)), 0, 0, 0, []⟩ : Conversion_)) h15 (.s .z) PA.a (Chg.iso _ (Chg.there (Chg.there (Chg.here (Chg.id (by rfl)))))) ty3 rfl rfl rfl V.int (.inl rfl) (fun w7 h16 => ?_))
  refine nil ?_
  refine sr ?_
  refine mv rfl rfl rfl ?_
  obtain ⟨y4, e5, hF⟩ := bindP_use hF
  have h17 := h16.front (.cons (.s .z) .nil)
  refine op (OpS.callO h17 Tryz.func54 rfl rfl rfl rfl (vs := [v0, .int .i64 1024]) rfl (made_Dice_Next_ok e5) rfl .nil ?_)
  rintro _ w8 _ _ _ ⟨rfl, rfl, rfl, rfl⟩ h18
  have h19 := h18
  simp only [ca, na] at h19
  refine bin rfl rfl rfl rfl rfl ?_
  refine op (OpS.fbox (o3 := 3) h19 (.s .z) PA.z fa69_3 rfl rfl rfl rfl ?_)
  refine op (OpS.storeC (f' := true) (fr := (Rep.int .i64)) (r' := (Rep.iso (fun s : Conversion_ => (s.Form, s.Signed, s.M, s.B, s.K1, s.K2, s.Points, ())) (Rep.prod (Rep.int .i64) (Rep.prod Rep.bool (Rep.prod (Rep.int .i64) (Rep.prod (Rep.int .i64) (Rep.prod (Rep.int .i64) (Rep.prod (Rep.int .i64) (Rep.prod (Rep.raw (α := List Point_) (.slice none 0 0)) Rep.unit))))))))) (x' := (⟨(IntKind.i64.wrap (1 + y1.1)), y2.1, (IntKind.i64.wrap (y3.1 - 512)), (IntKind.i64.wrap (y4.1 - 512)), 0, 0, []⟩ : Conversion_)) h19 (.s .z) PA.a (Chg.iso _ (Chg.there (Chg.there (Chg.there (Chg.here (Chg.id (by rfl))))))) ty3 rfl rfl rfl V.int (.inl rfl) (fun w9 h20 => ?_))
  refine nil ?_
  refine Run.seq ?_
  refine sr ?_
  refine mv rfl rfl rfl ?_
  obtain ⟨y5, e6, hF⟩ := bindP_use hF
  have h21 := h20.front (.cons (.s .z) .nil)
  refine op (OpS.callO h21 Tryz.func31 rfl rfl rfl rfl (vs := [v0, .int .i64 2]) rfl (made_Dice_Bool_ok e6) rfl .nil ?_)
  rintro _ w10 _ _ _ ⟨rfl, rfl, rfl, rfl⟩ h22
  have h23 := h22
  simp only [ca, na] at h23
  refine nil ?_
  refine Run.join (σ := (made_Dice × Conversion_)) (fun s_ L_ w_ => L_ = [(0, v0), (2, u1), (3, u3)] ∧ St e w_ [] [(false, .box 163 made_Dice.rep v0 s_.1), (true, .box 69 Conversion_.rep u1 Conversion_.z), (true, .box 69 (Rep.iso (fun s : Conversion_ => (s.Form, s.Signed, s.M, s.B, s.K1, s.K2, s.Points, ())) (Rep.prod (Rep.int .i64) (Rep.prod Rep.bool (Rep.prod (Rep.int .i64) (Rep.prod (Rep.int .i64) (Rep.prod (Rep.int .i64) (Rep.prod (Rep.int .i64) (Rep.prod (Rep.raw (α := List Point_) (.slice none 0 0)) Rep.unit)))))))) u3 s_.2), (true, .slice 211 Point_.rep (.slice none 0 0) ([]))]) hF (fun s1 _ w11 hI hF => ?_) (fun j1 hj1 hF => ?_)
  ·
   obtain ⟨rfl, h24⟩ := hI
   refine sr ?_
   refine mv rfl rfl rfl ?_
   obtain ⟨y6, e7, hF⟩ := bindP_use hF
   have h25 := h24.front (.cons .z .nil)
   refine op (OpS.callO h25 Tryz.func54 rfl rfl rfl rfl (vs := [v0, .int .i64 7]) rfl (made_Dice_Next_ok e7) rfl .nil ?_)
   rintro _ w12 _ _ _ ⟨rfl, rfl, rfl, rfl⟩ h26
   have h27 := h26
   simp only [ca, na] at h27
   refine bin rfl rfl rfl rfl rfl ?_
   refine op (OpS.fbox (o3 := 4) h27 (.s (.s .z)) PA.z fa69_4 rfl rfl rfl rfl ?_)
   obtain ⟨d1, e8, hF⟩ := letP_use hF
   refine op (OpS.storeC (f' := true) (fr := (Rep.int .i64)) (r' := (Rep.iso (fun s : Conversion_ => (s.Form, s.Signed, s.M, s.B, s.K1, s.K2, s.Points, ())) (Rep.prod (Rep.int .i64) (Rep.prod Rep.bool (Rep.prod (Rep.int .i64) (Rep.prod (Rep.int .i64) (Rep.prod (Rep.int .i64) (Rep.prod (Rep.int .i64) (Rep.prod (Rep.raw (α := List Point_) (.slice none 0 0)) Rep.unit))))))))) (x' := d1) h27 (.s (.s .z)) PA.a (Chg.of (x' := { s1.2 with K1 := (IntKind.i64.wrap (y6.1 - 3)) }) (Chg.iso _ (Chg.there (Chg.there (Chg.there (Chg.there (Chg.here (Chg.id (by rfl)))))))) e8) ty3 rfl rfl rfl V.int (.inl rfl) (fun w13 h28 => ?_))
   refine nil ?_
   refine sr ?_
   refine mv rfl rfl rfl ?_
   obtain ⟨y7, e9, hF⟩ := bindP_use hF
   have h29 := h28.front (.cons (.s .z) .nil)
   refine op (OpS.callO h29 Tryz.func54 rfl rfl rfl rfl (vs := [v0, .int .i64 7]) rfl (made_Dice_Next_ok e9) rfl .nil ?_)
   rintro _ w14 _ _ _ ⟨rfl, rfl, rfl, rfl⟩ h30
   have h31 := h30
   simp only [ca, na] at h31
   refine bin rfl rfl rfl rfl rfl ?_
   refine op (OpS.fbox (o3 := 5) h31 (.s .z) PA.z fa69_5 rfl rfl rfl rfl ?_)
   obtain ⟨d2, e10, hF⟩ := letP_use hF
   refine op (OpS.storeC (f' := true) (fr := (Rep.int .i64)) (r' := (Rep.iso (fun s : Conversion_ => (s.Form, s.Signed, s.M, s.B, s.K1, s.K2, s.Points, ())) (Rep.prod (Rep.int .i64) (Rep.prod Rep.bool (Rep.prod (Rep.int .i64) (Rep.prod (Rep.int .i64) (Rep.prod (Rep.int .i64) (Rep.prod (Rep.int .i64) (Rep.prod (Rep.raw (α := List Point_) (.slice none 0 0)) Rep.unit))))))))) (x' := d2) h31 (.s .z) PA.a (Chg.of (x' := { d1 with K2 := (IntKind.i64.wrap (y7.1 - 3)) }) (Chg.iso _ (Chg.there (Chg.there (Chg.there (Chg.there (Chg.there (Chg.here (Chg.id (by rfl))))))))) e10) ty3 rfl rfl rfl V.int (.inl rfl) (fun w15 h32 => ?_))
   refine nil ?_
   refine sr ?_
   refine op (OpS.loadB (fr := (Rep.iso (fun s : Conversion_ => (s.Form, s.Signed, s.M, s.B, s.K1, s.K2, s.Points, ())) (Rep.prod (Rep.int .i64) (Rep.prod Rep.bool (Rep.prod (Rep.int .i64) (Rep.prod (Rep.int .i64) (Rep.prod (Rep.int .i64) (Rep.prod (Rep.int .i64) (Rep.prod (Rep.raw (α := List Point_) (.slice none 0 0)) Rep.unit))))))))) h32 .z PA.z (GetS.ok GetS.id) (Ty.like ty69 (by rfl) (by rfl)) rfl rfl rfl (fun u4 h33 => ?_))
   refine op (OpS.storeC (f' := true) (fr := (Rep.iso (fun s : Conversion_ => (s.Form, s.Signed, s.M, s.B, s.K1, s.K2, s.Points, ())) (Rep.prod (Rep.int .i64) (Rep.prod Rep.bool (Rep.prod (Rep.int .i64) (Rep.prod (Rep.int .i64) (Rep.prod (Rep.int .i64) (Rep.prod (Rep.int .i64) (Rep.prod (Rep.raw (α := List Point_) (.slice none 0 0)) Rep.unit))))))))) (r' := (Rep.iso (fun s : Conversion_ => (s.Form, s.Signed, s.M, s.B, s.K1, s.K2, s.Points, ())) (Rep.prod (Rep.int .i64) (Rep.prod Rep.bool (Rep.prod (Rep.int .i64) (Rep.prod (Rep.int .i64) (Rep.prod (Rep.int .i64) (Rep.prod (Rep.int .i64) (Rep.prod (Rep.raw (α := List Point_) (.slice none 0 0)) Rep.unit))))))))) (x' := d2) h33 (.s (.s .z)) PA.z (Chg.id (by rfl)) (Ty.like ty69 (by rfl) (by rfl)) rfl rfl rfl (V.at .z) (.inl rfl) (fun w16 h34 => ?_))
   refine nil ?_
   obtain ⟨u5, hu1, h35⟩ := res_box h34 .z (Ty.like ty69 (by rfl) (by rfl))
   have h36 := (h35.pick (.s (.s (.s .z)))).freeze
   have h37 := h36.pick .z
   have h38 := St.boxJ (r' := Conversion_.rep) (x' := { d2 with Points := [] }) h37 (fun _ _ hs_ => (Jn.iso _ (Jn.prod Jn.refl (Jn.prod Jn.refl (Jn.prod Jn.refl (Jn.prod Jn.refl (Jn.prod Jn.refl (Jn.prod Jn.refl (Jn.prod (Jn.raw ((V.at .z) _ _ hs_) rfl) Jn.refl)))))))))
   have h39 := h38.pick (.s .z)
   have h40 := St.boxJ (r' := Conversion_.rep) (x' := { d2 with Points := [] }) h39 (fun _ _ hs_ => (Jn.iso _ (Jn.prod Jn.refl (Jn.prod Jn.refl (Jn.prod Jn.refl (Jn.prod Jn.refl (Jn.prod Jn.refl (Jn.prod Jn.refl (Jn.prod (Jn.raw ((V.at .z) _ _ hs_) rfl) Jn.refl)))))))))
   have h41 := St.addV (f := true) (r := Conversion_.rep) (x := { d2 with Points := [] }) h40 (V.jn (r := (Rep.iso (fun s : Conversion_ => (s.Form, s.Signed, s.M, s.B, s.K1, s.K2, s.Points, ())) (Rep.prod (Rep.int .i64) (Rep.prod Rep.bool (Rep.prod (Rep.int .i64) (Rep.prod (Rep.int .i64) (Rep.prod (Rep.int .i64) (Rep.prod (Rep.int .i64) (Rep.prod (Rep.raw (α := List Point_) (.slice none 0 0)) Rep.unit))))))))) (x := d2) (V.at (.s .z)) rfl (fun _ _ hs_ => (Jn.iso _ (Jn.prod Jn.refl (Jn.prod Jn.refl (Jn.prod Jn.refl (Jn.prod Jn.refl (Jn.prod Jn.refl (Jn.prod Jn.refl (Jn.prod (Jn.raw ((V.at .z) _ _ hs_) rfl) Jn.refl))))))))))
   refine Run.retP rfl (.cell rfl hu1 .nil) ?_
   cases hF
   exact Post.mk' ⟨u5, rfl, rfl, rfl, rfl⟩ (h41.picks (.cons (.s (.s .z)) .nil)) (.val (V.at .z) .nil)
  ·
   refine Run.ite rfl hF (fun e11 hF => ?_) (fun e11 hF => ?_)
   ·
    refine sr ?_
    refine mv rfl rfl rfl ?_
    obtain ⟨y8, e12, hF⟩ := bindP_use hF
    have h42 := h23.front (.cons .z .nil)
    refine op (OpS.callO h42 Tryz.func54 rfl rfl rfl rfl (vs := [v0, .int .i64 21]) rfl (made_Dice_Next_ok e12) rfl .nil ?_)
    rintro _ w17 _ _ _ ⟨rfl, rfl, rfl, rfl⟩ h43
    have h44 := h43
    simp only [ca, na] at h44
    refine bin rfl rfl rfl rfl rfl ?_
    refine op (OpS.fbox (o3 := 2) h44 (.s .z) PA.z fa69_2 rfl rfl rfl rfl ?_)
    refine op (OpS.storeC (f' := true) (fr := (Rep.int .i64)) (r' := (Rep.iso (fun s : Conversion_ => (s.Form, s.Signed, s.M, s.B, s.K1, s.K2, s.Points, ())) (Rep.prod (Rep.int .i64) (Rep.prod Rep.bool (Rep.prod (Rep.int .i64) (Rep.prod (Rep.int .i64) (Rep.prod (Rep.int .i64) (Rep.prod (Rep.int .i64) (Rep.prod (Rep.raw (α := List Point_) (.slice none 0 0)) Rep.unit))))))))) (x' := (⟨(IntKind.i64.wrap (1 + y1.1)), y2.1, (IntKind.i64.wrap (y8.1 - 10)), (IntKind.i64.wrap (y4.1 - 512)), 0, 0, []⟩ : Conversion_)) h44 (.s .z) PA.a (Chg.iso _ (Chg.there (Chg.there (Chg.here (Chg.id (by rfl)))))) ty3 rfl rfl rfl V.int (.inl rfl) (fun w18 h45 => ?_))
    refine nil ?_
    refine Run.reg ?_
    refine mv rfl rfl rfl ?_
    obtain ⟨y9, e13, hF⟩ := bindP_use hF
    have h46 := h45.front (.cons (.s .z) .nil)
    refine op (OpS.callO h46 Tryz.func54 rfl rfl rfl rfl (vs := [v0, .int .i64 41]) rfl (made_Dice_Next_ok e13) rfl .nil ?_)
    rintro _ w19 _ _ _ ⟨rfl, rfl, rfl, rfl⟩ h47
    have h48 := h47
    simp only [ca, na] at h48
    refine bin rfl rfl rfl rfl rfl ?_
    refine op (OpS.fbox (o3 := 3) h48 (.s .z) PA.z fa69_3 rfl rfl rfl rfl ?_)
    refine op (OpS.storeC (f' := true) (fr := (Rep.int .i64)) (r' := (Rep.iso (fun s : Conversion_ => (s.Form, s.Signed, s.M, s.B, s.K1, s.K2, s.Points, ())) (Rep.prod (Rep.int .i64) (Rep.prod Rep.bool (Rep.prod (Rep.int .i64) (Rep.prod (Rep.int .i64) (Rep.prod (Rep.int .i64) (Rep.prod (Rep.int .i64) (Rep.prod (Rep.raw (α := List Point_) (.slice none 0 0)) Rep.unit))))))))) (x' := (⟨(IntKind.i64.wrap (1 + y1.1)), y2.1, (IntKind.i64.wrap (y8.1 - 10)), (IntKind.i64.wrap (y9.1 - 20)), 0, 0, []⟩ : Conversion_)) h48 (.s .z) PA.a (Chg.iso _ (Chg.there (Chg.there (Chg.there (Chg.here (Chg.id (by rfl))))))) ty3 rfl rfl rfl V.int (.inl rfl) (fun w20 h49 => ?_))
    refine nil ?_
    refine Run.slim [(0, v0), (2, u1), (3, u3)] ⟨rfl, rfl, rfl, trivial⟩ ?_
    exact hj1 (y9.2, (⟨(IntKind.i64.wrap (1 + y1.1)), y2.1, (IntKind.i64.wrap (y8.1 - 10)), (IntKind.i64.wrap (y9.1 - 20)), 0, 0, []⟩ : Conversion_)) _ _ ⟨rfl, (h49.facts .nil).picks (.cons (.s .z) (.cons (.s (.s (.s .z))) (.cons .z (.cons (.s .z) .nil))))⟩ hF
   ·
    refine Run.skip ?_
    refine Run.slim [(0, v0), (2, u1), (3, u3)] ⟨rfl, rfl, rfl, trivial⟩ ?_
    exact hj1 (y5.2, (⟨(IntKind.i64.wrap (1 + y1.1)), y2.1, (IntKind.i64.wrap (y3.1 - 512)), (IntKind.i64.wrap (y4.1 - 512)), 0, 0, []⟩ : Conversion_)) _ _ ⟨rfl, (h23.facts .nil).picks (.cons .z (.cons (.s (.s (.s .z))) (.cons .z (.cons (.s .z) .nil))))⟩ hF
 ·
  refine Run.skip ?_
  refine sr ?_
  refine mv rfl rfl rfl ?_
  obtain ⟨y10, e14, hF⟩ := bindP_use hF
  have h50 := h12.front (.cons (.s (.s (.s .z))) .nil)
  refine op (OpS.callO h50 Tryz.func54 rfl rfl rfl rfl (vs := [v0, .int .i64 11]) rfl (made_Dice_Next_ok e14) rfl .nil ?_)
  rintro _ w21 _ _ _ ⟨rfl, rfl, rfl, rfl⟩ h51
  have h52 := h51
  simp only [ca, na] at h52
  refine bin rfl rfl rfl rfl rfl ?_
  refine asg rfl rfl rfl ?_
  obtain ⟨x1, e15, hF⟩ := letP_use hF
  refine RunL.name e15 ?_
  refine nil ?_
  refine sr ?_
  refine op (OpS.fbox (o3 := 1) h52 (.s .z) PA.z fa69_1 rfl rfl rfl rfl ?_)
  refine op (OpS.loadBb h52 (.s .z) PA.a (GetS.ok (GetS.iso _ (GetS.there (GetS.here GetS.id)))) ty4 rfl rfl rfl ?_)
  obtain ⟨y11, e16, hF⟩ := bindP_use hF
  refine op (OpS.callP h52 Tryz.func222 rfl rfl rfl rfl (vs := [.bool y2.1]) rfl (ref04_Least_ok e16) .nil ?_)
  rintro _ w22 _ _ _ ⟨rfl, rfl, rfl, rfl⟩ h53
  have h54 := h53 rfl rfl
  simp only [ca, na] at h54
  refine mv rfl rfl rfl ?_
  obtain ⟨y12, e17, hF⟩ := bindP_use hF
  have h55 := h54.front (.cons .z .nil)
  refine op (OpS.callO h55 Tryz.func54 rfl rfl rfl rfl (vs := [v0, .int .i64 40]) rfl (made_Dice_Next_ok e17) rfl .nil ?_)
  rintro _ w23 _ _ _ ⟨rfl, rfl, rfl, rfl⟩ h56
  have h57 := h56
  simp only [ca, na] at h57
  refine bin rfl rfl rfl rfl rfl ?_
  refine asg rfl rfl rfl ?_
  obtain ⟨x2, e18, hF⟩ := letP_use hF
  refine RunL.name e18 ?_
  refine nil ?_
  refine Run.seq ?_
  refine sr ?_
  refine asg rfl rfl rfl ?_
  refine nil ?_
  refine Run.block ?_
  refine Run.slim [(0, v0), (2, u1), (3, u3), (4, .int .i64 x1), (5, .int .i64 x2), (6, .int .i64 0)] ⟨rfl, rfl, rfl, rfl, rfl, rfl, trivial⟩ ?_
  refine Run.loopP (σ := (Int × Int × made_Dice × (List Point_))) (fun s_ L_ w_ => ∃ u0_ : Value, L_ = [(0, v0), (2, u1), (3, u3), (4, .int .i64 x1), (5, .int .i64 s_.1), (6, .int .i64 s_.2.1)] ∧ St e w_ [] [(false, .box 163 made_Dice.rep v0 s_.2.2.1), (true, .box 69 Conversion_.rep u1 Conversion_.z), (true, .box 69 (Rep.iso (fun s : Conversion_ => (s.Form, s.Signed, s.M, s.B, s.K1, s.K2, s.Points, ())) (Rep.prod (Rep.int .i64) (Rep.prod Rep.bool (Rep.prod (Rep.int .i64) (Rep.prod (Rep.int .i64) (Rep.prod (Rep.int .i64) (Rep.prod (Rep.int .i64) (Rep.prod (Rep.raw (α := List Point_) u0_) Rep.unit)))))))) u3 (⟨(IntKind.i64.wrap (1 + y1.1)), y2.1, 0, 0, 0, 0, []⟩ : Conversion_)), (true, .slice 211 Point_.rep u0_ s_.2.2.2)]) hF ⟨(.slice none 0 0), rfl, (h57.facts .nil).picks (.cons .z (.cons (.s (.s (.s .z))) (.cons .z (.cons (.s .z) .nil))))⟩ (fun k1 hk1 s2 _ w24 hI hF => ?_)
  obtain ⟨u6, rfl, h58⟩ := hI
  refine Run.seq ?_
  refine sr ?_
  refine mv rfl rfl rfl ?_
  refine mv rfl rfl rfl ?_
  refine bin rfl rfl rfl rfl rfl ?_
  refine nil ?_
  refine Run.ite rfl hF (fun e19 hF => ?_) (fun e19 hF => ?_)
  ·
   refine Run.skip ?_
   refine Run.seq ?_
   refine Run.block ?_
   refine Run.seq ?_
   have h59 := h58.picks (.cons .z (.cons (.s .z) (.cons .z (.cons .z .nil))))
   obtain ⟨y13, e20, hF⟩ := bindP_use hF
   obtain ⟨y14, e21, hF⟩ := bindP_use hF
   refine Run.drawV (Ωs := [(true, .box 69 Conversion_.rep u1 Conversion_.z), (true, .slice 211 Point_.rep u6 s2.2.2.2)]) [.kr 57 (padd u3 6) [1], .kr 58 u6 [1], .k 59 (.int .i64 s2.1), .k 60 (.int .u8 y13), .k 61 v0, ⟨some 62, some (.int .i64 y14.1), fun _ => [], fun ds_ u_ => [(false, .box 163 made_Dice.rep v0 y14.2)], [0], [], none⟩, .f 63 (fun u_ => [(true, .val Point_.rep u_ (⟨y13, y14.1⟩ : Point_))]), .f 64 (fun u_ => [(true, .val (Rep.slice Point_.rep) u_ ([(⟨y13, y14.1⟩ : Point_)]))])] [[], [0], [], [2], [], [4], [3, 5], [6]] [[(false, .box 163 made_Dice.rep v0 s2.2.2.1)], [(true, .box 69 (Rep.iso (fun s : Conversion_ => (s.Form, s.Signed, s.M, s.B, s.K1, s.K2, s.Points, ())) (Rep.prod (Rep.int .i64) (Rep.prod Rep.bool (Rep.prod (Rep.int .i64) (Rep.prod (Rep.int .i64) (Rep.prod (Rep.int .i64) (Rep.prod (Rep.int .i64) (Rep.prod (Rep.raw (α := List Point_) u6) Rep.unit)))))))) u3 (⟨(IntKind.i64.wrap (1 + y1.1)), y2.1, 0, 0, 0, 0, []⟩ : Conversion_))]] [1, 2, 3, 4, 5, 6, 7, 8, 9] Try_mixed rfl rfl rfl h59 (.cons ?_ (.cons ?_ (.cons ?_ (.cons ?_ (.cons ?_ (.cons ?_ (.cons ?_ (.cons ?_ .nil)))))))) (fun q1 w hq1 h => ?_)
   ·intro q1 w Γx Ωx h
    refine OpS.fbox (o3 := 6) h .z PA.z fa69_6 rfl rfl rfl rfl ?_
    exact ⟨undef, rfl, trivial, h⟩
   ·intro q1 w Γx Ωx h
    refine OpS.loadR h .z PA.a (GetS.ok (GetS.iso _ (GetS.there (GetS.there (GetS.there (GetS.there (GetS.there (GetS.there (GetS.here GetS.id))))))))) ty67 rfl rfl rfl rfl rfl ?_
    exact ⟨undef, rfl, trivial, h⟩
   ·intro q1 w Γx Ωx h
    refine OpS.mv rfl rfl rfl ?_
    exact ⟨undef, rfl, trivial, h⟩
   ·intro q1 w Γx Ωx h
    refine OpS.callP h Tryz.func223 rfl rfl rfl rfl (vs := [.int .i64 s2.1]) rfl (ref04_Raw_ok e20) .nil ?_
    rintro _ w28 _ _ _ ⟨rfl, rfl, rfl, rfl⟩ h67
    have h68 := h67 rfl rfl
    simp only [ca, na] at h68
    exact ⟨undef, rfl, trivial, h68⟩
   ·intro q1 w Γx Ωx h
    refine OpS.mv rfl rfl rfl ?_
    exact ⟨undef, rfl, trivial, h⟩
   ·intro q1 w Γx Ωx h
    have h69 := h.front (.cons .z .nil)
    refine OpS.callO h69 Tryz.func224 rfl rfl rfl rfl (vs := [v0]) rfl (made_Dice_Micro_ok e21) rfl .nil ?_
    rintro _ w29 _ _ _ ⟨rfl, rfl, rfl, rfl⟩ h70
    have h71 := h70
    simp only [ca, na] at h71
    exact ⟨undef, rfl, trivial, h71⟩
   ·intro q1 w Γx Ωx h
    refine OpS.build (f := true) (x' := (⟨y13, y14.1⟩ : Point_)) h pl211 ti211 Point_.zr rfl rfl rfl (.cons rfl Point_.f0 rfl V.int (.cons rfl Point_.f1 rfl V.int .nil)) (fun u h72 => ?_)
    exact ⟨u, rfl, trivial, h72⟩
   ·intro q1 w Γx Ωx h
    refine OpS.lit (r := Point_.rep) (f := true) h Tryz.underlying67 ti211 rfl rfl rfl rfl rfl (.cons rfl (V.at .z) .nil) rfl rfl (fun u w30 h73 => ?_)
    exact ⟨u, rfl, trivial, h73⟩
   have h74 := h
   obtain ⟨x3, e22, hF⟩ := bindP_use hF
   refine op (OpS.app (f' := true) h74 (.s (.s (.s .z))) Tryz.underlying67 ti211 rfl rfl rfl rfl rfl rfl rfl (V.at (.s .z)) (.inr Point_.pure) e22 (fun u7 w31 h75 => ?_))
   refine op (OpS.fbox (o3 := 6) h75 (.s .z) PA.z fa69_6 rfl rfl rfl rfl ?_)
   refine op (OpS.storeC (f' := true) (fr := (Rep.raw u7)) (r' := (Rep.iso (fun s : Conversion_ => (s.Form, s.Signed, s.M, s.B, s.K1, s.K2, s.Points, ())) (Rep.prod (Rep.int .i64) (Rep.prod Rep.bool (Rep.prod (Rep.int .i64) (Rep.prod (Rep.int .i64) (Rep.prod (Rep.int .i64) (Rep.prod (Rep.int .i64) (Rep.prod (Rep.raw (α := List Point_) u7) Rep.unit))))))))) (x' := (⟨(IntKind.i64.wrap (1 + y1.1)), y2.1, 0, 0, 0, 0, []⟩ : Conversion_)) h75 (.s .z) PA.a (Chg.iso _ (Chg.there (Chg.there (Chg.there (Chg.there (Chg.there (Chg.there (Chg.here (Chg.id (by rfl)))))))))) (Ty.like ty67 (by rfl) (by rfl)) rfl rfl rfl (V.raw (f := true) (St.own1 h75 .z) ([])) (.inl rfl) (fun w32 h76 => ?_))
   refine nil ?_
   refine Run.reg ?_
   refine mv rfl rfl rfl ?_
   refine mv rfl rfl rfl ?_
   obtain ⟨y15, e23, hF⟩ := bindP_use hF
   have h77 := h76.front (.cons (.s (.s .z)) .nil)
   refine op (OpS.callO h77 Tryz.func54 rfl rfl rfl rfl (vs := [v0, .int .i64 18]) rfl (made_Dice_Next_ok e23) rfl .nil ?_)
   rintro _ w33 _ _ _ ⟨rfl, rfl, rfl, rfl⟩ h78
   have h79 := h78
   simp only [ca, na] at h79
   refine bin rfl rfl rfl rfl rfl ?_
   refine bin rfl rfl rfl rfl rfl ?_
   refine asg rfl rfl rfl ?_
   obtain ⟨x4, e24, hF⟩ := letP_use hF
   refine RunL.name e24 ?_
   refine nil ?_
   refine Run.endBlock ?_
   refine Run.reg ?_
   refine mv rfl rfl rfl ?_
   refine bin rfl rfl rfl rfl rfl ?_
   refine asg rfl rfl rfl ?_
   obtain ⟨x5, e25, hF⟩ := letP_use hF
   refine RunL.name e25 ?_
   refine nil ?_
   refine Run.slim [(0, v0), (2, u1), (3, u3), (4, .int .i64 x1), (5, .int .i64 x4), (6, .int .i64 x5)] ⟨rfl, rfl, rfl, rfl, rfl, rfl, trivial⟩ ?_
   exact hk1 (x4, x5, y15.2, x3) _ _ ⟨u7, rfl, (h79.facts .nil).picks (.cons .z (.cons (.s (.s .z)) (.cons .z (.cons .z .nil))))⟩ hF
  ·
   refine Run.exit rfl ?_
   refine sr ?_
   refine op (OpS.loadB (fr := (Rep.iso (fun s : Conversion_ => (s.Form, s.Signed, s.M, s.B, s.K1, s.K2, s.Points, ())) (Rep.prod (Rep.int .i64) (Rep.prod Rep.bool (Rep.prod (Rep.int .i64) (Rep.prod (Rep.int .i64) (Rep.prod (Rep.int .i64) (Rep.prod (Rep.int .i64) (Rep.prod (Rep.raw (α := List Point_) u6) Rep.unit))))))))) h58 (.s (.s .z)) PA.z (GetS.ok GetS.id) (Ty.like ty69 (by rfl) (by rfl)) rfl rfl rfl (fun u8 h80 => ?_))
   refine op (OpS.storeC (f' := true) (fr := (Rep.iso (fun s : Conversion_ => (s.Form, s.Signed, s.M, s.B, s.K1, s.K2, s.Points, ())) (Rep.prod (Rep.int .i64) (Rep.prod Rep.bool (Rep.prod (Rep.int .i64) (Rep.prod (Rep.int .i64) (Rep.prod (Rep.int .i64) (Rep.prod (Rep.int .i64) (Rep.prod (Rep.raw (α := List Point_) u6) Rep.unit))))))))) (r' := (Rep.iso (fun s : Conversion_ => (s.Form, s.Signed, s.M, s.B, s.K1, s.K2, s.Points, ())) (Rep.prod (Rep.int .i64) (Rep.prod Rep.bool (Rep.prod (Rep.int .i64) (Rep.prod (Rep.int .i64) (Rep.prod (Rep.int .i64) (Rep.prod (Rep.int .i64) (Rep.prod (Rep.raw (α := List Point_) u6) Rep.unit))))))))) (x' := (⟨(IntKind.i64.wrap (1 + y1.1)), y2.1, 0, 0, 0, 0, []⟩ : Conversion_)) h80 (.s .z) PA.z (Chg.id (by rfl)) (Ty.like ty69 (by rfl) (by rfl)) rfl rfl rfl (V.at .z) (.inl rfl) (fun w34 h81 => ?_))
   refine nil ?_
   obtain ⟨u9, hu2, h82⟩ := res_box h81 .z (Ty.like ty69 (by rfl) (by rfl))
   have h83 := (h82.pick (.s (.s (.s .z)))).freeze
   have h84 := h83.pick .z
   have h85 := St.boxJ (r' := Conversion_.rep) (x' := (⟨(IntKind.i64.wrap (1 + y1.1)), y2.1, 0, 0, 0, 0, s2.2.2.2⟩ : Conversion_)) h84 (fun _ _ hs_ => (Jn.iso _ (Jn.prod Jn.refl (Jn.prod Jn.refl (Jn.prod Jn.refl (Jn.prod Jn.refl (Jn.prod Jn.refl (Jn.prod Jn.refl (Jn.prod (Jn.raw ((V.at .z) _ _ hs_) rfl) Jn.refl)))))))))
   have h86 := h85.pick (.s (.s .z))
   have h87 := St.boxJ (r' := Conversion_.rep) (x' := (⟨(IntKind.i64.wrap (1 + y1.1)), y2.1, 0, 0, 0, 0, s2.2.2.2⟩ : Conversion_)) h86 (fun _ _ hs_ => (Jn.iso _ (Jn.prod Jn.refl (Jn.prod Jn.refl (Jn.prod Jn.refl (Jn.prod Jn.refl (Jn.prod Jn.refl (Jn.prod Jn.refl (Jn.prod (Jn.raw ((V.at .z) _ _ hs_) rfl) Jn.refl)))))))))
   have h88 := St.addV (f := true) (r := Conversion_.rep) (x := (⟨(IntKind.i64.wrap (1 + y1.1)), y2.1, 0, 0, 0, 0, s2.2.2.2⟩ : Conversion_)) h87 (V.jn (r := (Rep.iso (fun s : Conversion_ => (s.Form, s.Signed, s.M, s.B, s.K1, s.K2, s.Points, ())) (Rep.prod (Rep.int .i64) (Rep.prod Rep.bool (Rep.prod (Rep.int .i64) (Rep.prod (Rep.int .i64) (Rep.prod (Rep.int .i64) (Rep.prod (Rep.int .i64) (Rep.prod (Rep.raw (α := List Point_) u6) Rep.unit))))))))) (x := (⟨(IntKind.i64.wrap (1 + y1.1)), y2.1, 0, 0, 0, 0, []⟩ : Conversion_)) (V.at (.s .z)) rfl (fun _ _ hs_ => (Jn.iso _ (Jn.prod Jn.refl (Jn.prod Jn.refl (Jn.prod Jn.refl (Jn.prod Jn.refl (Jn.prod Jn.refl (Jn.prod Jn.refl (Jn.prod (Jn.raw ((V.at .z) _ _ hs_) rfl) Jn.refl))))))))))
   refine Run.retP rfl (.cell rfl hu2 .nil) ?_
   cases hF
   exact Post.mk' ⟨u9, rfl, rfl, rfl, rfl⟩ (h88.picks (.cons (.s (.s .z)) .nil)) (.val (V.at .z) .nil)
theorem ref10_Has_ok {fuel : Nat} {a0 : Int} {a1 : Int} {y : Bool} (hF : ref10_Has fuel a0 a1 = some y) {w : World} :
  Spec Tryz.prog 225 [.int .u16 a0, .int .i64 a1].toArray w [] [] (fun v Γr Ωr Ωo => v = .bool y ∧ Γr = [] ∧ Ωr = [] ∧ Ωo = []) := by
 refine Spec.of (L := [(0, .int .u16 a0), (1, .int .i64 a1)]) Tryz.func225 rfl ⟨rfl, rfl, trivial⟩ rfl (fun e h => ?_)
 unfold ref10_Has at hF
 refine sr ?_
 refine asg rfl rfl rfl ?_
 refine nil ?_
 refine sr ?_
 refine mv rfl rfl rfl ?_
 refine mv rfl rfl rfl ?_
 refine op (OpS.conv Tryz.underlying3 Tryz.underlying271 rfl rfl rfl ?_)
 obtain ⟨e1, hF⟩ := chk_use hF
 refine op (OpS.shr rfl rfl rfl rfl e1 ?_)
 refine op (OpS.rem rfl rfl rfl rfl (by decide) ?_)
 refine bin rfl rfl rfl rfl rfl ?_
 refine asg rfl rfl rfl ?_
 obtain ⟨x1, e2, hF⟩ := letP_use hF
 refine RunL.nameb e2 ?_
 refine nil ?_
 refine Run.retP rfl (.tmp rfl .nil) ?_
 cases hF
 exact Post.mk' ⟨rfl, rfl, rfl, rfl⟩ (h.picks .nil) .nil
set_option maxRecDepth 20000 in
theorem made_Dice_thresholds_ok {fuel : Nat} {a0 : made_Dice} {a1 : Bool} {y : Thresholds_ × made_Dice} (hF : made_Dice_thresholds fuel a0 a1 = some y) {w : World} {v0 : Value} :
  Spec Tryz.prog 172 [v0, .bool a1].toArray w [] [(false, .box 163 made_Dice.rep v0 a0)] (fun v Γr Ωr Ωo => ∃ u0 : Value, v = u0 ∧ Γr = [(true, .val Thresholds_.rep u0 y.1)] ∧ Ωr = [] ∧ Ωo = [(false, .box 163 made_Dice.rep v0 y.2)]) := by
 refine Spec.of (L := [(0, v0), (1, .bool a1)]) Tryz.func172 rfl ⟨rfl, rfl, trivial⟩ rfl (fun e h => ?_)
 unfold made_Dice_thresholds at hF
 refine sr ?_
 refine op (OpS.alloc h ti72 Thresholds_.zr rfl rfl (fun u1 w1 h1 => ?_))
 refine nil ?_
 refine sr ?_
 refine mv rfl rfl rfl ?_
 obtain ⟨y1, e1, hF⟩ := bindP_use hF
 have h2 := h1.front (.cons (.s .z) .nil)
 refine op (OpS.callO h2 Tryz.func54 rfl rfl rfl rfl (vs := [v0, .int .i64 64]) rfl (made_Dice_Next_ok e1) rfl .nil ?_)
 rintro _ w2 _ _ _ ⟨rfl, rfl, rfl, rfl⟩ h3
 have h4 := h3
 simp only [ca, na] at h4
 refine op (OpS.conv Tryz.underlying3 Tryz.underlying5 rfl rfl rfl ?_)
 refine op (OpS.build (f := true) (x' := (⟨(IntKind.u8.wrap y1.1), (List.replicate 6 0)⟩ : Thresholds_)) h4 pl72 ti72 Thresholds_.zr rfl rfl rfl (.cons rfl Thresholds_.f0 rfl V.int .nil) (fun u2 h5 => ?_))
 refine op (OpS.alloc h5 ti72 Thresholds_.zr rfl rfl (fun u3 w3 h6 => ?_))
 refine op (OpS.storeB (f' := true) h6 .z PA.z Put.id ty72 rfl rfl rfl (V.at .z) (.inl rfl) (fun w4 h7 => ?_))
 refine nil ?_
 refine sr ?_
 refine mv rfl rfl rfl ?_
 obtain ⟨y2, e2, hF⟩ := bindP_use hF
 refine op (OpS.callP h7 Tryz.func222 rfl rfl rfl rfl (vs := [.bool a1]) rfl (ref04_Least_ok e2) .nil ?_)
 rintro _ w5 _ _ _ ⟨rfl, rfl, rfl, rfl⟩ h8
 have h9 := h8 rfl rfl
 simp only [ca, na] at h9
 refine mv rfl rfl rfl ?_
 obtain ⟨y3, e3, hF⟩ := bindP_use hF
 have h10 := h9.front (.cons (.s .z) .nil)
 refine op (OpS.callO h10 Tryz.func54 rfl rfl rfl rfl (vs := [v0, .int .i64 40]) rfl (made_Dice_Next_ok e3) rfl .nil ?_)
 rintro _ w6 _ _ _ ⟨rfl, rfl, rfl, rfl⟩ h11
 have h12 := h11
 simp only [ca, na] at h12
 refine bin rfl rfl rfl rfl rfl ?_
 refine asg rfl rfl rfl ?_
 obtain ⟨x1, e4, hF⟩ := letP_use hF
 refine RunL.name e4 ?_
 refine nil ?_
 refine sr ?_
 refine op (OpS.buildA (f := true) (r := (Rep.int .i64)) h12 Tryz.underlying346 ti3 rfl ti346 rfl rfl rfl (.cons rfl V.int (.cons rfl V.int (.cons rfl V.int (.cons rfl V.int (.cons rfl V.int (.cons rfl V.int .nil)))))) rfl (fun u4 h13 => ?_))
 refine op (OpS.alloc h13 ti346 (Zr.of (Zr.arr (Zr.int .i64 0) 6) rfl) rfl rfl (fun u5 w7 h14 => ?_))
 obtain ⟨d1, e5, hF⟩ := letP_use hF
 refine op (OpS.storeB (f' := true) h14 .z PA.z (Put.of Put.id e5) ty346 rfl rfl rfl (V.at .z) (.inl rfl) (fun w8 h15 => ?_))
 refine nil ?_
 refine Run.seq ?_
 refine sr ?_
 refine asg rfl rfl rfl ?_
 refine nil ?_
 refine Run.block ?_
 refine Run.slim [(0, v0), (4, u1), (5, u3), (6, .int .i64 x1), (7, u5), (8, .int .i64 0)] ⟨rfl, rfl, rfl, rfl, rfl, rfl, trivial⟩ ?_
 refine Run.loopP (σ := (Int × Int × made_Dice × Thresholds_)) (fun s_ L_ w_ => L_ = [(0, v0), (4, u1), (5, u3), (6, .int .i64 s_.1), (7, u5), (8, .int .i64 s_.2.1)] ∧ St e w_ [] [(false, .box 163 made_Dice.rep v0 s_.2.2.1), (true, .box 72 Thresholds_.rep u1 Thresholds_.z), (true, .box 72 Thresholds_.rep u3 s_.2.2.2), (true, .box 346 (Rep.arr 6 (Rep.int .i64)) u5 d1)]) hF ⟨rfl, (h15.facts .nil).picks (.cons (.s .z) (.cons (.s (.s .z)) (.cons (.s .z) (.cons .z .nil))))⟩ (fun k1 hk1 s1 _ w9 hI hF => ?_)
 obtain ⟨rfl, h16⟩ := hI
 refine Run.seq ?_
 refine sr ?_
 refine mv rfl rfl rfl ?_
 refine bin rfl rfl rfl rfl rfl ?_
 refine nil ?_
 refine Run.ite rfl hF (fun e6 hF => ?_) (fun e6 hF => ?_)
 ·
  refine Run.skip ?_
  refine Run.seq ?_
  refine Run.block ?_
  refine Run.seq ?_
  refine sr ?_
  refine mv rfl rfl rfl ?_
  refine bin rfl rfl rfl rfl rfl ?_
  refine nil ?_
  refine Run.join (σ := Int) (fun s_ L_ w_ => L_ = [(0, v0), (4, u1), (5, u3), (6, .int .i64 s_), (7, u5), (8, .int .i64 s1.2.1)] ∧ St e w_ [] [(false, .box 163 made_Dice.rep v0 s1.2.2.1), (true, .box 72 Thresholds_.rep u1 Thresholds_.z), (true, .box 72 Thresholds_.rep u3 s1.2.2.2), (true, .box 346 (Rep.arr 6 (Rep.int .i64)) u5 d1)]) hF (fun s2 _ w10 hI hF => ?_) (fun j1 hj1 hF => ?_)
  ·
   obtain ⟨rfl, h17⟩ := hI
   refine Run.seq ?_
   have h18 := h17.picks (.cons (.s (.s .z)) (.cons (.s (.s .z)) (.cons .z (.cons .z .nil))))
   obtain ⟨x2, e7, hF⟩ := bindP_use hF
   obtain ⟨e8, hF⟩ := chk_use hF
   refine Run.drawV (Ωs := [(false, .box 163 made_Dice.rep v0 s1.2.2.1), (true, .box 72 Thresholds_.rep u1 Thresholds_.z)]) [.kr 27 (padd u3 0) [0], .kr 28 (.int .u8 s1.2.2.2.Mask) [0], .k 29 (.int .u16 (IntKind.u16.wrap s1.2.2.2.Mask)), .k 30 (.int .i64 s1.2.1), .kr 31 (padd u5 (0 + (s1.2.1 : Int).toNat * (Rep.int .i64).n)) [1], .kr 32 (.int .i64 x2) [1]] [[], [0], [1], [], [3], [4]] [[(true, .box 72 Thresholds_.rep u3 s1.2.2.2)], [(true, .box 346 (Rep.arr 6 (Rep.int .i64)) u5 d1)]] [0, 1, 2, 3, 4, 5, 6, 7] Try_mixed rfl rfl rfl h18 (.cons ?_ (.cons ?_ (.cons ?_ (.cons ?_ (.cons ?_ (.cons ?_ .nil)))))) (fun q1 w hq1 h => ?_)
   ·intro q1 w Γx Ωx h
    refine OpS.fbox (o3 := 0) h .z PA.z fa72_0 rfl rfl rfl rfl ?_
    exact ⟨undef, rfl, trivial, h⟩
   ·intro q1 w Γx Ωx h
    refine OpS.loadBi h .z PA.a (Get.fld Thresholds_.f0) ty5 rfl rfl rfl ?_
    exact ⟨undef, rfl, trivial, h⟩
   ·intro q1 w Γx Ωx h
    refine OpS.conv Tryz.underlying5 Tryz.underlying49 rfl rfl rfl ?_
    exact ⟨undef, rfl, trivial, h⟩
   ·intro q1 w Γx Ωx h
    refine OpS.mv rfl rfl rfl ?_
    exact ⟨undef, rfl, trivial, h⟩
   ·intro q1 w Γx Ωx h
    refine OpS.ibox h .z PA.z Tryz.underlying346 ty3 (Nat.eq_of_beq_eq_true e8) rfl rfl rfl rfl e7 ?_
    exact ⟨undef, rfl, trivial, h⟩
   ·intro q1 w Γx Ωx h
    refine OpS.loadBi h .z PA.a (Get.comp Get.id (Get.arr e7)) ty3 rfl rfl rfl ?_
    exact ⟨undef, rfl, trivial, h⟩
   have h19 := h
   obtain ⟨y4, e9, hF⟩ := bindP_use hF
   refine op (OpS.callP h19 Tryz.func225 rfl rfl rfl rfl (vs := [.int .u16 (IntKind.u16.wrap s1.2.2.2.Mask), .int .i64 x2]) rfl (ref10_Has_ok e9) .nil ?_)
   rintro _ w11 _ _ _ ⟨rfl, rfl, rfl, rfl⟩ h20
   have h21 := h20 rfl rfl
   simp only [ca, na] at h21
   refine nil ?_
   refine Run.ite rfl hF (fun e10 hF => ?_) (fun e10 hF => ?_)
   ·
    refine Run.seq ?_
    obtain ⟨x3, e11, hF⟩ := bindP_use hF
    obtain ⟨e12, hF⟩ := chk_use hF
    obtain ⟨y5, e13, hF⟩ := bindP_use hF
    refine Run.drawV (Ωs := [(false, .box 163 made_Dice.rep v0 s1.2.2.1), (true, .box 72 Thresholds_.rep u1 Thresholds_.z)]) [.k 34 (.int .i64 s1.2.1), .kr 35 (padd u5 (0 + (s1.2.1 : Int).toNat * (Rep.int .i64).n)) [1], .kr 36 (.int .i64 x3) [1], .k 37 (.int .i64 s2), .k 38 (.int .u8 y5), .kr 39 (padd u3 1) [0]] [[], [0], [1], [], [3], []] [[(true, .box 72 Thresholds_.rep u3 s1.2.2.2)], [(true, .box 346 (Rep.arr 6 (Rep.int .i64)) u5 d1)]] [0, 1, 2, 3, 4, 5, 6, 7] Try_mixed rfl rfl rfl h21 (.cons ?_ (.cons ?_ (.cons ?_ (.cons ?_ (.cons ?_ (.cons ?_ .nil)))))) (fun q2 w hq2 h => ?_)
    ·intro q2 w Γx Ωx h
     refine OpS.mv rfl rfl rfl ?_
     exact ⟨undef, rfl, trivial, h⟩
    ·intro q2 w Γx Ωx h
     refine OpS.ibox h .z PA.z Tryz.underlying346 ty3 (Nat.eq_of_beq_eq_true e12) rfl rfl rfl rfl e11 ?_
     exact ⟨undef, rfl, trivial, h⟩
    ·intro q2 w Γx Ωx h
     refine OpS.loadBi h .z PA.a (Get.comp Get.id (Get.arr e11)) ty3 rfl rfl rfl ?_
     exact ⟨undef, rfl, trivial, h⟩
    ·intro q2 w Γx Ωx h
     refine OpS.mv rfl rfl rfl ?_
     exact ⟨undef, rfl, trivial, h⟩
    ·intro q2 w Γx Ωx h
     refine OpS.callP h Tryz.func223 rfl rfl rfl rfl (vs := [.int .i64 s2]) rfl (ref04_Raw_ok e13) .nil ?_
     rintro _ w13 _ _ _ ⟨rfl, rfl, rfl, rfl⟩ h24
     have h25 := h24 rfl rfl
     simp only [ca, na] at h25
     exact ⟨undef, rfl, trivial, h25⟩
    ·intro q2 w Γx Ωx h
     refine OpS.fbox (o3 := 1) h .z PA.z fa72_1 rfl rfl rfl rfl ?_
     exact ⟨undef, rfl, trivial, h⟩
    have h26 := h
    obtain ⟨x4, e14, hF⟩ := bindP_use hF
    obtain ⟨e15, hF⟩ := chk_use hF
    refine op (OpS.ibox h26 .z PA.a Tryz.underlying70 ty5 (Nat.eq_of_beq_eq_true e15) rfl rfl rfl rfl e14 ?_)
    obtain ⟨d2, e16, hF⟩ := letP_use hF
    refine op (OpS.storeB (f' := true) h26 .z PA.a (Put.of (Put.comp (Get.fld Thresholds_.f1) (Put.arr e14) (Put.fld Thresholds_.f1)) e16) ty5 rfl rfl rfl V.int (.inl rfl) (fun w14 h27 => ?_))
    refine nil ?_
    refine Run.reg ?_
    refine mv rfl rfl rfl ?_
    refine mv rfl rfl rfl ?_
    obtain ⟨y6, e17, hF⟩ := bindP_use hF
    have h28 := h27.front (.cons (.s (.s .z)) .nil)
    refine op (OpS.callO h28 Tryz.func54 rfl rfl rfl rfl (vs := [v0, .int .i64 36]) rfl (made_Dice_Next_ok e17) rfl .nil ?_)
    rintro _ w15 _ _ _ ⟨rfl, rfl, rfl, rfl⟩ h29
    have h30 := h29
    simp only [ca, na] at h30
    refine bin rfl rfl rfl rfl rfl ?_
    refine asg rfl rfl rfl ?_
    obtain ⟨x5, e18, hF⟩ := letP_use hF
    refine RunL.name e18 ?_
    refine nil ?_
    refine Run.endBlock ?_
    refine Run.reg ?_
    refine mv rfl rfl rfl ?_
    refine bin rfl rfl rfl rfl rfl ?_
    refine asg rfl rfl rfl ?_
    obtain ⟨x6, e19, hF⟩ := letP_use hF
    refine RunL.name e19 ?_
    refine nil ?_
    refine Run.slim [(0, v0), (4, u1), (5, u3), (6, .int .i64 x5), (7, u5), (8, .int .i64 x6)] ⟨rfl, rfl, rfl, rfl, rfl, rfl, trivial⟩ ?_
    exact hk1 (x5, x6, y6.2, d2) _ _ ⟨rfl, (h30.facts .nil).picks (.cons .z (.cons (.s (.s .z)) (.cons .z (.cons .z .nil))))⟩ hF
   ·
    refine Run.skip ?_
    refine Run.endBlock ?_
    refine Run.reg ?_
    refine mv rfl rfl rfl ?_
    refine bin rfl rfl rfl rfl rfl ?_
    refine asg rfl rfl rfl ?_
    obtain ⟨x7, e20, hF⟩ := letP_use hF
    refine RunL.name e20 ?_
    refine nil ?_
    refine Run.slim [(0, v0), (4, u1), (5, u3), (6, .int .i64 s2), (7, u5), (8, .int .i64 x7)] ⟨rfl, rfl, rfl, rfl, rfl, rfl, trivial⟩ ?_
    exact hk1 (s2, x7, s1.2.2.1, s1.2.2.2) _ _ ⟨rfl, (h21.facts .nil).picks (.cons (.s (.s .z)) (.cons (.s (.s .z)) (.cons .z (.cons .z .nil))))⟩ hF
  ·
   refine Run.ite rfl hF (fun e21 hF => ?_) (fun e21 hF => ?_)
   ·
    refine Run.reg ?_
    refine mv rfl rfl rfl ?_
    refine bin rfl rfl rfl rfl rfl ?_
    refine asg rfl rfl rfl ?_
    obtain ⟨x8, e22, hF⟩ := letP_use hF
    refine RunL.name e22 ?_
    refine nil ?_
    refine Run.slim [(0, v0), (4, u1), (5, u3), (6, .int .i64 x8), (7, u5), (8, .int .i64 s1.2.1)] ⟨rfl, rfl, rfl, rfl, rfl, rfl, trivial⟩ ?_
    exact hj1 (x8) _ _ ⟨rfl, (h16.facts .nil).picks (.cons .z (.cons .z (.cons .z (.cons .z .nil))))⟩ hF
   ·
    refine Run.skip ?_
    refine Run.slim [(0, v0), (4, u1), (5, u3), (6, .int .i64 s1.1), (7, u5), (8, .int .i64 s1.2.1)] ⟨rfl, rfl, rfl, rfl, rfl, rfl, trivial⟩ ?_
    exact hj1 (s1.1) _ _ ⟨rfl, (h16.facts .nil).picks (.cons .z (.cons .z (.cons .z (.cons .z .nil))))⟩ hF
 ·
  refine Run.exit rfl ?_
  refine sr ?_
  refine op (OpS.loadB h16 (.s (.s .z)) PA.z Get.id ty72 rfl rfl rfl (fun u6 h31 => ?_))
  refine op (OpS.storeB (f' := true) h31 (.s .z) PA.z Put.id ty72 rfl rfl rfl (V.at .z) (.inl rfl) (fun w16 h32 => ?_))
  refine nil ?_
  obtain ⟨u7, hu1, h33⟩ := res_box h32 .z ty72
  refine Run.retP rfl (.cell rfl hu1 .nil) ?_
  cases hF
  exact Post.mk' ⟨u7, rfl, rfl, rfl, rfl⟩ (h33.picks (.cons (.s .z) .nil)) (.val (V.at .z) .nil)
set_option maxHeartbeats 8000000 in set_option maxRecDepth 20000 in
theorem made_Dice_Sensor_ok {fuel : Nat} {a0 : made_Dice} {a1 : Int} {y : Sensor_ × made_Dice} (hF : made_Dice_Sensor fuel a0 a1 = some y) {w : World} {v0 : Value} :
  Spec Tryz.prog 102 [v0, .int .u8 a1].toArray w [] [(false, .box 163 made_Dice.rep v0 a0)] (fun v Γr Ωr Ωo => ∃ u0 : Value, v = u0 ∧ Γr = [(true, .val Sensor_.rep u0 y.1)] ∧ Ωr = [] ∧ Ωo = [(false, .box 163 made_Dice.rep v0 y.2)]) := by
 refine Spec.of (L := [(0, v0), (1, .int .u8 a1)]) Tryz.func102 rfl ⟨rfl, rfl, trivial⟩ rfl (fun e h => ?_)
 unfold made_Dice_Sensor at hF
 refine sr ?_
 refine op (OpS.alloc h ti74 Sensor_.zr rfl rfl (fun u1 w1 h1 => ?_))
 refine nil ?_
 refine sr ?_
 refine mv rfl rfl rfl ?_
 refine mv rfl rfl rfl ?_
 obtain ⟨y1, e1, hF⟩ := bindP_use hF
 have h2 := h1.front (.cons (.s .z) .nil)
 refine op (OpS.callO h2 Tryz.func54 rfl rfl rfl rfl (vs := [v0, .int .i64 4]) rfl (made_Dice_Next_ok e1) rfl .nil ?_)
 rintro _ w2 _ _ _ ⟨rfl, rfl, rfl, rfl⟩ h3
 have h4 := h3
 simp only [ca, na] at h4
 refine bin rfl rfl rfl rfl rfl ?_
 refine op (OpS.conv Tryz.underlying3 Tryz.underlying5 rfl rfl rfl ?_)
 refine mv rfl rfl rfl ?_
 obtain ⟨y2, e2, hF⟩ := bindP_use hF
 have h5 := h4.front (.cons .z .nil)
 refine op (OpS.callO h5 Tryz.func76 rfl rfl rfl rfl (vs := [v0]) rfl (made_Dice_Byte_ok e2) rfl .nil ?_)
 rintro _ w3 _ _ _ ⟨rfl, rfl, rfl, rfl⟩ h6
 have h7 := h6
 simp only [ca, na] at h7
 refine mv rfl rfl rfl ?_
 refine mv rfl rfl rfl ?_
 obtain ⟨y3, e3, hF⟩ := bindP_use hF
 have h8 := h7.front (.cons .z .nil)
 refine op (OpS.callO h8 Tryz.func54 rfl rfl rfl rfl (vs := [v0, .int .i64 16]) rfl (made_Dice_Next_ok e3) rfl .nil ?_)
 rintro _ w4 _ _ _ ⟨rfl, rfl, rfl, rfl⟩ h9
 have h10 := h9
 simp only [ca, na] at h10
 refine bin rfl rfl rfl rfl rfl ?_
 obtain ⟨y4, e4, hF⟩ := bindP_use hF
 have h11 := h10.front (.cons .z .nil)
 refine op (OpS.callO h11 Tryz.func170 rfl rfl rfl rfl (vs := [v0, (.string ⟨#[67, 80, 85, 32, 84, 101, 109, 112, 46, 48, 49, 57]⟩), .int .i64 (IntKind.i64.wrap (1 + y3.1))]) rfl (made_Dice_Text_ok e4) rfl (.cons (f := true) (V.str (f := true)) .nil) ?_)
 rintro u2 w5 _ _ _ ⟨_, rfl, rfl, rfl, rfl⟩ h12
 have h13 := h12
 simp only [ca, na] at h13
 refine mv rfl rfl rfl ?_
 obtain ⟨y5, e5, hF⟩ := bindP_use hF
 have h14 := h13.front (.cons .z .nil)
 refine op (OpS.callO h14 Tryz.func32 rfl rfl rfl rfl (vs := [v0]) rfl (made_Dice_Entity_ok e5) rfl .nil ?_)
 rintro u3 w6 _ _ _ ⟨_, rfl, rfl, rfl, rfl⟩ h15
 have h16 := h15
 simp only [ca, na] at h16
 refine mv rfl rfl rfl ?_
 obtain ⟨y6, e6, hF⟩ := bindP_use hF
 have h17 := h16.front (.cons .z .nil)
 refine op (OpS.callO h17 Tryz.func31 rfl rfl rfl rfl (vs := [v0, .int .i64 4]) rfl (made_Dice_Bool_ok e6) rfl .nil ?_)
 rintro _ w7 _ _ _ ⟨rfl, rfl, rfl, rfl⟩ h18
 have h19 := h18
 simp only [ca, na] at h19
 refine op (OpS.build (f := true) (x' := (⟨a1, (IntKind.u8.wrap (IntKind.i64.wrap (1 + y1.1))), y2.1, y4.1, y5.1, false, Conversion_.z, Thresholds_.z, 0, 0, 0, 0, 0, y6.1, 1⟩ : Sensor_)) h19 pl74 ti74 Sensor_.zr rfl rfl rfl (.cons rfl Sensor_.f0 rfl V.int (.cons rfl Sensor_.f1 rfl V.int (.cons rfl Sensor_.f2 rfl V.int (.cons rfl Sensor_.f3 rfl (V.at (.s .z)) (.cons rfl Sensor_.f4 rfl (V.at .z) (.cons rfl Sensor_.f13 rfl V.bool (.cons rfl Sensor_.f14 rfl V.int .nil))))))) (fun u4 h20 => ?_))
 refine op (OpS.alloc h20 ti74 Sensor_.zr rfl rfl (fun u5 w8 h21 => ?_))
 refine op (OpS.storeB (f' := true) h21 .z PA.z Put.id ty74 rfl rfl rfl (V.at .z) (.inl rfl) (fun w9 h22 => ?_))
 refine nil ?_
 refine Run.seq ?_
 refine sr ?_
 refine mv rfl rfl rfl ?_
 obtain ⟨y7, e7, hF⟩ := bindP_use hF
 have h23 := h22.front (.cons (.s .z) .nil)
 refine op (OpS.callO h23 Tryz.func31 rfl rfl rfl rfl (vs := [v0, .int .i64 3]) rfl (made_Dice_Bool_ok e7) rfl .nil ?_)
 rintro _ w10 _ _ _ ⟨rfl, rfl, rfl, rfl⟩ h24
 have h25 := h24
 simp only [ca, na] at h25
 refine nil ?_
 refine Run.ite rfl hF (fun e8 hF => ?_) (fun e8 hF => ?_)
 ·
  refine sr ?_
  refine op (OpS.fbox (o3 := 6) h25 (.s .z) PA.z fa74_5 rfl rfl rfl rfl ?_)
  refine op (OpS.storeB (f' := true) h25 (.s .z) PA.a (Put.fld Sensor_.f5) ty4 rfl rfl rfl V.bool (.inl rfl) (fun w11 h26 => ?_))
  refine nil ?_
  refine sr ?_
  refine mv rfl rfl rfl ?_
  obtain ⟨y8, e9, hF⟩ := bindP_use hF
  have h27 := h26.front (.cons (.s .z) .nil)
  refine op (OpS.callO h27 Tryz.func54 rfl rfl rfl rfl (vs := [v0, .int .i64 32768]) rfl (made_Dice_Next_ok e9) rfl .nil ?_)
  rintro _ w12 _ _ _ ⟨rfl, rfl, rfl, rfl⟩ h28
  have h29 := h28
  simp only [ca, na] at h29
  refine op (OpS.conv Tryz.underlying3 Tryz.underlying49 rfl rfl rfl ?_)
  refine op (OpS.fbox (o3 := 23) h29 (.s .z) PA.z fa74_10 rfl rfl rfl rfl ?_)
  refine op (OpS.storeB (f' := true) h29 (.s .z) PA.a (Put.fld Sensor_.f10) ty49 rfl rfl rfl V.int (.inl rfl) (fun w13 h30 => ?_))
  refine nil ?_
  refine Run.seq ?_
  obtain ⟨y9, e10, hF⟩ := bindP_use hF
  refine Run.drawV (Ωs := [(true, .box 74 Sensor_.rep u1 Sensor_.z)]) [.kr 31 (padd u5 23) [0], .kr 32 (.int .u16 (IntKind.u16.wrap y8.1)) [0], .k 33 v0, ⟨some 34, some (.int .i64 y9.1), fun _ => [], fun ds_ u_ => [(false, .box 163 made_Dice.rep v0 y9.2)], [1], [], none⟩, .k 35 (.int .u16 (IntKind.u16.wrap y9.1))] [[], [0], [], [2], [3]] [[(true, .box 74 Sensor_.rep u5 (⟨a1, (IntKind.u8.wrap (IntKind.i64.wrap (1 + y1.1))), y2.1, y4.1, y5.1, true, Conversion_.z, Thresholds_.z, 0, 0, (IntKind.u16.wrap y8.1), 0, 0, y6.1, 1⟩ : Sensor_))], [(false, .box 163 made_Dice.rep v0 y8.2)]] [0, 2, 3, 4, 5, 6] Try_mixed rfl rfl rfl h30 (.cons ?_ (.cons ?_ (.cons ?_ (.cons ?_ (.cons ?_ .nil))))) (fun q1 w hq1 h => ?_)
  ·intro q1 w Γx Ωx h
   refine OpS.fbox (o3 := 23) h .z PA.z fa74_10 rfl rfl rfl rfl ?_
   exact ⟨undef, rfl, trivial, h⟩
  ·intro q1 w Γx Ωx h
   refine OpS.loadBi h .z PA.a (Get.fld Sensor_.f10) ty49 rfl rfl rfl ?_
   exact ⟨undef, rfl, trivial, h⟩
  ·intro q1 w Γx Ωx h
   refine OpS.mv rfl rfl rfl ?_
   exact ⟨undef, rfl, trivial, h⟩
  ·intro q1 w Γx Ωx h
   have h34 := h.front (.cons .z .nil)
   refine OpS.callO h34 Tryz.func54 rfl rfl rfl rfl (vs := [v0, .int .i64 4]) rfl (made_Dice_Next_ok e10) rfl .nil ?_
   rintro _ w15 _ _ _ ⟨rfl, rfl, rfl, rfl⟩ h35
   have h36 := h35
   simp only [ca, na] at h36
   exact ⟨undef, rfl, trivial, h36⟩
  ·intro q1 w Γx Ωx h
   refine OpS.conv Tryz.underlying3 Tryz.underlying49 rfl rfl rfl ?_
   exact ⟨undef, rfl, trivial, h⟩
  have h37 := h
  refine bin rfl rfl rfl rfl rfl ?_
  refine op (OpS.fbox (o3 := 24) h37 .z PA.z fa74_11 rfl rfl rfl rfl ?_)
  refine op (OpS.storeB (f' := true) h37 .z PA.a (Put.fld Sensor_.f11) ty49 rfl rfl rfl V.int (.inl rfl) (fun w16 h38 => ?_))
  refine nil ?_
  refine Run.slim [(5, u5), (4, u1), (0, v0)] ⟨rfl, rfl, rfl, trivial⟩ ?_
  refine Run.seq ?_
  obtain ⟨y10, e11, hF⟩ := bindP_use hF
  obtain ⟨y11, e12, hF⟩ := bindP_use hF
  refine Run.drawV (Ωs := [(true, .box 74 Sensor_.rep u1 Sensor_.z)]) [.kr 38 (padd u5 23) [0], .kr 39 (.int .u16 (IntKind.u16.wrap y8.1)) [0], .k 40 v0, ⟨some 41, some (.int .i64 y10.1), fun _ => [], fun ds_ u_ => [(false, .box 163 made_Dice.rep v0 y10.2)], [1], [], none⟩, .k 42 v0, ⟨some 43, some (.int .i64 y11.1), fun _ => [], fun ds_ u_ => [(false, .box 163 made_Dice.rep v0 y11.2)], [5], [], none⟩, .k 44 (.int .i64 (IntKind.i64.wrap (y10.1 * y11.1))), .k 45 (.int .u16 (IntKind.u16.wrap (IntKind.i64.wrap (y10.1 * y11.1))))] [[], [0], [], [2], [], [4], [3, 5], [6]] [[(true, .box 74 Sensor_.rep u5 (⟨a1, (IntKind.u8.wrap (IntKind.i64.wrap (1 + y1.1))), y2.1, y4.1, y5.1, true, Conversion_.z, Thresholds_.z, 0, 0, (IntKind.u16.wrap y8.1), (bAndNot .u16 (IntKind.u16.wrap y8.1) (IntKind.u16.wrap y9.1)), 0, y6.1, 1⟩ : Sensor_))], [(false, .box 163 made_Dice.rep v0 y9.2)]] [0, 2, 3, 4, 6, 7, 8, 9] Try_mixed rfl rfl rfl h38 (.cons ?_ (.cons ?_ (.cons ?_ (.cons ?_ (.cons ?_ (.cons ?_ (.cons ?_ (.cons ?_ .nil)))))))) (fun q2 w hq2 h => ?_)
  ·intro q2 w Γx Ωx h
   refine OpS.fbox (o3 := 23) h .z PA.z fa74_10 rfl rfl rfl rfl ?_
   exact ⟨undef, rfl, trivial, h⟩
  ·intro q2 w Γx Ωx h
   refine OpS.loadBi h .z PA.a (Get.fld Sensor_.f10) ty49 rfl rfl rfl ?_
   exact ⟨undef, rfl, trivial, h⟩
  ·intro q2 w Γx Ωx h
   refine OpS.mv rfl rfl rfl ?_
   exact ⟨undef, rfl, trivial, h⟩
  ·intro q2 w Γx Ωx h
   have h45 := h.front (.cons .z .nil)
   refine OpS.callO h45 Tryz.func54 rfl rfl rfl rfl (vs := [v0, .int .i64 4]) rfl (made_Dice_Next_ok e11) rfl .nil ?_
   rintro _ w19 _ _ _ ⟨rfl, rfl, rfl, rfl⟩ h46
   have h47 := h46
   simp only [ca, na] at h47
   exact ⟨undef, rfl, trivial, h47⟩
  ·intro q2 w Γx Ωx h
   refine OpS.mv rfl rfl rfl ?_
   exact ⟨undef, rfl, trivial, h⟩
  ·intro q2 w Γx Ωx h
   have h48 := h.front (.cons .z .nil)
   refine OpS.callO h48 Tryz.func54 rfl rfl rfl rfl (vs := [v0, .int .i64 300]) rfl (made_Dice_Next_ok e12) rfl .nil ?_
   rintro _ w20 _ _ _ ⟨rfl, rfl, rfl, rfl⟩ h49
   have h50 := h49
   simp only [ca, na] at h50
   exact ⟨undef, rfl, trivial, h50⟩
  ·intro q2 w Γx Ωx h
   refine OpS.bin rfl rfl rfl rfl rfl ?_
   exact ⟨undef, rfl, trivial, h⟩
  ·intro q2 w Γx Ωx h
   refine OpS.conv Tryz.underlying3 Tryz.underlying49 rfl rfl rfl ?_
   exact ⟨undef, rfl, trivial, h⟩
  have h51 := h
  refine bin rfl rfl rfl rfl rfl ?_
  refine op (OpS.fbox (o3 := 25) h51 .z PA.z fa74_12 rfl rfl rfl rfl ?_)
  refine op (OpS.storeB (f' := true) h51 .z PA.a (Put.fld Sensor_.f12) ty49 rfl rfl rfl V.int (.inl rfl) (fun w21 h52 => ?_))
  refine nil ?_
  refine sr ?_
  refine op (OpS.loadB h52 .z PA.z Get.id ty74 rfl rfl rfl (fun u6 h53 => ?_))
  refine op (OpS.storeB (f' := true) h53 (.s (.s .z)) PA.z Put.id ty74 rfl rfl rfl (V.at .z) (.inl rfl) (fun w22 h54 => ?_))
  refine nil ?_
  obtain ⟨u7, hu1, h55⟩ := res_box h54 .z ty74
  refine Run.retP rfl (.cell rfl hu1 .nil) ?_
  cases hF
  exact Post.mk' ⟨u7, rfl, rfl, rfl, rfl⟩ (h55.picks (.cons (.s (.s .z)) .nil)) (.val (V.at .z) .nil)
 ·
  refine Run.skip ?_
  refine sr ?_
  refine mv rfl rfl rfl ?_
  obtain ⟨y12, e13, hF⟩ := bindP_use hF
  have h56 := h25.front (.cons .z .nil)
  refine op (OpS.callO h56 Tryz.func54 rfl rfl rfl rfl (vs := [v0, .int .i64 3]) rfl (made_Dice_Next_ok e13) rfl .nil ?_)
  rintro _ w23 _ _ _ ⟨rfl, rfl, rfl, rfl⟩ h57
  have h58 := h57
  simp only [ca, na] at h58
  refine bin rfl rfl rfl rfl rfl ?_
  refine bin rfl rfl rfl rfl rfl ?_
  refine op (OpS.fbox (o3 := 27) h58 (.s .z) PA.z fa74_14 rfl rfl rfl rfl ?_)
  refine op (OpS.storeB (f' := true) h58 (.s .z) PA.a (Put.fld Sensor_.f14) ty3 rfl rfl rfl V.int (.inl rfl) (fun w24 h59 => ?_))
  refine nil ?_
  refine sr ?_
  refine mv rfl rfl rfl ?_
  obtain ⟨y13, e14, hF⟩ := bindP_use hF
  have h60 := h59.front (.cons (.s .z) .nil)
  refine op (OpS.callO h60 Tryz.func171 rfl rfl rfl rfl (vs := [v0]) rfl (made_Dice_Conversion_ok e14) rfl .nil ?_)
  rintro u8 w25 _ _ _ ⟨_, rfl, rfl, rfl, rfl⟩ h61
  have h62 := h61
  simp only [ca, na] at h62
  refine op (OpS.fbox (o3 := 7) h62 (.s .z) PA.z fa74_6 rfl rfl rfl rfl ?_)
  refine op (OpS.storeB (f' := true) h62 (.s .z) PA.a (Put.fld Sensor_.f6) ty69 rfl rfl rfl (V.at .z) (.inl rfl) (fun w26 h63 => ?_))
  refine nil ?_
  refine sr ?_
  refine mv rfl rfl rfl ?_
  refine op (OpS.fbox (o3 := 7) h63 .z PA.z fa74_6 rfl rfl rfl rfl ?_)
  refine op (OpS.fbox (o3 := 8) h63 .z PA.a fa69_1 rfl rfl rfl rfl ?_)
  refine op (OpS.loadBb h63 .z PA.a (Get.comp (Get.fld Sensor_.f6) (Get.fld Conversion_.f1)) ty4 rfl rfl rfl ?_)
  obtain ⟨y14, e15, hF⟩ := bindP_use hF
  have h64 := h63.front (.cons (.s .z) .nil)
  refine op (OpS.callO h64 Tryz.func172 rfl rfl rfl rfl (vs := [v0, .bool y13.1.Signed]) rfl (made_Dice_thresholds_ok e15) rfl .nil ?_)
  rintro u9 w27 _ _ _ ⟨_, rfl, rfl, rfl, rfl⟩ h65
  have h66 := h65
  simp only [ca, na] at h66
  refine op (OpS.fbox (o3 := 14) h66 (.s .z) PA.z fa74_7 rfl rfl rfl rfl ?_)
  refine op (OpS.storeB (f' := true) h66 (.s .z) PA.a (Put.fld Sensor_.f7) ty72 rfl rfl rfl (V.at .z) (.inl rfl) (fun w28 h67 => ?_))
  refine nil ?_
  refine Run.slim [(5, u5), (4, u1), (0, v0)] ⟨rfl, rfl, rfl, trivial⟩ ?_
  refine sr ?_
  refine mv rfl rfl rfl ?_
  obtain ⟨y15, e16, hF⟩ := bindP_use hF
  have h68 := h67.front (.cons (.s .z) .nil)
  refine op (OpS.callO h68 Tryz.func54 rfl rfl rfl rfl (vs := [v0, .int .i64 5]) rfl (made_Dice_Next_ok e16) rfl .nil ?_)
  rintro _ w29 _ _ _ ⟨rfl, rfl, rfl, rfl⟩ h69
  have h70 := h69
  simp only [ca, na] at h70
  refine op (OpS.conv Tryz.underlying3 Tryz.underlying5 rfl rfl rfl ?_)
  refine op (OpS.fbox (o3 := 21) h70 (.s .z) PA.z fa74_8 rfl rfl rfl rfl ?_)
  refine op (OpS.storeB (f' := true) h70 (.s .z) PA.a (Put.fld Sensor_.f8) ty5 rfl rfl rfl V.int (.inl rfl) (fun w30 h71 => ?_))
  refine nil ?_
  refine sr ?_
  refine mv rfl rfl rfl ?_
  obtain ⟨y16, e17, hF⟩ := bindP_use hF
  have h72 := h71.front (.cons (.s .z) .nil)
  refine op (OpS.callO h72 Tryz.func54 rfl rfl rfl rfl (vs := [v0, .int .i64 5]) rfl (made_Dice_Next_ok e17) rfl .nil ?_)
  rintro _ w31 _ _ _ ⟨rfl, rfl, rfl, rfl⟩ h73
  have h74 := h73
  simp only [ca, na] at h74
  refine op (OpS.conv Tryz.underlying3 Tryz.underlying5 rfl rfl rfl ?_)
  refine op (OpS.fbox (o3 := 22) h74 (.s .z) PA.z fa74_9 rfl rfl rfl rfl ?_)
  refine op (OpS.storeB (f' := true) h74 (.s .z) PA.a (Put.fld Sensor_.f9) ty5 rfl rfl rfl V.int (.inl rfl) (fun w32 h75 => ?_))
  refine nil ?_
  refine Run.seq ?_
  refine sr ?_
  refine mv rfl rfl rfl ?_
  obtain ⟨y17, e18, hF⟩ := bindP_use hF
  have h76 := h75.front (.cons (.s .z) .nil)
  refine op (OpS.callO h76 Tryz.func31 rfl rfl rfl rfl (vs := [v0, .int .i64 12]) rfl (made_Dice_Bool_ok e18) rfl .nil ?_)
  rintro _ w33 _ _ _ ⟨rfl, rfl, rfl, rfl⟩ h77
  have h78 := h77
  simp only [ca, na] at h78
  refine nil ?_
  refine Run.join (σ := (made_Dice × Sensor_)) (fun s_ L_ w_ => L_ = [(0, v0), (4, u1), (5, u5)] ∧ St e w_ [] [(false, .box 163 made_Dice.rep v0 s_.1), (true, .box 74 Sensor_.rep u1 Sensor_.z), (true, .box 74 Sensor_.rep u5 s_.2)]) hF (fun s1 _ w34 hI hF => ?_) (fun j1 hj1 hF => ?_)
  ·
   obtain ⟨rfl, h79⟩ := hI
   refine sr ?_
   refine op (OpS.fbox (o3 := 14) h79 (.s (.s .z)) PA.z fa74_7 rfl rfl rfl rfl ?_)
   refine op (OpS.fbox (o3 := 14) h79 (.s (.s .z)) PA.a fa72_0 rfl rfl rfl rfl ?_)
   refine op (OpS.loadBi h79 (.s (.s .z)) PA.a (Get.comp (Get.fld Sensor_.f7) (Get.fld Thresholds_.f0)) ty5 rfl rfl rfl ?_)
   refine op (OpS.conv Tryz.underlying5 Tryz.underlying49 rfl rfl rfl ?_)
   refine asg rfl rfl rfl ?_
   obtain ⟨x1, e19, hF⟩ := letP_use hF
   refine RunL.name e19 ?_
   refine nil ?_
   refine sr ?_
   refine mv rfl rfl rfl ?_
   refine op (OpS.fbox (o3 := 24) h79 (.s (.s .z)) PA.z fa74_11 rfl rfl rfl rfl ?_)
   obtain ⟨d1, e20, hF⟩ := letP_use hF
   refine op (OpS.storeB (f' := true) h79 (.s (.s .z)) PA.a (Put.of (Put.fld Sensor_.f11) e20) ty49 rfl rfl rfl V.int (.inl rfl) (fun w35 h80 => ?_))
   refine nil ?_
   refine sr ?_
   refine mv rfl rfl rfl ?_
   refine op (OpS.fbox (o3 := 25) h80 .z PA.z fa74_12 rfl rfl rfl rfl ?_)
   obtain ⟨d2, e21, hF⟩ := letP_use hF
   refine op (OpS.storeB (f' := true) h80 .z PA.a (Put.of (Put.fld Sensor_.f12) e21) ty49 rfl rfl rfl V.int (.inl rfl) (fun w36 h81 => ?_))
   refine nil ?_
   refine Run.seq ?_
   refine sr ?_
   refine mv rfl rfl rfl ?_
   obtain ⟨y18, e22, hF⟩ := bindP_use hF
   have h82 := h81.front (.cons (.s .z) .nil)
   refine op (OpS.callO h82 Tryz.func31 rfl rfl rfl rfl (vs := [v0, .int .i64 3]) rfl (made_Dice_Bool_ok e22) rfl .nil ?_)
   rintro _ w37 _ _ _ ⟨rfl, rfl, rfl, rfl⟩ h83
   have h84 := h83
   simp only [ca, na] at h84
   refine nil ?_
   refine Run.ite rfl hF (fun e23 hF => ?_) (fun e23 hF => ?_)
   ·
    refine sr ?_
    refine mv rfl rfl rfl ?_
    refine mv rfl rfl rfl ?_
    obtain ⟨y19, e24, hF⟩ := bindP_use hF
    have h85 := h84.front (.cons .z .nil)
    refine op (OpS.callO h85 Tryz.func54 rfl rfl rfl rfl (vs := [v0, .int .i64 64]) rfl (made_Dice_Next_ok e24) rfl .nil ?_)
    rintro _ w38 _ _ _ ⟨rfl, rfl, rfl, rfl⟩ h86
    have h87 := h86
    simp only [ca, na] at h87
    refine op (OpS.conv Tryz.underlying3 Tryz.underlying49 rfl rfl rfl ?_)
    refine bin rfl rfl rfl rfl rfl ?_
    refine op (OpS.fbox (o3 := 24) h87 (.s .z) PA.z fa74_11 rfl rfl rfl rfl ?_)
    obtain ⟨d3, e25, hF⟩ := letP_use hF
    refine op (OpS.storeB (f' := true) h87 (.s .z) PA.a (Put.of (Put.fld Sensor_.f11) e25) ty49 rfl rfl rfl V.int (.inl rfl) (fun w39 h88 => ?_))
    refine nil ?_
    refine Run.reg ?_
    refine mv rfl rfl rfl ?_
    refine mv rfl rfl rfl ?_
    obtain ⟨y20, e26, hF⟩ := bindP_use hF
    have h89 := h88.front (.cons (.s .z) .nil)
    refine op (OpS.callO h89 Tryz.func54 rfl rfl rfl rfl (vs := [v0, .int .i64 64]) rfl (made_Dice_Next_ok e26) rfl .nil ?_)
    rintro _ w40 _ _ _ ⟨rfl, rfl, rfl, rfl⟩ h90
    have h91 := h90
    simp only [ca, na] at h91
    refine op (OpS.conv Tryz.underlying3 Tryz.underlying49 rfl rfl rfl ?_)
    refine bin rfl rfl rfl rfl rfl ?_
    refine op (OpS.fbox (o3 := 25) h91 (.s .z) PA.z fa74_12 rfl rfl rfl rfl ?_)
    obtain ⟨d4, e27, hF⟩ := letP_use hF
    refine op (OpS.storeB (f' := true) h91 (.s .z) PA.a (Put.of (Put.fld Sensor_.f12) e27) ty49 rfl rfl rfl V.int (.inl rfl) (fun w41 h92 => ?_))
    refine nil ?_
    refine sr ?_
    refine op (OpS.loadB h92 .z PA.z Get.id ty74 rfl rfl rfl (fun u10 h93 => ?_))
    refine op (OpS.storeB (f' := true) h93 (.s (.s .z)) PA.z Put.id ty74 rfl rfl rfl (V.at .z) (.inl rfl) (fun w42 h94 => ?_))
    refine nil ?_
    obtain ⟨u11, hu2, h95⟩ := res_box h94 .z ty74
    refine Run.retP rfl (.cell rfl hu2 .nil) ?_
    cases hF
    exact Post.mk' ⟨u11, rfl, rfl, rfl, rfl⟩ (h95.picks (.cons (.s (.s .z)) .nil)) (.val (V.at .z) .nil)
   ·
    refine Run.skip ?_
    refine sr ?_
    refine op (OpS.loadB h84 (.s .z) PA.z Get.id ty74 rfl rfl rfl (fun u12 h96 => ?_))
    refine op (OpS.storeB (f' := true) h96 (.s (.s .z)) PA.z Put.id ty74 rfl rfl rfl (V.at .z) (.inl rfl) (fun w43 h97 => ?_))
    refine nil ?_
    obtain ⟨u13, hu3, h98⟩ := res_box h97 .z ty74
    refine Run.retP rfl (.cell rfl hu3 .nil) ?_
    cases hF
    exact Post.mk' ⟨u13, rfl, rfl, rfl, rfl⟩ (h98.picks (.cons (.s .z) .nil)) (.val (V.at .z) .nil)
  ·
   refine Run.ite rfl hF (fun e28 hF => ?_) (fun e28 hF => ?_)
   ·
    refine Run.reg ?_
    refine mv rfl rfl rfl ?_
    obtain ⟨y21, e29, hF⟩ := bindP_use hF
    have h99 := h78.front (.cons .z .nil)
    refine op (OpS.callO h99 Tryz.func76 rfl rfl rfl rfl (vs := [v0]) rfl (made_Dice_Byte_ok e29) rfl .nil ?_)
    rintro _ w44 _ _ _ ⟨rfl, rfl, rfl, rfl⟩ h100
    have h101 := h100
    simp only [ca, na] at h101
    refine op (OpS.fbox (o3 := 22) h101 (.s .z) PA.z fa74_9 rfl rfl rfl rfl ?_)
    refine op (OpS.storeB (f' := true) h101 (.s .z) PA.a (Put.fld Sensor_.f9) ty5 rfl rfl rfl V.int (.inl rfl) (fun w45 h102 => ?_))
    refine nil ?_
    refine Run.slim [(0, v0), (4, u1), (5, u5)] ⟨rfl, rfl, rfl, trivial⟩ ?_
    exact hj1 (y21.2, (⟨a1, (IntKind.u8.wrap (IntKind.i64.wrap (1 + y1.1))), y2.1, y4.1, y5.1, false, y13.1, y14.1, (IntKind.u8.wrap y15.1), y21.1, 0, 0, 0, y6.1, (IntKind.i64.wrap (1 + (IntKind.i64.wrap (2 * y12.1))))⟩ : Sensor_)) _ _ ⟨rfl, (h102.facts .nil).picks (.cons (.s .z) (.cons (.s .z) (.cons .z .nil)))⟩ hF
   ·
    refine Run.skip ?_
    refine Run.slim [(0, v0), (4, u1), (5, u5)] ⟨rfl, rfl, rfl, trivial⟩ ?_
    exact hj1 (y17.2, (⟨a1, (IntKind.u8.wrap (IntKind.i64.wrap (1 + y1.1))), y2.1, y4.1, y5.1, false, y13.1, y14.1, (IntKind.u8.wrap y15.1), (IntKind.u8.wrap y16.1), 0, 0, 0, y6.1, (IntKind.i64.wrap (1 + (IntKind.i64.wrap (2 * y12.1))))⟩ : Sensor_)) _ _ ⟨rfl, (h78.facts .nil).picks (.cons .z (.cons (.s .z) (.cons .z .nil)))⟩ hF
set_option maxRecDepth 20000 in
theorem made_Dice_Analog_ok {fuel : Nat} {a0 : made_Dice} {a1 : Int} {y : Sensor_ × made_Dice} (hF : made_Dice_Analog fuel a0 a1 = some y) {w : World} {v0 : Value} :
  Spec Tryz.prog 36 [v0, .int .u8 a1].toArray w [] [(false, .box 163 made_Dice.rep v0 a0)] (fun v Γr Ωr Ωo => ∃ u0 : Value, v = u0 ∧ Γr = [(true, .val Sensor_.rep u0 y.1)] ∧ Ωr = [] ∧ Ωo = [(false, .box 163 made_Dice.rep v0 y.2)]) := by
 refine Spec.of (L := [(0, v0), (1, .int .u8 a1)]) Tryz.func36 rfl ⟨rfl, rfl, trivial⟩ rfl (fun e h => ?_)
 unfold made_Dice_Analog at hF
 refine sr ?_
 refine op (OpS.alloc h ti74 Sensor_.zr rfl rfl (fun u1 w1 h1 => ?_))
 refine nil ?_
 refine Run.seq ?_
 refine sr ?_
 refine asg rfl rfl rfl ?_
 refine nil ?_
 refine Run.block ?_
 refine Run.slim [(0, v0), (1, .int .u8 a1), (4, u1), (5, .int .i64 0)] ⟨rfl, rfl, rfl, rfl, trivial⟩ ?_
 refine Run.loopP (σ := (Int × made_Dice)) (fun s_ L_ w_ => L_ = [(0, v0), (1, .int .u8 a1), (4, u1), (5, .int .i64 s_.1)] ∧ St e w_ [] [(false, .box 163 made_Dice.rep v0 s_.2), (true, .box 74 Sensor_.rep u1 Sensor_.z)]) hF ⟨rfl, (h1.facts .nil).picks (.cons (.s .z) (.cons .z .nil))⟩ (fun k1 hk1 s1 _ w2 hI hF => ?_)
 obtain ⟨rfl, h2⟩ := hI
 refine Run.seq ?_
 refine sr ?_
 refine mv rfl rfl rfl ?_
 refine bin rfl rfl rfl rfl rfl ?_
 refine nil ?_
 refine Run.ite rfl hF (fun e1 hF => ?_) (fun e1 hF => ?_)
 ·
  refine Run.skip ?_
  refine Run.seq ?_
  refine Run.block ?_
  refine sr ?_
  refine mv rfl rfl rfl ?_
  refine mv rfl rfl rfl ?_
  obtain ⟨y1, e2, hF⟩ := bindP_use hF
  have h3 := h2.front (.cons .z .nil)
  refine op (OpS.callO h3 Tryz.func102 rfl rfl rfl rfl (vs := [v0, .int .u8 a1]) rfl (made_Dice_Sensor_ok e2) rfl .nil ?_)
  rintro u2 w3 _ _ _ ⟨_, rfl, rfl, rfl, rfl⟩ h4
  have h5 := h4
  simp only [ca, na] at h5
  refine op (OpS.alloc h5 ti74 Sensor_.zr rfl rfl (fun u3 w4 h6 => ?_))
  refine op (OpS.storeB (f' := true) h6 .z PA.z Put.id ty74 rfl rfl rfl (V.at .z) (.inl rfl) (fun w5 h7 => ?_))
  refine nil ?_
  refine sr ?_
  refine op (OpS.fbox (o3 := 6) h7 .z PA.z fa74_5 rfl rfl rfl rfl ?_)
  refine op (OpS.loadBb h7 .z PA.a (Get.fld Sensor_.f5) ty4 rfl rfl rfl ?_)
  refine op (OpS.not rfl rfl rfl ?_)
  refine nil ?_
  refine Run.ite rfl hF (fun e3 hF => ?_) (fun e3 hF => ?_)
  ·
   refine sr ?_
   refine op (OpS.loadB h7 .z PA.z Get.id ty74 rfl rfl rfl (fun u4 h8 => ?_))
   refine op (OpS.storeB (f' := true) h8 (.s (.s .z)) PA.z Put.id ty74 rfl rfl rfl (V.at .z) (.inl rfl) (fun w6 h9 => ?_))
   refine nil ?_
   obtain ⟨u5, hu1, h10⟩ := res_box h9 .z ty74
   refine Run.retP rfl (.cell rfl hu1 .nil) ?_
   cases hF
   exact Post.mk' ⟨u5, rfl, rfl, rfl, rfl⟩ (h10.picks (.cons (.s (.s .z)) .nil)) (.val (V.at .z) .nil)
  ·
   refine Run.skip ?_
   refine Run.endBlock ?_
   refine Run.reg ?_
   refine mv rfl rfl rfl ?_
   refine bin rfl rfl rfl rfl rfl ?_
   refine asg rfl rfl rfl ?_
   obtain ⟨x1, e4, hF⟩ := letP_use hF
   refine RunL.name e4 ?_
   refine nil ?_
   refine Run.slim [(0, v0), (1, .int .u8 a1), (4, u1), (5, .int .i64 x1)] ⟨rfl, rfl, rfl, rfl, trivial⟩ ?_
   exact hk1 (x1, y1.2) _ _ ⟨rfl, (h7.facts .nil).picks (.cons (.s .z) (.cons (.s .z) .nil))⟩ hF
 ·
  refine Run.exit rfl ?_
  refine sr ?_
  refine mv rfl rfl rfl ?_
  refine op (OpS.build (f := true) (x' := (⟨1, false, 1, 0, 0, 0, []⟩ : Conversion_)) h2 pl69 ti69 Conversion_.zr rfl rfl rfl (.cons rfl Conversion_.f0 rfl V.int (.cons rfl Conversion_.f2 rfl V.int .nil)) (fun u6 h11 => ?_))
  refine op (OpS.buildA (f := true) (r := (Rep.int .u8)) h11 Tryz.underlying70 ti5 rfl ti70 rfl rfl rfl (.cons rfl V.int (.cons rfl V.int (.cons rfl V.int (.cons rfl V.int (.cons rfl V.int (.cons rfl V.int .nil)))))) rfl (fun u7 h12 => ?_))
  refine op (OpS.build (f := true) (x' := (⟨63, [30, 20, 10, 200, 210, 220]⟩ : Thresholds_)) h12 pl72 ti72 Thresholds_.zr rfl rfl rfl (.cons rfl Thresholds_.f0 rfl V.int (.cons rfl Thresholds_.f1 rfl (V.at .z) .nil)) (fun u8 h13 => ?_))
  refine op (OpS.build (f := true) (x' := (⟨a1, 1, 0, [120], Entity_.z, false, (⟨1, false, 1, 0, 0, 0, []⟩ : Conversion_), (⟨63, [30, 20, 10, 200, 210, 220]⟩ : Thresholds_), 2, 3, 0, 63, 63, false, 1⟩ : Sensor_)) h13 pl74 ti74 Sensor_.zr rfl rfl rfl (.cons rfl Sensor_.f0 rfl V.int (.cons rfl Sensor_.f1 rfl V.int (.cons rfl Sensor_.f3 rfl (V.str (f := true)) (.cons rfl Sensor_.f14 rfl V.int (.cons rfl Sensor_.f6 rfl (V.at (.s (.s .z))) (.cons rfl Sensor_.f7 rfl (V.at .z) (.cons rfl Sensor_.f8 rfl V.int (.cons rfl Sensor_.f9 rfl V.int (.cons rfl Sensor_.f11 rfl V.int (.cons rfl Sensor_.f12 rfl V.int .nil)))))))))) (fun u9 h14 => ?_))
  refine op (OpS.storeB (f' := true) h14 (.s .z) PA.z Put.id ty74 rfl rfl rfl (V.at .z) (.inl rfl) (fun w7 h15 => ?_))
  refine nil ?_
  obtain ⟨u10, hu2, h16⟩ := res_box h15 .z ty74
  refine Run.retP rfl (.cell rfl hu2 .nil) ?_
  cases hF
  exact Post.mk' ⟨u10, rfl, rfl, rfl, rfl⟩ (h16.picks (.cons (.s .z) .nil)) (.val (V.at .z) .nil)
theorem convert_floor_ok {fuel : Nat} {a0 : Int} {a1 : Int} {y : Int} (hF : convert_floor fuel a0 a1 = some y) {w : World} :
  Spec Tryz.prog 229 [.int .i64 a0, .int .i64 a1].toArray w [] [] (fun v Γr Ωr Ωo => v = .int .i64 y ∧ Γr = [] ∧ Ωr = [] ∧ Ωo = []) := by
 refine Spec.of (L := [(0, .int .i64 a0), (1, .int .i64 a1)]) Tryz.func229 rfl ⟨rfl, rfl, trivial⟩ rfl (fun e h => ?_)
 unfold convert_floor at hF
 refine sr ?_
 refine asg rfl rfl rfl ?_
 refine nil ?_
 refine sr ?_
 refine mv rfl rfl rfl ?_
 refine mv rfl rfl rfl ?_
 obtain ⟨e1, hF⟩ := chk_use hF
 refine op (OpS.quo rfl rfl rfl rfl e1 ?_)
 refine asg rfl rfl rfl ?_
 obtain ⟨x1, e2, hF⟩ := letP_use hF
 refine RunL.name e2 ?_
 refine nil ?_
 refine Run.seq ?_
 refine sr ?_
 refine mv rfl rfl rfl ?_
 refine mv rfl rfl rfl ?_
 obtain ⟨e3, hF⟩ := chk_use hF
 refine op (OpS.rem rfl rfl rfl rfl e3 ?_)
 refine bin rfl rfl rfl rfl rfl ?_
 refine nil ?_
 refine Run.ite rfl hF (fun e4 hF => ?_) (fun e4 hF => ?_)
 ·
  refine Run.reg ?_
  refine mv rfl rfl rfl ?_
  refine bin rfl rfl rfl rfl rfl ?_
  refine asg rfl rfl rfl ?_
  obtain ⟨x2, e5, hF⟩ := letP_use hF
  refine RunL.name e5 ?_
  refine nil ?_
  refine sr ?_
  refine mv rfl rfl rfl ?_
  refine asg rfl rfl rfl ?_
  refine nil ?_
  refine Run.retP rfl (.tmp rfl .nil) ?_
  cases hF
  exact Post.mk' ⟨rfl, rfl, rfl, rfl⟩ (h.picks .nil) .nil
 ·
  refine Run.skip ?_
  refine sr ?_
  refine mv rfl rfl rfl ?_
  refine asg rfl rfl rfl ?_
  refine nil ?_
  refine Run.retP rfl (.tmp rfl .nil) ?_
  cases hF
  exact Post.mk' ⟨rfl, rfl, rfl, rfl⟩ (h.picks .nil) .nil
set_option maxRecDepth 20000 in
theorem convert_between_2_2_ok {fuel : Nat} {a0 : Point_} {a1 : Int} {a2 : Conversion_} {y : Bool} (hF : convert_between_2_2 fuel a0 a1 a2 = some y) {w : World} {v0 v1 v2 : Value} :
  Spec Tryz.prog 228 [v0, v1, v2].toArray w [(false, .val Point_.rep v0 a0), (false, .ptr (Rep.int .i64) v1 a1), (false, .ptr Conversion_.rep v2 a2)] [] (fun v Γr Ωr Ωo => v = .bool y ∧ Γr = [] ∧ Ωr = [] ∧ Ωo = []) := by
 refine Spec.of (L := [(0, v0), (1, v1), (2, v2)]) Tryz.func228 rfl ⟨rfl, rfl, rfl, trivial⟩ rfl (fun e h => ?_)
 unfold convert_between_2_2 at hF
 refine sr ?_
 refine op (OpS.boxF h rfl rfl rfl (V.at .z) (fun u1 w1 h1 => ?_))
 refine asg rfl rfl rfl ?_
 refine nil ?_
 refine Run.seq ?_
 obtain ⟨y1, e1, hF⟩ := bindP_use hF
 refine Run.drawV (Ωs := []) [.k 5 (.int .i64 a1), .f 6 (fun u_ => [(false, .ptr Rep.bool u_ a2.Signed)]), .k 7 (.bool a2.Signed), .kr 8 (padd u1 0) [0], .kr 9 (.int .u8 a0.Raw) [0], .k 10 (.int .i64 y1)] [[], [], [1], [], [3], [2, 4]] [[(false, .box 211 Point_.rep u1 a0)]] [0, 1, 2, 3, 4, 5, 6] Try_mixed rfl rfl rfl h1 (.cons ?_ (.cons ?_ (.cons ?_ (.cons ?_ (.cons ?_ (.cons ?_ .nil)))))) (fun q1 w hq1 h => ?_)
 ·intro q1 w Γx Ωx h
  refine OpS.loadi h ty3 rfl rfl rfl (.s .z) ?_
  exact ⟨undef, rfl, trivial, h⟩
 ·intro q1 w Γx Ωx h
  refine OpS.fptr h fa69_1 Conversion_.f1 rfl rfl rfl (.s (.s .z)) (fun u h5 => ?_)
  exact ⟨u, rfl, trivial, h5⟩
 ·intro q1 w Γx Ωx h
  refine OpS.loadb h ty4 rfl rfl rfl .z ?_
  exact ⟨undef, rfl, trivial, h⟩
 ·intro q1 w Γx Ωx h
  refine OpS.fbox (o3 := 0) h .z PA.z fa211_0 rfl rfl rfl rfl ?_
  exact ⟨undef, rfl, trivial, h⟩
 ·intro q1 w Γx Ωx h
  refine OpS.loadBi h .z PA.a (Get.fld Point_.f0) ty5 rfl rfl rfl ?_
  exact ⟨undef, rfl, trivial, h⟩
 ·intro q1 w Γx Ωx h
  refine OpS.callP h Tryz.func51 rfl rfl rfl rfl (vs := [.bool a2.Signed, .int .u8 a0.Raw]) rfl (convert_Number_ok e1) .nil ?_
  rintro _ w3 _ _ _ ⟨rfl, rfl, rfl, rfl⟩ h6
  have h7 := h6 rfl rfl
  simp only [ca, na] at h7
  exact ⟨undef, rfl, trivial, h7⟩
 have h8 := h
 refine bin rfl rfl rfl rfl rfl ?_
 refine asg rfl rfl rfl ?_
 obtain ⟨x1, e2, hF⟩ := letP_use hF
 refine RunL.nameb e2 ?_
 refine nil ?_
 refine Run.retP rfl (.tmp rfl .nil) ?_
 cases hF
 exact Post.mk' ⟨rfl, rfl, rfl, rfl⟩ (h8.picks .nil) .nil
theorem slices_IndexFunc_api_Point_api_Point_convert_between_2_ok {fuel : Nat} {a0 : List Point_} {a1_0 : Int} {a1_1 : Conversion_} {y : Int} (hF : slices_IndexFunc_api_Point_api_Point_convert_between_2 fuel a0 a1_0 a1_1 = some y) {w : World} {v0 v1_0 v1_1 : Value} :
  Spec Tryz.prog 227 [v0, .func (.func 228) #[] #[v1_0, v1_1]].toArray w [(false, .val (Rep.slice Point_.rep) v0 a0), (false, .ptr (Rep.int .i64) v1_0 a1_0), (false, .ptr Conversion_.rep v1_1 a1_1)] [] (fun v Γr Ωr Ωo => v = .int .i64 y ∧ Γr = [] ∧ Ωr = [] ∧ Ωo = []) := by
 refine Spec.of (L := [(0, v0), (1, .func (.func 228) #[] #[v1_0, v1_1])]) Tryz.func227 rfl ⟨rfl, rfl, trivial⟩ rfl (fun e h => ?_)
 unfold slices_IndexFunc_api_Point_api_Point_convert_between_2 at hF
 refine sr ?_
 refine asg rfl rfl rfl ?_
 refine nil ?_
 refine Run.seq ?_
 refine sr ?_
 refine mv rfl rfl rfl ?_
 refine op (OpS.len h Tryz.underlying67 rfl rfl rfl (V.at .z) ?_)
 refine mv rfl rfl rfl ?_
 refine nil ?_
 refine Run.block ?_
 refine Run.slim [(0, v0), (1, .func (.func 228) #[] #[v1_0, v1_1]), (7, .int .i64 (a0.length : Int)), (8, .int .i64 0)] ⟨rfl, rfl, rfl, rfl, trivial⟩ ?_
 refine Run.loopP (σ := Int) (fun s_ L_ w_ => L_ = [(0, v0), (1, .func (.func 228) #[] #[v1_0, v1_1]), (7, .int .i64 (a0.length : Int)), (8, .int .i64 s_)] ∧ St e w_ [(false, .val (Rep.slice Point_.rep) v0 a0), (false, .ptr (Rep.int .i64) v1_0 a1_0), (false, .ptr Conversion_.rep v1_1 a1_1)] []) hF ⟨rfl, (h.facts (.atm .z (.atm (.s .z) (.atm (.s (.s .z)) .nil)))).picks .nil⟩ (fun k1 hk1 s1 _ w1 hI hF => ?_)
 obtain ⟨rfl, h1⟩ := hI
 refine sr ?_
 refine bin rfl rfl rfl rfl rfl ?_
 refine nil ?_
 refine Run.seq ?_
 refine Run.ite rfl hF (fun e1 hF => ?_) (fun e1 hF => ?_)
 ·
  refine Run.skip ?_
  refine Run.seq ?_
  refine Run.block ?_
  refine sr ?_
  refine mv rfl rfl rfl ?_
  refine asg rfl rfl rfl ?_
  refine nil ?_
  refine sr ?_
  refine mv rfl rfl rfl ?_
  refine mv rfl rfl rfl ?_
  refine mv rfl rfl rfl ?_
  obtain ⟨x1, e2, hF⟩ := bindP_use hF
  refine op (OpS.iptr h1 Tryz.underlying67 ty211 rfl rfl rfl rfl (V.at .z) e2 (fun u1 h2 => ?_))
  refine op (OpS.load h2 ty211 rfl rfl rfl .z (fun u2 h3 => ?_))
  obtain ⟨y1, e3, hF⟩ := bindP_use hF
  refine op (OpS.callPF (fl := []) (cl := [v1_0, v1_1]) h3 Tryz.func228 rfl rfl rfl rfl rfl (vs := [u2]) rfl (convert_between_2_2_ok e3) (.cons (f := false) (V.at .z) (.ptr (.s (.s (.s .z))) (.ptr (.s (.s (.s (.s .z)))) .nil))) ?_)
  rintro _ w2 _ _ _ ⟨rfl, rfl, rfl, rfl⟩ h4
  have h5 := h4 rfl rfl
  simp only [ca, na] at h5
  refine nil ?_
  refine Run.ite rfl hF (fun e4 hF => ?_) (fun e4 hF => ?_)
  ·
   refine sr ?_
   refine mv rfl rfl rfl ?_
   refine asg rfl rfl rfl ?_
   refine nil ?_
   refine Run.retP rfl (.tmp rfl .nil) ?_
   cases hF
   exact Post.mk' ⟨rfl, rfl, rfl, rfl⟩ (h5.picks .nil) .nil
  ·
   refine Run.skip ?_
   refine Run.endBlock ?_
   refine Run.reg ?_
   refine bin rfl rfl rfl rfl rfl ?_
   refine mv rfl rfl rfl ?_
   refine nil ?_
   refine Run.slim [(0, v0), (1, .func (.func 228) #[] #[v1_0, v1_1]), (7, .int .i64 (a0.length : Int)), (8, .int .i64 (IntKind.i64.wrap (s1 + 1)))] ⟨rfl, rfl, rfl, rfl, trivial⟩ ?_
   exact hk1 ((IntKind.i64.wrap (s1 + 1))) _ _ ⟨rfl, (h5.facts (.atm (.s (.s .z)) (.atm (.s (.s (.s .z))) (.atm (.s (.s (.s (.s .z)))) .nil)))).picks .nil⟩ hF
 ·
  refine Run.exit rfl ?_
  refine sr ?_
  refine asg rfl rfl rfl ?_
  refine nil ?_
  refine Run.retP rfl (.tmp rfl .nil) ?_
  cases hF
  exact Post.mk' ⟨rfl, rfl, rfl, rfl⟩ (h1.picks .nil) .nil
set_option maxRecDepth 20000 in
theorem convert_between_1_2_ok {fuel : Nat} {a0 : Int} {a1 : Conversion_} {y : Int} (hF : convert_between_1_2 fuel a0 a1 = some y) {w : World} {v1 : Value} :
  Spec Tryz.prog 226 [.int .i64 a0, v1].toArray w [(false, .ptr Conversion_.rep v1 a1)] [] (fun v Γr Ωr Ωo => v = .int .i64 y ∧ Γr = [] ∧ Ωr = [] ∧ Ωo = []) := by
 refine Spec.of (L := [(0, .int .i64 a0), (1, v1)]) Tryz.func226 rfl ⟨rfl, rfl, trivial⟩ rfl (fun e h => ?_)
 unfold convert_between_1_2 at hF
 refine sr ?_
 refine asg rfl rfl rfl ?_
 refine nil ?_
 refine Run.seq ?_
 obtain ⟨x1, e1, hF⟩ := bindP_use hF
 refine Run.drawV (Ωs := []) [.f 4 (fun u_ => [(false, .ptr Rep.bool u_ a1.Signed)]), .k 5 (.bool a1.Signed), .f 6 (fun u_ => [(false, .ptr (Rep.slice Point_.rep) u_ a1.Points)]), .f 7 (fun u_ => [(false, .val (Rep.slice Point_.rep) u_ a1.Points)]), .k 8 (.int .i64 a0), .f 9 (fun u_ => [(false, .ptr Point_.rep u_ x1)]), .f 10 (fun u_ => [(false, .ptr (Rep.int .u8) u_ x1.Raw)]), .k 11 (.int .u8 x1.Raw)] [[], [0], [], [2], [], [3, 4], [5], [6]] [] [0, 1, 2, 3, 4, 5, 6, 7] Try_mixed rfl rfl rfl h (.cons ?_ (.cons ?_ (.cons ?_ (.cons ?_ (.cons ?_ (.cons ?_ (.cons ?_ (.cons ?_ .nil)))))))) (fun q1 w hq1 h => ?_)
 ·intro q1 w Γx Ωx h
  refine OpS.fptr h fa69_1 Conversion_.f1 rfl rfl rfl .z (fun u h6 => ?_)
  exact ⟨u, rfl, trivial, h6⟩
 ·intro q1 w Γx Ωx h
  refine OpS.loadb h ty4 rfl rfl rfl .z ?_
  exact ⟨undef, rfl, trivial, h⟩
 ·intro q1 w Γx Ωx h
  refine OpS.fptr h fa69_6 Conversion_.f6 rfl rfl rfl .z (fun u h7 => ?_)
  exact ⟨u, rfl, trivial, h7⟩
 ·intro q1 w Γx Ωx h
  refine OpS.load h ty67 rfl rfl rfl .z (fun u h8 => ?_)
  exact ⟨u, rfl, trivial, h8⟩
 ·intro q1 w Γx Ωx h
  refine OpS.mv rfl rfl rfl ?_
  exact ⟨undef, rfl, trivial, h⟩
 ·intro q1 w Γx Ωx h
  refine OpS.iptr h Tryz.underlying67 ty211 rfl rfl rfl rfl (V.at .z) e1 (fun u h9 => ?_)
  exact ⟨u, rfl, trivial, h9⟩
 ·intro q1 w Γx Ωx h
  refine OpS.fptr h fa211_0 Point_.f0 rfl rfl rfl .z (fun u h10 => ?_)
  exact ⟨u, rfl, trivial, h10⟩
 ·intro q1 w Γx Ωx h
  refine OpS.loadi h ty5 rfl rfl rfl .z ?_
  exact ⟨undef, rfl, trivial, h⟩
 have h11 := h
 obtain ⟨y1, e2, hF⟩ := bindP_use hF
 refine op (OpS.callP h11 Tryz.func51 rfl rfl rfl rfl (vs := [.bool a1.Signed, .int .u8 x1.Raw]) rfl (convert_Number_ok e2) .nil ?_)
 rintro _ w1 _ _ _ ⟨rfl, rfl, rfl, rfl⟩ h12
 have h13 := h12 rfl rfl
 simp only [ca, na] at h13
 refine asg rfl rfl rfl ?_
 refine nil ?_
 refine Run.retP rfl (.tmp rfl .nil) ?_
 cases hF
 exact Post.mk' ⟨rfl, rfl, rfl, rfl⟩ (h13.picks .nil) .nil
set_option maxHeartbeats 8000000 in set_option maxRecDepth 20000 in
theorem convert_between_ok {fuel : Nat} {a0 : Conversion_} {a1 : Int} {y : Int} (hF : convert_between fuel a0 a1 = some y) {w : World} {v0 : Value} :
  Spec Tryz.prog 176 [v0, .int .i64 a1].toArray w [(false, .val Conversion_.rep v0 a0)] [] (fun v Γr Ωr Ωo => v = .int .i64 y ∧ Γr = [] ∧ Ωr = [] ∧ Ωo = []) := by
 refine Spec.of (L := [(0, v0), (1, .int .i64 a1)]) Tryz.func176 rfl ⟨rfl, rfl, trivial⟩ rfl (fun e h => ?_)
 unfold convert_between at hF
 refine sr ?_
 refine op (OpS.boxF h rfl rfl rfl (V.at .z) (fun u1 w1 h1 => ?_))
 refine op (OpS.box (f' := true) h1 rfl rfl rfl V.int (fun u2 w2 h2 => ?_))
 refine asg rfl rfl rfl ?_
 refine nil ?_
 refine sr ?_
 refine op (OpS.mkf (fl := []) (cl := [u1]) rfl rfl rfl rfl ?_)
 have h3 := (h2.pick (.s .z)).freezeBox
 refine asg rfl rfl rfl ?_
 refine nil ?_
 refine sr ?_
 refine op (OpS.fptr h3 fa69_6 Conversion_.f6 rfl rfl rfl .z (fun u3 h4 => ?_))
 refine op (OpS.load h4 ty67 rfl rfl rfl .z (fun u4 h5 => ?_))
 refine op (OpS.mkf (fl := []) (cl := [u2, u1]) rfl rfl rfl rfl ?_)
 have h6 := (h5.pick .z).freezeBox
 obtain ⟨y1, e1, hF⟩ := bindP_use hF
 refine op (OpS.callP h6 Tryz.func227 rfl rfl rfl rfl (vs := [u4, .func (.func 228) #[] #[u2, u1]]) rfl (slices_IndexFunc_api_Point_api_Point_convert_between_2_ok e1) (.cons (f := false) (V.at (.s .z)) (.ptr .z (.ptr (.s (.s (.s .z))) .nil))) ?_)
 rintro _ w3 _ _ _ ⟨rfl, rfl, rfl, rfl⟩ h7
 have h8 := h7 rfl rfl
 simp only [ca, na] at h8
 refine asg rfl rfl rfl ?_
 refine nil ?_
 refine Run.seq ?_
 refine Run.block ?_
 refine sr ?_
 refine mv rfl rfl rfl ?_
 refine bin rfl rfl rfl rfl rfl ?_
 refine asg rfl rfl rfl ?_
 obtain ⟨x1, e2, hF⟩ := letP_use hF
 refine RunL.nameb e2 ?_
 refine nil ?_
 refine Run.ite rfl hF (fun e3 hF => ?_) (fun e3 hF => ?_)
 ·
  refine sr ?_
  refine op (OpS.fptr h8 fa69_6 Conversion_.f6 rfl rfl rfl (.s (.s (.s .z))) (fun u5 h9 => ?_))
  refine op (OpS.load h9 ty67 rfl rfl rfl .z (fun u6 h10 => ?_))
  refine op (OpS.fptr h10 fa69_6 Conversion_.f6 rfl rfl rfl (.s (.s (.s (.s (.s .z))))) (fun u7 h11 => ?_))
  refine op (OpS.load h11 ty67 rfl rfl rfl .z (fun u8 h12 => ?_))
  refine op (OpS.len h12 Tryz.underlying67 rfl rfl rfl (V.at .z) ?_)
  refine bin rfl rfl rfl rfl rfl ?_
  obtain ⟨x2, e4, hF⟩ := bindP_use hF
  refine op (OpS.iptr h12 Tryz.underlying67 ty211 rfl rfl rfl rfl (V.at (.s (.s .z))) e4 (fun u9 h13 => ?_))
  refine op (OpS.fptr h13 fa211_1 Point_.f1 rfl rfl rfl .z (fun u10 h14 => ?_))
  refine op (OpS.loadi h14 ty2 rfl rfl rfl .z ?_)
  refine asg rfl rfl rfl ?_
  refine nil ?_
  refine Run.retP rfl (.tmp rfl .nil) ?_
  cases hF
  exact Post.mk' ⟨rfl, rfl, rfl, rfl⟩ (h14.picks .nil) .nil
 ·
  refine Run.seq ?_
  refine Run.join (σ := Bool) (fun s_ L_ w_ => L_ = [(2, u1), (3, u2), (5, .func (.func 226) #[] #[u1]), (6, .int .i64 y1), (25, .bool s_)] ∧ St e w_ [(false, .ptr Conversion_.rep u1 a0), (true, .ptr (Rep.int .i64) u2 a1)] []) hF (fun s1 _ w4 hI hF => ?_) (fun j1 hj1 hF => ?_)
  ·
   obtain ⟨rfl, h15⟩ := hI
   refine Run.ite rfl hF (fun e5 hF => ?_) (fun e5 hF => ?_)
   ·
    refine sr ?_
    refine op (OpS.fptr h15 fa69_6 Conversion_.f6 rfl rfl rfl .z (fun u11 h16 => ?_))
    refine op (OpS.load h16 ty67 rfl rfl rfl .z (fun u12 h17 => ?_))
    refine mv rfl rfl rfl ?_
    obtain ⟨x3, e6, hF⟩ := bindP_use hF
    refine op (OpS.iptr h17 Tryz.underlying67 ty211 rfl rfl rfl rfl (V.at .z) e6 (fun u13 h18 => ?_))
    refine op (OpS.fptr h18 fa211_1 Point_.f1 rfl rfl rfl .z (fun u14 h19 => ?_))
    refine op (OpS.loadi h19 ty2 rfl rfl rfl .z ?_)
    refine asg rfl rfl rfl ?_
    refine nil ?_
    refine Run.retP rfl (.tmp rfl .nil) ?_
    cases hF
    exact Post.mk' ⟨rfl, rfl, rfl, rfl⟩ (h19.picks .nil) .nil
   ·
    refine Run.skip ?_
    refine Run.endBlock ?_
    refine sr ?_
    refine op (OpS.fptr h15 fa69_6 Conversion_.f6 rfl rfl rfl .z (fun u15 h20 => ?_))
    refine op (OpS.load h20 ty67 rfl rfl rfl .z (fun u16 h21 => ?_))
    refine mv rfl rfl rfl ?_
    refine bin rfl rfl rfl rfl rfl ?_
    obtain ⟨x4, e7, hF⟩ := bindP_use hF
    refine op (OpS.iptr h21 Tryz.underlying67 ty211 rfl rfl rfl rfl (V.at .z) e7 (fun u17 h22 => ?_))
    refine op (OpS.fptr h22 fa211_1 Point_.f1 rfl rfl rfl .z (fun u18 h23 => ?_))
    refine op (OpS.loadi h23 ty2 rfl rfl rfl .z ?_)
    refine asg rfl rfl rfl ?_
    refine nil ?_
    refine Run.seq ?_
    obtain ⟨x5, e8, hF⟩ := bindP_use hF
    obtain ⟨y2, e9, hF⟩ := bindP_use hF
    obtain ⟨y3, e10, hF⟩ := bindP_use hF
    obtain ⟨y4, e11, hF⟩ := bindP_use hF
    obtain ⟨y5, e12, hF⟩ := bindP_use hF
    refine Run.drawV (Ωs := []) [.k 48 (.int .i64 x4.Value), .f 49 (fun u_ => [(false, .ptr (Rep.slice Point_.rep) u_ a0.Points)]), .f 50 (fun u_ => [(false, .val (Rep.slice Point_.rep) u_ a0.Points)]), .k 51 (.int .i64 y1), .f 52 (fun u_ => [(false, .ptr Point_.rep u_ x5)]), .f 53 (fun u_ => [(false, .ptr (Rep.int .i64) u_ x5.Value)]), .k 54 (.int .i64 x5.Value), .k 55 (.int .i64 x4.Value), .k 56 (.int .i64 (IntKind.i64.wrap (x5.Value - x4.Value))), .k 57 (.int .i64 a1), .k 58 (.func (.func 226) #[] #[u1]), .k 59 (.int .i64 y1), .k 60 (.int .i64 (IntKind.i64.wrap (y1 - 1))), .k 61 (.int .i64 y2), .k 62 (.int .i64 (IntKind.i64.wrap (a1 - y2))), .k 63 (.int .i64 (IntKind.i64.wrap ((IntKind.i64.wrap (x5.Value - x4.Value)) * (IntKind.i64.wrap (a1 - y2))))), .k 64 (.func (.func 226) #[] #[u1]), .k 65 (.int .i64 y1), .k 66 (.int .i64 y3), .k 67 (.func (.func 226) #[] #[u1]), .k 68 (.int .i64 y1), .k 69 (.int .i64 (IntKind.i64.wrap (y1 - 1))), .k 70 (.int .i64 y4), .k 71 (.int .i64 (IntKind.i64.wrap (y3 - y4))), .k 72 (.int .i64 y5)] [[], [], [1], [], [2, 3], [4], [5], [], [6, 7], [], [], [], [11], [12, 10], [9, 13], [8, 14], [], [], [17, 16], [], [], [20], [21, 19], [18, 22], [15, 23]] [] [0, 1, 2, 3, 4, 5, 6, 7, 8, 9, 10, 11, 12, 13, 14, 15, 16, 17, 18, 19, 20, 21, 22, 23, 24] Try_mixed rfl rfl rfl h23 (.cons ?_ (.cons ?_ (.cons ?_ (.cons ?_ (.cons ?_ (.cons ?_ (.cons ?_ (.cons ?_ (.cons ?_ (.cons ?_ (.cons ?_ (.cons ?_ (.cons ?_ (.cons ?_ (.cons ?_ (.cons ?_ (.cons ?_ (.cons ?_ (.cons ?_ (.cons ?_ (.cons ?_ (.cons ?_ (.cons ?_ (.cons ?_ (.cons ?_ .nil))))))))))))))))))))))))) (fun q1 w hq1 h => ?_)
    ·intro q1 w Γx Ωx h
     refine OpS.mv rfl rfl rfl ?_
     exact ⟨undef, rfl, trivial, h⟩
    ·intro q1 w Γx Ωx h
     refine OpS.fptr h fa69_6 Conversion_.f6 rfl rfl rfl (.s (.s (.s (.s .z)))) (fun u h36 => ?_)
     exact ⟨u, rfl, trivial, h36⟩
    ·intro q1 w Γx Ωx h
     refine OpS.load h ty67 rfl rfl rfl .z (fun u h37 => ?_)
     exact ⟨u, rfl, trivial, h37⟩
    ·intro q1 w Γx Ωx h
     refine OpS.mv rfl rfl rfl ?_
     exact ⟨undef, rfl, trivial, h⟩
    ·intro q1 w Γx Ωx h
     refine OpS.iptr h Tryz.underlying67 ty211 rfl rfl rfl rfl (V.at .z) e8 (fun u h38 => ?_)
     exact ⟨u, rfl, trivial, h38⟩
    ·intro q1 w Γx Ωx h
     refine OpS.fptr h fa211_1 Point_.f1 rfl rfl rfl .z (fun u h39 => ?_)
     exact ⟨u, rfl, trivial, h39⟩
    ·intro q1 w Γx Ωx h
     refine OpS.loadi h ty2 rfl rfl rfl .z ?_
     exact ⟨undef, rfl, trivial, h⟩
    ·intro q1 w Γx Ωx h
     refine OpS.mv rfl rfl rfl ?_
     exact ⟨undef, rfl, trivial, h⟩
    ·intro q1 w Γx Ωx h
     refine OpS.bin rfl rfl rfl rfl rfl ?_
     exact ⟨undef, rfl, trivial, h⟩
    ·intro q1 w Γx Ωx h
     refine OpS.loadi h ty3 rfl rfl rfl (.s (.s (.s (.s (.s .z))))) ?_
     exact ⟨undef, rfl, trivial, h⟩
    ·intro q1 w Γx Ωx h
     refine OpS.mv rfl rfl rfl ?_
     exact ⟨undef, rfl, trivial, h⟩
    ·intro q1 w Γx Ωx h
     refine OpS.mv rfl rfl rfl ?_
     exact ⟨undef, rfl, trivial, h⟩
    ·intro q1 w Γx Ωx h
     refine OpS.bin rfl rfl rfl rfl rfl ?_
     exact ⟨undef, rfl, trivial, h⟩
    ·intro q1 w Γx Ωx h
     refine OpS.callPF (fl := []) (cl := [u1]) h Tryz.func226 rfl rfl rfl rfl rfl (vs := [.int .i64 (IntKind.i64.wrap (y1 - 1))]) rfl (convert_between_1_2_ok e9) (.ptr (.s (.s (.s (.s .z)))) .nil) ?_
     rintro _ w9 _ _ _ ⟨rfl, rfl, rfl, rfl⟩ h40
     have h41 := h40 rfl rfl
     simp only [ca, na] at h41
     exact ⟨undef, rfl, trivial, h41⟩
    ·intro q1 w Γx Ωx h
     refine OpS.bin rfl rfl rfl rfl rfl ?_
     exact ⟨undef, rfl, trivial, h⟩
    ·intro q1 w Γx Ωx h
     refine OpS.bin rfl rfl rfl rfl rfl ?_
     exact ⟨undef, rfl, trivial, h⟩
    ·intro q1 w Γx Ωx h
     refine OpS.mv rfl rfl rfl ?_
     exact ⟨undef, rfl, trivial, h⟩
    ·intro q1 w Γx Ωx h
     refine OpS.mv rfl rfl rfl ?_
     exact ⟨undef, rfl, trivial, h⟩
    ·intro q1 w Γx Ωx h
     refine OpS.callPF (fl := []) (cl := [u1]) h Tryz.func226 rfl rfl rfl rfl rfl (vs := [.int .i64 y1]) rfl (convert_between_1_2_ok e10) (.ptr (.s (.s (.s (.s .z)))) .nil) ?_
     rintro _ w10 _ _ _ ⟨rfl, rfl, rfl, rfl⟩ h42
     have h43 := h42 rfl rfl
     simp only [ca, na] at h43
     exact ⟨undef, rfl, trivial, h43⟩
    ·intro q1 w Γx Ωx h
     refine OpS.mv rfl rfl rfl ?_
     exact ⟨undef, rfl, trivial, h⟩
    ·intro q1 w Γx Ωx h
     refine OpS.mv rfl rfl rfl ?_
     exact ⟨undef, rfl, trivial, h⟩
    ·intro q1 w Γx Ωx h
     refine OpS.bin rfl rfl rfl rfl rfl ?_
     exact ⟨undef, rfl, trivial, h⟩
    ·intro q1 w Γx Ωx h
     refine OpS.callPF (fl := []) (cl := [u1]) h Tryz.func226 rfl rfl rfl rfl rfl (vs := [.int .i64 (IntKind.i64.wrap (y1 - 1))]) rfl (convert_between_1_2_ok e11) (.ptr (.s (.s (.s (.s .z)))) .nil) ?_
     rintro _ w11 _ _ _ ⟨rfl, rfl, rfl, rfl⟩ h44
     have h45 := h44 rfl rfl
     simp only [ca, na] at h45
     exact ⟨undef, rfl, trivial, h45⟩
    ·intro q1 w Γx Ωx h
     refine OpS.bin rfl rfl rfl rfl rfl ?_
     exact ⟨undef, rfl, trivial, h⟩
    ·intro q1 w Γx Ωx h
     refine OpS.callP h Tryz.func229 rfl rfl rfl rfl (vs := [.int .i64 (IntKind.i64.wrap ((IntKind.i64.wrap (x5.Value - x4.Value)) * (IntKind.i64.wrap (a1 - y2)))), .int .i64 (IntKind.i64.wrap (y3 - y4))]) rfl (convert_floor_ok e12) .nil ?_
     rintro _ w12 _ _ _ ⟨rfl, rfl, rfl, rfl⟩ h46
     have h47 := h46 rfl rfl
     simp only [ca, na] at h47
     exact ⟨undef, rfl, trivial, h47⟩
    have h48 := h
    refine bin rfl rfl rfl rfl rfl ?_
    refine asg rfl rfl rfl ?_
    obtain ⟨x6, e13, hF⟩ := letP_use hF
    refine RunL.name e13 ?_
    refine nil ?_
    refine Run.slim [(4, .int .i64 x6)] ⟨rfl, trivial⟩ ?_
    refine Run.retP rfl (.tmp rfl .nil) ?_
    cases hF
    exact Post.mk' ⟨rfl, rfl, rfl, rfl⟩ (h48.picks .nil) .nil
  ·
   obtain ⟨x7, e14, hF⟩ := letP_use hF
   refine iteP_use hF (fun e15 hF => ?_) (fun e15 hF => ?_)
   ·
    have hG := hF
    subst e15
    have hF := hG
    refine Run.drawV (Ωs := []) [.k 26 (.int .i64 y1), .k 27 (.bool (y1 == 0)), .k 28 (.bool true), .k 29 undef, .k 30 undef, .k 31 undef, .k 32 undef] [[], [0], [1], [2], [2], [2], [2]] [] [0, 1, 2, 3, 4, 5, 6] Try_mixed rfl rfl rfl h8 (.cons ?_ (.cons ?_ (.cons ?_ (.cons ?_ (.cons ?_ (.cons ?_ (.cons ?_ .nil))))))) (fun q2 w hq2 h => ?_)
    ·intro q2 w Γx Ωx h
     refine OpS.mv rfl rfl rfl ?_
     exact ⟨undef, rfl, trivial, h⟩
    ·intro q2 w Γx Ωx h
     refine OpS.bin rfl rfl rfl rfl rfl ?_
     exact ⟨undef, rfl, trivial, h⟩
    ·intro q2 w Γx Ωx h
     refine OpS.mv rfl rfl rfl ?_
     exact ⟨undef, (congrArg (fun z_ => some (Value.bool z_)) e14), trivial, h⟩
    ·intro q2 w Γx Ωx h
     exact OpS.pass rfl rfl rfl ⟨undef, rfl, trivial, h⟩
    ·intro q2 w Γx Ωx h
     exact OpS.pass rfl rfl rfl ⟨undef, rfl, trivial, h⟩
    ·intro q2 w Γx Ωx h
     exact OpS.pass rfl rfl rfl ⟨undef, rfl, trivial, h⟩
    ·intro q2 w Γx Ωx h
     exact OpS.pass rfl rfl rfl ⟨undef, rfl, trivial, h⟩
    have h49 := h
    refine pass rfl rfl rfl ?_
    refine pick rfl rfl rfl rfl ?_
    refine asg rfl rfl rfl ?_
    refine nil ?_
    refine Run.slim [(2, u1), (3, u2), (5, .func (.func 226) #[] #[u1]), (6, .int .i64 y1), (25, .bool true)] ⟨rfl, rfl, rfl, rfl, rfl, trivial⟩ ?_
    exact hj1 (true) _ _ ⟨rfl, (h49.facts (.atm (.s (.s (.s .z))) (.atm .z .nil))).picks .nil⟩ hF
   ·
    have hG := hF
    subst e15
    have hF := hG
    obtain ⟨y6, e16, hF⟩ := bindP_use hF
    refine Run.drawV (Ωs := []) [.k 26 (.int .i64 y1), .k 27 (.bool (y1 == 0)), .k 28 (.bool false), .k 29 (.int .i64 a1), .k 30 (.func (.func 226) #[] #[u1]), .k 31 (.int .i64 y1), .k 32 (.int .i64 y6)] [[], [0], [1], [2], [2], [2], [5, 4, 2]] [] [0, 1, 2, 3, 4, 5, 6] Try_mixed rfl rfl rfl h8 (.cons ?_ (.cons ?_ (.cons ?_ (.cons ?_ (.cons ?_ (.cons ?_ (.cons ?_ .nil))))))) (fun q2 w hq3 h => ?_)
    ·intro q2 w Γx Ωx h
     refine OpS.mv rfl rfl rfl ?_
     exact ⟨undef, rfl, trivial, h⟩
    ·intro q2 w Γx Ωx h
     refine OpS.bin rfl rfl rfl rfl rfl ?_
     exact ⟨undef, rfl, trivial, h⟩
    ·intro q2 w Γx Ωx h
     refine OpS.mv rfl rfl rfl ?_
     exact ⟨undef, (congrArg (fun z_ => some (Value.bool z_)) e14), trivial, h⟩
    ·intro q2 w Γx Ωx h
     refine OpS.loadi h ty3 rfl rfl rfl .z ?_
     exact ⟨undef, rfl, trivial, h⟩
    ·intro q2 w Γx Ωx h
     refine OpS.mv rfl rfl rfl ?_
     exact ⟨undef, rfl, trivial, h⟩
    ·intro q2 w Γx Ωx h
     refine OpS.mv rfl rfl rfl ?_
     exact ⟨undef, rfl, trivial, h⟩
    ·intro q2 w Γx Ωx h
     refine OpS.callPF (fl := []) (cl := [u1]) h Tryz.func226 rfl rfl rfl rfl rfl (vs := [.int .i64 y1]) rfl (convert_between_1_2_ok e16) (.ptr (.s (.s (.s .z))) .nil) ?_
     rintro _ w14 _ _ _ ⟨rfl, rfl, rfl, rfl⟩ h52
     have h53 := h52 rfl rfl
     simp only [ca, na] at h53
     exact ⟨undef, rfl, trivial, h53⟩
    have h54 := h
    refine bin rfl rfl rfl rfl rfl ?_
    refine pick rfl rfl rfl rfl ?_
    refine asg rfl rfl rfl ?_
    obtain ⟨x8, e17, hF⟩ := letP_use hF
    refine RunL.nameb e17 ?_
    refine nil ?_
    refine Run.slim [(2, u1), (3, u2), (5, .func (.func 226) #[] #[u1]), (6, .int .i64 y1), (25, .bool x8)] ⟨rfl, rfl, rfl, rfl, rfl, trivial⟩ ?_
    exact hj1 (x8) _ _ ⟨rfl, (h54.facts (.atm (.s (.s (.s .z))) (.atm .z .nil))).picks .nil⟩ hF
theorem convert_ten_ok {fuel : Nat} {a0 : Int} {y : Int} (hF : convert_ten fuel a0 = some y) {w : World} :
  Spec Tryz.prog 230 [.int .i64 a0].toArray w [] [] (fun v Γr Ωr Ωo => v = .int .i64 y ∧ Γr = [] ∧ Ωr = [] ∧ Ωo = []) := by
 refine Spec.of (L := [(0, .int .i64 a0)]) Tryz.func230 rfl ⟨rfl, trivial⟩ rfl (fun e h => ?_)
 unfold convert_ten at hF
 refine sr ?_
 refine asg rfl rfl rfl ?_
 refine nil ?_
 refine sr ?_
 refine asg rfl rfl rfl ?_
 refine nil ?_
 refine Run.seq ?_
 refine sr ?_
 refine mv rfl rfl rfl ?_
 refine mv rfl rfl rfl ?_
 refine nil ?_
 refine Run.block ?_
 refine Run.slim [(3, .int .i64 1), (4, .int .i64 a0), (5, .int .i64 0)] ⟨rfl, rfl, rfl, trivial⟩ ?_
 refine Run.loopP (σ := (Int × Int)) (fun s_ L_ w_ => L_ = [(3, .int .i64 s_.1), (4, .int .i64 a0), (5, .int .i64 s_.2)] ∧ St e w_ [] []) hF ⟨rfl, (h.facts .nil).picks .nil⟩ (fun k1 hk1 s1 _ w1 hI hF => ?_)
 obtain ⟨rfl, h1⟩ := hI
 refine sr ?_
 refine bin rfl rfl rfl rfl rfl ?_
 refine nil ?_
 refine Run.seq ?_
 refine Run.ite rfl hF (fun e1 hF => ?_) (fun e1 hF => ?_)
 ·
  refine Run.skip ?_
  refine Run.seq ?_
  refine Run.block ?_
  refine Run.reg ?_
  refine mv rfl rfl rfl ?_
  refine bin rfl rfl rfl rfl rfl ?_
  refine asg rfl rfl rfl ?_
  obtain ⟨x1, e2, hF⟩ := letP_use hF
  refine RunL.name e2 ?_
  refine nil ?_
  refine Run.endBlock ?_
  refine Run.reg ?_
  refine bin rfl rfl rfl rfl rfl ?_
  refine mv rfl rfl rfl ?_
  refine nil ?_
  refine Run.slim [(3, .int .i64 x1), (4, .int .i64 a0), (5, .int .i64 (IntKind.i64.wrap (s1.2 + 1)))] ⟨rfl, rfl, rfl, trivial⟩ ?_
  exact hk1 (x1, (IntKind.i64.wrap (s1.2 + 1))) _ _ ⟨rfl, (h1.facts .nil).picks .nil⟩ hF
 ·
  refine Run.exit rfl ?_
  refine sr ?_
  refine mv rfl rfl rfl ?_
  refine asg rfl rfl rfl ?_
  refine nil ?_
  refine Run.retP rfl (.tmp rfl .nil) ?_
  cases hF
  exact Post.mk' ⟨rfl, rfl, rfl, rfl⟩ (h1.picks .nil) .nil
set_option maxRecDepth 20000 in
theorem convert_linear_ok {fuel : Nat} {a0 : Conversion_} {a1 : Int} {y : Int} (hF : convert_linear fuel a0 a1 = some y) {w : World} {v0 : Value} :
  Spec Tryz.prog 177 [v0, .int .i64 a1].toArray w [(false, .val Conversion_.rep v0 a0)] [] (fun v Γr Ωr Ωo => v = .int .i64 y ∧ Γr = [] ∧ Ωr = [] ∧ Ωo = []) := by
 refine Spec.of (L := [(0, v0), (1, .int .i64 a1)]) Tryz.func177 rfl ⟨rfl, rfl, trivial⟩ rfl (fun e h => ?_)
 unfold convert_linear at hF
 refine sr ?_
 refine op (OpS.boxF h rfl rfl rfl (V.at .z) (fun u1 w1 h1 => ?_))
 refine asg rfl rfl rfl ?_
 refine nil ?_
 refine Run.seq ?_
 obtain ⟨y1, e1, hF⟩ := bindP_use hF
 obtain ⟨y2, e2, hF⟩ := bindP_use hF
 refine Run.drawV (Ωs := []) [.kr 5 (padd u1 2) [0], .kr 6 (.int .i64 a0.M) [0], .k 7 (.int .i64 a1), .k 8 (.int .i64 (IntKind.i64.wrap (a0.M * a1))), .kr 9 (padd u1 5) [0], .kr 10 (.int .i64 a0.K2) [0], .k 11 (.int .i64 (IntKind.i64.wrap (6 + a0.K2))), .k 12 (.int .i64 y1), .k 13 (.int .i64 (IntKind.i64.wrap ((IntKind.i64.wrap (a0.M * a1)) * y1))), .kr 14 (padd u1 3) [0], .kr 15 (.int .i64 a0.B) [0], .kr 16 (padd u1 4) [0], .kr 17 (.int .i64 a0.K1) [0], .k 18 (.int .i64 (IntKind.i64.wrap (6 + a0.K1))), .kr 19 (padd u1 5) [0], .kr 20 (.int .i64 a0.K2) [0], .k 21 (.int .i64 (IntKind.i64.wrap ((IntKind.i64.wrap (6 + a0.K1)) + a0.K2))), .k 22 (.int .i64 y2), .k 23 (.int .i64 (IntKind.i64.wrap (a0.B * y2)))] [[], [0], [], [1, 2], [], [4], [5], [6], [3, 7], [], [9], [], [11], [12], [], [14], [13, 15], [16], [10, 17]] [[(false, .box 69 Conversion_.rep u1 a0)]] [0, 1, 2, 3, 4, 5, 6, 7, 8, 9, 10, 11, 12, 13, 14, 15, 16, 17, 18, 19] Try_mixed rfl rfl rfl h1 (.cons ?_ (.cons ?_ (.cons ?_ (.cons ?_ (.cons ?_ (.cons ?_ (.cons ?_ (.cons ?_ (.cons ?_ (.cons ?_ (.cons ?_ (.cons ?_ (.cons ?_ (.cons ?_ (.cons ?_ (.cons ?_ (.cons ?_ (.cons ?_ (.cons ?_ .nil))))))))))))))))))) (fun q1 w hq1 h => ?_)
 ·intro q1 w Γx Ωx h
  refine OpS.fbox (o3 := 2) h .z PA.z fa69_2 rfl rfl rfl rfl ?_
  exact ⟨undef, rfl, trivial, h⟩
 ·intro q1 w Γx Ωx h
  refine OpS.loadBi h .z PA.a (Get.fld Conversion_.f2) ty3 rfl rfl rfl ?_
  exact ⟨undef, rfl, trivial, h⟩
 ·intro q1 w Γx Ωx h
  refine OpS.mv rfl rfl rfl ?_
  exact ⟨undef, rfl, trivial, h⟩
 ·intro q1 w Γx Ωx h
  refine OpS.bin rfl rfl rfl rfl rfl ?_
  exact ⟨undef, rfl, trivial, h⟩
 ·intro q1 w Γx Ωx h
  refine OpS.fbox (o3 := 5) h .z PA.z fa69_5 rfl rfl rfl rfl ?_
  exact ⟨undef, rfl, trivial, h⟩
 ·intro q1 w Γx Ωx h
  refine OpS.loadBi h .z PA.a (Get.fld Conversion_.f5) ty3 rfl rfl rfl ?_
  exact ⟨undef, rfl, trivial, h⟩
 ·intro q1 w Γx Ωx h
  refine OpS.bin rfl rfl rfl rfl rfl ?_
  exact ⟨undef, rfl, trivial, h⟩
 ·intro q1 w Γx Ωx h
  refine OpS.callP h Tryz.func230 rfl rfl rfl rfl (vs := [.int .i64 (IntKind.i64.wrap (6 + a0.K2))]) rfl (convert_ten_ok e1) .nil ?_
  rintro _ w4 _ _ _ ⟨rfl, rfl, rfl, rfl⟩ h6
  have h7 := h6 rfl rfl
  simp only [ca, na] at h7
  exact ⟨undef, rfl, trivial, h7⟩
 ·intro q1 w Γx Ωx h
  refine OpS.bin rfl rfl rfl rfl rfl ?_
  exact ⟨undef, rfl, trivial, h⟩
 ·intro q1 w Γx Ωx h
  refine OpS.fbox (o3 := 3) h .z PA.z fa69_3 rfl rfl rfl rfl ?_
  exact ⟨undef, rfl, trivial, h⟩
 ·intro q1 w Γx Ωx h
  refine OpS.loadBi h .z PA.a (Get.fld Conversion_.f3) ty3 rfl rfl rfl ?_
  exact ⟨undef, rfl, trivial, h⟩
 ·intro q1 w Γx Ωx h
  refine OpS.fbox (o3 := 4) h .z PA.z fa69_4 rfl rfl rfl rfl ?_
  exact ⟨undef, rfl, trivial, h⟩
 ·intro q1 w Γx Ωx h
  refine OpS.loadBi h .z PA.a (Get.fld Conversion_.f4) ty3 rfl rfl rfl ?_
  exact ⟨undef, rfl, trivial, h⟩
 ·intro q1 w Γx Ωx h
  refine OpS.bin rfl rfl rfl rfl rfl ?_
  exact ⟨undef, rfl, trivial, h⟩
 ·intro q1 w Γx Ωx h
  refine OpS.fbox (o3 := 5) h .z PA.z fa69_5 rfl rfl rfl rfl ?_
  exact ⟨undef, rfl, trivial, h⟩
 ·intro q1 w Γx Ωx h
  refine OpS.loadBi h .z PA.a (Get.fld Conversion_.f5) ty3 rfl rfl rfl ?_
  exact ⟨undef, rfl, trivial, h⟩
 ·intro q1 w Γx Ωx h
  refine OpS.bin rfl rfl rfl rfl rfl ?_
  exact ⟨undef, rfl, trivial, h⟩
 ·intro q1 w Γx Ωx h
  refine OpS.callP h Tryz.func230 rfl rfl rfl rfl (vs := [.int .i64 (IntKind.i64.wrap ((IntKind.i64.wrap (6 + a0.K1)) + a0.K2))]) rfl (convert_ten_ok e2) .nil ?_
  rintro _ w5 _ _ _ ⟨rfl, rfl, rfl, rfl⟩ h8
  have h9 := h8 rfl rfl
  simp only [ca, na] at h9
  exact ⟨undef, rfl, trivial, h9⟩
 ·intro q1 w Γx Ωx h
  refine OpS.bin rfl rfl rfl rfl rfl ?_
  exact ⟨undef, rfl, trivial, h⟩
 have h10 := h
 refine bin rfl rfl rfl rfl rfl ?_
 obtain ⟨y3, e3, hF⟩ := bindP_use hF
 refine op (OpS.callP h10 Tryz.func118 rfl rfl rfl rfl (vs := [.int .i64 (IntKind.i64.wrap ((IntKind.i64.wrap ((IntKind.i64.wrap (a0.M * a1)) * y1)) + (IntKind.i64.wrap (a0.B * y2))))]) rfl (micro_Clamp_ok e3) .nil ?_)
 rintro _ w6 _ _ _ ⟨rfl, rfl, rfl, rfl⟩ h11
 have h12 := h11 rfl rfl
 simp only [ca, na] at h12
 refine asg rfl rfl rfl ?_
 refine nil ?_
 refine Run.retP rfl (.tmp rfl .nil) ?_
 cases hF
 exact Post.mk' ⟨rfl, rfl, rfl, rfl⟩ (h12.picks .nil) .nil
theorem micro_floor_ok {fuel : Nat} {a0 : Int} {a1 : Int} {y : Int} (hF : micro_floor fuel a0 a1 = some y) {w : World} :
  Spec Tryz.prog 231 [.int .i64 a0, .int .i64 a1].toArray w [] [] (fun v Γr Ωr Ωo => v = .int .i64 y ∧ Γr = [] ∧ Ωr = [] ∧ Ωo = []) := by
 refine Spec.of (L := [(0, .int .i64 a0), (1, .int .i64 a1)]) Tryz.func231 rfl ⟨rfl, rfl, trivial⟩ rfl (fun e h => ?_)
 unfold micro_floor at hF
 refine sr ?_
 refine asg rfl rfl rfl ?_
 refine nil ?_
 refine sr ?_
 refine mv rfl rfl rfl ?_
 refine mv rfl rfl rfl ?_
 obtain ⟨e1, hF⟩ := chk_use hF
 refine op (OpS.quo rfl rfl rfl rfl e1 ?_)
 refine asg rfl rfl rfl ?_
 obtain ⟨x1, e2, hF⟩ := letP_use hF
 refine RunL.name e2 ?_
 refine nil ?_
 refine Run.seq ?_
 refine sr ?_
 refine mv rfl rfl rfl ?_
 refine mv rfl rfl rfl ?_
 obtain ⟨e3, hF⟩ := chk_use hF
 refine op (OpS.rem rfl rfl rfl rfl e3 ?_)
 refine bin rfl rfl rfl rfl rfl ?_
 refine mv rfl rfl rfl ?_
 refine RunL.join (σ := Bool) (fun s_ L_ w_ => L_ = [(5, .int .i64 x1), (19, .bool s_)] ∧ St e w_ [] []) hF (fun s1 _ w1 hI hF => ?_) (fun j1 hj1 hF => ?_)
 ·
  obtain ⟨rfl, h1⟩ := hI
  refine Run.ite rfl hF (fun e4 hF => ?_) (fun e4 hF => ?_)
  ·
   refine Run.reg ?_
   refine mv rfl rfl rfl ?_
   refine bin rfl rfl rfl rfl rfl ?_
   refine asg rfl rfl rfl ?_
   obtain ⟨x2, e5, hF⟩ := letP_use hF
   refine RunL.name e5 ?_
   refine nil ?_
   refine sr ?_
   refine mv rfl rfl rfl ?_
   refine asg rfl rfl rfl ?_
   refine nil ?_
   refine Run.retP rfl (.tmp rfl .nil) ?_
   cases hF
   exact Post.mk' ⟨rfl, rfl, rfl, rfl⟩ (h1.picks .nil) .nil
  ·
   refine Run.skip ?_
   refine sr ?_
   refine mv rfl rfl rfl ?_
   refine asg rfl rfl rfl ?_
   refine nil ?_
   refine Run.retP rfl (.tmp rfl .nil) ?_
   cases hF
   exact Post.mk' ⟨rfl, rfl, rfl, rfl⟩ (h1.picks .nil) .nil
 ·
  refine RunL.caseb hF (fun e6 hF => ?_) (fun e6 hF => ?_)
  ·
   refine mv rfl rfl rfl ?_
   refine bin rfl rfl rfl rfl rfl ?_
   refine mv rfl rfl rfl ?_
   refine bin rfl rfl rfl rfl rfl ?_
   refine op (OpS.neb Tryz.underlying4 rfl rfl rfl rfl ?_)
   refine pick rfl rfl rfl rfl ?_
   refine nil ?_
   refine Run.slim [(5, .int .i64 x1), (19, .bool ((decide (a0 < 0)) != (decide (a1 < 0))))] ⟨rfl, rfl, trivial⟩ ?_
   exact hj1 ((decide (a0 < 0)) != (decide (a1 < 0))) _ _ ⟨rfl, (h.facts .nil).picks .nil⟩ hF
  ·
   refine pass rfl rfl rfl ?_
   refine pass rfl rfl rfl ?_
   refine pass rfl rfl rfl ?_
   refine pass rfl rfl rfl ?_
   refine pass rfl rfl rfl ?_
   refine pick rfl rfl rfl rfl ?_
   refine nil ?_
   refine Run.slim [(5, .int .i64 x1), (19, .bool false)] ⟨rfl, rfl, trivial⟩ ?_
   exact hj1 (false) _ _ ⟨rfl, (h.facts .nil).picks .nil⟩ hF
theorem micro_Div_ok {fuel : Nat} {a0 : Int} {a1 : Int} {y : Int × Int} (hF : micro_Div fuel a0 a1 = some y) {w : World} :
  Spec Tryz.prog 178 [.int .i64 a0, .int .i64 a1].toArray w [] [] (fun v Γr Ωr Ωo => v = .tuple #[.int .i64 y.1, .int .i64 y.2] ∧ Γr = [] ∧ Ωr = [] ∧ Ωo = []) := by
 refine Spec.of (L := [(0, .int .i64 a0), (1, .int .i64 a1)]) Tryz.func178 rfl ⟨rfl, rfl, trivial⟩ rfl (fun e h => ?_)
 unfold micro_Div at hF
 refine sr ?_
 refine asg rfl rfl rfl ?_
 refine asg rfl rfl rfl ?_
 refine nil ?_
 refine sr ?_
 refine mv rfl rfl rfl ?_
 obtain ⟨y1, e1, hF⟩ := bindP_use hF
 refine op (OpS.callP h Tryz.func118 rfl rfl rfl rfl (vs := [.int .i64 a0]) rfl (micro_Clamp_ok e1) .nil ?_)
 rintro _ w1 _ _ _ ⟨rfl, rfl, rfl, rfl⟩ h1
 have h2 := h1 rfl rfl
 simp only [ca, na] at h2
 refine mv rfl rfl rfl ?_
 obtain ⟨y2, e2, hF⟩ := bindP_use hF
 refine op (OpS.callP h2 Tryz.func118 rfl rfl rfl rfl (vs := [.int .i64 a1]) rfl (micro_Clamp_ok e2) .nil ?_)
 rintro _ w2 _ _ _ ⟨rfl, rfl, rfl, rfl⟩ h3
 have h4 := h3 rfl rfl
 simp only [ca, na] at h4
 refine asg rfl rfl rfl ?_
 refine asg rfl rfl rfl ?_
 refine nil ?_
 refine Run.seq ?_
 refine sr ?_
 refine mv rfl rfl rfl ?_
 refine bin rfl rfl rfl rfl rfl ?_
 refine nil ?_
 refine Run.ite rfl hF (fun e3 hF => ?_) (fun e3 hF => ?_)
 ·
  refine sr ?_
  refine asg rfl rfl rfl ?_
  refine asg rfl rfl rfl ?_
  refine nil ?_
  refine Run.retP rfl (.tmp rfl (.tmp rfl .nil)) ?_
  cases hF
  exact Post.mk' ⟨rfl, rfl, rfl, rfl⟩ (h4.picks .nil) .nil
 ·
  refine Run.skip ?_
  refine sr ?_
  refine mv rfl rfl rfl ?_
  refine bin rfl rfl rfl rfl rfl ?_
  refine mv rfl rfl rfl ?_
  obtain ⟨y3, e4, hF⟩ := bindP_use hF
  refine op (OpS.callP h4 Tryz.func231 rfl rfl rfl rfl (vs := [.int .i64 (IntKind.i64.wrap (y1 * 1000000)), .int .i64 y2]) rfl (micro_floor_ok e4) .nil ?_)
  rintro _ w3 _ _ _ ⟨rfl, rfl, rfl, rfl⟩ h5
  have h6 := h5 rfl rfl
  simp only [ca, na] at h6
  obtain ⟨y4, e5, hF⟩ := bindP_use hF
  refine op (OpS.callP h6 Tryz.func118 rfl rfl rfl rfl (vs := [.int .i64 y3]) rfl (micro_Clamp_ok e5) .nil ?_)
  rintro _ w4 _ _ _ ⟨rfl, rfl, rfl, rfl⟩ h7
  have h8 := h7 rfl rfl
  simp only [ca, na] at h8
  refine asg rfl rfl rfl ?_
  refine asg rfl rfl rfl ?_
  refine nil ?_
  refine Run.retP rfl (.tmp rfl (.tmp rfl .nil)) ?_
  cases hF
  exact Post.mk' ⟨rfl, rfl, rfl, rfl⟩ (h8.picks .nil) .nil
theorem micro_size_ok {fuel : Nat} {a0 : Int} {y : Int} (hF : micro_size fuel a0 = some y) {w : World} :
  Spec Tryz.prog 232 [.int .i64 a0].toArray w [] [] (fun v Γr Ωr Ωo => v = .int .u64 y ∧ Γr = [] ∧ Ωr = [] ∧ Ωo = []) := by
 refine Spec.of (L := [(0, .int .i64 a0)]) Tryz.func232 rfl ⟨rfl, trivial⟩ rfl (fun e h => ?_)
 unfold micro_size at hF
 refine sr ?_
 refine asg rfl rfl rfl ?_
 refine nil ?_
 refine sr ?_
 refine mv rfl rfl rfl ?_
 refine mv rfl rfl rfl ?_
 refine op (OpS.neg rfl rfl rfl ?_)
 refine op (OpS.maxi rfl rfl rfl rfl ?_)
 refine op (OpS.conv Tryz.underlying2 Tryz.underlying328 rfl rfl rfl ?_)
 refine asg rfl rfl rfl ?_
 obtain ⟨x1, e1, hF⟩ := letP_use hF
 refine RunL.name e1 ?_
 refine nil ?_
 refine Run.retP rfl (.tmp rfl .nil) ?_
 cases hF
 exact Post.mk' ⟨rfl, rfl, rfl, rfl⟩ (h.picks .nil) .nil
theorem bits_LeadingZeros64_ok {fuel : Nat} {a0 : Int} {y : Int} (hF : bits_LeadingZeros64 fuel a0 = some y) {w : World} :
  Spec Tryz.prog 249 [.int .u64 a0].toArray w [] [] (fun v Γr Ωr Ωo => v = .int .i64 y ∧ Γr = [] ∧ Ωr = [] ∧ Ωo = []) := by
 refine Spec.of (L := [(0, .int .u64 a0)]) Tryz.func249 rfl ⟨rfl, trivial⟩ rfl (fun e h => ?_)
 unfold bits_LeadingZeros64 at hF
 refine sr ?_
 refine asg rfl rfl rfl ?_
 refine nil ?_
 refine sr ?_
 refine mv rfl rfl rfl ?_
 obtain ⟨y1, e1, hF⟩ := bindP_use hF
 refine op (OpS.callP h Tryz.func262 rfl rfl rfl rfl (vs := [.int .u64 a0]) rfl (bits_Len64_ok e1) .nil ?_)
 rintro _ w1 _ _ _ ⟨rfl, rfl, rfl, rfl⟩ h1
 have h2 := h1 rfl rfl
 simp only [ca, na] at h2
 refine bin rfl rfl rfl rfl rfl ?_
 refine asg rfl rfl rfl ?_
 obtain ⟨x1, e2, hF⟩ := letP_use hF
 refine RunL.name e2 ?_
 refine nil ?_
 refine Run.retP rfl (.tmp rfl .nil) ?_
 cases hF
 exact Post.mk' ⟨rfl, rfl, rfl, rfl⟩ (h2.picks .nil) .nil
set_option maxHeartbeats 8000000 in set_option maxRecDepth 20000 in
theorem bits_Div64_ok {fuel : Nat} {a0 : Int} {a1 : Int} {a2 : Int} {y : Int × Int} (hF : bits_Div64 fuel a0 a1 a2 = some y) {w : World} :
  Spec Tryz.prog 233 [.int .u64 a0, .int .u64 a1, .int .u64 a2].toArray w [] [] (fun v Γr Ωr Ωo => v = .tuple #[.int .u64 y.1, .int .u64 y.2] ∧ Γr = [] ∧ Ωr = [] ∧ Ωo = []) := by
 refine Spec.of (L := [(0, .int .u64 a0), (1, .int .u64 a1), (2, .int .u64 a2)]) Tryz.func233 rfl ⟨rfl, rfl, rfl, trivial⟩ rfl (fun e h => ?_)
 unfold bits_Div64 at hF
 refine sr ?_
 refine asg rfl rfl rfl ?_
 refine asg rfl rfl rfl ?_
 refine nil ?_
 refine Run.seq ?_
 refine sr ?_
 refine mv rfl rfl rfl ?_
 refine bin rfl rfl rfl rfl rfl ?_
 refine nil ?_
 refine Run.ite rfl hF (fun e1 hF => ?_) (fun e1 hF => ?_)
 ·
  refine Run.reg ?_
  cases hF
 ·
  refine Run.skip ?_
  refine Run.seq ?_
  refine sr ?_
  refine mv rfl rfl rfl ?_
  refine mv rfl rfl rfl ?_
  refine bin rfl rfl rfl rfl rfl ?_
  refine nil ?_
  refine Run.ite rfl hF (fun e2 hF => ?_) (fun e2 hF => ?_)
  ·
   refine Run.reg ?_
   cases hF
  ·
   refine Run.skip ?_
   refine Run.seq ?_
   refine sr ?_
   refine mv rfl rfl rfl ?_
   refine bin rfl rfl rfl rfl rfl ?_
   refine nil ?_
   refine Run.ite rfl hF (fun e3 hF => ?_) (fun e3 hF => ?_)
   ·
    refine Run.seq ?_
    refine Run.slim [(27, .bool (a0 == 0)), (0, .int .u64 a0), (1, .int .u64 a1), (2, .int .u64 a2)] ⟨rfl, rfl, rfl, rfl, trivial⟩ ?_
    obtain ⟨e4, hF⟩ := chk_use hF
    obtain ⟨e5, hF⟩ := chk_use hF
    refine Run.drawV (Ωs := []) [.k 28 (.int .u64 a1), .k 29 (.int .u64 a2), .k 30 (.int .u64 (IntKind.u64.wrap (Int.tdiv a1 a2))), .k 31 (.int .u64 a1), .k 32 (.int .u64 a2), .k 33 (.int .u64 (Int.tmod a1 a2)), .k 6 (.int .u64 (IntKind.u64.wrap (Int.tdiv a1 a2)))] [[], [], [0, 1], [], [], [3, 4], [2]] [] [0, 1, 2, 3, 4, 5, 6] Try_mixed rfl rfl rfl h (.cons ?_ (.cons ?_ (.cons ?_ (.cons ?_ (.cons ?_ (.cons ?_ (.cons ?_ .nil))))))) (fun q1 w hq1 h => ?_)
    ·intro q1 w Γx Ωx h
     refine OpS.mv rfl rfl rfl ?_
     exact ⟨undef, rfl, trivial, h⟩
    ·intro q1 w Γx Ωx h
     refine OpS.mv rfl rfl rfl ?_
     exact ⟨undef, rfl, trivial, h⟩
    ·intro q1 w Γx Ωx h
     refine OpS.quo rfl rfl rfl rfl e4 ?_
     exact ⟨undef, rfl, trivial, h⟩
    ·intro q1 w Γx Ωx h
     refine OpS.mv rfl rfl rfl ?_
     exact ⟨undef, rfl, trivial, h⟩
    ·intro q1 w Γx Ωx h
     refine OpS.mv rfl rfl rfl ?_
     exact ⟨undef, rfl, trivial, h⟩
    ·intro q1 w Γx Ωx h
     refine OpS.rem rfl rfl rfl rfl e5 ?_
     exact ⟨undef, rfl, trivial, h⟩
    ·intro q1 w Γx Ωx h
     refine OpS.as rfl rfl rfl ?_
     exact ⟨undef, rfl, trivial, h⟩
    have h1 := h
    refine asg rfl rfl rfl ?_
    refine nil ?_
    refine Run.retP rfl (.tmp rfl (.tmp rfl .nil)) ?_
    cases hF
    exact Post.mk' ⟨rfl, rfl, rfl, rfl⟩ (h1.picks .nil) .nil
   ·
    refine Run.skip ?_
    refine sr ?_
    refine mv rfl rfl rfl ?_
    obtain ⟨y1, e6, hF⟩ := bindP_use hF
    refine op (OpS.callP h Tryz.func249 rfl rfl rfl rfl (vs := [.int .u64 a2]) rfl (bits_LeadingZeros64_ok e6) .nil ?_)
    rintro _ w1 _ _ _ ⟨rfl, rfl, rfl, rfl⟩ h2
    have h3 := h2 rfl rfl
    simp only [ca, na] at h3
    refine op (OpS.conv Tryz.underlying3 Tryz.underlying271 rfl rfl rfl ?_)
    refine asg rfl rfl rfl ?_
    refine nil ?_
    refine sr ?_
    refine mv rfl rfl rfl ?_
    refine mv rfl rfl rfl ?_
    obtain ⟨e7, hF⟩ := chk_use hF
    refine op (OpS.shl rfl rfl rfl rfl e7 ?_)
    refine asg rfl rfl rfl ?_
    obtain ⟨x1, e8, hF⟩ := letP_use hF
    refine RunL.name e8 ?_
    refine nil ?_
    refine sr ?_
    refine mv rfl rfl rfl ?_
    refine op (OpS.shr rfl rfl rfl rfl (by decide) ?_)
    refine asg rfl rfl rfl ?_
    refine nil ?_
    refine sr ?_
    refine mv rfl rfl rfl ?_
    refine bin rfl rfl rfl rfl rfl ?_
    refine asg rfl rfl rfl ?_
    obtain ⟨x2, e9, hF⟩ := letP_use hF
    refine RunL.name e9 ?_
    refine nil ?_
    refine sr ?_
    refine mv rfl rfl rfl ?_
    refine mv rfl rfl rfl ?_
    obtain ⟨e10, hF⟩ := chk_use hF
    refine op (OpS.shl rfl rfl rfl rfl e10 ?_)
    refine mv rfl rfl rfl ?_
    refine mv rfl rfl rfl ?_
    refine bin rfl rfl rfl rfl rfl ?_
    obtain ⟨e11, hF⟩ := chk_use hF
    refine op (OpS.shr rfl rfl rfl rfl e11 ?_)
    refine bin rfl rfl rfl rfl rfl ?_
    refine asg rfl rfl rfl ?_
    obtain ⟨x3, e12, hF⟩ := letP_use hF
    refine RunL.name e12 ?_
    refine nil ?_
    refine sr ?_
    refine mv rfl rfl rfl ?_
    refine mv rfl rfl rfl ?_
    obtain ⟨e13, hF⟩ := chk_use hF
    refine op (OpS.shl rfl rfl rfl rfl e13 ?_)
    refine asg rfl rfl rfl ?_
    obtain ⟨x4, e14, hF⟩ := letP_use hF
    refine RunL.name e14 ?_
    refine nil ?_
    refine Run.slim [(12, .int .u64 x4), (11, .int .u64 x3), (10, .int .u64 x2), (9, .int .u64 (bShr .u64 x1 32)), (2, .int .u64 x1), (8, .int .u64 (IntKind.u64.wrap y1))] ⟨rfl, rfl, rfl, rfl, rfl, rfl, trivial⟩ ?_
    refine sr ?_
    refine mv rfl rfl rfl ?_
    refine op (OpS.shr rfl rfl rfl rfl (by decide) ?_)
    refine asg rfl rfl rfl ?_
    refine nil ?_
    refine sr ?_
    refine mv rfl rfl rfl ?_
    refine bin rfl rfl rfl rfl rfl ?_
    refine asg rfl rfl rfl ?_
    obtain ⟨x5, e15, hF⟩ := letP_use hF
    refine RunL.name e15 ?_
    refine nil ?_
    refine sr ?_
    refine mv rfl rfl rfl ?_
    refine mv rfl rfl rfl ?_
    obtain ⟨e16, hF⟩ := chk_use hF
    refine op (OpS.quo rfl rfl rfl rfl e16 ?_)
    refine asg rfl rfl rfl ?_
    obtain ⟨x6, e17, hF⟩ := letP_use hF
    refine RunL.name e17 ?_
    refine nil ?_
    refine sr ?_
    refine mv rfl rfl rfl ?_
    refine mv rfl rfl rfl ?_
    refine mv rfl rfl rfl ?_
    refine bin rfl rfl rfl rfl rfl ?_
    refine bin rfl rfl rfl rfl rfl ?_
    refine asg rfl rfl rfl ?_
    obtain ⟨x7, e18, hF⟩ := letP_use hF
    refine RunL.name e18 ?_
    refine nil ?_
    refine Run.seq ?_
    refine Run.join (σ := Int) (fun s_ L_ w_ => L_ = [(2, .int .u64 x1), (8, .int .u64 (IntKind.u64.wrap y1)), (9, .int .u64 (bShr .u64 x1 32)), (10, .int .u64 x2), (11, .int .u64 x3), (13, .int .u64 (bShr .u64 x4 32)), (14, .int .u64 x5), (15, .int .u64 s_)] ∧ St e w_ [] []) hF (fun s1 _ w2 hI hF => ?_) (fun j1 hj1 hF => ?_)
    ·
     obtain ⟨rfl, h4⟩ := hI
     refine sr ?_
     refine mv rfl rfl rfl ?_
     refine bin rfl rfl rfl rfl rfl ?_
     refine mv rfl rfl rfl ?_
     refine bin rfl rfl rfl rfl rfl ?_
     refine mv rfl rfl rfl ?_
     refine mv rfl rfl rfl ?_
     refine bin rfl rfl rfl rfl rfl ?_
     refine bin rfl rfl rfl rfl rfl ?_
     refine asg rfl rfl rfl ?_
     obtain ⟨x8, e19, hF⟩ := letP_use hF
     refine RunL.name e19 ?_
     refine nil ?_
     refine sr ?_
     refine mv rfl rfl rfl ?_
     refine mv rfl rfl rfl ?_
     obtain ⟨e20, hF⟩ := chk_use hF
     refine op (OpS.quo rfl rfl rfl rfl e20 ?_)
     refine asg rfl rfl rfl ?_
     obtain ⟨x9, e21, hF⟩ := letP_use hF
     refine RunL.name e21 ?_
     refine nil ?_
     refine sr ?_
     refine mv rfl rfl rfl ?_
     refine mv rfl rfl rfl ?_
     refine mv rfl rfl rfl ?_
     refine bin rfl rfl rfl rfl rfl ?_
     refine bin rfl rfl rfl rfl rfl ?_
     refine asg rfl rfl rfl ?_
     obtain ⟨x10, e22, hF⟩ := letP_use hF
     refine RunL.name e22 ?_
     refine nil ?_
     refine Run.seq ?_
     refine Run.join (σ := Int) (fun s_ L_ w_ => L_ = [(2, .int .u64 x1), (8, .int .u64 (IntKind.u64.wrap y1)), (14, .int .u64 x5), (15, .int .u64 s1), (17, .int .u64 x8), (18, .int .u64 s_)] ∧ St e w_ [] []) hF (fun s2 _ w3 hI hF => ?_) (fun j2 hj2 hF => ?_)
     ·
      obtain ⟨rfl, h5⟩ := hI
      refine sr ?_
      refine mv rfl rfl rfl ?_
      refine bin rfl rfl rfl rfl rfl ?_
      refine mv rfl rfl rfl ?_
      refine bin rfl rfl rfl rfl rfl ?_
      refine mv rfl rfl rfl ?_
      refine bin rfl rfl rfl rfl rfl ?_
      refine mv rfl rfl rfl ?_
      refine bin rfl rfl rfl rfl rfl ?_
      refine mv rfl rfl rfl ?_
      refine mv rfl rfl rfl ?_
      refine bin rfl rfl rfl rfl rfl ?_
      refine bin rfl rfl rfl rfl rfl ?_
      refine mv rfl rfl rfl ?_
      obtain ⟨e23, hF⟩ := chk_use hF
      refine op (OpS.shr rfl rfl rfl rfl e23 ?_)
      refine asg rfl rfl rfl ?_
      obtain ⟨x11, e24, hF⟩ := letP_use hF
      refine RunL.name e24 ?_
      refine asg rfl rfl rfl ?_
      obtain ⟨x12, e25, hF⟩ := letP_use hF
      refine RunL.name e25 ?_
      refine nil ?_
      refine Run.retP rfl (.tmp rfl (.tmp rfl .nil)) ?_
      cases hF
      exact Post.mk' ⟨rfl, rfl, rfl, rfl⟩ (h5.picks .nil) .nil
     ·
      refine Run.block ?_
      refine Run.slim [(2, .int .u64 x1), (8, .int .u64 (IntKind.u64.wrap y1)), (9, .int .u64 (bShr .u64 x1 32)), (10, .int .u64 x2), (14, .int .u64 x5), (15, .int .u64 s1), (16, .int .u64 x10), (17, .int .u64 x8), (18, .int .u64 x9)] ⟨rfl, rfl, rfl, rfl, rfl, rfl, rfl, rfl, rfl, trivial⟩ ?_
      refine Run.loopP (σ := (Int × Int)) (fun s_ L_ w_ => L_ = [(2, .int .u64 x1), (8, .int .u64 (IntKind.u64.wrap y1)), (9, .int .u64 (bShr .u64 x1 32)), (10, .int .u64 x2), (14, .int .u64 x5), (15, .int .u64 s1), (16, .int .u64 s_.1), (17, .int .u64 x8), (18, .int .u64 s_.2)] ∧ St e w_ [] []) hF ⟨rfl, (h4.facts .nil).picks .nil⟩ (fun k1 hk1 s3 _ w4 hI hF => ?_)
      obtain ⟨rfl, h6⟩ := hI
      refine Run.seq ?_
      refine sr ?_
      refine mv rfl rfl rfl ?_
      refine bin rfl rfl rfl rfl rfl ?_
      refine mv rfl rfl rfl ?_
      refine RunL.join (σ := Bool) (fun s_ L_ w_ => L_ = [(2, .int .u64 x1), (8, .int .u64 (IntKind.u64.wrap y1)), (9, .int .u64 (bShr .u64 x1 32)), (10, .int .u64 x2), (14, .int .u64 x5), (15, .int .u64 s1), (16, .int .u64 s3.1), (17, .int .u64 x8), (18, .int .u64 s3.2), (113, .bool s_)] ∧ St e w_ [] []) hF (fun s4 _ w5 hI hF => ?_) (fun j3 hj3 hF => ?_)
      ·
       obtain ⟨rfl, h7⟩ := hI
       refine Run.ite rfl hF (fun e26 hF => ?_) (fun e26 hF => ?_)
       ·
        refine Run.skip ?_
        refine Run.block ?_
        refine sr ?_
        refine mv rfl rfl rfl ?_
        refine bin rfl rfl rfl rfl rfl ?_
        refine asg rfl rfl rfl ?_
        obtain ⟨x13, e27, hF⟩ := letP_use hF
        refine RunL.name e27 ?_
        refine nil ?_
        refine sr ?_
        refine mv rfl rfl rfl ?_
        refine mv rfl rfl rfl ?_
        refine bin rfl rfl rfl rfl rfl ?_
        refine asg rfl rfl rfl ?_
        obtain ⟨x14, e28, hF⟩ := letP_use hF
        refine RunL.name e28 ?_
        refine nil ?_
        refine sr ?_
        refine mv rfl rfl rfl ?_
        refine bin rfl rfl rfl rfl rfl ?_
        refine nil ?_
        refine Run.ite rfl hF (fun e29 hF => ?_) (fun e29 hF => ?_)
        ·
         refine Run.exit rfl ?_
         refine Run.slim [(2, .int .u64 x1), (8, .int .u64 (IntKind.u64.wrap y1)), (14, .int .u64 x5), (15, .int .u64 s1), (17, .int .u64 x8), (18, .int .u64 x13)] ⟨rfl, rfl, rfl, rfl, rfl, rfl, trivial⟩ ?_
         exact hj2 (x13) _ _ ⟨rfl, (h7.facts .nil).picks .nil⟩ hF
        ·
         refine Run.skip ?_
         refine Run.endBlock ?_
         refine Run.slim [(2, .int .u64 x1), (8, .int .u64 (IntKind.u64.wrap y1)), (9, .int .u64 (bShr .u64 x1 32)), (10, .int .u64 x2), (14, .int .u64 x5), (15, .int .u64 s1), (16, .int .u64 x14), (17, .int .u64 x8), (18, .int .u64 x13)] ⟨rfl, rfl, rfl, rfl, rfl, rfl, rfl, rfl, rfl, trivial⟩ ?_
         exact hk1 (x14, x13) _ _ ⟨rfl, (h7.facts .nil).picks .nil⟩ hF
       ·
        refine Run.exit rfl ?_
        refine Run.slim [(2, .int .u64 x1), (8, .int .u64 (IntKind.u64.wrap y1)), (14, .int .u64 x5), (15, .int .u64 s1), (17, .int .u64 x8), (18, .int .u64 s3.2)] ⟨rfl, rfl, rfl, rfl, rfl, rfl, trivial⟩ ?_
        exact hj2 (s3.2) _ _ ⟨rfl, (h7.facts .nil).picks .nil⟩ hF
      ·
       refine RunL.caseb hF (fun e30 hF => ?_) (fun e30 hF => ?_)
       ·
        refine pass rfl rfl rfl ?_
        refine pass rfl rfl rfl ?_
        refine pass rfl rfl rfl ?_
        refine pass rfl rfl rfl ?_
        refine pass rfl rfl rfl ?_
        refine pass rfl rfl rfl ?_
        refine pass rfl rfl rfl ?_
        refine pass rfl rfl rfl ?_
        refine pick rfl rfl rfl rfl ?_
        refine nil ?_
        refine Run.slim [(2, .int .u64 x1), (8, .int .u64 (IntKind.u64.wrap y1)), (9, .int .u64 (bShr .u64 x1 32)), (10, .int .u64 x2), (14, .int .u64 x5), (15, .int .u64 s1), (16, .int .u64 s3.1), (17, .int .u64 x8), (18, .int .u64 s3.2), (113, .bool true)] ⟨rfl, rfl, rfl, rfl, rfl, rfl, rfl, rfl, rfl, rfl, trivial⟩ ?_
        exact hj3 (true) _ _ ⟨rfl, (h6.facts .nil).picks .nil⟩ hF
       ·
        refine mv rfl rfl rfl ?_
        refine mv rfl rfl rfl ?_
        refine bin rfl rfl rfl rfl rfl ?_
        refine mv rfl rfl rfl ?_
        refine bin rfl rfl rfl rfl rfl ?_
        refine mv rfl rfl rfl ?_
        refine bin rfl rfl rfl rfl rfl ?_
        refine bin rfl rfl rfl rfl rfl ?_
        refine pick rfl rfl rfl rfl ?_
        refine nil ?_
        refine Run.slim [(2, .int .u64 x1), (8, .int .u64 (IntKind.u64.wrap y1)), (9, .int .u64 (bShr .u64 x1 32)), (10, .int .u64 x2), (14, .int .u64 x5), (15, .int .u64 s1), (16, .int .u64 s3.1), (17, .int .u64 x8), (18, .int .u64 s3.2), (113, .bool (decide ((IntKind.u64.wrap (s3.2 * x2)) > (IntKind.u64.wrap ((IntKind.u64.wrap (4294967296 * s3.1)) + x5)))))] ⟨rfl, rfl, rfl, rfl, rfl, rfl, rfl, rfl, rfl, rfl, trivial⟩ ?_
        exact hj3 (decide ((IntKind.u64.wrap (s3.2 * x2)) > (IntKind.u64.wrap ((IntKind.u64.wrap (4294967296 * s3.1)) + x5)))) _ _ ⟨rfl, (h6.facts .nil).picks .nil⟩ hF
    ·
     refine Run.block ?_
     refine Run.slim [(2, .int .u64 x1), (8, .int .u64 (IntKind.u64.wrap y1)), (9, .int .u64 (bShr .u64 x1 32)), (10, .int .u64 x2), (11, .int .u64 x3), (13, .int .u64 (bShr .u64 x4 32)), (14, .int .u64 x5), (15, .int .u64 x6), (16, .int .u64 x7)] ⟨rfl, rfl, rfl, rfl, rfl, rfl, rfl, rfl, rfl, trivial⟩ ?_
     refine Run.loopP (σ := (Int × Int)) (fun s_ L_ w_ => L_ = [(2, .int .u64 x1), (8, .int .u64 (IntKind.u64.wrap y1)), (9, .int .u64 (bShr .u64 x1 32)), (10, .int .u64 x2), (11, .int .u64 x3), (13, .int .u64 (bShr .u64 x4 32)), (14, .int .u64 x5), (15, .int .u64 s_.1), (16, .int .u64 s_.2)] ∧ St e w_ [] []) hF ⟨rfl, (h3.facts .nil).picks .nil⟩ (fun k2 hk2 s5 _ w6 hI hF => ?_)
     obtain ⟨rfl, h8⟩ := hI
     refine Run.seq ?_
     refine sr ?_
     refine mv rfl rfl rfl ?_
     refine bin rfl rfl rfl rfl rfl ?_
     refine mv rfl rfl rfl ?_
     refine RunL.join (σ := Bool) (fun s_ L_ w_ => L_ = [(2, .int .u64 x1), (8, .int .u64 (IntKind.u64.wrap y1)), (9, .int .u64 (bShr .u64 x1 32)), (10, .int .u64 x2), (11, .int .u64 x3), (13, .int .u64 (bShr .u64 x4 32)), (14, .int .u64 x5), (15, .int .u64 s5.1), (16, .int .u64 s5.2), (78, .bool s_)] ∧ St e w_ [] []) hF (fun s6 _ w7 hI hF => ?_) (fun j4 hj4 hF => ?_)
     ·
      obtain ⟨rfl, h9⟩ := hI
      refine Run.ite rfl hF (fun e31 hF => ?_) (fun e31 hF => ?_)
      ·
       refine Run.skip ?_
       refine Run.block ?_
       refine sr ?_
       refine mv rfl rfl rfl ?_
       refine bin rfl rfl rfl rfl rfl ?_
       refine asg rfl rfl rfl ?_
       obtain ⟨x15, e32, hF⟩ := letP_use hF
       refine RunL.name e32 ?_
       refine nil ?_
       refine sr ?_
       refine mv rfl rfl rfl ?_
       refine mv rfl rfl rfl ?_
       refine bin rfl rfl rfl rfl rfl ?_
       refine asg rfl rfl rfl ?_
       obtain ⟨x16, e33, hF⟩ := letP_use hF
       refine RunL.name e33 ?_
       refine nil ?_
       refine sr ?_
       refine mv rfl rfl rfl ?_
       refine bin rfl rfl rfl rfl rfl ?_
       refine nil ?_
       refine Run.ite rfl hF (fun e34 hF => ?_) (fun e34 hF => ?_)
       ·
        refine Run.exit rfl ?_
        refine Run.slim [(2, .int .u64 x1), (8, .int .u64 (IntKind.u64.wrap y1)), (9, .int .u64 (bShr .u64 x1 32)), (10, .int .u64 x2), (11, .int .u64 x3), (13, .int .u64 (bShr .u64 x4 32)), (14, .int .u64 x5), (15, .int .u64 x15)] ⟨rfl, rfl, rfl, rfl, rfl, rfl, rfl, rfl, trivial⟩ ?_
        exact hj1 (x15) _ _ ⟨rfl, (h9.facts .nil).picks .nil⟩ hF
       ·
        refine Run.skip ?_
        refine Run.endBlock ?_
        refine Run.slim [(2, .int .u64 x1), (8, .int .u64 (IntKind.u64.wrap y1)), (9, .int .u64 (bShr .u64 x1 32)), (10, .int .u64 x2), (11, .int .u64 x3), (13, .int .u64 (bShr .u64 x4 32)), (14, .int .u64 x5), (15, .int .u64 x15), (16, .int .u64 x16)] ⟨rfl, rfl, rfl, rfl, rfl, rfl, rfl, rfl, rfl, trivial⟩ ?_
        exact hk2 (x15, x16) _ _ ⟨rfl, (h9.facts .nil).picks .nil⟩ hF
      ·
       refine Run.exit rfl ?_
       refine Run.slim [(2, .int .u64 x1), (8, .int .u64 (IntKind.u64.wrap y1)), (9, .int .u64 (bShr .u64 x1 32)), (10, .int .u64 x2), (11, .int .u64 x3), (13, .int .u64 (bShr .u64 x4 32)), (14, .int .u64 x5), (15, .int .u64 s5.1)] ⟨rfl, rfl, rfl, rfl, rfl, rfl, rfl, rfl, trivial⟩ ?_
       exact hj1 (s5.1) _ _ ⟨rfl, (h9.facts .nil).picks .nil⟩ hF
     ·
      refine RunL.caseb hF (fun e35 hF => ?_) (fun e35 hF => ?_)
      ·
       refine pass rfl rfl rfl ?_
       refine pass rfl rfl rfl ?_
       refine pass rfl rfl rfl ?_
       refine pass rfl rfl rfl ?_
       refine pass rfl rfl rfl ?_
       refine pass rfl rfl rfl ?_
       refine pass rfl rfl rfl ?_
       refine pass rfl rfl rfl ?_
       refine pick rfl rfl rfl rfl ?_
       refine nil ?_
       refine Run.slim [(2, .int .u64 x1), (8, .int .u64 (IntKind.u64.wrap y1)), (9, .int .u64 (bShr .u64 x1 32)), (10, .int .u64 x2), (11, .int .u64 x3), (13, .int .u64 (bShr .u64 x4 32)), (14, .int .u64 x5), (15, .int .u64 s5.1), (16, .int .u64 s5.2), (78, .bool true)] ⟨rfl, rfl, rfl, rfl, rfl, rfl, rfl, rfl, rfl, rfl, trivial⟩ ?_
       exact hj4 (true) _ _ ⟨rfl, (h8.facts .nil).picks .nil⟩ hF
      ·
       refine mv rfl rfl rfl ?_
       refine mv rfl rfl rfl ?_
       refine bin rfl rfl rfl rfl rfl ?_
       refine mv rfl rfl rfl ?_
       refine bin rfl rfl rfl rfl rfl ?_
       refine mv rfl rfl rfl ?_
       refine bin rfl rfl rfl rfl rfl ?_
       refine bin rfl rfl rfl rfl rfl ?_
       refine pick rfl rfl rfl rfl ?_
       refine nil ?_
       refine Run.slim [(2, .int .u64 x1), (8, .int .u64 (IntKind.u64.wrap y1)), (9, .int .u64 (bShr .u64 x1 32)), (10, .int .u64 x2), (11, .int .u64 x3), (13, .int .u64 (bShr .u64 x4 32)), (14, .int .u64 x5), (15, .int .u64 s5.1), (16, .int .u64 s5.2), (78, .bool (decide ((IntKind.u64.wrap (s5.1 * x2)) > (IntKind.u64.wrap ((IntKind.u64.wrap (4294967296 * s5.2)) + (bShr .u64 x4 32))))))] ⟨rfl, rfl, rfl, rfl, rfl, rfl, rfl, rfl, rfl, rfl, trivial⟩ ?_
       exact hj4 (decide ((IntKind.u64.wrap (s5.1 * x2)) > (IntKind.u64.wrap ((IntKind.u64.wrap (4294967296 * s5.2)) + (bShr .u64 x4 32))))) _ _ ⟨rfl, (h8.facts .nil).picks .nil⟩ hF
theorem micro_Mul_ok {fuel : Nat} {a0 : Int} {a1 : Int} {y : Int} (hF : micro_Mul fuel a0 a1 = some y) {w : World} :
  Spec Tryz.prog 179 [.int .i64 a0, .int .i64 a1].toArray w [] [] (fun v Γr Ωr Ωo => v = .int .i64 y ∧ Γr = [] ∧ Ωr = [] ∧ Ωo = []) := by
 refine Spec.of (L := [(0, .int .i64 a0), (1, .int .i64 a1)]) Tryz.func179 rfl ⟨rfl, rfl, trivial⟩ rfl (fun e h => ?_)
 unfold micro_Mul at hF
 refine sr ?_
 refine asg rfl rfl rfl ?_
 refine nil ?_
 refine sr ?_
 refine mv rfl rfl rfl ?_
 obtain ⟨y1, e1, hF⟩ := bindP_use hF
 refine op (OpS.callP h Tryz.func118 rfl rfl rfl rfl (vs := [.int .i64 a0]) rfl (micro_Clamp_ok e1) .nil ?_)
 rintro _ w1 _ _ _ ⟨rfl, rfl, rfl, rfl⟩ h1
 have h2 := h1 rfl rfl
 simp only [ca, na] at h2
 refine mv rfl rfl rfl ?_
 obtain ⟨y2, e2, hF⟩ := bindP_use hF
 refine op (OpS.callP h2 Tryz.func118 rfl rfl rfl rfl (vs := [.int .i64 a1]) rfl (micro_Clamp_ok e2) .nil ?_)
 rintro _ w2 _ _ _ ⟨rfl, rfl, rfl, rfl⟩ h3
 have h4 := h3 rfl rfl
 simp only [ca, na] at h4
 refine asg rfl rfl rfl ?_
 refine asg rfl rfl rfl ?_
 refine nil ?_
 refine sr ?_
 refine mv rfl rfl rfl ?_
 obtain ⟨y3, e3, hF⟩ := bindP_use hF
 refine op (OpS.callP h4 Tryz.func232 rfl rfl rfl rfl (vs := [.int .i64 y1]) rfl (micro_size_ok e3) .nil ?_)
 rintro _ w3 _ _ _ ⟨rfl, rfl, rfl, rfl⟩ h5
 have h6 := h5 rfl rfl
 simp only [ca, na] at h6
 refine mv rfl rfl rfl ?_
 obtain ⟨y4, e4, hF⟩ := bindP_use hF
 refine op (OpS.callP h6 Tryz.func232 rfl rfl rfl rfl (vs := [.int .i64 y2]) rfl (micro_size_ok e4) .nil ?_)
 rintro _ w4 _ _ _ ⟨rfl, rfl, rfl, rfl⟩ h7
 have h8 := h7 rfl rfl
 simp only [ca, na] at h8
 obtain ⟨y5, e5, hF⟩ := bindP_use hF
 refine op (OpS.callP h8 Tryz.func202 rfl rfl rfl rfl (vs := [.int .u64 y3, .int .u64 y4]) rfl (bits_Mul64_ok e5) .nil ?_)
 rintro _ w5 _ _ _ ⟨rfl, rfl, rfl, rfl⟩ h9
 have h10 := h9 rfl rfl
 simp only [ca, na] at h10
 refine mv rfl rfl rfl ?_
 refine op (OpS.ext rfl rfl rfl rfl ?_)
 refine op (OpS.ext rfl rfl rfl rfl ?_)
 refine asg rfl rfl rfl ?_
 refine asg rfl rfl rfl ?_
 refine nil ?_
 refine sr ?_
 refine mv rfl rfl rfl ?_
 refine mv rfl rfl rfl ?_
 obtain ⟨y6, e6, hF⟩ := bindP_use hF
 refine op (OpS.callP h10 Tryz.func233 rfl rfl rfl rfl (vs := [.int .u64 y5.1, .int .u64 y5.2, .int .u64 1000000]) rfl (bits_Div64_ok e6) .nil ?_)
 rintro _ w6 _ _ _ ⟨rfl, rfl, rfl, rfl⟩ h11
 have h12 := h11 rfl rfl
 simp only [ca, na] at h12
 refine mv rfl rfl rfl ?_
 refine op (OpS.ext rfl rfl rfl rfl ?_)
 refine op (OpS.ext rfl rfl rfl rfl ?_)
 refine asg rfl rfl rfl ?_
 refine asg rfl rfl rfl ?_
 refine nil ?_
 refine Run.seq ?_
 refine sr ?_
 refine mv rfl rfl rfl ?_
 refine bin rfl rfl rfl rfl rfl ?_
 refine mv rfl rfl rfl ?_
 refine bin rfl rfl rfl rfl rfl ?_
 refine op (OpS.eqb Tryz.underlying4 rfl rfl rfl rfl ?_)
 refine nil ?_
 refine Run.ite rfl hF (fun e7 hF => ?_) (fun e7 hF => ?_)
 ·
  refine sr ?_
  refine mv rfl rfl rfl ?_
  refine op (OpS.conv Tryz.underlying328 Tryz.underlying2 rfl rfl rfl ?_)
  obtain ⟨y7, e8, hF⟩ := bindP_use hF
  refine op (OpS.callP h12 Tryz.func118 rfl rfl rfl rfl (vs := [.int .i64 (IntKind.i64.wrap y6.1)]) rfl (micro_Clamp_ok e8) .nil ?_)
  rintro _ w7 _ _ _ ⟨rfl, rfl, rfl, rfl⟩ h13
  have h14 := h13 rfl rfl
  simp only [ca, na] at h14
  refine asg rfl rfl rfl ?_
  refine nil ?_
  refine Run.slim [(4, .int .i64 y7)] ⟨rfl, trivial⟩ ?_
  refine Run.retP rfl (.tmp rfl .nil) ?_
  cases hF
  exact Post.mk' ⟨rfl, rfl, rfl, rfl⟩ (h14.picks .nil) .nil
 ·
  refine Run.skip ?_
  refine Run.seq ?_
  refine sr ?_
  refine mv rfl rfl rfl ?_
  refine bin rfl rfl rfl rfl rfl ?_
  refine nil ?_
  refine Run.ite rfl hF (fun e9 hF => ?_) (fun e9 hF => ?_)
  ·
   refine Run.reg ?_
   refine mv rfl rfl rfl ?_
   refine bin rfl rfl rfl rfl rfl ?_
   refine asg rfl rfl rfl ?_
   obtain ⟨x1, e10, hF⟩ := letP_use hF
   refine RunL.name e10 ?_
   refine nil ?_
   refine Run.slim [(7, .int .u64 x1)] ⟨rfl, trivial⟩ ?_
   refine sr ?_
   refine mv rfl rfl rfl ?_
   refine op (OpS.conv Tryz.underlying328 Tryz.underlying2 rfl rfl rfl ?_)
   refine op (OpS.neg rfl rfl rfl ?_)
   obtain ⟨y8, e11, hF⟩ := bindP_use hF
   refine op (OpS.callP h12 Tryz.func118 rfl rfl rfl rfl (vs := [.int .i64 (IntKind.i64.wrap (0 - (IntKind.i64.wrap x1)))]) rfl (micro_Clamp_ok e11) .nil ?_)
   rintro _ w8 _ _ _ ⟨rfl, rfl, rfl, rfl⟩ h15
   have h16 := h15 rfl rfl
   simp only [ca, na] at h16
   refine asg rfl rfl rfl ?_
   refine nil ?_
   refine Run.retP rfl (.tmp rfl .nil) ?_
   cases hF
   exact Post.mk' ⟨rfl, rfl, rfl, rfl⟩ (h16.picks .nil) .nil
  ·
   refine Run.skip ?_
   refine sr ?_
   refine mv rfl rfl rfl ?_
   refine op (OpS.conv Tryz.underlying328 Tryz.underlying2 rfl rfl rfl ?_)
   refine op (OpS.neg rfl rfl rfl ?_)
   obtain ⟨y9, e12, hF⟩ := bindP_use hF
   refine op (OpS.callP h12 Tryz.func118 rfl rfl rfl rfl (vs := [.int .i64 (IntKind.i64.wrap (0 - (IntKind.i64.wrap y6.1)))]) rfl (micro_Clamp_ok e12) .nil ?_)
   rintro _ w9 _ _ _ ⟨rfl, rfl, rfl, rfl⟩ h17
   have h18 := h17 rfl rfl
   simp only [ca, na] at h18
   refine asg rfl rfl rfl ?_
   refine nil ?_
   refine Run.slim [(4, .int .i64 y9)] ⟨rfl, trivial⟩ ?_
   refine Run.retP rfl (.tmp rfl .nil) ?_
   cases hF
   exact Post.mk' ⟨rfl, rfl, rfl, rfl⟩ (h18.picks .nil) .nil
theorem math_Sqrt_ok {fuel : Nat} {a0 : Nat} {y : Nat} (hF : math_Sqrt fuel a0 = some y) {w : World} :
  Spec Tryz.prog 234 [.float .f64 a0].toArray w [] [] (fun v Γr Ωr Ωo => v = .float .f64 y ∧ Γr = [] ∧ Ωr = [] ∧ Ωo = []) := by
 refine Spec.of (L := [(0, .float .f64 a0)]) Tryz.func234 rfl ⟨rfl, trivial⟩ rfl (fun e h => ?_)
 unfold math_Sqrt at hF
 refine sr ?_
 refine asg rfl rfl rfl ?_
 refine nil ?_
 refine sr ?_
 refine mv rfl rfl rfl ?_
 obtain ⟨x1, e1, hF⟩ := bindP_use hF
 refine op (OpS.fsqrt Tryz.func250 rfl rfl ext250n ext250 rfl rfl rfl e1 ?_)
 refine asg rfl rfl rfl ?_
 refine nil ?_
 refine Run.retP rfl (.tmp rfl .nil) ?_
 cases hF
 exact Post.mk' ⟨rfl, rfl, rfl, rfl⟩ (h.picks .nil) .nil
theorem micro_Root_ok {fuel : Nat} {a0 : Int} {y : Int × Int} (hF : micro_Root fuel a0 = some y) {w : World} :
  Spec Tryz.prog 180 [.int .i64 a0].toArray w [] [] (fun v Γr Ωr Ωo => v = .tuple #[.int .i64 y.1, .int .i64 y.2] ∧ Γr = [] ∧ Ωr = [] ∧ Ωo = []) := by
 refine Spec.of (L := [(0, .int .i64 a0)]) Tryz.func180 rfl ⟨rfl, trivial⟩ rfl (fun e h => ?_)
 unfold micro_Root at hF
 refine sr ?_
 refine asg rfl rfl rfl ?_
 refine asg rfl rfl rfl ?_
 refine nil ?_
 refine sr ?_
 refine mv rfl rfl rfl ?_
 obtain ⟨y1, e1, hF⟩ := bindP_use hF
 refine op (OpS.callP h Tryz.func118 rfl rfl rfl rfl (vs := [.int .i64 a0]) rfl (micro_Clamp_ok e1) .nil ?_)
 rintro _ w1 _ _ _ ⟨rfl, rfl, rfl, rfl⟩ h1
 have h2 := h1 rfl rfl
 simp only [ca, na] at h2
 refine asg rfl rfl rfl ?_
 refine nil ?_
 refine Run.seq ?_
 refine sr ?_
 refine mv rfl rfl rfl ?_
 refine bin rfl rfl rfl rfl rfl ?_
 refine nil ?_
 refine Run.ite rfl hF (fun e2 hF => ?_) (fun e2 hF => ?_)
 ·
  refine sr ?_
  refine asg rfl rfl rfl ?_
  refine asg rfl rfl rfl ?_
  refine nil ?_
  refine Run.retP rfl (.tmp rfl (.tmp rfl .nil)) ?_
  cases hF
  exact Post.mk' ⟨rfl, rfl, rfl, rfl⟩ (h2.picks .nil) .nil
 ·
  refine Run.skip ?_
  refine sr ?_
  refine mv rfl rfl rfl ?_
  refine bin rfl rfl rfl rfl rfl ?_
  refine asg rfl rfl rfl ?_
  obtain ⟨x1, e3, hF⟩ := letP_use hF
  refine RunL.name e3 ?_
  refine nil ?_
  refine sr ?_
  refine mv rfl rfl rfl ?_
  refine op (OpS.i2f Tryz.underlying2 Tryz.underlying353 rfl rfl rfl ?_)
  obtain ⟨y2, e4, hF⟩ := bindP_use hF
  refine op (OpS.callP h2 Tryz.func234 rfl rfl rfl rfl (vs := [.float .f64 (FloatKind.f64.nearest x1)]) rfl (math_Sqrt_ok e4) .nil ?_)
  rintro _ w2 _ _ _ ⟨rfl, rfl, rfl, rfl⟩ h3
  have h4 := h3 rfl rfl
  simp only [ca, na] at h4
  obtain ⟨x2, e5, hF⟩ := bindP_use hF
  refine op (OpS.f2i Tryz.underlying353 Tryz.underlying2 rfl rfl rfl e5 ?_)
  refine asg rfl rfl rfl ?_
  refine nil ?_
  refine Run.seq ?_
  refine Run.block ?_
  refine Run.slim [(4, .int .i64 x1), (5, .int .i64 x2)] ⟨rfl, rfl, trivial⟩ ?_
  refine Run.loopP (σ := Int) (fun s_ L_ w_ => L_ = [(4, .int .i64 x1), (5, .int .i64 s_)] ∧ St e w_ [] []) hF ⟨rfl, (h4.facts .nil).picks .nil⟩ (fun k1 hk1 s1 _ w3 hI hF => ?_)
  obtain ⟨rfl, h5⟩ := hI
  refine Run.seq ?_
  refine sr ?_
  refine mv rfl rfl rfl ?_
  refine mv rfl rfl rfl ?_
  refine bin rfl rfl rfl rfl rfl ?_
  refine mv rfl rfl rfl ?_
  refine bin rfl rfl rfl rfl rfl ?_
  refine nil ?_
  refine Run.ite rfl hF (fun e6 hF => ?_) (fun e6 hF => ?_)
  ·
   refine Run.skip ?_
   refine Run.block ?_
   refine Run.reg ?_
   refine mv rfl rfl rfl ?_
   refine bin rfl rfl rfl rfl rfl ?_
   refine asg rfl rfl rfl ?_
   obtain ⟨x3, e7, hF⟩ := letP_use hF
   refine RunL.name e7 ?_
   refine nil ?_
   refine Run.endBlock ?_
   refine Run.slim [(4, .int .i64 x1), (5, .int .i64 x3)] ⟨rfl, rfl, trivial⟩ ?_
   exact hk1 (x3) _ _ ⟨rfl, (h5.facts .nil).picks .nil⟩ hF
  ·
   refine Run.exit rfl ?_
   refine Run.seq ?_
   refine Run.block ?_
   refine Run.slim [(4, .int .i64 x1), (5, .int .i64 s1)] ⟨rfl, rfl, trivial⟩ ?_
   refine Run.loopP (σ := Int) (fun s_ L_ w_ => L_ = [(4, .int .i64 x1), (5, .int .i64 s_)] ∧ St e w_ [] []) hF ⟨rfl, (h5.facts .nil).picks .nil⟩ (fun k2 hk2 s2 _ w4 hI hF => ?_)
   obtain ⟨rfl, h6⟩ := hI
   refine Run.seq ?_
   refine sr ?_
   refine mv rfl rfl rfl ?_
   refine bin rfl rfl rfl rfl rfl ?_
   refine mv rfl rfl rfl ?_
   refine bin rfl rfl rfl rfl rfl ?_
   refine bin rfl rfl rfl rfl rfl ?_
   refine mv rfl rfl rfl ?_
   refine bin rfl rfl rfl rfl rfl ?_
   refine nil ?_
   refine Run.ite rfl hF (fun e8 hF => ?_) (fun e8 hF => ?_)
   ·
    refine Run.skip ?_
    refine Run.block ?_
    refine Run.reg ?_
    refine mv rfl rfl rfl ?_
    refine bin rfl rfl rfl rfl rfl ?_
    refine asg rfl rfl rfl ?_
    obtain ⟨x4, e9, hF⟩ := letP_use hF
    refine RunL.name e9 ?_
    refine nil ?_
    refine Run.endBlock ?_
    refine Run.slim [(4, .int .i64 x1), (5, .int .i64 x4)] ⟨rfl, rfl, trivial⟩ ?_
    exact hk2 (x4) _ _ ⟨rfl, (h6.facts .nil).picks .nil⟩ hF
   ·
    refine Run.exit rfl ?_
    refine sr ?_
    refine mv rfl rfl rfl ?_
    refine asg rfl rfl rfl ?_
    refine asg rfl rfl rfl ?_
    refine nil ?_
    refine Run.retP rfl (.tmp rfl (.tmp rfl .nil)) ?_
    cases hF
    exact Post.mk' ⟨rfl, rfl, rfl, rfl⟩ (h6.picks .nil) .nil
theorem convert_value_ok {fuel : Nat} {a0 : Conversion_} {a1 : Int} {y : Int × Int} (hF : convert_value fuel a0 a1 = some y) {w : World} {v0 : Value} :
  Spec Tryz.prog 106 [v0, .int .u8 a1].toArray w [(false, .val Conversion_.rep v0 a0)] [] (fun v Γr Ωr Ωo => v = .tuple #[.int .i64 y.1, .int .i64 y.2] ∧ Γr = [] ∧ Ωr = [] ∧ Ωo = []) := by
 refine Spec.of (L := [(0, v0), (1, .int .u8 a1)]) Tryz.func106 rfl ⟨rfl, rfl, trivial⟩ rfl (fun e h => ?_)
 unfold convert_value at hF
 refine sr ?_
 refine op (OpS.boxF h rfl rfl rfl (V.at .z) (fun u1 w1 h1 => ?_))
 refine asg rfl rfl rfl ?_
 refine asg rfl rfl rfl ?_
 refine nil ?_
 refine sr ?_
 refine op (OpS.fbox (o3 := 1) h1 .z PA.z fa69_1 rfl rfl rfl rfl ?_)
 refine op (OpS.loadBb h1 .z PA.a (Get.fld Conversion_.f1) ty4 rfl rfl rfl ?_)
 refine mv rfl rfl rfl ?_
 obtain ⟨y1, e1, hF⟩ := bindP_use hF
 refine op (OpS.callP h1 Tryz.func51 rfl rfl rfl rfl (vs := [.bool a0.Signed, .int .u8 a1]) rfl (convert_Number_ok e1) .nil ?_)
 rintro _ w2 _ _ _ ⟨rfl, rfl, rfl, rfl⟩ h2
 have h3 := h2 rfl rfl
 simp only [ca, na] at h3
 refine asg rfl rfl rfl ?_
 refine nil ?_
 refine Run.seq ?_
 refine sr ?_
 refine op (OpS.fbox (o3 := 0) h3 .z PA.z fa69_0 rfl rfl rfl rfl ?_)
 refine op (OpS.loadBi h3 .z PA.a (Get.fld Conversion_.f0) ty3 rfl rfl rfl ?_)
 refine bin rfl rfl rfl rfl rfl ?_
 refine nil ?_
 refine Run.ite rfl hF (fun e2 hF => ?_) (fun e2 hF => ?_)
 ·
  refine sr ?_
  refine op (OpS.loadB h3 .z PA.z Get.id ty69 rfl rfl rfl (fun u2 h4 => ?_))
  refine mv rfl rfl rfl ?_
  obtain ⟨y2, e3, hF⟩ := bindP_use hF
  refine op (OpS.callP h4 Tryz.func176 rfl rfl rfl rfl (vs := [u2, .int .i64 y1]) rfl (convert_between_ok e3) (.cons (f := false) (V.at .z) .nil) ?_)
  rintro _ w3 _ _ _ ⟨rfl, rfl, rfl, rfl⟩ h5
  have h6 := h5 rfl rfl
  simp only [ca, na] at h6
  refine asg rfl rfl rfl ?_
  refine asg rfl rfl rfl ?_
  refine nil ?_
  refine Run.retP rfl (.tmp rfl (.tmp rfl .nil)) ?_
  cases hF
  exact Post.mk' ⟨rfl, rfl, rfl, rfl⟩ (h6.picks .nil) .nil
 ·
  refine Run.skip ?_
  refine sr ?_
  refine op (OpS.loadB h3 .z PA.z Get.id ty69 rfl rfl rfl (fun u3 h7 => ?_))
  refine mv rfl rfl rfl ?_
  obtain ⟨y3, e4, hF⟩ := bindP_use hF
  refine op (OpS.callP h7 Tryz.func177 rfl rfl rfl rfl (vs := [u3, .int .i64 y1]) rfl (convert_linear_ok e4) (.cons (f := false) (V.at .z) .nil) ?_)
  rintro _ w4 _ _ _ ⟨rfl, rfl, rfl, rfl⟩ h8
  have h9 := h8 rfl rfl
  simp only [ca, na] at h9
  refine asg rfl rfl rfl ?_
  refine nil ?_
  refine Run.seq ?_
  refine sr ?_
  refine op (OpS.fbox (o3 := 0) h9 .z PA.z fa69_0 rfl rfl rfl rfl ?_)
  refine op (OpS.loadBi h9 .z PA.a (Get.fld Conversion_.f0) ty3 rfl rfl rfl ?_)
  refine nil ?_
  refine Run.block ?_
  refine sr ?_
  refine bin rfl rfl rfl rfl rfl ?_
  refine asg rfl rfl rfl ?_
  obtain ⟨x1, e5, hF⟩ := letP_use hF
  refine RunL.nameb e5 ?_
  refine nil ?_
  refine Run.ite rfl hF (fun e6 hF => ?_) (fun e6 hF => ?_)
  ·
   refine sr ?_
   refine mv rfl rfl rfl ?_
   obtain ⟨y4, e7, hF⟩ := bindP_use hF
   refine op (OpS.callP h9 Tryz.func178 rfl rfl rfl rfl (vs := [.int .i64 1000000, .int .i64 y3]) rfl (micro_Div_ok e7) .nil ?_)
   rintro _ w5 _ _ _ ⟨rfl, rfl, rfl, rfl⟩ h10
   have h11 := h10 rfl rfl
   simp only [ca, na] at h11
   refine op (OpS.ext rfl rfl rfl rfl ?_)
   refine op (OpS.ext rfl rfl rfl rfl ?_)
   refine asg rfl rfl rfl ?_
   refine asg rfl rfl rfl ?_
   refine nil ?_
   refine Run.retP rfl (.tmp rfl (.tmp rfl .nil)) ?_
   cases hF
   exact Post.mk' ⟨rfl, rfl, rfl, rfl⟩ (h11.picks .nil) .nil
  ·
   refine sr ?_
   refine bin rfl rfl rfl rfl rfl ?_
   refine asg rfl rfl rfl ?_
   obtain ⟨x2, e8, hF⟩ := letP_use hF
   refine RunL.nameb e8 ?_
   refine nil ?_
   refine Run.ite rfl hF (fun e9 hF => ?_) (fun e9 hF => ?_)
   ·
    refine sr ?_
    refine mv rfl rfl rfl ?_
    refine mv rfl rfl rfl ?_
    obtain ⟨y5, e10, hF⟩ := bindP_use hF
    refine op (OpS.callP h9 Tryz.func179 rfl rfl rfl rfl (vs := [.int .i64 y3, .int .i64 y3]) rfl (micro_Mul_ok e10) .nil ?_)
    rintro _ w6 _ _ _ ⟨rfl, rfl, rfl, rfl⟩ h12
    have h13 := h12 rfl rfl
    simp only [ca, na] at h13
    refine asg rfl rfl rfl ?_
    refine asg rfl rfl rfl ?_
    refine nil ?_
    refine Run.retP rfl (.tmp rfl (.tmp rfl .nil)) ?_
    cases hF
    exact Post.mk' ⟨rfl, rfl, rfl, rfl⟩ (h13.picks .nil) .nil
   ·
    refine sr ?_
    refine bin rfl rfl rfl rfl rfl ?_
    refine asg rfl rfl rfl ?_
    obtain ⟨x3, e11, hF⟩ := letP_use hF
    refine RunL.nameb e11 ?_
    refine nil ?_
    refine Run.ite rfl hF (fun e12 hF => ?_) (fun e12 hF => ?_)
    ·
     refine sr ?_
     refine mv rfl rfl rfl ?_
     obtain ⟨y6, e13, hF⟩ := bindP_use hF
     refine op (OpS.callP h9 Tryz.func180 rfl rfl rfl rfl (vs := [.int .i64 y3]) rfl (micro_Root_ok e13) .nil ?_)
     rintro _ w7 _ _ _ ⟨rfl, rfl, rfl, rfl⟩ h14
     have h15 := h14 rfl rfl
     simp only [ca, na] at h15
     refine op (OpS.ext rfl rfl rfl rfl ?_)
     refine op (OpS.ext rfl rfl rfl rfl ?_)
     refine asg rfl rfl rfl ?_
     refine asg rfl rfl rfl ?_
     refine nil ?_
     refine Run.retP rfl (.tmp rfl (.tmp rfl .nil)) ?_
     cases hF
     exact Post.mk' ⟨rfl, rfl, rfl, rfl⟩ (h15.picks .nil) .nil
    ·
     refine Run.skip ?_
     refine Run.endBlock ?_
     refine sr ?_
     refine mv rfl rfl rfl ?_
     refine asg rfl rfl rfl ?_
     refine asg rfl rfl rfl ?_
     refine nil ?_
     refine Run.retP rfl (.tmp rfl (.tmp rfl .nil)) ?_
     cases hF
     exact Post.mk' ⟨rfl, rfl, rfl, rfl⟩ (h9.picks .nil) .nil
theorem convert_values_ok {fuel : Nat} {a0 : Conversion_} {y : (List convert_pair)} (hF : convert_values fuel a0 = some y) {w : World} {v0 : Value} :
  Spec Tryz.prog 104 [v0].toArray w [(false, .val Conversion_.rep v0 a0)] [] (fun v Γr Ωr Ωo => ∃ u0 : Value, v = u0 ∧ Γr = [] ∧ Ωr = [(true, (.slice 221 convert_pair.rep u0 y))] ∧ Ωo = []) := by
 refine Spec.of (L := [(0, v0)]) Tryz.func104 rfl ⟨rfl, trivial⟩ rfl (fun e h => ?_)
 unfold convert_values at hF
 refine sr ?_
 refine op (OpS.boxF h rfl rfl rfl (V.at .z) (fun u1 w1 h1 => ?_))
 refine asg rfl rfl rfl ?_
 refine nil ?_
 refine sr ?_
 refine asg rfl rfl rfl ?_
 refine nil ?_
 refine Run.seq ?_
 refine sr ?_
 refine mv rfl rfl rfl ?_
 refine nil ?_
 refine Run.block ?_
 have h2 := St.nil 221 convert_pair.rep h1
 refine Run.slim [(1, u1), (3, (.slice none 0 0)), (8, .int .i64 0)] ⟨rfl, rfl, rfl, trivial⟩ ?_
 refine Run.loopP (σ := (Int × (List convert_pair))) (fun s_ L_ w_ => ∃ u0_ : Value, L_ = [(1, u1), (3, u0_), (8, .int .i64 s_.1)] ∧ St e w_ [] [(false, .box 69 Conversion_.rep u1 a0), (true, .slice 221 convert_pair.rep u0_ s_.2)]) hF ⟨(.slice none 0 0), rfl, (h2.facts .nil).picks (.cons (.s .z) (.cons .z .nil))⟩ (fun k1 hk1 s1 _ w2 hI hF => ?_)
 obtain ⟨u2, rfl, h3⟩ := hI
 refine sr ?_
 refine bin rfl rfl rfl rfl rfl ?_
 refine nil ?_
 refine Run.seq ?_
 refine Run.ite rfl hF (fun e1 hF => ?_) (fun e1 hF => ?_)
 ·
  refine Run.skip ?_
  refine Run.seq ?_
  refine Run.block ?_
  refine sr ?_
  refine mv rfl rfl rfl ?_
  refine asg rfl rfl rfl ?_
  refine nil ?_
  refine sr ?_
  refine mv rfl rfl rfl ?_
  refine op (OpS.conv Tryz.underlying3 Tryz.underlying5 rfl rfl rfl ?_)
  refine asg rfl rfl rfl ?_
  refine nil ?_
  refine Run.seq ?_
  refine sr ?_
  refine op (OpS.fbox (o3 := 1) h3 .z PA.z fa69_1 rfl rfl rfl rfl ?_)
  refine op (OpS.loadBb h3 .z PA.a (Get.fld Conversion_.f1) ty4 rfl rfl rfl ?_)
  refine nil ?_
  refine Run.join (σ := Int) (fun s_ L_ w_ => L_ = [(1, u1), (3, u2), (5, .int .u8 s_), (8, .int .i64 s1.1)] ∧ St e w_ [] [(false, .box 69 Conversion_.rep u1 a0), (true, .slice 221 convert_pair.rep u2 s1.2)]) hF (fun s2 _ w3 hI hF => ?_) (fun j1 hj1 hF => ?_)
  ·
   obtain ⟨rfl, h4⟩ := hI
   refine sr ?_
   refine op (OpS.loadB h4 .z PA.z Get.id ty69 rfl rfl rfl (fun u3 h5 => ?_))
   refine mv rfl rfl rfl ?_
   obtain ⟨y1, e2, hF⟩ := bindP_use hF
   refine op (OpS.callP h5 Tryz.func106 rfl rfl rfl rfl (vs := [u3, .int .u8 s2]) rfl (convert_value_ok e2) (.cons (f := false) (V.at .z) .nil) ?_)
   rintro _ w4 _ _ _ ⟨rfl, rfl, rfl, rfl⟩ h6
   have h7 := h6 rfl rfl
   simp only [ca, na] at h7
   refine mv rfl rfl rfl ?_
   refine op (OpS.ext rfl rfl rfl rfl ?_)
   refine op (OpS.ext rfl rfl rfl rfl ?_)
   refine asg rfl rfl rfl ?_
   refine asg rfl rfl rfl ?_
   refine nil ?_
   refine sr ?_
   refine mv rfl rfl rfl ?_
   refine bin rfl rfl rfl rfl rfl ?_
   refine nil ?_
   refine Run.ite rfl hF (fun e3 hF => ?_) (fun e3 hF => ?_)
   ·
    refine Run.reg ?_
    refine mv rfl rfl rfl ?_
    refine mv rfl rfl rfl ?_
    refine mv rfl rfl rfl ?_
    refine op (OpS.build (f := true) (x' := (⟨s2, y1.1⟩ : convert_pair)) h7 pl221 ti221 convert_pair.zr rfl rfl rfl (.cons rfl convert_pair.f0 rfl V.int (.cons rfl convert_pair.f1 rfl V.int .nil)) (fun u4 h8 => ?_))
    refine op (OpS.lit (r := convert_pair.rep) (f := true) h8 Tryz.underlying218 ti221 rfl rfl rfl rfl rfl (.cons rfl (V.at .z) .nil) rfl rfl (fun u5 w5 h9 => ?_))
    obtain ⟨x1, e4, hF⟩ := bindP_use hF
    refine op (OpS.app (f' := true) h9 (.s .z) Tryz.underlying218 ti221 rfl rfl rfl rfl rfl rfl rfl (V.at .z) (.inr convert_pair.pure) e4 (fun u6 w6 h10 => ?_))
    refine asg rfl rfl rfl ?_
    refine nil ?_
    refine Run.endBlock ?_
    refine Run.reg ?_
    refine bin rfl rfl rfl rfl rfl ?_
    refine mv rfl rfl rfl ?_
    refine nil ?_
    refine Run.slim [(1, u1), (3, u6), (8, .int .i64 (IntKind.i64.wrap (s1.1 + 1)))] ⟨rfl, rfl, rfl, trivial⟩ ?_
    exact hk1 ((IntKind.i64.wrap (s1.1 + 1)), x1) _ _ ⟨u6, rfl, (h10.facts .nil).picks (.cons (.s .z) (.cons .z .nil))⟩ hF
   ·
    refine Run.skip ?_
    refine Run.endBlock ?_
    refine Run.reg ?_
    refine bin rfl rfl rfl rfl rfl ?_
    refine mv rfl rfl rfl ?_
    refine nil ?_
    refine Run.slim [(1, u1), (3, u2), (8, .int .i64 (IntKind.i64.wrap (s1.1 + 1)))] ⟨rfl, rfl, rfl, trivial⟩ ?_
    exact hk1 ((IntKind.i64.wrap (s1.1 + 1)), s1.2) _ _ ⟨u2, rfl, (h7.facts .nil).picks (.cons .z (.cons .z .nil))⟩ hF
  ·
   refine Run.ite rfl hF (fun e5 hF => ?_) (fun e5 hF => ?_)
   ·
    refine Run.reg ?_
    refine mv rfl rfl rfl ?_
    refine bin rfl rfl rfl rfl rfl ?_
    refine op (OpS.conv Tryz.underlying3 Tryz.underlying5 rfl rfl rfl ?_)
    refine asg rfl rfl rfl ?_
    obtain ⟨x2, e6, hF⟩ := letP_use hF
    refine RunL.name e6 ?_
    refine nil ?_
    refine Run.slim [(1, u1), (3, u2), (5, .int .u8 x2), (8, .int .i64 s1.1)] ⟨rfl, rfl, rfl, rfl, trivial⟩ ?_
    exact hj1 (x2) _ _ ⟨rfl, (h3.facts .nil).picks (.cons .z (.cons .z .nil))⟩ hF
   ·
    refine Run.skip ?_
    refine Run.slim [(1, u1), (3, u2), (5, .int .u8 (IntKind.u8.wrap s1.1)), (8, .int .i64 s1.1)] ⟨rfl, rfl, rfl, rfl, trivial⟩ ?_
    exact hj1 ((IntKind.u8.wrap s1.1)) _ _ ⟨rfl, (h3.facts .nil).picks (.cons .z (.cons .z .nil))⟩ hF
 ·
  refine Run.exit rfl ?_
  refine sr ?_
  refine mv rfl rfl rfl ?_
  refine asg rfl rfl rfl ?_
  refine nil ?_
  refine Run.retP rfl (.tmp rfl .nil) ?_
  cases hF
  exact Post.mk' ⟨u2, rfl, rfl, rfl, rfl⟩ (h3.picks (.cons (.s .z) .nil)) .nil
set_option maxHeartbeats 8000000 in set_option maxRecDepth 20000 in
theorem convert_Direction_ok {fuel : Nat} {a0 : Conversion_} {y : Int × Int} (hF : convert_Direction fuel a0 = some y) {w : World} {v0 : Value} :
  Spec Tryz.prog 37 [v0].toArray w [(false, .val Conversion_.rep v0 a0)] [] (fun v Γr Ωr Ωo => v = .tuple #[.int .i64 y.1, .int .i64 y.2] ∧ Γr = [] ∧ Ωr = [] ∧ Ωo = []) := by
 refine Spec.of (L := [(0, v0)]) Tryz.func37 rfl ⟨rfl, trivial⟩ rfl (fun e h => ?_)
 unfold convert_Direction at hF
 refine sr ?_
 refine op (OpS.boxF h rfl rfl rfl (V.at .z) (fun u1 w1 h1 => ?_))
 refine asg rfl rfl rfl ?_
 refine asg rfl rfl rfl ?_
 refine nil ?_
 refine Run.seq ?_
 refine sr ?_
 refine op (OpS.loadB h1 .z PA.z Get.id ty69 rfl rfl rfl (fun u2 h2 => ?_))
 obtain ⟨y1, e1, hF⟩ := bindP_use hF
 refine op (OpS.callP h2 Tryz.func103 rfl rfl rfl rfl (vs := [u2]) rfl (convert_Valid_ok e1) (.cons (f := false) (V.at .z) .nil) ?_)
 rintro _ w2 _ _ _ ⟨rfl, rfl, rfl, rfl⟩ h3
 have h4 := h3 rfl rfl
 simp only [ca, na] at h4
 refine op (OpS.not rfl rfl rfl ?_)
 refine nil ?_
 refine Run.ite rfl hF (fun e2 hF => ?_) (fun e2 hF => ?_)
 ·
  refine sr ?_
  refine asg rfl rfl rfl ?_
  refine asg rfl rfl rfl ?_
  refine nil ?_
  refine Run.retP rfl (.tmp rfl (.tmp rfl .nil)) ?_
  cases hF
  exact Post.mk' ⟨rfl, rfl, rfl, rfl⟩ (h4.picks .nil) .nil
 ·
  refine Run.skip ?_
  refine sr ?_
  refine asg rfl rfl rfl ?_
  refine asg rfl rfl rfl ?_
  refine nil ?_
  refine sr ?_
  refine op (OpS.loadB h4 .z PA.z Get.id ty69 rfl rfl rfl (fun u3 h5 => ?_))
  obtain ⟨y2, e3, hF⟩ := bindP_use hF
  refine op (OpS.callP h5 Tryz.func104 rfl rfl rfl rfl (vs := [u3]) rfl (convert_values_ok e3) (.cons (f := false) (V.at .z) .nil) ?_)
  rintro u4 w3 _ _ _ ⟨_, rfl, rfl, rfl, rfl⟩ h6
  have h7 := h6 rfl rfl
  simp only [ca, na] at h7
  refine asg rfl rfl rfl ?_
  have h8 := (h7.pick .z).freeze
  refine nil ?_
  refine Run.seq ?_
  refine sr ?_
  refine asg rfl rfl rfl ?_
  refine nil ?_
  refine Run.block ?_
  refine Run.slim [(4, .bool false), (5, .bool false), (6, u4), (7, .int .i64 1)] ⟨rfl, rfl, rfl, rfl, trivial⟩ ?_
  refine Run.loopP (σ := (Bool × Bool × Int)) (fun s_ L_ w_ => L_ = [(4, .bool s_.1), (5, .bool s_.2.1), (6, u4), (7, .int .i64 s_.2.2)] ∧ St e w_ [(true, .val (Rep.slice convert_pair.rep) u4 y2)] []) hF ⟨rfl, (h8.facts (.atm .z .nil)).picks .nil⟩ (fun k1 hk1 s1 _ w4 hI hF => ?_)
  obtain ⟨rfl, h9⟩ := hI
  refine Run.seq ?_
  refine sr ?_
  refine mv rfl rfl rfl ?_
  refine mv rfl rfl rfl ?_
  refine op (OpS.len h9 Tryz.underlying218 rfl rfl rfl (V.at .z) ?_)
  refine bin rfl rfl rfl rfl rfl ?_
  refine nil ?_
  refine Run.ite rfl hF (fun e4 hF => ?_) (fun e4 hF => ?_)
  ·
   refine Run.skip ?_
   refine Run.seq ?_
   refine Run.block ?_
   refine Run.seq ?_
   refine Run.join (σ := Bool) (fun s_ L_ w_ => L_ = [(4, .bool s_), (5, .bool s1.2.1), (6, u4), (7, .int .i64 s1.2.2)] ∧ St e w_ [(true, .val (Rep.slice convert_pair.rep) u4 y2)] []) hF (fun s2 _ w5 hI hF => ?_) (fun j1 hj1 hF => ?_)
   ·
    obtain ⟨rfl, h10⟩ := hI
    obtain ⟨x1, e5, hF⟩ := letP_use hF
    refine iteP_use hF (fun e6 hF => ?_) (fun e6 hF => ?_)
    ·
     have hG := hF
     subst e6
     have hF := hG
     refine Run.drawV (Ωs := []) [.k 34 (.bool s1.2.1), .k 35 (.bool true), .k 36 undef, .k 37 undef, .k 38 undef, .k 39 undef, .k 40 undef, .k 41 undef, .k 42 undef, .k 43 undef, .k 44 undef, .k 45 undef, .k 46 undef] [[], [0], [1], [1], [1], [1], [1], [1], [1], [1], [1], [1], [1]] [] [0, 1, 2, 3, 4, 5, 6, 7, 8, 9, 10, 11, 12] Try_mixed rfl rfl rfl h10 (.cons ?_ (.cons ?_ (.cons ?_ (.cons ?_ (.cons ?_ (.cons ?_ (.cons ?_ (.cons ?_ (.cons ?_ (.cons ?_ (.cons ?_ (.cons ?_ (.cons ?_ .nil))))))))))))) (fun q1 w hq1 h => ?_)
     ·intro q1 w Γx Ωx h
      refine OpS.mv rfl rfl rfl ?_
      exact ⟨undef, rfl, trivial, h⟩
     ·intro q1 w Γx Ωx h
      refine OpS.mv rfl rfl rfl ?_
      exact ⟨undef, (congrArg (fun z_ => some (Value.bool z_)) e5), trivial, h⟩
     ·intro q1 w Γx Ωx h
      exact OpS.pass rfl rfl rfl ⟨undef, rfl, trivial, h⟩
     ·intro q1 w Γx Ωx h
      exact OpS.pass rfl rfl rfl ⟨undef, rfl, trivial, h⟩
     ·intro q1 w Γx Ωx h
      exact OpS.pass rfl rfl rfl ⟨undef, rfl, trivial, h⟩
     ·intro q1 w Γx Ωx h
      exact OpS.pass rfl rfl rfl ⟨undef, rfl, trivial, h⟩
     ·intro q1 w Γx Ωx h
      exact OpS.pass rfl rfl rfl ⟨undef, rfl, trivial, h⟩
     ·intro q1 w Γx Ωx h
      exact OpS.pass rfl rfl rfl ⟨undef, rfl, trivial, h⟩
     ·intro q1 w Γx Ωx h
      exact OpS.pass rfl rfl rfl ⟨undef, rfl, trivial, h⟩
     ·intro q1 w Γx Ωx h
      exact OpS.pass rfl rfl rfl ⟨undef, rfl, trivial, h⟩
     ·intro q1 w Γx Ωx h
      exact OpS.pass rfl rfl rfl ⟨undef, rfl, trivial, h⟩
     ·intro q1 w Γx Ωx h
      exact OpS.pass rfl rfl rfl ⟨undef, rfl, trivial, h⟩
     ·intro q1 w Γx Ωx h
      exact OpS.pass rfl rfl rfl ⟨undef, rfl, trivial, h⟩
     have h11 := h
     refine pass rfl rfl rfl ?_
     refine pick rfl rfl rfl rfl ?_
     refine asg rfl rfl rfl ?_
     refine nil ?_
     refine Run.endBlock ?_
     refine Run.reg ?_
     refine mv rfl rfl rfl ?_
     refine bin rfl rfl rfl rfl rfl ?_
     refine asg rfl rfl rfl ?_
     obtain ⟨x2, e7, hF⟩ := letP_use hF
     refine RunL.name e7 ?_
     refine nil ?_
     refine Run.slim [(4, .bool s2), (5, .bool true), (6, u4), (7, .int .i64 x2)] ⟨rfl, rfl, rfl, rfl, trivial⟩ ?_
     exact hk1 (s2, true, x2) _ _ ⟨rfl, (h11.facts (.atm .z .nil)).picks .nil⟩ hF
    ·
     have hG := hF
     subst e6
     have hF := hG
     obtain ⟨x3, e8, hF⟩ := bindP_use hF
     obtain ⟨x4, e9, hF⟩ := bindP_use hF
     refine Run.drawV (Ωs := []) [.k 34 (.bool s1.2.1), .k 35 (.bool false), .k 36 u4, .k 37 (.int .i64 s1.2.2), .f 38 (fun u_ => [(true, .ptr convert_pair.rep u_ x3)]), .f 39 (fun u_ => [(true, .ptr (Rep.int .i64) u_ x3.value)]), .k 40 (.int .i64 x3.value), .k 41 u4, .k 42 (.int .i64 s1.2.2), .k 43 (.int .i64 (IntKind.i64.wrap (s1.2.2 - 1))), .f 44 (fun u_ => [(true, .ptr convert_pair.rep u_ x4)]), .f 45 (fun u_ => [(true, .ptr (Rep.int .i64) u_ x4.value)]), .k 46 (.int .i64 x4.value)] [[], [0], [1], [1], [2, 3, 1], [4, 1], [5, 1], [1], [1], [8, 1], [7, 9, 1], [10, 1], [11, 1]] [] [0, 1, 2, 3, 4, 5, 6, 7, 8, 9, 10, 11, 12] Try_mixed rfl rfl rfl h10 (.cons ?_ (.cons ?_ (.cons ?_ (.cons ?_ (.cons ?_ (.cons ?_ (.cons ?_ (.cons ?_ (.cons ?_ (.cons ?_ (.cons ?_ (.cons ?_ (.cons ?_ .nil))))))))))))) (fun q1 w hq2 h => ?_)
     ·intro q1 w Γx Ωx h
      refine OpS.mv rfl rfl rfl ?_
      exact ⟨undef, rfl, trivial, h⟩
     ·intro q1 w Γx Ωx h
      refine OpS.mv rfl rfl rfl ?_
      exact ⟨undef, (congrArg (fun z_ => some (Value.bool z_)) e5), trivial, h⟩
     ·intro q1 w Γx Ωx h
      refine OpS.mv rfl rfl rfl ?_
      exact ⟨undef, rfl, trivial, h⟩
     ·intro q1 w Γx Ωx h
      refine OpS.mv rfl rfl rfl ?_
      exact ⟨undef, rfl, trivial, h⟩
     ·intro q1 w Γx Ωx h
      refine OpS.iptr h Tryz.underlying218 ty221 rfl rfl rfl rfl (V.at .z) e8 (fun u h16 => ?_)
      exact ⟨u, rfl, trivial, h16⟩
     ·intro q1 w Γx Ωx h
      refine OpS.fptr h fa221_1 convert_pair.f1 rfl rfl rfl .z (fun u h17 => ?_)
      exact ⟨u, rfl, trivial, h17⟩
     ·intro q1 w Γx Ωx h
      refine OpS.loadi h ty2 rfl rfl rfl .z ?_
      exact ⟨undef, rfl, trivial, h⟩
     ·intro q1 w Γx Ωx h
      refine OpS.mv rfl rfl rfl ?_
      exact ⟨undef, rfl, trivial, h⟩
     ·intro q1 w Γx Ωx h
      refine OpS.mv rfl rfl rfl ?_
      exact ⟨undef, rfl, trivial, h⟩
     ·intro q1 w Γx Ωx h
      refine OpS.bin rfl rfl rfl rfl rfl ?_
      exact ⟨undef, rfl, trivial, h⟩
     ·intro q1 w Γx Ωx h
      refine OpS.iptr h Tryz.underlying218 ty221 rfl rfl rfl rfl (V.at .z) e9 (fun u h18 => ?_)
      exact ⟨u, rfl, trivial, h18⟩
     ·intro q1 w Γx Ωx h
      refine OpS.fptr h fa221_1 convert_pair.f1 rfl rfl rfl .z (fun u h19 => ?_)
      exact ⟨u, rfl, trivial, h19⟩
     ·intro q1 w Γx Ωx h
      refine OpS.loadi h ty2 rfl rfl rfl .z ?_
      exact ⟨undef, rfl, trivial, h⟩
     have h20 := h
     refine bin rfl rfl rfl rfl rfl ?_
     refine pick rfl rfl rfl rfl ?_
     refine asg rfl rfl rfl ?_
     obtain ⟨x5, e10, hF⟩ := letP_use hF
     refine RunL.nameb e10 ?_
     refine nil ?_
     refine Run.endBlock ?_
     refine Run.reg ?_
     refine mv rfl rfl rfl ?_
     refine bin rfl rfl rfl rfl rfl ?_
     refine asg rfl rfl rfl ?_
     obtain ⟨x6, e11, hF⟩ := letP_use hF
     refine RunL.name e11 ?_
     refine nil ?_
     refine Run.slim [(4, .bool s2), (5, .bool x5), (6, u4), (7, .int .i64 x6)] ⟨rfl, rfl, rfl, rfl, trivial⟩ ?_
     exact hk1 (s2, x5, x6) _ _ ⟨rfl, (h20.facts (.atm (.s (.s (.s (.s .z)))) .nil)).picks .nil⟩ hF
   ·
    obtain ⟨x7, e12, hF⟩ := letP_use hF
    refine iteP_use hF (fun e13 hF => ?_) (fun e13 hF => ?_)
    ·
     have hG := hF
     subst e13
     have hF := hG
     refine Run.drawV (Ωs := []) [.k 19 (.bool s1.1), .k 20 (.bool true), .k 21 undef, .k 22 undef, .k 23 undef, .k 24 undef, .k 25 undef, .k 26 undef, .k 27 undef, .k 28 undef, .k 29 undef, .k 30 undef, .k 31 undef] [[], [0], [1], [1], [1], [1], [1], [1], [1], [1], [1], [1], [1]] [] [0, 1, 2, 3, 4, 5, 6, 7, 8, 9, 10, 11, 12] Try_mixed rfl rfl rfl h9 (.cons ?_ (.cons ?_ (.cons ?_ (.cons ?_ (.cons ?_ (.cons ?_ (.cons ?_ (.cons ?_ (.cons ?_ (.cons ?_ (.cons ?_ (.cons ?_ (.cons ?_ .nil))))))))))))) (fun q2 w hq3 h => ?_)
     ·intro q2 w Γx Ωx h
      refine OpS.mv rfl rfl rfl ?_
      exact ⟨undef, rfl, trivial, h⟩
     ·intro q2 w Γx Ωx h
      refine OpS.mv rfl rfl rfl ?_
      exact ⟨undef, (congrArg (fun z_ => some (Value.bool z_)) e12), trivial, h⟩
     ·intro q2 w Γx Ωx h
      exact OpS.pass rfl rfl rfl ⟨undef, rfl, trivial, h⟩
     ·intro q2 w Γx Ωx h
      exact OpS.pass rfl rfl rfl ⟨undef, rfl, trivial, h⟩
     ·intro q2 w Γx Ωx h
      exact OpS.pass rfl rfl rfl ⟨undef, rfl, trivial, h⟩
     ·intro q2 w Γx Ωx h
      exact OpS.pass rfl rfl rfl ⟨undef, rfl, trivial, h⟩
     ·intro q2 w Γx Ωx h
      exact OpS.pass rfl rfl rfl ⟨undef, rfl, trivial, h⟩
     ·intro q2 w Γx Ωx h
      exact OpS.pass rfl rfl rfl ⟨undef, rfl, trivial, h⟩
     ·intro q2 w Γx Ωx h
      exact OpS.pass rfl rfl rfl ⟨undef, rfl, trivial, h⟩
     ·intro q2 w Γx Ωx h
      exact OpS.pass rfl rfl rfl ⟨undef, rfl, trivial, h⟩
     ·intro q2 w Γx Ωx h
      exact OpS.pass rfl rfl rfl ⟨undef, rfl, trivial, h⟩
     ·intro q2 w Γx Ωx h
      exact OpS.pass rfl rfl rfl ⟨undef, rfl, trivial, h⟩
     ·intro q2 w Γx Ωx h
      exact OpS.pass rfl rfl rfl ⟨undef, rfl, trivial, h⟩
     have h21 := h
     refine pass rfl rfl rfl ?_
     refine pick rfl rfl rfl rfl ?_
     refine asg rfl rfl rfl ?_
     refine nil ?_
     refine Run.slim [(4, .bool true), (5, .bool s1.2.1), (6, u4), (7, .int .i64 s1.2.2)] ⟨rfl, rfl, rfl, rfl, trivial⟩ ?_
     exact hj1 (true) _ _ ⟨rfl, (h21.facts (.atm .z .nil)).picks .nil⟩ hF
    ·
     have hG := hF
     subst e13
     have hF := hG
     obtain ⟨x8, e14, hF⟩ := bindP_use hF
     obtain ⟨x9, e15, hF⟩ := bindP_use hF
     refine Run.drawV (Ωs := []) [.k 19 (.bool s1.1), .k 20 (.bool false), .k 21 u4, .k 22 (.int .i64 s1.2.2), .f 23 (fun u_ => [(true, .ptr convert_pair.rep u_ x8)]), .f 24 (fun u_ => [(true, .ptr (Rep.int .i64) u_ x8.value)]), .k 25 (.int .i64 x8.value), .k 26 u4, .k 27 (.int .i64 s1.2.2), .k 28 (.int .i64 (IntKind.i64.wrap (s1.2.2 - 1))), .f 29 (fun u_ => [(true, .ptr convert_pair.rep u_ x9)]), .f 30 (fun u_ => [(true, .ptr (Rep.int .i64) u_ x9.value)]), .k 31 (.int .i64 x9.value)] [[], [0], [1], [1], [2, 3, 1], [4, 1], [5, 1], [1], [1], [8, 1], [7, 9, 1], [10, 1], [11, 1]] [] [0, 1, 2, 3, 4, 5, 6, 7, 8, 9, 10, 11, 12] Try_mixed rfl rfl rfl h9 (.cons ?_ (.cons ?_ (.cons ?_ (.cons ?_ (.cons ?_ (.cons ?_ (.cons ?_ (.cons ?_ (.cons ?_ (.cons ?_ (.cons ?_ (.cons ?_ (.cons ?_ .nil))))))))))))) (fun q2 w hq4 h => ?_)
     ·intro q2 w Γx Ωx h
      refine OpS.mv rfl rfl rfl ?_
      exact ⟨undef, rfl, trivial, h⟩
     ·intro q2 w Γx Ωx h
      refine OpS.mv rfl rfl rfl ?_
      exact ⟨undef, (congrArg (fun z_ => some (Value.bool z_)) e12), trivial, h⟩
     ·intro q2 w Γx Ωx h
      refine OpS.mv rfl rfl rfl ?_
      exact ⟨undef, rfl, trivial, h⟩
     ·intro q2 w Γx Ωx h
      refine OpS.mv rfl rfl rfl ?_
      exact ⟨undef, rfl, trivial, h⟩
     ·intro q2 w Γx Ωx h
      refine OpS.iptr h Tryz.underlying218 ty221 rfl rfl rfl rfl (V.at .z) e14 (fun u h26 => ?_)
      exact ⟨u, rfl, trivial, h26⟩
     ·intro q2 w Γx Ωx h
      refine OpS.fptr h fa221_1 convert_pair.f1 rfl rfl rfl .z (fun u h27 => ?_)
      exact ⟨u, rfl, trivial, h27⟩
     ·intro q2 w Γx Ωx h
      refine OpS.loadi h ty2 rfl rfl rfl .z ?_
      exact ⟨undef, rfl, trivial, h⟩
     ·intro q2 w Γx Ωx h
      refine OpS.mv rfl rfl rfl ?_
      exact ⟨undef, rfl, trivial, h⟩
     ·intro q2 w Γx Ωx h
      refine OpS.mv rfl rfl rfl ?_
      exact ⟨undef, rfl, trivial, h⟩
     ·intro q2 w Γx Ωx h
      refine OpS.bin rfl rfl rfl rfl rfl ?_
      exact ⟨undef, rfl, trivial, h⟩
     ·intro q2 w Γx Ωx h
      refine OpS.iptr h Tryz.underlying218 ty221 rfl rfl rfl rfl (V.at .z) e15 (fun u h28 => ?_)
      exact ⟨u, rfl, trivial, h28⟩
     ·intro q2 w Γx Ωx h
      refine OpS.fptr h fa221_1 convert_pair.f1 rfl rfl rfl .z (fun u h29 => ?_)
      exact ⟨u, rfl, trivial, h29⟩
     ·intro q2 w Γx Ωx h
      refine OpS.loadi h ty2 rfl rfl rfl .z ?_
      exact ⟨undef, rfl, trivial, h⟩
     have h30 := h
     refine bin rfl rfl rfl rfl rfl ?_
     refine pick rfl rfl rfl rfl ?_
     refine asg rfl rfl rfl ?_
     obtain ⟨x10, e16, hF⟩ := letP_use hF
     refine RunL.nameb e16 ?_
     refine nil ?_
     refine Run.slim [(4, .bool x10), (5, .bool s1.2.1), (6, u4), (7, .int .i64 s1.2.2)] ⟨rfl, rfl, rfl, rfl, trivial⟩ ?_
     exact hj1 (x10) _ _ ⟨rfl, (h30.facts (.atm (.s (.s (.s (.s .z)))) .nil)).picks .nil⟩ hF
  ·
   refine Run.exit rfl ?_
   refine Run.seq ?_
   refine Run.block ?_
   refine sr ?_
   refine mv rfl rfl rfl ?_
   refine op (OpS.not rfl rfl rfl ?_)
   refine asg rfl rfl rfl ?_
   obtain ⟨x11, e17, hF⟩ := letP_use hF
   refine RunL.nameb e17 ?_
   refine nil ?_
   refine Run.ite rfl hF (fun e18 hF => ?_) (fun e18 hF => ?_)
   ·
    refine sr ?_
    refine asg rfl rfl rfl ?_
    refine asg rfl rfl rfl ?_
    refine nil ?_
    refine Run.retP rfl (.tmp rfl (.tmp rfl .nil)) ?_
    cases hF
    exact Post.mk' ⟨rfl, rfl, rfl, rfl⟩ (h9.picks .nil) .nil
   ·
    refine sr ?_
    refine mv rfl rfl rfl ?_
    refine op (OpS.not rfl rfl rfl ?_)
    refine asg rfl rfl rfl ?_
    obtain ⟨x12, e19, hF⟩ := letP_use hF
    refine RunL.nameb e19 ?_
    refine nil ?_
    refine Run.ite rfl hF (fun e20 hF => ?_) (fun e20 hF => ?_)
    ·
     refine sr ?_
     refine asg rfl rfl rfl ?_
     refine asg rfl rfl rfl ?_
     refine nil ?_
     refine Run.retP rfl (.tmp rfl (.tmp rfl .nil)) ?_
     cases hF
     exact Post.mk' ⟨rfl, rfl, rfl, rfl⟩ (h9.picks .nil) .nil
    ·
     refine Run.skip ?_
     refine Run.endBlock ?_
     refine sr ?_
     refine asg rfl rfl rfl ?_
     refine asg rfl rfl rfl ?_
     refine nil ?_
     refine Run.retP rfl (.tmp rfl (.tmp rfl .nil)) ?_
     cases hF
     exact Post.mk' ⟨rfl, rfl, rfl, rfl⟩ (h9.picks .nil) .nil
theorem slices_Index_uint8_uint8_ok {fuel : Nat} {a0 : List Int} {a1 : Int} {y : Int} (hF : slices_Index_uint8_uint8 fuel a0 a1 = some y) {w : World} {v0 : Value} :
  Spec Tryz.prog 105 [v0, .int .u8 a1].toArray w [(false, .val (Rep.slice (Rep.int .u8)) v0 a0)] [] (fun v Γr Ωr Ωo => v = .int .i64 y ∧ Γr = [] ∧ Ωr = [] ∧ Ωo = []) := by
 refine Spec.of (L := [(0, v0), (1, .int .u8 a1)]) Tryz.func105 rfl ⟨rfl, rfl, trivial⟩ rfl (fun e h => ?_)
 unfold slices_Index_uint8_uint8 at hF
 refine sr ?_
 refine asg rfl rfl rfl ?_
 refine nil ?_
 refine Run.seq ?_
 refine sr ?_
 refine mv rfl rfl rfl ?_
 refine op (OpS.len h Tryz.underlying24 rfl rfl rfl (V.at .z) ?_)
 refine mv rfl rfl rfl ?_
 refine nil ?_
 refine Run.block ?_
 refine Run.slim [(0, v0), (1, .int .u8 a1), (7, .int .i64 (a0.length : Int)), (8, .int .i64 0)] ⟨rfl, rfl, rfl, rfl, trivial⟩ ?_
 refine Run.loopP (σ := Int) (fun s_ L_ w_ => L_ = [(0, v0), (1, .int .u8 a1), (7, .int .i64 (a0.length : Int)), (8, .int .i64 s_)] ∧ St e w_ [(false, .val (Rep.slice (Rep.int .u8)) v0 a0)] []) hF ⟨rfl, (h.facts (.atm .z .nil)).picks .nil⟩ (fun k1 hk1 s1 _ w1 hI hF => ?_)
 obtain ⟨rfl, h1⟩ := hI
 refine sr ?_
 refine bin rfl rfl rfl rfl rfl ?_
 refine nil ?_
 refine Run.seq ?_
 refine Run.ite rfl hF (fun e1 hF => ?_) (fun e1 hF => ?_)
 ·
  refine Run.skip ?_
  refine Run.seq ?_
  refine Run.block ?_
  refine sr ?_
  refine mv rfl rfl rfl ?_
  refine asg rfl rfl rfl ?_
  refine nil ?_
  refine sr ?_
  refine mv rfl rfl rfl ?_
  refine mv rfl rfl rfl ?_
  refine mv rfl rfl rfl ?_
  obtain ⟨x1, e2, hF⟩ := bindP_use hF
  refine op (OpS.iptr h1 Tryz.underlying24 ty5 rfl rfl rfl rfl (V.at .z) e2 (fun u1 h2 => ?_))
  refine op (OpS.loadi h2 ty5 rfl rfl rfl .z ?_)
  refine bin rfl rfl rfl rfl rfl ?_
  refine nil ?_
  refine Run.ite rfl hF (fun e3 hF => ?_) (fun e3 hF => ?_)
  ·
   refine sr ?_
   refine mv rfl rfl rfl ?_
   refine asg rfl rfl rfl ?_
   refine nil ?_
   refine Run.retP rfl (.tmp rfl .nil) ?_
   cases hF
   exact Post.mk' ⟨rfl, rfl, rfl, rfl⟩ (h2.picks .nil) .nil
  ·
   refine Run.skip ?_
   refine Run.endBlock ?_
   refine Run.reg ?_
   refine bin rfl rfl rfl rfl rfl ?_
   refine mv rfl rfl rfl ?_
   refine nil ?_
   refine Run.slim [(0, v0), (1, .int .u8 a1), (7, .int .i64 (a0.length : Int)), (8, .int .i64 (IntKind.i64.wrap (s1 + 1)))] ⟨rfl, rfl, rfl, rfl, trivial⟩ ?_
   exact hk1 ((IntKind.i64.wrap (s1 + 1))) _ _ ⟨rfl, (h2.facts (.atm (.s .z) .nil)).picks .nil⟩ hF
 ·
  refine Run.exit rfl ?_
  refine sr ?_
  refine asg rfl rfl rfl ?_
  refine nil ?_
  refine Run.retP rfl (.tmp rfl .nil) ?_
  cases hF
  exact Post.mk' ⟨rfl, rfl, rfl, rfl⟩ (h1.picks .nil) .nil
set_option maxRecDepth 20000 in
theorem event_Index_ok {fuel : Nat} {a0 : Event_} {y : Int × Bool × Bool} (hF : event_Index fuel a0 = some y) {w : World} {v0 : Value} :
  Spec Tryz.prog 38 [v0].toArray w [(false, .val Event_.rep v0 a0), (false, .ptr (Rep.arr 6 (Rep.int .u8)) (.pointer (some ⟨0, 0, none⟩)) ([0, 2, 4, 7, 9, 11]))] [] (fun v Γr Ωr Ωo => v = .tuple #[.int .i64 y.1, .bool y.2.1, .bool y.2.2] ∧ Γr = [] ∧ Ωr = [] ∧ Ωo = []) := by
 refine Spec.of (L := [(0, v0)]) Tryz.func38 rfl ⟨rfl, trivial⟩ rfl (fun e h => ?_)
 unfold event_Index at hF
 refine sr ?_
 refine op (OpS.boxF h rfl rfl rfl (V.at .z) (fun u1 w1 h1 => ?_))
 refine asg rfl rfl rfl ?_
 refine asg rfl rfl rfl ?_
 refine asg rfl rfl rfl ?_
 refine nil ?_
 refine Run.seq ?_
 refine Run.block ?_
 refine sr ?_
 refine op (OpS.fbox (o3 := 5) h1 .z PA.z fa55_5 rfl rfl rfl rfl ?_)
 refine op (OpS.loadBi h1 .z PA.a (Get.fld Event_.f5) ty5 rfl rfl rfl ?_)
 refine bin rfl rfl rfl rfl rfl ?_
 refine asg rfl rfl rfl ?_
 obtain ⟨x1, e1, hF⟩ := letP_use hF
 refine RunL.nameb e1 ?_
 refine nil ?_
 refine Run.ite rfl hF (fun e2 hF => ?_) (fun e2 hF => ?_)
 ·
  refine Run.seq ?_
  obtain ⟨x2, e3, hF⟩ := bindP_use hF
  obtain ⟨e4, hF⟩ := chk_use hF
  refine Run.drawV (Ωs := []) [.f 10 (fun u_ => [(false, .val (Rep.slice (Rep.int .u8)) u_ ([0, 2, 4, 7, 9, 11]))]), .kr 11 (padd u1 7) [0], .kr 12 (padd u1 (7 + (0 : Int).toNat * (Rep.int .u8).n)) [0], .kr 13 (.int .u8 x2) [0], .k 14 (.int .u8 (IntKind.u8.wrap (x2 - 80)))] [[], [], [1], [2], [3]] [[(false, .box 55 Event_.rep u1 a0)]] [0, 1, 2, 3, 4, 5] Try_mixed rfl rfl rfl h1 (.cons ?_ (.cons ?_ (.cons ?_ (.cons ?_ (.cons ?_ .nil))))) (fun q1 w hq1 h => ?_)
  ·intro q1 w Γx Ωx h
   refine OpS.sarr h Tryz.underlying70 ty5 rfl rfl rfl rfl (.s .z) (fun u h3 => ?_)
   exact ⟨u, rfl, trivial, h3⟩
  ·intro q1 w Γx Ωx h
   refine OpS.fbox (o3 := 7) h .z PA.z fa55_7 rfl rfl rfl rfl ?_
   exact ⟨undef, rfl, trivial, h⟩
  ·intro q1 w Γx Ωx h
   refine OpS.ibox h .z PA.a Tryz.underlying53 ty5 (Nat.eq_of_beq_eq_true e4) rfl rfl rfl rfl e3 ?_
   exact ⟨undef, rfl, trivial, h⟩
  ·intro q1 w Γx Ωx h
   refine OpS.loadBi h .z PA.a (Get.comp (Get.fld Event_.f7) (Get.arr e3)) ty5 rfl rfl rfl ?_
   exact ⟨undef, rfl, trivial, h⟩
  ·intro q1 w Γx Ωx h
   refine OpS.bin rfl rfl rfl rfl rfl ?_
   exact ⟨undef, rfl, trivial, h⟩
  have h4 := h
  obtain ⟨y1, e5, hF⟩ := bindP_use hF
  refine op (OpS.callP h4 Tryz.func105 rfl rfl rfl rfl (vs := [(q1 0), .int .u8 (IntKind.u8.wrap (x2 - 80))]) rfl (slices_Index_uint8_uint8_ok e5) (.cons (f := false) (V.at .z) .nil) ?_)
  rintro _ w2 _ _ _ ⟨rfl, rfl, rfl, rfl⟩ h5
  have h6 := h5 rfl rfl
  simp only [ca, na] at h6
  refine asg rfl rfl rfl ?_
  refine nil ?_
  refine sr ?_
  refine mv rfl rfl rfl ?_
  refine bin rfl rfl rfl rfl rfl ?_
  refine nil ?_
  refine Run.ite rfl hF (fun e6 hF => ?_) (fun e6 hF => ?_)
  ·
   refine sr ?_
   refine mv rfl rfl rfl ?_
   refine asg rfl rfl rfl ?_
   refine asg rfl rfl rfl ?_
   refine asg rfl rfl rfl ?_
   refine nil ?_
   refine Run.retP rfl (.tmp rfl (.tmp rfl (.tmp rfl .nil))) ?_
   cases hF
   exact Post.mk' ⟨rfl, rfl, rfl, rfl⟩ (h6.picks .nil) .nil
  ·
   refine Run.skip ?_
   refine Run.endBlock ?_
   refine sr ?_
   refine asg rfl rfl rfl ?_
   refine asg rfl rfl rfl ?_
   refine asg rfl rfl rfl ?_
   refine nil ?_
   refine Run.retP rfl (.tmp rfl (.tmp rfl (.tmp rfl .nil))) ?_
   cases hF
   exact Post.mk' ⟨rfl, rfl, rfl, rfl⟩ (h6.picks .nil) .nil
 ·
  refine sr ?_
  refine op (OpS.fbox (o3 := 5) h1 .z PA.z fa55_5 rfl rfl rfl rfl ?_)
  refine op (OpS.loadBi h1 .z PA.a (Get.fld Event_.f5) ty5 rfl rfl rfl ?_)
  refine bin rfl rfl rfl rfl rfl ?_
  refine mv rfl rfl rfl ?_
  refine RunL.join (σ := Bool) (fun s_ L_ w_ => L_ = [(1, u1), (19, .bool s_)] ∧ St e w_ [(false, .ptr (Rep.arr 6 (Rep.int .u8)) (.pointer (some ⟨0, 0, none⟩)) ([0, 2, 4, 7, 9, 11]))] [(false, .box 55 Event_.rep u1 a0)]) hF (fun s1 _ w3 hI hF => ?_) (fun j1 hj1 hF => ?_)
  ·
   obtain ⟨rfl, h7⟩ := hI
   refine Run.ite rfl hF (fun e7 hF => ?_) (fun e7 hF => ?_)
   ·
    refine sr ?_
    refine op (OpS.fbox (o3 := 7) h7 .z PA.z fa55_7 rfl rfl rfl rfl ?_)
    obtain ⟨x3, e8, hF⟩ := bindP_use hF
    obtain ⟨e9, hF⟩ := chk_use hF
    refine op (OpS.ibox h7 .z PA.a Tryz.underlying53 ty5 (Nat.eq_of_beq_eq_true e9) rfl rfl rfl rfl e8 ?_)
    refine op (OpS.loadBi h7 .z PA.a (Get.comp (Get.fld Event_.f7) (Get.arr e8)) ty5 rfl rfl rfl ?_)
    refine op (OpS.conv Tryz.underlying5 Tryz.underlying3 rfl rfl rfl ?_)
    refine asg rfl rfl rfl ?_
    refine asg rfl rfl rfl ?_
    refine asg rfl rfl rfl ?_
    refine nil ?_
    refine Run.retP rfl (.tmp rfl (.tmp rfl (.tmp rfl .nil))) ?_
    cases hF
    exact Post.mk' ⟨rfl, rfl, rfl, rfl⟩ (h7.picks .nil) .nil
   ·
    refine Run.skip ?_
    refine Run.endBlock ?_
    refine sr ?_
    refine asg rfl rfl rfl ?_
    refine asg rfl rfl rfl ?_
    refine asg rfl rfl rfl ?_
    refine nil ?_
    refine Run.retP rfl (.tmp rfl (.tmp rfl (.tmp rfl .nil))) ?_
    cases hF
    exact Post.mk' ⟨rfl, rfl, rfl, rfl⟩ (h7.picks .nil) .nil
  ·
   refine RunL.caseb hF (fun e10 hF => ?_) (fun e10 hF => ?_)
   ·
    refine op (OpS.fbox (o3 := 7) h1 .z PA.z fa55_7 rfl rfl rfl rfl ?_)
    obtain ⟨x4, e11, hF⟩ := bindP_use hF
    obtain ⟨e12, hF⟩ := chk_use hF
    refine op (OpS.ibox h1 .z PA.a Tryz.underlying53 ty5 (Nat.eq_of_beq_eq_true e12) rfl rfl rfl rfl e11 ?_)
    refine op (OpS.loadBi h1 .z PA.a (Get.comp (Get.fld Event_.f7) (Get.arr e11)) ty5 rfl rfl rfl ?_)
    refine bin rfl rfl rfl rfl rfl ?_
    refine pick rfl rfl rfl rfl ?_
    refine asg rfl rfl rfl ?_
    obtain ⟨x5, e13, hF⟩ := letP_use hF
    refine RunL.nameb e13 ?_
    refine nil ?_
    refine Run.slim [(1, u1), (19, .bool x5)] ⟨rfl, rfl, trivial⟩ ?_
    exact hj1 (x5) _ _ ⟨rfl, (h1.facts (.atm (.s .z) .nil)).picks (.cons .z .nil)⟩ hF
   ·
    refine pass rfl rfl rfl ?_
    refine pass rfl rfl rfl ?_
    refine pass rfl rfl rfl ?_
    refine pass rfl rfl rfl ?_
    refine pick rfl rfl rfl rfl ?_
    refine asg rfl rfl rfl ?_
    refine nil ?_
    refine Run.slim [(1, u1), (19, .bool false)] ⟨rfl, rfl, trivial⟩ ?_
    exact hj1 (false) _ _ ⟨rfl, (h1.facts (.atm (.s .z) .nil)).picks (.cons .z .nil)⟩ hF
theorem convert_Value_ok {fuel : Nat} {a0 : Conversion_} {a1 : Int} {y : Int × Int} (hF : convert_Value fuel a0 a1 = some y) {w : World} {v0 : Value} :
  Spec Tryz.prog 39 [v0, .int .u8 a1].toArray w [(false, .val Conversion_.rep v0 a0)] [] (fun v Γr Ωr Ωo => v = .tuple #[.int .i64 y.1, .int .i64 y.2] ∧ Γr = [] ∧ Ωr = [] ∧ Ωo = []) := by
 refine Spec.of (L := [(0, v0), (1, .int .u8 a1)]) Tryz.func39 rfl ⟨rfl, rfl, trivial⟩ rfl (fun e h => ?_)
 unfold convert_Value at hF
 refine sr ?_
 refine op (OpS.boxF h rfl rfl rfl (V.at .z) (fun u1 w1 h1 => ?_))
 refine asg rfl rfl rfl ?_
 refine asg rfl rfl rfl ?_
 refine nil ?_
 refine Run.seq ?_
 refine sr ?_
 refine op (OpS.loadB h1 .z PA.z Get.id ty69 rfl rfl rfl (fun u2 h2 => ?_))
 obtain ⟨y1, e1, hF⟩ := bindP_use hF
 refine op (OpS.callP h2 Tryz.func103 rfl rfl rfl rfl (vs := [u2]) rfl (convert_Valid_ok e1) (.cons (f := false) (V.at .z) .nil) ?_)
 rintro _ w2 _ _ _ ⟨rfl, rfl, rfl, rfl⟩ h3
 have h4 := h3 rfl rfl
 simp only [ca, na] at h4
 refine op (OpS.not rfl rfl rfl ?_)
 refine nil ?_
 refine Run.ite rfl hF (fun e2 hF => ?_) (fun e2 hF => ?_)
 ·
  refine sr ?_
  refine asg rfl rfl rfl ?_
  refine asg rfl rfl rfl ?_
  refine nil ?_
  refine Run.retP rfl (.tmp rfl (.tmp rfl .nil)) ?_
  cases hF
  exact Post.mk' ⟨rfl, rfl, rfl, rfl⟩ (h4.picks .nil) .nil
 ·
  refine Run.skip ?_
  refine sr ?_
  refine op (OpS.loadB h4 .z PA.z Get.id ty69 rfl rfl rfl (fun u3 h5 => ?_))
  refine mv rfl rfl rfl ?_
  obtain ⟨y2, e3, hF⟩ := bindP_use hF
  refine op (OpS.callP h5 Tryz.func106 rfl rfl rfl rfl (vs := [u3, .int .u8 a1]) rfl (convert_value_ok e3) (.cons (f := false) (V.at .z) .nil) ?_)
  rintro _ w3 _ _ _ ⟨rfl, rfl, rfl, rfl⟩ h6
  have h7 := h6 rfl rfl
  simp only [ca, na] at h7
  refine op (OpS.ext rfl rfl rfl rfl ?_)
  refine op (OpS.ext rfl rfl rfl rfl ?_)
  refine asg rfl rfl rfl ?_
  refine asg rfl rfl rfl ?_
  refine nil ?_
  refine Run.retP rfl (.tmp rfl (.tmp rfl .nil)) ?_
  cases hF
  exact Post.mk' ⟨rfl, rfl, rfl, rfl⟩ (h7.picks .nil) .nil
end Lift
