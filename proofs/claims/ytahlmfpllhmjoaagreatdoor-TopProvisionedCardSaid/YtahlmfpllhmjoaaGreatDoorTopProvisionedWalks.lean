import Derived.Test.YtahlmfpllhmjoaaGreatDoorTopProvisionedWalksD
set_option linter.unusedVariables false
set_option linter.unusedSimpArgs false
namespace Lift
open Go Go.Proofs
open RunL (op sr nil gm ga gb gp gk dp du)
abbrev Rqs1 : Rep Conversion_ := Rep.iso (fun s : Conversion_ => (s.Form, s.Signed, s.M, s.B, s.K1, s.K2, s.Points, ())) (Rep.prod (Rep.int .i64) (Rep.prod Rep.bool (Rep.prod (Rep.int .i64) (Rep.prod (Rep.int .i64) (Rep.prod (Rep.int .i64) (Rep.prod (Rep.int .i64) (Rep.prod (Rep.raw (α := List Point_) (.slice none 0 0)) Rep.unit)))))))
abbrev Gqs : Bool × Atom := (false, .ptr (Rep.arr 6 (Rep.int .u8)) (.pointer (some ⟨0, 0, none⟩)) ([0, 2, 4, 7, 9, 11]))
set_option maxHeartbeats 8000000 in set_option maxRecDepth 20000 in
theorem convert_Decode_ok {fuel : Nat} {a0 : List Int} {y : Conversion_ × Int × Int} (hF : convert_Decode fuel a0 = some y) {w : World} {v0 : Value} :
  Spec Tryz.prog 188 [v0].toArray w [(false, .val (Rep.slice (Rep.int .u8)) v0 a0)] [] (fun v Γr Ωr Ωo => ∃ u0 : Value, v = .tuple #[u0, .int .i64 y.2.1, .int .i64 y.2.2] ∧ Γr = [(false, .val Conversion_.rep u0 y.1)] ∧ Ωr = [] ∧ Ωo = []) := by
 refine Spec.of (L := [(0, v0)]) Tryz.func188 rfl ⟨rfl, trivial⟩ rfl (fun e h => ?_)
 unfold convert_Decode at hF
 refine sr (op (OpS.alloc h ti69 Conversion_.zr rfl rfl (fun u1 w1 h1 => ?_)))
 refine ga rfl (ga rfl (nil (sr (gm rfl ?_))))
 obtain ⟨y1, e1, hF⟩ := bindP_use hF
 refine op (OpS.callP h1 Tryz.func236 rfl rfl rfl rfl (vs := [v0]) rfl (convert_length_ok e1) (.cons (f := false) (V.at .z) .nil) ?_)
 rintro _ w2 _ _ _ ⟨rfl, rfl, rfl, rfl⟩ h2
 have h3 := h2 rfl rfl
 simp only [ca, na] at h3
 refine gm rfl (op (OpS.ext rfl rfl rfl rfl ?_))
 refine op (OpS.ext rfl rfl rfl rfl ?_)
 refine ga rfl (ga rfl (nil (Run.seq (Run.block (sr (gm rfl (gb rfl (ga rfl ?_))))))))
 obtain ⟨x1, e2, hF⟩ := letP_use hF
 refine RunL.nameb e2 ?_
 refine nil ?_
 refine Run.ite rfl hF (fun e3 hF => ?_) (fun e3 hF => ?_)
 ·
  refine sr (op (OpS.build (f := true) (x' := Conversion_.z) h3 pl69 ti69 Conversion_.zr rfl rfl rfl .nil (fun u2 h4 => ?_)))
  refine gm rfl (op (OpS.storeB (f' := true) h4 .z PA.z Put.id ty69 rfl rfl rfl (V.at .z) (.inl rfl) (fun w3 h5 => ?_)))
  refine ga rfl (ga rfl (nil ?_))
  obtain ⟨u3, hu1, h6⟩ := res_box h5 .z ty69
  refine Run.retP rfl (.cell rfl hu1 (.tmp rfl (.tmp rfl .nil))) ?_
  cases hF
  exact Post.mk' ⟨u3, rfl, rfl, rfl, rfl⟩ (h6.picks .nil) (.val (V.weak (V.at .z)) .nil)
 ·
  refine sr (gm rfl (op (OpS.len h3 Tryz.underlying24 rfl rfl rfl (V.at .z) ?_)))
  refine gm rfl (gb rfl (ga rfl ?_))
  obtain ⟨x2, e4, hF⟩ := letP_use hF
  refine RunL.nameb e4 ?_
  refine nil ?_
  refine Run.ite rfl hF (fun e5 hF => ?_) (fun e5 hF => ?_)
  ·
   refine sr (op (OpS.build (f := true) (x' := Conversion_.z) h3 pl69 ti69 Conversion_.zr rfl rfl rfl .nil (fun u4 h7 => ?_)))
   refine op (OpS.storeB (f' := true) h7 .z PA.z Put.id ty69 rfl rfl rfl (V.at .z) (.inl rfl) (fun w4 h8 => ?_))
   refine ga rfl (ga rfl (nil ?_))
   obtain ⟨u5, hu2, h9⟩ := res_box h8 .z ty69
   refine Run.retP rfl (.cell rfl hu2 (.tmp rfl (.tmp rfl .nil))) ?_
   cases hF
   exact Post.mk' ⟨u5, rfl, rfl, rfl, rfl⟩ (h9.picks .nil) (.val (V.weak (V.at .z)) .nil)
  ·
   refine Run.skip (Run.endBlock (Run.seq ?_))
   obtain ⟨x3, e6, hF⟩ := bindP_use hF
   refine Run.drawV (Ωs := [(true, .box 69 Conversion_.rep u1 Conversion_.z)]) [.k 25 v0, .f 26 (fun u_ => [(false, .ptr (Rep.int .u8) u_ x3)]), .k 27 (.int .u8 x3), .k 28 (.int .u8 (bAndNot .u8 x3 128)), .k 29 (.int .i64 (IntKind.i64.wrap (bAndNot .u8 x3 128))), .k 30 v0, .f 31 (fun u_ => [(false, .ptr (Rep.int .u8) u_ x3)]), .k 32 (.int .u8 x3), .k 33 (.int .u8 (bAnd .u8 x3 128)), .k 34 (.bool ((bAnd .u8 x3 128) != 0)), ⟨some 35, none, fun u_ => [(true, .val Rqs1 u_ (⟨(IntKind.i64.wrap (bAndNot .u8 x3 128)), (bAnd .u8 x3 128) != 0, 0, 0, 0, 0, []⟩ : Conversion_))], fun ds_ u_ => [(true, .slice 211 Point_.rep (.slice none 0 0) ([]))], [], [], none⟩, ⟨some 7, none, fun u_ => [], fun ds_ u_ => [(true, .box 69 Conversion_.rep u_ Conversion_.z)], [], [], none⟩] [[], [0], [1], [2], [3], [], [5], [6], [7], [8], [4, 9], []] [] [0, 1, 2, 3, 4, 5, 6, 7, 8, 9, 10, 11] Try_mixed rfl rfl rfl h3 (.cons ?_ (.cons ?_ (.cons ?_ (.cons ?_ (.cons ?_ (.cons ?_ (.cons ?_ (.cons ?_ (.cons ?_ (.cons ?_ (.cons ?_ (.cons ?_ .nil)))))))))))) (fun q1 w hq1 h => ?_)
   ·intro q1 w Γx Ωx h
    refine OpS.mv rfl rfl rfl ?_
    exact du h
   ·intro q1 w Γx Ωx h
    refine OpS.iptr h Tryz.underlying24 ty5 rfl rfl rfl rfl (V.at .z) e6 (fun u h15 => ?_)
    exact ⟨u, rfl, trivial, h15⟩
   ·intro q1 w Γx Ωx h
    refine OpS.loadi h ty5 rfl rfl rfl .z ?_
    exact du h
   ·intro q1 w Γx Ωx h
    refine OpS.bin rfl rfl rfl rfl rfl ?_
    exact du h
   ·intro q1 w Γx Ωx h
    refine OpS.conv Tryz.underlying5 Tryz.underlying3 rfl rfl rfl ?_
    exact du h
   ·intro q1 w Γx Ωx h
    refine OpS.mv rfl rfl rfl ?_
    exact du h
   ·intro q1 w Γx Ωx h
    refine OpS.iptr h Tryz.underlying24 ty5 rfl rfl rfl rfl (V.at .z) e6 (fun u h16 => ?_)
    exact ⟨u, rfl, trivial, h16⟩
   ·intro q1 w Γx Ωx h
    refine OpS.loadi h ty5 rfl rfl rfl .z ?_
    exact du h
   ·intro q1 w Γx Ωx h
    refine OpS.bin rfl rfl rfl rfl rfl ?_
    exact du h
   ·intro q1 w Γx Ωx h
    refine OpS.bin rfl rfl rfl rfl rfl ?_
    exact du h
   ·intro q1 w Γx Ωx h
    have h17 := St.nil 211 Point_.rep h
    refine OpS.buildC (f := true) (r := Rqs1) (x := Conversion_.z) (r' := Rqs1) (x' := (⟨(IntKind.i64.wrap (bAndNot .u8 x3 128)), (bAnd .u8 x3 128) != 0, 0, 0, 0, 0, []⟩ : Conversion_)) h17 pl69 ti69 (Zr.iso (y := Conversion_.z) _ (Zr.of (Zr.prod (Zr.int .i64 0) (Zr.prod (Zr.bool false) (Zr.prod (Zr.int .i64 0) (Zr.prod (Zr.int .i64 0) (Zr.prod (Zr.int .i64 0) (Zr.prod (Zr.int .i64 0) (Zr.prod (Zr.raw rfl ([] : List Point_)) Zr.unit))))))) (by rfl))) rfl rfl rfl (.cons (Rep.int .i64) Rqs1 Rqs1 Conversion_.z (⟨(IntKind.i64.wrap (bAndNot .u8 x3 128)), false, 0, 0, 0, 0, []⟩ : Conversion_) (Chg.iso _ (Chg.here (Chg.id (by rfl)))) rfl rfl V.int (.cons Rep.bool Rqs1 Rqs1 (⟨(IntKind.i64.wrap (bAndNot .u8 x3 128)), false, 0, 0, 0, 0, []⟩ : Conversion_) (⟨(IntKind.i64.wrap (bAndNot .u8 x3 128)), (bAnd .u8 x3 128) != 0, 0, 0, 0, 0, []⟩ : Conversion_) (Chg.iso _ (Chg.there (Chg.here (Chg.id (by rfl))))) rfl rfl V.bool .nil)) (fun u h18 => ?_)
    exact ⟨u, rfl, trivial, h18⟩
   ·intro q1 w Γx Ωx h
    refine OpS.alloc h ti69 Conversion_.zr rfl rfl (fun u w6 h19 => ?_)
    exact ⟨u, rfl, trivial, h19⟩
   have h20 := h
   refine op (OpS.storeC (f' := true) (fr := Rqs1) (r' := Rqs1) (x' := (⟨(IntKind.i64.wrap (bAndNot .u8 x3 128)), (bAnd .u8 x3 128) != 0, 0, 0, 0, 0, []⟩ : Conversion_)) h20 (.s .z) PA.z (Chg.id (by rfl)) (Ty.like ty69 (by rfl) (by rfl)) rfl rfl rfl (V.at (.s (.s .z))) (.inl rfl) (fun w7 h21 => ?_))
   refine nil (Run.seq (sr (op (OpS.fbox (o3 := 0) h21 .z PA.z fa69_0 rfl rfl rfl rfl ?_))))
   refine op (OpS.loadBi h21 .z PA.a (GetS.ok (GetS.iso _ (GetS.here GetS.id))) ty3 rfl rfl rfl ?_)
   refine gb rfl (nil ?_)
   refine Run.ite rfl hF (fun e7 hF => ?_) (fun e7 hF => ?_)
   ·
    refine sr (gm rfl (gm rfl ?_))
    obtain ⟨x4, e8, hF⟩ := bindP_use hF
    refine op (OpS.sub h21 Tryz.underlying24 ty5 rfl rfl rfl rfl rfl (V.at (.s (.s (.s .z)))) e8 (fun u6 h22 => ?_))
    obtain ⟨y2, e9, hF⟩ := bindP_use hF
    have h23 := h22.front .nil
    refine op (OpS.callO h23 Tryz.func126 rfl rfl rfl rfl (vs := [u6, .int .i64 7]) rfl (slices_Chunk_byte_byte_ok e9) rfl (.cons (f := false) (V.at .z) .nil) ?_)
    rintro _ w8 _ _ _ ⟨u7, u8, rfl, rfl, rfl, rfl⟩ h24
    have h25 := h24
    simp only [ca, na] at h25
    refine nil (Run.slim [(42, .func (.func 193) #[] #[u7, u8]), (7, (q1 11)), (5, .int .i64 y1.1), (2, u1)] ⟨rfl, rfl, rfl, rfl, trivial⟩ ?_)
    refine Run.block ?_
    have h26 := (h25.pick .z).freezeBox
    have h27 := (h26.pick .z).freezeBox
    have h28 := (h27.pick .z).weak
    have h29 := (h28.pick (.s .z)).weak
    have h30 := (h29.pick (.s (.s .z))).weak
    refine Run.slim [(42, .func (.func 193) #[] #[u7, u8]), (7, (q1 11)), (5, .int .i64 y1.1), (2, u1)] ⟨rfl, rfl, rfl, rfl, trivial⟩ ?_
    obtain ⟨y3, e10, hF⟩ := bindP_use hF
    refine Run.rangeC (σ := ((List Point_))) (r := (Rep.slice (Rep.int .u8))) (fun s_ Γ_ Ω_ => ∃ u0_ : Value, Γ_ = [] ∧ Ω_ = [(false, .box 69 (Rep.iso (fun s : Conversion_ => (s.Form, s.Signed, s.M, s.B, s.K1, s.K2, s.Points, ())) (Rep.prod (Rep.int .i64) (Rep.prod Rep.bool (Rep.prod (Rep.int .i64) (Rep.prod (Rep.int .i64) (Rep.prod (Rep.int .i64) (Rep.prod (Rep.int .i64) (Rep.prod (Rep.raw (α := List Point_) u0_) Rep.unit)))))))) (q1 11) (⟨(IntKind.i64.wrap (bAndNot .u8 x3 128)), (bAnd .u8 x3 128) != 0, 0, 0, 0, 0, []⟩ : Conversion_)), (false, .box 69 Conversion_.rep u1 Conversion_.z), (false, .slice 211 Point_.rep u0_ s_)]) (by rintro _ _ _ ⟨u0_, rfl, rfl⟩; exact ⟨rfl, rfl⟩) rfl rfl rfl Tryz.func193 rfl rfl rfl (fun l_ I_ hY_ w_ => slices_Chunk_byte_byte_1_2_ok e10 hY_) (.ptr (.s .z) (.ptr .z .nil)) (Ω0 := [(false, .box 69 Rqs1 (q1 11) (⟨(IntKind.i64.wrap (bAndNot .u8 x3 128)), (bAnd .u8 x3 128) != 0, 0, 0, 0, 0, []⟩ : Conversion_)), (false, .box 69 Conversion_.rep u1 Conversion_.z), (false, .slice 211 Point_.rep (.slice none 0 0) ([]))]) (Ω := []) (Γ0 := []) (h30.picks (.cons (.s (.s .z)) (.cons .z (.cons .z .nil)))) ⟨(.slice none 0 0), rfl, rfl⟩ .nil ?_ ?_
    ·
     intro l_ q_ e w s1 s1_ x5 v1 Γ_ Ω_ hq_ hX_ hF h31
     obtain ⟨u9, rfl, rfl⟩ := hX_
     refine Run.reg (ga rfl (nil (Run.beginRound rfl (h31.pick .z) hq_ (fun w9 h32 => ?_))))
     refine Run.block ?_
     have h33 := h32.picks (.cons (.s .z) (.cons .z (.cons .z (.cons .z .nil))))
     obtain ⟨x6, e11, hF⟩ := bindP_use hF
     obtain ⟨x7, e12, hF⟩ := bindP_use hF
     obtain ⟨y4, e13, hF⟩ := bindP_use hF
     refine Run.drawV (Ωs := [(false, .loopR l_ ({ q_ with state := .busy })), (false, .box 69 Conversion_.rep u1 Conversion_.z), (false, .slice 211 Point_.rep u9 s1)]) [.kr 44 (padd (q1 11) 6) [0], .kr 45 u9 [0], .k 46 v1, .f 47 (fun u_ => [(false, .ptr (Rep.int .u8) u_ x6)]), .k 48 (.int .u8 x6), .k 49 v1, .f 50 (fun u_ => [(false, .val (Rep.slice (Rep.int .u8)) u_ x7)]), .k 51 (.int .i64 y4), .f 52 (fun u_ => [(true, .val Point_.rep u_ (⟨x6, y4⟩ : Point_))]), .f 53 (fun u_ => [(true, .val (Rep.slice Point_.rep) u_ ([(⟨x6, y4⟩ : Point_)]))])] [[], [0], [], [2], [3], [], [5], [6], [4, 7], [8]] [[(false, .box 69 (Rep.iso (fun s : Conversion_ => (s.Form, s.Signed, s.M, s.B, s.K1, s.K2, s.Points, ())) (Rep.prod (Rep.int .i64) (Rep.prod Rep.bool (Rep.prod (Rep.int .i64) (Rep.prod (Rep.int .i64) (Rep.prod (Rep.int .i64) (Rep.prod (Rep.int .i64) (Rep.prod (Rep.raw (α := List Point_) u9) Rep.unit)))))))) (q1 11) (⟨(IntKind.i64.wrap (bAndNot .u8 x3 128)), (bAnd .u8 x3 128) != 0, 0, 0, 0, 0, []⟩ : Conversion_))]] [0, 1, 2, 3, 4, 5, 6, 7, 8, 9, 10] Try_mixed rfl rfl rfl h33 (.cons ?_ (.cons ?_ (.cons ?_ (.cons ?_ (.cons ?_ (.cons ?_ (.cons ?_ (.cons ?_ (.cons ?_ (.cons ?_ .nil)))))))))) (fun q2 w hq2 h => ?_)
     ·intro q2 w Γx Ωx h
      refine OpS.fbox (o3 := 6) h .z PA.z fa69_6 rfl rfl rfl rfl ?_
      exact du h
     ·intro q2 w Γx Ωx h
      refine OpS.loadR h .z PA.a (GetS.ok (GetS.iso _ (GetS.there (GetS.there (GetS.there (GetS.there (GetS.there (GetS.there (GetS.here GetS.id))))))))) ty67 rfl rfl rfl rfl rfl ?_
      exact du h
     ·intro q2 w Γx Ωx h
      refine OpS.mv rfl rfl rfl ?_
      exact du h
     ·intro q2 w Γx Ωx h
      refine OpS.iptr h Tryz.underlying24 ty5 rfl rfl rfl rfl (V.at .z) e11 (fun u h40 => ?_)
      exact ⟨u, rfl, trivial, h40⟩
     ·intro q2 w Γx Ωx h
      refine OpS.loadi h ty5 rfl rfl rfl .z ?_
      exact du h
     ·intro q2 w Γx Ωx h
      refine OpS.mv rfl rfl rfl ?_
      exact du h
     ·intro q2 w Γx Ωx h
      refine OpS.sub h Tryz.underlying24 ty5 rfl rfl rfl rfl rfl (V.at .z) e12 (fun u h41 => ?_)
      exact ⟨u, rfl, trivial, h41⟩
     ·intro q2 w Γx Ωx h
      refine OpS.callP h Tryz.func237 rfl rfl rfl rfl (vs := [(q2 6)]) rfl (convert_read_ok e13) (.cons (f := false) (V.at .z) .nil) ?_
      rintro _ w12 _ _ _ ⟨rfl, rfl, rfl, rfl⟩ h42
      have h43 := h42 rfl rfl
      simp only [ca, na] at h43
      exact ⟨undef, rfl, trivial, h43⟩
     ·intro q2 w Γx Ωx h
      refine OpS.build (f := true) (x' := (⟨x6, y4⟩ : Point_)) h pl211 ti211 Point_.zr rfl rfl rfl (.cons rfl Point_.f0 rfl V.int (.cons rfl Point_.f1 rfl V.int .nil)) (fun u h44 => ?_)
      exact ⟨u, rfl, trivial, h44⟩
     ·intro q2 w Γx Ωx h
      refine OpS.lit (r := Point_.rep) (f := true) h Tryz.underlying67 ti211 rfl rfl rfl rfl rfl (.cons rfl (V.at .z) .nil) rfl rfl (fun u w13 h45 => ?_)
      exact ⟨u, rfl, trivial, h45⟩
     have h46 := h
     obtain ⟨x8, e14, hF⟩ := bindP_use hF
     refine op (OpS.app (f' := true) h46 (.s (.s (.s .z))) Tryz.underlying67 ti211 rfl rfl rfl rfl rfl rfl rfl (V.at (.s (.s (.s .z)))) (.inr Point_.pure) e14 (fun u10 w14 h47 => ?_))
     refine op (OpS.fbox (o3 := 6) h47 (.s .z) PA.z fa69_6 rfl rfl rfl rfl ?_)
     refine op (OpS.storeC (f' := false) (fr := (Rep.raw u10)) (r' := (Rep.iso (fun s : Conversion_ => (s.Form, s.Signed, s.M, s.B, s.K1, s.K2, s.Points, ())) (Rep.prod (Rep.int .i64) (Rep.prod Rep.bool (Rep.prod (Rep.int .i64) (Rep.prod (Rep.int .i64) (Rep.prod (Rep.int .i64) (Rep.prod (Rep.int .i64) (Rep.prod (Rep.raw (α := List Point_) u10) Rep.unit))))))))) (x' := (⟨(IntKind.i64.wrap (bAndNot .u8 x3 128)), (bAnd .u8 x3 128) != 0, 0, 0, 0, 0, []⟩ : Conversion_)) h47 (.s .z) PA.a (Chg.iso _ (Chg.there (Chg.there (Chg.there (Chg.there (Chg.there (Chg.there (Chg.here (Chg.id (by rfl)))))))))) (Ty.like ty67 (by rfl) (by rfl)) rfl rfl rfl (V.raw (f := false) (St.own1 h47 .z) ([])) (.inr rfl) (fun w15 h48 => ?_))
     refine nil (Run.endBlock (Run.finR rfl ?_))
     cases hF
     exact ⟨_, _, ⟨u10, rfl, rfl⟩, (h48.facts .nil).picks (.cons (.s (.s .z)) (.cons .z (.cons (.s .z) (.cons .z .nil))))⟩
    ·
     intro D_ w Γ_ Ω_ hX_ h49
     obtain ⟨u11, rfl, rfl⟩ := hX_
     simp only [ca, na] at h49
     refine Run.slim [(7, (q1 11)), (5, .int .i64 y1.1), (2, u1)] ⟨rfl, rfl, rfl, trivial⟩ ?_
     refine Run.endBlock (Run.seq (sr (op (OpS.loadB (fr := (Rep.iso (fun s : Conversion_ => (s.Form, s.Signed, s.M, s.B, s.K1, s.K2, s.Points, ())) (Rep.prod (Rep.int .i64) (Rep.prod Rep.bool (Rep.prod (Rep.int .i64) (Rep.prod (Rep.int .i64) (Rep.prod (Rep.int .i64) (Rep.prod (Rep.int .i64) (Rep.prod (Rep.raw (α := List Point_) u11) Rep.unit))))))))) h49 .z PA.z (GetS.ok GetS.id) (Ty.like ty69 (by rfl) (by rfl)) rfl rfl rfl (fun u12 h50 => ?_)))))
     have h51 := (h50.pick (.s (.s .z))).freeze
     have h52 := h51.pick .z
     have h53 := St.boxJ (r' := Conversion_.rep) (x' := (⟨(IntKind.i64.wrap (bAndNot .u8 x3 128)), (bAnd .u8 x3 128) != 0, 0, 0, 0, 0, y3⟩ : Conversion_)) h52 (fun _ _ hs_ => (Jn.iso _ (Jn.prod Jn.refl (Jn.prod Jn.refl (Jn.prod Jn.refl (Jn.prod Jn.refl (Jn.prod Jn.refl (Jn.prod Jn.refl (Jn.prod (Jn.raw ((V.at .z) _ _ hs_) rfl) Jn.refl)))))))))
     have h54 := St.addV (f := false) (r := Conversion_.rep) (x := (⟨(IntKind.i64.wrap (bAndNot .u8 x3 128)), (bAnd .u8 x3 128) != 0, 0, 0, 0, 0, y3⟩ : Conversion_)) h53 (V.jn (r := (Rep.iso (fun s : Conversion_ => (s.Form, s.Signed, s.M, s.B, s.K1, s.K2, s.Points, ())) (Rep.prod (Rep.int .i64) (Rep.prod Rep.bool (Rep.prod (Rep.int .i64) (Rep.prod (Rep.int .i64) (Rep.prod (Rep.int .i64) (Rep.prod (Rep.int .i64) (Rep.prod (Rep.raw (α := List Point_) u11) Rep.unit))))))))) (x := (⟨(IntKind.i64.wrap (bAndNot .u8 x3 128)), (bAnd .u8 x3 128) != 0, 0, 0, 0, 0, []⟩ : Conversion_)) (V.at (.s .z)) rfl (fun _ _ hs_ => (Jn.iso _ (Jn.prod Jn.refl (Jn.prod Jn.refl (Jn.prod Jn.refl (Jn.prod Jn.refl (Jn.prod Jn.refl (Jn.prod Jn.refl (Jn.prod (Jn.raw ((V.at .z) _ _ hs_) rfl) Jn.refl))))))))))
     obtain ⟨y5, e15, hF⟩ := bindP_use hF
     refine op (OpS.callP h54 Tryz.func103 rfl rfl rfl rfl (vs := [u12]) rfl (convert_Valid_ok e15) (.cons (f := false) (V.at .z) .nil) ?_)
     rintro _ w16 _ _ _ ⟨rfl, rfl, rfl, rfl⟩ h55
     have h56 := h55 rfl rfl
     simp only [ca, na] at h56
     refine op (OpS.not rfl rfl rfl ?_)
     refine nil ?_
     refine Run.ite rfl hF (fun e16 hF => ?_) (fun e16 hF => ?_)
     ·
      refine sr (op (OpS.build (f := true) (x' := Conversion_.z) h56 pl69 ti69 Conversion_.zr rfl rfl rfl .nil (fun u13 h57 => ?_)))
      refine op (OpS.storeB (f' := false) h57 (.s .z) PA.z Put.id ty69 rfl rfl rfl (V.weak (V.at .z)) (.inr rfl) (fun w17 h58 => ?_))
      refine ga rfl (ga rfl (nil (Run.retPD h58 (.s (.s .z)) rfl (fun w18 h59 => ?_))))
      obtain ⟨u14, hu3, h60⟩ := res_box h59 .z ty69
      refine ⟨_, (.cell rfl hu3 (.tmp rfl (.tmp rfl .nil))), ?_⟩
      cases hF
      exact Post.mk' ⟨u14, rfl, rfl, rfl, rfl⟩ (h60.picks .nil) (.val (V.at .z) .nil)
     ·
      refine Run.skip (sr (op (OpS.loadB h56 .z PA.z Get.id ty69 rfl rfl rfl (fun u15 h61 => ?_))))
      refine gm rfl (op (OpS.storeB (f' := false) h61 (.s .z) PA.z Put.id ty69 rfl rfl rfl (V.at .z) (.inr rfl) (fun w19 h62 => ?_)))
      refine ga rfl (ga rfl (nil (Run.retPD h62 (.s (.s .z)) rfl (fun w20 h63 => ?_))))
      obtain ⟨u16, hu4, h64⟩ := res_box h63 .z ty69
      refine ⟨_, (.cell rfl hu4 (.tmp rfl (.tmp rfl .nil))), ?_⟩
      cases hF
      exact Post.mk' ⟨u16, rfl, rfl, rfl, rfl⟩ (h64.picks .nil) (.val (V.at .z) .nil)
   ·
    have h65 := (h21.pick (.s .z)).freeze
    have h66 := h65.pick .z
    have h67 := St.boxJ (r' := Conversion_.rep) (x' := (⟨(IntKind.i64.wrap (bAndNot .u8 x3 128)), (bAnd .u8 x3 128) != 0, 0, 0, 0, 0, []⟩ : Conversion_)) h66 (fun _ _ hs_ => (Jn.iso _ (Jn.prod Jn.refl (Jn.prod Jn.refl (Jn.prod Jn.refl (Jn.prod Jn.refl (Jn.prod Jn.refl (Jn.prod Jn.refl (Jn.prod (Jn.raw ((V.at .z) _ _ hs_) rfl) Jn.refl)))))))))
    obtain ⟨x9, e17, hF⟩ := bindP_use hF
    obtain ⟨y6, e18, hF⟩ := bindP_use hF
    obtain ⟨x10, e19, hF⟩ := bindP_use hF
    obtain ⟨y7, e20, hF⟩ := bindP_use hF
    obtain ⟨x11, e21, hF⟩ := bindP_use hF
    obtain ⟨y8, e22, hF⟩ := bindP_use hF
    obtain ⟨x12, e23, hF⟩ := bindP_use hF
    obtain ⟨y9, e24, hF⟩ := bindP_use hF
    refine Run.drawV (Ωs := [(true, .box 69 Conversion_.rep u1 Conversion_.z)]) [.k 56 v0, .f 57 (fun u_ => [(false, .val (Rep.slice (Rep.int .u8)) u_ x9)]), .k 58 (.int .i64 y6), .k 59 v0, .f 60 (fun u_ => [(false, .val (Rep.slice (Rep.int .u8)) u_ x10)]), .k 61 (.int .i64 y7), .k 62 v0, .f 63 (fun u_ => [(false, .val (Rep.slice (Rep.int .u8)) u_ x11)]), .k 64 (.int .i64 y8), .k 65 v0, .f 66 (fun u_ => [(false, .val (Rep.slice (Rep.int .u8)) u_ x12)]), .k 67 (.int .i64 y9), .kr 68 (padd (q1 11) 2) [0]] [[], [0], [1], [], [3], [4], [], [6], [7], [], [9], [10], []] [[(true, .box 69 Conversion_.rep (q1 11) (⟨(IntKind.i64.wrap (bAndNot .u8 x3 128)), (bAnd .u8 x3 128) != 0, 0, 0, 0, 0, []⟩ : Conversion_))]] [0, 1, 2, 3, 4, 5, 6, 7, 8, 9, 10, 11, 12, 13] Try_mixed rfl rfl rfl h67 (.cons ?_ (.cons ?_ (.cons ?_ (.cons ?_ (.cons ?_ (.cons ?_ (.cons ?_ (.cons ?_ (.cons ?_ (.cons ?_ (.cons ?_ (.cons ?_ (.cons ?_ .nil))))))))))))) (fun q3 w hq3 h => ?_)
    ·intro q3 w Γx Ωx h
     refine OpS.mv rfl rfl rfl ?_
     exact du h
    ·intro q3 w Γx Ωx h
     refine OpS.sub h Tryz.underlying24 ty5 rfl rfl rfl rfl rfl (V.at (.s (.s (.s (.s .z))))) e17 (fun u h80 => ?_)
     exact ⟨u, rfl, trivial, h80⟩
    ·intro q3 w Γx Ωx h
     refine OpS.callP h Tryz.func237 rfl rfl rfl rfl (vs := [(q3 1)]) rfl (convert_read_ok e18) (.cons (f := false) (V.at .z) .nil) ?_
     rintro _ w25 _ _ _ ⟨rfl, rfl, rfl, rfl⟩ h81
     have h82 := h81 rfl rfl
     simp only [ca, na] at h82
     exact ⟨undef, rfl, trivial, h82⟩
    ·intro q3 w Γx Ωx h
     refine OpS.mv rfl rfl rfl ?_
     exact du h
    ·intro q3 w Γx Ωx h
     refine OpS.sub h Tryz.underlying24 ty5 rfl rfl rfl rfl rfl (V.at (.s (.s (.s (.s .z))))) e19 (fun u h83 => ?_)
     exact ⟨u, rfl, trivial, h83⟩
    ·intro q3 w Γx Ωx h
     refine OpS.callP h Tryz.func237 rfl rfl rfl rfl (vs := [(q3 4)]) rfl (convert_read_ok e20) (.cons (f := false) (V.at .z) .nil) ?_
     rintro _ w26 _ _ _ ⟨rfl, rfl, rfl, rfl⟩ h84
     have h85 := h84 rfl rfl
     simp only [ca, na] at h85
     exact ⟨undef, rfl, trivial, h85⟩
    ·intro q3 w Γx Ωx h
     refine OpS.mv rfl rfl rfl ?_
     exact du h
    ·intro q3 w Γx Ωx h
     refine OpS.sub h Tryz.underlying24 ty5 rfl rfl rfl rfl rfl (V.at (.s (.s (.s (.s .z))))) e21 (fun u h86 => ?_)
     exact ⟨u, rfl, trivial, h86⟩
    ·intro q3 w Γx Ωx h
     refine OpS.callP h Tryz.func237 rfl rfl rfl rfl (vs := [(q3 7)]) rfl (convert_read_ok e22) (.cons (f := false) (V.at .z) .nil) ?_
     rintro _ w27 _ _ _ ⟨rfl, rfl, rfl, rfl⟩ h87
     have h88 := h87 rfl rfl
     simp only [ca, na] at h88
     exact ⟨undef, rfl, trivial, h88⟩
    ·intro q3 w Γx Ωx h
     refine OpS.mv rfl rfl rfl ?_
     exact du h
    ·intro q3 w Γx Ωx h
     refine OpS.sub h Tryz.underlying24 ty5 rfl rfl rfl rfl rfl (V.at (.s (.s (.s (.s .z))))) e23 (fun u h89 => ?_)
     exact ⟨u, rfl, trivial, h89⟩
    ·intro q3 w Γx Ωx h
     refine OpS.callP h Tryz.func237 rfl rfl rfl rfl (vs := [(q3 10)]) rfl (convert_read_ok e24) (.cons (f := false) (V.at .z) .nil) ?_
     rintro _ w28 _ _ _ ⟨rfl, rfl, rfl, rfl⟩ h90
     have h91 := h90 rfl rfl
     simp only [ca, na] at h91
     exact ⟨undef, rfl, trivial, h91⟩
    ·intro q3 w Γx Ωx h
     refine OpS.fbox (o3 := 2) h .z PA.z fa69_2 rfl rfl rfl rfl ?_
     exact du h
    have h92 := h
    refine op (OpS.storeB (f' := true) h92 .z PA.a (Put.fld Conversion_.f2) ty3 rfl rfl rfl V.int (.inl rfl) (fun w29 h93 => ?_))
    refine op (OpS.fbox (o3 := 3) h93 .z PA.z fa69_3 rfl rfl rfl rfl ?_)
    refine op (OpS.storeB (f' := true) h93 .z PA.a (Put.fld Conversion_.f3) ty3 rfl rfl rfl V.int (.inl rfl) (fun w30 h94 => ?_))
    refine op (OpS.fbox (o3 := 4) h94 .z PA.z fa69_4 rfl rfl rfl rfl ?_)
    refine op (OpS.storeB (f' := true) h94 .z PA.a (Put.fld Conversion_.f4) ty3 rfl rfl rfl V.int (.inl rfl) (fun w31 h95 => ?_))
    refine op (OpS.fbox (o3 := 5) h95 .z PA.z fa69_5 rfl rfl rfl rfl ?_)
    refine op (OpS.storeB (f' := true) h95 .z PA.a (Put.fld Conversion_.f5) ty3 rfl rfl rfl V.int (.inl rfl) (fun w32 h96 => ?_))
    refine nil (Run.slim [(7, (q1 11)), (5, .int .i64 y1.1), (2, u1)] ⟨rfl, rfl, rfl, trivial⟩ ?_)
    refine Run.seq (sr (op (OpS.loadB h96 .z PA.z Get.id ty69 rfl rfl rfl (fun u17 h97 => ?_))))
    obtain ⟨y10, e25, hF⟩ := bindP_use hF
    refine op (OpS.callP h97 Tryz.func103 rfl rfl rfl rfl (vs := [u17]) rfl (convert_Valid_ok e25) (.cons (f := true) (V.at .z) .nil) ?_)
    rintro _ w33 _ _ _ ⟨rfl, rfl, rfl, rfl⟩ h98
    have h99 := h98 rfl rfl
    simp only [ca, na] at h99
    refine op (OpS.not rfl rfl rfl ?_)
    refine nil ?_
    refine Run.ite rfl hF (fun e26 hF => ?_) (fun e26 hF => ?_)
    ·
     refine sr (op (OpS.build (f := true) (x' := Conversion_.z) h99 pl69 ti69 Conversion_.zr rfl rfl rfl .nil (fun u18 h100 => ?_)))
     refine op (OpS.storeB (f' := true) h100 (.s .z) PA.z Put.id ty69 rfl rfl rfl (V.at .z) (.inl rfl) (fun w34 h101 => ?_))
     refine ga rfl (ga rfl (nil ?_))
     obtain ⟨u19, hu5, h102⟩ := res_box h101 .z ty69
     refine Run.retP rfl (.cell rfl hu5 (.tmp rfl (.tmp rfl .nil))) ?_
     cases hF
     exact Post.mk' ⟨u19, rfl, rfl, rfl, rfl⟩ (h102.picks .nil) (.val (V.weak (V.at .z)) .nil)
    ·
     refine Run.skip (sr (op (OpS.loadB h99 .z PA.z Get.id ty69 rfl rfl rfl (fun u20 h103 => ?_))))
     refine gm rfl (op (OpS.storeB (f' := true) h103 (.s .z) PA.z Put.id ty69 rfl rfl rfl (V.at .z) (.inl rfl) (fun w35 h104 => ?_)))
     refine ga rfl (ga rfl (nil ?_))
     obtain ⟨u21, hu6, h105⟩ := res_box h104 .z ty69
     refine Run.retP rfl (.cell rfl hu6 (.tmp rfl (.tmp rfl .nil))) ?_
     cases hF
     exact Post.mk' ⟨u21, rfl, rfl, rfl, rfl⟩ (h105.picks .nil) (.val (V.weak (V.at .z)) .nil)
set_option maxRecDepth 20000 in
theorem sensor_word_ok {fuel : Nat} {a0 : List Int} {y : Int} (hF : sensor_word fuel a0 = some y) {w : World} {v0 : Value} :
  Spec Tryz.prog 189 [v0].toArray w [(false, .val (Rep.slice (Rep.int .u8)) v0 a0)] [] (fun v Γr Ωr Ωo => v = .int .u16 y ∧ Γr = [] ∧ Ωr = [] ∧ Ωo = []) := by
 refine Spec.of (L := [(0, v0)]) Tryz.func189 rfl ⟨rfl, trivial⟩ rfl (fun e h => ?_)
 unfold sensor_word at hF
 refine sr (ga rfl (nil (Run.seq ?_)))
 obtain ⟨x1, e1, hF⟩ := bindP_use hF
 obtain ⟨x2, e2, hF⟩ := bindP_use hF
 refine Run.drawV (Ωs := []) [.k 3 v0, .f 4 (fun u_ => [(false, .ptr (Rep.int .u8) u_ x1)]), .k 5 (.int .u8 x1), .k 6 (.int .u16 (IntKind.u16.wrap x1)), .k 7 v0, .f 8 (fun u_ => [(false, .ptr (Rep.int .u8) u_ x2)]), .k 9 (.int .u8 x2), .k 10 (.int .u16 (IntKind.u16.wrap x2)), .k 11 (.int .u16 (bShl .u16 (IntKind.u16.wrap x2) 8))] [[], [0], [1], [2], [], [4], [5], [6], [7]] [] [0, 1, 2, 3, 4, 5, 6, 7, 8] Try_mixed rfl rfl rfl h (.cons ?_ (.cons ?_ (.cons ?_ (.cons ?_ (.cons ?_ (.cons ?_ (.cons ?_ (.cons ?_ (.cons ?_ .nil))))))))) (fun q1 w hq1 h => ?_)
 ·intro q1 w Γx Ωx h
  refine OpS.mv rfl rfl rfl ?_
  exact du h
 ·intro q1 w Γx Ωx h
  refine OpS.iptr h Tryz.underlying24 ty5 rfl rfl rfl rfl (V.at .z) e1 (fun u h3 => ?_)
  exact ⟨u, rfl, trivial, h3⟩
 ·intro q1 w Γx Ωx h
  refine OpS.loadi h ty5 rfl rfl rfl .z ?_
  exact du h
 ·intro q1 w Γx Ωx h
  refine OpS.conv Tryz.underlying5 Tryz.underlying49 rfl rfl rfl ?_
  exact du h
 ·intro q1 w Γx Ωx h
  refine OpS.mv rfl rfl rfl ?_
  exact du h
 ·intro q1 w Γx Ωx h
  refine OpS.iptr h Tryz.underlying24 ty5 rfl rfl rfl rfl (V.at .z) e2 (fun u h4 => ?_)
  exact ⟨u, rfl, trivial, h4⟩
 ·intro q1 w Γx Ωx h
  refine OpS.loadi h ty5 rfl rfl rfl .z ?_
  exact du h
 ·intro q1 w Γx Ωx h
  refine OpS.conv Tryz.underlying5 Tryz.underlying49 rfl rfl rfl ?_
  exact du h
 ·intro q1 w Γx Ωx h
  refine OpS.shl rfl rfl rfl rfl (by decide) ?_
  exact du h
 have h5 := h
 refine gb rfl (ga rfl ?_)
 obtain ⟨x3, e3, hF⟩ := letP_use hF
 refine RunL.name e3 ?_
 refine nil (Run.retP rfl (.tmp rfl .nil) ?_)
 cases hF
 exact Post.mk' ⟨rfl, rfl, rfl, rfl⟩ (h5.picks .nil) .nil
set_option maxHeartbeats 8000000 in set_option maxRecDepth 20000 in
theorem sensor_rest_ok {fuel : Nat} {a0 : Sensor_} {a1 : List Int} {y : Sensor_ × Int} (hF : sensor_rest fuel a0 a1 = some y) {w : World} {v0 v1 : Value} :
  Spec Tryz.prog 117 [v0, v1].toArray w [(false, .val Sensor_.rep v0 a0), (false, .val (Rep.slice (Rep.int .u8)) v1 a1)] [] (fun v Γr Ωr Ωo => ∃ u0 : Value, v = .tuple #[u0, .int .i64 y.2] ∧ Γr = [(false, .val Sensor_.rep u0 y.1)] ∧ Ωr = [] ∧ Ωo = []) := by
 refine Spec.of (L := [(0, v0), (1, v1)]) Tryz.func117 rfl ⟨rfl, rfl, trivial⟩ rfl (fun e h => ?_)
 unfold sensor_rest at hF
 refine sr (op (OpS.boxF h rfl rfl rfl (V.at .z) (fun u1 w1 h1 => ?_)))
 refine op (OpS.alloc h1 ti74 Sensor_.zr rfl rfl (fun u2 w2 h2 => ?_))
 refine ga rfl (nil (sr (ga rfl (nil (Run.seq (sr (op (OpS.fbox (o3 := 6) h2 (.s .z) PA.z fa74_5 rfl rfl rfl rfl ?_))))))))
 refine op (OpS.loadBb h2 (.s .z) PA.a (Get.fld Sensor_.f5) ty4 rfl rfl rfl ?_)
 refine op (OpS.not rfl rfl rfl ?_)
 refine nil ?_
 refine Run.join (σ := ((List Int) × Int × Sensor_)) (fun s_ L_ w_ => ∃ u0_ : Value, L_ = [(1, u0_), (2, u1), (4, u2), (6, .int .i64 s_.2.1)] ∧ St e w_ [(false, .val (Rep.slice (Rep.int .u8)) u0_ s_.1)] [(false, .box 74 Sensor_.rep u1 s_.2.2), (true, .box 74 Sensor_.rep u2 Sensor_.z)]) hF (fun s1 _ w3 hI hF => ?_) (fun j1 hj1 hF => ?_)
 ·
  obtain ⟨u3, rfl, h3⟩ := hI
  refine Run.seq (Run.block (sr (gm rfl (op (OpS.len h3 Tryz.underlying24 rfl rfl rfl (V.at .z) ?_)))))
  refine gm rfl (gb rfl (ga rfl ?_))
  obtain ⟨x1, e1, hF⟩ := letP_use hF
  refine RunL.nameb e1 ?_
  refine nil ?_
  refine Run.ite rfl hF (fun e2 hF => ?_) (fun e2 hF => ?_)
  ·
   refine sr (op (OpS.loadB h3 .z PA.z Get.id ty74 rfl rfl rfl (fun u4 h4 => ?_)))
   have h5 := (h4.pick (.s .z)).weak
   refine op (OpS.storeB (f' := false) h5 .z PA.z Put.id ty74 rfl rfl rfl (V.at .z) (.inr rfl) (fun w4 h6 => ?_))
   refine ga rfl (nil ?_)
   obtain ⟨u5, hu1, h7⟩ := res_box h6 .z ty74
   refine Run.retP rfl (.cell rfl hu1 (.tmp rfl .nil)) ?_
   cases hF
   exact Post.mk' ⟨u5, rfl, rfl, rfl, rfl⟩ (h7.picks .nil) (.val (V.at .z) .nil)
  ·
   refine sr (gm rfl (op (OpS.len h3 Tryz.underlying24 rfl rfl rfl (V.at .z) ?_)))
   refine gm rfl (gb rfl (ga rfl ?_))
   obtain ⟨x2, e3, hF⟩ := letP_use hF
   refine RunL.nameb e3 ?_
   refine nil ?_
   refine Run.ite rfl hF (fun e4 hF => ?_) (fun e4 hF => ?_)
   ·
    refine sr (op (OpS.loadB h3 .z PA.z Get.id ty74 rfl rfl rfl (fun u6 h8 => ?_)))
    have h9 := (h8.pick (.s .z)).weak
    refine op (OpS.storeB (f' := false) h9 .z PA.z Put.id ty74 rfl rfl rfl (V.at .z) (.inr rfl) (fun w5 h10 => ?_))
    refine ga rfl (nil ?_)
    obtain ⟨u7, hu2, h11⟩ := res_box h10 .z ty74
    refine Run.retP rfl (.cell rfl hu2 (.tmp rfl .nil)) ?_
    cases hF
    exact Post.mk' ⟨u7, rfl, rfl, rfl, rfl⟩ (h11.picks .nil) (.val (V.at .z) .nil)
   ·
    refine Run.skip (Run.endBlock (Run.seq (sr (op (OpS.fbox (o3 := 6) h3 .z PA.z fa74_5 rfl rfl rfl rfl ?_)))))
    refine op (OpS.loadBb h3 .z PA.a (Get.fld Sensor_.f5) ty4 rfl rfl rfl ?_)
    refine nil ?_
    refine Run.join (σ := Sensor_) (fun s_ L_ w_ => L_ = [(1, u3), (2, u1), (4, u2), (6, .int .i64 s1.2.1)] ∧ St e w_ [(false, .val (Rep.slice (Rep.int .u8)) u3 s1.1)] [(false, .box 74 Sensor_.rep u1 s_), (true, .box 74 Sensor_.rep u2 Sensor_.z)]) hF (fun s2 _ w6 hI hF => ?_) (fun j2 hj2 hF => ?_)
    ·
     obtain ⟨rfl, h12⟩ := hI
     refine Run.seq ?_
     obtain ⟨x3, e5, hF⟩ := bindP_use hF
     obtain ⟨y1, e6, hF⟩ := bindP_use hF
     obtain ⟨x4, e7, hF⟩ := bindP_use hF
     obtain ⟨y2, e8, hF⟩ := bindP_use hF
     refine Run.drawV (Ωs := [(true, .box 74 Sensor_.rep u2 Sensor_.z)]) [.k 62 u3, .k 63 (.int .i64 s1.2.1), .k 64 (.int .i64 (IntKind.i64.wrap (s1.2.1 - 4))), .f 65 (fun u_ => [(false, .val (Rep.slice (Rep.int .u8)) u_ x3)]), .k 66 (.int .u16 y1), .k 67 u3, .k 68 (.int .i64 s1.2.1), .k 69 (.int .i64 (IntKind.i64.wrap (s1.2.1 - 2))), .f 70 (fun u_ => [(false, .val (Rep.slice (Rep.int .u8)) u_ x4)]), .k 71 (.int .u16 y2), .kr 72 (padd u1 24) [0]] [[], [], [1], [0, 2], [3], [], [], [6], [5, 7], [8], []] [[(false, .box 74 Sensor_.rep u1 s2)]] [0, 1, 2, 3, 4, 5, 6, 7, 8, 9, 10, 11] Try_mixed rfl rfl rfl h12 (.cons ?_ (.cons ?_ (.cons ?_ (.cons ?_ (.cons ?_ (.cons ?_ (.cons ?_ (.cons ?_ (.cons ?_ (.cons ?_ (.cons ?_ .nil))))))))))) (fun q1 w hq1 h => ?_)
     ·intro q1 w Γx Ωx h
      refine OpS.mv rfl rfl rfl ?_
      exact du h
     ·intro q1 w Γx Ωx h
      refine OpS.mv rfl rfl rfl ?_
      exact du h
     ·intro q1 w Γx Ωx h
      refine OpS.bin rfl rfl rfl rfl rfl ?_
      exact du h
     ·intro q1 w Γx Ωx h
      refine OpS.sub h Tryz.underlying24 ty5 rfl rfl rfl rfl rfl (V.at .z) e5 (fun u h19 => ?_)
      exact ⟨u, rfl, trivial, h19⟩
     ·intro q1 w Γx Ωx h
      refine OpS.callP h Tryz.func189 rfl rfl rfl rfl (vs := [(q1 3)]) rfl (sensor_word_ok e6) (.cons (f := false) (V.at .z) .nil) ?_
      rintro _ w9 _ _ _ ⟨rfl, rfl, rfl, rfl⟩ h20
      have h21 := h20 rfl rfl
      simp only [ca, na] at h21
      exact ⟨undef, rfl, trivial, h21⟩
     ·intro q1 w Γx Ωx h
      refine OpS.mv rfl rfl rfl ?_
      exact du h
     ·intro q1 w Γx Ωx h
      refine OpS.mv rfl rfl rfl ?_
      exact du h
     ·intro q1 w Γx Ωx h
      refine OpS.bin rfl rfl rfl rfl rfl ?_
      exact du h
     ·intro q1 w Γx Ωx h
      refine OpS.sub h Tryz.underlying24 ty5 rfl rfl rfl rfl rfl (V.at .z) e7 (fun u h22 => ?_)
      exact ⟨u, rfl, trivial, h22⟩
     ·intro q1 w Γx Ωx h
      refine OpS.callP h Tryz.func189 rfl rfl rfl rfl (vs := [(q1 8)]) rfl (sensor_word_ok e8) (.cons (f := false) (V.at .z) .nil) ?_
      rintro _ w10 _ _ _ ⟨rfl, rfl, rfl, rfl⟩ h23
      have h24 := h23 rfl rfl
      simp only [ca, na] at h24
      exact ⟨undef, rfl, trivial, h24⟩
     ·intro q1 w Γx Ωx h
      refine OpS.fbox (o3 := 24) h .z PA.z fa74_11 rfl rfl rfl rfl ?_
      exact du h
     have h25 := h
     obtain ⟨d1, e9, hF⟩ := letP_use hF
     refine op (OpS.storeB (f' := true) h25 .z PA.a (Put.of (Put.fld Sensor_.f11) e9) ty49 rfl rfl rfl V.int (.inr rfl) (fun w11 h26 => ?_))
     refine op (OpS.fbox (o3 := 25) h26 .z PA.z fa74_12 rfl rfl rfl rfl ?_)
     obtain ⟨d2, e10, hF⟩ := letP_use hF
     refine op (OpS.storeB (f' := true) h26 .z PA.a (Put.of (Put.fld Sensor_.f12) e10) ty49 rfl rfl rfl V.int (.inr rfl) (fun w12 h27 => ?_))
     refine nil (sr (op (OpS.loadB h27 .z PA.z Get.id ty74 rfl rfl rfl (fun u8 h28 => ?_))))
     have h29 := (h28.pick (.s .z)).weak
     refine op (OpS.storeB (f' := false) h29 .z PA.z Put.id ty74 rfl rfl rfl (V.at .z) (.inr rfl) (fun w13 h30 => ?_))
     refine ga rfl (nil ?_)
     obtain ⟨u9, hu3, h31⟩ := res_box h30 .z ty74
     refine Run.retP rfl (.cell rfl hu3 (.tmp rfl .nil)) ?_
     cases hF
     exact Post.mk' ⟨u9, rfl, rfl, rfl, rfl⟩ (h31.picks .nil) (.val (V.at .z) .nil)
    ·
     refine Run.ite rfl hF (fun e11 hF => ?_) (fun e11 hF => ?_)
     ·
      refine Run.reg (gm rfl ?_)
      obtain ⟨y3, e12, hF⟩ := bindP_use hF
      refine op (OpS.callP h3 Tryz.func189 rfl rfl rfl rfl (vs := [u3]) rfl (sensor_word_ok e12) (.cons (f := false) (V.at .z) .nil) ?_)
      rintro _ w14 _ _ _ ⟨rfl, rfl, rfl, rfl⟩ h32
      have h33 := h32 rfl rfl
      simp only [ca, na] at h33
      refine op (OpS.fbox (o3 := 23) h33 .z PA.z fa74_10 rfl rfl rfl rfl ?_)
      obtain ⟨d3, e13, hF⟩ := letP_use hF
      refine op (OpS.storeB (f' := true) h33 .z PA.a (Put.of (Put.fld Sensor_.f10) e13) ty49 rfl rfl rfl V.int (.inr rfl) (fun w15 h34 => ?_))
      refine nil (Run.slim [(1, u3), (2, u1), (4, u2), (6, .int .i64 s1.2.1)] ⟨rfl, rfl, rfl, rfl, trivial⟩ ?_)
      exact hj2 (d3) _ _ ⟨rfl, (h34.facts (.atm .z .nil)).picks (.cons .z (.cons .z .nil))⟩ hF
     ·
      refine Run.seq ?_
      obtain ⟨x5, e14, hF⟩ := bindP_use hF
      obtain ⟨x6, e15, hF⟩ := bindP_use hF
      obtain ⟨e16, hF⟩ := chk_use hF
      refine Run.drawV (Ωs := [(false, .box 74 Sensor_.rep u1 s1.2.2), (true, .box 74 Sensor_.rep u2 Sensor_.z)]) [.k 45 u3, .f 46 (fun u_ => [(false, .ptr (Rep.int .u8) u_ x5)]), .k 47 (.int .u8 x5), .k 48 u3, .f 49 (fun u_ => [(false, .val (Rep.slice (Rep.int .u8)) u_ x6)]), .f 50 (fun u_ => [(false, .ptr (Rep.arr 6 (Rep.int .u8)) u_ (x6.take 6))]), .f 51 (fun u_ => [(false, .val (Rep.arr 6 (Rep.int .u8)) u_ (x6.take 6))])] [[], [0], [1], [], [3], [4], [5]] [] [0, 1, 2, 3, 4, 5, 6] Try_mixed rfl rfl rfl h3 (.cons ?_ (.cons ?_ (.cons ?_ (.cons ?_ (.cons ?_ (.cons ?_ (.cons ?_ .nil))))))) (fun q2 w hq2 h => ?_)
      ·intro q2 w Γx Ωx h
       refine OpS.mv rfl rfl rfl ?_
       exact du h
      ·intro q2 w Γx Ωx h
       refine OpS.iptr h Tryz.underlying24 ty5 rfl rfl rfl rfl (V.at .z) e14 (fun u h39 => ?_)
       exact ⟨u, rfl, trivial, h39⟩
      ·intro q2 w Γx Ωx h
       refine OpS.loadi h ty5 rfl rfl rfl .z ?_
       exact du h
      ·intro q2 w Γx Ωx h
       refine OpS.mv rfl rfl rfl ?_
       exact du h
      ·intro q2 w Γx Ωx h
       refine OpS.sub h Tryz.underlying24 ty5 rfl rfl rfl rfl rfl (V.at .z) e15 (fun u h40 => ?_)
       exact ⟨u, rfl, trivial, h40⟩
      ·intro q2 w Γx Ωx h
       refine OpS.a2p h Tryz.underlying70 rfl (of_decide_eq_true e16) rfl rfl rfl (V.at .z) (fun u h41 => ?_)
       exact ⟨u, rfl, trivial, h41⟩
      ·intro q2 w Γx Ωx h
       refine OpS.load h ty70 rfl rfl rfl .z (fun u h42 => ?_)
       exact ⟨u, rfl, trivial, h42⟩
      have h43 := h
      refine op (OpS.build (f := false) (x' := (⟨x5, (x6.take 6)⟩ : Thresholds_)) h43 pl72 ti72 Thresholds_.zr rfl rfl rfl (.cons rfl Thresholds_.f0 rfl V.int (.cons rfl Thresholds_.f1 rfl (V.at (.s (.s (.s .z)))) .nil)) (fun u10 h44 => ?_))
      refine op (OpS.fbox (o3 := 14) h44 .z PA.z fa74_7 rfl rfl rfl rfl ?_)
      obtain ⟨d4, e17, hF⟩ := letP_use hF
      refine op (OpS.storeB (f' := false) h44 .z PA.a (Put.of (Put.fld Sensor_.f7) e17) ty72 rfl rfl rfl (V.at .z) (.inr rfl) (fun w16 h45 => ?_))
      refine nil ?_
      obtain ⟨x7, e18, hF⟩ := bindP_use hF
      obtain ⟨x8, e19, hF⟩ := bindP_use hF
      obtain ⟨d5, e20, hF⟩ := letP_use hF
      refine Run.drawV (Ωs := [(true, .box 74 Sensor_.rep u2 Sensor_.z)]) [.k 54 u3, .f 55 (fun u_ => [(false, .ptr (Rep.int .u8) u_ x7)]), .k 56 (.int .u8 x7), .k 57 u3, .f 58 (fun u_ => [(false, .ptr (Rep.int .u8) u_ x8)]), .k 59 (.int .u8 x8), ⟨some 60, some ((padd u1 21)), fun _ => [], fun ds_ u_ => [], [], [(0, [7, 6])], none⟩, ⟨none, some undef, fun _ => [], fun ds_ u_ => [(false, .box 74 Sensor_.rep u1 d5)], [0], [], none⟩] [[], [0], [1], [], [3], [4], [], [6, 2]] [[(false, .box 74 Sensor_.rep u1 d4)]] [1, 2, 3, 4, 5, 6, 7, 8] Try_mixed rfl rfl rfl h45 (.cons ?_ (.cons ?_ (.cons ?_ (.cons ?_ (.cons ?_ (.cons ?_ (.cons ?_ (.cons ?_ .nil)))))))) (fun q3 w hq3 h => ?_)
      ·intro q3 w Γx Ωx h
       refine OpS.mv rfl rfl rfl ?_
       exact du h
      ·intro q3 w Γx Ωx h
       refine OpS.iptr h Tryz.underlying24 ty5 rfl rfl rfl rfl (V.at (.s (.s (.s (.s (.s .z)))))) e18 (fun u h49 => ?_)
       exact ⟨u, rfl, trivial, h49⟩
      ·intro q3 w Γx Ωx h
       refine OpS.loadi h ty5 rfl rfl rfl .z ?_
       exact du h
      ·intro q3 w Γx Ωx h
       refine OpS.mv rfl rfl rfl ?_
       exact du h
      ·intro q3 w Γx Ωx h
       refine OpS.iptr h Tryz.underlying24 ty5 rfl rfl rfl rfl (V.at (.s (.s (.s (.s (.s .z)))))) e19 (fun u h50 => ?_)
       exact ⟨u, rfl, trivial, h50⟩
      ·intro q3 w Γx Ωx h
       refine OpS.loadi h ty5 rfl rfl rfl .z ?_
       exact du h
      ·intro q3 w Γx Ωx h
       refine OpS.fbox (o3 := 21) h .z PA.z fa74_8 rfl rfl rfl rfl ?_
       exact du h
      ·intro q3 w Γx Ωx h
       refine OpS.storeB (f' := true) h .z PA.a (Put.of (Put.fld Sensor_.f8) e20) ty5 rfl rfl rfl V.int (.inr rfl) (fun w18 h51 => ?_)
       exact ⟨undef, trivial, trivial, h51⟩
      have h52 := h
      refine op (OpS.fbox (o3 := 22) h52 .z PA.z fa74_9 rfl rfl rfl rfl ?_)
      obtain ⟨d6, e21, hF⟩ := letP_use hF
      refine op (OpS.storeB (f' := true) h52 .z PA.a (Put.of (Put.fld Sensor_.f9) e21) ty5 rfl rfl rfl V.int (.inr rfl) (fun w19 h53 => ?_))
      refine nil (Run.slim [(1, u3), (2, u1), (4, u2), (6, .int .i64 s1.2.1)] ⟨rfl, rfl, rfl, rfl, trivial⟩ ?_)
      exact hj2 (d6) _ _ ⟨rfl, (h53.facts (.atm (.s (.s (.s (.s (.s (.s (.s .z))))))) .nil)).picks (.cons .z (.cons .z .nil))⟩ hF
 ·
  refine Run.ite rfl hF (fun e22 hF => ?_) (fun e22 hF => ?_)
  ·
   refine sr (gm rfl ?_)
   obtain ⟨y4, e23, hF⟩ := bindP_use hF
   have h54 := h2.front .nil
   refine op (OpS.callO h54 Tryz.func188 rfl rfl rfl rfl (vs := [v1]) rfl (convert_Decode_ok e23) rfl (.cons (f := false) (V.at (.s .z)) .nil) ?_)
   rintro _ w20 _ _ _ ⟨u11, rfl, rfl, rfl, rfl⟩ h55
   have h56 := h55
   simp only [ca, na] at h56
   refine gm rfl (op (OpS.ext rfl rfl rfl rfl ?_))
   refine op (OpS.ext rfl rfl rfl rfl ?_)
   refine op (OpS.ext rfl rfl rfl rfl ?_)
   refine op (OpS.alloc h56 ti69 Conversion_.zr rfl rfl (fun u12 w21 h57 => ?_))
   have h58 := (h57.pick .z).weak
   refine op (OpS.storeB (f' := false) h58 .z PA.z Put.id ty69 rfl rfl rfl (V.at .z) (.inr rfl) (fun w22 h59 => ?_))
   refine ga rfl (ga rfl (nil (Run.seq (sr (gm rfl (gb rfl (nil ?_)))))))
   refine Run.ite rfl hF (fun e24 hF => ?_) (fun e24 hF => ?_)
   ·
    refine sr (op (OpS.loadB h59 (.s (.s .z)) PA.z Get.id ty74 rfl rfl rfl (fun u13 h60 => ?_)))
    refine gm rfl ?_
    have h61 := (h60.pick (.s .z)).weak
    refine op (OpS.storeB (f' := false) h61 .z PA.z Put.id ty74 rfl rfl rfl (V.at .z) (.inr rfl) (fun w23 h62 => ?_))
    refine ga rfl (nil ?_)
    obtain ⟨u14, hu4, h63⟩ := res_box h62 .z ty74
    refine Run.retP rfl (.cell rfl hu4 (.tmp rfl .nil)) ?_
    cases hF
    exact Post.mk' ⟨u14, rfl, rfl, rfl, rfl⟩ (h63.picks .nil) (.val (V.at .z) .nil)
   ·
    refine Run.skip ?_
    have h64 := h59.picks (.cons .z (.cons (.s .z) (.cons .z .nil)))
    obtain ⟨x9, e25, hF⟩ := bindP_use hF
    obtain ⟨d7, e26, hF⟩ := letP_use hF
    refine Run.drawV (Ωs := [(true, .box 74 Sensor_.rep u2 Sensor_.z)]) [.fr 23 (fun u_ => [(false, .val Conversion_.rep u_ y4.1)]) [0], .k 24 v1, .k 25 (.int .i64 y4.2.1), .f 26 (fun u_ => [(false, .val (Rep.slice (Rep.int .u8)) u_ x9)]), ⟨some 27, some ((padd u1 7)), fun _ => [], fun ds_ u_ => [], [], [(1, [5, 4])], none⟩, ⟨none, some undef, fun _ => [], fun ds_ u_ => [(false, .box 74 Sensor_.rep u1 d7)], [1], [], none⟩] [[], [], [], [1, 2], [], [4, 0]] [[(false, .box 69 Conversion_.rep u12 y4.1)], [(false, .box 74 Sensor_.rep u1 a0)]] [0, 2, 3, 4, 5, 6, 7] Try_mixed rfl rfl rfl h64 (.cons ?_ (.cons ?_ (.cons ?_ (.cons ?_ (.cons ?_ (.cons ?_ .nil)))))) (fun q4 w hq4 h => ?_)
    ·intro q4 w Γx Ωx h
     refine OpS.loadB h .z PA.z Get.id ty69 rfl rfl rfl (fun u h68 => ?_)
     exact ⟨u, rfl, trivial, h68⟩
    ·intro q4 w Γx Ωx h
     refine OpS.mv rfl rfl rfl ?_
     exact du h
    ·intro q4 w Γx Ωx h
     refine OpS.mv rfl rfl rfl ?_
     exact du h
    ·intro q4 w Γx Ωx h
     refine OpS.sub h Tryz.underlying24 ty5 rfl rfl rfl rfl rfl (V.at (.s (.s .z))) e25 (fun u h69 => ?_)
     exact ⟨u, rfl, trivial, h69⟩
    ·intro q4 w Γx Ωx h
     refine OpS.fbox (o3 := 7) h .z PA.z fa74_6 rfl rfl rfl rfl ?_
     exact du h
    ·intro q4 w Γx Ωx h
     refine OpS.storeB (f' := false) h .z PA.a (Put.of (Put.fld Sensor_.f6) e26) ty69 rfl rfl rfl (V.at .z) (.inr rfl) (fun w25 h70 => ?_)
     exact ⟨undef, trivial, trivial, h70⟩
    have h71 := h
    refine ga rfl (ga rfl (nil (Run.slim [(1, (q4 3)), (2, u1), (4, u2), (6, .int .i64 13)] ⟨rfl, rfl, rfl, rfl, trivial⟩ ?_)))
    exact hj1 (x9, 13, d7) _ _ ⟨(q4 3), rfl, (h71.facts (.val (V.at (.s .z)) .nil)).picks (.cons (.s .z) (.cons (.s .z) .nil))⟩ hF
  ·
   refine Run.skip (Run.slim [(1, v1), (2, u1), (4, u2), (6, .int .i64 6)] ⟨rfl, rfl, rfl, rfl, trivial⟩ ?_)
   exact hj1 (a1, 6, a0) _ _ ⟨v1, rfl, (h2.facts (.val (V.at (.s .z)) .nil)).picks (.cons (.s .z) (.cons .z .nil))⟩ hF
set_option maxHeartbeats 8000000 in set_option maxRecDepth 20000 in
theorem sensor_Decode_ok {fuel : Nat} {a0 : List Int} {y : Sensor_ × Int} (hF : sensor_Decode fuel a0 = some y) {w : World} {v0 : Value} :
  Spec Tryz.prog 48 [v0].toArray w [(false, .val (Rep.slice (Rep.int .u8)) v0 a0)] [] (fun v Γr Ωr Ωo => ∃ u0 : Value, v = .tuple #[u0, .int .i64 y.2] ∧ Γr = [(false, .val Sensor_.rep u0 y.1)] ∧ Ωr = [] ∧ Ωo = []) := by
 refine Spec.of (L := [(0, v0)]) Tryz.func48 rfl ⟨rfl, trivial⟩ rfl (fun e h => ?_)
 unfold sensor_Decode at hF
 refine sr (op (OpS.alloc h ti74 Sensor_.zr rfl rfl (fun u1 w1 h1 => ?_)))
 refine ga rfl (nil (Run.seq (sr (gm rfl (op (OpS.len h1 Tryz.underlying24 rfl rfl rfl (V.at .z) ?_))))))
 refine gb rfl (nil ?_)
 refine Run.ite rfl hF (fun e1 hF => ?_) (fun e1 hF => ?_)
 ·
  refine sr (op (OpS.build (f := true) (x' := Sensor_.z) h1 pl74 ti74 Sensor_.zr rfl rfl rfl .nil (fun u2 h2 => ?_)))
  refine op (OpS.storeB (f' := true) h2 .z PA.z Put.id ty74 rfl rfl rfl (V.at .z) (.inl rfl) (fun w2 h3 => ?_))
  refine ga rfl (nil ?_)
  obtain ⟨u3, hu1, h4⟩ := res_box h3 .z ty74
  refine Run.retP rfl (.cell rfl hu1 (.tmp rfl .nil)) ?_
  cases hF
  exact Post.mk' ⟨u3, rfl, rfl, rfl, rfl⟩ (h4.picks .nil) (.val (V.weak (V.at .z)) .nil)
 ·
  refine Run.skip (sr (gm rfl ?_))
  obtain ⟨y1, e2, hF⟩ := bindP_use hF
  refine op (OpS.callP h1 Tryz.func116 rfl rfl rfl rfl (vs := [v0]) rfl (checksum_Open8_ok e2) (.cons (f := false) (V.at .z) .nil) ?_)
  rintro _ w3 _ _ _ ⟨u4, rfl, rfl, rfl, rfl⟩ h5
  have h6 := h5 rfl rfl
  simp only [ca, na] at h6
  refine gm rfl (op (OpS.ext rfl rfl rfl rfl ?_))
  refine op (OpS.ext rfl rfl rfl rfl ?_)
  refine ga rfl ?_
  have h7 := (h6.pick .z).freeze
  refine ga rfl (nil (Run.seq (sr (gm rfl (gb rfl (nil ?_))))))
  refine Run.ite rfl hF (fun e3 hF => ?_) (fun e3 hF => ?_)
  ·
   refine sr (op (OpS.build (f := true) (x' := Sensor_.z) h7 pl74 ti74 Sensor_.zr rfl rfl rfl .nil (fun u5 h8 => ?_)))
   refine gm rfl (op (OpS.storeB (f' := true) h8 .z PA.z Put.id ty74 rfl rfl rfl (V.at .z) (.inl rfl) (fun w4 h9 => ?_)))
   refine ga rfl (nil ?_)
   obtain ⟨u6, hu2, h10⟩ := res_box h9 .z ty74
   refine Run.retP rfl (.cell rfl hu2 (.tmp rfl .nil)) ?_
   cases hF
   exact Post.mk' ⟨u6, rfl, rfl, rfl, rfl⟩ (h10.picks .nil) (.val (V.weak (V.at .z)) .nil)
  ·
   refine Run.skip (Run.seq (sr (gm rfl ?_)))
   obtain ⟨x1, e4, hF⟩ := bindP_use hF
   refine op (OpS.iptr h7 Tryz.underlying24 ty5 rfl rfl rfl rfl (V.at .z) e4 (fun u7 h11 => ?_))
   refine op (OpS.loadi h11 ty5 rfl rfl rfl .z ?_)
   refine gb rfl (gm rfl ?_)
   refine RunL.join (σ := Bool) (fun s_ L_ w_ => L_ = [(0, u4), (2, u1), (29, .bool s_)] ∧ St e w_ [(true, .val (Rep.slice (Rep.int .u8)) u4 y1.1)] [(true, .box 74 Sensor_.rep u1 Sensor_.z)]) hF (fun s1 _ w5 hI hF => ?_) (fun j1 hj1 hF => ?_)
   ·
    obtain ⟨rfl, h12⟩ := hI
    refine Run.ite rfl hF (fun e5 hF => ?_) (fun e5 hF => ?_)
    ·
     refine sr (op (OpS.build (f := true) (x' := Sensor_.z) h12 pl74 ti74 Sensor_.zr rfl rfl rfl .nil (fun u8 h13 => ?_)))
     refine op (OpS.storeB (f' := true) h13 .z PA.z Put.id ty74 rfl rfl rfl (V.at .z) (.inl rfl) (fun w6 h14 => ?_))
     refine ga rfl (nil ?_)
     obtain ⟨u9, hu3, h15⟩ := res_box h14 .z ty74
     refine Run.retP rfl (.cell rfl hu3 (.tmp rfl .nil)) ?_
     cases hF
     exact Post.mk' ⟨u9, rfl, rfl, rfl, rfl⟩ (h15.picks .nil) (.val (V.weak (V.at .z)) .nil)
    ·
     refine Run.skip (sr (gm rfl ?_))
     obtain ⟨x2, e6, hF⟩ := bindP_use hF
     refine op (OpS.iptr h12 Tryz.underlying24 ty5 rfl rfl rfl rfl (V.at .z) e6 (fun u10 h16 => ?_))
     refine op (OpS.loadi h16 ty5 rfl rfl rfl .z ?_)
     refine op (OpS.conv Tryz.underlying5 Tryz.underlying3 rfl rfl rfl ?_)
     refine gb rfl (ga rfl ?_)
     obtain ⟨x3, e7, hF⟩ := letP_use hF
     refine RunL.name e7 ?_
     refine nil (Run.seq (sr (gm rfl (op (OpS.len h16 Tryz.underlying24 rfl rfl rfl (V.at (.s .z)) ?_)))))
     refine gm rfl (gb rfl (nil ?_))
     refine Run.ite rfl hF (fun e8 hF => ?_) (fun e8 hF => ?_)
     ·
      refine sr (op (OpS.build (f := true) (x' := Sensor_.z) h16 pl74 ti74 Sensor_.zr rfl rfl rfl .nil (fun u11 h17 => ?_)))
      refine op (OpS.storeB (f' := true) h17 .z PA.z Put.id ty74 rfl rfl rfl (V.at .z) (.inl rfl) (fun w7 h18 => ?_))
      refine ga rfl (nil ?_)
      obtain ⟨u12, hu4, h19⟩ := res_box h18 .z ty74
      refine Run.retP rfl (.cell rfl hu4 (.tmp rfl .nil)) ?_
      cases hF
      exact Post.mk' ⟨u12, rfl, rfl, rfl, rfl⟩ (h19.picks .nil) (.val (V.weak (V.at .z)) .nil)
     ·
      refine Run.skip (Run.seq ?_)
      obtain ⟨x4, e9, hF⟩ := bindP_use hF
      obtain ⟨x5, e10, hF⟩ := bindP_use hF
      obtain ⟨x6, e11, hF⟩ := bindP_use hF
      obtain ⟨x7, e12, hF⟩ := bindP_use hF
      obtain ⟨x8, e13, hF⟩ := bindP_use hF
      obtain ⟨x9, e14, hF⟩ := bindP_use hF
      obtain ⟨x10, e15, hF⟩ := bindP_use hF
      refine Run.drawV (Ωs := [(true, .box 74 Sensor_.rep u1 Sensor_.z)]) [.k 41 u4, .f 42 (fun u_ => [(true, .ptr (Rep.int .u8) u_ x4)]), .k 43 (.int .u8 x4), .k 44 u4, .f 45 (fun u_ => [(true, .ptr (Rep.int .u8) u_ x5)]), .k 46 (.int .u8 x5), .k 47 u4, .f 48 (fun u_ => [(true, .ptr (Rep.int .u8) u_ x6)]), .k 49 (.int .u8 x6), .k 50 u4, .k 51 (.int .i64 x3), .f 52 (fun u_ => [(true, .val (Rep.slice (Rep.int .u8)) u_ x7)]), .f 53 (fun u_ => [(true, .val Rep.str u_ (toStr x7))]), .k 54 u4, .f 55 (fun u_ => [(true, .ptr (Rep.int .u8) u_ x8)]), .k 56 (.int .u8 x8), .k 57 u4, .f 58 (fun u_ => [(true, .ptr (Rep.int .u8) u_ x9)]), .k 59 (.int .u8 x9), .f 60 (fun u_ => [(true, .val Entity_.rep u_ (⟨x8, x9⟩ : Entity_))]), .k 61 u4, .f 62 (fun u_ => [(true, .ptr (Rep.int .u8) u_ x10)]), .k 63 (.int .u8 x10), .k 64 (.int .u8 (bAnd .u8 x10 1)), .k 65 (.bool ((bAnd .u8 x10 1) != 0)), .k 66 u4, .f 67 (fun u_ => [(true, .ptr (Rep.int .u8) u_ x10)]), .k 68 (.int .u8 x10), .k 69 (.int .u8 (bAnd .u8 x10 2)), .k 70 (.bool ((bAnd .u8 x10 2) != 0)), .k 71 u4, .f 72 (fun u_ => [(true, .ptr (Rep.int .u8) u_ x10)]), .k 73 (.int .u8 x10), .k 74 (.int .u8 (IntKind.u8.wrap (Int.tdiv x10 4))), .k 75 (.int .i64 (IntKind.i64.wrap (IntKind.u8.wrap (Int.tdiv x10 4)))), .f 76 (fun u_ => [(true, .val Sensor_.rep u_ (⟨x4, x5, x6, (toStr x7), (⟨x8, x9⟩ : Entity_), (bAnd .u8 x10 1) != 0, Conversion_.z, Thresholds_.z, 0, 0, 0, 0, 0, (bAnd .u8 x10 2) != 0, (IntKind.i64.wrap (IntKind.u8.wrap (Int.tdiv x10 4)))⟩ : Sensor_))]), ⟨some 6, none, fun u_ => [], fun ds_ u_ => [(true, .box 74 Sensor_.rep u_ Sensor_.z)], [], [], none⟩] [[], [0], [1], [], [3], [4], [], [6], [7], [], [], [9, 10], [11], [], [13], [14], [], [16], [17], [15, 18], [], [20], [21], [22], [23], [], [25], [26], [27], [28], [], [30], [31], [32], [33], [2, 5, 8, 12, 19, 24, 29, 34], []] [] [0, 1, 2, 3, 4, 5, 6, 7, 8, 9, 10, 11, 12, 13, 14, 15, 16, 17, 18, 19, 20, 21, 22, 23, 24, 25, 26, 27, 28, 29, 30, 31, 32, 33, 34, 35, 36] Try_mixed rfl rfl rfl h16 (.cons ?_ (.cons ?_ (.cons ?_ (.cons ?_ (.cons ?_ (.cons ?_ (.cons ?_ (.cons ?_ (.cons ?_ (.cons ?_ (.cons ?_ (.cons ?_ (.cons ?_ (.cons ?_ (.cons ?_ (.cons ?_ (.cons ?_ (.cons ?_ (.cons ?_ (.cons ?_ (.cons ?_ (.cons ?_ (.cons ?_ (.cons ?_ (.cons ?_ (.cons ?_ (.cons ?_ (.cons ?_ (.cons ?_ (.cons ?_ (.cons ?_ (.cons ?_ (.cons ?_ (.cons ?_ (.cons ?_ (.cons ?_ (.cons ?_ .nil))))))))))))))))))))))))))))))))))))) (fun q1 w hq1 h => ?_)
      ·intro q1 w Γx Ωx h
       refine OpS.mv rfl rfl rfl ?_
       exact du h
      ·intro q1 w Γx Ωx h
       refine OpS.iptr h Tryz.underlying24 ty5 rfl rfl rfl rfl (V.at (.s .z)) e9 (fun u h33 => ?_)
       exact ⟨u, rfl, trivial, h33⟩
      ·intro q1 w Γx Ωx h
       refine OpS.loadi h ty5 rfl rfl rfl .z ?_
       exact du h
      ·intro q1 w Γx Ωx h
       refine OpS.mv rfl rfl rfl ?_
       exact du h
      ·intro q1 w Γx Ωx h
       refine OpS.iptr h Tryz.underlying24 ty5 rfl rfl rfl rfl (V.at (.s .z)) e10 (fun u h34 => ?_)
       exact ⟨u, rfl, trivial, h34⟩
      ·intro q1 w Γx Ωx h
       refine OpS.loadi h ty5 rfl rfl rfl .z ?_
       exact du h
      ·intro q1 w Γx Ωx h
       refine OpS.mv rfl rfl rfl ?_
       exact du h
      ·intro q1 w Γx Ωx h
       refine OpS.iptr h Tryz.underlying24 ty5 rfl rfl rfl rfl (V.at (.s .z)) e11 (fun u h35 => ?_)
       exact ⟨u, rfl, trivial, h35⟩
      ·intro q1 w Γx Ωx h
       refine OpS.loadi h ty5 rfl rfl rfl .z ?_
       exact du h
      ·intro q1 w Γx Ωx h
       refine OpS.mv rfl rfl rfl ?_
       exact du h
      ·intro q1 w Γx Ωx h
       refine OpS.mv rfl rfl rfl ?_
       exact du h
      ·intro q1 w Γx Ωx h
       refine OpS.sub h Tryz.underlying24 ty5 rfl rfl rfl rfl rfl (V.at (.s .z)) e12 (fun u h36 => ?_)
       exact ⟨u, rfl, trivial, h36⟩
      ·intro q1 w Γx Ωx h
       refine OpS.toStr h Tryz.underlying24 Tryz.underlying5 Tryz.underlying9 rfl rfl rfl (V.at .z) (fun u h37 => ?_)
       exact ⟨u, rfl, trivial, h37⟩
      ·intro q1 w Γx Ωx h
       refine OpS.mv rfl rfl rfl ?_
       exact du h
      ·intro q1 w Γx Ωx h
       refine OpS.iptr h Tryz.underlying24 ty5 rfl rfl rfl rfl (V.at (.s .z)) e13 (fun u h38 => ?_)
       exact ⟨u, rfl, trivial, h38⟩
      ·intro q1 w Γx Ωx h
       refine OpS.loadi h ty5 rfl rfl rfl .z ?_
       exact du h
      ·intro q1 w Γx Ωx h
       refine OpS.mv rfl rfl rfl ?_
       exact du h
      ·intro q1 w Γx Ωx h
       refine OpS.iptr h Tryz.underlying24 ty5 rfl rfl rfl rfl (V.at (.s .z)) e14 (fun u h39 => ?_)
       exact ⟨u, rfl, trivial, h39⟩
      ·intro q1 w Γx Ωx h
       refine OpS.loadi h ty5 rfl rfl rfl .z ?_
       exact du h
      ·intro q1 w Γx Ωx h
       refine OpS.build (f := true) (x' := (⟨x8, x9⟩ : Entity_)) h pl66 ti66 Entity_.zr rfl rfl rfl (.cons rfl Entity_.f0 rfl V.int (.cons rfl Entity_.f1 rfl V.int .nil)) (fun u h40 => ?_)
       exact ⟨u, rfl, trivial, h40⟩
      ·intro q1 w Γx Ωx h
       refine OpS.mv rfl rfl rfl ?_
       exact du h
      ·intro q1 w Γx Ωx h
       refine OpS.iptr h Tryz.underlying24 ty5 rfl rfl rfl rfl (V.at (.s .z)) e15 (fun u h41 => ?_)
       exact ⟨u, rfl, trivial, h41⟩
      ·intro q1 w Γx Ωx h
       refine OpS.loadi h ty5 rfl rfl rfl .z ?_
       exact du h
      ·intro q1 w Γx Ωx h
       refine OpS.bin rfl rfl rfl rfl rfl ?_
       exact du h
      ·intro q1 w Γx Ωx h
       refine OpS.bin rfl rfl rfl rfl rfl ?_
       exact du h
      ·intro q1 w Γx Ωx h
       refine OpS.mv rfl rfl rfl ?_
       exact du h
      ·intro q1 w Γx Ωx h
       refine OpS.iptr h Tryz.underlying24 ty5 rfl rfl rfl rfl (V.at (.s .z)) e15 (fun u h42 => ?_)
       exact ⟨u, rfl, trivial, h42⟩
      ·intro q1 w Γx Ωx h
       refine OpS.loadi h ty5 rfl rfl rfl .z ?_
       exact du h
      ·intro q1 w Γx Ωx h
       refine OpS.bin rfl rfl rfl rfl rfl ?_
       exact du h
      ·intro q1 w Γx Ωx h
       refine OpS.bin rfl rfl rfl rfl rfl ?_
       exact du h
      ·intro q1 w Γx Ωx h
       refine OpS.mv rfl rfl rfl ?_
       exact du h
      ·intro q1 w Γx Ωx h
       refine OpS.iptr h Tryz.underlying24 ty5 rfl rfl rfl rfl (V.at (.s .z)) e15 (fun u h43 => ?_)
       exact ⟨u, rfl, trivial, h43⟩
      ·intro q1 w Γx Ωx h
       refine OpS.loadi h ty5 rfl rfl rfl .z ?_
       exact du h
      ·intro q1 w Γx Ωx h
       refine OpS.quo rfl rfl rfl rfl (by decide) ?_
       exact du h
      ·intro q1 w Γx Ωx h
       refine OpS.conv Tryz.underlying5 Tryz.underlying3 rfl rfl rfl ?_
       exact du h
      ·intro q1 w Γx Ωx h
       refine OpS.build (f := true) (x' := (⟨x4, x5, x6, (toStr x7), (⟨x8, x9⟩ : Entity_), (bAnd .u8 x10 1) != 0, Conversion_.z, Thresholds_.z, 0, 0, 0, 0, 0, (bAnd .u8 x10 2) != 0, (IntKind.i64.wrap (IntKind.u8.wrap (Int.tdiv x10 4)))⟩ : Sensor_)) h pl74 ti74 Sensor_.zr rfl rfl rfl (.cons rfl Sensor_.f0 rfl V.int (.cons rfl Sensor_.f1 rfl V.int (.cons rfl Sensor_.f2 rfl V.int (.cons rfl Sensor_.f3 rfl (V.at .z) (.cons rfl Sensor_.f4 rfl (V.at (.s .z)) (.cons rfl Sensor_.f5 rfl V.bool (.cons rfl Sensor_.f13 rfl V.bool (.cons rfl Sensor_.f14 rfl V.int .nil)))))))) (fun u h44 => ?_)
       exact ⟨u, rfl, trivial, h44⟩
      ·intro q1 w Γx Ωx h
       refine OpS.alloc h ti74 Sensor_.zr rfl rfl (fun u w9 h45 => ?_)
       exact ⟨u, rfl, trivial, h45⟩
      have h46 := h
      refine op (OpS.storeB (f' := true) h46 .z PA.z Put.id ty74 rfl rfl rfl (V.at (.s (.s (.s (.s (.s (.s (.s (.s (.s (.s (.s .z)))))))))))) (.inl rfl) (fun w10 h47 => ?_))
      refine nil (Run.slim [(6, (q1 36)), (5, .int .i64 x3), (0, u4), (2, u1)] ⟨rfl, rfl, rfl, rfl, trivial⟩ ?_)
      refine Run.seq ?_
      obtain ⟨x11, e16, hF⟩ := bindP_use hF
      obtain ⟨y2, e17, hF⟩ := bindP_use hF
      refine Run.drawV (Ωs := [(true, .box 74 Sensor_.rep u1 Sensor_.z)]) [⟨some 78, none, fun u_ => [(true, .val Sensor_.rep u_ (⟨x4, x5, x6, (toStr x7), (⟨x8, x9⟩ : Entity_), (bAnd .u8 x10 1) != 0, Conversion_.z, Thresholds_.z, 0, 0, 0, 0, 0, (bAnd .u8 x10 2) != 0, (IntKind.i64.wrap (IntKind.u8.wrap (Int.tdiv x10 4)))⟩ : Sensor_))], fun ds_ u_ => [], [], [(0, [8, 0])], none⟩, .k 79 u4, .k 80 (.int .i64 x3), .f 81 (fun u_ => [(true, .val (Rep.slice (Rep.int .u8)) u_ x11)]), .f 82 (fun u_ => [(true, .eqv u_ (.tuple #[(tcomp u_ 0), .int .i64 y2.2])), (false, .val Sensor_.rep (tcomp u_ 0) y2.1)]), .f 77 (fun u_ => [(true, .eqv u_ (.tuple #[(tcomp u_ 0), .int .i64 y2.2])), (false, .val Sensor_.rep (tcomp u_ 0) y2.1)]), .f 83 (fun u_ => [(false, .val Sensor_.rep u_ y2.1)]), .k 84 (.int .i64 y2.2), ⟨none, some undef, fun _ => [], fun ds_ u_ => [(false, .box 74 Sensor_.rep (q1 36) y2.1)], [0], [], none⟩] [[], [], [], [1, 2], [0, 3], [4], [5], [5], [6]] [[(true, .box 74 Sensor_.rep (q1 36) (⟨x4, x5, x6, (toStr x7), (⟨x8, x9⟩ : Entity_), (bAnd .u8 x10 1) != 0, Conversion_.z, Thresholds_.z, 0, 0, 0, 0, 0, (bAnd .u8 x10 2) != 0, (IntKind.i64.wrap (IntKind.u8.wrap (Int.tdiv x10 4)))⟩ : Sensor_))]] [1, 2, 3, 4, 5, 6, 7, 8, 9] Try_mixed rfl rfl rfl h47 (.cons ?_ (.cons ?_ (.cons ?_ (.cons ?_ (.cons ?_ (.cons ?_ (.cons ?_ (.cons ?_ (.cons ?_ .nil))))))))) (fun q2 w hq2 h => ?_)
      ·intro q2 w Γx Ωx h
       refine OpS.loadB h .z PA.z Get.id ty74 rfl rfl rfl (fun u h55 => ?_)
       exact ⟨u, rfl, trivial, h55⟩
      ·intro q2 w Γx Ωx h
       refine OpS.mv rfl rfl rfl ?_
       exact du h
      ·intro q2 w Γx Ωx h
       refine OpS.mv rfl rfl rfl ?_
       exact du h
      ·intro q2 w Γx Ωx h
       refine OpS.sub h Tryz.underlying24 ty5 rfl rfl rfl rfl rfl (V.at (.s (.s (.s (.s (.s (.s (.s (.s (.s (.s (.s (.s (.s .z)))))))))))))) e16 (fun u h56 => ?_)
       exact ⟨u, rfl, trivial, h56⟩
      ·intro q2 w Γx Ωx h
       have h57 := h.front .nil
       refine OpS.callO h57 Tryz.func117 rfl rfl rfl rfl (vs := [(q2 0), (q2 3)]) rfl (sensor_rest_ok e17) rfl (.cons (f := true) (V.at .z) (.cons (f := true) (V.at (.s .z)) .nil)) ?_
       rintro _ w13 _ _ _ ⟨u14, rfl, rfl, rfl, rfl⟩ h58
       have h59 := h58
       simp only [ca, na] at h59
       exact ⟨_, rfl, trivial, St.eqv rfl h59⟩
      ·intro q2 w Γx Ωx h
       refine OpS.mv rfl rfl rfl ?_
       exact ⟨_, rfl, trivial, ((h.dup (.s .z)).dup (.s .z))⟩
      ·intro q2 w Γx Ωx h
       refine OpS.extT h .z rfl rfl rfl rfl ?_
       exact ⟨_, rfl, trivial, (h.dup (.s .z))⟩
      ·intro q2 w Γx Ωx h
       refine OpS.extT h .z rfl rfl rfl rfl ?_
       exact du h
      ·intro q2 w Γx Ωx h
       have h60 := (h.pick .z).weak
       refine OpS.storeB (f' := false) h60 .z PA.z Put.id ty74 rfl rfl rfl (V.at .z) (.inr rfl) (fun w14 h61 => ?_)
       exact ⟨undef, trivial, trivial, h61⟩
      have h62 := h
      refine ga rfl (nil (Run.seq (Run.block (sr (gm rfl (gb rfl (ga rfl ?_)))))))
      obtain ⟨x12, e18, hF⟩ := letP_use hF
      refine RunL.nameb e18 ?_
      refine nil ?_
      refine Run.ite rfl hF (fun e19 hF => ?_) (fun e19 hF => ?_)
      ·
       refine sr (op (OpS.build (f := true) (x' := Sensor_.z) h62 pl74 ti74 Sensor_.zr rfl rfl rfl .nil (fun u15 h63 => ?_)))
       refine gm rfl (op (OpS.storeB (f' := true) h63 (.s .z) PA.z Put.id ty74 rfl rfl rfl (V.at .z) (.inl rfl) (fun w15 h64 => ?_)))
       refine ga rfl (nil ?_)
       obtain ⟨u16, hu5, h65⟩ := res_box h64 .z ty74
       refine Run.retP rfl (.cell rfl hu5 (.tmp rfl .nil)) ?_
       cases hF
       exact Post.mk' ⟨u16, rfl, rfl, rfl, rfl⟩ (h65.picks .nil) (.val (V.weak (V.at .z)) .nil)
      ·
       refine sr (op (OpS.loadB h62 .z PA.z Get.id ty74 rfl rfl rfl (fun u17 h66 => ?_)))
       obtain ⟨y3, e20, hF⟩ := bindP_use hF
       refine op (OpS.callP h66 Tryz.func107 rfl rfl rfl rfl (vs := [u17]) rfl (sensor_Valid_ok e20) (.cons (f := false) (V.at .z) .nil) ?_)
       rintro _ w16 _ _ _ ⟨rfl, rfl, rfl, rfl⟩ h67
       have h68 := h67 rfl rfl
       simp only [ca, na] at h68
       refine op (OpS.not rfl rfl rfl ?_)
       refine ga rfl ?_
       obtain ⟨x13, e21, hF⟩ := letP_use hF
       refine RunL.nameb e21 ?_
       refine nil ?_
       refine Run.ite rfl hF (fun e22 hF => ?_) (fun e22 hF => ?_)
       ·
        refine sr (op (OpS.build (f := true) (x' := Sensor_.z) h68 pl74 ti74 Sensor_.zr rfl rfl rfl .nil (fun u18 h69 => ?_)))
        refine op (OpS.storeB (f' := true) h69 (.s .z) PA.z Put.id ty74 rfl rfl rfl (V.at .z) (.inl rfl) (fun w17 h70 => ?_))
        refine ga rfl (nil ?_)
        obtain ⟨u19, hu6, h71⟩ := res_box h70 .z ty74
        refine Run.retP rfl (.cell rfl hu6 (.tmp rfl .nil)) ?_
        cases hF
        exact Post.mk' ⟨u19, rfl, rfl, rfl, rfl⟩ (h71.picks .nil) (.val (V.weak (V.at .z)) .nil)
       ·
        refine Run.skip (Run.endBlock (sr (op (OpS.loadB h68 .z PA.z Get.id ty74 rfl rfl rfl (fun u20 h72 => ?_)))))
        have h73 := (h72.pick (.s .z)).weak
        refine op (OpS.storeB (f' := false) h73 .z PA.z Put.id ty74 rfl rfl rfl (V.at .z) (.inr rfl) (fun w18 h74 => ?_))
        refine ga rfl (nil ?_)
        obtain ⟨u21, hu7, h75⟩ := res_box h74 .z ty74
        refine Run.retP rfl (.cell rfl hu7 (.tmp rfl .nil)) ?_
        cases hF
        exact Post.mk' ⟨u21, rfl, rfl, rfl, rfl⟩ (h75.picks .nil) (.val (V.at .z) .nil)
   ·
    refine RunL.caseb hF (fun e23 hF => ?_) (fun e23 hF => ?_)
    ·
     refine gp rfl (gp rfl (gp rfl (gp rfl (gk rfl (nil (Run.slim [(0, u4), (2, u1), (29, .bool true)] ⟨rfl, rfl, rfl, trivial⟩ ?_))))))
     exact hj1 (true) _ _ ⟨rfl, (h11.facts (.atm (.s .z) .nil)).picks (.cons .z .nil)⟩ hF
    ·
     refine gm rfl ?_
     obtain ⟨x14, e24, hF⟩ := bindP_use hF
     refine op (OpS.iptr h11 Tryz.underlying24 ty5 rfl rfl rfl rfl (V.at (.s .z)) e24 (fun u22 h76 => ?_))
     refine op (OpS.loadi h76 ty5 rfl rfl rfl .z ?_)
     refine gb rfl (gk rfl (nil (Run.slim [(0, u4), (2, u1), (29, .bool (decide (x14 ≥ 32)))] ⟨rfl, rfl, rfl, trivial⟩ ?_)))
     exact hj1 (decide (x14 ≥ 32)) _ _ ⟨rfl, (h76.facts (.atm (.s (.s .z)) .nil)).picks (.cons .z .nil)⟩ hF
set_option maxRecDepth 20000 in
theorem made_Dice_near_ok {fuel : Nat} {a0 : made_Dice} {a1 : Sensor_} {y : Int × made_Dice} (hF : made_Dice_near fuel a0 a1 = some y) {w : World} {v0 v1 : Value} :
  Spec Tryz.prog 75 [v0, v1].toArray w [(false, .val Sensor_.rep v1 a1)] [(false, .box 163 made_Dice.rep v0 a0)] (fun v Γr Ωr Ωo => v = .int .u8 y.1 ∧ Γr = [] ∧ Ωr = [] ∧ Ωo = [(false, .box 163 made_Dice.rep v0 y.2)]) := by
 refine Spec.of (L := [(0, v0), (1, v1)]) Tryz.func75 rfl ⟨rfl, rfl, trivial⟩ rfl (fun e h => ?_)
 unfold made_Dice_near at hF
 refine sr (op (OpS.boxF h rfl rfl rfl (V.at .z) (fun u1 w1 h1 => ?_)))
 refine ga rfl (nil (Run.seq (sr (gm rfl ?_))))
 obtain ⟨y1, e1, hF⟩ := bindP_use hF
 have h2 := h1.front (.cons (.s .z) .nil)
 refine op (OpS.callO h2 Tryz.func31 rfl rfl rfl rfl (vs := [v0, .int .i64 3]) rfl (made_Dice_Bool_ok e1) rfl .nil ?_)
 rintro _ w2 _ _ _ ⟨rfl, rfl, rfl, rfl⟩ h3
 have h4 := h3
 simp only [ca, na] at h4
 refine nil ?_
 refine Run.ite rfl hF (fun e2 hF => ?_) (fun e2 hF => ?_)
 ·
  refine sr (gm rfl ?_)
  obtain ⟨y2, e3, hF⟩ := bindP_use hF
  have h5 := h4.front (.cons .z .nil)
  refine op (OpS.callO h5 Tryz.func76 rfl rfl rfl rfl (vs := [v0]) rfl (made_Dice_Byte_ok e3) rfl .nil ?_)
  rintro _ w3 _ _ _ ⟨rfl, rfl, rfl, rfl⟩ h6
  have h7 := h6
  simp only [ca, na] at h7
  refine ga rfl (nil (Run.retP rfl (.tmp rfl .nil) ?_))
  cases hF
  exact Post.mk' ⟨rfl, rfl, rfl, rfl⟩ (h7.picks (.cons .z .nil)) .nil
 ·
  refine Run.skip (Run.seq ?_)
  obtain ⟨y3, e4, hF⟩ := bindP_use hF
  obtain ⟨x1, e5, hF⟩ := bindP_use hF
  obtain ⟨e6, hF⟩ := chk_use hF
  obtain ⟨y4, e7, hF⟩ := bindP_use hF
  refine Run.drawV (Ωs := []) [.k 9 v0, ⟨some 10, some (.int .i64 y3.1), fun _ => [], fun ds_ u_ => [(false, .box 163 made_Dice.rep v0 y3.2)], [0], [], none⟩, .kr 11 (padd u1 14) [1], .kr 12 (padd u1 15) [1], .kr 13 (padd u1 (15 + (y3.1 : Int).toNat * (Rep.int .u8).n)) [1], .kr 14 (.int .u8 x1) [1], .k 15 (.int .i64 (IntKind.i64.wrap x1)), .k 16 v0, ⟨some 17, some (.int .i64 y4.1), fun _ => [], fun ds_ u_ => [(false, .box 163 made_Dice.rep v0 y4.2)], [3], [], none⟩] [[], [0], [], [2], [3, 1], [4], [5], [], [7]] [[(false, .box 163 made_Dice.rep v0 y1.2)], [(false, .box 74 Sensor_.rep u1 a1)]] [1, 2, 4, 5, 6, 7, 8, 9, 10] Try_mixed rfl rfl rfl h4 (.cons ?_ (.cons ?_ (.cons ?_ (.cons ?_ (.cons ?_ (.cons ?_ (.cons ?_ (.cons ?_ (.cons ?_ .nil))))))))) (fun q1 w hq1 h => ?_)
  ·intro q1 w Γx Ωx h
   refine OpS.mv rfl rfl rfl ?_
   exact du h
  ·intro q1 w Γx Ωx h
   have h14 := h.front (.cons .z .nil)
   refine OpS.callO h14 Tryz.func54 rfl rfl rfl rfl (vs := [v0, .int .i64 6]) rfl (made_Dice_Next_ok e4) rfl .nil ?_
   rintro _ w6 _ _ _ ⟨rfl, rfl, rfl, rfl⟩ h15
   have h16 := h15
   simp only [ca, na] at h16
   exact ⟨undef, rfl, trivial, h16⟩
  ·intro q1 w Γx Ωx h
   refine OpS.fbox (o3 := 14) h .z PA.z fa74_7 rfl rfl rfl rfl ?_
   exact du h
  ·intro q1 w Γx Ωx h
   refine OpS.fbox (o3 := 15) h .z PA.a fa72_1 rfl rfl rfl rfl ?_
   exact du h
  ·intro q1 w Γx Ωx h
   refine OpS.ibox h .z PA.a Tryz.underlying70 ty5 (Nat.eq_of_beq_eq_true e6) rfl rfl rfl rfl e5 ?_
   exact du h
  ·intro q1 w Γx Ωx h
   refine OpS.loadBi h .z PA.a (Get.comp (Get.comp (Get.fld Sensor_.f7) (Get.fld Thresholds_.f1)) (Get.arr e5)) ty5 rfl rfl rfl ?_
   exact du h
  ·intro q1 w Γx Ωx h
   refine OpS.conv Tryz.underlying5 Tryz.underlying3 rfl rfl rfl ?_
   exact du h
  ·intro q1 w Γx Ωx h
   refine OpS.mv rfl rfl rfl ?_
   exact du h
  ·intro q1 w Γx Ωx h
   have h17 := h.front (.cons .z .nil)
   refine OpS.callO h17 Tryz.func54 rfl rfl rfl rfl (vs := [v0, .int .i64 9]) rfl (made_Dice_Next_ok e7) rfl .nil ?_
   rintro _ w7 _ _ _ ⟨rfl, rfl, rfl, rfl⟩ h18
   have h19 := h18
   simp only [ca, na] at h19
   exact ⟨undef, rfl, trivial, h19⟩
  have h20 := h
  refine gb rfl (gb rfl (op (OpS.rem rfl rfl rfl rfl (by decide) ?_)))
  refine op (OpS.conv Tryz.underlying3 Tryz.underlying5 rfl rfl rfl ?_)
  refine ga rfl ?_
  obtain ⟨x2, e8, hF⟩ := letP_use hF
  refine RunL.name e8 ?_
  refine nil (Run.retP rfl (.tmp rfl .nil) ?_)
  cases hF
  exact Post.mk' ⟨rfl, rfl, rfl, rfl⟩ (h20.picks (.cons (.s .z) .nil)) .nil
set_option maxHeartbeats 8000000 in set_option maxRecDepth 20000 in
theorem made_Dice_Samples_ok {fuel : Nat} {a0 : made_Dice} {a1 : List Sensor_} {y : (List Sample_) × made_Dice} (hF : made_Dice_Samples fuel a0 a1 = some y) {w : World} {v0 v1 : Value} :
  Spec Tryz.prog 16 [v0, v1].toArray w [(false, .val (Rep.slice Sensor_.rep) v1 a1)] [(false, .box 163 made_Dice.rep v0 a0)] (fun v Γr Ωr Ωo => ∃ u0 : Value, v = u0 ∧ Γr = [] ∧ Ωr = [(true, (.slice 93 Sample_.rep u0 y.1))] ∧ Ωo = [(false, .box 163 made_Dice.rep v0 y.2)]) := by
 refine Spec.of (L := [(0, v0), (1, v1)]) Tryz.func16 rfl ⟨rfl, rfl, trivial⟩ rfl (fun e h => ?_)
 unfold made_Dice_Samples at hF
 refine sr (ga rfl (nil (sr (ga rfl (nil (Run.seq (sr (ga rfl (nil (Run.block ?_))))))))))
 have h1 := St.nil 93 Sample_.rep h
 refine Run.slim [(0, v0), (1, v1), (5, (.slice none 0 0)), (6, .int .i64 0)] ⟨rfl, rfl, rfl, rfl, trivial⟩ ?_
 refine Run.loopP (σ := (Int × made_Dice × (List Sample_))) (fun s_ L_ w_ => ∃ u0_ : Value, L_ = [(0, v0), (1, v1), (5, u0_), (6, .int .i64 s_.1)] ∧ St e w_ [(false, .val (Rep.slice Sensor_.rep) v1 a1)] [(false, .box 163 made_Dice.rep v0 s_.2.1), (true, .slice 93 Sample_.rep u0_ s_.2.2)]) hF ⟨(.slice none 0 0), rfl, (h1.facts (.atm .z .nil)).picks (.cons (.s .z) (.cons .z .nil))⟩ (fun k1 hk1 s1 _ w1 hI hF => ?_)
 obtain ⟨u1, rfl, h2⟩ := hI
 refine Run.seq (sr (gm rfl (gm rfl (op (OpS.len h2 Tryz.underlying27 rfl rfl rfl (V.at .z) ?_)))))
 refine gb rfl (nil ?_)
 refine Run.ite rfl hF (fun e1 hF => ?_) (fun e1 hF => ?_)
 ·
  refine Run.skip (Run.seq (Run.block (sr (gm rfl (gm rfl ?_)))))
  obtain ⟨x1, e2, hF⟩ := bindP_use hF
  refine op (OpS.iptr h2 Tryz.underlying27 ty74 rfl rfl rfl rfl (V.at .z) e2 (fun u2 h3 => ?_))
  refine op (OpS.load h3 ty74 rfl rfl rfl .z (fun u3 h4 => ?_))
  refine op (OpS.alloc h4 ti74 Sensor_.zr rfl rfl (fun u4 w2 h5 => ?_))
  have h6 := (h5.pick .z).weak
  refine op (OpS.storeB (f' := false) h6 .z PA.z Put.id ty74 rfl rfl rfl (V.at .z) (.inr rfl) (fun w3 h7 => ?_))
  refine nil (Run.seq (sr (gm rfl ?_)))
  obtain ⟨y1, e3, hF⟩ := bindP_use hF
  have h8 := h7.front (.cons (.s .z) .nil)
  refine op (OpS.callO h8 Tryz.func31 rfl rfl rfl rfl (vs := [v0, .int .i64 8]) rfl (made_Dice_Bool_ok e3) rfl .nil ?_)
  rintro _ w4 _ _ _ ⟨rfl, rfl, rfl, rfl⟩ h9
  have h10 := h9
  simp only [ca, na] at h10
  refine nil ?_
  refine Run.ite rfl hF (fun e4 hF => ?_) (fun e4 hF => ?_)
  ·
   refine Run.exit rfl ?_
   refine Run.reg (gm rfl (gb rfl (ga rfl ?_)))
   obtain ⟨x2, e5, hF⟩ := letP_use hF
   refine RunL.name e5 ?_
   refine nil (Run.slim [(0, v0), (1, v1), (5, u1), (6, .int .i64 x2)] ⟨rfl, rfl, rfl, rfl, trivial⟩ ?_)
   exact hk1 (x2, y1.2, s1.2.2) _ _ ⟨u1, rfl, (h10.facts (.atm (.s (.s .z)) .nil)).picks (.cons .z (.cons (.s .z) .nil))⟩ hF
  ·
   refine Run.skip (Run.seq ?_)
   obtain ⟨y2, e6, hF⟩ := bindP_use hF
   refine Run.drawV (Ωs := [(true, .slice 93 Sample_.rep u1 s1.2.2)]) [.kr 21 (padd u4 0) [1], .kr 22 (.int .u8 x1.Number) [1], .k 23 v0, ⟨some 24, some (.bool y2.1), fun _ => [], fun ds_ u_ => [(false, .box 163 made_Dice.rep v0 y2.2)], [0], [], none⟩, .k 25 (.bool (!y2.1)), .f 26 (fun u_ => [(true, .val Sample_.rep u_ (⟨x1.Number, !y2.1, 0, 0⟩ : Sample_))]), ⟨some 8, none, fun u_ => [], fun ds_ u_ => [(true, .box 93 Sample_.rep u_ Sample_.z)], [], [], none⟩] [[], [0], [], [2], [3], [1, 4], []] [[(false, .box 163 made_Dice.rep v0 y1.2)], [(false, .box 74 Sensor_.rep u4 x1)]] [1, 2, 3, 4, 5, 6, 7, 8] Try_mixed rfl rfl rfl h10 (.cons ?_ (.cons ?_ (.cons ?_ (.cons ?_ (.cons ?_ (.cons ?_ (.cons ?_ .nil))))))) (fun q1 w hq1 h => ?_)
   ·intro q1 w Γx Ωx h
    refine OpS.fbox (o3 := 0) h .z PA.z fa74_0 rfl rfl rfl rfl ?_
    exact du h
   ·intro q1 w Γx Ωx h
    refine OpS.loadBi h .z PA.a (Get.fld Sensor_.f0) ty5 rfl rfl rfl ?_
    exact du h
   ·intro q1 w Γx Ωx h
    refine OpS.mv rfl rfl rfl ?_
    exact du h
   ·intro q1 w Γx Ωx h
    have h16 := h.front (.cons .z .nil)
    refine OpS.callO h16 Tryz.func31 rfl rfl rfl rfl (vs := [v0, .int .i64 6]) rfl (made_Dice_Bool_ok e6) rfl .nil ?_
    rintro _ w7 _ _ _ ⟨rfl, rfl, rfl, rfl⟩ h17
    have h18 := h17
    simp only [ca, na] at h18
    exact ⟨undef, rfl, trivial, h18⟩
   ·intro q1 w Γx Ωx h
    refine OpS.not rfl rfl rfl ?_
    exact du h
   ·intro q1 w Γx Ωx h
    refine OpS.build (f := true) (x' := (⟨x1.Number, !y2.1, 0, 0⟩ : Sample_)) h pl93 ti93 Sample_.zr rfl rfl rfl (.cons rfl Sample_.f0 rfl V.int (.cons rfl Sample_.f1 rfl V.bool .nil)) (fun u h19 => ?_)
    exact ⟨u, rfl, trivial, h19⟩
   ·intro q1 w Γx Ωx h
    refine OpS.alloc h ti93 Sample_.zr rfl rfl (fun u w8 h20 => ?_)
    exact ⟨u, rfl, trivial, h20⟩
   have h21 := h
   refine op (OpS.storeB (f' := true) h21 (.s (.s .z)) PA.z Put.id ty93 rfl rfl rfl (V.at .z) (.inl rfl) (fun w9 h22 => ?_))
   refine nil (Run.seq (sr (op (OpS.fbox (o3 := 1) h22 .z PA.z fa93_1 rfl rfl rfl rfl ?_))))
   refine op (OpS.loadBb h22 .z PA.a (Get.fld Sample_.f1) ty4 rfl rfl rfl ?_)
   refine gm rfl ?_
   refine RunL.join (σ := Bool) (fun s_ L_ w_ => L_ = [(0, v0), (1, v1), (5, u1), (6, .int .i64 s1.1), (7, u4), (8, (q1 6)), (32, .bool s_)] ∧ St e w_ [(false, .val (Rep.slice Sensor_.rep) v1 a1)] [(false, .box 163 made_Dice.rep v0 y2.2), (false, .box 74 Sensor_.rep u4 x1), (true, .box 93 Sample_.rep (q1 6) (⟨x1.Number, !y2.1, 0, 0⟩ : Sample_)), (true, .slice 93 Sample_.rep u1 s1.2.2)]) hF (fun s2 _ w10 hI hF => ?_) (fun j1 hj1 hF => ?_)
   ·
    obtain ⟨rfl, h23⟩ := hI
    refine Run.join (σ := (made_Dice × Sample_)) (fun s_ L_ w_ => L_ = [(0, v0), (1, v1), (5, u1), (6, .int .i64 s1.1), (7, u4), (8, (q1 6))] ∧ St e w_ [(false, .val (Rep.slice Sensor_.rep) v1 a1)] [(false, .box 163 made_Dice.rep v0 s_.1), (false, .box 74 Sensor_.rep u4 x1), (true, .box 93 Sample_.rep (q1 6) s_.2), (true, .slice 93 Sample_.rep u1 s1.2.2)]) hF (fun s3 _ w11 hI hF => ?_) (fun j2 hj2 hF => ?_)
    ·
     obtain ⟨rfl, h24⟩ := hI
     refine Run.seq (sr (op (OpS.fbox (o3 := 1) h24 (.s (.s .z)) PA.z fa93_1 rfl rfl rfl rfl ?_)))
     refine op (OpS.loadBb h24 (.s (.s .z)) PA.a (Get.fld Sample_.f1) ty4 rfl rfl rfl ?_)
     refine gm rfl ?_
     refine RunL.join (σ := Bool) (fun s_ L_ w_ => L_ = [(0, v0), (1, v1), (5, u1), (6, .int .i64 s1.1), (7, u4), (8, (q1 6)), (46, .bool s_)] ∧ St e w_ [(false, .val (Rep.slice Sensor_.rep) v1 a1)] [(false, .box 163 made_Dice.rep v0 s3.1), (false, .box 74 Sensor_.rep u4 x1), (true, .box 93 Sample_.rep (q1 6) s3.2), (true, .slice 93 Sample_.rep u1 s1.2.2)]) hF (fun s4 _ w12 hI hF => ?_) (fun j3 hj3 hF => ?_)
     ·
      obtain ⟨rfl, h25⟩ := hI
      refine Run.join (σ := (made_Dice × Sample_)) (fun s_ L_ w_ => L_ = [(0, v0), (1, v1), (5, u1), (6, .int .i64 s1.1), (8, (q1 6))] ∧ St e w_ [(false, .val (Rep.slice Sensor_.rep) v1 a1)] [(false, .box 163 made_Dice.rep v0 s_.1), (true, .box 93 Sample_.rep (q1 6) s_.2), (true, .slice 93 Sample_.rep u1 s1.2.2)]) hF (fun s5 _ w13 hI hF => ?_) (fun j4 hj4 hF => ?_)
      ·
       obtain ⟨rfl, h26⟩ := hI
       refine Run.seq (sr (gm rfl ?_))
       obtain ⟨y3, e7, hF⟩ := bindP_use hF
       have h27 := h26.front (.cons .z .nil)
       refine op (OpS.callO h27 Tryz.func31 rfl rfl rfl rfl (vs := [v0, .int .i64 150]) rfl (made_Dice_Bool_ok e7) rfl .nil ?_)
       rintro _ w14 _ _ _ ⟨rfl, rfl, rfl, rfl⟩ h28
       have h29 := h28
       simp only [ca, na] at h29
       refine nil ?_
       refine Run.join (σ := (made_Dice × Sample_)) (fun s_ L_ w_ => L_ = [(0, v0), (1, v1), (5, u1), (6, .int .i64 s1.1), (8, (q1 6))] ∧ St e w_ [(false, .val (Rep.slice Sensor_.rep) v1 a1)] [(false, .box 163 made_Dice.rep v0 s_.1), (true, .box 93 Sample_.rep (q1 6) s_.2), (true, .slice 93 Sample_.rep u1 s1.2.2)]) hF (fun s6 _ w15 hI hF => ?_) (fun j5 hj5 hF => ?_)
       ·
        obtain ⟨rfl, h30⟩ := hI
        refine Run.reg (gm rfl (op (OpS.loadB h30 (.s .z) PA.z Get.id ty93 rfl rfl rfl (fun u5 h31 => ?_))))
        refine op (OpS.lit (r := Sample_.rep) (f := true) h31 Tryz.underlying41 ti93 rfl rfl rfl rfl rfl (.cons rfl (V.at .z) .nil) rfl rfl (fun u6 w16 h32 => ?_))
        obtain ⟨x3, e8, hF⟩ := bindP_use hF
        refine op (OpS.app (f' := true) h32 (.s (.s .z)) Tryz.underlying41 ti93 rfl rfl rfl rfl rfl rfl rfl (V.at .z) (.inr Sample_.pure) e8 (fun u7 w17 h33 => ?_))
        refine ga rfl (nil (Run.endBlock (Run.reg (gm rfl (gb rfl (ga rfl ?_))))))
        obtain ⟨x4, e9, hF⟩ := letP_use hF
        refine RunL.name e9 ?_
        refine nil (Run.slim [(0, v0), (1, v1), (5, u7), (6, .int .i64 x4)] ⟨rfl, rfl, rfl, rfl, trivial⟩ ?_)
        exact hk1 (x4, s6.1, x3) _ _ ⟨u7, rfl, (h33.facts (.atm (.s (.s .z)) .nil)).picks (.cons (.s .z) (.cons .z .nil))⟩ hF
       ·
        refine Run.ite rfl hF (fun e10 hF => ?_) (fun e10 hF => ?_)
        ·
         refine sr (gm rfl ?_)
         obtain ⟨y4, e11, hF⟩ := bindP_use hF
         have h34 := h29.front (.cons .z .nil)
         refine op (OpS.callO h34 Tryz.func76 rfl rfl rfl rfl (vs := [v0]) rfl (made_Dice_Byte_ok e11) rfl .nil ?_)
         rintro _ w18 _ _ _ ⟨rfl, rfl, rfl, rfl⟩ h35
         have h36 := h35
         simp only [ca, na] at h36
         refine op (OpS.fbox (o3 := 2) h36 (.s .z) PA.z fa93_2 rfl rfl rfl rfl ?_)
         obtain ⟨d1, e12, hF⟩ := letP_use hF
         refine op (OpS.storeB (f' := true) h36 (.s .z) PA.a (Put.of (Put.fld Sample_.f2) e12) ty5 rfl rfl rfl V.int (.inl rfl) (fun w19 h37 => ?_))
         refine nil (sr (gm rfl ?_))
         obtain ⟨y5, e13, hF⟩ := bindP_use hF
         have h38 := h37.front (.cons (.s .z) .nil)
         refine op (OpS.callO h38 Tryz.func54 rfl rfl rfl rfl (vs := [v0, .int .i64 65536]) rfl (made_Dice_Next_ok e13) rfl .nil ?_)
         rintro _ w20 _ _ _ ⟨rfl, rfl, rfl, rfl⟩ h39
         have h40 := h39
         simp only [ca, na] at h40
         refine op (OpS.conv Tryz.underlying3 Tryz.underlying49 rfl rfl rfl ?_)
         refine op (OpS.fbox (o3 := 3) h40 (.s .z) PA.z fa93_3 rfl rfl rfl rfl ?_)
         obtain ⟨d2, e14, hF⟩ := letP_use hF
         refine op (OpS.storeB (f' := true) h40 (.s .z) PA.a (Put.of (Put.fld Sample_.f3) e14) ty49 rfl rfl rfl V.int (.inl rfl) (fun w21 h41 => ?_))
         refine nil (Run.reg (gm rfl ?_))
         obtain ⟨y6, e15, hF⟩ := bindP_use hF
         have h42 := h41.front (.cons (.s .z) .nil)
         refine op (OpS.callO h42 Tryz.func76 rfl rfl rfl rfl (vs := [v0]) rfl (made_Dice_Byte_ok e15) rfl .nil ?_)
         rintro _ w22 _ _ _ ⟨rfl, rfl, rfl, rfl⟩ h43
         have h44 := h43
         simp only [ca, na] at h44
         refine op (OpS.fbox (o3 := 0) h44 (.s .z) PA.z fa93_0 rfl rfl rfl rfl ?_)
         obtain ⟨d3, e16, hF⟩ := letP_use hF
         refine op (OpS.storeB (f' := true) h44 (.s .z) PA.a (Put.of (Put.fld Sample_.f0) e16) ty5 rfl rfl rfl V.int (.inl rfl) (fun w23 h45 => ?_))
         refine nil (Run.slim [(0, v0), (1, v1), (5, u1), (6, .int .i64 s1.1), (8, (q1 6))] ⟨rfl, rfl, rfl, rfl, rfl, trivial⟩ ?_)
         exact hj5 (y6.2, d3) _ _ ⟨rfl, (h45.facts (.atm .z .nil)).picks (.cons (.s .z) (.cons .z (.cons .z .nil)))⟩ hF
        ·
         refine Run.skip (Run.slim [(0, v0), (1, v1), (5, u1), (6, .int .i64 s1.1), (8, (q1 6))] ⟨rfl, rfl, rfl, rfl, rfl, trivial⟩ ?_)
         exact hj5 (y3.2, s5.2) _ _ ⟨rfl, (h29.facts (.atm .z .nil)).picks (.cons .z (.cons .z (.cons .z .nil)))⟩ hF
      ·
       refine Run.ite rfl hF (fun e17 hF => ?_) (fun e17 hF => ?_)
       ·
        refine Run.reg (gm rfl (op (OpS.loadB h25 (.s .z) PA.z Get.id ty74 rfl rfl rfl (fun u8 h46 => ?_))))
        obtain ⟨y7, e18, hF⟩ := bindP_use hF
        have h47 := h46.front (.cons .z .nil)
        refine op (OpS.callO h47 Tryz.func75 rfl rfl rfl rfl (vs := [v0, u8]) rfl (made_Dice_near_ok e18) rfl (.cons (f := false) (V.at .z) .nil) ?_)
        rintro _ w24 _ _ _ ⟨rfl, rfl, rfl, rfl⟩ h48
        have h49 := h48
        simp only [ca, na] at h49
        refine op (OpS.fbox (o3 := 2) h49 (.s (.s .z)) PA.z fa93_2 rfl rfl rfl rfl ?_)
        obtain ⟨d4, e19, hF⟩ := letP_use hF
        refine op (OpS.storeB (f' := true) h49 (.s (.s .z)) PA.a (Put.of (Put.fld Sample_.f2) e19) ty5 rfl rfl rfl V.int (.inl rfl) (fun w25 h50 => ?_))
        refine nil (Run.slim [(0, v0), (1, v1), (5, u1), (6, .int .i64 s1.1), (8, (q1 6))] ⟨rfl, rfl, rfl, rfl, rfl, trivial⟩ ?_)
        exact hj4 (y7.2, d4) _ _ ⟨rfl, (h50.facts (.atm (.s .z) .nil)).picks (.cons (.s .z) (.cons .z (.cons (.s .z) .nil)))⟩ hF
       ·
        refine Run.skip (Run.slim [(0, v0), (1, v1), (5, u1), (6, .int .i64 s1.1), (8, (q1 6))] ⟨rfl, rfl, rfl, rfl, rfl, trivial⟩ ?_)
        exact hj4 (s3.1, s3.2) _ _ ⟨rfl, (h25.facts (.atm .z .nil)).picks (.cons .z (.cons (.s .z) (.cons (.s .z) .nil)))⟩ hF
     ·
      refine RunL.caseb hF (fun e20 hF => ?_) (fun e20 hF => ?_)
      ·
       refine op (OpS.fbox (o3 := 6) h24 (.s .z) PA.z fa74_5 rfl rfl rfl rfl ?_)
       refine op (OpS.loadBb h24 (.s .z) PA.a (Get.fld Sensor_.f5) ty4 rfl rfl rfl ?_)
       refine op (OpS.not rfl rfl rfl ?_)
       refine gk rfl (nil (Run.slim [(0, v0), (1, v1), (5, u1), (6, .int .i64 s1.1), (7, u4), (8, (q1 6)), (46, .bool (!x1.Discrete))] ⟨rfl, rfl, rfl, rfl, rfl, rfl, rfl, trivial⟩ ?_))
       exact hj3 (!x1.Discrete) _ _ ⟨rfl, (h24.facts (.atm .z .nil)).picks (.cons .z (.cons .z (.cons .z (.cons .z .nil))))⟩ hF
      ·
       refine gp rfl (gp rfl (gp rfl (gk rfl (nil (Run.slim [(0, v0), (1, v1), (5, u1), (6, .int .i64 s1.1), (7, u4), (8, (q1 6)), (46, .bool false)] ⟨rfl, rfl, rfl, rfl, rfl, rfl, rfl, trivial⟩ ?_)))))
       exact hj3 (false) _ _ ⟨rfl, (h24.facts (.atm .z .nil)).picks (.cons .z (.cons .z (.cons .z (.cons .z .nil))))⟩ hF
    ·
     refine Run.ite rfl hF (fun e21 hF => ?_) (fun e21 hF => ?_)
     ·
      obtain ⟨y8, e22, hF⟩ := bindP_use hF
      refine Run.drawV (Ωs := [(true, .box 93 Sample_.rep (q1 6) (⟨x1.Number, !y2.1, 0, 0⟩ : Sample_)), (true, .slice 93 Sample_.rep u1 s1.2.2)]) [.k 33 v0, ⟨some 34, some (.int .i64 y8.1), fun _ => [], fun ds_ u_ => [(false, .box 163 made_Dice.rep v0 y8.2)], [0], [], none⟩, .k 35 (.int .u16 (IntKind.u16.wrap y8.1)), .kr 36 (padd u4 23) [1], .kr 37 (.int .u16 x1.States) [1]] [[], [0], [1], [], [3]] [[(false, .box 163 made_Dice.rep v0 y2.2)], [(false, .box 74 Sensor_.rep u4 x1)]] [1, 2, 3, 4, 5, 6] Try_mixed rfl rfl rfl h23 (.cons ?_ (.cons ?_ (.cons ?_ (.cons ?_ (.cons ?_ .nil))))) (fun q2 w hq2 h => ?_)
      ·intro q2 w Γx Ωx h
       refine OpS.mv rfl rfl rfl ?_
       exact du h
      ·intro q2 w Γx Ωx h
       have h54 := h.front (.cons .z .nil)
       refine OpS.callO h54 Tryz.func54 rfl rfl rfl rfl (vs := [v0, .int .i64 32768]) rfl (made_Dice_Next_ok e22) rfl .nil ?_
       rintro _ w27 _ _ _ ⟨rfl, rfl, rfl, rfl⟩ h55
       have h56 := h55
       simp only [ca, na] at h56
       exact ⟨undef, rfl, trivial, h56⟩
      ·intro q2 w Γx Ωx h
       refine OpS.conv Tryz.underlying3 Tryz.underlying49 rfl rfl rfl ?_
       exact du h
      ·intro q2 w Γx Ωx h
       refine OpS.fbox (o3 := 23) h .z PA.z fa74_10 rfl rfl rfl rfl ?_
       exact du h
      ·intro q2 w Γx Ωx h
       refine OpS.loadBi h .z PA.a (Get.fld Sensor_.f10) ty49 rfl rfl rfl ?_
       exact du h
      have h57 := h
      refine gb rfl (op (OpS.fbox (o3 := 3) h57 (.s (.s .z)) PA.z fa93_3 rfl rfl rfl rfl ?_))
      refine op (OpS.storeB (f' := true) h57 (.s (.s .z)) PA.a (Put.fld Sample_.f3) ty49 rfl rfl rfl V.int (.inl rfl) (fun w28 h58 => ?_))
      refine nil (Run.slim [(0, v0), (1, v1), (5, u1), (6, .int .i64 s1.1), (7, u4), (8, (q1 6))] ⟨rfl, rfl, rfl, rfl, rfl, rfl, trivial⟩ ?_)
      exact hj2 (y8.2, (⟨x1.Number, !y2.1, 0, (bAnd .u16 (IntKind.u16.wrap y8.1) x1.States)⟩ : Sample_)) _ _ ⟨rfl, (h58.facts (.atm .z .nil)).picks (.cons (.s (.s .z)) (.cons (.s .z) (.cons .z (.cons .z .nil))))⟩ hF
     ·
      refine Run.skip (Run.slim [(0, v0), (1, v1), (5, u1), (6, .int .i64 s1.1), (7, u4), (8, (q1 6))] ⟨rfl, rfl, rfl, rfl, rfl, rfl, trivial⟩ ?_)
      exact hj2 (y2.2, (⟨x1.Number, !y2.1, 0, 0⟩ : Sample_)) _ _ ⟨rfl, (h23.facts (.atm .z .nil)).picks (.cons .z (.cons .z (.cons .z (.cons .z .nil))))⟩ hF
   ·
    refine RunL.caseb hF (fun e23 hF => ?_) (fun e23 hF => ?_)
    ·
     refine op (OpS.fbox (o3 := 6) h22 (.s .z) PA.z fa74_5 rfl rfl rfl rfl ?_)
     refine op (OpS.loadBb h22 (.s .z) PA.a (Get.fld Sensor_.f5) ty4 rfl rfl rfl ?_)
     refine gk rfl (nil (Run.slim [(0, v0), (1, v1), (5, u1), (6, .int .i64 s1.1), (7, u4), (8, (q1 6)), (32, .bool x1.Discrete)] ⟨rfl, rfl, rfl, rfl, rfl, rfl, rfl, trivial⟩ ?_))
     exact hj1 (x1.Discrete) _ _ ⟨rfl, (h22.facts (.atm (.s (.s (.s .z))) .nil)).picks (.cons (.s (.s .z)) (.cons (.s .z) (.cons .z (.cons .z .nil))))⟩ hF
    ·
     refine gp rfl (gp rfl (gk rfl (nil (Run.slim [(0, v0), (1, v1), (5, u1), (6, .int .i64 s1.1), (7, u4), (8, (q1 6)), (32, .bool false)] ⟨rfl, rfl, rfl, rfl, rfl, rfl, rfl, trivial⟩ ?_))))
     exact hj1 (false) _ _ ⟨rfl, (h22.facts (.atm (.s (.s (.s .z))) .nil)).picks (.cons (.s (.s .z)) (.cons (.s .z) (.cons .z (.cons .z .nil))))⟩ hF
 ·
  refine Run.exit rfl ?_
  refine sr (gm rfl (ga rfl (nil (Run.retP rfl (.tmp rfl .nil) ?_))))
  cases hF
  exact Post.mk' ⟨u1, rfl, rfl, rfl, rfl⟩ (h2.picks (.cons (.s .z) (.cons .z .nil))) .nil
theorem made_Dice_Entities_ok {fuel : Nat} {a0 : made_Dice} {a1 : Int} {y : (List Entity_) × made_Dice} (hF : made_Dice_Entities fuel a0 a1 = some y) {w : World} {v0 : Value} :
  Spec Tryz.prog 17 [v0, .int .i64 a1].toArray w [] [(false, .box 163 made_Dice.rep v0 a0)] (fun v Γr Ωr Ωo => ∃ u0 : Value, v = u0 ∧ Γr = [] ∧ Ωr = [(true, (.slice 66 Entity_.rep u0 y.1))] ∧ Ωo = [(false, .box 163 made_Dice.rep v0 y.2)]) := by
 refine Spec.of (L := [(0, v0), (1, .int .i64 a1)]) Tryz.func17 rfl ⟨rfl, rfl, trivial⟩ rfl (fun e h => ?_)
 unfold made_Dice_Entities at hF
 refine sr (ga rfl (nil (sr (ga rfl (nil (Run.seq (sr (gm rfl (gm rfl (gb rfl ?_))))))))))
 obtain ⟨y1, e1, hF⟩ := bindP_use hF
 have h1 := h.front (.cons .z .nil)
 refine op (OpS.callO h1 Tryz.func54 rfl rfl rfl rfl (vs := [v0, .int .i64 (IntKind.i64.wrap (a1 + 1))]) rfl (made_Dice_Next_ok e1) rfl .nil ?_)
 rintro _ w1 _ _ _ ⟨rfl, rfl, rfl, rfl⟩ h2
 have h3 := h2
 simp only [ca, na] at h3
 refine ga rfl (nil (Run.block ?_))
 have h4 := St.nil 66 Entity_.rep h3
 refine Run.slim [(0, v0), (5, (.slice none 0 0)), (6, .int .i64 y1.1)] ⟨rfl, rfl, rfl, trivial⟩ ?_
 refine Run.loopP (σ := (Int × made_Dice × (List Entity_))) (fun s_ L_ w_ => ∃ u0_ : Value, L_ = [(0, v0), (5, u0_), (6, .int .i64 s_.1)] ∧ St e w_ [] [(false, .box 163 made_Dice.rep v0 s_.2.1), (true, .slice 66 Entity_.rep u0_ s_.2.2)]) hF ⟨(.slice none 0 0), rfl, (h4.facts .nil).picks (.cons (.s .z) (.cons .z .nil))⟩ (fun k1 hk1 s1 _ w2 hI hF => ?_)
 obtain ⟨u1, rfl, h5⟩ := hI
 refine Run.seq (sr (gm rfl (gb rfl (nil ?_))))
 refine Run.ite rfl hF (fun e2 hF => ?_) (fun e2 hF => ?_)
 ·
  refine Run.skip (Run.seq (Run.block (Run.reg (gm rfl (gm rfl ?_)))))
  obtain ⟨y2, e3, hF⟩ := bindP_use hF
  have h6 := h5.front (.cons .z .nil)
  refine op (OpS.callO h6 Tryz.func32 rfl rfl rfl rfl (vs := [v0]) rfl (made_Dice_Entity_ok e3) rfl .nil ?_)
  rintro u2 w3 _ _ _ ⟨_, rfl, rfl, rfl, rfl⟩ h7
  have h8 := h7
  simp only [ca, na] at h8
  refine op (OpS.lit (r := Entity_.rep) (f := true) h8 Tryz.underlying43 ti66 rfl rfl rfl rfl rfl (.cons rfl (V.at .z) .nil) rfl rfl (fun u3 w4 h9 => ?_))
  obtain ⟨x1, e4, hF⟩ := bindP_use hF
  refine op (OpS.app (f' := true) h9 (.s .z) Tryz.underlying43 ti66 rfl rfl rfl rfl rfl rfl rfl (V.at .z) (.inr Entity_.pure) e4 (fun u4 w5 h10 => ?_))
  refine ga rfl (nil (Run.endBlock (Run.reg (gm rfl (gb rfl (ga rfl ?_))))))
  obtain ⟨x2, e5, hF⟩ := letP_use hF
  refine RunL.name e5 ?_
  refine nil (Run.slim [(0, v0), (5, u4), (6, .int .i64 x2)] ⟨rfl, rfl, rfl, trivial⟩ ?_)
  exact hk1 (x2, y2.2, x1) _ _ ⟨u4, rfl, (h10.facts .nil).picks (.cons (.s .z) (.cons .z .nil))⟩ hF
 ·
  refine Run.exit rfl ?_
  refine sr (gm rfl (ga rfl (nil (Run.retP rfl (.tmp rfl .nil) ?_))))
  cases hF
  exact Post.mk' ⟨u1, rfl, rfl, rfl, rfl⟩ (h5.picks (.cons (.s .z) (.cons .z .nil))) .nil
set_option maxRecDepth 20000 in
theorem ref07_SameList_ok {fuel : Nat} {a0 : List Event_} {a1 : List Event_} {y : Bool} (hF : ref07_SameList fuel a0 a1 = some y) {w : World} {v0 v1 : Value} :
  Spec Tryz.prog 22 [v0, v1].toArray w [(false, .val (Rep.slice Event_.rep) v0 a0), (false, .val (Rep.slice Event_.rep) v1 a1)] [] (fun v Γr Ωr Ωo => v = .bool y ∧ Γr = [] ∧ Ωr = [] ∧ Ωo = []) := by
 refine Spec.of (L := [(0, v0), (1, v1)]) Tryz.func22 rfl ⟨rfl, rfl, trivial⟩ rfl (fun e h => ?_)
 unfold ref07_SameList at hF
 refine sr (ga rfl (nil (Run.seq (sr (gm rfl (op (OpS.len h Tryz.underlying40 rfl rfl rfl (V.at .z) ?_)))))))
 refine gm rfl (op (OpS.len h Tryz.underlying40 rfl rfl rfl (V.at (.s .z)) ?_))
 refine gb rfl (nil ?_)
 refine Run.ite rfl hF (fun e1 hF => ?_) (fun e1 hF => ?_)
 ·
  refine sr (ga rfl (nil (Run.retP rfl (.tmp rfl .nil) ?_)))
  cases hF
  exact Post.mk' ⟨rfl, rfl, rfl, rfl⟩ (h.picks .nil) .nil
 ·
  refine Run.skip (Run.seq (sr (ga rfl (nil (Run.block (Run.slim [(0, v0), (1, v1), (5, .int .i64 0)] ⟨rfl, rfl, rfl, trivial⟩ ?_))))))
  refine Run.loopP (σ := Int) (fun s_ L_ w_ => L_ = [(0, v0), (1, v1), (5, .int .i64 s_)] ∧ St e w_ [(false, .val (Rep.slice Event_.rep) v0 a0), (false, .val (Rep.slice Event_.rep) v1 a1)] []) hF ⟨rfl, (h.facts (.atm .z (.atm (.s .z) .nil))).picks .nil⟩ (fun k1 hk1 s1 _ w1 hI hF => ?_)
  obtain ⟨rfl, h1⟩ := hI
  refine Run.seq (sr (gm rfl (gm rfl (op (OpS.len h1 Tryz.underlying40 rfl rfl rfl (V.at .z) ?_)))))
  refine gb rfl (nil ?_)
  refine Run.ite rfl hF (fun e2 hF => ?_) (fun e2 hF => ?_)
  ·
   refine Run.skip (Run.seq (Run.block (Run.seq ?_)))
   obtain ⟨x1, e3, hF⟩ := bindP_use hF
   obtain ⟨x2, e4, hF⟩ := bindP_use hF
   refine Run.drawV (Ωs := []) [.k 17 v0, .k 18 (.int .i64 s1), .f 19 (fun u_ => [(false, .ptr Event_.rep u_ x1)]), .f 20 (fun u_ => [(false, .val Event_.rep u_ x1)]), .k 21 v1, .k 22 (.int .i64 s1), .f 23 (fun u_ => [(false, .ptr Event_.rep u_ x2)]), .f 24 (fun u_ => [(false, .val Event_.rep u_ x2)])] [[], [], [0, 1], [2], [], [], [4, 5], [6]] [] [0, 1, 2, 3, 4, 5, 6, 7] Try_mixed rfl rfl rfl h1 (.cons ?_ (.cons ?_ (.cons ?_ (.cons ?_ (.cons ?_ (.cons ?_ (.cons ?_ (.cons ?_ .nil)))))))) (fun q1 w hq1 h => ?_)
   ·intro q1 w Γx Ωx h
    refine OpS.mv rfl rfl rfl ?_
    exact du h
   ·intro q1 w Γx Ωx h
    refine OpS.mv rfl rfl rfl ?_
    exact du h
   ·intro q1 w Γx Ωx h
    refine OpS.iptr h Tryz.underlying40 ty55 rfl rfl rfl rfl (V.at .z) e3 (fun u h6 => ?_)
    exact ⟨u, rfl, trivial, h6⟩
   ·intro q1 w Γx Ωx h
    refine OpS.load h ty55 rfl rfl rfl .z (fun u h7 => ?_)
    exact ⟨u, rfl, trivial, h7⟩
   ·intro q1 w Γx Ωx h
    refine OpS.mv rfl rfl rfl ?_
    exact du h
   ·intro q1 w Γx Ωx h
    refine OpS.mv rfl rfl rfl ?_
    exact du h
   ·intro q1 w Γx Ωx h
    refine OpS.iptr h Tryz.underlying40 ty55 rfl rfl rfl rfl (V.at (.s .z)) e4 (fun u h8 => ?_)
    exact ⟨u, rfl, trivial, h8⟩
   ·intro q1 w Γx Ωx h
    refine OpS.load h ty55 rfl rfl rfl .z (fun u h9 => ?_)
    exact ⟨u, rfl, trivial, h9⟩
   have h10 := h
   refine op (OpS.neA h10 eqt55 rfl gdf55 rfl rfl rfl rfl rfl (V.at (.s .z)) (V.at (.s (.s (.s .z)))) ?_)
   refine nil ?_
   refine Run.ite rfl hF (fun e5 hF => ?_) (fun e5 hF => ?_)
   ·
    refine sr (ga rfl (nil (Run.retP rfl (.tmp rfl .nil) ?_)))
    cases hF
    exact Post.mk' ⟨rfl, rfl, rfl, rfl⟩ (h10.picks .nil) .nil
   ·
    refine Run.skip (Run.endBlock (Run.reg (gm rfl (gb rfl (ga rfl ?_)))))
    obtain ⟨x3, e6, hF⟩ := letP_use hF
    refine RunL.name e6 ?_
    refine nil (Run.slim [(0, v0), (1, v1), (5, .int .i64 x3)] ⟨rfl, rfl, rfl, trivial⟩ ?_)
    exact hk1 (x3) _ _ ⟨rfl, (h10.facts (.atm (.s (.s (.s (.s .z)))) (.atm (.s (.s (.s (.s (.s .z))))) .nil))).picks .nil⟩ hF
  ·
   refine Run.exit rfl ?_
   refine sr (ga rfl (nil (Run.retP rfl (.tmp rfl .nil) ?_)))
   cases hF
   exact Post.mk' ⟨rfl, rfl, rfl, rfl⟩ (h1.picks .nil) .nil
set_option maxHeartbeats 8000000 in set_option maxRecDepth 20000 in
theorem top_TopProvisioned_ok {fuel : Nat} {a0 : List Int} {a1 : List (List Int)} {a2 : Int} {y : Bool} (hF : top_TopProvisioned fuel a0 a1 a2 = some y) {w : World} {v0 v1 : Value} :
  Spec Tryz.prog 6 [v0, v1, .int .i64 a2].toArray w [(false, .val (Rep.slice (Rep.int .i64)) v0 a0), (false, .val (Rep.slice (Rep.slice (Rep.int .i64))) v1 a1), Gqs] [] (fun v Γr Ωr Ωo => v = .bool y ∧ Γr = [] ∧ Ωr = [] ∧ Ωo = []) := by
 refine Spec.of (L := [(0, v0), (1, v1), (2, .int .i64 a2)]) Tryz.func6 rfl ⟨rfl, rfl, rfl, trivial⟩ rfl (fun e h => ?_)
 unfold top_TopProvisioned at hF
 refine sr (ga rfl (nil (Run.seq (sr ?_))))
 obtain ⟨y1, e1, hF⟩ := bindP_use hF
 refine op (OpS.callP h Tryz.func9 rfl rfl rfl rfl (vs := []) rfl (top_first_ok e1) (.ptr (.s (.s .z)) .nil) ?_)
 rintro _ w1 _ _ _ ⟨rfl, rfl, rfl, rfl⟩ h1
 have h2 := h1 rfl rfl
 simp only [ca, na] at h2
 refine op (OpS.not rfl rfl rfl ?_)
 refine nil ?_
 refine Run.ite rfl hF (fun e2 hF => ?_) (fun e2 hF => ?_)
 ·
  refine sr (ga rfl (nil (Run.retP rfl (.tmp rfl .nil) ?_)))
  cases hF
  exact Post.mk' ⟨rfl, rfl, rfl, rfl⟩ (h2.picks .nil) .nil
 ·
  refine Run.skip (Run.seq (sr (gm rfl ?_)))
  obtain ⟨y2, e3, hF⟩ := bindP_use hF
  refine op (OpS.callP h2 Tryz.func10 rfl rfl rfl rfl (vs := [v0]) rfl (made_Light_ok e3) (.cons (f := false) (V.at .z) .nil) ?_)
  rintro _ w2 _ _ _ ⟨rfl, rfl, rfl, rfl⟩ h3
  have h4 := h3 rfl rfl
  simp only [ca, na] at h4
  refine op (OpS.not rfl rfl rfl ?_)
  refine gm rfl ?_
  refine RunL.join (σ := Bool) (fun s_ L_ w_ => L_ = [(0, v0), (1, v1), (2, .int .i64 a2), (52, .bool s_)] ∧ St e w_ [(false, .val (Rep.slice (Rep.int .i64)) v0 a0), (false, .val (Rep.slice (Rep.slice (Rep.int .i64))) v1 a1), Gqs] []) hF (fun s1 _ w3 hI hF => ?_) (fun j1 hj1 hF => ?_)
  ·
   obtain ⟨rfl, h5⟩ := hI
   refine Run.ite rfl hF (fun e4 hF => ?_) (fun e4 hF => ?_)
   ·
    refine sr (ga rfl (nil (Run.retP rfl (.tmp rfl .nil) ?_)))
    cases hF
    exact Post.mk' ⟨rfl, rfl, rfl, rfl⟩ (h5.picks .nil) .nil
   ·
    refine Run.skip (sr (gm rfl ?_))
    obtain ⟨y3, e5, hF⟩ := bindP_use hF
    have h6 := h5.front .nil
    refine op (OpS.callO h6 Tryz.func12 rfl rfl rfl rfl (vs := [v0]) rfl (made_Roll_ok e5) rfl (.cons (f := false) (V.at .z) .nil) ?_)
    rintro u1 w4 _ _ _ ⟨_, rfl, rfl, rfl, rfl⟩ h7
    have h8 := h7
    simp only [ca, na] at h8
    obtain ⟨y4, e6, hF⟩ := bindP_use hF
    have h9 := h8.front (.cons .z .nil)
    refine op (OpS.callO h9 Tryz.func40 rfl rfl rfl rfl (vs := [u1, .int .i64 5]) rfl (made_Dice_Sensors_ok e6) rfl .nil ?_)
    rintro u2 w5 _ _ _ ⟨_, rfl, rfl, rfl, rfl⟩ h10
    have h11 := h10
    simp only [ca, na] at h11
    refine ga rfl ?_
    have h12 := (h11.pick .z).freeze
    refine nil (sr ?_)
    obtain ⟨y5, e7, hF⟩ := bindP_use hF
    refine op (OpS.callP h12 Tryz.func41 rfl rfl rfl rfl (vs := [.int .i64 800]) rfl (repository_New_ok e7) .nil ?_)
    rintro _ w6 _ _ _ ⟨u3, rfl, rfl, rfl, rfl⟩ h13
    have h14 := h13 rfl rfl
    simp only [ca, na] at h14
    refine gm rfl (op (OpS.ext rfl rfl rfl rfl ?_))
    refine op (OpS.ext rfl rfl rfl rfl ?_)
    refine ga rfl (ga rfl (nil (Run.seq (sr (gm rfl (op (OpS.onilE2 h14 .z (fun _ => PtrOf.ex fun _ => PtrOf.sep PtrOf.box) Tryz.underlying100 rfl rfl rfl rfl ?_)))))))
    refine gm rfl ?_
    refine RunL.join (σ := Bool) (fun s_ L_ w_ => L_ = [(1, v1), (2, .int .i64 a2), (7, u2), (8, u3), (65, .bool s_)] ∧ St e w_ [(false, .val (Rep.slice (Rep.slice (Rep.int .i64))) v1 a1), (true, .val (Rep.slice Sensor_.rep) u2 y4.1), Gqs] [(true, .opt (repository_Repository.mem u3) u3 y5.1)]) hF (fun s2 _ w7 hI hF => ?_) (fun j2 hj2 hF => ?_)
    ·
     obtain ⟨rfl, h15⟩ := hI
     refine Run.ite rfl hF (fun e8 hF => ?_) (fun e8 hF => ?_)
     ·
      refine sr (ga rfl (nil (Run.retP rfl (.tmp rfl .nil) ?_)))
      cases hF
      exact Post.mk' ⟨rfl, rfl, rfl, rfl⟩ (h15.picks .nil) .nil
     ·
      refine Run.skip (Run.seq (sr (ga rfl (nil (Run.block ?_)))))
      have h16 := (h15.pick .z).weak
      refine Run.slim [(1, v1), (2, .int .i64 a2), (7, u2), (8, u3), (10, .int .i64 0)] ⟨rfl, rfl, rfl, rfl, rfl, trivial⟩ ?_
      refine Run.loopP (σ := (Int × (Option repository_Repository))) (fun s_ L_ w_ => ∃ u0_ : Value, L_ = [(1, v1), (2, .int .i64 a2), (7, u2), (8, u0_), (10, .int .i64 s_.1)] ∧ St e w_ [(false, .val (Rep.slice (Rep.slice (Rep.int .i64))) v1 a1), (true, .val (Rep.slice Sensor_.rep) u2 y4.1), Gqs] [(false, .opt (repository_Repository.mem u0_) u0_ s_.2)]) hF ⟨u3, rfl, (h16.facts (.atm .z (.atm (.s .z) (.atm (.s (.s .z)) .nil)))).picks (.cons .z .nil)⟩ (fun k1 hk1 s3 _ w8 hI hF => ?_)
      obtain ⟨u4, rfl, h17⟩ := hI
      refine Run.seq (sr (gm rfl (gm rfl (op (OpS.len h17 Tryz.underlying27 rfl rfl rfl (V.at (.s .z)) ?_)))))
      refine gb rfl (nil ?_)
      refine Run.ite rfl hF (fun e9 hF => ?_) (fun e9 hF => ?_)
      ·
       refine Run.skip (Run.seq (Run.block (sr (gm rfl (gm rfl ?_)))))
       obtain ⟨x1, e10, hF⟩ := bindP_use hF
       refine op (OpS.iptr h17 Tryz.underlying27 ty74 rfl rfl rfl rfl (V.at (.s .z)) e10 (fun u5 h18 => ?_))
       refine op (OpS.load h18 ty74 rfl rfl rfl .z (fun u6 h19 => ?_))
       obtain ⟨y6, e11, hF⟩ := bindP_use hF
       refine op (OpS.callP h19 Tryz.func42 rfl rfl rfl rfl (vs := [u6]) rfl (sensor_Encode_ok e11) (.cons (f := true) (V.at .z) .nil) ?_)
       rintro _ w9 _ _ _ ⟨u7, rfl, rfl, rfl, rfl⟩ h20
       have h21 := h20 rfl rfl
       simp only [ca, na] at h21
       refine gm rfl (op (OpS.ext rfl rfl rfl rfl ?_))
       refine op (OpS.ext rfl rfl rfl rfl ?_)
       refine ga rfl ?_
       have h22 := (h21.pick .z).freeze
       refine ga rfl (nil (Run.seq (sr (gm rfl (gb rfl (nil ?_))))))
       refine Run.ite rfl hF (fun e12 hF => ?_) (fun e12 hF => ?_)
       ·
        refine sr (ga rfl (nil (Run.retP rfl (.tmp rfl .nil) ?_)))
        cases hF
        exact Post.mk' ⟨rfl, rfl, rfl, rfl⟩ (h22.picks .nil) .nil
       ·
        refine Run.skip (sr (gm rfl (gm rfl ?_)))
        obtain ⟨x2, e13, hF⟩ := bindP_use hF
        have h23 := St.unopt (h22.pick .z) e13
        obtain ⟨u8, h24⟩ := h23.unex
        have h25 := h24.unsep
        obtain ⟨y7, e14, hF⟩ := bindP_use hF
        have h26 := h25.front (.cons .z (.cons .z .nil))
        refine op (OpS.callO h26 Tryz.func43 rfl rfl rfl rfl (vs := [u4, u7]) rfl (repository_Repository_Add_ok e14) rfl (.cons (f := true) (V.at .z) .nil) ?_)
        rintro _ w10 _ _ _ ⟨u9, rfl, rfl, rfl, rfl⟩ h27
        have h28 := h27
        simp only [ca, na] at h28
        refine gm rfl (op (OpS.ext rfl rfl rfl rfl ?_))
        refine op (OpS.ext rfl rfl rfl rfl ?_)
        refine ga rfl (ga rfl (nil (sr (gm rfl (gb rfl (nil ?_))))))
        refine Run.ite rfl hF (fun e15 hF => ?_) (fun e15 hF => ?_)
        ·
         refine sr (ga rfl (nil (Run.slim [(6, .bool false)] ⟨rfl, trivial⟩ ?_)))
         refine Run.retP rfl (.tmp rfl .nil) ?_
         cases hF
         exact Post.mk' ⟨rfl, rfl, rfl, rfl⟩ (h28.picks .nil) .nil
        ·
         refine Run.skip (Run.endBlock (Run.reg (gm rfl (gb rfl (ga rfl ?_)))))
         obtain ⟨x3, e16, hF⟩ := letP_use hF
         refine RunL.name e16 ?_
         refine nil ?_
         have h29 := h28.front (.cons (.s .z) (.cons .z .nil))
         have h30 := St.sep (h29.pick (.s .z))
         have h31 := St.ex (H := fun w0_ => .sep (.box 225 (repository_Repository.repW w0_) u4 y7.2.2) (.slice 231 repository_record.rep w0_ y7.2.2.records)) u9 h30
         have h32 := St.some (H := (repository_Repository.mem u4)) (q := u4) (x := y7.2.2) h31
         refine Run.slim [(1, v1), (2, .int .i64 a2), (7, u2), (8, u4), (10, .int .i64 x3)] ⟨rfl, rfl, rfl, rfl, rfl, trivial⟩ ?_
         exact hk1 (x3, (some y7.2.2)) _ _ ⟨u4, rfl, (h32.facts (.atm (.s (.s (.s .z))) (.atm (.s (.s (.s (.s .z)))) (.atm (.s (.s (.s (.s (.s .z))))) .nil)))).picks (.cons .z .nil)⟩ hF
      ·
       refine Run.exit rfl ?_
       refine sr (ga rfl (nil (sr (gm rfl ?_))))
       obtain ⟨y8, e17, hF⟩ := bindP_use hF
       refine op (OpS.callP h17 Tryz.func19 rfl rfl rfl rfl (vs := [.int .i64 a2, .int .i64 40]) rfl (made_Mod_ok e17) .nil ?_)
       rintro _ w11 _ _ _ ⟨rfl, rfl, rfl, rfl⟩ h33
       have h34 := h33 rfl rfl
       simp only [ca, na] at h34
       refine gb rfl (ga rfl ?_)
       obtain ⟨x4, e18, hF⟩ := letP_use hF
       refine RunL.name e18 ?_
       refine nil (sr (gm rfl ?_))
       obtain ⟨x5, e19, hF⟩ := bindP_use hF
       have h35 := St.unopt (h34.pick .z) e19
       obtain ⟨u10, h36⟩ := h35.unex
       have h37 := h36.unsep
       obtain ⟨y9, e20, hF⟩ := bindP_use hF
       have h38 := h37.front (.cons .z (.cons .z .nil))
       refine op (OpS.callO h38 Tryz.func44 rfl rfl rfl rfl (vs := [u4]) rfl (repository_Repository_Reserve_ok e20) rfl .nil ?_)
       rintro _ w12 _ _ _ ⟨u11, rfl, rfl, rfl, rfl⟩ h39
       have h40 := h39
       simp only [ca, na] at h40
       refine ga rfl (nil (sr (gm rfl ?_)))
       obtain ⟨y10, e21, hF⟩ := bindP_use hF
       have h41 := h40.front (.cons .z (.cons .z .nil))
       refine op (OpS.callO h41 Tryz.func45 rfl rfl rfl rfl (vs := [u4]) rfl (repository_Repository_IDs_ok e21) rfl .nil ?_)
       rintro u12 w13 _ _ _ ⟨_, rfl, rfl, rfl, rfl⟩ h42
       have h43 := h42
       simp only [ca, na] at h43
       refine ga rfl ?_
       have h44 := (h43.pick .z).freeze
       refine nil (Run.seq (sr (ga rfl (nil (Run.block ?_)))))
       have h45 := St.nil 74 Sensor_.rep h44
       have h46 := (h45.pick .z).weak
       refine Run.slim [(1, v1), (7, u2), (8, u4), (15, (.slice none 0 0)), (16, .int .i64 x4), (17, .int .u16 y9.1), (18, u12), (19, .int .i64 0)] ⟨rfl, rfl, rfl, rfl, rfl, rfl, rfl, rfl, trivial⟩ ?_
       refine Run.loopP (σ := (Int × (List Sensor_))) (fun s_ L_ w_ => ∃ u0_ : Value, L_ = [(1, v1), (7, u2), (8, u4), (15, u0_), (16, .int .i64 x4), (17, .int .u16 y9.1), (18, u12), (19, .int .i64 s_.1)] ∧ St e w_ [(false, .val (Rep.slice (Rep.slice (Rep.int .i64))) v1 a1), (true, .val (Rep.slice Sensor_.rep) u2 y4.1), (true, .val (Rep.slice (Rep.int .u16)) u12 y10), Gqs] [(false, .box 225 (repository_Repository.repW u11) u4 y9.2), (false, .slice 74 Sensor_.rep u0_ s_.2), (false, .slice 231 repository_record.rep u11 y9.2.records)]) hF ⟨(.slice none 0 0), rfl, (h46.facts (.atm (.s .z) (.atm (.s (.s .z)) (.atm .z (.atm (.s (.s (.s .z))) .nil))))).picks (.cons (.s .z) (.cons .z (.cons .z .nil)))⟩ (fun k2 hk2 s4 _ w14 hI hF => ?_)
       obtain ⟨u13, rfl, h47⟩ := hI
       refine Run.seq (sr (gm rfl (gm rfl (op (OpS.len h47 Tryz.underlying60 rfl rfl rfl (V.at (.s (.s .z))) ?_)))))
       refine gb rfl (nil ?_)
       refine Run.ite rfl hF (fun e22 hF => ?_) (fun e22 hF => ?_)
       ·
        refine Run.skip (Run.seq (Run.block (sr (gm rfl (gm rfl (gm rfl ?_))))))
        obtain ⟨x6, e23, hF⟩ := bindP_use hF
        refine op (OpS.iptr h47 Tryz.underlying60 ty49 rfl rfl rfl rfl (V.at (.s (.s .z))) e23 (fun u14 h48 => ?_))
        refine op (OpS.loadi h48 ty49 rfl rfl rfl .z ?_)
        obtain ⟨y11, e24, hF⟩ := bindP_use hF
        have h49 := h48.front (.cons .z (.cons (.s .z) .nil))
        refine op (OpS.callO h49 Tryz.func46 rfl rfl rfl rfl (vs := [u4, .int .u16 x6]) rfl (repository_Repository_Get_ok e24) rfl .nil ?_)
        rintro _ w15 _ _ _ ⟨u15, rfl, rfl, rfl, rfl⟩ h50
        have h51 := h50
        simp only [ca, na] at h51
        refine gm rfl (op (OpS.ext rfl rfl rfl rfl ?_))
        refine op (OpS.ext rfl rfl rfl rfl ?_)
        refine op (OpS.ext rfl rfl rfl rfl ?_)
        refine ga rfl ?_
        have h52 := (h51.pick .z).freeze
        refine ga rfl (ga rfl (nil (sr (ga rfl (nil (Run.seq (sr (ga rfl (nil (Run.block ?_))))))))))
        have h53 := St.nil 5 (Rep.int .u8) h52
        refine Run.slim [(1, v1), (7, u2), (8, u4), (15, u13), (16, .int .i64 x4), (17, .int .u16 y9.1), (18, u12), (19, .int .i64 s4.1), (20, u15), (22, .int .i64 y11.2.2), (23, (.slice none 0 0)), (24, .int .i64 0)] ⟨rfl, rfl, rfl, rfl, rfl, rfl, rfl, rfl, rfl, rfl, rfl, rfl, trivial⟩ ?_
        refine Run.loopP (σ := (Int × (List Int))) (fun s_ L_ w_ => ∃ u0_ : Value, L_ = [(1, v1), (7, u2), (8, u4), (15, u13), (16, .int .i64 x4), (17, .int .u16 y9.1), (18, u12), (19, .int .i64 s4.1), (20, u15), (22, .int .i64 y11.2.2), (23, u0_), (24, .int .i64 s_.1)] ∧ St e w_ [(false, .val (Rep.slice (Rep.slice (Rep.int .i64))) v1 a1), (true, .val (Rep.slice Sensor_.rep) u2 y4.1), (true, .val (Rep.slice (Rep.int .u16)) u12 y10), (true, .val (Rep.slice (Rep.int .u8)) u15 y11.1), Gqs] [(false, .box 225 (repository_Repository.repW u11) u4 y9.2), (false, .slice 74 Sensor_.rep u13 s4.2), (true, .slice 5 (Rep.int .u8) u0_ s_.2), (false, .slice 231 repository_record.rep u11 y9.2.records)]) hF ⟨(.slice none 0 0), rfl, (h53.facts (.atm (.s (.s .z)) (.atm (.s (.s (.s .z))) (.atm (.s (.s (.s (.s .z)))) (.atm .z (.atm (.s (.s (.s (.s (.s .z))))) .nil)))))).picks (.cons (.s .z) (.cons (.s (.s .z)) (.cons .z (.cons .z .nil))))⟩ (fun k3 hk3 s5 _ w16 hI hF => ?_)
        obtain ⟨u16, rfl, h54⟩ := hI
        refine Run.seq (sr (gm rfl (gm rfl (op (OpS.len h54 Tryz.underlying24 rfl rfl rfl (V.at (.s (.s (.s .z)))) ?_)))))
        refine gb rfl (nil ?_)
        refine Run.ite rfl hF (fun e25 hF => ?_) (fun e25 hF => ?_)
        ·
         refine Run.skip (Run.seq (Run.block (sr (gm rfl (gm rfl (gm rfl (gm rfl ?_)))))))
         obtain ⟨x7, e26, hF⟩ := bindP_use hF
         refine op (OpS.iptr h54 Tryz.underlying60 ty49 rfl rfl rfl rfl (V.at (.s (.s .z))) e26 (fun u17 h55 => ?_))
         refine op (OpS.loadi h55 ty49 rfl rfl rfl .z ?_)
         refine gm rfl (gm rfl (gm rfl (op (OpS.len h55 Tryz.underlying24 rfl rfl rfl (V.at (.s (.s (.s (.s .z))))) ?_))))
         refine gm rfl (gb rfl (op (OpS.mini rfl rfl rfl rfl ?_)))
         obtain ⟨y12, e27, hF⟩ := bindP_use hF
         have h56 := h55.front (.cons .z (.cons (.s (.s .z)) .nil))
         refine op (OpS.callO h56 Tryz.func47 rfl rfl rfl rfl (vs := [u4, .int .u16 y9.1, .int .u16 x7, .int .i64 s5.1, .int .i64 (min x4 (IntKind.i64.wrap ((y11.1.length : Int) - s5.1)))]) rfl (repository_Repository_Read_ok e27) rfl .nil ?_)
         rintro _ w17 _ _ _ ⟨u18, rfl, rfl, rfl, rfl⟩ h57
         have h58 := h57
         simp only [ca, na] at h58
         refine gm rfl (op (OpS.ext rfl rfl rfl rfl ?_))
         refine op (OpS.ext rfl rfl rfl rfl ?_)
         refine op (OpS.ext rfl rfl rfl rfl ?_)
         refine ga rfl ?_
         have h59 := (h58.pick .z).freeze
         refine ga rfl (ga rfl (nil (Run.seq (sr (gm rfl (gb rfl (nil ?_)))))))
         refine Run.ite rfl hF (fun e28 hF => ?_) (fun e28 hF => ?_)
         ·
          refine sr (ga rfl (nil (Run.slim [(6, .bool false)] ⟨rfl, trivial⟩ ?_)))
          refine Run.retP rfl (.tmp rfl .nil) ?_
          cases hF
          exact Post.mk' ⟨rfl, rfl, rfl, rfl⟩ (h59.picks .nil) .nil
         ·
          refine Run.skip (Run.reg (gm rfl (gm rfl ?_)))
          obtain ⟨x8, e29, hF⟩ := bindP_use hF
          refine op (OpS.app (f' := true) h59 (.s (.s (.s .z))) Tryz.underlying24 ti5 rfl rfl rfl rfl rfl rfl rfl (V.at .z) (.inr Pure.int) e29 (fun u19 w18 h60 => ?_))
          refine ga rfl (nil (Run.endBlock (Run.reg (gm rfl (gm rfl (gb rfl (ga rfl ?_)))))))
          obtain ⟨x9, e30, hF⟩ := letP_use hF
          refine RunL.name e30 ?_
          refine nil (Run.slim [(24, .int .i64 x9), (23, u19), (1, v1), (7, u2), (8, u4), (15, u13), (16, .int .i64 x4), (17, .int .u16 y9.1), (18, u12), (19, .int .i64 s4.1), (20, u15), (22, .int .i64 y11.2.2)] ⟨rfl, rfl, rfl, rfl, rfl, rfl, rfl, rfl, rfl, rfl, rfl, rfl, trivial⟩ ?_)
          refine Run.slim [(1, v1), (7, u2), (8, u4), (15, u13), (16, .int .i64 x4), (17, .int .u16 y9.1), (18, u12), (19, .int .i64 s4.1), (20, u15), (22, .int .i64 y11.2.2), (23, u19), (24, .int .i64 x9)] ⟨rfl, rfl, rfl, rfl, rfl, rfl, rfl, rfl, rfl, rfl, rfl, rfl, trivial⟩ ?_
          exact hk3 (x9, x8) _ _ ⟨u19, rfl, (h60.facts (.atm (.s (.s .z)) (.atm (.s (.s (.s .z))) (.atm (.s (.s (.s (.s .z)))) (.atm (.s (.s (.s (.s (.s .z))))) (.atm (.s (.s (.s (.s (.s (.s .z)))))) .nil)))))).picks (.cons (.s .z) (.cons (.s (.s .z)) (.cons .z (.cons .z .nil))))⟩ hF
        ·
         refine Run.exit rfl ?_
         refine sr (gm rfl ?_)
         have h61 := (h54.pick (.s (.s .z))).freeze
         obtain ⟨y13, e31, hF⟩ := bindP_use hF
         have h62 := h61.front .nil
         refine op (OpS.callO h62 Tryz.func48 rfl rfl rfl rfl (vs := [u16]) rfl (sensor_Decode_ok e31) rfl (.cons (f := true) (V.at .z) .nil) ?_)
         rintro _ w19 _ _ _ ⟨u20, rfl, rfl, rfl, rfl⟩ h63
         have h64 := h63
         simp only [ca, na] at h64
         refine gm rfl (op (OpS.ext rfl rfl rfl rfl ?_))
         refine op (OpS.ext rfl rfl rfl rfl ?_)
         refine op (OpS.alloc h64 ti74 Sensor_.zr rfl rfl (fun u21 w20 h65 => ?_))
         have h66 := (h65.pick .z).weak
         refine op (OpS.storeB (f' := false) h66 .z PA.z Put.id ty74 rfl rfl rfl (V.at .z) (.inr rfl) (fun w21 h67 => ?_))
         refine ga rfl (nil (Run.seq (sr (gm rfl (gb rfl (gm rfl ?_))))))
         refine RunL.join (σ := Bool) (fun s_ L_ w_ => L_ = [(1, v1), (7, u2), (8, u4), (15, u13), (16, .int .i64 x4), (17, .int .u16 y9.1), (18, u12), (19, .int .i64 s4.1), (28, u21), (153, .bool s_)] ∧ St e w_ [(false, .val (Rep.slice (Rep.slice (Rep.int .i64))) v1 a1), (true, .val (Rep.slice Sensor_.rep) u2 y4.1), (true, .val (Rep.slice (Rep.int .u16)) u12 y10), Gqs] [(false, .box 225 (repository_Repository.repW u11) u4 y9.2), (false, .box 74 Sensor_.rep u21 y13.1), (false, .slice 74 Sensor_.rep u13 s4.2), (false, .slice 231 repository_record.rep u11 y9.2.records)]) hF (fun s6 _ w22 hI hF => ?_) (fun j3 hj3 hF => ?_)
         ·
          obtain ⟨rfl, h68⟩ := hI
          refine Run.ite rfl hF (fun e32 hF => ?_) (fun e32 hF => ?_)
          ·
           refine sr (ga rfl (nil (Run.retP rfl (.tmp rfl .nil) ?_)))
           cases hF
           exact Post.mk' ⟨rfl, rfl, rfl, rfl⟩ (h68.picks .nil) .nil
          ·
           refine Run.skip (Run.reg (gm rfl (op (OpS.loadB h68 (.s .z) PA.z Get.id ty74 rfl rfl rfl (fun u22 h69 => ?_)))))
           refine op (OpS.lit (r := Sensor_.rep) (f := false) h69 Tryz.underlying27 ti74 rfl rfl rfl rfl rfl (.cons rfl (V.at .z) .nil) rfl rfl (fun u23 w23 h70 => ?_))
           obtain ⟨x10, e33, hF⟩ := bindP_use hF
           refine op (OpS.app (f' := false) h70 (.s (.s .z)) Tryz.underlying27 ti74 rfl rfl rfl rfl rfl rfl rfl (V.at .z) (.inl (.inr rfl)) e33 (fun u24 w24 h71 => ?_))
           refine ga rfl (nil (Run.endBlock (Run.reg (gm rfl (gb rfl (ga rfl ?_))))))
           obtain ⟨x11, e34, hF⟩ := letP_use hF
           refine RunL.name e34 ?_
           refine nil (Run.slim [(1, v1), (7, u2), (8, u4), (15, u24), (16, .int .i64 x4), (17, .int .u16 y9.1), (18, u12), (19, .int .i64 x11)] ⟨rfl, rfl, rfl, rfl, rfl, rfl, rfl, rfl, trivial⟩ ?_)
           exact hk2 (x11, x10) _ _ ⟨u24, rfl, (h71.facts (.atm (.s (.s .z)) (.atm (.s (.s (.s .z))) (.atm (.s (.s (.s (.s .z)))) (.atm (.s (.s (.s (.s (.s .z))))) .nil))))).picks (.cons (.s .z) (.cons .z (.cons (.s .z) .nil)))⟩ hF
         ·
          refine RunL.caseb hF (fun e35 hF => ?_) (fun e35 hF => ?_)
          ·
           refine gp rfl (gp rfl (gk rfl (nil (Run.slim [(1, v1), (7, u2), (8, u4), (15, u13), (16, .int .i64 x4), (17, .int .u16 y9.1), (18, u12), (19, .int .i64 s4.1), (28, u21), (153, .bool true)] ⟨rfl, rfl, rfl, rfl, rfl, rfl, rfl, rfl, rfl, rfl, trivial⟩ ?_))))
           exact hj3 (true) _ _ ⟨rfl, (h67.facts (.atm (.s (.s .z)) (.atm (.s (.s (.s .z))) (.atm (.s (.s (.s (.s .z)))) (.atm (.s (.s (.s (.s (.s (.s .z)))))) .nil))))).picks (.cons (.s .z) (.cons .z (.cons .z (.cons .z .nil))))⟩ hF
          ·
           refine gm rfl (gb rfl (gk rfl (nil (Run.slim [(1, v1), (7, u2), (8, u4), (15, u13), (16, .int .i64 x4), (17, .int .u16 y9.1), (18, u12), (19, .int .i64 s4.1), (28, u21), (153, .bool (y13.2 != 0))] ⟨rfl, rfl, rfl, rfl, rfl, rfl, rfl, rfl, rfl, rfl, trivial⟩ ?_))))
           exact hj3 (y13.2 != 0) _ _ ⟨rfl, (h67.facts (.atm (.s (.s .z)) (.atm (.s (.s (.s .z))) (.atm (.s (.s (.s (.s .z)))) (.atm (.s (.s (.s (.s (.s (.s .z)))))) .nil))))).picks (.cons (.s .z) (.cons .z (.cons .z (.cons .z .nil))))⟩ hF
       ·
        refine Run.exit rfl ?_
        refine sr (gm rfl ?_)
        obtain ⟨y14, e36, hF⟩ := bindP_use hF
        have h72 := h47.front .nil
        refine op (OpS.callO h72 Tryz.func30 rfl rfl rfl rfl (vs := [u2, .slice none 0 0]) rfl (monitor_New_ok e36) rfl (.cons (f := true) (V.at (.s .z)) (.cons (f := true) V.nil .nil)) ?_)
        rintro _ w25 _ _ _ ⟨u25, rfl, rfl, rfl, rfl⟩ h73
        have h74 := h73
        simp only [ca, na] at h74
        refine gm rfl (op (OpS.ext rfl rfl rfl rfl ?_))
        refine op (OpS.ext rfl rfl rfl rfl ?_)
        refine ga rfl (ga rfl (nil (sr (gm rfl ?_))))
        have h75 := (h74.pick (.s (.s .z))).freeze
        obtain ⟨y15, e37, hF⟩ := bindP_use hF
        have h76 := h75.front .nil
        refine op (OpS.callO h76 Tryz.func30 rfl rfl rfl rfl (vs := [u13, .slice none 0 0]) rfl (monitor_New_ok e37) rfl (.cons (f := false) (V.at .z) (.cons (f := true) V.nil .nil)) ?_)
        rintro _ w26 _ _ _ ⟨u26, rfl, rfl, rfl, rfl⟩ h77
        have h78 := h77
        simp only [ca, na] at h78
        refine gm rfl (op (OpS.ext rfl rfl rfl rfl ?_))
        refine op (OpS.ext rfl rfl rfl rfl ?_)
        refine ga rfl (ga rfl (nil (Run.seq (sr (gm rfl (gb rfl (gm rfl ?_)))))))
        refine RunL.join (σ := Bool) (fun s_ L_ w_ => L_ = [(1, v1), (7, u2), (30, u25), (32, u26), (188, .bool s_)] ∧ St e w_ [(false, .val (Rep.slice (Rep.slice (Rep.int .i64))) v1 a1), (true, .val (Rep.slice Sensor_.rep) u2 y4.1), Gqs] [(false, .opt (monitor_Monitor.mem u25) u25 y14.1), (false, .opt (monitor_Monitor.mem u26) u26 y15.1)]) hF (fun s7 _ w27 hI hF => ?_) (fun j4 hj4 hF => ?_)
        ·
         obtain ⟨rfl, h79⟩ := hI
         refine Run.ite rfl hF (fun e38 hF => ?_) (fun e38 hF => ?_)
         ·
          refine sr (ga rfl (nil (Run.retP rfl (.tmp rfl .nil) ?_)))
          cases hF
          exact Post.mk' ⟨rfl, rfl, rfl, rfl⟩ (h79.picks .nil) .nil
         ·
          refine Run.skip (Run.seq (sr (ga rfl (nil (Run.block (Run.slim [(1, v1), (7, u2), (30, u25), (32, u26), (34, .int .i64 0)] ⟨rfl, rfl, rfl, rfl, rfl, trivial⟩ ?_))))))
          refine Run.loopP (σ := (Int × (Option monitor_Monitor) × (Option monitor_Monitor))) (fun s_ L_ w_ => ∃ u0_ u1_ : Value, L_ = [(1, v1), (7, u2), (30, u0_), (32, u1_), (34, .int .i64 s_.1)] ∧ St e w_ [(false, .val (Rep.slice (Rep.slice (Rep.int .i64))) v1 a1), (true, .val (Rep.slice Sensor_.rep) u2 y4.1), Gqs] [(false, .opt (monitor_Monitor.mem u0_) u0_ s_.2.1), (false, .opt (monitor_Monitor.mem u1_) u1_ s_.2.2)]) hF ⟨u25, u26, rfl, (h79.facts (.atm .z (.atm (.s .z) (.atm (.s (.s .z)) .nil)))).picks (.cons .z (.cons .z .nil))⟩ (fun k4 hk4 s8 _ w28 hI hF => ?_)
          obtain ⟨u27, u28, rfl, h80⟩ := hI
          refine Run.seq (sr (gm rfl (gm rfl (op (OpS.len h80 Tryz.underlying23 rfl rfl rfl (V.at .z) ?_)))))
          refine gb rfl (nil ?_)
          refine Run.ite rfl hF (fun e39 hF => ?_) (fun e39 hF => ?_)
          ·
           refine Run.skip (Run.seq (Run.block (Run.seq (sr (gm rfl (gm rfl ?_))))))
           obtain ⟨x12, e40, hF⟩ := bindP_use hF
           refine op (OpS.iptr h80 Tryz.underlying23 ty22 rfl rfl rfl rfl (V.at .z) e40 (fun u29 h81 => ?_))
           refine op (OpS.load h81 ty22 rfl rfl rfl .z (fun u30 h82 => ?_))
           refine op (OpS.len h82 Tryz.underlying22 rfl rfl rfl (V.at .z) ?_)
           refine gb rfl (nil ?_)
           refine Run.ite rfl hF (fun e41 hF => ?_) (fun e41 hF => ?_)
           ·
            refine sr (ga rfl (nil (Run.retP rfl (.tmp rfl .nil) ?_)))
            cases hF
            exact Post.mk' ⟨rfl, rfl, rfl, rfl⟩ (h82.picks .nil) .nil
           ·
            refine Run.skip (sr (gm rfl (gm rfl ?_)))
            obtain ⟨x13, e42, hF⟩ := bindP_use hF
            refine op (OpS.iptr h82 Tryz.underlying23 ty22 rfl rfl rfl rfl (V.at (.s (.s .z))) e42 (fun u31 h83 => ?_))
            refine op (OpS.load h83 ty22 rfl rfl rfl .z (fun u32 h84 => ?_))
            obtain ⟨y16, e43, hF⟩ := bindP_use hF
            have h85 := h84.front .nil
            refine op (OpS.callO h85 Tryz.func12 rfl rfl rfl rfl (vs := [u32]) rfl (made_Roll_ok e43) rfl (.cons (f := false) (V.at .z) .nil) ?_)
            rintro u33 w29 _ _ _ ⟨_, rfl, rfl, rfl, rfl⟩ h86
            have h87 := h86
            simp only [ca, na] at h87
            refine ga rfl (nil (sr (gm rfl (gm rfl ?_))))
            obtain ⟨y17, e44, hF⟩ := bindP_use hF
            have h88 := h87.front (.cons .z .nil)
            refine op (OpS.callO h88 Tryz.func16 rfl rfl rfl rfl (vs := [u33, u2]) rfl (made_Dice_Samples_ok e44) rfl (.cons (f := true) (V.at (.s (.s (.s (.s (.s .z)))))) .nil) ?_)
            rintro u34 w30 _ _ _ ⟨_, rfl, rfl, rfl, rfl⟩ h89
            have h90 := h89
            simp only [ca, na] at h90
            refine gm rfl ?_
            obtain ⟨y18, e45, hF⟩ := bindP_use hF
            have h91 := h90.front (.cons (.s .z) .nil)
            refine op (OpS.callO h91 Tryz.func17 rfl rfl rfl rfl (vs := [u33, .int .i64 2]) rfl (made_Dice_Entities_ok e45) rfl .nil ?_)
            rintro u35 w31 _ _ _ ⟨_, rfl, rfl, rfl, rfl⟩ h92
            have h93 := h92
            simp only [ca, na] at h93
            refine gm rfl ?_
            obtain ⟨y19, e46, hF⟩ := bindP_use hF
            have h94 := h93.front (.cons (.s .z) .nil)
            refine op (OpS.callO h94 Tryz.func31 rfl rfl rfl rfl (vs := [u33, .int .i64 2]) rfl (made_Dice_Bool_ok e46) rfl .nil ?_)
            rintro _ w32 _ _ _ ⟨rfl, rfl, rfl, rfl⟩ h95
            have h96 := h95
            simp only [ca, na] at h96
            refine ga rfl ?_
            have h97 := (h96.pick (.s (.s .z))).freeze
            refine ga rfl ?_
            have h98 := (h97.pick (.s .z)).freeze
            refine ga rfl (nil (sr (gm rfl (gm rfl (gm rfl (gm rfl ?_))))))
            obtain ⟨x14, e47, hF⟩ := bindP_use hF
            have h99 := St.unopt (h98.pick (.s .z)) e47
            obtain ⟨u36, h100⟩ := h99.unex
            obtain ⟨u37, h101⟩ := h100.unex
            have h102 := h101.unsep
            have h103 := (h102.pick (.s .z)).unsep
            obtain ⟨y20, e48, hF⟩ := bindP_use hF
            have h104 := h103.front (.cons (.s (.s .z)) (.cons .z (.cons .z .nil)))
            refine op (OpS.callO h104 Tryz.func20 rfl rfl rfl rfl (vs := [u27, u34, u35, .bool y19.1]) rfl (monitor_Monitor_Scan_ok e48) rfl (.cons (f := true) (V.at (.s .z)) (.cons (f := true) (V.at .z) (.ptr (.s (.s (.s (.s (.s (.s (.s (.s .z)))))))) .nil))) ?_)
            rintro _ w33 _ _ _ ⟨u38, u39, u40, rfl, rfl, rfl, rfl⟩ h105
            have h106 := h105
            simp only [ca, na] at h106
            refine gm rfl (op (OpS.ext rfl rfl rfl rfl ?_))
            refine op (OpS.ext rfl rfl rfl rfl ?_)
            refine ga rfl ?_
            have h107 := (h106.pick .z).freeze
            refine ga rfl (nil (Run.slim [(40, .int .i64 y20.2.1), (39, u38), (38, .bool y19.1), (37, u35), (36, u34), (1, v1), (7, u2), (30, u27), (32, u28), (34, .int .i64 s8.1)] ⟨rfl, rfl, rfl, rfl, rfl, rfl, rfl, rfl, rfl, rfl, trivial⟩ ?_))
            refine sr (gm rfl (gm rfl (gm rfl (gm rfl ?_))))
            obtain ⟨x15, e49, hF⟩ := bindP_use hF
            have h108 := St.unopt (h107.pick (.s (.s (.s (.s .z))))) e49
            obtain ⟨u41, h109⟩ := h108.unex
            obtain ⟨u42, h110⟩ := h109.unex
            have h111 := h110.unsep
            have h112 := (h111.pick (.s .z)).unsep
            obtain ⟨y21, e50, hF⟩ := bindP_use hF
            have h113 := h112.front (.cons (.s (.s .z)) (.cons .z (.cons .z .nil)))
            refine op (OpS.callO h113 Tryz.func20 rfl rfl rfl rfl (vs := [u28, u34, u35, .bool y19.1]) rfl (monitor_Monitor_Scan_ok e50) rfl (.cons (f := true) (V.at (.s (.s .z))) (.cons (f := true) (V.at (.s .z)) (.ptr (.s (.s (.s (.s (.s (.s (.s (.s (.s .z))))))))) .nil))) ?_)
            rintro _ w34 _ _ _ ⟨u43, u44, u45, rfl, rfl, rfl, rfl⟩ h114
            have h115 := h114
            simp only [ca, na] at h115
            refine gm rfl (op (OpS.ext rfl rfl rfl rfl ?_))
            refine op (OpS.ext rfl rfl rfl rfl ?_)
            refine ga rfl ?_
            have h116 := (h115.pick .z).freeze
            refine ga rfl (nil (sr (gm rfl (gm rfl (gb rfl (gm rfl ?_))))))
            refine RunL.join (σ := Bool) (fun s_ L_ w_ => L_ = [(1, v1), (7, u2), (30, u27), (32, u28), (34, .int .i64 s8.1), (237, .bool s_)] ∧ St e w_ [(false, .val (Rep.slice (Rep.slice (Rep.int .i64))) v1 a1), (true, .val (Rep.slice Sensor_.rep) u2 y4.1), Gqs] [(false, .box 184 (monitor_Monitor.repW u39 u40) u27 y20.2.2), (false, .box 184 (monitor_Monitor.repW u44 u45) u28 y21.2.2), (false, .slice 188 Filter_.rep u39 y20.2.2.filters), (false, .slice 49 (Rep.int .u16) u40 y20.2.2.states), (false, .slice 188 Filter_.rep u44 y21.2.2.filters), (false, .slice 49 (Rep.int .u16) u45 y21.2.2.states)]) hF (fun s9 _ w35 hI hF => ?_) (fun j5 hj5 hF => ?_)
            ·
             obtain ⟨rfl, h117⟩ := hI
             refine Run.ite rfl hF (fun e51 hF => ?_) (fun e51 hF => ?_)
             ·
              refine sr (ga rfl (nil (Run.retP rfl (.tmp rfl .nil) ?_)))
              cases hF
              exact Post.mk' ⟨rfl, rfl, rfl, rfl⟩ (h117.picks .nil) .nil
             ·
              refine Run.skip (Run.endBlock (Run.reg (gm rfl (gb rfl (ga rfl ?_)))))
              obtain ⟨x16, e52, hF⟩ := letP_use hF
              refine RunL.name e52 ?_
              refine nil ?_
              have h118 := h117.front (.cons (.s (.s .z)) (.cons (.s (.s .z)) (.cons .z .nil)))
              have h119 := St.sep h118
              have h120 := St.sep (h119.pick (.s .z))
              have h121 := St.ex (H := fun w1_ => .sep (.box 184 (monitor_Monitor.repW u39 w1_) u27 y20.2.2) (.sep (.slice 188 Filter_.rep u39 y20.2.2.filters) (.slice 49 (Rep.int .u16) w1_ y20.2.2.states))) u40 h120
              have h122 := St.ex (H := fun w0_ => .ex fun w1_ => .sep (.box 184 (monitor_Monitor.repW w0_ w1_) u27 y20.2.2) (.sep (.slice 188 Filter_.rep w0_ y20.2.2.filters) (.slice 49 (Rep.int .u16) w1_ y20.2.2.states))) u39 h121
              have h123 := St.some (H := (monitor_Monitor.mem u27)) (q := u27) (x := y20.2.2) h122
              have h124 := h123.front (.cons (.s (.s .z)) (.cons (.s (.s .z)) (.cons (.s .z) .nil)))
              have h125 := St.sep h124
              have h126 := St.sep (h125.pick (.s .z))
              have h127 := St.ex (H := fun w1_ => .sep (.box 184 (monitor_Monitor.repW u44 w1_) u28 y21.2.2) (.sep (.slice 188 Filter_.rep u44 y21.2.2.filters) (.slice 49 (Rep.int .u16) w1_ y21.2.2.states))) u45 h126
              have h128 := St.ex (H := fun w0_ => .ex fun w1_ => .sep (.box 184 (monitor_Monitor.repW w0_ w1_) u28 y21.2.2) (.sep (.slice 188 Filter_.rep w0_ y21.2.2.filters) (.slice 49 (Rep.int .u16) w1_ y21.2.2.states))) u44 h127
              have h129 := St.some (H := (monitor_Monitor.mem u28)) (q := u28) (x := y21.2.2) h128
              refine Run.slim [(1, v1), (7, u2), (30, u27), (32, u28), (34, .int .i64 x16)] ⟨rfl, rfl, rfl, rfl, rfl, trivial⟩ ?_
              exact hk4 (x16, (some y20.2.2), (some y21.2.2)) _ _ ⟨u27, u28, rfl, (h129.facts (.atm .z (.atm (.s .z) (.atm (.s (.s .z)) .nil)))).picks (.cons (.s .z) (.cons .z .nil))⟩ hF
            ·
             refine RunL.caseb hF (fun e53 hF => ?_) (fun e53 hF => ?_)
             ·
              refine gp rfl (gp rfl (gp rfl (gp rfl (gk rfl (nil (Run.slim [(1, v1), (7, u2), (30, u27), (32, u28), (34, .int .i64 s8.1), (237, .bool true)] ⟨rfl, rfl, rfl, rfl, rfl, rfl, trivial⟩ ?_))))))
              exact hj5 (true) _ _ ⟨rfl, (h116.facts (.atm (.s (.s (.s (.s (.s (.s (.s (.s .z)))))))) (.atm (.s (.s (.s (.s (.s (.s (.s (.s (.s .z))))))))) (.atm (.s (.s (.s (.s (.s (.s (.s (.s (.s (.s .z)))))))))) .nil)))).picks (.cons (.s (.s (.s .z))) (.cons .z (.cons (.s (.s .z)) (.cons (.s (.s .z)) (.cons .z (.cons .z .nil))))))⟩ hF
             ·
              refine gm rfl (gm rfl ?_)
              obtain ⟨y22, e54, hF⟩ := bindP_use hF
              refine op (OpS.callP h116 Tryz.func22 rfl rfl rfl rfl (vs := [u38, u43]) rfl (ref07_SameList_ok e54) (.cons (f := true) (V.at (.s .z)) (.cons (f := true) (V.at .z) .nil)) ?_)
              rintro _ w36 _ _ _ ⟨rfl, rfl, rfl, rfl⟩ h130
              have h131 := h130 rfl rfl
              simp only [ca, na] at h131
              refine op (OpS.not rfl rfl rfl ?_)
              refine gk rfl (nil (Run.slim [(1, v1), (7, u2), (30, u27), (32, u28), (34, .int .i64 s8.1), (237, .bool (!y22))] ⟨rfl, rfl, rfl, rfl, rfl, rfl, trivial⟩ ?_))
              exact hj5 (!y22) _ _ ⟨rfl, (h131.facts (.atm (.s (.s (.s (.s (.s (.s (.s (.s .z)))))))) (.atm (.s (.s (.s (.s (.s (.s (.s (.s (.s .z))))))))) (.atm (.s (.s (.s (.s (.s (.s (.s (.s (.s (.s .z)))))))))) .nil)))).picks (.cons (.s (.s (.s .z))) (.cons .z (.cons (.s (.s .z)) (.cons (.s (.s .z)) (.cons .z (.cons .z .nil))))))⟩ hF
          ·
           refine Run.exit rfl ?_
           refine sr (ga rfl (nil (Run.retP rfl (.tmp rfl .nil) ?_)))
           cases hF
           exact Post.mk' ⟨rfl, rfl, rfl, rfl⟩ (h80.picks .nil) .nil
        ·
         refine RunL.caseb hF (fun e55 hF => ?_) (fun e55 hF => ?_)
         ·
          refine gp rfl (gp rfl (gk rfl (gm rfl (gp rfl (gp rfl (gk rfl (gm rfl (gp rfl (gp rfl (gk rfl (gm rfl (gp rfl (gp rfl (gp rfl (gp rfl ?_)))))))))))))))
          refine gp rfl (gk rfl (nil (Run.slim [(188, .bool true), (32, u26), (30, u25), (1, v1), (7, u2)] ⟨rfl, rfl, rfl, rfl, rfl, trivial⟩ ?_)))
          refine Run.slim [(1, v1), (7, u2), (30, u25), (32, u26), (188, .bool true)] ⟨rfl, rfl, rfl, rfl, rfl, trivial⟩ ?_
          exact hj4 (true) _ _ ⟨rfl, (h78.facts (.atm (.s .z) (.atm (.s (.s .z)) (.atm (.s (.s (.s (.s .z)))) .nil)))).picks (.cons (.s .z) (.cons .z .nil))⟩ hF
         ·
          refine gm rfl (gb rfl (gk rfl (gm rfl ?_)))
          refine RunL.caseb hF (fun e56 hF => ?_) (fun e56 hF => ?_)
          ·
           refine gp rfl (gp rfl (gk rfl (gm rfl (gp rfl (gp rfl (gk rfl (gm rfl (gp rfl (gp rfl (gp rfl (gp rfl (gp rfl (gk rfl (nil (Run.slim [(188, .bool true), (32, u26), (30, u25), (1, v1), (7, u2)] ⟨rfl, rfl, rfl, rfl, rfl, trivial⟩ ?_)))))))))))))))
           refine Run.slim [(1, v1), (7, u2), (30, u25), (32, u26), (188, .bool true)] ⟨rfl, rfl, rfl, rfl, rfl, trivial⟩ ?_
           exact hj4 (true) _ _ ⟨rfl, (h78.facts (.atm (.s .z) (.atm (.s (.s .z)) (.atm (.s (.s (.s (.s .z)))) .nil)))).picks (.cons (.s .z) (.cons .z .nil))⟩ hF
          ·
           refine gm rfl (op (OpS.onilE2 h78 (.s .z) (fun _ => PtrOf.ex fun _ => PtrOf.ex fun _ => PtrOf.sep PtrOf.box) Tryz.underlying38 rfl rfl rfl rfl ?_))
           refine gk rfl (gm rfl ?_)
           refine RunL.caseb hF (fun e57 hF => ?_) (fun e57 hF => ?_)
           ·
            refine gp rfl (gp rfl (gk rfl (gm rfl (gp rfl (gp rfl (gp rfl (gp rfl (gp rfl (gk rfl (nil (Run.slim [(188, .bool true), (32, u26), (30, u25), (1, v1), (7, u2)] ⟨rfl, rfl, rfl, rfl, rfl, trivial⟩ ?_)))))))))))
            refine Run.slim [(1, v1), (7, u2), (30, u25), (32, u26), (188, .bool true)] ⟨rfl, rfl, rfl, rfl, rfl, trivial⟩ ?_
            exact hj4 (true) _ _ ⟨rfl, (h78.facts (.atm (.s .z) (.atm (.s (.s .z)) (.atm (.s (.s (.s (.s .z)))) .nil)))).picks (.cons (.s .z) (.cons .z .nil))⟩ hF
           ·
            refine gm rfl (op (OpS.onilE2 h78 .z (fun _ => PtrOf.ex fun _ => PtrOf.ex fun _ => PtrOf.sep PtrOf.box) Tryz.underlying38 rfl rfl rfl rfl ?_))
            refine gk rfl (gm rfl ?_)
            refine RunL.caseb hF (fun e58 hF => ?_) (fun e58 hF => ?_)
            ·
             refine gp rfl (gp rfl (gp rfl (gp rfl (gp rfl (gk rfl (nil (Run.slim [(188, .bool true), (32, u26), (30, u25), (1, v1), (7, u2)] ⟨rfl, rfl, rfl, rfl, rfl, trivial⟩ ?_)))))))
             refine Run.slim [(1, v1), (7, u2), (30, u25), (32, u26), (188, .bool true)] ⟨rfl, rfl, rfl, rfl, rfl, trivial⟩ ?_
             exact hj4 (true) _ _ ⟨rfl, (h78.facts (.atm (.s .z) (.atm (.s (.s .z)) (.atm (.s (.s (.s (.s .z)))) .nil)))).picks (.cons (.s .z) (.cons .z .nil))⟩ hF
            ·
             refine gm rfl (op (OpS.len h78 Tryz.underlying27 rfl rfl rfl (V.at .z) ?_))
             refine gm rfl (op (OpS.len h78 Tryz.underlying27 rfl rfl rfl (V.at (.s (.s .z))) ?_))
             refine gb rfl (gk rfl (nil (Run.slim [(188, .bool ((s4.2.length : Int) != (y4.1.length : Int))), (32, u26), (30, u25), (1, v1), (7, u2)] ⟨rfl, rfl, rfl, rfl, rfl, trivial⟩ ?_)))
             refine Run.slim [(1, v1), (7, u2), (30, u25), (32, u26), (188, .bool ((s4.2.length : Int) != (y4.1.length : Int)))] ⟨rfl, rfl, rfl, rfl, rfl, trivial⟩ ?_
             exact hj4 ((s4.2.length : Int) != (y4.1.length : Int)) _ _ ⟨rfl, (h78.facts (.atm (.s .z) (.atm (.s (.s .z)) (.atm (.s (.s (.s (.s .z)))) .nil)))).picks (.cons (.s .z) (.cons .z .nil))⟩ hF
    ·
     refine RunL.caseb hF (fun e59 hF => ?_) (fun e59 hF => ?_)
     ·
      refine gp rfl (gp rfl (gk rfl (nil (Run.slim [(1, v1), (2, .int .i64 a2), (7, u2), (8, u3), (65, .bool true)] ⟨rfl, rfl, rfl, rfl, rfl, trivial⟩ ?_))))
      exact hj2 (true) _ _ ⟨rfl, (h14.facts (.atm (.s (.s .z)) (.atm .z (.atm (.s (.s (.s .z))) .nil)))).picks (.cons .z .nil)⟩ hF
     ·
      refine gm rfl (gb rfl (gk rfl (nil (Run.slim [(1, v1), (2, .int .i64 a2), (7, u2), (8, u3), (65, .bool (y5.2 != 0))] ⟨rfl, rfl, rfl, rfl, rfl, trivial⟩ ?_))))
      exact hj2 (y5.2 != 0) _ _ ⟨rfl, (h14.facts (.atm (.s (.s .z)) (.atm .z (.atm (.s (.s (.s .z))) .nil)))).picks (.cons .z .nil)⟩ hF
  ·
   refine RunL.caseb hF (fun e60 hF => ?_) (fun e60 hF => ?_)
   ·
    refine gp rfl (gp rfl (gp rfl (gk rfl (nil (Run.slim [(0, v0), (1, v1), (2, .int .i64 a2), (52, .bool true)] ⟨rfl, rfl, rfl, rfl, trivial⟩ ?_)))))
    exact hj1 (true) _ _ ⟨rfl, (h4.facts (.atm .z (.atm (.s .z) (.atm (.s (.s .z)) .nil)))).picks .nil⟩ hF
   ·
    refine gm rfl (op (OpS.len h4 Tryz.underlying23 rfl rfl rfl (V.at (.s .z)) ?_))
    refine gb rfl (gk rfl (nil (Run.slim [(0, v0), (1, v1), (2, .int .i64 a2), (52, .bool (decide ((a1.length : Int) > 12)))] ⟨rfl, rfl, rfl, rfl, trivial⟩ ?_)))
    exact hj1 (decide ((a1.length : Int) > 12)) _ _ ⟨rfl, (h4.facts (.atm .z (.atm (.s .z) (.atm (.s (.s .z)) .nil)))).picks .nil⟩ hF
end Lift
