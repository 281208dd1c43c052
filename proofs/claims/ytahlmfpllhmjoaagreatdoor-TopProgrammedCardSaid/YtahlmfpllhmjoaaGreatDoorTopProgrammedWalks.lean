import Derived.Test.YtahlmfpllhmjoaaGreatDoorTopProgrammedWalksC
set_option linter.unusedVariables false
set_option linter.unusedSimpArgs false
namespace Lift
open Go Go.Proofs
open RunL (op mv asg bin pass pick sr nil)
theorem convert_values_ok {fuel : Nat} {a0 : Conversion_} {y : (List convert_pair)} (hF : convert_values fuel a0 = some y) {w : World} {v0 : Value} :
  Spec Tryz.prog 104 [v0].toArray w [(false, .val Conversion_.rep v0 a0)] [] (fun v Γr Ωr Ωo => ∃ u0 : Value, v = u0 ∧ Γr = [] ∧ Ωr = [(true, (.slice 221 convert_pair.rep u0 y))] ∧ Ωo = []) := by
 refine Spec.of (L := [(0, v0)]) Tryz.func104 rfl ⟨rfl, trivial⟩ rfl (fun e h => ?_)
 unfold convert_values at hF
 refine sr ?_
 refine op (OpS.boxF h rfl rfl rfl (V.at .z) (fun u1 w1 h1 => ?_))
 refine asg rfl rfl rfl ?_
 refine nil ?_
 refine sr ?_
 refine asg rfl rfl rfl ?_
 refine nil ?_
 refine Run.seq ?_
 refine sr ?_
 refine mv rfl rfl rfl ?_
 refine nil ?_
 refine Run.block ?_
 have h2 := St.nil 221 convert_pair.rep h1
 refine Run.slim [(1, u1), (3, (.slice none 0 0)), (8, .int .i64 0)] ⟨rfl, rfl, rfl, trivial⟩ ?_
 refine Run.loopP (σ := (Int × (List convert_pair))) (fun s_ L_ w_ => ∃ u0_ : Value, L_ = [(1, u1), (3, u0_), (8, .int .i64 s_.1)] ∧ St e w_ [] [(false, .box 69 Conversion_.rep u1 a0), (true, .slice 221 convert_pair.rep u0_ s_.2)]) hF ⟨(.slice none 0 0), rfl, (h2.facts .nil).picks (.cons (.s .z) (.cons .z .nil))⟩ (fun k1 hk1 s1 _ w2 hI hF => ?_)
 obtain ⟨u2, rfl, h3⟩ := hI
 refine sr ?_
 refine bin rfl rfl rfl rfl rfl ?_
 refine nil ?_
 refine Run.seq ?_
 refine Run.ite rfl hF (fun e1 hF => ?_) (fun e1 hF => ?_)
 ·
  refine Run.skip ?_
  refine Run.seq ?_
  refine Run.block ?_
  refine sr ?_
  refine mv rfl rfl rfl ?_
  refine asg rfl rfl rfl ?_
  refine nil ?_
  refine sr ?_
  refine mv rfl rfl rfl ?_
  refine op (OpS.conv Tryz.underlying3 Tryz.underlying5 rfl rfl rfl ?_)
  refine asg rfl rfl rfl ?_
  refine nil ?_
  refine Run.seq ?_
  refine sr ?_
  refine op (OpS.fbox (o3 := 1) h3 .z PA.z fa69_1 rfl rfl rfl rfl ?_)
  refine op (OpS.loadBb h3 .z PA.a (Get.fld Conversion_.f1) ty4 rfl rfl rfl ?_)
  refine nil ?_
  refine Run.join (σ := Int) (fun s_ L_ w_ => L_ = [(1, u1), (3, u2), (5, .int .u8 s_), (8, .int .i64 s1.1)] ∧ St e w_ [] [(false, .box 69 Conversion_.rep u1 a0), (true, .slice 221 convert_pair.rep u2 s1.2)]) hF (fun s2 _ w3 hI hF => ?_) (fun j1 hj1 hF => ?_)
  ·
   obtain ⟨rfl, h4⟩ := hI
   refine sr ?_
   refine op (OpS.loadB h4 .z PA.z Get.id ty69 rfl rfl rfl (fun u3 h5 => ?_))
   refine mv rfl rfl rfl ?_
   obtain ⟨y1, e2, hF⟩ := bindP_use hF
   refine op (OpS.callP h5 Tryz.func106 rfl rfl rfl rfl (vs := [u3, .int .u8 s2]) rfl (convert_value_ok e2) (.cons (f := false) (V.at .z) .nil) ?_)
   rintro _ w4 _ _ _ ⟨rfl, rfl, rfl, rfl⟩ h6
   have h7 := h6 rfl rfl
   simp only [ca, na] at h7
   refine mv rfl rfl rfl ?_
   refine op (OpS.ext rfl rfl rfl rfl ?_)
   refine op (OpS.ext rfl rfl rfl rfl ?_)
   refine asg rfl rfl rfl ?_
   refine asg rfl rfl rfl ?_
   refine nil ?_
   refine sr ?_
   refine mv rfl rfl rfl ?_
   refine bin rfl rfl rfl rfl rfl ?_
   refine nil ?_
   refine Run.ite rfl hF (fun e3 hF => ?_) (fun e3 hF => ?_)
   ·
    refine Run.reg ?_
    refine mv rfl rfl rfl ?_
    refine mv rfl rfl rfl ?_
    refine mv rfl rfl rfl ?_
    refine op (OpS.build (f := true) (x' := (⟨s2, y1.1⟩ : convert_pair)) h7 pl221 ti221 convert_pair.zr rfl rfl rfl (.cons rfl convert_pair.f0 rfl V.int (.cons rfl convert_pair.f1 rfl V.int .nil)) (fun u4 h8 => ?_))
    refine op (OpS.lit (r := convert_pair.rep) (f := true) h8 Tryz.underlying218 ti221 rfl rfl rfl rfl rfl (.cons rfl (V.at .z) .nil) rfl rfl (fun u5 w5 h9 => ?_))
    obtain ⟨x1, e4, hF⟩ := bindP_use hF
    refine op (OpS.app (f' := true) h9 (.s .z) Tryz.underlying218 ti221 rfl rfl rfl rfl rfl rfl rfl (V.at .z) (.inr convert_pair.pure) e4 (fun u6 w6 h10 => ?_))
    refine asg rfl rfl rfl ?_
    refine nil ?_
    refine Run.endBlock ?_
    refine Run.reg ?_
    refine bin rfl rfl rfl rfl rfl ?_
    refine mv rfl rfl rfl ?_
    refine nil ?_
    refine Run.slim [(1, u1), (3, u6), (8, .int .i64 (IntKind.i64.wrap (s1.1 + 1)))] ⟨rfl, rfl, rfl, trivial⟩ ?_
    exact hk1 ((IntKind.i64.wrap (s1.1 + 1)), x1) _ _ ⟨u6, rfl, (h10.facts .nil).picks (.cons (.s .z) (.cons .z .nil))⟩ hF
   ·
    refine Run.skip ?_
    refine Run.endBlock ?_
    refine Run.reg ?_
    refine bin rfl rfl rfl rfl rfl ?_
    refine mv rfl rfl rfl ?_
    refine nil ?_
    refine Run.slim [(1, u1), (3, u2), (8, .int .i64 (IntKind.i64.wrap (s1.1 + 1)))] ⟨rfl, rfl, rfl, trivial⟩ ?_
    exact hk1 ((IntKind.i64.wrap (s1.1 + 1)), s1.2) _ _ ⟨u2, rfl, (h7.facts .nil).picks (.cons .z (.cons .z .nil))⟩ hF
  ·
   refine Run.ite rfl hF (fun e5 hF => ?_) (fun e5 hF => ?_)
   ·
    refine Run.reg ?_
    refine mv rfl rfl rfl ?_
    refine bin rfl rfl rfl rfl rfl ?_
    refine op (OpS.conv Tryz.underlying3 Tryz.underlying5 rfl rfl rfl ?_)
    refine asg rfl rfl rfl ?_
    obtain ⟨x2, e6, hF⟩ := letP_use hF
    refine RunL.name e6 ?_
    refine nil ?_
    refine Run.slim [(1, u1), (3, u2), (5, .int .u8 x2), (8, .int .i64 s1.1)] ⟨rfl, rfl, rfl, rfl, trivial⟩ ?_
    exact hj1 (x2) _ _ ⟨rfl, (h3.facts .nil).picks (.cons .z (.cons .z .nil))⟩ hF
   ·
    refine Run.skip ?_
    refine Run.slim [(1, u1), (3, u2), (5, .int .u8 (IntKind.u8.wrap s1.1)), (8, .int .i64 s1.1)] ⟨rfl, rfl, rfl, rfl, trivial⟩ ?_
    exact hj1 ((IntKind.u8.wrap s1.1)) _ _ ⟨rfl, (h3.facts .nil).picks (.cons .z (.cons .z .nil))⟩ hF
 ·
  refine Run.exit rfl ?_
  refine sr ?_
  refine mv rfl rfl rfl ?_
  refine asg rfl rfl rfl ?_
  refine nil ?_
  refine Run.retP rfl (.tmp rfl .nil) ?_
  cases hF
  exact Post.mk' ⟨u2, rfl, rfl, rfl, rfl⟩ (h3.picks (.cons (.s .z) .nil)) .nil
theorem convert_Nearest_1_2_ok {fuel : Nat} {a0 : convert_pair} {a1 : Int} {y : Int} (hF : convert_Nearest_1_2 fuel a0 a1 = some y) {w : World} {v0 v1 : Value} :
  Spec Tryz.prog 119 [v0, v1].toArray w [(false, .val convert_pair.rep v0 a0), (false, .ptr (Rep.int .i64) v1 a1)] [] (fun v Γr Ωr Ωo => v = .int .i64 y ∧ Γr = [] ∧ Ωr = [] ∧ Ωo = []) := by
 refine Spec.of (L := [(0, v0), (1, v1)]) Tryz.func119 rfl ⟨rfl, rfl, trivial⟩ rfl (fun e h => ?_)
 unfold convert_Nearest_1_2 at hF
 refine sr ?_
 refine op (OpS.boxF h rfl rfl rfl (V.at .z) (fun u1 w1 h1 => ?_))
 refine asg rfl rfl rfl ?_
 refine nil ?_
 refine sr ?_
 refine op (OpS.fbox (o3 := 1) h1 .z PA.z fa221_1 rfl rfl rfl rfl ?_)
 refine op (OpS.loadBi h1 .z PA.a (Get.fld convert_pair.f1) ty2 rfl rfl rfl ?_)
 refine op (OpS.loadi h1 ty2 rfl rfl rfl (.s .z) ?_)
 refine bin rfl rfl rfl rfl rfl ?_
 refine op (OpS.loadi h1 ty2 rfl rfl rfl (.s .z) ?_)
 refine op (OpS.fbox (o3 := 1) h1 .z PA.z fa221_1 rfl rfl rfl rfl ?_)
 refine op (OpS.loadBi h1 .z PA.a (Get.fld convert_pair.f1) ty2 rfl rfl rfl ?_)
 refine bin rfl rfl rfl rfl rfl ?_
 refine op (OpS.maxi rfl rfl rfl rfl ?_)
 refine asg rfl rfl rfl ?_
 obtain ⟨x1, e1, hF⟩ := letP_use hF
 refine RunL.name e1 ?_
 refine nil ?_
 refine Run.retP rfl (.tmp rfl .nil) ?_
 cases hF
 exact Post.mk' ⟨rfl, rfl, rfl, rfl⟩ (h1.picks .nil) .nil
set_option maxRecDepth 20000 in
theorem convert_Nearest_ok {fuel : Nat} {a0 : Conversion_} {a1 : Int} {y : Int × Int} (hF : convert_Nearest fuel a0 a1 = some y) {w : World} {v0 : Value} :
  Spec Tryz.prog 49 [v0, .int .i64 a1].toArray w [(false, .val Conversion_.rep v0 a0)] [] (fun v Γr Ωr Ωo => v = .tuple #[.int .u8 y.1, .int .i64 y.2] ∧ Γr = [] ∧ Ωr = [] ∧ Ωo = []) := by
 refine Spec.of (L := [(0, v0), (1, .int .i64 a1)]) Tryz.func49 rfl ⟨rfl, rfl, trivial⟩ rfl (fun e h => ?_)
 unfold convert_Nearest at hF
 refine sr ?_
 refine op (OpS.boxF h rfl rfl rfl (V.at .z) (fun u1 w1 h1 => ?_))
 refine op (OpS.box (f' := true) h1 rfl rfl rfl V.int (fun u2 w2 h2 => ?_))
 refine asg rfl rfl rfl ?_
 refine asg rfl rfl rfl ?_
 refine nil ?_
 refine Run.seq ?_
 refine sr ?_
 refine op (OpS.loadB h2 (.s .z) PA.z Get.id ty69 rfl rfl rfl (fun u3 h3 => ?_))
 obtain ⟨y1, e1, hF⟩ := bindP_use hF
 refine op (OpS.callP h3 Tryz.func103 rfl rfl rfl rfl (vs := [u3]) rfl (convert_Valid_ok e1) (.cons (f := false) (V.at .z) .nil) ?_)
 rintro _ w3 _ _ _ ⟨rfl, rfl, rfl, rfl⟩ h4
 have h5 := h4 rfl rfl
 simp only [ca, na] at h5
 refine op (OpS.not rfl rfl rfl ?_)
 refine nil ?_
 refine Run.ite rfl hF (fun e2 hF => ?_) (fun e2 hF => ?_)
 ·
  refine sr ?_
  refine asg rfl rfl rfl ?_
  refine asg rfl rfl rfl ?_
  refine nil ?_
  refine Run.retP rfl (.tmp rfl (.tmp rfl .nil)) ?_
  cases hF
  exact Post.mk' ⟨rfl, rfl, rfl, rfl⟩ (h5.picks .nil) .nil
 ·
  refine Run.skip ?_
  refine sr ?_
  refine op (OpS.loadB h5 (.s .z) PA.z Get.id ty69 rfl rfl rfl (fun u4 h6 => ?_))
  obtain ⟨y2, e3, hF⟩ := bindP_use hF
  refine op (OpS.callP h6 Tryz.func104 rfl rfl rfl rfl (vs := [u4]) rfl (convert_values_ok e3) (.cons (f := false) (V.at .z) .nil) ?_)
  rintro u5 w4 _ _ _ ⟨_, rfl, rfl, rfl, rfl⟩ h7
  have h8 := h7 rfl rfl
  simp only [ca, na] at h8
  refine asg rfl rfl rfl ?_
  have h9 := (h8.pick .z).freeze
  refine nil ?_
  refine Run.seq ?_
  refine sr ?_
  refine mv rfl rfl rfl ?_
  refine op (OpS.len h9 Tryz.underlying218 rfl rfl rfl (V.at .z) ?_)
  refine bin rfl rfl rfl rfl rfl ?_
  refine nil ?_
  refine Run.ite rfl hF (fun e4 hF => ?_) (fun e4 hF => ?_)
  ·
   refine sr ?_
   refine asg rfl rfl rfl ?_
   refine asg rfl rfl rfl ?_
   refine nil ?_
   refine Run.retP rfl (.tmp rfl (.tmp rfl .nil)) ?_
   cases hF
   exact Post.mk' ⟨rfl, rfl, rfl, rfl⟩ (h9.picks .nil) .nil
  ·
   refine Run.skip ?_
   refine sr ?_
   refine op (OpS.loadBi h9 .z PA.z Get.id ty2 rfl rfl rfl ?_)
   obtain ⟨y3, e5, hF⟩ := bindP_use hF
   refine op (OpS.callP h9 Tryz.func118 rfl rfl rfl rfl (vs := [.int .i64 a1]) rfl (micro_Clamp_ok e5) .nil ?_)
   rintro _ w5 _ _ _ ⟨rfl, rfl, rfl, rfl⟩ h10
   have h11 := h10 rfl rfl
   simp only [ca, na] at h11
   refine op (OpS.storeB (f' := true) h11 .z PA.z Put.id ty2 rfl rfl rfl V.int (.inl rfl) (fun w6 h12 => ?_))
   refine nil ?_
   refine sr ?_
   refine op (OpS.mkf (fl := []) (cl := [u2]) rfl rfl rfl rfl ?_)
   have h13 := (h12.pick .z).freezeBox
   refine asg rfl rfl rfl ?_
   refine nil ?_
   refine sr ?_
   refine mv rfl rfl rfl ?_
   obtain ⟨x1, e6, hF⟩ := bindP_use hF
   refine op (OpS.iptr h13 Tryz.underlying218 ty221 rfl rfl rfl rfl (V.at (.s .z)) e6 (fun u6 h14 => ?_))
   refine op (OpS.load h14 ty221 rfl rfl rfl .z (fun u7 h15 => ?_))
   refine op (OpS.alloc h15 ti221 convert_pair.zr rfl rfl (fun u8 w7 h16 => ?_))
   refine op (OpS.storeB (f' := true) h16 .z PA.z Put.id ty221 rfl rfl rfl (V.at .z) (.inl rfl) (fun w8 h17 => ?_))
   refine nil ?_
   refine Run.seq ?_
   refine sr ?_
   refine mv rfl rfl rfl ?_
   refine op (OpS.len h17 Tryz.underlying218 rfl rfl rfl (V.at (.s (.s (.s .z)))) ?_)
   refine mv rfl rfl rfl ?_
   refine nil ?_
   refine Run.block ?_
   refine Run.slim [(7, .func (.func 119) #[] #[u2]), (8, u8), (25, u5), (26, .int .i64 (y2.length : Int)), (27, .int .i64 0)] ⟨rfl, rfl, rfl, rfl, rfl, trivial⟩ ?_
   refine Run.loopP (σ := (Int × convert_pair)) (fun s_ L_ w_ => L_ = [(7, .func (.func 119) #[] #[u2]), (8, u8), (25, u5), (26, .int .i64 (y2.length : Int)), (27, .int .i64 s_.1)] ∧ St e w_ [(true, .ptr (Rep.int .i64) u2 y3), (true, .val (Rep.slice convert_pair.rep) u5 y2)] [(true, .box 221 convert_pair.rep u8 s_.2)]) hF ⟨rfl, (h17.facts (.atm (.s (.s .z)) (.atm (.s (.s (.s .z))) .nil))).picks (.cons .z .nil)⟩ (fun k1 hk1 s1 _ w9 hI hF => ?_)
   obtain ⟨rfl, h18⟩ := hI
   refine sr ?_
   refine bin rfl rfl rfl rfl rfl ?_
   refine nil ?_
   refine Run.seq ?_
   refine Run.ite rfl hF (fun e7 hF => ?_) (fun e7 hF => ?_)
   ·
    refine Run.skip ?_
    refine Run.seq ?_
    refine Run.block ?_
    refine sr ?_
    obtain ⟨x2, e8, hF⟩ := bindP_use hF
    refine op (OpS.iptr h18 Tryz.underlying218 ty221 rfl rfl rfl rfl (V.at (.s .z)) e8 (fun u9 h19 => ?_))
    refine op (OpS.load h19 ty221 rfl rfl rfl .z (fun u10 h20 => ?_))
    refine op (OpS.alloc h20 ti221 convert_pair.zr rfl rfl (fun u11 w10 h21 => ?_))
    refine op (OpS.storeB (f' := true) h21 .z PA.z Put.id ty221 rfl rfl rfl (V.at .z) (.inl rfl) (fun w11 h22 => ?_))
    refine nil ?_
    refine Run.seq ?_
    obtain ⟨y4, e9, hF⟩ := bindP_use hF
    refine Run.drawV (Ωs := []) [.k 31 (.func (.func 119) #[] #[u2]), .fr 32 (fun u_ => [(true, .val convert_pair.rep u_ x2)]) [0], .k 33 (.int .i64 y4), .k 34 (.func (.func 119) #[] #[u2]), .fr 35 (fun u_ => [(true, .val convert_pair.rep u_ s1.2)]) [1]] [[], [], [1, 0], [], []] [[(true, .box 221 convert_pair.rep u11 x2)], [(true, .box 221 convert_pair.rep u8 s1.2)]] [0, 1, 2, 3, 4, 5, 6] Try_mixed rfl rfl rfl h22 (.cons ?_ (.cons ?_ (.cons ?_ (.cons ?_ (.cons ?_ .nil))))) (fun q1 w hq1 h => ?_)
    ·intro q1 w Γx Ωx h
     refine OpS.mv rfl rfl rfl ?_
     exact ⟨undef, rfl, trivial, h⟩
    ·intro q1 w Γx Ωx h
     refine OpS.loadB h .z PA.z Get.id ty221 rfl rfl rfl (fun u h27 => ?_)
     exact ⟨u, rfl, trivial, h27⟩
    ·intro q1 w Γx Ωx h
     refine OpS.callPF (fl := []) (cl := [u2]) h Tryz.func119 rfl rfl rfl rfl rfl (vs := [(q1 1)]) rfl (convert_Nearest_1_2_ok e9) (.cons (f := true) (V.at .z) (.ptr (.s (.s (.s .z))) .nil)) ?_
     rintro _ w13 _ _ _ ⟨rfl, rfl, rfl, rfl⟩ h28
     have h29 := h28 rfl rfl
     simp only [ca, na] at h29
     exact ⟨undef, rfl, trivial, h29⟩
    ·intro q1 w Γx Ωx h
     refine OpS.mv rfl rfl rfl ?_
     exact ⟨undef, rfl, trivial, h⟩
    ·intro q1 w Γx Ωx h
     refine OpS.loadB h .z PA.z Get.id ty221 rfl rfl rfl (fun u h30 => ?_)
     exact ⟨u, rfl, trivial, h30⟩
    have h31 := h
    obtain ⟨y5, e10, hF⟩ := bindP_use hF
    refine op (OpS.callPF (fl := []) (cl := [u2]) h31 Tryz.func119 rfl rfl rfl rfl rfl (vs := [(q1 4)]) rfl (convert_Nearest_1_2_ok e10) (.cons (f := true) (V.at (.s .z)) (.ptr (.s (.s (.s (.s .z)))) .nil)) ?_)
    rintro _ w14 _ _ _ ⟨rfl, rfl, rfl, rfl⟩ h32
    have h33 := h32 rfl rfl
    simp only [ca, na] at h33
    refine bin rfl rfl rfl rfl rfl ?_
    refine nil ?_
    refine Run.ite rfl hF (fun e11 hF => ?_) (fun e11 hF => ?_)
    ·
     refine Run.reg ?_
     refine op (OpS.loadB h33 .z PA.z Get.id ty221 rfl rfl rfl (fun u12 h34 => ?_))
     refine op (OpS.storeB (f' := true) h34 (.s .z) PA.z Put.id ty221 rfl rfl rfl (V.at .z) (.inl rfl) (fun w15 h35 => ?_))
     refine nil ?_
     refine Run.endBlock ?_
     refine Run.reg ?_
     refine bin rfl rfl rfl rfl rfl ?_
     refine mv rfl rfl rfl ?_
     refine nil ?_
     refine Run.slim [(7, .func (.func 119) #[] #[u2]), (8, u8), (25, u5), (26, .int .i64 (y2.length : Int)), (27, .int .i64 (IntKind.i64.wrap (s1.1 + 1)))] ⟨rfl, rfl, rfl, rfl, rfl, trivial⟩ ?_
     exact hk1 ((IntKind.i64.wrap (s1.1 + 1)), x2) _ _ ⟨rfl, (h35.facts (.atm (.s (.s (.s (.s (.s .z))))) (.atm (.s (.s (.s (.s (.s (.s .z)))))) .nil))).picks (.cons .z .nil)⟩ hF
    ·
     refine Run.skip ?_
     refine Run.endBlock ?_
     refine Run.reg ?_
     refine bin rfl rfl rfl rfl rfl ?_
     refine mv rfl rfl rfl ?_
     refine nil ?_
     refine Run.slim [(7, .func (.func 119) #[] #[u2]), (8, u8), (25, u5), (26, .int .i64 (y2.length : Int)), (27, .int .i64 (IntKind.i64.wrap (s1.1 + 1)))] ⟨rfl, rfl, rfl, rfl, rfl, trivial⟩ ?_
     exact hk1 ((IntKind.i64.wrap (s1.1 + 1)), s1.2) _ _ ⟨rfl, (h33.facts (.atm (.s (.s (.s (.s .z)))) (.atm (.s (.s (.s (.s (.s .z))))) .nil))).picks (.cons (.s .z) .nil)⟩ hF
   ·
    refine Run.exit rfl ?_
    refine sr ?_
    refine op (OpS.fbox (o3 := 0) h18 .z PA.z fa221_0 rfl rfl rfl rfl ?_)
    refine op (OpS.loadBi h18 .z PA.a (Get.fld convert_pair.f0) ty5 rfl rfl rfl ?_)
    refine asg rfl rfl rfl ?_
    refine asg rfl rfl rfl ?_
    refine nil ?_
    refine Run.retP rfl (.tmp rfl (.tmp rfl .nil)) ?_
    cases hF
    exact Post.mk' ⟨rfl, rfl, rfl, rfl⟩ (h18.picks .nil) .nil
theorem threshold_Reached_ok {fuel : Nat} {a0 : Sensor_} {a1 : Int} {y : Int × Int} (hF : threshold_Reached fuel a0 a1 = some y) {w : World} {v0 : Value} :
  Spec Tryz.prog 50 [v0, .int .u8 a1].toArray w [(false, .val Sensor_.rep v0 a0)] [] (fun v Γr Ωr Ωo => v = .tuple #[.int .u8 y.1, .int .i64 y.2] ∧ Γr = [] ∧ Ωr = [] ∧ Ωo = []) := by
 refine Spec.of (L := [(0, v0), (1, .int .u8 a1)]) Tryz.func50 rfl ⟨rfl, rfl, trivial⟩ rfl (fun e h => ?_)
 unfold threshold_Reached at hF
 refine sr ?_
 refine op (OpS.boxF h rfl rfl rfl (V.at .z) (fun u1 w1 h1 => ?_))
 refine asg rfl rfl rfl ?_
 refine asg rfl rfl rfl ?_
 refine nil ?_
 refine Run.seq ?_
 refine sr ?_
 refine op (OpS.loadB h1 .z PA.z Get.id ty74 rfl rfl rfl (fun u2 h2 => ?_))
 obtain ⟨y1, e1, hF⟩ := bindP_use hF
 refine op (OpS.callP h2 Tryz.func120 rfl rfl rfl rfl (vs := [u2]) rfl (threshold_analog_ok e1) (.cons (f := false) (V.at .z) .nil) ?_)
 rintro _ w2 _ _ _ ⟨rfl, rfl, rfl, rfl⟩ h3
 have h4 := h3 rfl rfl
 simp only [ca, na] at h4
 refine op (OpS.not rfl rfl rfl ?_)
 refine nil ?_
 refine Run.ite rfl hF (fun e2 hF => ?_) (fun e2 hF => ?_)
 ·
  refine sr ?_
  refine asg rfl rfl rfl ?_
  refine asg rfl rfl rfl ?_
  refine nil ?_
  refine Run.retP rfl (.tmp rfl (.tmp rfl .nil)) ?_
  cases hF
  exact Post.mk' ⟨rfl, rfl, rfl, rfl⟩ (h4.picks .nil) .nil
 ·
  refine Run.skip ?_
  refine sr ?_
  refine op (OpS.loadB h4 .z PA.z Get.id ty74 rfl rfl rfl (fun u3 h5 => ?_))
  refine mv rfl rfl rfl ?_
  obtain ⟨y2, e3, hF⟩ := bindP_use hF
  refine op (OpS.callP h5 Tryz.func121 rfl rfl rfl rfl (vs := [u3, .int .u8 0, .int .u8 a1]) rfl (threshold_next_ok e3) (.cons (f := false) (V.at .z) .nil) ?_)
  rintro _ w3 _ _ _ ⟨rfl, rfl, rfl, rfl⟩ h6
  have h7 := h6 rfl rfl
  simp only [ca, na] at h7
  refine asg rfl rfl rfl ?_
  refine asg rfl rfl rfl ?_
  refine nil ?_
  refine Run.retP rfl (.tmp rfl (.tmp rfl .nil)) ?_
  cases hF
  exact Post.mk' ⟨rfl, rfl, rfl, rfl⟩ (h7.picks .nil) .nil
set_option maxHeartbeats 8000000 in set_option maxRecDepth 20000 in
theorem convert_Direction_ok {fuel : Nat} {a0 : Conversion_} {y : Int × Int} (hF : convert_Direction fuel a0 = some y) {w : World} {v0 : Value} :
  Spec Tryz.prog 37 [v0].toArray w [(false, .val Conversion_.rep v0 a0)] [] (fun v Γr Ωr Ωo => v = .tuple #[.int .i64 y.1, .int .i64 y.2] ∧ Γr = [] ∧ Ωr = [] ∧ Ωo = []) := by
 refine Spec.of (L := [(0, v0)]) Tryz.func37 rfl ⟨rfl, trivial⟩ rfl (fun e h => ?_)
 unfold convert_Direction at hF
 refine sr ?_
 refine op (OpS.boxF h rfl rfl rfl (V.at .z) (fun u1 w1 h1 => ?_))
 refine asg rfl rfl rfl ?_
 refine asg rfl rfl rfl ?_
 refine nil ?_
 refine Run.seq ?_
 refine sr ?_
 refine op (OpS.loadB h1 .z PA.z Get.id ty69 rfl rfl rfl (fun u2 h2 => ?_))
 obtain ⟨y1, e1, hF⟩ := bindP_use hF
 refine op (OpS.callP h2 Tryz.func103 rfl rfl rfl rfl (vs := [u2]) rfl (convert_Valid_ok e1) (.cons (f := false) (V.at .z) .nil) ?_)
 rintro _ w2 _ _ _ ⟨rfl, rfl, rfl, rfl⟩ h3
 have h4 := h3 rfl rfl
 simp only [ca, na] at h4
 refine op (OpS.not rfl rfl rfl ?_)
 refine nil ?_
 refine Run.ite rfl hF (fun e2 hF => ?_) (fun e2 hF => ?_)
 ·
  refine sr ?_
  refine asg rfl rfl rfl ?_
  refine asg rfl rfl rfl ?_
  refine nil ?_
  refine Run.retP rfl (.tmp rfl (.tmp rfl .nil)) ?_
  cases hF
  exact Post.mk' ⟨rfl, rfl, rfl, rfl⟩ (h4.picks .nil) .nil
 ·
  refine Run.skip ?_
  refine sr ?_
  refine asg rfl rfl rfl ?_
  refine asg rfl rfl rfl ?_
  refine nil ?_
  refine sr ?_
  refine op (OpS.loadB h4 .z PA.z Get.id ty69 rfl rfl rfl (fun u3 h5 => ?_))
  obtain ⟨y2, e3, hF⟩ := bindP_use hF
  refine op (OpS.callP h5 Tryz.func104 rfl rfl rfl rfl (vs := [u3]) rfl (convert_values_ok e3) (.cons (f := false) (V.at .z) .nil) ?_)
  rintro u4 w3 _ _ _ ⟨_, rfl, rfl, rfl, rfl⟩ h6
  have h7 := h6 rfl rfl
  simp only [ca, na] at h7
  refine asg rfl rfl rfl ?_
  have h8 := (h7.pick .z).freeze
  refine nil ?_
  refine Run.seq ?_
  refine sr ?_
  refine asg rfl rfl rfl ?_
  refine nil ?_
  refine Run.block ?_
  refine Run.slim [(4, .bool false), (5, .bool false), (6, u4), (7, .int .i64 1)] ⟨rfl, rfl, rfl, rfl, trivial⟩ ?_
  refine Run.loopP (σ := (Bool × Bool × Int)) (fun s_ L_ w_ => L_ = [(4, .bool s_.1), (5, .bool s_.2.1), (6, u4), (7, .int .i64 s_.2.2)] ∧ St e w_ [(true, .val (Rep.slice convert_pair.rep) u4 y2)] []) hF ⟨rfl, (h8.facts (.atm .z .nil)).picks .nil⟩ (fun k1 hk1 s1 _ w4 hI hF => ?_)
  obtain ⟨rfl, h9⟩ := hI
  refine Run.seq ?_
  refine sr ?_
  refine mv rfl rfl rfl ?_
  refine mv rfl rfl rfl ?_
  refine op (OpS.len h9 Tryz.underlying218 rfl rfl rfl (V.at .z) ?_)
  refine bin rfl rfl rfl rfl rfl ?_
  refine nil ?_
  refine Run.ite rfl hF (fun e4 hF => ?_) (fun e4 hF => ?_)
  ·
   refine Run.skip ?_
   refine Run.seq ?_
   refine Run.block ?_
   refine Run.seq ?_
   refine Run.join (σ := Bool) (fun s_ L_ w_ => L_ = [(4, .bool s_), (5, .bool s1.2.1), (6, u4), (7, .int .i64 s1.2.2)] ∧ St e w_ [(true, .val (Rep.slice convert_pair.rep) u4 y2)] []) hF (fun s2 _ w5 hI hF => ?_) (fun j1 hj1 hF => ?_)
   ·
    obtain ⟨rfl, h10⟩ := hI
    obtain ⟨x1, e5, hF⟩ := letP_use hF
    refine iteP_use hF (fun e6 hF => ?_) (fun e6 hF => ?_)
    ·
     have hG := hF
     subst e6
     have hF := hG
     refine Run.drawV (Ωs := []) [.k 34 (.bool s1.2.1), .k 35 (.bool true), .k 36 undef, .k 37 undef, .k 38 undef, .k 39 undef, .k 40 undef, .k 41 undef, .k 42 undef, .k 43 undef, .k 44 undef, .k 45 undef, .k 46 undef] [[], [0], [1], [1], [1], [1], [1], [1], [1], [1], [1], [1], [1]] [] [0, 1, 2, 3, 4, 5, 6, 7, 8, 9, 10, 11, 12] Try_mixed rfl rfl rfl h10 (.cons ?_ (.cons ?_ (.cons ?_ (.cons ?_ (.cons ?_ (.cons ?_ (.cons ?_ (.cons ?_ (.cons ?_ (.cons ?_ (.cons ?_ (.cons ?_ (.cons ?_ .nil))))))))))))) (fun q1 w hq1 h => ?_)
     ·intro q1 w Γx Ωx h
      refine OpS.mv rfl rfl rfl ?_
      exact ⟨undef, rfl, trivial, h⟩
     ·intro q1 w Γx Ωx h
      refine OpS.mv rfl rfl rfl ?_
      exact ⟨undef, (congrArg (fun z_ => some (Value.bool z_)) e5), trivial, h⟩
     ·intro q1 w Γx Ωx h
      exact OpS.pass rfl rfl rfl ⟨undef, rfl, trivial, h⟩
     ·intro q1 w Γx Ωx h
      exact OpS.pass rfl rfl rfl ⟨undef, rfl, trivial, h⟩
     ·intro q1 w Γx Ωx h
      exact OpS.pass rfl rfl rfl ⟨undef, rfl, trivial, h⟩
     ·intro q1 w Γx Ωx h
      exact OpS.pass rfl rfl rfl ⟨undef, rfl, trivial, h⟩
     ·intro q1 w Γx Ωx h
      exact OpS.pass rfl rfl rfl ⟨undef, rfl, trivial, h⟩
     ·intro q1 w Γx Ωx h
      exact OpS.pass rfl rfl rfl ⟨undef, rfl, trivial, h⟩
     ·intro q1 w Γx Ωx h
      exact OpS.pass rfl rfl rfl ⟨undef, rfl, trivial, h⟩
     ·intro q1 w Γx Ωx h
      exact OpS.pass rfl rfl rfl ⟨undef, rfl, trivial, h⟩
     ·intro q1 w Γx Ωx h
      exact OpS.pass rfl rfl rfl ⟨undef, rfl, trivial, h⟩
     ·intro q1 w Γx Ωx h
      exact OpS.pass rfl rfl rfl ⟨undef, rfl, trivial, h⟩
     ·intro q1 w Γx Ωx h
      exact OpS.pass rfl rfl rfl ⟨undef, rfl, trivial, h⟩
     have h11 := h
     refine pass rfl rfl rfl ?_
     refine pick rfl rfl rfl rfl ?_
     refine asg rfl rfl rfl ?_
     refine nil ?_
     refine Run.endBlock ?_
     refine Run.reg ?_
     refine mv rfl rfl rfl ?_
     refine bin rfl rfl rfl rfl rfl ?_
     refine asg rfl rfl rfl ?_
     obtain ⟨x2, e7, hF⟩ := letP_use hF
     refine RunL.name e7 ?_
     refine nil ?_
     refine Run.slim [(4, .bool s2), (5, .bool true), (6, u4), (7, .int .i64 x2)] ⟨rfl, rfl, rfl, rfl, trivial⟩ ?_
     exact hk1 (s2, true, x2) _ _ ⟨rfl, (h11.facts (.atm .z .nil)).picks .nil⟩ hF
    ·
     have hG := hF
     subst e6
     have hF := hG
     obtain ⟨x3, e8, hF⟩ := bindP_use hF
     obtain ⟨x4, e9, hF⟩ := bindP_use hF
     refine Run.drawV (Ωs := []) [.k 34 (.bool s1.2.1), .k 35 (.bool false), .k 36 u4, .k 37 (.int .i64 s1.2.2), .f 38 (fun u_ => [(true, .ptr convert_pair.rep u_ x3)]), .f 39 (fun u_ => [(true, .ptr (Rep.int .i64) u_ x3.value)]), .k 40 (.int .i64 x3.value), .k 41 u4, .k 42 (.int .i64 s1.2.2), .k 43 (.int .i64 (IntKind.i64.wrap (s1.2.2 - 1))), .f 44 (fun u_ => [(true, .ptr convert_pair.rep u_ x4)]), .f 45 (fun u_ => [(true, .ptr (Rep.int .i64) u_ x4.value)]), .k 46 (.int .i64 x4.value)] [[], [0], [1], [1], [2, 3, 1], [4, 1], [5, 1], [1], [1], [8, 1], [7, 9, 1], [10, 1], [11, 1]] [] [0, 1, 2, 3, 4, 5, 6, 7, 8, 9, 10, 11, 12] Try_mixed rfl rfl rfl h10 (.cons ?_ (.cons ?_ (.cons ?_ (.cons ?_ (.cons ?_ (.cons ?_ (.cons ?_ (.cons ?_ (.cons ?_ (.cons ?_ (.cons ?_ (.cons ?_ (.cons ?_ .nil))))))))))))) (fun q1 w hq2 h => ?_)
     ·intro q1 w Γx Ωx h
      refine OpS.mv rfl rfl rfl ?_
      exact ⟨undef, rfl, trivial, h⟩
     ·intro q1 w Γx Ωx h
      refine OpS.mv rfl rfl rfl ?_
      exact ⟨undef, (congrArg (fun z_ => some (Value.bool z_)) e5), trivial, h⟩
     ·intro q1 w Γx Ωx h
      refine OpS.mv rfl rfl rfl ?_
      exact ⟨undef, rfl, trivial, h⟩
     ·intro q1 w Γx Ωx h
      refine OpS.mv rfl rfl rfl ?_
      exact ⟨undef, rfl, trivial, h⟩
     ·intro q1 w Γx Ωx h
      refine OpS.iptr h Tryz.underlying218 ty221 rfl rfl rfl rfl (V.at .z) e8 (fun u h16 => ?_)
      exact ⟨u, rfl, trivial, h16⟩
     ·intro q1 w Γx Ωx h
      refine OpS.fptr h fa221_1 convert_pair.f1 rfl rfl rfl .z (fun u h17 => ?_)
      exact ⟨u, rfl, trivial, h17⟩
     ·intro q1 w Γx Ωx h
      refine OpS.loadi h ty2 rfl rfl rfl .z ?_
      exact ⟨undef, rfl, trivial, h⟩
     ·intro q1 w Γx Ωx h
      refine OpS.mv rfl rfl rfl ?_
      exact ⟨undef, rfl, trivial, h⟩
     ·intro q1 w Γx Ωx h
      refine OpS.mv rfl rfl rfl ?_
      exact ⟨undef, rfl, trivial, h⟩
     ·intro q1 w Γx Ωx h
      refine OpS.bin rfl rfl rfl rfl rfl ?_
      exact ⟨undef, rfl, trivial, h⟩
     ·intro q1 w Γx Ωx h
      refine OpS.iptr h Tryz.underlying218 ty221 rfl rfl rfl rfl (V.at .z) e9 (fun u h18 => ?_)
      exact ⟨u, rfl, trivial, h18⟩
     ·intro q1 w Γx Ωx h
      refine OpS.fptr h fa221_1 convert_pair.f1 rfl rfl rfl .z (fun u h19 => ?_)
      exact ⟨u, rfl, trivial, h19⟩
     ·intro q1 w Γx Ωx h
      refine OpS.loadi h ty2 rfl rfl rfl .z ?_
      exact ⟨undef, rfl, trivial, h⟩
     have h20 := h
     refine bin rfl rfl rfl rfl rfl ?_
     refine pick rfl rfl rfl rfl ?_
     refine asg rfl rfl rfl ?_
     obtain ⟨x5, e10, hF⟩ := letP_use hF
     refine RunL.nameb e10 ?_
     refine nil ?_
     refine Run.endBlock ?_
     refine Run.reg ?_
     refine mv rfl rfl rfl ?_
     refine bin rfl rfl rfl rfl rfl ?_
     refine asg rfl rfl rfl ?_
     obtain ⟨x6, e11, hF⟩ := letP_use hF
     refine RunL.name e11 ?_
     refine nil ?_
     refine Run.slim [(4, .bool s2), (5, .bool x5), (6, u4), (7, .int .i64 x6)] ⟨rfl, rfl, rfl, rfl, trivial⟩ ?_
     exact hk1 (s2, x5, x6) _ _ ⟨rfl, (h20.facts (.atm (.s (.s (.s (.s .z)))) .nil)).picks .nil⟩ hF
   ·
    obtain ⟨x7, e12, hF⟩ := letP_use hF
    refine iteP_use hF (fun e13 hF => ?_) (fun e13 hF => ?_)
    ·
     have hG := hF
     subst e13
     have hF := hG
     refine Run.drawV (Ωs := []) [.k 19 (.bool s1.1), .k 20 (.bool true), .k 21 undef, .k 22 undef, .k 23 undef, .k 24 undef, .k 25 undef, .k 26 undef, .k 27 undef, .k 28 undef, .k 29 undef, .k 30 undef, .k 31 undef] [[], [0], [1], [1], [1], [1], [1], [1], [1], [1], [1], [1], [1]] [] [0, 1, 2, 3, 4, 5, 6, 7, 8, 9, 10, 11, 12] Try_mixed rfl rfl rfl h9 (.cons ?_ (.cons ?_ (.cons ?_ (.cons ?_ (.cons ?_ (.cons ?_ (.cons ?_ (.cons ?_ (.cons ?_ (.cons ?_ (.cons ?_ (.cons ?_ (.cons ?_ .nil))))))))))))) (fun q2 w hq3 h => ?_)
     ·intro q2 w Γx Ωx h
      refine OpS.mv rfl rfl rfl ?_
      exact ⟨undef, rfl, trivial, h⟩
     ·intro q2 w Γx Ωx h
      refine OpS.mv rfl rfl rfl ?_
      exact ⟨undef, (congrArg (fun z_ => some (Value.bool z_)) e12), trivial, h⟩
     ·intro q2 w Γx Ωx h
      exact OpS.pass rfl rfl rfl ⟨undef, rfl, trivial, h⟩
     ·intro q2 w Γx Ωx h
      exact OpS.pass rfl rfl rfl ⟨undef, rfl, trivial, h⟩
     ·intro q2 w Γx Ωx h
      exact OpS.pass rfl rfl rfl ⟨undef, rfl, trivial, h⟩
     ·intro q2 w Γx Ωx h
      exact OpS.pass rfl rfl rfl ⟨undef, rfl, trivial, h⟩
     ·intro q2 w Γx Ωx h
      exact OpS.pass rfl rfl rfl ⟨undef, rfl, trivial, h⟩
     ·intro q2 w Γx Ωx h
      exact OpS.pass rfl rfl rfl ⟨undef, rfl, trivial, h⟩
     ·intro q2 w Γx Ωx h
      exact OpS.pass rfl rfl rfl ⟨undef, rfl, trivial, h⟩
     ·intro q2 w Γx Ωx h
      exact OpS.pass rfl rfl rfl ⟨undef, rfl, trivial, h⟩
     ·intro q2 w Γx Ωx h
      exact OpS.pass rfl rfl rfl ⟨undef, rfl, trivial, h⟩
     ·intro q2 w Γx Ωx h
      exact OpS.pass rfl rfl rfl ⟨undef, rfl, trivial, h⟩
     ·intro q2 w Γx Ωx h
      exact OpS.pass rfl rfl rfl ⟨undef, rfl, trivial, h⟩
     have h21 := h
     refine pass rfl rfl rfl ?_
     refine pick rfl rfl rfl rfl ?_
     refine asg rfl rfl rfl ?_
     refine nil ?_
     refine Run.slim [(4, .bool true), (5, .bool s1.2.1), (6, u4), (7, .int .i64 s1.2.2)] ⟨rfl, rfl, rfl, rfl, trivial⟩ ?_
     exact hj1 (true) _ _ ⟨rfl, (h21.facts (.atm .z .nil)).picks .nil⟩ hF
    ·
     have hG := hF
     subst e13
     have hF := hG
     obtain ⟨x8, e14, hF⟩ := bindP_use hF
     obtain ⟨x9, e15, hF⟩ := bindP_use hF
     refine Run.drawV (Ωs := []) [.k 19 (.bool s1.1), .k 20 (.bool false), .k 21 u4, .k 22 (.int .i64 s1.2.2), .f 23 (fun u_ => [(true, .ptr convert_pair.rep u_ x8)]), .f 24 (fun u_ => [(true, .ptr (Rep.int .i64) u_ x8.value)]), .k 25 (.int .i64 x8.value), .k 26 u4, .k 27 (.int .i64 s1.2.2), .k 28 (.int .i64 (IntKind.i64.wrap (s1.2.2 - 1))), .f 29 (fun u_ => [(true, .ptr convert_pair.rep u_ x9)]), .f 30 (fun u_ => [(true, .ptr (Rep.int .i64) u_ x9.value)]), .k 31 (.int .i64 x9.value)] [[], [0], [1], [1], [2, 3, 1], [4, 1], [5, 1], [1], [1], [8, 1], [7, 9, 1], [10, 1], [11, 1]] [] [0, 1, 2, 3, 4, 5, 6, 7, 8, 9, 10, 11, 12] Try_mixed rfl rfl rfl h9 (.cons ?_ (.cons ?_ (.cons ?_ (.cons ?_ (.cons ?_ (.cons ?_ (.cons ?_ (.cons ?_ (.cons ?_ (.cons ?_ (.cons ?_ (.cons ?_ (.cons ?_ .nil))))))))))))) (fun q2 w hq4 h => ?_)
     ·intro q2 w Γx Ωx h
      refine OpS.mv rfl rfl rfl ?_
      exact ⟨undef, rfl, trivial, h⟩
     ·intro q2 w Γx Ωx h
      refine OpS.mv rfl rfl rfl ?_
      exact ⟨undef, (congrArg (fun z_ => some (Value.bool z_)) e12), trivial, h⟩
     ·intro q2 w Γx Ωx h
      refine OpS.mv rfl rfl rfl ?_
      exact ⟨undef, rfl, trivial, h⟩
     ·intro q2 w Γx Ωx h
      refine OpS.mv rfl rfl rfl ?_
      exact ⟨undef, rfl, trivial, h⟩
     ·intro q2 w Γx Ωx h
      refine OpS.iptr h Tryz.underlying218 ty221 rfl rfl rfl rfl (V.at .z) e14 (fun u h26 => ?_)
      exact ⟨u, rfl, trivial, h26⟩
     ·intro q2 w Γx Ωx h
      refine OpS.fptr h fa221_1 convert_pair.f1 rfl rfl rfl .z (fun u h27 => ?_)
      exact ⟨u, rfl, trivial, h27⟩
     ·intro q2 w Γx Ωx h
      refine OpS.loadi h ty2 rfl rfl rfl .z ?_
      exact ⟨undef, rfl, trivial, h⟩
     ·intro q2 w Γx Ωx h
      refine OpS.mv rfl rfl rfl ?_
      exact ⟨undef, rfl, trivial, h⟩
     ·intro q2 w Γx Ωx h
      refine OpS.mv rfl rfl rfl ?_
      exact ⟨undef, rfl, trivial, h⟩
     ·intro q2 w Γx Ωx h
      refine OpS.bin rfl rfl rfl rfl rfl ?_
      exact ⟨undef, rfl, trivial, h⟩
     ·intro q2 w Γx Ωx h
      refine OpS.iptr h Tryz.underlying218 ty221 rfl rfl rfl rfl (V.at .z) e15 (fun u h28 => ?_)
      exact ⟨u, rfl, trivial, h28⟩
     ·intro q2 w Γx Ωx h
      refine OpS.fptr h fa221_1 convert_pair.f1 rfl rfl rfl .z (fun u h29 => ?_)
      exact ⟨u, rfl, trivial, h29⟩
     ·intro q2 w Γx Ωx h
      refine OpS.loadi h ty2 rfl rfl rfl .z ?_
      exact ⟨undef, rfl, trivial, h⟩
     have h30 := h
     refine bin rfl rfl rfl rfl rfl ?_
     refine pick rfl rfl rfl rfl ?_
     refine asg rfl rfl rfl ?_
     obtain ⟨x10, e16, hF⟩ := letP_use hF
     refine RunL.nameb e16 ?_
     refine nil ?_
     refine Run.slim [(4, .bool x10), (5, .bool s1.2.1), (6, u4), (7, .int .i64 s1.2.2)] ⟨rfl, rfl, rfl, rfl, trivial⟩ ?_
     exact hj1 (x10) _ _ ⟨rfl, (h30.facts (.atm (.s (.s (.s (.s .z)))) .nil)).picks .nil⟩ hF
  ·
   refine Run.exit rfl ?_
   refine Run.seq ?_
   refine Run.block ?_
   refine sr ?_
   refine mv rfl rfl rfl ?_
   refine op (OpS.not rfl rfl rfl ?_)
   refine asg rfl rfl rfl ?_
   obtain ⟨x11, e17, hF⟩ := letP_use hF
   refine RunL.nameb e17 ?_
   refine nil ?_
   refine Run.ite rfl hF (fun e18 hF => ?_) (fun e18 hF => ?_)
   ·
    refine sr ?_
    refine asg rfl rfl rfl ?_
    refine asg rfl rfl rfl ?_
    refine nil ?_
    refine Run.retP rfl (.tmp rfl (.tmp rfl .nil)) ?_
    cases hF
    exact Post.mk' ⟨rfl, rfl, rfl, rfl⟩ (h9.picks .nil) .nil
   ·
    refine sr ?_
    refine mv rfl rfl rfl ?_
    refine op (OpS.not rfl rfl rfl ?_)
    refine asg rfl rfl rfl ?_
    obtain ⟨x12, e19, hF⟩ := letP_use hF
    refine RunL.nameb e19 ?_
    refine nil ?_
    refine Run.ite rfl hF (fun e20 hF => ?_) (fun e20 hF => ?_)
    ·
     refine sr ?_
     refine asg rfl rfl rfl ?_
     refine asg rfl rfl rfl ?_
     refine nil ?_
     refine Run.retP rfl (.tmp rfl (.tmp rfl .nil)) ?_
     cases hF
     exact Post.mk' ⟨rfl, rfl, rfl, rfl⟩ (h9.picks .nil) .nil
    ·
     refine Run.skip ?_
     refine Run.endBlock ?_
     refine sr ?_
     refine asg rfl rfl rfl ?_
     refine asg rfl rfl rfl ?_
     refine nil ?_
     refine Run.retP rfl (.tmp rfl (.tmp rfl .nil)) ?_
     cases hF
     exact Post.mk' ⟨rfl, rfl, rfl, rfl⟩ (h9.picks .nil) .nil
theorem convert_Value_ok {fuel : Nat} {a0 : Conversion_} {a1 : Int} {y : Int × Int} (hF : convert_Value fuel a0 a1 = some y) {w : World} {v0 : Value} :
  Spec Tryz.prog 39 [v0, .int .u8 a1].toArray w [(false, .val Conversion_.rep v0 a0)] [] (fun v Γr Ωr Ωo => v = .tuple #[.int .i64 y.1, .int .i64 y.2] ∧ Γr = [] ∧ Ωr = [] ∧ Ωo = []) := by
 refine Spec.of (L := [(0, v0), (1, .int .u8 a1)]) Tryz.func39 rfl ⟨rfl, rfl, trivial⟩ rfl (fun e h => ?_)
 unfold convert_Value at hF
 refine sr ?_
 refine op (OpS.boxF h rfl rfl rfl (V.at .z) (fun u1 w1 h1 => ?_))
 refine asg rfl rfl rfl ?_
 refine asg rfl rfl rfl ?_
 refine nil ?_
 refine Run.seq ?_
 refine sr ?_
 refine op (OpS.loadB h1 .z PA.z Get.id ty69 rfl rfl rfl (fun u2 h2 => ?_))
 obtain ⟨y1, e1, hF⟩ := bindP_use hF
 refine op (OpS.callP h2 Tryz.func103 rfl rfl rfl rfl (vs := [u2]) rfl (convert_Valid_ok e1) (.cons (f := false) (V.at .z) .nil) ?_)
 rintro _ w2 _ _ _ ⟨rfl, rfl, rfl, rfl⟩ h3
 have h4 := h3 rfl rfl
 simp only [ca, na] at h4
 refine op (OpS.not rfl rfl rfl ?_)
 refine nil ?_
 refine Run.ite rfl hF (fun e2 hF => ?_) (fun e2 hF => ?_)
 ·
  refine sr ?_
  refine asg rfl rfl rfl ?_
  refine asg rfl rfl rfl ?_
  refine nil ?_
  refine Run.retP rfl (.tmp rfl (.tmp rfl .nil)) ?_
  cases hF
  exact Post.mk' ⟨rfl, rfl, rfl, rfl⟩ (h4.picks .nil) .nil
 ·
  refine Run.skip ?_
  refine sr ?_
  refine op (OpS.loadB h4 .z PA.z Get.id ty69 rfl rfl rfl (fun u3 h5 => ?_))
  refine mv rfl rfl rfl ?_
  obtain ⟨y2, e3, hF⟩ := bindP_use hF
  refine op (OpS.callP h5 Tryz.func106 rfl rfl rfl rfl (vs := [u3, .int .u8 a1]) rfl (convert_value_ok e3) (.cons (f := false) (V.at .z) .nil) ?_)
  rintro _ w3 _ _ _ ⟨rfl, rfl, rfl, rfl⟩ h6
  have h7 := h6 rfl rfl
  simp only [ca, na] at h7
  refine op (OpS.ext rfl rfl rfl rfl ?_)
  refine op (OpS.ext rfl rfl rfl rfl ?_)
  refine asg rfl rfl rfl ?_
  refine asg rfl rfl rfl ?_
  refine nil ?_
  refine Run.retP rfl (.tmp rfl (.tmp rfl .nil)) ?_
  cases hF
  exact Post.mk' ⟨rfl, rfl, rfl, rfl⟩ (h7.picks .nil) .nil
set_option maxHeartbeats 8000000 in set_option maxRecDepth 20000 in
theorem top_TopProgrammed_ok {fuel : Nat} {a0 : List Int} {a1 : Int} {a2 : Int} {y : Bool} (hF : top_TopProgrammed fuel a0 a1 a2 = some y) {w : World} {v0 : Value} :
  Spec Tryz.prog 7 [v0, .int .i64 a1, .int .u8 a2].toArray w [(false, .val (Rep.slice (Rep.int .i64)) v0 a0), (false, .ptr (Rep.arr 6 (Rep.int .u8)) (.pointer (some ⟨0, 0, none⟩)) ([0, 2, 4, 7, 9, 11]))] [] (fun v Γr Ωr Ωo => v = .bool y ∧ Γr = [] ∧ Ωr = [] ∧ Ωo = []) := by
 refine Spec.of (L := [(0, v0), (1, .int .i64 a1), (2, .int .u8 a2)]) Tryz.func7 rfl ⟨rfl, rfl, rfl, trivial⟩ rfl (fun e h => ?_)
 unfold top_TopProgrammed at hF
 refine sr ?_
 refine asg rfl rfl rfl ?_
 refine nil ?_
 refine Run.seq ?_
 refine sr ?_
 obtain ⟨y1, e1, hF⟩ := bindP_use hF
 refine op (OpS.callP h Tryz.func9 rfl rfl rfl rfl (vs := []) rfl (top_first_ok e1) (.ptr (.s .z) .nil) ?_)
 rintro _ w1 _ _ _ ⟨rfl, rfl, rfl, rfl⟩ h1
 have h2 := h1 rfl rfl
 simp only [ca, na] at h2
 refine op (OpS.not rfl rfl rfl ?_)
 refine nil ?_
 refine Run.ite rfl hF (fun e2 hF => ?_) (fun e2 hF => ?_)
 ·
  refine sr ?_
  refine asg rfl rfl rfl ?_
  refine nil ?_
  refine Run.retP rfl (.tmp rfl .nil) ?_
  cases hF
  exact Post.mk' ⟨rfl, rfl, rfl, rfl⟩ (h2.picks .nil) .nil
 ·
  refine Run.skip ?_
  refine Run.seq ?_
  refine sr ?_
  refine mv rfl rfl rfl ?_
  obtain ⟨y2, e3, hF⟩ := bindP_use hF
  refine op (OpS.callP h2 Tryz.func10 rfl rfl rfl rfl (vs := [v0]) rfl (made_Light_ok e3) (.cons (f := false) (V.at .z) .nil) ?_)
  rintro _ w2 _ _ _ ⟨rfl, rfl, rfl, rfl⟩ h3
  have h4 := h3 rfl rfl
  simp only [ca, na] at h4
  refine op (OpS.not rfl rfl rfl ?_)
  refine nil ?_
  refine Run.ite rfl hF (fun e4 hF => ?_) (fun e4 hF => ?_)
  ·
   refine sr ?_
   refine asg rfl rfl rfl ?_
   refine nil ?_
   refine Run.retP rfl (.tmp rfl .nil) ?_
   cases hF
   exact Post.mk' ⟨rfl, rfl, rfl, rfl⟩ (h4.picks .nil) .nil
  ·
   refine Run.skip ?_
   refine sr ?_
   refine mv rfl rfl rfl ?_
   obtain ⟨y3, e5, hF⟩ := bindP_use hF
   have h5 := h4.front .nil
   refine op (OpS.callO h5 Tryz.func12 rfl rfl rfl rfl (vs := [v0]) rfl (made_Roll_ok e5) rfl (.cons (f := false) (V.at .z) .nil) ?_)
   rintro u1 w3 _ _ _ ⟨_, rfl, rfl, rfl, rfl⟩ h6
   have h7 := h6
   simp only [ca, na] at h7
   obtain ⟨y4, e6, hF⟩ := bindP_use hF
   have h8 := h7.front (.cons .z .nil)
   refine op (OpS.callO h8 Tryz.func36 rfl rfl rfl rfl (vs := [u1, .int .u8 1]) rfl (made_Dice_Analog_ok e6) rfl .nil ?_)
   rintro u2 w4 _ _ _ ⟨_, rfl, rfl, rfl, rfl⟩ h9
   have h10 := h9
   simp only [ca, na] at h10
   refine op (OpS.alloc h10 ti74 Sensor_.zr rfl rfl (fun u3 w5 h11 => ?_))
   refine op (OpS.storeB (f' := true) h11 .z PA.z Put.id ty74 rfl rfl rfl (V.at .z) (.inl rfl) (fun w6 h12 => ?_))
   refine nil ?_
   refine sr ?_
   refine op (OpS.fbox (o3 := 7) h12 .z PA.z fa74_6 rfl rfl rfl rfl ?_)
   refine op (OpS.loadB h12 .z PA.a (Get.fld Sensor_.f6) ty69 rfl rfl rfl (fun u4 h13 => ?_))
   refine mv rfl rfl rfl ?_
   obtain ⟨y5, e7, hF⟩ := bindP_use hF
   refine op (OpS.callP h13 Tryz.func49 rfl rfl rfl rfl (vs := [u4, .int .i64 a1]) rfl (convert_Nearest_ok e7) (.cons (f := true) (V.at .z) .nil) ?_)
   rintro _ w7 _ _ _ ⟨rfl, rfl, rfl, rfl⟩ h14
   have h15 := h14 rfl rfl
   simp only [ca, na] at h15
   refine mv rfl rfl rfl ?_
   refine op (OpS.ext rfl rfl rfl rfl ?_)
   refine op (OpS.ext rfl rfl rfl rfl ?_)
   refine asg rfl rfl rfl ?_
   refine asg rfl rfl rfl ?_
   refine nil ?_
   refine Run.seq ?_
   refine sr ?_
   refine mv rfl rfl rfl ?_
   refine bin rfl rfl rfl rfl rfl ?_
   refine nil ?_
   refine Run.ite rfl hF (fun e8 hF => ?_) (fun e8 hF => ?_)
   ·
    refine sr ?_
    refine mv rfl rfl rfl ?_
    refine bin rfl rfl rfl rfl rfl ?_
    refine asg rfl rfl rfl ?_
    obtain ⟨x1, e9, hF⟩ := letP_use hF
    refine RunL.nameb e9 ?_
    refine nil ?_
    refine Run.retP rfl (.tmp rfl .nil) ?_
    cases hF
    exact Post.mk' ⟨rfl, rfl, rfl, rfl⟩ (h15.picks .nil) .nil
   ·
    refine Run.skip ?_
    refine sr ?_
    refine mv rfl rfl rfl ?_
    refine op (OpS.buildG (f := true) (r := (Rep.int .u8)) (xs := (upd (List.replicate 6 0) (4 : Int) y5.1)) h15 Tryz.underlying70 ti5 rfl ti70 (Zr.of (Zr.arr (Zr.int .u8 0) 6) rfl) rfl rfl (.cons (by rfl) rfl V.int .nil) (fun u5 h16 => ?_))
    refine op (OpS.build (f := true) (x' := (⟨16, (upd (List.replicate 6 0) (4 : Int) y5.1)⟩ : Thresholds_)) h16 pl72 ti72 Thresholds_.zr rfl rfl rfl (.cons rfl Thresholds_.f0 rfl V.int (.cons rfl Thresholds_.f1 rfl (V.at .z) .nil)) (fun u6 h17 => ?_))
    refine op (OpS.fbox (o3 := 14) h17 .z PA.z fa74_7 rfl rfl rfl rfl ?_)
    obtain ⟨d1, e10, hF⟩ := letP_use hF
    refine op (OpS.storeB (f' := true) h17 .z PA.a (Put.of (Put.fld Sensor_.f7) e10) ty72 rfl rfl rfl (V.at .z) (.inl rfl) (fun w8 h18 => ?_))
    refine nil ?_
    refine sr ?_
    refine op (OpS.fbox (o3 := 24) h18 .z PA.z fa74_11 rfl rfl rfl rfl ?_)
    obtain ⟨d2, e11, hF⟩ := letP_use hF
    refine op (OpS.storeB (f' := true) h18 .z PA.a (Put.of (Put.fld Sensor_.f11) e11) ty49 rfl rfl rfl V.int (.inl rfl) (fun w9 h19 => ?_))
    refine op (OpS.fbox (o3 := 25) h19 .z PA.z fa74_12 rfl rfl rfl rfl ?_)
    obtain ⟨d3, e12, hF⟩ := letP_use hF
    refine op (OpS.storeB (f' := true) h19 .z PA.a (Put.of (Put.fld Sensor_.f12) e12) ty49 rfl rfl rfl V.int (.inl rfl) (fun w10 h20 => ?_))
    refine nil ?_
    refine sr ?_
    refine op (OpS.loadB h20 .z PA.z Get.id ty74 rfl rfl rfl (fun u7 h21 => ?_))
    refine mv rfl rfl rfl ?_
    obtain ⟨y6, e13, hF⟩ := bindP_use hF
    refine op (OpS.callP h21 Tryz.func50 rfl rfl rfl rfl (vs := [u7, .int .u8 a2]) rfl (threshold_Reached_ok e13) (.cons (f := true) (V.at .z) .nil) ?_)
    rintro _ w11 _ _ _ ⟨rfl, rfl, rfl, rfl⟩ h22
    have h23 := h22 rfl rfl
    simp only [ca, na] at h23
    refine mv rfl rfl rfl ?_
    refine op (OpS.ext rfl rfl rfl rfl ?_)
    refine op (OpS.ext rfl rfl rfl rfl ?_)
    refine asg rfl rfl rfl ?_
    refine asg rfl rfl rfl ?_
    refine nil ?_
    refine Run.slim [(11, .int .i64 y6.2), (10, .int .u8 y6.1), (8, .int .u8 y5.1), (7, u3), (2, .int .u8 a2)] ⟨rfl, rfl, rfl, rfl, rfl, trivial⟩ ?_
    refine sr ?_
    refine asg rfl rfl rfl ?_
    refine nil ?_
    refine Run.seq ?_
    refine Run.seq ?_
    obtain ⟨y7, e14, hF⟩ := bindP_use hF
    refine Run.drawV (Ωs := [(false, .box 163 made_Dice.rep u1 y4.2)]) [.kr 50 (padd u3 7) [0], .kr 51 (padd u3 8) [0], .kr 52 (.bool d3.Conversion.Signed) [0], .k 53 (.int .u8 a2), .k 54 (.int .i64 y7), .kr 55 (padd u3 7) [0], .kr 56 (padd u3 8) [0], .kr 57 (.bool d3.Conversion.Signed) [0], .k 58 (.int .u8 y5.1)] [[], [0], [1], [], [2, 3], [], [5], [6], []] [[(true, .box 74 Sensor_.rep u3 d3)]] [0, 1, 2, 3, 4, 5, 6, 7, 8, 9] Try_mixed rfl rfl rfl h23 (.cons ?_ (.cons ?_ (.cons ?_ (.cons ?_ (.cons ?_ (.cons ?_ (.cons ?_ (.cons ?_ (.cons ?_ .nil))))))))) (fun q1 w hq1 h => ?_)
    ·intro q1 w Γx Ωx h
     refine OpS.fbox (o3 := 7) h .z PA.z fa74_6 rfl rfl rfl rfl ?_
     exact ⟨undef, rfl, trivial, h⟩
    ·intro q1 w Γx Ωx h
     refine OpS.fbox (o3 := 8) h .z PA.a fa69_1 rfl rfl rfl rfl ?_
     exact ⟨undef, rfl, trivial, h⟩
    ·intro q1 w Γx Ωx h
     refine OpS.loadBb h .z PA.a (Get.comp (Get.fld Sensor_.f6) (Get.fld Conversion_.f1)) ty4 rfl rfl rfl ?_
     exact ⟨undef, rfl, trivial, h⟩
    ·intro q1 w Γx Ωx h
     refine OpS.mv rfl rfl rfl ?_
     exact ⟨undef, rfl, trivial, h⟩
    ·intro q1 w Γx Ωx h
     refine OpS.callP h Tryz.func51 rfl rfl rfl rfl (vs := [.bool d3.Conversion.Signed, .int .u8 a2]) rfl (convert_Number_ok e14) .nil ?_
     rintro _ w13 _ _ _ ⟨rfl, rfl, rfl, rfl⟩ h26
     have h27 := h26 rfl rfl
     simp only [ca, na] at h27
     exact ⟨undef, rfl, trivial, h27⟩
    ·intro q1 w Γx Ωx h
     refine OpS.fbox (o3 := 7) h .z PA.z fa74_6 rfl rfl rfl rfl ?_
     exact ⟨undef, rfl, trivial, h⟩
    ·intro q1 w Γx Ωx h
     refine OpS.fbox (o3 := 8) h .z PA.a fa69_1 rfl rfl rfl rfl ?_
     exact ⟨undef, rfl, trivial, h⟩
    ·intro q1 w Γx Ωx h
     refine OpS.loadBb h .z PA.a (Get.comp (Get.fld Sensor_.f6) (Get.fld Conversion_.f1)) ty4 rfl rfl rfl ?_
     exact ⟨undef, rfl, trivial, h⟩
    ·intro q1 w Γx Ωx h
     refine OpS.mv rfl rfl rfl ?_
     exact ⟨undef, rfl, trivial, h⟩
    have h28 := h
    obtain ⟨y8, e15, hF⟩ := bindP_use hF
    refine op (OpS.callP h28 Tryz.func51 rfl rfl rfl rfl (vs := [.bool d3.Conversion.Signed, .int .u8 y5.1]) rfl (convert_Number_ok e15) .nil ?_)
    rintro _ w14 _ _ _ ⟨rfl, rfl, rfl, rfl⟩ h29
    have h30 := h29 rfl rfl
    simp only [ca, na] at h30
    refine bin rfl rfl rfl rfl rfl ?_
    refine nil ?_
    refine Run.join (σ := Int) (fun s_ L_ w_ => L_ = [(2, .int .u8 a2), (7, u3), (8, .int .u8 y5.1), (10, .int .u8 y6.1), (11, .int .i64 y6.2), (12, .int .u8 s_)] ∧ St e w_ [(false, .ptr (Rep.arr 6 (Rep.int .u8)) (.pointer (some ⟨0, 0, none⟩)) ([0, 2, 4, 7, 9, 11]))] [(true, .box 74 Sensor_.rep u3 d3)]) hF (fun s1 _ w15 hI hF => ?_) (fun j1 hj1 hF => ?_)
    ·
     obtain ⟨rfl, h31⟩ := hI
     refine Run.seq ?_
     refine sr ?_
     refine mv rfl rfl rfl ?_
     refine bin rfl rfl rfl rfl rfl ?_
     refine mv rfl rfl rfl ?_
     refine RunL.join (σ := Bool) (fun s_ L_ w_ => L_ = [(2, .int .u8 a2), (7, u3), (8, .int .u8 y5.1), (12, .int .u8 s1), (67, .bool s_)] ∧ St e w_ [(false, .ptr (Rep.arr 6 (Rep.int .u8)) (.pointer (some ⟨0, 0, none⟩)) ([0, 2, 4, 7, 9, 11]))] [(true, .box 74 Sensor_.rep u3 d3)]) hF (fun s2 _ w16 hI hF => ?_) (fun j2 hj2 hF => ?_)
     ·
      obtain ⟨rfl, h32⟩ := hI
      refine Run.ite rfl hF (fun e16 hF => ?_) (fun e16 hF => ?_)
      ·
       refine sr ?_
       refine asg rfl rfl rfl ?_
       refine nil ?_
       refine Run.retP rfl (.tmp rfl .nil) ?_
       cases hF
       exact Post.mk' ⟨rfl, rfl, rfl, rfl⟩ (h32.picks .nil) .nil
      ·
       refine Run.skip ?_
       refine sr ?_
       refine op (OpS.fbox (o3 := 7) h32 .z PA.z fa74_6 rfl rfl rfl rfl ?_)
       refine op (OpS.loadB h32 .z PA.a (Get.fld Sensor_.f6) ty69 rfl rfl rfl (fun u8 h33 => ?_))
       obtain ⟨y9, e17, hF⟩ := bindP_use hF
       refine op (OpS.callP h33 Tryz.func37 rfl rfl rfl rfl (vs := [u8]) rfl (convert_Direction_ok e17) (.cons (f := true) (V.at .z) .nil) ?_)
       rintro _ w17 _ _ _ ⟨rfl, rfl, rfl, rfl⟩ h34
       have h35 := h34 rfl rfl
       simp only [ca, na] at h35
       refine mv rfl rfl rfl ?_
       refine op (OpS.ext rfl rfl rfl rfl ?_)
       refine op (OpS.ext rfl rfl rfl rfl ?_)
       refine asg rfl rfl rfl ?_
       refine asg rfl rfl rfl ?_
       refine nil ?_
       refine sr ?_
       refine op (OpS.fbox (o3 := 7) h35 .z PA.z fa74_6 rfl rfl rfl rfl ?_)
       refine op (OpS.loadB h35 .z PA.a (Get.fld Sensor_.f6) ty69 rfl rfl rfl (fun u9 h36 => ?_))
       refine mv rfl rfl rfl ?_
       obtain ⟨y10, e18, hF⟩ := bindP_use hF
       refine op (OpS.callP h36 Tryz.func39 rfl rfl rfl rfl (vs := [u9, .int .u8 a2]) rfl (convert_Value_ok e18) (.cons (f := true) (V.at .z) .nil) ?_)
       rintro _ w18 _ _ _ ⟨rfl, rfl, rfl, rfl⟩ h37
       have h38 := h37 rfl rfl
       simp only [ca, na] at h38
       refine mv rfl rfl rfl ?_
       refine op (OpS.ext rfl rfl rfl rfl ?_)
       refine op (OpS.ext rfl rfl rfl rfl ?_)
       refine asg rfl rfl rfl ?_
       refine asg rfl rfl rfl ?_
       refine nil ?_
       refine sr ?_
       refine op (OpS.fbox (o3 := 7) h38 .z PA.z fa74_6 rfl rfl rfl rfl ?_)
       refine op (OpS.loadB h38 .z PA.a (Get.fld Sensor_.f6) ty69 rfl rfl rfl (fun u10 h39 => ?_))
       refine mv rfl rfl rfl ?_
       obtain ⟨y11, e19, hF⟩ := bindP_use hF
       refine op (OpS.callP h39 Tryz.func39 rfl rfl rfl rfl (vs := [u10, .int .u8 y5.1]) rfl (convert_Value_ok e19) (.cons (f := true) (V.at .z) .nil) ?_)
       rintro _ w19 _ _ _ ⟨rfl, rfl, rfl, rfl⟩ h40
       have h41 := h40 rfl rfl
       simp only [ca, na] at h41
       refine mv rfl rfl rfl ?_
       refine op (OpS.ext rfl rfl rfl rfl ?_)
       refine op (OpS.ext rfl rfl rfl rfl ?_)
       refine asg rfl rfl rfl ?_
       refine asg rfl rfl rfl ?_
       refine nil ?_
       refine sr ?_
       refine mv rfl rfl rfl ?_
       refine bin rfl rfl rfl rfl rfl ?_
       refine mv rfl rfl rfl ?_
       refine RunL.caseb hF (fun e20 hF => ?_) (fun e20 hF => ?_)
       ·
        refine mv rfl rfl rfl ?_
        refine bin rfl rfl rfl rfl rfl ?_
        refine pick rfl rfl rfl rfl ?_
        refine mv rfl rfl rfl ?_
        refine RunL.caseb hF (fun e21 hF => ?_) (fun e21 hF => ?_)
        ·
         refine mv rfl rfl rfl ?_
         refine bin rfl rfl rfl rfl rfl ?_
         refine mv rfl rfl rfl ?_
         refine RunL.caseb hF (fun e22 hF => ?_) (fun e22 hF => ?_)
         ·
          refine pass rfl rfl rfl ?_
          refine pass rfl rfl rfl ?_
          refine pick rfl rfl rfl rfl ?_
          refine mv rfl rfl rfl ?_
          refine pass rfl rfl rfl ?_
          refine pass rfl rfl rfl ?_
          refine pick rfl rfl rfl rfl ?_
          refine mv rfl rfl rfl ?_
          refine pass rfl rfl rfl ?_
          refine pass rfl rfl rfl ?_
          refine pass rfl rfl rfl ?_
          refine pick rfl rfl rfl rfl ?_
          refine pick rfl rfl rfl rfl ?_
          refine asg rfl rfl rfl ?_
          refine nil ?_
          refine Run.slim [(6, .bool true)] ⟨rfl, trivial⟩ ?_
          refine Run.retP rfl (.tmp rfl .nil) ?_
          cases hF
          exact Post.mk' ⟨rfl, rfl, rfl, rfl⟩ (h41.picks .nil) .nil
         ·
          refine mv rfl rfl rfl ?_
          refine bin rfl rfl rfl rfl rfl ?_
          refine pick rfl rfl rfl rfl ?_
          refine mv rfl rfl rfl ?_
          refine RunL.caseb hF (fun e23 hF => ?_) (fun e23 hF => ?_)
          ·
           refine pass rfl rfl rfl ?_
           refine pass rfl rfl rfl ?_
           refine pick rfl rfl rfl rfl ?_
           refine mv rfl rfl rfl ?_
           refine pass rfl rfl rfl ?_
           refine pass rfl rfl rfl ?_
           refine pass rfl rfl rfl ?_
           refine pick rfl rfl rfl rfl ?_
           refine pick rfl rfl rfl rfl ?_
           refine asg rfl rfl rfl ?_
           refine nil ?_
           refine Run.slim [(6, .bool true)] ⟨rfl, trivial⟩ ?_
           refine Run.retP rfl (.tmp rfl .nil) ?_
           cases hF
           exact Post.mk' ⟨rfl, rfl, rfl, rfl⟩ (h41.picks .nil) .nil
          ·
           refine mv rfl rfl rfl ?_
           refine bin rfl rfl rfl rfl rfl ?_
           refine pick rfl rfl rfl rfl ?_
           refine mv rfl rfl rfl ?_
           refine RunL.caseb hF (fun e24 hF => ?_) (fun e24 hF => ?_)
           ·
            refine pass rfl rfl rfl ?_
            refine pass rfl rfl rfl ?_
            refine pass rfl rfl rfl ?_
            refine pick rfl rfl rfl rfl ?_
            refine pick rfl rfl rfl rfl ?_
            refine asg rfl rfl rfl ?_
            refine nil ?_
            refine Run.slim [(6, .bool true)] ⟨rfl, trivial⟩ ?_
            refine Run.retP rfl (.tmp rfl .nil) ?_
            cases hF
            exact Post.mk' ⟨rfl, rfl, rfl, rfl⟩ (h41.picks .nil) .nil
           ·
            refine mv rfl rfl rfl ?_
            refine mv rfl rfl rfl ?_
            refine bin rfl rfl rfl rfl rfl ?_
            refine pick rfl rfl rfl rfl ?_
            refine pick rfl rfl rfl rfl ?_
            refine asg rfl rfl rfl ?_
            obtain ⟨x2, e25, hF⟩ := letP_use hF
            refine RunL.nameb e25 ?_
            refine nil ?_
            refine Run.slim [(6, .bool x2)] ⟨rfl, trivial⟩ ?_
            refine Run.retP rfl (.tmp rfl .nil) ?_
            cases hF
            exact Post.mk' ⟨rfl, rfl, rfl, rfl⟩ (h41.picks .nil) .nil
        ·
         refine pass rfl rfl rfl ?_
         refine pass rfl rfl rfl ?_
         refine pass rfl rfl rfl ?_
         refine pass rfl rfl rfl ?_
         refine pass rfl rfl rfl ?_
         refine pass rfl rfl rfl ?_
         refine pass rfl rfl rfl ?_
         refine pass rfl rfl rfl ?_
         refine pass rfl rfl rfl ?_
         refine pass rfl rfl rfl ?_
         refine pass rfl rfl rfl ?_
         refine pass rfl rfl rfl ?_
         refine pass rfl rfl rfl ?_
         refine pass rfl rfl rfl ?_
         refine pass rfl rfl rfl ?_
         refine pick rfl rfl rfl rfl ?_
         refine asg rfl rfl rfl ?_
         refine nil ?_
         refine Run.slim [(6, .bool false)] ⟨rfl, trivial⟩ ?_
         refine Run.retP rfl (.tmp rfl .nil) ?_
         cases hF
         exact Post.mk' ⟨rfl, rfl, rfl, rfl⟩ (h41.picks .nil) .nil
       ·
        refine pass rfl rfl rfl ?_
        refine pass rfl rfl rfl ?_
        refine pick rfl rfl rfl rfl ?_
        refine mv rfl rfl rfl ?_
        refine pass rfl rfl rfl ?_
        refine pass rfl rfl rfl ?_
        refine pass rfl rfl rfl ?_
        refine pass rfl rfl rfl ?_
        refine pass rfl rfl rfl ?_
        refine pass rfl rfl rfl ?_
        refine pass rfl rfl rfl ?_
        refine pass rfl rfl rfl ?_
        refine pass rfl rfl rfl ?_
        refine pass rfl rfl rfl ?_
        refine pass rfl rfl rfl ?_
        refine pass rfl rfl rfl ?_
        refine pass rfl rfl rfl ?_
        refine pass rfl rfl rfl ?_
        refine pass rfl rfl rfl ?_
        refine pick rfl rfl rfl rfl ?_
        refine asg rfl rfl rfl ?_
        refine nil ?_
        refine Run.slim [(6, .bool false)] ⟨rfl, trivial⟩ ?_
        refine Run.retP rfl (.tmp rfl .nil) ?_
        cases hF
        exact Post.mk' ⟨rfl, rfl, rfl, rfl⟩ (h41.picks .nil) .nil
     ·
      refine RunL.caseb hF (fun e26 hF => ?_) (fun e26 hF => ?_)
      ·
       refine pass rfl rfl rfl ?_
       refine pass rfl rfl rfl ?_
       refine pass rfl rfl rfl ?_
       refine pick rfl rfl rfl rfl ?_
       refine nil ?_
       refine Run.slim [(2, .int .u8 a2), (7, u3), (8, .int .u8 y5.1), (12, .int .u8 s1), (67, .bool true)] ⟨rfl, rfl, rfl, rfl, rfl, trivial⟩ ?_
       exact hj2 (true) _ _ ⟨rfl, (h31.facts (.atm .z .nil)).picks (.cons .z .nil)⟩ hF
      ·
       refine mv rfl rfl rfl ?_
       refine mv rfl rfl rfl ?_
       refine bin rfl rfl rfl rfl rfl ?_
       refine pick rfl rfl rfl rfl ?_
       refine nil ?_
       refine Run.slim [(2, .int .u8 a2), (7, u3), (8, .int .u8 y5.1), (12, .int .u8 s1), (67, .bool (y6.1 != s1))] ⟨rfl, rfl, rfl, rfl, rfl, trivial⟩ ?_
       exact hj2 (y6.1 != s1) _ _ ⟨rfl, (h31.facts (.atm .z .nil)).picks (.cons .z .nil)⟩ hF
    ·
     refine Run.ite rfl hF (fun e27 hF => ?_) (fun e27 hF => ?_)
     ·
      refine Run.reg ?_
      refine asg rfl rfl rfl ?_
      refine nil ?_
      refine Run.slim [(2, .int .u8 a2), (7, u3), (8, .int .u8 y5.1), (10, .int .u8 y6.1), (11, .int .i64 y6.2), (12, .int .u8 16)] ⟨rfl, rfl, rfl, rfl, rfl, rfl, trivial⟩ ?_
      exact hj1 (16) _ _ ⟨rfl, (h30.facts (.atm (.s (.s (.s (.s (.s (.s .z)))))) .nil)).picks (.cons .z .nil)⟩ hF
     ·
      refine Run.skip ?_
      refine Run.slim [(2, .int .u8 a2), (7, u3), (8, .int .u8 y5.1), (10, .int .u8 y6.1), (11, .int .i64 y6.2), (12, .int .u8 0)] ⟨rfl, rfl, rfl, rfl, rfl, rfl, trivial⟩ ?_
      exact hj1 (0) _ _ ⟨rfl, (h30.facts (.atm (.s (.s (.s (.s (.s (.s .z)))))) .nil)).picks (.cons .z .nil)⟩ hF
end Lift
