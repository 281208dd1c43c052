/- Each Go function computes its plain function. Written by lift.py. -/
import Derived.Test.YtedddoifbhcinaaBusTogetherWalksA
set_option linter.unusedVariables false
set_option linter.unusedSimpArgs false
namespace Lift
open Go Go.Proofs
open RunL (op)
theorem made_Dice_Frame_ok {fuel : Nat} {a0 : made_Dice} {y : Frame_ × made_Dice} (hF : made_Dice_Frame fuel a0 = some y) {w : World} {v0 : Value} :
  Spec Try.prog 15 [v0].toArray w [] [(false, .box 81 made_Dice.rep v0 a0)] (fun v Γr Ωr Ωo => ∃ u0 : Value, v = u0 ∧ Γr = [(true, .val Frame_.rep u0 y.1)] ∧ Ωr = [] ∧ Ωo = [(false, .box 81 made_Dice.rep v0 y.2)]) := by
 refine Spec.of (L := [(0, v0)]) Try.func15 rfl ⟨rfl, trivial⟩ rfl (fun e h => ?_)
 unfold made_Dice_Frame at hF
 refine Run.seq ?_
 refine Run.reg ?_
 refine op (OpS.alloc h ti36 Frame_.zr rfl rfl (fun u1 w1 h1 => ?_))
 refine RunL.nil ?_
 refine Run.seq ?_
 refine Run.reg ?_
 refine op (OpS.mv rfl rfl rfl ?_)
 obtain ⟨y1, e1, hF⟩ := bindP_use hF
 have h2 := h1.front (.cons (.s .z) .nil)
 refine op (OpS.callO h2 Try.func32 rfl rfl rfl rfl (vs := [v0, .int .i64 4]) rfl (made_Dice_Next_ok e1) rfl .nil ?_)
 rintro _ w2 _ _ _ ⟨rfl, rfl, rfl, rfl⟩ h3
 have h4 := h3
 simp only [List.cons_append, List.nil_append] at h4
 refine op (OpS.bin rfl rfl rfl rfl rfl ?_)
 refine op (OpS.conv Try.underlying3 Try.underlying5 rfl rfl rfl ?_)
 refine op (OpS.mv rfl rfl rfl ?_)
 obtain ⟨y2, e2, hF⟩ := bindP_use hF
 have h5 := h4.front (.cons .z .nil)
 refine op (OpS.callO h5 Try.func32 rfl rfl rfl rfl (vs := [v0, .int .i64 3]) rfl (made_Dice_Next_ok e2) rfl .nil ?_)
 rintro _ w3 _ _ _ ⟨rfl, rfl, rfl, rfl⟩ h6
 have h7 := h6
 simp only [List.cons_append, List.nil_append] at h7
 refine op (OpS.bin rfl rfl rfl rfl rfl ?_)
 refine op (OpS.conv Try.underlying3 Try.underlying5 rfl rfl rfl ?_)
 refine op (OpS.mv rfl rfl rfl ?_)
 obtain ⟨y3, e3, hF⟩ := bindP_use hF
 have h8 := h7.front (.cons .z .nil)
 refine op (OpS.callO h8 Try.func33 rfl rfl rfl rfl (vs := [v0, .int .i64 6]) rfl (made_Dice_Bytes_ok e3) rfl .nil ?_)
 rintro u2 w4 _ _ _ ⟨_, rfl, rfl, rfl, rfl⟩ h9
 have h10 := h9
 simp only [List.cons_append, List.nil_append] at h10
 have h11 := (h10.pick .z).freeze
 refine op (OpS.build (f := true) (x' := (⟨(IntKind.u8.wrap (IntKind.i64.wrap (8 + y1.1))), (IntKind.u8.wrap (IntKind.i64.wrap (32 + y2.1))), y3.1⟩ : Frame_)) h11 pl36 ti36 Frame_.zr rfl rfl rfl (.cons rfl Frame_.f0 rfl V.int (.cons rfl Frame_.f1 rfl V.int (.cons rfl Frame_.f2 rfl (V.at .z) .nil))) (fun u3 h12 => ?_))
 refine op (OpS.alloc h12 ti36 Frame_.zr rfl rfl (fun u4 w5 h13 => ?_))
 refine op (OpS.storeB (f' := true) h13 .z PA.z Put.id ty36 rfl rfl rfl (V.at .z) (.inl rfl) (fun w6 h14 => ?_))
 refine RunL.nil ?_
 refine Run.slim [(3, u4), (2, u1), (0, v0)] ⟨rfl, rfl, rfl, trivial⟩ ?_
 refine Run.seq ?_
 refine Run.seq ?_
 refine Run.reg ?_
 refine op (OpS.mv rfl rfl rfl ?_)
 obtain ⟨y4, e4, hF⟩ := bindP_use hF
 have h15 := h14.front (.cons (.s .z) .nil)
 refine op (OpS.callO h15 Try.func34 rfl rfl rfl rfl (vs := [v0, .int .i64 30]) rfl (made_Dice_Bool_ok e4) rfl .nil ?_)
 rintro _ w7 _ _ _ ⟨rfl, rfl, rfl, rfl⟩ h16
 have h17 := h16
 simp only [List.cons_append, List.nil_append] at h17
 refine RunL.nil ?_
 refine Run.slim [(16, .bool y4.1), (3, u4), (2, u1)] ⟨rfl, rfl, rfl, trivial⟩ ?_
 refine Run.ite rfl hF (fun e5 hF => ?_) (fun e5 hF => ?_)
 ·
  refine Run.seq ?_
  refine Run.reg ?_
  obtain ⟨x1, e6, hF⟩ := bindP_use hF
  refine op (OpS.make h17 Try.underlying34 ti5 rfl rfl (Zr.int .u8 0) rfl rfl rfl rfl e6 (by simp) (mk_fits e6) rfl (fun u5 w8 h18 => ?_))
  refine op (OpS.fbox (o3 := 2) h18 (.s (.s .z)) PA.z fa36_2 rfl rfl rfl rfl ?_)
  refine op (OpS.storeC (f' := true) (fr := (Rep.raw u5)) (r' := (Rep.iso (fun s : Frame_ => (s.To, s.From, s.Data, ())) (Rep.prod (Rep.int .u8) (Rep.prod (Rep.int .u8) (Rep.prod (Rep.raw (α := List Int) u5) Rep.unit))))) (x' := (⟨(IntKind.u8.wrap (IntKind.i64.wrap (8 + y1.1))), (IntKind.u8.wrap (IntKind.i64.wrap (32 + y2.1))), y3.1⟩ : Frame_)) h18 (.s (.s .z)) PA.a (Chg.iso _ (Chg.there (Chg.there (Chg.here (Chg.id (by rfl)))))) (Ty.like ty34 (by rfl) (by rfl)) rfl rfl rfl (V.raw (f := true) (St.own1 h18 .z) ((⟨(IntKind.u8.wrap (IntKind.i64.wrap (8 + y1.1))), (IntKind.u8.wrap (IntKind.i64.wrap (32 + y2.1))), y3.1⟩ : Frame_).Data)) (.inl rfl) (fun w9 h19 => ?_))
  refine RunL.nil ?_
  refine Run.slim [(3, u4), (2, u1)] ⟨rfl, rfl, trivial⟩ ?_
  refine Run.reg ?_
  refine op (OpS.fbox (o3 := 0) h19 .z PA.z fa36_0 rfl rfl rfl rfl ?_)
  obtain ⟨d1, e7, hF⟩ := letP_use hF
  refine op (OpS.storeC (f' := true) (fr := (Rep.int .u8)) (r' := (Rep.iso (fun s : Frame_ => (s.To, s.From, s.Data, ())) (Rep.prod (Rep.int .u8) (Rep.prod (Rep.int .u8) (Rep.prod (Rep.raw (α := List Int) u5) Rep.unit))))) (x' := d1) h19 .z PA.a (Chg.of (x' := { (⟨(IntKind.u8.wrap (IntKind.i64.wrap (8 + y1.1))), (IntKind.u8.wrap (IntKind.i64.wrap (32 + y2.1))), y3.1⟩ : Frame_) with To := 119 }) (Chg.iso _ (Chg.here (Chg.id (by rfl)))) e7) ty5 rfl rfl rfl V.int (.inl rfl) (fun w10 h20 => ?_))
  refine RunL.nil ?_
  refine Run.slim [(3, u4), (2, u1)] ⟨rfl, rfl, trivial⟩ ?_
  refine Run.seq ?_
  refine Run.reg ?_
  refine op (OpS.loadB (fr := (Rep.iso (fun s : Frame_ => (s.To, s.From, s.Data, ())) (Rep.prod (Rep.int .u8) (Rep.prod (Rep.int .u8) (Rep.prod (Rep.raw (α := List Int) u5) Rep.unit))))) h20 .z PA.z (GetS.ok GetS.id) (Ty.like ty36 (by rfl) (by rfl)) rfl rfl rfl (fun u6 h21 => ?_))
  refine op (OpS.storeC (f' := true) (fr := (Rep.iso (fun s : Frame_ => (s.To, s.From, s.Data, ())) (Rep.prod (Rep.int .u8) (Rep.prod (Rep.int .u8) (Rep.prod (Rep.raw (α := List Int) u5) Rep.unit))))) (r' := (Rep.iso (fun s : Frame_ => (s.To, s.From, s.Data, ())) (Rep.prod (Rep.int .u8) (Rep.prod (Rep.int .u8) (Rep.prod (Rep.raw (α := List Int) u5) Rep.unit))))) (x' := d1) h21 (.s (.s (.s .z))) PA.z (Chg.id (by rfl)) (Ty.like ty36 (by rfl) (by rfl)) rfl rfl rfl (V.at .z) (.inl rfl) (fun w11 h22 => ?_))
  refine RunL.nil ?_
  refine Run.slim [(2, u1)] ⟨rfl, trivial⟩ ?_
  obtain ⟨u7, hu1, h23⟩ := res_box h22 .z (Ty.like ty36 (by rfl) (by rfl))
  have h24 := (h23.pick (.s (.s .z))).freeze
  have h25 := h24.pick .z
  have h26 := St.boxJ (r' := Frame_.rep) (x' := { d1 with Data := x1 }) h25 (fun _ _ hs_ => (Jn.iso _ (Jn.prod Jn.refl (Jn.prod Jn.refl (Jn.prod (Jn.raw ((V.at .z) _ _ hs_) rfl) Jn.refl)))))
  have h27 := h26.pick (.s .z)
  have h28 := St.boxJ (r' := Frame_.rep) (x' := { d1 with Data := x1 }) h27 (fun _ _ hs_ => (Jn.iso _ (Jn.prod Jn.refl (Jn.prod Jn.refl (Jn.prod (Jn.raw ((V.at .z) _ _ hs_) rfl) Jn.refl)))))
  have h29 := St.addV (f := true) (r := Frame_.rep) (x := { d1 with Data := x1 }) h28 (V.jn (r := (Rep.iso (fun s : Frame_ => (s.To, s.From, s.Data, ())) (Rep.prod (Rep.int .u8) (Rep.prod (Rep.int .u8) (Rep.prod (Rep.raw (α := List Int) u5) Rep.unit))))) (x := d1) (V.at (.s .z)) rfl (fun _ _ hs_ => (Jn.iso _ (Jn.prod Jn.refl (Jn.prod Jn.refl (Jn.prod (Jn.raw ((V.at .z) _ _ hs_) rfl) Jn.refl))))))
  refine Run.retP rfl (.cell rfl hu1 .nil) ?_
  cases hF
  exact Post.mk' ⟨u7, rfl, rfl, rfl, rfl⟩ (h29.picks (.cons (.s (.s .z)) .nil)) (.val (V.at .z) .nil)
 ·
  refine Run.skip ?_
  refine Run.seq ?_
  refine Run.reg ?_
  refine op (OpS.loadB h17 (.s .z) PA.z Get.id ty36 rfl rfl rfl (fun u8 h30 => ?_))
  refine op (OpS.storeB (f' := true) h30 (.s (.s .z)) PA.z Put.id ty36 rfl rfl rfl (V.at .z) (.inl rfl) (fun w12 h31 => ?_))
  refine RunL.nil ?_
  refine Run.slim [(2, u1)] ⟨rfl, trivial⟩ ?_
  obtain ⟨u9, hu2, h32⟩ := res_box h31 .z ty36
  refine Run.retP rfl (.cell rfl hu2 .nil) ?_
  cases hF
  exact Post.mk' ⟨u9, rfl, rfl, rfl, rfl⟩ (h32.picks (.cons (.s .z) .nil)) (.val (V.at .z) .nil)
theorem made_Light_ok {fuel : Nat} {a0 : List Int} {y : Bool} (hF : made_Light fuel a0 = some y) {w : World} {v0 : Value} :
  Spec Try.prog 24 [v0].toArray w [(false, .val (Rep.slice (Rep.int .i64)) v0 a0)] [] (fun v Γr Ωr Ωo => v = .bool y ∧ Γr = [] ∧ Ωr = [] ∧ Ωo = []) := by
 refine Spec.of (L := [(0, v0)]) Try.func24 rfl ⟨rfl, trivial⟩ rfl (fun e h => ?_)
 unfold made_Light at hF
 refine Run.seq ?_
 refine Run.reg ?_
 refine op (OpS.as rfl rfl rfl ?_)
 refine RunL.nil ?_
 refine Run.slim [(0, v0)] ⟨rfl, trivial⟩ ?_
 refine Run.seq ?_
 refine Run.reg ?_
 refine op (OpS.mv rfl rfl rfl ?_)
 refine op (OpS.len h Try.underlying33 rfl rfl rfl (V.at .z) ?_)
 refine op (OpS.bin rfl rfl rfl rfl rfl ?_)
 refine op (OpS.as rfl rfl rfl ?_)
 obtain ⟨x1, e1, hF⟩ := letP_use hF
 refine RunL.nameb e1 ?_
 refine RunL.nil ?_
 refine Run.slim [(2, .bool x1)] ⟨rfl, trivial⟩ ?_
 refine Run.retP rfl (.tmp rfl .nil) ?_
 cases hF
 exact Post.mk' ⟨rfl, rfl, rfl, rfl⟩ (h.picks .nil) .nil
set_option maxHeartbeats 8000000 in
theorem law21_BusTogether_ok {fuel : Nat} {a0 : List Int} {a1 : List Int} {a2 : Int} {y : Bool} (hF : law21_BusTogether fuel a0 a1 a2 = some y) {w : World} {v0 v1 : Value} :
  Spec Try.prog 7 [v0, v1, .int .i64 a2].toArray w [(false, .val (Rep.slice (Rep.int .i64)) v0 a0), (false, .val (Rep.slice (Rep.int .i64)) v1 a1)] [] (fun v Γr Ωr Ωo => v = .bool y ∧ Γr = [] ∧ Ωr = [] ∧ Ωo = []) := by
 refine Spec.of (L := [(0, v0), (1, v1), (2, .int .i64 a2)]) Try.func7 rfl ⟨rfl, rfl, rfl, trivial⟩ rfl (fun e h => ?_)
 unfold law21_BusTogether at hF
 refine Run.seq ?_
 refine Run.reg ?_
 refine op (OpS.as rfl rfl rfl ?_)
 refine RunL.nil ?_
 refine Run.slim [(0, v0), (1, v1), (2, .int .i64 a2)] ⟨rfl, rfl, rfl, trivial⟩ ?_
 refine Run.seq ?_
 refine Run.seq ?_
 refine Run.reg ?_
 refine op (OpS.mv rfl rfl rfl ?_)
 obtain ⟨y1, e1, hF⟩ := bindP_use hF
 refine op (OpS.callP h Try.func24 rfl rfl rfl rfl (vs := [v0]) rfl (made_Light_ok e1) (.cons (f := false) (V.at .z) .nil) ?_)
 rintro _ w1 _ _ _ ⟨rfl, rfl, rfl, rfl⟩ h1
 have h2 := h1 rfl rfl
 simp only [List.cons_append, List.nil_append] at h2
 refine op (OpS.not rfl rfl rfl ?_)
 refine op (OpS.mv rfl rfl rfl ?_)
 refine RunL.join (σ := Bool) (fun s_ L_ w_ => L_ = [(0, v0), (1, v1), (2, .int .i64 a2), (31, .bool s_)] ∧ St e w_ [(false, .val (Rep.slice (Rep.int .i64)) v0 a0), (false, .val (Rep.slice (Rep.int .i64)) v1 a1)] []) hF (fun s1 _ w2 hI hF => ?_) (fun j1 hj1 hF => ?_)
 ·
  obtain ⟨rfl, h3⟩ := hI
  refine Run.ite rfl hF (fun e2 hF => ?_) (fun e2 hF => ?_)
  ·
   refine Run.seq ?_
   refine Run.reg ?_
   obtain ⟨y2, e3, hF⟩ := bindP_use hF
   refine op (OpS.callP h3 Try.func10 rfl rfl rfl rfl (vs := []) rfl (law21_awake_ok e3) .nil ?_)
   rintro _ w3 _ _ _ ⟨rfl, rfl, rfl, rfl⟩ h4
   have h5 := h4 rfl rfl
   simp only [List.cons_append, List.nil_append] at h5
   refine op (OpS.as rfl rfl rfl ?_)
   refine RunL.nil ?_
   refine Run.slim [(6, .bool y2)] ⟨rfl, trivial⟩ ?_
   refine Run.retP rfl (.tmp rfl .nil) ?_
   cases hF
   exact Post.mk' ⟨rfl, rfl, rfl, rfl⟩ (h5.picks .nil) .nil
  ·
   refine Run.skip ?_
   refine Run.seq ?_
   refine Run.reg ?_
   refine op (OpS.mv rfl rfl rfl ?_)
   obtain ⟨y3, e4, hF⟩ := bindP_use hF
   refine op (OpS.callP h3 Try.func13 rfl rfl rfl rfl (vs := [.int .i64 a2, .int .i64 7]) rfl (made_Mod_ok e4) .nil ?_)
   rintro _ w4 _ _ _ ⟨rfl, rfl, rfl, rfl⟩ h6
   have h7 := h6 rfl rfl
   simp only [List.cons_append, List.nil_append] at h7
   refine op (OpS.bin rfl rfl rfl rfl rfl ?_)
   refine op (OpS.as rfl rfl rfl ?_)
   obtain ⟨x1, e5, hF⟩ := letP_use hF
   refine RunL.name e5 ?_
   refine RunL.nil ?_
   refine Run.slim [(7, .int .i64 x1), (0, v0), (1, v1)] ⟨rfl, rfl, rfl, trivial⟩ ?_
   refine Run.seq ?_
   refine Run.reg ?_
   refine op (OpS.mv rfl rfl rfl ?_)
   obtain ⟨y4, e6, hF⟩ := bindP_use hF
   refine op (OpS.callP h7 Try.func11 rfl rfl rfl rfl (vs := [.int .i64 x1]) rfl (bus_New_ok e6) .nil ?_)
   rintro _ w5 _ _ _ ⟨u1, rfl, rfl, rfl, rfl⟩ h8
   have h9 := h8 rfl rfl
   simp only [List.cons_append, List.nil_append] at h9
   refine op (OpS.mv rfl rfl rfl ?_)
   refine op (OpS.ext rfl rfl rfl rfl ?_)
   refine op (OpS.ext rfl rfl rfl rfl ?_)
   refine op (OpS.as rfl rfl rfl ?_)
   refine op (OpS.as rfl rfl rfl ?_)
   refine RunL.nil ?_
   refine Run.slim [(9, .int .i64 y4.2), (8, u1), (7, .int .i64 x1), (0, v0), (1, v1)] ⟨rfl, rfl, rfl, rfl, rfl, trivial⟩ ?_
   refine Run.seq ?_
   refine Run.seq ?_
   refine Run.reg ?_
   refine op (OpS.mv rfl rfl rfl ?_)
   refine op (OpS.onilE h9 .z (fun _ G_ S_ w_ h_ => ptr_one1 G_ S_ w_ h_) Try.underlying25 rfl rfl rfl rfl ?_)
   refine op (OpS.mv rfl rfl rfl ?_)
   refine RunL.join (σ := Bool) (fun s_ L_ w_ => L_ = [(0, v0), (1, v1), (7, .int .i64 x1), (8, u1), (46, .bool s_)] ∧ St e w_ [(false, .val (Rep.slice (Rep.int .i64)) v0 a0), (false, .val (Rep.slice (Rep.int .i64)) v1 a1)] [(true, .opt (fun x_ => .ex fun v_ => .sep (.box 76 (Rep.iso (fun s : bus_Bus => (s.masters, ())) (Rep.prod (Rep.raw (α := List bus_master) v_) Rep.unit)) u1 x_) (.oval (oslice 85 3 (fun _ => bus_master.orep)) v_ x_.masters)) u1 y4.1)]) hF (fun s2 _ w6 hI hF => ?_) (fun j2 hj2 hF => ?_)
   ·
    obtain ⟨rfl, h10⟩ := hI
    refine Run.ite rfl hF (fun e7 hF => ?_) (fun e7 hF => ?_)
    ·
     refine Run.seq ?_
     refine Run.reg ?_
     refine op (OpS.as rfl rfl rfl ?_)
     refine RunL.nil ?_
     refine Run.slim [(6, .bool false)] ⟨rfl, trivial⟩ ?_
     refine Run.retP rfl (.tmp rfl .nil) ?_
     cases hF
     exact Post.mk' ⟨rfl, rfl, rfl, rfl⟩ (h10.picks .nil) .nil
    ·
     refine Run.skip ?_
     refine Run.seq ?_
     refine Run.reg ?_
     refine op (OpS.mv rfl rfl rfl ?_)
     obtain ⟨y5, e8, hF⟩ := bindP_use hF
     have h11 := h10.front .nil
     refine op (OpS.callO h11 Try.func14 rfl rfl rfl rfl (vs := [v0]) rfl (made_Roll_ok e8) rfl (.cons (f := false) (V.at .z) .nil) ?_)
     rintro u2 w7 _ _ _ ⟨_, rfl, rfl, rfl, rfl⟩ h12
     have h13 := h12
     simp only [List.cons_append, List.nil_append] at h13
     obtain ⟨y6, e9, hF⟩ := bindP_use hF
     have h14 := h13.front (.cons .z .nil)
     refine op (OpS.callO h14 Try.func15 rfl rfl rfl rfl (vs := [u2]) rfl (made_Dice_Frame_ok e9) rfl .nil ?_)
     rintro u3 w8 _ _ _ ⟨_, rfl, rfl, rfl, rfl⟩ h15
     have h16 := h15
     simp only [List.cons_append, List.nil_append] at h16
     refine op (OpS.mv rfl rfl rfl ?_)
     obtain ⟨y7, e10, hF⟩ := bindP_use hF
     have h17 := h16.front .nil
     refine op (OpS.callO h17 Try.func14 rfl rfl rfl rfl (vs := [v1]) rfl (made_Roll_ok e10) rfl (.cons (f := false) (V.at (.s (.s .z))) .nil) ?_)
     rintro u4 w9 _ _ _ ⟨_, rfl, rfl, rfl, rfl⟩ h18
     have h19 := h18
     simp only [List.cons_append, List.nil_append] at h19
     obtain ⟨y8, e11, hF⟩ := bindP_use hF
     have h20 := h19.front (.cons .z .nil)
     refine op (OpS.callO h20 Try.func15 rfl rfl rfl rfl (vs := [u4]) rfl (made_Dice_Frame_ok e11) rfl .nil ?_)
     rintro u5 w10 _ _ _ ⟨_, rfl, rfl, rfl, rfl⟩ h21
     have h22 := h21
     simp only [List.cons_append, List.nil_append] at h22
     refine op (OpS.alloc h22 ti36 Frame_.zr rfl rfl (fun u6 w11 h23 => ?_))
     refine op (OpS.alloc h23 ti36 Frame_.zr rfl rfl (fun u7 w12 h24 => ?_))
     refine op (OpS.storeB (f' := true) h24 (.s .z) PA.z Put.id ty36 rfl rfl rfl (V.at (.s .z)) (.inl rfl) (fun w13 h25 => ?_))
     refine op (OpS.storeB (f' := true) h25 (.s .z) PA.z Put.id ty36 rfl rfl rfl (V.at .z) (.inl rfl) (fun w14 h26 => ?_))
     refine RunL.nil ?_
     refine Run.slim [(11, u7), (10, u6), (7, .int .i64 x1), (8, u1)] ⟨rfl, rfl, rfl, rfl, trivial⟩ ?_
     refine Run.seq ?_
     refine Run.reg ?_
     refine op (OpS.loadB h26 (.s .z) PA.z Get.id ty36 rfl rfl rfl (fun u8 h27 => ?_))
     obtain ⟨y9, e12, hF⟩ := bindP_use hF
     refine op (OpS.callP h27 Try.func28 rfl rfl rfl rfl (vs := [u8]) rfl (frame_Encode_ok e12) (.cons (f := true) (V.at .z) .nil) ?_)
     rintro _ w15 _ _ _ ⟨u9, rfl, rfl, rfl, rfl⟩ h28
     have h29 := h28 rfl rfl
     simp only [List.cons_append, List.nil_append] at h29
     refine op (OpS.mv rfl rfl rfl ?_)
     refine op (OpS.ext rfl rfl rfl rfl ?_)
     refine op (OpS.ext rfl rfl rfl rfl ?_)
     refine op (OpS.as rfl rfl rfl ?_)
     have h30 := (h29.pick .z).freeze
     refine op (OpS.as rfl rfl rfl ?_)
     refine RunL.nil ?_
     refine Run.slim [(13, .int .i64 y9.2), (12, u9), (11, u7), (10, u6), (7, .int .i64 x1), (8, u1)] ⟨rfl, rfl, rfl, rfl, rfl, rfl, trivial⟩ ?_
     refine Run.seq ?_
     refine Run.reg ?_
     refine op (OpS.loadB h30 .z PA.z Get.id ty36 rfl rfl rfl (fun u10 h31 => ?_))
     obtain ⟨y10, e13, hF⟩ := bindP_use hF
     refine op (OpS.callP h31 Try.func28 rfl rfl rfl rfl (vs := [u10]) rfl (frame_Encode_ok e13) (.cons (f := true) (V.at .z) .nil) ?_)
     rintro _ w16 _ _ _ ⟨u11, rfl, rfl, rfl, rfl⟩ h32
     have h33 := h32 rfl rfl
     simp only [List.cons_append, List.nil_append] at h33
     refine op (OpS.mv rfl rfl rfl ?_)
     refine op (OpS.ext rfl rfl rfl rfl ?_)
     refine op (OpS.ext rfl rfl rfl rfl ?_)
     refine op (OpS.as rfl rfl rfl ?_)
     have h34 := (h33.pick .z).freeze
     refine op (OpS.as rfl rfl rfl ?_)
     refine RunL.nil ?_
     refine Run.slim [(15, .int .i64 y10.2), (14, u11), (13, .int .i64 y9.2), (12, u9), (11, u7), (10, u6), (7, .int .i64 x1), (8, u1)] ⟨rfl, rfl, rfl, rfl, rfl, rfl, rfl, rfl, trivial⟩ ?_
     refine Run.seq ?_
     refine Run.seq ?_
     refine Run.reg ?_
     refine op (OpS.mv rfl rfl rfl ?_)
     refine op (OpS.bin rfl rfl rfl rfl rfl ?_)
     refine op (OpS.mv rfl rfl rfl ?_)
     refine RunL.join (σ := Bool) (fun s_ L_ w_ => L_ = [(7, .int .i64 x1), (8, u1), (10, u6), (11, u7), (12, u9), (14, u11), (68, .bool s_)] ∧ St e w_ [(true, .val (Rep.slice (Rep.int .u8)) u9 y9.1), (true, .val (Rep.slice (Rep.int .u8)) u11 y10.1)] [(true, .opt (fun x_ => .ex fun v_ => .sep (.box 76 (Rep.iso (fun s : bus_Bus => (s.masters, ())) (Rep.prod (Rep.raw (α := List bus_master) v_) Rep.unit)) u1 x_) (.oval (oslice 85 3 (fun _ => bus_master.orep)) v_ x_.masters)) u1 y4.1), (true, .box 36 Frame_.rep u6 y6.1), (true, .box 36 Frame_.rep u7 y8.1)]) hF (fun s3 _ w17 hI hF => ?_) (fun j3 hj3 hF => ?_)
     ·
      obtain ⟨rfl, h35⟩ := hI
      refine Run.ite rfl hF (fun e14 hF => ?_) (fun e14 hF => ?_)
      ·
       refine Run.seq ?_
       refine Run.reg ?_
       refine op (OpS.as rfl rfl rfl ?_)
       refine RunL.nil ?_
       refine Run.slim [(6, .bool false)] ⟨rfl, trivial⟩ ?_
       refine Run.retP rfl (.tmp rfl .nil) ?_
       cases hF
       exact Post.mk' ⟨rfl, rfl, rfl, rfl⟩ (h35.picks .nil) .nil
      ·
       refine Run.skip ?_
       refine Run.seq ?_
       refine Run.seq ?_
       refine Run.reg ?_
       refine op (OpS.as rfl rfl rfl ?_)
       refine RunL.nil ?_
       refine Run.slim [(16, .int .i64 0), (7, .int .i64 x1), (8, u1), (10, u6), (11, u7), (12, u9), (14, u11)] ⟨rfl, rfl, rfl, rfl, rfl, rfl, rfl, trivial⟩ ?_
       refine Run.block ?_
       have h36 := (h35.pick .z).weak
       refine Run.slim [(7, .int .i64 x1), (8, u1), (10, u6), (11, u7), (12, u9), (14, u11), (16, .int .i64 0)] ⟨rfl, rfl, rfl, rfl, rfl, rfl, rfl, trivial⟩ ?_
       refine Run.loopP (σ := (Int × (Option bus_Bus))) (fun s_ L_ w_ => ∃ u0_ : Value, L_ = [(7, .int .i64 x1), (8, u0_), (10, u6), (11, u7), (12, u9), (14, u11), (16, .int .i64 s_.1)] ∧ St e w_ [(true, .val (Rep.slice (Rep.int .u8)) u9 y9.1), (true, .val (Rep.slice (Rep.int .u8)) u11 y10.1)] [(true, .box 36 Frame_.rep u6 y6.1), (true, .box 36 Frame_.rep u7 y8.1), (false, .opt (fun x_ => .ex fun v_ => .sep (.box 76 (Rep.iso (fun s : bus_Bus => (s.masters, ())) (Rep.prod (Rep.raw (α := List bus_master) v_) Rep.unit)) u0_ x_) (.oval (oslice 85 3 (fun _ => bus_master.orep)) v_ x_.masters)) u0_ s_.2)]) hF ⟨u1, rfl, (h36.facts (.atm .z (.atm (.s .z) .nil))).picks (.cons (.s .z) (.cons (.s .z) (.cons .z .nil)))⟩ (fun k1 hk1 s4 _ w18 hI hF => ?_)
       obtain ⟨u12, rfl, h37⟩ := hI
       refine Run.seq ?_
       refine Run.seq ?_
       refine Run.reg ?_
       refine op (OpS.mv rfl rfl rfl ?_)
       refine op (OpS.mv rfl rfl rfl ?_)
       refine op (OpS.bin rfl rfl rfl rfl rfl ?_)
       refine RunL.nil ?_
       refine Run.slim [(71, .bool (decide (s4.1 < x1))), (7, .int .i64 x1), (8, u12), (10, u6), (11, u7), (12, u9), (14, u11), (16, .int .i64 s4.1)] ⟨rfl, rfl, rfl, rfl, rfl, rfl, rfl, rfl, trivial⟩ ?_
       refine Run.ite rfl hF (fun e15 hF => ?_) (fun e15 hF => ?_)
       ·
        refine Run.skip ?_
        refine Run.seq ?_
        refine Run.block ?_
        refine Run.seq ?_
        refine Run.reg ?_
        refine op (OpS.loadB h37 .z PA.z Get.id ty36 rfl rfl rfl (fun u13 h38 => ?_))
        refine op (OpS.alloc h38 ti36 Frame_.zr rfl rfl (fun u14 w19 h39 => ?_))
        refine op (OpS.storeB (f' := true) h39 .z PA.z Put.id ty36 rfl rfl rfl (V.at .z) (.inl rfl) (fun w20 h40 => ?_))
        refine RunL.nil ?_
        refine Run.slim [(17, u14), (7, .int .i64 x1), (8, u12), (10, u6), (11, u7), (12, u9), (14, u11), (16, .int .i64 s4.1)] ⟨rfl, rfl, rfl, rfl, rfl, rfl, rfl, rfl, trivial⟩ ?_
        refine Run.seq ?_
        refine Run.seq ?_
        refine Run.reg ?_
        refine op (OpS.mv rfl rfl rfl ?_)
        refine op (OpS.rem rfl rfl rfl rfl (by decide) ?_)
        refine op (OpS.bin rfl rfl rfl rfl rfl ?_)
        refine RunL.nil ?_
        refine Run.slim [(77, .bool ((Int.tmod s4.1 2) == 1)), (17, u14), (7, .int .i64 x1), (8, u12), (10, u6), (11, u7), (12, u9), (14, u11), (16, .int .i64 s4.1)] ⟨rfl, rfl, rfl, rfl, rfl, rfl, rfl, rfl, rfl, trivial⟩ ?_
        refine Run.join (σ := Frame_) (fun s_ L_ w_ => L_ = [(7, .int .i64 x1), (8, u12), (10, u6), (11, u7), (12, u9), (14, u11), (16, .int .i64 s4.1), (17, u14)] ∧ St e w_ [(true, .val (Rep.slice (Rep.int .u8)) u9 y9.1), (true, .val (Rep.slice (Rep.int .u8)) u11 y10.1)] [(false, .opt (fun x_ => .ex fun v_ => .sep (.box 76 (Rep.iso (fun s : bus_Bus => (s.masters, ())) (Rep.prod (Rep.raw (α := List bus_master) v_) Rep.unit)) u12 x_) (.oval (oslice 85 3 (fun _ => bus_master.orep)) v_ x_.masters)) u12 s4.2), (true, .box 36 Frame_.rep u6 y6.1), (true, .box 36 Frame_.rep u7 y8.1), (true, .box 36 Frame_.rep u14 s_)]) hF (fun s5 _ w21 hI hF => ?_) (fun j4 hj4 hF => ?_)
        ·
         obtain ⟨rfl, h41⟩ := hI
         refine Run.seq ?_
         refine Run.reg ?_
         refine op (OpS.mv rfl rfl rfl ?_)
         refine op (OpS.mv rfl rfl rfl ?_)
         refine op (OpS.loadB h41 (.s (.s (.s .z))) PA.z Get.id ty36 rfl rfl rfl (fun u15 h42 => ?_))
         obtain ⟨x2, e16, hF⟩ := bindP_use hF
         have h43 := St.unopt (h42.pick .z) e16
         obtain ⟨u16, h44⟩ := h43.unex
         have h45 := h44.unsep
         obtain ⟨y11, e17, hF⟩ := bindP_use hF
         have h46 := h45.front (.cons .z (.cons .z .nil))
         refine op (OpS.callO h46 Try.func16 rfl rfl rfl rfl (vs := [u12, .int .i64 s4.1, u15]) rfl (bus_Bus_Submit_ok e17) rfl (.cons (f := true) (V.at .z) .nil) ?_)
         rintro _ w22 _ _ _ ⟨u17, rfl, rfl, rfl, rfl⟩ h47
         have h48 := h47
         simp only [List.cons_append, List.nil_append] at h48
         refine op (OpS.bin rfl rfl rfl rfl rfl ?_)
         refine RunL.nil ?_
         refine Run.slim [(83, .bool (y11.1 != 0)), (7, .int .i64 x1), (8, u12), (10, u6), (11, u7), (12, u9), (14, u11), (16, .int .i64 s4.1)] ⟨rfl, rfl, rfl, rfl, rfl, rfl, rfl, rfl, trivial⟩ ?_
         refine Run.ite rfl hF (fun e18 hF => ?_) (fun e18 hF => ?_)
         ·
          refine Run.seq ?_
          refine Run.reg ?_
          refine op (OpS.as rfl rfl rfl ?_)
          refine RunL.nil ?_
          refine Run.slim [(6, .bool false)] ⟨rfl, trivial⟩ ?_
          refine Run.retP rfl (.tmp rfl .nil) ?_
          cases hF
          exact Post.mk' ⟨rfl, rfl, rfl, rfl⟩ (h48.picks .nil) .nil
         ·
          refine Run.skip ?_
          refine Run.endBlock ?_
          refine Run.reg ?_
          refine op (OpS.mv rfl rfl rfl ?_)
          refine op (OpS.bin rfl rfl rfl rfl rfl ?_)
          refine op (OpS.as rfl rfl rfl ?_)
          obtain ⟨x3, e19, hF⟩ := letP_use hF
          refine RunL.name e19 ?_
          refine RunL.nil ?_
          refine Run.slim [(16, .int .i64 x3), (7, .int .i64 x1), (8, u12), (10, u6), (11, u7), (12, u9), (14, u11)] ⟨rfl, rfl, rfl, rfl, rfl, rfl, rfl, trivial⟩ ?_
          have h49 := h48.front (.cons .z (.cons .z .nil))
          have h50 := St.some (H := (fun x_ => .ex fun v_ => .sep (.box 76 (Rep.iso (fun s : bus_Bus => (s.masters, ())) (Rep.prod (Rep.raw (α := List bus_master) v_) Rep.unit)) u12 x_) (.oval (oslice 85 3 (fun _ => bus_master.orep)) v_ x_.masters))) (q := u12) (x := y11.2) (St.ex (H := fun v_ => .sep (.box 76 (Rep.iso (fun s : bus_Bus => (s.masters, ())) (Rep.prod (Rep.raw (α := List bus_master) v_) Rep.unit)) u12 y11.2) (.oval (oslice 85 3 (fun _ => bus_master.orep)) v_ y11.2.masters)) u17 (St.sep h49))
          refine Run.slim [(7, .int .i64 x1), (8, u12), (10, u6), (11, u7), (12, u9), (14, u11), (16, .int .i64 x3)] ⟨rfl, rfl, rfl, rfl, rfl, rfl, rfl, trivial⟩ ?_
          exact hk1 (x3, (some y11.2)) _ _ ⟨u12, rfl, (h50.facts (.atm (.s .z) (.atm (.s (.s .z)) .nil))).picks (.cons (.s .z) (.cons (.s .z) (.cons .z .nil)))⟩ hF
        ·
         refine Run.ite rfl hF (fun e20 hF => ?_) (fun e20 hF => ?_)
         ·
          refine Run.reg ?_
          refine op (OpS.loadB h40 (.s (.s .z)) PA.z Get.id ty36 rfl rfl rfl (fun u18 h51 => ?_))
          refine op (OpS.storeB (f' := true) h51 .z PA.z Put.id ty36 rfl rfl rfl (V.at .z) (.inl rfl) (fun w23 h52 => ?_))
          refine RunL.nil ?_
          refine Run.slim [(17, u14), (7, .int .i64 x1), (8, u12), (10, u6), (11, u7), (12, u9), (14, u11), (16, .int .i64 s4.1)] ⟨rfl, rfl, rfl, rfl, rfl, rfl, rfl, rfl, trivial⟩ ?_
          refine Run.slim [(7, .int .i64 x1), (8, u12), (10, u6), (11, u7), (12, u9), (14, u11), (16, .int .i64 s4.1), (17, u14)] ⟨rfl, rfl, rfl, rfl, rfl, rfl, rfl, rfl, trivial⟩ ?_
          exact hj4 (y8.1) _ _ ⟨rfl, (h52.facts (.atm (.s (.s .z)) (.atm (.s (.s (.s .z))) .nil))).picks (.cons (.s (.s (.s .z))) (.cons (.s .z) (.cons (.s .z) (.cons .z .nil))))⟩ hF
         ·
          refine Run.skip ?_
          refine Run.slim [(7, .int .i64 x1), (8, u12), (10, u6), (11, u7), (12, u9), (14, u11), (16, .int .i64 s4.1), (17, u14)] ⟨rfl, rfl, rfl, rfl, rfl, rfl, rfl, rfl, trivial⟩ ?_
          exact hj4 (y6.1) _ _ ⟨rfl, (h40.facts (.atm (.s .z) (.atm (.s (.s .z)) .nil))).picks (.cons (.s (.s (.s .z))) (.cons (.s .z) (.cons (.s .z) (.cons .z .nil))))⟩ hF
       ·
        refine Run.exit rfl ?_
        refine Run.seq ?_
        refine Run.reg ?_
        refine op (OpS.mv rfl rfl rfl ?_)
        refine op (OpS.build (f := true) (x' := Fault_.z) h37 pl38 ti38 Fault_.zr rfl rfl rfl .nil (fun u19 h53 => ?_))
        obtain ⟨x4, e21, hF⟩ := bindP_use hF
        have h54 := St.unopt (h53.pick (.s (.s .z))) e21
        obtain ⟨u20, h55⟩ := h54.unex
        have h56 := h55.unsep
        obtain ⟨y12, e22, hF⟩ := bindP_use hF
        have h57 := h56.front (.cons .z (.cons .z .nil))
        refine op (OpS.callO h57 Try.func18 rfl rfl rfl rfl (vs := [u12, u19]) rfl (bus_Bus_Step_ok e22) rfl (.cons (f := true) (V.at .z) .nil) ?_)
        rintro _ w24 _ _ _ ⟨u21, u22, rfl, rfl, rfl, rfl⟩ h58
        have h59 := h58
        simp only [List.cons_append, List.nil_append] at h59
        refine op (OpS.mv rfl rfl rfl ?_)
        refine op (OpS.ext rfl rfl rfl rfl ?_)
        refine op (OpS.ext rfl rfl rfl rfl ?_)
        refine op (OpS.alloc h59 ti46 Delivery_.zr rfl rfl (fun u23 w25 h60 => ?_))
        refine op (OpS.storeB (f' := true) h60 .z PA.z Put.id ty46 rfl rfl rfl (V.at .z) (.inl rfl) (fun w26 h61 => ?_))
        refine op (OpS.as rfl rfl rfl ?_)
        refine RunL.nil ?_
        refine Run.slim [(19, .bool y12.2.1), (18, u23), (7, .int .i64 x1), (8, u12), (12, u9), (14, u11)] ⟨rfl, rfl, rfl, rfl, rfl, rfl, trivial⟩ ?_
        refine Run.seq ?_
        refine Run.reg ?_
        refine op (OpS.mv rfl rfl rfl ?_)
        refine op (OpS.build (f := true) (x' := Fault_.z) h61 pl38 ti38 Fault_.zr rfl rfl rfl .nil (fun u24 h62 => ?_))
        obtain ⟨y13, e23, hF⟩ := bindP_use hF
        have h63 := h62.front (.cons (.s .z) (.cons (.s .z) .nil))
        refine op (OpS.callO h63 Try.func18 rfl rfl rfl rfl (vs := [u12, u24]) rfl (bus_Bus_Step_ok e23) rfl (.cons (f := true) (V.at .z) .nil) ?_)
        rintro _ w27 _ _ _ ⟨u25, u26, rfl, rfl, rfl, rfl⟩ h64
        have h65 := h64
        simp only [List.cons_append, List.nil_append] at h65
        refine op (OpS.mv rfl rfl rfl ?_)
        refine op (OpS.ext rfl rfl rfl rfl ?_)
        refine op (OpS.ext rfl rfl rfl rfl ?_)
        refine op (OpS.alloc h65 ti46 Delivery_.zr rfl rfl (fun u27 w28 h66 => ?_))
        refine op (OpS.storeB (f' := true) h66 .z PA.z Put.id ty46 rfl rfl rfl (V.at .z) (.inl rfl) (fun w29 h67 => ?_))
        refine op (OpS.as rfl rfl rfl ?_)
        refine RunL.nil ?_
        refine Run.slim [(21, .bool y13.2.1), (20, u27), (19, .bool y12.2.1), (18, u23), (7, .int .i64 x1), (12, u9), (14, u11)] ⟨rfl, rfl, rfl, rfl, rfl, rfl, rfl, trivial⟩ ?_
        refine Run.seq ?_
        refine Run.seq ?_
        refine Run.reg ?_
        refine op (OpS.mv rfl rfl rfl ?_)
        refine op (OpS.not rfl rfl rfl ?_)
        refine op (OpS.mv rfl rfl rfl ?_)
        refine RunL.join (σ := Bool) (fun s_ L_ w_ => L_ = [(7, .int .i64 x1), (12, u9), (14, u11), (18, u23), (20, u27), (21, .bool y13.2.1), (103, .bool s_)] ∧ St e w_ [(true, .val (Rep.slice (Rep.int .u8)) u9 y9.1), (true, .val (Rep.slice (Rep.int .u8)) u11 y10.1)] [(true, .box 46 Delivery_.rep u23 y12.1), (true, .box 46 Delivery_.rep u27 y13.1)]) hF (fun s6 _ w30 hI hF => ?_) (fun j5 hj5 hF => ?_)
        ·
         obtain ⟨rfl, h68⟩ := hI
         refine Run.ite rfl hF (fun e24 hF => ?_) (fun e24 hF => ?_)
         ·
          refine Run.seq ?_
          refine Run.reg ?_
          refine op (OpS.as rfl rfl rfl ?_)
          refine RunL.nil ?_
          refine Run.slim [(6, .bool false)] ⟨rfl, trivial⟩ ?_
          refine Run.retP rfl (.tmp rfl .nil) ?_
          cases hF
          exact Post.mk' ⟨rfl, rfl, rfl, rfl⟩ (h68.picks .nil) .nil
         ·
          refine Run.skip ?_
          refine Run.seq ?_
          refine Run.reg ?_
          refine op (OpS.mv rfl rfl rfl ?_)
          refine op (OpS.mv rfl rfl rfl ?_)
          obtain ⟨y14, e25, hF⟩ := bindP_use hF
          refine op (OpS.callP h68 Try.func31 rfl rfl rfl rfl (vs := [u9, u11]) rfl (frame_Compare_ok e25) (.cons (f := true) (V.at .z) (.cons (f := true) (V.at (.s .z)) .nil)) ?_)
          rintro _ w31 _ _ _ ⟨rfl, rfl, rfl, rfl⟩ h69
          have h70 := h69 rfl rfl
          simp only [List.cons_append, List.nil_append] at h70
          refine op (OpS.as rfl rfl rfl ?_)
          refine RunL.nil ?_
          refine Run.slim [(22, .int .i64 y14), (7, .int .i64 x1), (18, u23), (20, u27), (21, .bool y13.2.1)] ⟨rfl, rfl, rfl, rfl, rfl, trivial⟩ ?_
          refine Run.seq ?_
          refine Run.seq ?_
          refine Run.reg ?_
          refine op (OpS.mv rfl rfl rfl ?_)
          refine op (OpS.bin rfl rfl rfl rfl rfl ?_)
          refine RunL.nil ?_
          refine Run.slim [(108, .bool (y14 == 0)), (22, .int .i64 y14), (7, .int .i64 x1), (18, u23), (20, u27), (21, .bool y13.2.1)] ⟨rfl, rfl, rfl, rfl, rfl, rfl, trivial⟩ ?_
          refine Run.ite rfl hF (fun e26 hF => ?_) (fun e26 hF => ?_)
          ·
           refine Run.seq ?_
           refine Run.reg ?_
           refine op (OpS.fbox (o3 := 0) h70 .z PA.z fa46_0 rfl rfl rfl rfl ?_)
           refine op (OpS.loadB h70 .z PA.a (Get.fld Delivery_.f0) ty33 rfl rfl rfl (fun u28 h71 => ?_))
           refine op (OpS.len h71 Try.underlying33 rfl rfl rfl (V.at .z) ?_)
           refine op (OpS.mv rfl rfl rfl ?_)
           refine op (OpS.bin rfl rfl rfl rfl rfl ?_)
           refine op (OpS.mv rfl rfl rfl ?_)
           refine RunL.join (σ := Bool) (fun s_ L_ w_ => L_ = [(6, .bool s_)] ∧ St e w_ [] []) hF (fun s7 _ w32 hI hF => ?_) (fun j6 hj6 hF => ?_)
           ·
            obtain ⟨rfl, h72⟩ := hI
            refine Run.retP rfl (.tmp rfl .nil) ?_
            cases hF
            exact Post.mk' ⟨rfl, rfl, rfl, rfl⟩ (h72.picks .nil) .nil
           ·
            refine RunL.caseb hF (fun e27 hF => ?_) (fun e27 hF => ?_)
            ·
             refine op (OpS.mv rfl rfl rfl ?_)
             refine op (OpS.not rfl rfl rfl ?_)
             refine op (OpS.pick rfl rfl rfl rfl ?_)
             refine op (OpS.mv rfl rfl rfl ?_)
             refine RunL.caseb hF (fun e28 hF => ?_) (fun e28 hF => ?_)
             ·
              obtain ⟨y15, e29, hF⟩ := bindP_use hF
              refine op (OpS.callP h71 Try.func10 rfl rfl rfl rfl (vs := []) rfl (law21_awake_ok e29) .nil ?_)
              rintro _ w33 _ _ _ ⟨rfl, rfl, rfl, rfl⟩ h73
              have h74 := h73 rfl rfl
              simp only [List.cons_append, List.nil_append] at h74
              refine op (OpS.pick rfl rfl rfl rfl ?_)
              refine op (OpS.as rfl rfl rfl ?_)
              refine RunL.nil ?_
              refine Run.slim [(6, .bool y15)] ⟨rfl, trivial⟩ ?_
              refine Run.slim [(6, .bool y15)] ⟨rfl, trivial⟩ ?_
              exact hj6 (y15) _ _ ⟨rfl, (h74.facts .nil).picks .nil⟩ hF
             ·
              refine op (OpS.pass rfl rfl rfl ?_)
              refine op (OpS.pick rfl rfl rfl rfl ?_)
              refine op (OpS.as rfl rfl rfl ?_)
              refine RunL.nil ?_
              refine Run.slim [(6, .bool false)] ⟨rfl, trivial⟩ ?_
              refine Run.slim [(6, .bool false)] ⟨rfl, trivial⟩ ?_
              exact hj6 (false) _ _ ⟨rfl, (h71.facts .nil).picks .nil⟩ hF
            ·
             refine op (OpS.pass rfl rfl rfl ?_)
             refine op (OpS.pass rfl rfl rfl ?_)
             refine op (OpS.pick rfl rfl rfl rfl ?_)
             refine op (OpS.mv rfl rfl rfl ?_)
             refine op (OpS.pass rfl rfl rfl ?_)
             refine op (OpS.pick rfl rfl rfl rfl ?_)
             refine op (OpS.as rfl rfl rfl ?_)
             refine RunL.nil ?_
             refine Run.slim [(6, .bool false)] ⟨rfl, trivial⟩ ?_
             refine Run.slim [(6, .bool false)] ⟨rfl, trivial⟩ ?_
             exact hj6 (false) _ _ ⟨rfl, (h71.facts .nil).picks .nil⟩ hF
          ·
           refine Run.skip ?_
           refine Run.seq ?_
           refine Run.reg ?_
           refine op (OpS.as rfl rfl rfl ?_)
           refine RunL.nil ?_
           refine Run.slim [(23, .int .i64 0), (22, .int .i64 y14), (7, .int .i64 x1), (18, u23), (20, u27), (21, .bool y13.2.1)] ⟨rfl, rfl, rfl, rfl, rfl, rfl, trivial⟩ ?_
           refine Run.seq ?_
           refine Run.seq ?_
           refine Run.reg ?_
           refine op (OpS.mv rfl rfl rfl ?_)
           refine op (OpS.bin rfl rfl rfl rfl rfl ?_)
           refine RunL.nil ?_
           refine Run.slim [(122, .bool (decide (y14 > 0))), (23, .int .i64 0), (7, .int .i64 x1), (18, u23), (20, u27), (21, .bool y13.2.1)] ⟨rfl, rfl, rfl, rfl, rfl, rfl, trivial⟩ ?_
           refine Run.join (σ := Int) (fun s_ L_ w_ => L_ = [(7, .int .i64 x1), (18, u23), (20, u27), (21, .bool y13.2.1), (23, .int .i64 s_)] ∧ St e w_ [] [(true, .box 46 Delivery_.rep u23 y12.1), (true, .box 46 Delivery_.rep u27 y13.1)]) hF (fun s8 _ w34 hI hF => ?_) (fun j7 hj7 hF => ?_)
           ·
            obtain ⟨rfl, h75⟩ := hI
            refine Run.seq ?_
            refine Run.reg ?_
            refine op (OpS.fbox (o3 := 0) h75 .z PA.z fa46_0 rfl rfl rfl rfl ?_)
            refine op (OpS.loadB h75 .z PA.a (Get.fld Delivery_.f0) ty33 rfl rfl rfl (fun u29 h76 => ?_))
            obtain ⟨x5, e30, hF⟩ := bindP_use hF
            refine op (OpS.iptr h76 Try.underlying33 ty3 rfl rfl rfl rfl (V.at .z) e30 (fun u30 h77 => ?_))
            refine op (OpS.loadi h77 ty3 rfl rfl rfl .z ?_)
            refine op (OpS.mv rfl rfl rfl ?_)
            refine op (OpS.bin rfl rfl rfl rfl rfl ?_)
            refine op (OpS.mv rfl rfl rfl ?_)
            refine RunL.caseb hF (fun e31 hF => ?_) (fun e31 hF => ?_)
            ·
             refine op (OpS.fbox (o3 := 0) h77 .z PA.z fa46_0 rfl rfl rfl rfl ?_)
             refine op (OpS.loadB h77 .z PA.a (Get.fld Delivery_.f0) ty33 rfl rfl rfl (fun u31 h78 => ?_))
             refine op (OpS.len h78 Try.underlying33 rfl rfl rfl (V.at .z) ?_)
             refine op (OpS.fbox (o3 := 0) h78 (.s .z) PA.z fa46_0 rfl rfl rfl rfl ?_)
             refine op (OpS.loadB h78 (.s .z) PA.a (Get.fld Delivery_.f0) ty33 rfl rfl rfl (fun u32 h79 => ?_))
             refine op (OpS.len h79 Try.underlying33 rfl rfl rfl (V.at .z) ?_)
             refine op (OpS.bin rfl rfl rfl rfl rfl ?_)
             refine op (OpS.mv rfl rfl rfl ?_)
             refine op (OpS.bin rfl rfl rfl rfl rfl ?_)
             refine op (OpS.pick rfl rfl rfl rfl ?_)
             refine op (OpS.mv rfl rfl rfl ?_)
             refine RunL.caseb hF (fun e32 hF => ?_) (fun e32 hF => ?_)
             ·
              refine op (OpS.mv rfl rfl rfl ?_)
              refine op (OpS.pick rfl rfl rfl rfl ?_)
              refine op (OpS.mv rfl rfl rfl ?_)
              refine RunL.caseb hF (fun e33 hF => ?_) (fun e33 hF => ?_)
              ·
               refine op (OpS.fbox (o3 := 0) h79 (.s .z) PA.z fa46_0 rfl rfl rfl rfl ?_)
               refine op (OpS.loadB h79 (.s .z) PA.a (Get.fld Delivery_.f0) ty33 rfl rfl rfl (fun u33 h80 => ?_))
               refine op (OpS.len h80 Try.underlying33 rfl rfl rfl (V.at .z) ?_)
               refine op (OpS.bin rfl rfl rfl rfl rfl ?_)
               refine op (OpS.pick rfl rfl rfl rfl ?_)
               refine op (OpS.mv rfl rfl rfl ?_)
               refine RunL.caseb hF (fun e34 hF => ?_) (fun e34 hF => ?_)
               ·
                refine op (OpS.fbox (o3 := 0) h80 (.s .z) PA.z fa46_0 rfl rfl rfl rfl ?_)
                refine op (OpS.loadB h80 (.s .z) PA.a (Get.fld Delivery_.f0) ty33 rfl rfl rfl (fun u34 h81 => ?_))
                obtain ⟨x6, e35, hF⟩ := bindP_use hF
                refine op (OpS.iptr h81 Try.underlying33 ty3 rfl rfl rfl rfl (V.at .z) e35 (fun u35 h82 => ?_))
                refine op (OpS.loadi h82 ty3 rfl rfl rfl .z ?_)
                refine op (OpS.mv rfl rfl rfl ?_)
                refine op (OpS.bin rfl rfl rfl rfl rfl ?_)
                refine op (OpS.bin rfl rfl rfl rfl rfl ?_)
                refine op (OpS.pick rfl rfl rfl rfl ?_)
                refine op (OpS.mv rfl rfl rfl ?_)
                refine RunL.caseb hF (fun e36 hF => ?_) (fun e36 hF => ?_)
                ·
                 obtain ⟨y16, e37, hF⟩ := bindP_use hF
                 refine op (OpS.callP h82 Try.func10 rfl rfl rfl rfl (vs := []) rfl (law21_awake_ok e37) .nil ?_)
                 rintro _ w35 _ _ _ ⟨rfl, rfl, rfl, rfl⟩ h83
                 have h84 := h83 rfl rfl
                 simp only [List.cons_append, List.nil_append] at h84
                 refine op (OpS.pick rfl rfl rfl rfl ?_)
                 refine op (OpS.as rfl rfl rfl ?_)
                 refine RunL.nil ?_
                 refine Run.slim [(6, .bool y16)] ⟨rfl, trivial⟩ ?_
                 refine Run.retP rfl (.tmp rfl .nil) ?_
                 cases hF
                 exact Post.mk' ⟨rfl, rfl, rfl, rfl⟩ (h84.picks .nil) .nil
                ·
                 refine op (OpS.pass rfl rfl rfl ?_)
                 refine op (OpS.pick rfl rfl rfl rfl ?_)
                 refine op (OpS.as rfl rfl rfl ?_)
                 refine RunL.nil ?_
                 refine Run.slim [(6, .bool false)] ⟨rfl, trivial⟩ ?_
                 refine Run.retP rfl (.tmp rfl .nil) ?_
                 cases hF
                 exact Post.mk' ⟨rfl, rfl, rfl, rfl⟩ (h82.picks .nil) .nil
               ·
                refine op (OpS.pass rfl rfl rfl ?_)
                refine op (OpS.pass rfl rfl rfl ?_)
                refine op (OpS.pass rfl rfl rfl ?_)
                refine op (OpS.pass rfl rfl rfl ?_)
                refine op (OpS.pass rfl rfl rfl ?_)
                refine op (OpS.pass rfl rfl rfl ?_)
                refine op (OpS.pass rfl rfl rfl ?_)
                refine op (OpS.pick rfl rfl rfl rfl ?_)
                refine op (OpS.mv rfl rfl rfl ?_)
                refine op (OpS.pass rfl rfl rfl ?_)
                refine op (OpS.pick rfl rfl rfl rfl ?_)
                refine op (OpS.as rfl rfl rfl ?_)
                refine RunL.nil ?_
                refine Run.slim [(6, .bool false)] ⟨rfl, trivial⟩ ?_
                refine Run.retP rfl (.tmp rfl .nil) ?_
                cases hF
                exact Post.mk' ⟨rfl, rfl, rfl, rfl⟩ (h80.picks .nil) .nil
              ·
               refine op (OpS.pass rfl rfl rfl ?_)
               refine op (OpS.pass rfl rfl rfl ?_)
               refine op (OpS.pass rfl rfl rfl ?_)
               refine op (OpS.pass rfl rfl rfl ?_)
               refine op (OpS.pick rfl rfl rfl rfl ?_)
               refine op (OpS.mv rfl rfl rfl ?_)
               refine op (OpS.pass rfl rfl rfl ?_)
               refine op (OpS.pass rfl rfl rfl ?_)
               refine op (OpS.pass rfl rfl rfl ?_)
               refine op (OpS.pass rfl rfl rfl ?_)
               refine op (OpS.pass rfl rfl rfl ?_)
               refine op (OpS.pass rfl rfl rfl ?_)
               refine op (OpS.pass rfl rfl rfl ?_)
               refine op (OpS.pick rfl rfl rfl rfl ?_)
               refine op (OpS.mv rfl rfl rfl ?_)
               refine op (OpS.pass rfl rfl rfl ?_)
               refine op (OpS.pick rfl rfl rfl rfl ?_)
               refine op (OpS.as rfl rfl rfl ?_)
               refine RunL.nil ?_
               refine Run.slim [(6, .bool false)] ⟨rfl, trivial⟩ ?_
               refine Run.retP rfl (.tmp rfl .nil) ?_
               cases hF
               exact Post.mk' ⟨rfl, rfl, rfl, rfl⟩ (h79.picks .nil) .nil
             ·
              refine op (OpS.pass rfl rfl rfl ?_)
              refine op (OpS.pick rfl rfl rfl rfl ?_)
              refine op (OpS.mv rfl rfl rfl ?_)
              refine op (OpS.pass rfl rfl rfl ?_)
              refine op (OpS.pass rfl rfl rfl ?_)
              refine op (OpS.pass rfl rfl rfl ?_)
              refine op (OpS.pass rfl rfl rfl ?_)
              refine op (OpS.pick rfl rfl rfl rfl ?_)
              refine op (OpS.mv rfl rfl rfl ?_)
              refine op (OpS.pass rfl rfl rfl ?_)
              refine op (OpS.pass rfl rfl rfl ?_)
              refine op (OpS.pass rfl rfl rfl ?_)
              refine op (OpS.pass rfl rfl rfl ?_)
              refine op (OpS.pass rfl rfl rfl ?_)
              refine op (OpS.pass rfl rfl rfl ?_)
              refine op (OpS.pass rfl rfl rfl ?_)
              refine op (OpS.pick rfl rfl rfl rfl ?_)
              refine op (OpS.mv rfl rfl rfl ?_)
              refine op (OpS.pass rfl rfl rfl ?_)
              refine op (OpS.pick rfl rfl rfl rfl ?_)
              refine op (OpS.as rfl rfl rfl ?_)
              refine RunL.nil ?_
              refine Run.slim [(6, .bool false)] ⟨rfl, trivial⟩ ?_
              refine Run.retP rfl (.tmp rfl .nil) ?_
              cases hF
              exact Post.mk' ⟨rfl, rfl, rfl, rfl⟩ (h79.picks .nil) .nil
            ·
             refine op (OpS.pass rfl rfl rfl ?_)
             refine op (OpS.pass rfl rfl rfl ?_)
             refine op (OpS.pass rfl rfl rfl ?_)
             refine op (OpS.pass rfl rfl rfl ?_)
             refine op (OpS.pass rfl rfl rfl ?_)
             refine op (OpS.pass rfl rfl rfl ?_)
             refine op (OpS.pass rfl rfl rfl ?_)
             refine op (OpS.pass rfl rfl rfl ?_)
             refine op (OpS.pass rfl rfl rfl ?_)
             refine op (OpS.pick rfl rfl rfl rfl ?_)
             refine op (OpS.mv rfl rfl rfl ?_)
             refine op (OpS.pass rfl rfl rfl ?_)
             refine op (OpS.pick rfl rfl rfl rfl ?_)
             refine op (OpS.mv rfl rfl rfl ?_)
             refine op (OpS.pass rfl rfl rfl ?_)
             refine op (OpS.pass rfl rfl rfl ?_)
             refine op (OpS.pass rfl rfl rfl ?_)
             refine op (OpS.pass rfl rfl rfl ?_)
             refine op (OpS.pick rfl rfl rfl rfl ?_)
             refine op (OpS.mv rfl rfl rfl ?_)
             refine op (OpS.pass rfl rfl rfl ?_)
             refine op (OpS.pass rfl rfl rfl ?_)
             refine op (OpS.pass rfl rfl rfl ?_)
             refine op (OpS.pass rfl rfl rfl ?_)
             refine op (OpS.pass rfl rfl rfl ?_)
             refine op (OpS.pass rfl rfl rfl ?_)
             refine op (OpS.pass rfl rfl rfl ?_)
             refine op (OpS.pick rfl rfl rfl rfl ?_)
             refine op (OpS.mv rfl rfl rfl ?_)
             refine op (OpS.pass rfl rfl rfl ?_)
             refine op (OpS.pick rfl rfl rfl rfl ?_)
             refine op (OpS.as rfl rfl rfl ?_)
             refine RunL.nil ?_
             refine Run.slim [(6, .bool false)] ⟨rfl, trivial⟩ ?_
             refine Run.retP rfl (.tmp rfl .nil) ?_
             cases hF
             exact Post.mk' ⟨rfl, rfl, rfl, rfl⟩ (h77.picks .nil) .nil
           ·
            refine Run.ite rfl hF (fun e38 hF => ?_) (fun e38 hF => ?_)
            ·
             refine Run.reg ?_
             refine op (OpS.as rfl rfl rfl ?_)
             refine RunL.nil ?_
             refine Run.slim [(23, .int .i64 1), (7, .int .i64 x1), (18, u23), (20, u27), (21, .bool y13.2.1)] ⟨rfl, rfl, rfl, rfl, rfl, trivial⟩ ?_
             refine Run.slim [(7, .int .i64 x1), (18, u23), (20, u27), (21, .bool y13.2.1), (23, .int .i64 1)] ⟨rfl, rfl, rfl, rfl, rfl, trivial⟩ ?_
             exact hj7 (1) _ _ ⟨rfl, (h70.facts .nil).picks (.cons .z (.cons .z .nil))⟩ hF
            ·
             refine Run.skip ?_
             refine Run.slim [(7, .int .i64 x1), (18, u23), (20, u27), (21, .bool y13.2.1), (23, .int .i64 0)] ⟨rfl, rfl, rfl, rfl, rfl, trivial⟩ ?_
             exact hj7 (0) _ _ ⟨rfl, (h70.facts .nil).picks (.cons .z (.cons .z .nil))⟩ hF
        ·
         refine RunL.caseb hF (fun e39 hF => ?_) (fun e39 hF => ?_)
         ·
          refine op (OpS.pass rfl rfl rfl ?_)
          refine op (OpS.pass rfl rfl rfl ?_)
          refine op (OpS.pass rfl rfl rfl ?_)
          refine op (OpS.pass rfl rfl rfl ?_)
          refine op (OpS.pick rfl rfl rfl rfl ?_)
          refine RunL.nil ?_
          refine Run.slim [(103, .bool true), (21, .bool y13.2.1), (20, u27), (18, u23), (7, .int .i64 x1), (12, u9), (14, u11)] ⟨rfl, rfl, rfl, rfl, rfl, rfl, rfl, trivial⟩ ?_
          refine Run.slim [(7, .int .i64 x1), (12, u9), (14, u11), (18, u23), (20, u27), (21, .bool y13.2.1), (103, .bool true)] ⟨rfl, rfl, rfl, rfl, rfl, rfl, rfl, trivial⟩ ?_
          exact hj5 (true) _ _ ⟨rfl, (h67.facts (.atm (.s (.s (.s (.s .z)))) (.atm (.s (.s (.s (.s (.s .z))))) .nil))).picks (.cons (.s (.s (.s .z))) (.cons .z .nil))⟩ hF
         ·
          refine op (OpS.fbox (o3 := 0) h67 (.s (.s (.s .z))) PA.z fa46_0 rfl rfl rfl rfl ?_)
          refine op (OpS.loadB h67 (.s (.s (.s .z))) PA.a (Get.fld Delivery_.f0) ty33 rfl rfl rfl (fun u36 h85 => ?_))
          refine op (OpS.len h85 Try.underlying33 rfl rfl rfl (V.at .z) ?_)
          refine op (OpS.bin rfl rfl rfl rfl rfl ?_)
          refine op (OpS.pick rfl rfl rfl rfl ?_)
          refine RunL.nil ?_
          refine Run.slim [(103, .bool ((y12.1.Masters.length : Int) == 0)), (21, .bool y13.2.1), (20, u27), (18, u23), (7, .int .i64 x1), (12, u9), (14, u11)] ⟨rfl, rfl, rfl, rfl, rfl, rfl, rfl, trivial⟩ ?_
          refine Run.slim [(7, .int .i64 x1), (12, u9), (14, u11), (18, u23), (20, u27), (21, .bool y13.2.1), (103, .bool ((y12.1.Masters.length : Int) == 0))] ⟨rfl, rfl, rfl, rfl, rfl, rfl, rfl, trivial⟩ ?_
          exact hj5 ((y12.1.Masters.length : Int) == 0) _ _ ⟨rfl, (h85.facts (.atm (.s (.s (.s (.s (.s .z))))) (.atm (.s (.s (.s (.s (.s (.s .z)))))) .nil))).picks (.cons (.s (.s (.s .z))) (.cons .z .nil))⟩ hF
     ·
      refine RunL.caseb hF (fun e40 hF => ?_) (fun e40 hF => ?_)
      ·
       refine op (OpS.pass rfl rfl rfl ?_)
       refine op (OpS.pass rfl rfl rfl ?_)
       refine op (OpS.pick rfl rfl rfl rfl ?_)
       refine RunL.nil ?_
       refine Run.slim [(68, .bool true), (14, u11), (12, u9), (11, u7), (10, u6), (7, .int .i64 x1), (8, u1)] ⟨rfl, rfl, rfl, rfl, rfl, rfl, rfl, trivial⟩ ?_
       refine Run.slim [(7, .int .i64 x1), (8, u1), (10, u6), (11, u7), (12, u9), (14, u11), (68, .bool true)] ⟨rfl, rfl, rfl, rfl, rfl, rfl, rfl, trivial⟩ ?_
       exact hj3 (true) _ _ ⟨rfl, (h34.facts (.atm (.s (.s .z)) (.atm .z .nil))).picks (.cons (.s (.s (.s (.s .z)))) (.cons (.s .z) (.cons .z .nil)))⟩ hF
      ·
       refine op (OpS.mv rfl rfl rfl ?_)
       refine op (OpS.bin rfl rfl rfl rfl rfl ?_)
       refine op (OpS.pick rfl rfl rfl rfl ?_)
       refine RunL.nil ?_
       refine Run.slim [(68, .bool (y10.2 != 0)), (14, u11), (12, u9), (11, u7), (10, u6), (7, .int .i64 x1), (8, u1)] ⟨rfl, rfl, rfl, rfl, rfl, rfl, rfl, trivial⟩ ?_
       refine Run.slim [(7, .int .i64 x1), (8, u1), (10, u6), (11, u7), (12, u9), (14, u11), (68, .bool (y10.2 != 0))] ⟨rfl, rfl, rfl, rfl, rfl, rfl, rfl, trivial⟩ ?_
       exact hj3 (y10.2 != 0) _ _ ⟨rfl, (h34.facts (.atm (.s (.s .z)) (.atm .z .nil))).picks (.cons (.s (.s (.s (.s .z)))) (.cons (.s .z) (.cons .z .nil)))⟩ hF
   ·
    refine RunL.caseb hF (fun e41 hF => ?_) (fun e41 hF => ?_)
    ·
     refine op (OpS.pass rfl rfl rfl ?_)
     refine op (OpS.pass rfl rfl rfl ?_)
     refine op (OpS.pick rfl rfl rfl rfl ?_)
     refine RunL.nil ?_
     refine Run.slim [(46, .bool true), (8, u1), (7, .int .i64 x1), (0, v0), (1, v1)] ⟨rfl, rfl, rfl, rfl, rfl, trivial⟩ ?_
     refine Run.slim [(0, v0), (1, v1), (7, .int .i64 x1), (8, u1), (46, .bool true)] ⟨rfl, rfl, rfl, rfl, rfl, trivial⟩ ?_
     exact hj2 (true) _ _ ⟨rfl, (h9.facts (.atm .z (.atm (.s .z) .nil))).picks (.cons .z .nil)⟩ hF
    ·
     refine op (OpS.mv rfl rfl rfl ?_)
     refine op (OpS.bin rfl rfl rfl rfl rfl ?_)
     refine op (OpS.pick rfl rfl rfl rfl ?_)
     refine RunL.nil ?_
     refine Run.slim [(46, .bool (y4.2 != 0)), (8, u1), (7, .int .i64 x1), (0, v0), (1, v1)] ⟨rfl, rfl, rfl, rfl, rfl, trivial⟩ ?_
     refine Run.slim [(0, v0), (1, v1), (7, .int .i64 x1), (8, u1), (46, .bool (y4.2 != 0))] ⟨rfl, rfl, rfl, rfl, rfl, trivial⟩ ?_
     exact hj2 (y4.2 != 0) _ _ ⟨rfl, (h9.facts (.atm .z (.atm (.s .z) .nil))).picks (.cons .z .nil)⟩ hF
 ·
  refine RunL.caseb hF (fun e42 hF => ?_) (fun e42 hF => ?_)
  ·
   refine op (OpS.pass rfl rfl rfl ?_)
   refine op (OpS.pass rfl rfl rfl ?_)
   refine op (OpS.pass rfl rfl rfl ?_)
   refine op (OpS.pick rfl rfl rfl rfl ?_)
   refine RunL.nil ?_
   refine Run.slim [(31, .bool true), (0, v0), (1, v1), (2, .int .i64 a2)] ⟨rfl, rfl, rfl, rfl, trivial⟩ ?_
   refine Run.slim [(0, v0), (1, v1), (2, .int .i64 a2), (31, .bool true)] ⟨rfl, rfl, rfl, rfl, trivial⟩ ?_
   exact hj1 (true) _ _ ⟨rfl, (h2.facts (.atm .z (.atm (.s .z) .nil))).picks .nil⟩ hF
  ·
   refine op (OpS.mv rfl rfl rfl ?_)
   obtain ⟨y17, e43, hF⟩ := bindP_use hF
   refine op (OpS.callP h2 Try.func24 rfl rfl rfl rfl (vs := [v1]) rfl (made_Light_ok e43) (.cons (f := false) (V.at (.s .z)) .nil) ?_)
   rintro _ w36 _ _ _ ⟨rfl, rfl, rfl, rfl⟩ h86
   have h87 := h86 rfl rfl
   simp only [List.cons_append, List.nil_append] at h87
   refine op (OpS.not rfl rfl rfl ?_)
   refine op (OpS.pick rfl rfl rfl rfl ?_)
   refine RunL.nil ?_
   refine Run.slim [(31, .bool (!y17)), (0, v0), (1, v1), (2, .int .i64 a2)] ⟨rfl, rfl, rfl, rfl, trivial⟩ ?_
   refine Run.slim [(0, v0), (1, v1), (2, .int .i64 a2), (31, .bool (!y17))] ⟨rfl, rfl, rfl, rfl, trivial⟩ ?_
   exact hj1 (!y17) _ _ ⟨rfl, (h87.facts (.atm .z (.atm (.s .z) .nil))).picks .nil⟩ hF
end Lift
