/- Each Go function computes its plain function. Written by lift.py. -/
import Derived.Test.YtedddoifbhcinaaBusRoomWalksA
set_option linter.unusedVariables false
set_option linter.unusedSimpArgs false
namespace Lift
open Go Go.Proofs
open RunL (op)
theorem made_Dice_Frame_ok {fuel : Nat} {a0 : made_Dice} {y : Frame_ × made_Dice} (hF : made_Dice_Frame fuel a0 = some y) {w : World} {v0 : Value} :
  Spec Try.prog 15 [v0].toArray w [] [(false, .box 81 made_Dice.rep v0 a0)] (fun v Γr Ωr Ωo => ∃ u0 : Value, v = u0 ∧ Γr = [(true, .val Frame_.rep u0 y.1)] ∧ Ωr = [] ∧ Ωo = [(false, .box 81 made_Dice.rep v0 y.2)]) := by
 refine Spec.of (L := [(0, v0)]) Try.func15 rfl ⟨rfl, trivial⟩ rfl (fun e h => ?_)
 unfold made_Dice_Frame at hF
 refine Run.seq ?_
 refine Run.reg ?_
 refine op (OpS.alloc h ti36 Frame_.zr rfl rfl (fun u1 w1 h1 => ?_))
 refine RunL.nil ?_
 refine Run.seq ?_
 refine Run.reg ?_
 refine op (OpS.mv rfl rfl rfl ?_)
 obtain ⟨y1, e1, hF⟩ := bindP_use hF
 have h2 := h1.front (.cons (.s .z) .nil)
 refine op (OpS.callO h2 Try.func32 rfl rfl rfl rfl (vs := [v0, .int .i64 4]) rfl (made_Dice_Next_ok e1) rfl .nil ?_)
 rintro _ w2 _ _ _ ⟨rfl, rfl, rfl, rfl⟩ h3
 have h4 := h3
 simp only [List.cons_append, List.nil_append] at h4
 refine op (OpS.bin rfl rfl rfl rfl rfl ?_)
 refine op (OpS.conv Try.underlying3 Try.underlying5 rfl rfl rfl ?_)
 refine op (OpS.mv rfl rfl rfl ?_)
 obtain ⟨y2, e2, hF⟩ := bindP_use hF
 have h5 := h4.front (.cons .z .nil)
 refine op (OpS.callO h5 Try.func32 rfl rfl rfl rfl (vs := [v0, .int .i64 3]) rfl (made_Dice_Next_ok e2) rfl .nil ?_)
 rintro _ w3 _ _ _ ⟨rfl, rfl, rfl, rfl⟩ h6
 have h7 := h6
 simp only [List.cons_append, List.nil_append] at h7
 refine op (OpS.bin rfl rfl rfl rfl rfl ?_)
 refine op (OpS.conv Try.underlying3 Try.underlying5 rfl rfl rfl ?_)
 refine op (OpS.mv rfl rfl rfl ?_)
 obtain ⟨y3, e3, hF⟩ := bindP_use hF
 have h8 := h7.front (.cons .z .nil)
 refine op (OpS.callO h8 Try.func33 rfl rfl rfl rfl (vs := [v0, .int .i64 6]) rfl (made_Dice_Bytes_ok e3) rfl .nil ?_)
 rintro u2 w4 _ _ _ ⟨_, rfl, rfl, rfl, rfl⟩ h9
 have h10 := h9
 simp only [List.cons_append, List.nil_append] at h10
 have h11 := (h10.pick .z).freeze
 refine op (OpS.build (f := true) (x' := (⟨(IntKind.u8.wrap (IntKind.i64.wrap (8 + y1.1))), (IntKind.u8.wrap (IntKind.i64.wrap (32 + y2.1))), y3.1⟩ : Frame_)) h11 pl36 ti36 Frame_.zr rfl rfl rfl (.cons rfl Frame_.f0 rfl V.int (.cons rfl Frame_.f1 rfl V.int (.cons rfl Frame_.f2 rfl (V.at .z) .nil))) (fun u3 h12 => ?_))
 refine op (OpS.alloc h12 ti36 Frame_.zr rfl rfl (fun u4 w5 h13 => ?_))
 refine op (OpS.storeB (f' := true) h13 .z PA.z Put.id ty36 rfl rfl rfl (V.at .z) (.inl rfl) (fun w6 h14 => ?_))
 refine RunL.nil ?_
 refine Run.slim [(3, u4), (2, u1), (0, v0)] ⟨rfl, rfl, rfl, trivial⟩ ?_
 refine Run.seq ?_
 refine Run.seq ?_
 refine Run.reg ?_
 refine op (OpS.mv rfl rfl rfl ?_)
 obtain ⟨y4, e4, hF⟩ := bindP_use hF
 have h15 := h14.front (.cons (.s .z) .nil)
 refine op (OpS.callO h15 Try.func34 rfl rfl rfl rfl (vs := [v0, .int .i64 30]) rfl (made_Dice_Bool_ok e4) rfl .nil ?_)
 rintro _ w7 _ _ _ ⟨rfl, rfl, rfl, rfl⟩ h16
 have h17 := h16
 simp only [List.cons_append, List.nil_append] at h17
 refine RunL.nil ?_
 refine Run.slim [(16, .bool y4.1), (3, u4), (2, u1)] ⟨rfl, rfl, rfl, trivial⟩ ?_
 refine Run.ite rfl hF (fun e5 hF => ?_) (fun e5 hF => ?_)
 ·
  refine Run.seq ?_
  refine Run.reg ?_
  obtain ⟨x1, e6, hF⟩ := bindP_use hF
  refine op (OpS.make h17 Try.underlying34 ti5 rfl rfl (Zr.int .u8 0) rfl rfl rfl rfl e6 (by simp) (mk_fits e6) rfl (fun u5 w8 h18 => ?_))
  refine op (OpS.fbox (o3 := 2) h18 (.s (.s .z)) PA.z fa36_2 rfl rfl rfl rfl ?_)
  refine op (OpS.storeC (f' := true) (fr := (Rep.raw u5)) (r' := (Rep.iso (fun s : Frame_ => (s.To, s.From, s.Data, ())) (Rep.prod (Rep.int .u8) (Rep.prod (Rep.int .u8) (Rep.prod (Rep.raw (α := List Int) u5) Rep.unit))))) (x' := (⟨(IntKind.u8.wrap (IntKind.i64.wrap (8 + y1.1))), (IntKind.u8.wrap (IntKind.i64.wrap (32 + y2.1))), y3.1⟩ : Frame_)) h18 (.s (.s .z)) PA.a (Chg.iso _ (Chg.there (Chg.there (Chg.here (Chg.id (by rfl)))))) (Ty.like ty34 (by rfl) (by rfl)) rfl rfl rfl (V.raw (f := true) (St.own1 h18 .z) ((⟨(IntKind.u8.wrap (IntKind.i64.wrap (8 + y1.1))), (IntKind.u8.wrap (IntKind.i64.wrap (32 + y2.1))), y3.1⟩ : Frame_).Data)) (.inl rfl) (fun w9 h19 => ?_))
  refine RunL.nil ?_
  refine Run.slim [(3, u4), (2, u1)] ⟨rfl, rfl, trivial⟩ ?_
  refine Run.reg ?_
  refine op (OpS.fbox (o3 := 0) h19 .z PA.z fa36_0 rfl rfl rfl rfl ?_)
  obtain ⟨d1, e7, hF⟩ := letP_use hF
  refine op (OpS.storeC (f' := true) (fr := (Rep.int .u8)) (r' := (Rep.iso (fun s : Frame_ => (s.To, s.From, s.Data, ())) (Rep.prod (Rep.int .u8) (Rep.prod (Rep.int .u8) (Rep.prod (Rep.raw (α := List Int) u5) Rep.unit))))) (x' := d1) h19 .z PA.a (Chg.of (x' := { (⟨(IntKind.u8.wrap (IntKind.i64.wrap (8 + y1.1))), (IntKind.u8.wrap (IntKind.i64.wrap (32 + y2.1))), y3.1⟩ : Frame_) with To := 119 }) (Chg.iso _ (Chg.here (Chg.id (by rfl)))) e7) ty5 rfl rfl rfl V.int (.inl rfl) (fun w10 h20 => ?_))
  refine RunL.nil ?_
  refine Run.slim [(3, u4), (2, u1)] ⟨rfl, rfl, trivial⟩ ?_
  refine Run.seq ?_
  refine Run.reg ?_
  refine op (OpS.loadB (fr := (Rep.iso (fun s : Frame_ => (s.To, s.From, s.Data, ())) (Rep.prod (Rep.int .u8) (Rep.prod (Rep.int .u8) (Rep.prod (Rep.raw (α := List Int) u5) Rep.unit))))) h20 .z PA.z (GetS.ok GetS.id) (Ty.like ty36 (by rfl) (by rfl)) rfl rfl rfl (fun u6 h21 => ?_))
  refine op (OpS.storeC (f' := true) (fr := (Rep.iso (fun s : Frame_ => (s.To, s.From, s.Data, ())) (Rep.prod (Rep.int .u8) (Rep.prod (Rep.int .u8) (Rep.prod (Rep.raw (α := List Int) u5) Rep.unit))))) (r' := (Rep.iso (fun s : Frame_ => (s.To, s.From, s.Data, ())) (Rep.prod (Rep.int .u8) (Rep.prod (Rep.int .u8) (Rep.prod (Rep.raw (α := List Int) u5) Rep.unit))))) (x' := d1) h21 (.s (.s (.s .z))) PA.z (Chg.id (by rfl)) (Ty.like ty36 (by rfl) (by rfl)) rfl rfl rfl (V.at .z) (.inl rfl) (fun w11 h22 => ?_))
  refine RunL.nil ?_
  refine Run.slim [(2, u1)] ⟨rfl, trivial⟩ ?_
  obtain ⟨u7, hu1, h23⟩ := res_box h22 .z (Ty.like ty36 (by rfl) (by rfl))
  have h24 := (h23.pick (.s (.s .z))).freeze
  have h25 := h24.pick .z
  have h26 := St.boxJ (r' := Frame_.rep) (x' := { d1 with Data := x1 }) h25 (fun _ _ hs_ => (Jn.iso _ (Jn.prod Jn.refl (Jn.prod Jn.refl (Jn.prod (Jn.raw ((V.at .z) _ _ hs_) rfl) Jn.refl)))))
  have h27 := h26.pick (.s .z)
  have h28 := St.boxJ (r' := Frame_.rep) (x' := { d1 with Data := x1 }) h27 (fun _ _ hs_ => (Jn.iso _ (Jn.prod Jn.refl (Jn.prod Jn.refl (Jn.prod (Jn.raw ((V.at .z) _ _ hs_) rfl) Jn.refl)))))
  have h29 := St.addV (f := true) (r := Frame_.rep) (x := { d1 with Data := x1 }) h28 (V.jn (r := (Rep.iso (fun s : Frame_ => (s.To, s.From, s.Data, ())) (Rep.prod (Rep.int .u8) (Rep.prod (Rep.int .u8) (Rep.prod (Rep.raw (α := List Int) u5) Rep.unit))))) (x := d1) (V.at (.s .z)) rfl (fun _ _ hs_ => (Jn.iso _ (Jn.prod Jn.refl (Jn.prod Jn.refl (Jn.prod (Jn.raw ((V.at .z) _ _ hs_) rfl) Jn.refl))))))
  refine Run.retP rfl (.cell rfl hu1 .nil) ?_
  cases hF
  exact Post.mk' ⟨u7, rfl, rfl, rfl, rfl⟩ (h29.picks (.cons (.s (.s .z)) .nil)) (.val (V.at .z) .nil)
 ·
  refine Run.skip ?_
  refine Run.seq ?_
  refine Run.reg ?_
  refine op (OpS.loadB h17 (.s .z) PA.z Get.id ty36 rfl rfl rfl (fun u8 h30 => ?_))
  refine op (OpS.storeB (f' := true) h30 (.s (.s .z)) PA.z Put.id ty36 rfl rfl rfl (V.at .z) (.inl rfl) (fun w12 h31 => ?_))
  refine RunL.nil ?_
  refine Run.slim [(2, u1)] ⟨rfl, trivial⟩ ?_
  obtain ⟨u9, hu2, h32⟩ := res_box h31 .z ty36
  refine Run.retP rfl (.cell rfl hu2 .nil) ?_
  cases hF
  exact Post.mk' ⟨u9, rfl, rfl, rfl, rfl⟩ (h32.picks (.cons (.s .z) .nil)) (.val (V.at .z) .nil)
theorem made_Light_ok {fuel : Nat} {a0 : List Int} {y : Bool} (hF : made_Light fuel a0 = some y) {w : World} {v0 : Value} :
  Spec Try.prog 24 [v0].toArray w [(false, .val (Rep.slice (Rep.int .i64)) v0 a0)] [] (fun v Γr Ωr Ωo => v = .bool y ∧ Γr = [] ∧ Ωr = [] ∧ Ωo = []) := by
 refine Spec.of (L := [(0, v0)]) Try.func24 rfl ⟨rfl, trivial⟩ rfl (fun e h => ?_)
 unfold made_Light at hF
 refine Run.seq ?_
 refine Run.reg ?_
 refine op (OpS.as rfl rfl rfl ?_)
 refine RunL.nil ?_
 refine Run.slim [(0, v0)] ⟨rfl, trivial⟩ ?_
 refine Run.seq ?_
 refine Run.reg ?_
 refine op (OpS.mv rfl rfl rfl ?_)
 refine op (OpS.len h Try.underlying33 rfl rfl rfl (V.at .z) ?_)
 refine op (OpS.bin rfl rfl rfl rfl rfl ?_)
 refine op (OpS.as rfl rfl rfl ?_)
 obtain ⟨x1, e1, hF⟩ := letP_use hF
 refine RunL.nameb e1 ?_
 refine RunL.nil ?_
 refine Run.slim [(2, .bool x1)] ⟨rfl, trivial⟩ ?_
 refine Run.retP rfl (.tmp rfl .nil) ?_
 cases hF
 exact Post.mk' ⟨rfl, rfl, rfl, rfl⟩ (h.picks .nil) .nil
set_option maxHeartbeats 8000000 in
theorem law21_BusRoom_ok {fuel : Nat} {a0 : Int} {a1 : Int} {a2 : Int} {a3 : List Int} {y : Bool} (hF : law21_BusRoom fuel a0 a1 a2 a3 = some y) {w : World} {v3 : Value} :
  Spec Try.prog 8 [.int .i64 a0, .int .i64 a1, .int .i64 a2, v3].toArray w [(false, .val (Rep.slice (Rep.int .i64)) v3 a3)] [] (fun v Γr Ωr Ωo => v = .bool y ∧ Γr = [] ∧ Ωr = [] ∧ Ωo = []) := by
 refine Spec.of (L := [(0, .int .i64 a0), (1, .int .i64 a1), (2, .int .i64 a2), (3, v3)]) Try.func8 rfl ⟨rfl, rfl, rfl, rfl, trivial⟩ rfl (fun e h => ?_)
 unfold law21_BusRoom at hF
 refine Run.seq ?_
 refine Run.reg ?_
 refine op (OpS.as rfl rfl rfl ?_)
 refine RunL.nil ?_
 refine Run.slim [(0, .int .i64 a0), (1, .int .i64 a1), (2, .int .i64 a2), (3, v3)] ⟨rfl, rfl, rfl, rfl, trivial⟩ ?_
 refine Run.seq ?_
 refine Run.seq ?_
 refine Run.reg ?_
 refine op (OpS.mv rfl rfl rfl ?_)
 obtain ⟨y1, e1, hF⟩ := bindP_use hF
 refine op (OpS.callP h Try.func24 rfl rfl rfl rfl (vs := [v3]) rfl (made_Light_ok e1) (.cons (f := false) (V.at .z) .nil) ?_)
 rintro _ w1 _ _ _ ⟨rfl, rfl, rfl, rfl⟩ h1
 have h2 := h1 rfl rfl
 simp only [List.cons_append, List.nil_append] at h2
 refine op (OpS.not rfl rfl rfl ?_)
 refine RunL.nil ?_
 refine Run.slim [(20, .bool (!y1)), (0, .int .i64 a0), (1, .int .i64 a1), (2, .int .i64 a2), (3, v3)] ⟨rfl, rfl, rfl, rfl, rfl, trivial⟩ ?_
 refine Run.ite rfl hF (fun e2 hF => ?_) (fun e2 hF => ?_)
 ·
  refine Run.seq ?_
  refine Run.reg ?_
  obtain ⟨y2, e3, hF⟩ := bindP_use hF
  refine op (OpS.callP h2 Try.func10 rfl rfl rfl rfl (vs := []) rfl (law21_awake_ok e3) .nil ?_)
  rintro _ w2 _ _ _ ⟨rfl, rfl, rfl, rfl⟩ h3
  have h4 := h3 rfl rfl
  simp only [List.cons_append, List.nil_append] at h4
  refine op (OpS.as rfl rfl rfl ?_)
  refine RunL.nil ?_
  refine Run.slim [(8, .bool y2)] ⟨rfl, trivial⟩ ?_
  refine Run.retP rfl (.tmp rfl .nil) ?_
  cases hF
  exact Post.mk' ⟨rfl, rfl, rfl, rfl⟩ (h4.picks .nil) .nil
 ·
  refine Run.skip ?_
  refine Run.seq ?_
  refine Run.reg ?_
  refine op (OpS.mv rfl rfl rfl ?_)
  obtain ⟨y3, e4, hF⟩ := bindP_use hF
  refine op (OpS.callP h2 Try.func13 rfl rfl rfl rfl (vs := [.int .i64 a0, .int .i64 8]) rfl (made_Mod_ok e4) .nil ?_)
  rintro _ w3 _ _ _ ⟨rfl, rfl, rfl, rfl⟩ h5
  have h6 := h5 rfl rfl
  simp only [List.cons_append, List.nil_append] at h6
  refine op (OpS.bin rfl rfl rfl rfl rfl ?_)
  refine op (OpS.as rfl rfl rfl ?_)
  obtain ⟨x1, e5, hF⟩ := letP_use hF
  refine RunL.name e5 ?_
  refine RunL.nil ?_
  refine Run.slim [(9, .int .i64 x1), (1, .int .i64 a1), (2, .int .i64 a2), (3, v3)] ⟨rfl, rfl, rfl, rfl, trivial⟩ ?_
  refine Run.seq ?_
  refine Run.reg ?_
  refine op (OpS.mv rfl rfl rfl ?_)
  obtain ⟨y4, e6, hF⟩ := bindP_use hF
  refine op (OpS.callP h6 Try.func11 rfl rfl rfl rfl (vs := [.int .i64 x1]) rfl (bus_New_ok e6) .nil ?_)
  rintro _ w4 _ _ _ ⟨u1, rfl, rfl, rfl, rfl⟩ h7
  have h8 := h7 rfl rfl
  simp only [List.cons_append, List.nil_append] at h8
  refine op (OpS.mv rfl rfl rfl ?_)
  refine op (OpS.ext rfl rfl rfl rfl ?_)
  refine op (OpS.ext rfl rfl rfl rfl ?_)
  refine op (OpS.as rfl rfl rfl ?_)
  refine op (OpS.as rfl rfl rfl ?_)
  refine RunL.nil ?_
  refine Run.slim [(11, .int .i64 y4.2), (10, u1), (9, .int .i64 x1), (1, .int .i64 a1), (2, .int .i64 a2), (3, v3)] ⟨rfl, rfl, rfl, rfl, rfl, rfl, trivial⟩ ?_
  refine Run.seq ?_
  refine Run.seq ?_
  refine Run.reg ?_
  refine op (OpS.mv rfl rfl rfl ?_)
  refine op (OpS.onilE h8 .z (fun _ G_ S_ w_ h_ => ptr_one1 G_ S_ w_ h_) Try.underlying25 rfl rfl rfl rfl ?_)
  refine op (OpS.mv rfl rfl rfl ?_)
  refine RunL.join (σ := Bool) (fun s_ L_ w_ => L_ = [(1, .int .i64 a1), (2, .int .i64 a2), (3, v3), (9, .int .i64 x1), (10, u1), (35, .bool s_)] ∧ St e w_ [(false, .val (Rep.slice (Rep.int .i64)) v3 a3)] [(true, .opt (fun x_ => .ex fun v_ => .sep (.box 76 (Rep.iso (fun s : bus_Bus => (s.masters, ())) (Rep.prod (Rep.raw (α := List bus_master) v_) Rep.unit)) u1 x_) (.oval (oslice 85 3 (fun _ => bus_master.orep)) v_ x_.masters)) u1 y4.1)]) hF (fun s1 _ w5 hI hF => ?_) (fun j1 hj1 hF => ?_)
  ·
   obtain ⟨rfl, h9⟩ := hI
   refine Run.ite rfl hF (fun e7 hF => ?_) (fun e7 hF => ?_)
   ·
    refine Run.seq ?_
    refine Run.reg ?_
    refine op (OpS.as rfl rfl rfl ?_)
    refine RunL.nil ?_
    refine Run.slim [(8, .bool false)] ⟨rfl, trivial⟩ ?_
    refine Run.retP rfl (.tmp rfl .nil) ?_
    cases hF
    exact Post.mk' ⟨rfl, rfl, rfl, rfl⟩ (h9.picks .nil) .nil
   ·
    refine Run.skip ?_
    refine Run.seq ?_
    refine Run.reg ?_
    refine op (OpS.mv rfl rfl rfl ?_)
    obtain ⟨y5, e8, hF⟩ := bindP_use hF
    have h10 := h9.front .nil
    refine op (OpS.callO h10 Try.func14 rfl rfl rfl rfl (vs := [v3]) rfl (made_Roll_ok e8) rfl (.cons (f := false) (V.at .z) .nil) ?_)
    rintro u2 w6 _ _ _ ⟨_, rfl, rfl, rfl, rfl⟩ h11
    have h12 := h11
    simp only [List.cons_append, List.nil_append] at h12
    obtain ⟨y6, e9, hF⟩ := bindP_use hF
    have h13 := h12.front (.cons .z .nil)
    refine op (OpS.callO h13 Try.func15 rfl rfl rfl rfl (vs := [u2]) rfl (made_Dice_Frame_ok e9) rfl .nil ?_)
    rintro u3 w7 _ _ _ ⟨_, rfl, rfl, rfl, rfl⟩ h14
    have h15 := h14
    simp only [List.cons_append, List.nil_append] at h15
    refine op (OpS.alloc h15 ti36 Frame_.zr rfl rfl (fun u4 w8 h16 => ?_))
    refine op (OpS.storeB (f' := true) h16 .z PA.z Put.id ty36 rfl rfl rfl (V.at .z) (.inl rfl) (fun w9 h17 => ?_))
    refine RunL.nil ?_
    refine Run.slim [(12, u4), (1, .int .i64 a1), (2, .int .i64 a2), (9, .int .i64 x1), (10, u1)] ⟨rfl, rfl, rfl, rfl, rfl, trivial⟩ ?_
    refine Run.seq ?_
    refine Run.reg ?_
    refine op (OpS.mv rfl rfl rfl ?_)
    refine op (OpS.mv rfl rfl rfl ?_)
    obtain ⟨y7, e10, hF⟩ := bindP_use hF
    refine op (OpS.callP h17 Try.func13 rfl rfl rfl rfl (vs := [.int .i64 a1, .int .i64 x1]) rfl (made_Mod_ok e10) .nil ?_)
    rintro _ w10 _ _ _ ⟨rfl, rfl, rfl, rfl⟩ h18
    have h19 := h18 rfl rfl
    simp only [List.cons_append, List.nil_append] at h19
    refine op (OpS.as rfl rfl rfl ?_)
    refine RunL.nil ?_
    refine Run.slim [(13, .int .i64 y7), (12, u4), (2, .int .i64 a2), (9, .int .i64 x1), (10, u1)] ⟨rfl, rfl, rfl, rfl, rfl, trivial⟩ ?_
    refine Run.seq ?_
    refine Run.reg ?_
    refine op (OpS.mv rfl rfl rfl ?_)
    obtain ⟨y8, e11, hF⟩ := bindP_use hF
    refine op (OpS.callP h19 Try.func13 rfl rfl rfl rfl (vs := [.int .i64 a2, .int .i64 4]) rfl (made_Mod_ok e11) .nil ?_)
    rintro _ w11 _ _ _ ⟨rfl, rfl, rfl, rfl⟩ h20
    have h21 := h20 rfl rfl
    simp only [List.cons_append, List.nil_append] at h21
    refine op (OpS.bin rfl rfl rfl rfl rfl ?_)
    refine op (OpS.as rfl rfl rfl ?_)
    obtain ⟨x2, e12, hF⟩ := letP_use hF
    refine RunL.name e12 ?_
    refine RunL.nil ?_
    refine Run.slim [(14, .int .i64 x2), (13, .int .i64 y7), (12, u4), (9, .int .i64 x1), (10, u1)] ⟨rfl, rfl, rfl, rfl, rfl, trivial⟩ ?_
    refine Run.seq ?_
    refine Run.seq ?_
    refine Run.reg ?_
    refine op (OpS.as rfl rfl rfl ?_)
    refine RunL.nil ?_
    refine Run.block ?_
    have h22 := (h21.pick (.s (.s .z))).weak
    refine Run.slim [(9, .int .i64 x1), (10, u1), (12, u4), (13, .int .i64 y7), (14, .int .i64 x2), (15, .int .i64 0)] ⟨rfl, rfl, rfl, rfl, rfl, rfl, trivial⟩ ?_
    refine Run.loopP (σ := (Int × (Option bus_Bus))) (fun s_ L_ w_ => ∃ u0_ : Value, L_ = [(9, .int .i64 x1), (10, u0_), (12, u4), (13, .int .i64 y7), (14, .int .i64 x2), (15, .int .i64 s_.1)] ∧ St e w_ [] [(true, .box 36 Frame_.rep u4 y6.1), (false, .opt (fun x_ => .ex fun v_ => .sep (.box 76 (Rep.iso (fun s : bus_Bus => (s.masters, ())) (Rep.prod (Rep.raw (α := List bus_master) v_) Rep.unit)) u0_ x_) (.oval (oslice 85 3 (fun _ => bus_master.orep)) v_ x_.masters)) u0_ s_.2)]) hF ⟨u1, rfl, (h22.facts .nil).picks (.cons (.s .z) (.cons .z .nil))⟩ (fun k1 hk1 s2 _ w12 hI hF => ?_)
    obtain ⟨u5, rfl, h23⟩ := hI
    refine Run.seq ?_
    refine Run.seq ?_
    refine Run.reg ?_
    refine op (OpS.mv rfl rfl rfl ?_)
    refine op (OpS.mv rfl rfl rfl ?_)
    refine op (OpS.bin rfl rfl rfl rfl rfl ?_)
    refine RunL.nil ?_
    refine Run.slim [(47, .bool (decide (s2.1 < x2))), (9, .int .i64 x1), (10, u5), (12, u4), (13, .int .i64 y7), (14, .int .i64 x2), (15, .int .i64 s2.1)] ⟨rfl, rfl, rfl, rfl, rfl, rfl, rfl, trivial⟩ ?_
    refine Run.ite rfl hF (fun e13 hF => ?_) (fun e13 hF => ?_)
    ·
     refine Run.skip ?_
     refine Run.seq ?_
     refine Run.block ?_
     refine Run.seq ?_
     refine Run.reg ?_
     refine op (OpS.as rfl rfl rfl ?_)
     refine RunL.nil ?_
     refine Run.slim [(16, .int .i64 0), (9, .int .i64 x1), (10, u5), (12, u4), (13, .int .i64 y7), (14, .int .i64 x2), (15, .int .i64 s2.1)] ⟨rfl, rfl, rfl, rfl, rfl, rfl, rfl, trivial⟩ ?_
     refine Run.seq ?_
     refine Run.seq ?_
     refine Run.reg ?_
     refine op (OpS.mv rfl rfl rfl ?_)
     refine op (OpS.bin rfl rfl rfl rfl rfl ?_)
     refine RunL.nil ?_
     refine Run.slim [(51, .bool (decide (s2.1 ≥ 16))), (16, .int .i64 0), (9, .int .i64 x1), (10, u5), (12, u4), (13, .int .i64 y7), (14, .int .i64 x2), (15, .int .i64 s2.1)] ⟨rfl, rfl, rfl, rfl, rfl, rfl, rfl, rfl, trivial⟩ ?_
     refine Run.join (σ := Int) (fun s_ L_ w_ => L_ = [(9, .int .i64 x1), (10, u5), (12, u4), (13, .int .i64 y7), (14, .int .i64 x2), (15, .int .i64 s2.1), (16, .int .i64 s_)] ∧ St e w_ [] [(false, .opt (fun x_ => .ex fun v_ => .sep (.box 76 (Rep.iso (fun s : bus_Bus => (s.masters, ())) (Rep.prod (Rep.raw (α := List bus_master) v_) Rep.unit)) u5 x_) (.oval (oslice 85 3 (fun _ => bus_master.orep)) v_ x_.masters)) u5 s2.2), (true, .box 36 Frame_.rep u4 y6.1)]) hF (fun s3 _ w13 hI hF => ?_) (fun j2 hj2 hF => ?_)
     ·
      obtain ⟨rfl, h24⟩ := hI
      refine Run.seq ?_
      refine Run.reg ?_
      refine op (OpS.mv rfl rfl rfl ?_)
      refine op (OpS.mv rfl rfl rfl ?_)
      refine op (OpS.loadB h24 (.s .z) PA.z Get.id ty36 rfl rfl rfl (fun u6 h25 => ?_))
      obtain ⟨x3, e14, hF⟩ := bindP_use hF
      have h26 := St.unopt (h25.pick .z) e14
      obtain ⟨u7, h27⟩ := h26.unex
      have h28 := h27.unsep
      obtain ⟨y9, e15, hF⟩ := bindP_use hF
      have h29 := h28.front (.cons .z (.cons .z .nil))
      refine op (OpS.callO h29 Try.func16 rfl rfl rfl rfl (vs := [u5, .int .i64 y7, u6]) rfl (bus_Bus_Submit_ok e15) rfl (.cons (f := true) (V.at .z) .nil) ?_)
      rintro _ w14 _ _ _ ⟨u8, rfl, rfl, rfl, rfl⟩ h30
      have h31 := h30
      simp only [List.cons_append, List.nil_append] at h31
      refine op (OpS.mv rfl rfl rfl ?_)
      refine op (OpS.bin rfl rfl rfl rfl rfl ?_)
      refine RunL.nil ?_
      refine Run.slim [(57, .bool (y9.1 != s3)), (9, .int .i64 x1), (10, u5), (12, u4), (13, .int .i64 y7), (14, .int .i64 x2), (15, .int .i64 s2.1)] ⟨rfl, rfl, rfl, rfl, rfl, rfl, rfl, trivial⟩ ?_
      refine Run.ite rfl hF (fun e16 hF => ?_) (fun e16 hF => ?_)
      ·
       refine Run.seq ?_
       refine Run.reg ?_
       refine op (OpS.as rfl rfl rfl ?_)
       refine RunL.nil ?_
       refine Run.slim [(8, .bool false)] ⟨rfl, trivial⟩ ?_
       refine Run.retP rfl (.tmp rfl .nil) ?_
       cases hF
       exact Post.mk' ⟨rfl, rfl, rfl, rfl⟩ (h31.picks .nil) .nil
      ·
       refine Run.skip ?_
       refine Run.endBlock ?_
       refine Run.reg ?_
       refine op (OpS.mv rfl rfl rfl ?_)
       refine op (OpS.bin rfl rfl rfl rfl rfl ?_)
       refine op (OpS.as rfl rfl rfl ?_)
       obtain ⟨x4, e17, hF⟩ := letP_use hF
       refine RunL.name e17 ?_
       refine RunL.nil ?_
       refine Run.slim [(15, .int .i64 x4), (9, .int .i64 x1), (10, u5), (12, u4), (13, .int .i64 y7), (14, .int .i64 x2)] ⟨rfl, rfl, rfl, rfl, rfl, rfl, trivial⟩ ?_
       have h32 := h31.front (.cons .z (.cons .z .nil))
       have h33 := St.some (H := (fun x_ => .ex fun v_ => .sep (.box 76 (Rep.iso (fun s : bus_Bus => (s.masters, ())) (Rep.prod (Rep.raw (α := List bus_master) v_) Rep.unit)) u5 x_) (.oval (oslice 85 3 (fun _ => bus_master.orep)) v_ x_.masters))) (q := u5) (x := y9.2) (St.ex (H := fun v_ => .sep (.box 76 (Rep.iso (fun s : bus_Bus => (s.masters, ())) (Rep.prod (Rep.raw (α := List bus_master) v_) Rep.unit)) u5 y9.2) (.oval (oslice 85 3 (fun _ => bus_master.orep)) v_ y9.2.masters)) u8 (St.sep h32))
       refine Run.slim [(9, .int .i64 x1), (10, u5), (12, u4), (13, .int .i64 y7), (14, .int .i64 x2), (15, .int .i64 x4)] ⟨rfl, rfl, rfl, rfl, rfl, rfl, trivial⟩ ?_
       exact hk1 (x4, (some y9.2)) _ _ ⟨u5, rfl, (h33.facts .nil).picks (.cons (.s .z) (.cons .z .nil))⟩ hF
     ·
      refine Run.ite rfl hF (fun e18 hF => ?_) (fun e18 hF => ?_)
      ·
       refine Run.reg ?_
       refine op (OpS.as rfl rfl rfl ?_)
       refine RunL.nil ?_
       refine Run.slim [(16, .int .i64 9), (9, .int .i64 x1), (10, u5), (12, u4), (13, .int .i64 y7), (14, .int .i64 x2), (15, .int .i64 s2.1)] ⟨rfl, rfl, rfl, rfl, rfl, rfl, rfl, trivial⟩ ?_
       refine Run.slim [(9, .int .i64 x1), (10, u5), (12, u4), (13, .int .i64 y7), (14, .int .i64 x2), (15, .int .i64 s2.1), (16, .int .i64 9)] ⟨rfl, rfl, rfl, rfl, rfl, rfl, rfl, trivial⟩ ?_
       exact hj2 (9) _ _ ⟨rfl, (h23.facts .nil).picks (.cons (.s .z) (.cons .z .nil))⟩ hF
      ·
       refine Run.skip ?_
       refine Run.slim [(9, .int .i64 x1), (10, u5), (12, u4), (13, .int .i64 y7), (14, .int .i64 x2), (15, .int .i64 s2.1), (16, .int .i64 0)] ⟨rfl, rfl, rfl, rfl, rfl, rfl, rfl, trivial⟩ ?_
       exact hj2 (0) _ _ ⟨rfl, (h23.facts .nil).picks (.cons (.s .z) (.cons .z .nil))⟩ hF
    ·
     refine Run.exit rfl ?_
     refine Run.seq ?_
     refine Run.reg ?_
     refine op (OpS.loadB h23 .z PA.z Get.id ty36 rfl rfl rfl (fun u9 h34 => ?_))
     refine op (OpS.alloc h34 ti36 Frame_.zr rfl rfl (fun u10 w15 h35 => ?_))
     refine op (OpS.storeB (f' := true) h35 .z PA.z Put.id ty36 rfl rfl rfl (V.at .z) (.inl rfl) (fun w16 h36 => ?_))
     refine RunL.nil ?_
     refine Run.slim [(17, u10), (9, .int .i64 x1), (10, u5), (12, u4), (13, .int .i64 y7), (14, .int .i64 x2)] ⟨rfl, rfl, rfl, rfl, rfl, rfl, trivial⟩ ?_
     refine Run.seq ?_
     refine Run.reg ?_
     refine op (OpS.fbox (o3 := 0) h36 .z PA.z fa36_0 rfl rfl rfl rfl ?_)
     obtain ⟨d1, e19, hF⟩ := letP_use hF
     refine op (OpS.storeB (f' := true) h36 .z PA.a (Put.of (Put.fld Frame_.f0) e19) ty5 rfl rfl rfl V.int (.inl rfl) (fun w17 h37 => ?_))
     refine RunL.nil ?_
     refine Run.slim [(17, u10), (9, .int .i64 x1), (10, u5), (12, u4), (13, .int .i64 y7), (14, .int .i64 x2)] ⟨rfl, rfl, rfl, rfl, rfl, rfl, trivial⟩ ?_
     refine Run.seq ?_
     refine Run.reg ?_
     refine op (OpS.mv rfl rfl rfl ?_)
     refine op (OpS.mv rfl rfl rfl ?_)
     obtain ⟨x5, e20, hF⟩ := bindP_use hF
     have h38 := St.unopt (h37.pick (.s (.s .z))) e20
     obtain ⟨u11, h39⟩ := h38.unex
     have h40 := h39.unsep
     obtain ⟨y10, e21, hF⟩ := bindP_use hF
     have h41 := h40.front (.cons .z (.cons .z .nil))
     refine op (OpS.callO h41 Try.func22 rfl rfl rfl rfl (vs := [u5, .int .i64 y7]) rfl (bus_Bus_Pending_ok e21) rfl .nil ?_)
     rintro _ w18 _ _ _ ⟨rfl, rfl, rfl, rfl⟩ h42
     have h43 := h42
     simp only [List.cons_append, List.nil_append] at h43
     refine op (OpS.mv rfl rfl rfl ?_)
     refine op (OpS.mini rfl rfl rfl rfl ?_)
     refine op (OpS.bin rfl rfl rfl rfl rfl ?_)
     refine op (OpS.mv rfl rfl rfl ?_)
     refine RunL.caseb hF (fun e22 hF => ?_) (fun e22 hF => ?_)
     ·
      refine op (OpS.mv rfl rfl rfl ?_)
      refine op (OpS.mv rfl rfl rfl ?_)
      refine op (OpS.loadB h43 (.s (.s (.s .z))) PA.z Get.id ty36 rfl rfl rfl (fun u12 h44 => ?_))
      obtain ⟨y11, e23, hF⟩ := bindP_use hF
      have h45 := h44.front (.cons .z (.cons .z .nil))
      refine op (OpS.callO h45 Try.func16 rfl rfl rfl rfl (vs := [u5, .int .i64 x1, u12]) rfl (bus_Bus_Submit_ok e23) rfl (.cons (f := true) (V.at .z) .nil) ?_)
      rintro _ w19 _ _ _ ⟨u13, rfl, rfl, rfl, rfl⟩ h46
      have h47 := h46
      simp only [List.cons_append, List.nil_append] at h47
      refine op (OpS.bin rfl rfl rfl rfl rfl ?_)
      refine op (OpS.pick rfl rfl rfl rfl ?_)
      refine op (OpS.mv rfl rfl rfl ?_)
      refine RunL.caseb hF (fun e24 hF => ?_) (fun e24 hF => ?_)
      ·
       refine op (OpS.mv rfl rfl rfl ?_)
       refine op (OpS.loadB h47 (.s (.s (.s .z))) PA.z Get.id ty36 rfl rfl rfl (fun u14 h48 => ?_))
       obtain ⟨y12, e25, hF⟩ := bindP_use hF
       have h49 := h48.front (.cons .z (.cons .z .nil))
       refine op (OpS.callO h49 Try.func16 rfl rfl rfl rfl (vs := [u5, .int .i64 (-1), u14]) rfl (bus_Bus_Submit_ok e25) rfl (.cons (f := true) (V.at .z) .nil) ?_)
       rintro _ w20 _ _ _ ⟨u15, rfl, rfl, rfl, rfl⟩ h50
       have h51 := h50
       simp only [List.cons_append, List.nil_append] at h51
       refine op (OpS.bin rfl rfl rfl rfl rfl ?_)
       refine op (OpS.pick rfl rfl rfl rfl ?_)
       refine op (OpS.mv rfl rfl rfl ?_)
       refine RunL.caseb hF (fun e26 hF => ?_) (fun e26 hF => ?_)
       ·
        refine op (OpS.mv rfl rfl rfl ?_)
        refine op (OpS.mv rfl rfl rfl ?_)
        refine op (OpS.loadB h51 (.s (.s .z)) PA.z Get.id ty36 rfl rfl rfl (fun u16 h52 => ?_))
        obtain ⟨y13, e27, hF⟩ := bindP_use hF
        have h53 := h52.front (.cons .z (.cons .z .nil))
        refine op (OpS.callO h53 Try.func16 rfl rfl rfl rfl (vs := [u5, .int .i64 y7, u16]) rfl (bus_Bus_Submit_ok e27) rfl (.cons (f := true) (V.at .z) .nil) ?_)
        rintro _ w21 _ _ _ ⟨u17, rfl, rfl, rfl, rfl⟩ h54
        have h55 := h54
        simp only [List.cons_append, List.nil_append] at h55
        refine op (OpS.bin rfl rfl rfl rfl rfl ?_)
        refine op (OpS.pick rfl rfl rfl rfl ?_)
        refine op (OpS.mv rfl rfl rfl ?_)
        refine RunL.caseb hF (fun e28 hF => ?_) (fun e28 hF => ?_)
        ·
         refine op (OpS.mv rfl rfl rfl ?_)
         refine op (OpS.mv rfl rfl rfl ?_)
         obtain ⟨y14, e29, hF⟩ := bindP_use hF
         have h56 := h55.front (.cons .z (.cons .z .nil))
         refine op (OpS.callO h56 Try.func22 rfl rfl rfl rfl (vs := [u5, .int .i64 x1]) rfl (bus_Bus_Pending_ok e29) rfl .nil ?_)
         rintro _ w22 _ _ _ ⟨rfl, rfl, rfl, rfl⟩ h57
         have h58 := h57
         simp only [List.cons_append, List.nil_append] at h58
         refine op (OpS.bin rfl rfl rfl rfl rfl ?_)
         refine op (OpS.pick rfl rfl rfl rfl ?_)
         refine op (OpS.mv rfl rfl rfl ?_)
         refine RunL.caseb hF (fun e30 hF => ?_) (fun e30 hF => ?_)
         ·
          obtain ⟨y15, e31, hF⟩ := bindP_use hF
          refine op (OpS.callP h58 Try.func10 rfl rfl rfl rfl (vs := []) rfl (law21_awake_ok e31) .nil ?_)
          rintro _ w23 _ _ _ ⟨rfl, rfl, rfl, rfl⟩ h59
          have h60 := h59 rfl rfl
          simp only [List.cons_append, List.nil_append] at h60
          refine op (OpS.pick rfl rfl rfl rfl ?_)
          refine op (OpS.as rfl rfl rfl ?_)
          refine RunL.nil ?_
          refine Run.slim [(8, .bool y15)] ⟨rfl, trivial⟩ ?_
          refine Run.retP rfl (.tmp rfl .nil) ?_
          cases hF
          exact Post.mk' ⟨rfl, rfl, rfl, rfl⟩ (h60.picks .nil) .nil
         ·
          refine op (OpS.pass rfl rfl rfl ?_)
          refine op (OpS.pick rfl rfl rfl rfl ?_)
          refine op (OpS.as rfl rfl rfl ?_)
          refine RunL.nil ?_
          refine Run.slim [(8, .bool false)] ⟨rfl, trivial⟩ ?_
          refine Run.retP rfl (.tmp rfl .nil) ?_
          cases hF
          exact Post.mk' ⟨rfl, rfl, rfl, rfl⟩ (h58.picks .nil) .nil
        ·
         refine op (OpS.pass rfl rfl rfl ?_)
         refine op (OpS.pass rfl rfl rfl ?_)
         refine op (OpS.pass rfl rfl rfl ?_)
         refine op (OpS.pass rfl rfl rfl ?_)
         refine op (OpS.pick rfl rfl rfl rfl ?_)
         refine op (OpS.mv rfl rfl rfl ?_)
         refine op (OpS.pass rfl rfl rfl ?_)
         refine op (OpS.pick rfl rfl rfl rfl ?_)
         refine op (OpS.as rfl rfl rfl ?_)
         refine RunL.nil ?_
         refine Run.slim [(8, .bool false)] ⟨rfl, trivial⟩ ?_
         refine Run.retP rfl (.tmp rfl .nil) ?_
         cases hF
         exact Post.mk' ⟨rfl, rfl, rfl, rfl⟩ (h55.picks .nil) .nil
       ·
        refine op (OpS.pass rfl rfl rfl ?_)
        refine op (OpS.pass rfl rfl rfl ?_)
        refine op (OpS.pass rfl rfl rfl ?_)
        refine op (OpS.pass rfl rfl rfl ?_)
        refine op (OpS.pass rfl rfl rfl ?_)
        refine op (OpS.pick rfl rfl rfl rfl ?_)
        refine op (OpS.mv rfl rfl rfl ?_)
        refine op (OpS.pass rfl rfl rfl ?_)
        refine op (OpS.pass rfl rfl rfl ?_)
        refine op (OpS.pass rfl rfl rfl ?_)
        refine op (OpS.pass rfl rfl rfl ?_)
        refine op (OpS.pick rfl rfl rfl rfl ?_)
        refine op (OpS.mv rfl rfl rfl ?_)
        refine op (OpS.pass rfl rfl rfl ?_)
        refine op (OpS.pick rfl rfl rfl rfl ?_)
        refine op (OpS.as rfl rfl rfl ?_)
        refine RunL.nil ?_
        refine Run.slim [(8, .bool false)] ⟨rfl, trivial⟩ ?_
        refine Run.retP rfl (.tmp rfl .nil) ?_
        cases hF
        exact Post.mk' ⟨rfl, rfl, rfl, rfl⟩ (h51.picks .nil) .nil
      ·
       refine op (OpS.pass rfl rfl rfl ?_)
       refine op (OpS.pass rfl rfl rfl ?_)
       refine op (OpS.pass rfl rfl rfl ?_)
       refine op (OpS.pass rfl rfl rfl ?_)
       refine op (OpS.pick rfl rfl rfl rfl ?_)
       refine op (OpS.mv rfl rfl rfl ?_)
       refine op (OpS.pass rfl rfl rfl ?_)
       refine op (OpS.pass rfl rfl rfl ?_)
       refine op (OpS.pass rfl rfl rfl ?_)
       refine op (OpS.pass rfl rfl rfl ?_)
       refine op (OpS.pass rfl rfl rfl ?_)
       refine op (OpS.pick rfl rfl rfl rfl ?_)
       refine op (OpS.mv rfl rfl rfl ?_)
       refine op (OpS.pass rfl rfl rfl ?_)
       refine op (OpS.pass rfl rfl rfl ?_)
       refine op (OpS.pass rfl rfl rfl ?_)
       refine op (OpS.pass rfl rfl rfl ?_)
       refine op (OpS.pick rfl rfl rfl rfl ?_)
       refine op (OpS.mv rfl rfl rfl ?_)
       refine op (OpS.pass rfl rfl rfl ?_)
       refine op (OpS.pick rfl rfl rfl rfl ?_)
       refine op (OpS.as rfl rfl rfl ?_)
       refine RunL.nil ?_
       refine Run.slim [(8, .bool false)] ⟨rfl, trivial⟩ ?_
       refine Run.retP rfl (.tmp rfl .nil) ?_
       cases hF
       exact Post.mk' ⟨rfl, rfl, rfl, rfl⟩ (h47.picks .nil) .nil
     ·
      refine op (OpS.pass rfl rfl rfl ?_)
      refine op (OpS.pass rfl rfl rfl ?_)
      refine op (OpS.pass rfl rfl rfl ?_)
      refine op (OpS.pass rfl rfl rfl ?_)
      refine op (OpS.pass rfl rfl rfl ?_)
      refine op (OpS.pick rfl rfl rfl rfl ?_)
      refine op (OpS.mv rfl rfl rfl ?_)
      refine op (OpS.pass rfl rfl rfl ?_)
      refine op (OpS.pass rfl rfl rfl ?_)
      refine op (OpS.pass rfl rfl rfl ?_)
      refine op (OpS.pass rfl rfl rfl ?_)
      refine op (OpS.pick rfl rfl rfl rfl ?_)
      refine op (OpS.mv rfl rfl rfl ?_)
      refine op (OpS.pass rfl rfl rfl ?_)
      refine op (OpS.pass rfl rfl rfl ?_)
      refine op (OpS.pass rfl rfl rfl ?_)
      refine op (OpS.pass rfl rfl rfl ?_)
      refine op (OpS.pass rfl rfl rfl ?_)
      refine op (OpS.pick rfl rfl rfl rfl ?_)
      refine op (OpS.mv rfl rfl rfl ?_)
      refine op (OpS.pass rfl rfl rfl ?_)
      refine op (OpS.pass rfl rfl rfl ?_)
      refine op (OpS.pass rfl rfl rfl ?_)
      refine op (OpS.pass rfl rfl rfl ?_)
      refine op (OpS.pick rfl rfl rfl rfl ?_)
      refine op (OpS.mv rfl rfl rfl ?_)
      refine op (OpS.pass rfl rfl rfl ?_)
      refine op (OpS.pick rfl rfl rfl rfl ?_)
      refine op (OpS.as rfl rfl rfl ?_)
      refine RunL.nil ?_
      refine Run.slim [(8, .bool false)] ⟨rfl, trivial⟩ ?_
      refine Run.retP rfl (.tmp rfl .nil) ?_
      cases hF
      exact Post.mk' ⟨rfl, rfl, rfl, rfl⟩ (h43.picks .nil) .nil
  ·
   refine RunL.caseb hF (fun e32 hF => ?_) (fun e32 hF => ?_)
   ·
    refine op (OpS.pass rfl rfl rfl ?_)
    refine op (OpS.pass rfl rfl rfl ?_)
    refine op (OpS.pick rfl rfl rfl rfl ?_)
    refine RunL.nil ?_
    refine Run.slim [(35, .bool true), (10, u1), (9, .int .i64 x1), (1, .int .i64 a1), (2, .int .i64 a2), (3, v3)] ⟨rfl, rfl, rfl, rfl, rfl, rfl, trivial⟩ ?_
    refine Run.slim [(1, .int .i64 a1), (2, .int .i64 a2), (3, v3), (9, .int .i64 x1), (10, u1), (35, .bool true)] ⟨rfl, rfl, rfl, rfl, rfl, rfl, trivial⟩ ?_
    exact hj1 (true) _ _ ⟨rfl, (h8.facts (.atm .z .nil)).picks (.cons .z .nil)⟩ hF
   ·
    refine op (OpS.mv rfl rfl rfl ?_)
    refine op (OpS.bin rfl rfl rfl rfl rfl ?_)
    refine op (OpS.pick rfl rfl rfl rfl ?_)
    refine RunL.nil ?_
    refine Run.slim [(35, .bool (y4.2 != 0)), (10, u1), (9, .int .i64 x1), (1, .int .i64 a1), (2, .int .i64 a2), (3, v3)] ⟨rfl, rfl, rfl, rfl, rfl, rfl, trivial⟩ ?_
    refine Run.slim [(1, .int .i64 a1), (2, .int .i64 a2), (3, v3), (9, .int .i64 x1), (10, u1), (35, .bool (y4.2 != 0))] ⟨rfl, rfl, rfl, rfl, rfl, rfl, trivial⟩ ?_
    exact hj1 (y4.2 != 0) _ _ ⟨rfl, (h8.facts (.atm .z .nil)).picks (.cons .z .nil)⟩ hF
end Lift
