/- Each Go function computes its plain function. Written by lift.py. -/
import Derived.Test.YtedddoifbhcinaaBusDeliversWalksA
set_option linter.unusedVariables false
set_option linter.unusedSimpArgs false
namespace Lift
open Go Go.Proofs
open RunL (op)
theorem made_Dice_Frame_ok {fuel : Nat} {a0 : made_Dice} {y : Frame_ × made_Dice} (hF : made_Dice_Frame fuel a0 = some y) {w : World} {v0 : Value} :
  Spec Try.prog 15 [v0].toArray w [] [(false, .box 81 made_Dice.rep v0 a0)] (fun v Γr Ωr Ωo => ∃ u0 : Value, v = u0 ∧ Γr = [(true, .val Frame_.rep u0 y.1)] ∧ Ωr = [] ∧ Ωo = [(false, .box 81 made_Dice.rep v0 y.2)]) := by
 refine Spec.of (L := [(0, v0)]) Try.func15 rfl ⟨rfl, trivial⟩ rfl (fun e h => ?_)
 unfold made_Dice_Frame at hF
 refine Run.seq ?_
 refine Run.reg ?_
 refine op (OpS.alloc h ti36 Frame_.zr rfl rfl (fun u1 w1 h1 => ?_))
 refine RunL.nil ?_
 refine Run.seq ?_
 refine Run.reg ?_
 refine op (OpS.mv rfl rfl rfl ?_)
 obtain ⟨y1, e1, hF⟩ := bindP_use hF
 have h2 := h1.front (.cons (.s .z) .nil)
 refine op (OpS.callO h2 Try.func32 rfl rfl rfl rfl (vs := [v0, .int .i64 4]) rfl (made_Dice_Next_ok e1) rfl .nil ?_)
 rintro _ w2 _ _ _ ⟨rfl, rfl, rfl, rfl⟩ h3
 have h4 := h3
 simp only [List.cons_append, List.nil_append] at h4
 refine op (OpS.bin rfl rfl rfl rfl rfl ?_)
 refine op (OpS.conv Try.underlying3 Try.underlying5 rfl rfl rfl ?_)
 refine op (OpS.mv rfl rfl rfl ?_)
 obtain ⟨y2, e2, hF⟩ := bindP_use hF
 have h5 := h4.front (.cons .z .nil)
 refine op (OpS.callO h5 Try.func32 rfl rfl rfl rfl (vs := [v0, .int .i64 3]) rfl (made_Dice_Next_ok e2) rfl .nil ?_)
 rintro _ w3 _ _ _ ⟨rfl, rfl, rfl, rfl⟩ h6
 have h7 := h6
 simp only [List.cons_append, List.nil_append] at h7
 refine op (OpS.bin rfl rfl rfl rfl rfl ?_)
 refine op (OpS.conv Try.underlying3 Try.underlying5 rfl rfl rfl ?_)
 refine op (OpS.mv rfl rfl rfl ?_)
 obtain ⟨y3, e3, hF⟩ := bindP_use hF
 have h8 := h7.front (.cons .z .nil)
 refine op (OpS.callO h8 Try.func33 rfl rfl rfl rfl (vs := [v0, .int .i64 6]) rfl (made_Dice_Bytes_ok e3) rfl .nil ?_)
 rintro u2 w4 _ _ _ ⟨_, rfl, rfl, rfl, rfl⟩ h9
 have h10 := h9
 simp only [List.cons_append, List.nil_append] at h10
 have h11 := (h10.pick .z).freeze
 refine op (OpS.build (f := true) (x' := (⟨(IntKind.u8.wrap (IntKind.i64.wrap (8 + y1.1))), (IntKind.u8.wrap (IntKind.i64.wrap (32 + y2.1))), y3.1⟩ : Frame_)) h11 pl36 ti36 Frame_.zr rfl rfl rfl (.cons rfl Frame_.f0 rfl V.int (.cons rfl Frame_.f1 rfl V.int (.cons rfl Frame_.f2 rfl (V.at .z) .nil))) (fun u3 h12 => ?_))
 refine op (OpS.alloc h12 ti36 Frame_.zr rfl rfl (fun u4 w5 h13 => ?_))
 refine op (OpS.storeB (f' := true) h13 .z PA.z Put.id ty36 rfl rfl rfl (V.at .z) (.inl rfl) (fun w6 h14 => ?_))
 refine RunL.nil ?_
 refine Run.slim [(3, u4), (2, u1), (0, v0)] ⟨rfl, rfl, rfl, trivial⟩ ?_
 refine Run.seq ?_
 refine Run.seq ?_
 refine Run.reg ?_
 refine op (OpS.mv rfl rfl rfl ?_)
 obtain ⟨y4, e4, hF⟩ := bindP_use hF
 have h15 := h14.front (.cons (.s .z) .nil)
 refine op (OpS.callO h15 Try.func34 rfl rfl rfl rfl (vs := [v0, .int .i64 30]) rfl (made_Dice_Bool_ok e4) rfl .nil ?_)
 rintro _ w7 _ _ _ ⟨rfl, rfl, rfl, rfl⟩ h16
 have h17 := h16
 simp only [List.cons_append, List.nil_append] at h17
 refine RunL.nil ?_
 refine Run.slim [(16, .bool y4.1), (3, u4), (2, u1)] ⟨rfl, rfl, rfl, trivial⟩ ?_
 refine Run.ite rfl hF (fun e5 hF => ?_) (fun e5 hF => ?_)
 ·
  refine Run.seq ?_
  refine Run.reg ?_
  obtain ⟨x1, e6, hF⟩ := bindP_use hF
  refine op (OpS.make h17 Try.underlying34 ti5 rfl rfl (Zr.int .u8 0) rfl rfl rfl rfl e6 (by simp) (mk_fits e6) rfl (fun u5 w8 h18 => ?_))
  refine op (OpS.fbox (o3 := 2) h18 (.s (.s .z)) PA.z fa36_2 rfl rfl rfl rfl ?_)
  refine op (OpS.storeC (f' := true) (fr := (Rep.raw u5)) (r' := (Rep.iso (fun s : Frame_ => (s.To, s.From, s.Data, ())) (Rep.prod (Rep.int .u8) (Rep.prod (Rep.int .u8) (Rep.prod (Rep.raw (α := List Int) u5) Rep.unit))))) (x' := (⟨(IntKind.u8.wrap (IntKind.i64.wrap (8 + y1.1))), (IntKind.u8.wrap (IntKind.i64.wrap (32 + y2.1))), y3.1⟩ : Frame_)) h18 (.s (.s .z)) PA.a (Chg.iso _ (Chg.there (Chg.there (Chg.here (Chg.id (by rfl)))))) (Ty.like ty34 (by rfl) (by rfl)) rfl rfl rfl (V.raw (f := true) (St.own1 h18 .z) ((⟨(IntKind.u8.wrap (IntKind.i64.wrap (8 + y1.1))), (IntKind.u8.wrap (IntKind.i64.wrap (32 + y2.1))), y3.1⟩ : Frame_).Data)) (.inl rfl) (fun w9 h19 => ?_))
  refine RunL.nil ?_
  refine Run.slim [(3, u4), (2, u1)] ⟨rfl, rfl, trivial⟩ ?_
  refine Run.reg ?_
  refine op (OpS.fbox (o3 := 0) h19 .z PA.z fa36_0 rfl rfl rfl rfl ?_)
  obtain ⟨d1, e7, hF⟩ := letP_use hF
  refine op (OpS.storeC (f' := true) (fr := (Rep.int .u8)) (r' := (Rep.iso (fun s : Frame_ => (s.To, s.From, s.Data, ())) (Rep.prod (Rep.int .u8) (Rep.prod (Rep.int .u8) (Rep.prod (Rep.raw (α := List Int) u5) Rep.unit))))) (x' := d1) h19 .z PA.a (Chg.of (x' := { (⟨(IntKind.u8.wrap (IntKind.i64.wrap (8 + y1.1))), (IntKind.u8.wrap (IntKind.i64.wrap (32 + y2.1))), y3.1⟩ : Frame_) with To := 119 }) (Chg.iso _ (Chg.here (Chg.id (by rfl)))) e7) ty5 rfl rfl rfl V.int (.inl rfl) (fun w10 h20 => ?_))
  refine RunL.nil ?_
  refine Run.slim [(3, u4), (2, u1)] ⟨rfl, rfl, trivial⟩ ?_
  refine Run.seq ?_
  refine Run.reg ?_
  refine op (OpS.loadB (fr := (Rep.iso (fun s : Frame_ => (s.To, s.From, s.Data, ())) (Rep.prod (Rep.int .u8) (Rep.prod (Rep.int .u8) (Rep.prod (Rep.raw (α := List Int) u5) Rep.unit))))) h20 .z PA.z (GetS.ok GetS.id) (Ty.like ty36 (by rfl) (by rfl)) rfl rfl rfl (fun u6 h21 => ?_))
  refine op (OpS.storeC (f' := true) (fr := (Rep.iso (fun s : Frame_ => (s.To, s.From, s.Data, ())) (Rep.prod (Rep.int .u8) (Rep.prod (Rep.int .u8) (Rep.prod (Rep.raw (α := List Int) u5) Rep.unit))))) (r' := (Rep.iso (fun s : Frame_ => (s.To, s.From, s.Data, ())) (Rep.prod (Rep.int .u8) (Rep.prod (Rep.int .u8) (Rep.prod (Rep.raw (α := List Int) u5) Rep.unit))))) (x' := d1) h21 (.s (.s (.s .z))) PA.z (Chg.id (by rfl)) (Ty.like ty36 (by rfl) (by rfl)) rfl rfl rfl (V.at .z) (.inl rfl) (fun w11 h22 => ?_))
  refine RunL.nil ?_
  refine Run.slim [(2, u1)] ⟨rfl, trivial⟩ ?_
  obtain ⟨u7, hu1, h23⟩ := res_box h22 .z (Ty.like ty36 (by rfl) (by rfl))
  have h24 := (h23.pick (.s (.s .z))).freeze
  have h25 := h24.pick .z
  have h26 := St.boxJ (r' := Frame_.rep) (x' := { d1 with Data := x1 }) h25 (fun _ _ hs_ => (Jn.iso _ (Jn.prod Jn.refl (Jn.prod Jn.refl (Jn.prod (Jn.raw ((V.at .z) _ _ hs_) rfl) Jn.refl)))))
  have h27 := h26.pick (.s .z)
  have h28 := St.boxJ (r' := Frame_.rep) (x' := { d1 with Data := x1 }) h27 (fun _ _ hs_ => (Jn.iso _ (Jn.prod Jn.refl (Jn.prod Jn.refl (Jn.prod (Jn.raw ((V.at .z) _ _ hs_) rfl) Jn.refl)))))
  have h29 := St.addV (f := true) (r := Frame_.rep) (x := { d1 with Data := x1 }) h28 (V.jn (r := (Rep.iso (fun s : Frame_ => (s.To, s.From, s.Data, ())) (Rep.prod (Rep.int .u8) (Rep.prod (Rep.int .u8) (Rep.prod (Rep.raw (α := List Int) u5) Rep.unit))))) (x := d1) (V.at (.s .z)) rfl (fun _ _ hs_ => (Jn.iso _ (Jn.prod Jn.refl (Jn.prod Jn.refl (Jn.prod (Jn.raw ((V.at .z) _ _ hs_) rfl) Jn.refl))))))
  refine Run.retP rfl (.cell rfl hu1 .nil) ?_
  cases hF
  exact Post.mk' ⟨u7, rfl, rfl, rfl, rfl⟩ (h29.picks (.cons (.s (.s .z)) .nil)) (.val (V.at .z) .nil)
 ·
  refine Run.skip ?_
  refine Run.seq ?_
  refine Run.reg ?_
  refine op (OpS.loadB h17 (.s .z) PA.z Get.id ty36 rfl rfl rfl (fun u8 h30 => ?_))
  refine op (OpS.storeB (f' := true) h30 (.s (.s .z)) PA.z Put.id ty36 rfl rfl rfl (V.at .z) (.inl rfl) (fun w12 h31 => ?_))
  refine RunL.nil ?_
  refine Run.slim [(2, u1)] ⟨rfl, trivial⟩ ?_
  obtain ⟨u9, hu2, h32⟩ := res_box h31 .z ty36
  refine Run.retP rfl (.cell rfl hu2 .nil) ?_
  cases hF
  exact Post.mk' ⟨u9, rfl, rfl, rfl, rfl⟩ (h32.picks (.cons (.s .z) .nil)) (.val (V.at .z) .nil)
theorem ref01_Same_ok {fuel : Nat} {a0 : List Int} {a1 : List Int} {y : Bool} (hF : ref01_Same fuel a0 a1 = some y) {w : World} {v0 v1 : Value} :
  Spec Try.prog 26 [v0, v1].toArray w [(false, .val (Rep.slice (Rep.int .u8)) v0 a0), (false, .val (Rep.slice (Rep.int .u8)) v1 a1)] [] (fun v Γr Ωr Ωo => v = .bool y ∧ Γr = [] ∧ Ωr = [] ∧ Ωo = []) := by
 refine Spec.of (L := [(0, v0), (1, v1)]) Try.func26 rfl ⟨rfl, rfl, trivial⟩ rfl (fun e h => ?_)
 unfold ref01_Same at hF
 refine Run.seq ?_
 refine Run.reg ?_
 refine op (OpS.as rfl rfl rfl ?_)
 refine RunL.nil ?_
 refine Run.slim [(0, v0), (1, v1)] ⟨rfl, rfl, trivial⟩ ?_
 refine Run.seq ?_
 refine Run.seq ?_
 refine Run.reg ?_
 refine op (OpS.mv rfl rfl rfl ?_)
 refine op (OpS.len h Try.underlying34 rfl rfl rfl (V.at .z) ?_)
 refine op (OpS.mv rfl rfl rfl ?_)
 refine op (OpS.len h Try.underlying34 rfl rfl rfl (V.at (.s .z)) ?_)
 refine op (OpS.bin rfl rfl rfl rfl rfl ?_)
 refine RunL.nil ?_
 refine Run.slim [(10, .bool ((a0.length : Int) != (a1.length : Int))), (0, v0), (1, v1)] ⟨rfl, rfl, rfl, trivial⟩ ?_
 refine Run.ite rfl hF (fun e1 hF => ?_) (fun e1 hF => ?_)
 ·
  refine Run.seq ?_
  refine Run.reg ?_
  refine op (OpS.as rfl rfl rfl ?_)
  refine RunL.nil ?_
  refine Run.slim [(4, .bool false)] ⟨rfl, trivial⟩ ?_
  refine Run.retP rfl (.tmp rfl .nil) ?_
  cases hF
  exact Post.mk' ⟨rfl, rfl, rfl, rfl⟩ (h.picks .nil) .nil
 ·
  refine Run.skip ?_
  refine Run.seq ?_
  refine Run.seq ?_
  refine Run.reg ?_
  refine op (OpS.as rfl rfl rfl ?_)
  refine RunL.nil ?_
  refine Run.slim [(5, .int .i64 0), (0, v0), (1, v1)] ⟨rfl, rfl, rfl, trivial⟩ ?_
  refine Run.block ?_
  refine Run.slim [(0, v0), (1, v1), (5, .int .i64 0)] ⟨rfl, rfl, rfl, trivial⟩ ?_
  refine Run.loopP (σ := Int) (fun s_ L_ w_ => L_ = [(0, v0), (1, v1), (5, .int .i64 s_)] ∧ St e w_ [(false, .val (Rep.slice (Rep.int .u8)) v0 a0), (false, .val (Rep.slice (Rep.int .u8)) v1 a1)] []) hF ⟨rfl, (h.facts (.atm .z (.atm (.s .z) .nil))).picks .nil⟩ (fun k1 hk1 s1 _ w1 hI hF => ?_)
  obtain ⟨rfl, h1⟩ := hI
  refine Run.seq ?_
  refine Run.seq ?_
  refine Run.reg ?_
  refine op (OpS.mv rfl rfl rfl ?_)
  refine op (OpS.mv rfl rfl rfl ?_)
  refine op (OpS.len h1 Try.underlying34 rfl rfl rfl (V.at .z) ?_)
  refine op (OpS.bin rfl rfl rfl rfl rfl ?_)
  refine RunL.nil ?_
  refine Run.slim [(14, .bool (decide (s1 < (a0.length : Int)))), (0, v0), (1, v1), (5, .int .i64 s1)] ⟨rfl, rfl, rfl, rfl, trivial⟩ ?_
  refine Run.ite rfl hF (fun e2 hF => ?_) (fun e2 hF => ?_)
  ·
   refine Run.skip ?_
   refine Run.seq ?_
   refine Run.block ?_
   refine Run.seq ?_
   obtain ⟨x1, e3, hF⟩ := bindP_use hF
   obtain ⟨x2, e4, hF⟩ := bindP_use hF
   refine Run.drawV (Ωs := []) [⟨some 17, some (v0), fun _ => [], fun ds_ u_ => [], [], [], none⟩, ⟨some 18, some (.int .i64 s1), fun _ => [], fun ds_ u_ => [], [], [], none⟩, ⟨some 19, none, fun u_ => [(false, .ptr (Rep.int .u8) u_ x1)], fun ds_ u_ => [], [], [], none⟩, ⟨some 20, some (.int .u8 x1), fun _ => [], fun ds_ u_ => [], [], [], none⟩, ⟨some 21, some (v1), fun _ => [], fun ds_ u_ => [], [], [], none⟩, ⟨some 22, some (.int .i64 s1), fun _ => [], fun ds_ u_ => [], [], [], none⟩, ⟨some 23, none, fun u_ => [(false, .ptr (Rep.int .u8) u_ x2)], fun ds_ u_ => [], [], [], none⟩, ⟨some 24, some (.int .u8 x2), fun _ => [], fun ds_ u_ => [], [], [], none⟩, ⟨some 25, some (.bool (x1 != x2)), fun _ => [], fun ds_ u_ => [], [], [], none⟩] [[], [], [0, 1], [2], [], [], [4, 5], [6], [3, 7]] [] [0, 1, 2, 3, 4, 5, 6, 7, 8] Try_mixed rfl rfl rfl h1 (.cons ?_ (.cons ?_ (.cons ?_ (.cons ?_ (.cons ?_ (.cons ?_ (.cons ?_ (.cons ?_ (.cons ?_ .nil))))))))) (fun q1 w hq1 h => ?_)
   ·intro q1 w Γx Ωx h
    refine OpS.mv rfl rfl rfl ?_
    exact ⟨undef, rfl, trivial, h⟩
   ·intro q1 w Γx Ωx h
    refine OpS.mv rfl rfl rfl ?_
    exact ⟨undef, rfl, trivial, h⟩
   ·intro q1 w Γx Ωx h
    refine OpS.iptr h Try.underlying34 ty5 rfl rfl rfl rfl (V.at .z) e3 (fun u h4 => ?_)
    exact ⟨u, rfl, trivial, h4⟩
   ·intro q1 w Γx Ωx h
    refine OpS.loadi h ty5 rfl rfl rfl .z ?_
    exact ⟨undef, rfl, trivial, h⟩
   ·intro q1 w Γx Ωx h
    refine OpS.mv rfl rfl rfl ?_
    exact ⟨undef, rfl, trivial, h⟩
   ·intro q1 w Γx Ωx h
    refine OpS.mv rfl rfl rfl ?_
    exact ⟨undef, rfl, trivial, h⟩
   ·intro q1 w Γx Ωx h
    refine OpS.iptr h Try.underlying34 ty5 rfl rfl rfl rfl (V.at (.s .z)) e4 (fun u h5 => ?_)
    exact ⟨u, rfl, trivial, h5⟩
   ·intro q1 w Γx Ωx h
    refine OpS.loadi h ty5 rfl rfl rfl .z ?_
    exact ⟨undef, rfl, trivial, h⟩
   ·intro q1 w Γx Ωx h
    refine OpS.bin rfl rfl rfl rfl rfl ?_
    exact ⟨undef, rfl, trivial, h⟩
   have h6 : St e w [(false, .ptr (Rep.int .u8) (q1 2) x1), (false, .ptr (Rep.int .u8) (q1 6) x2), (false, .val (Rep.slice (Rep.int .u8)) v0 a0), (false, .val (Rep.slice (Rep.int .u8)) v1 a1)] [] := h
   refine RunL.nil ?_
   refine Run.slim [(25, .bool (x1 != x2)), (0, v0), (1, v1), (5, .int .i64 s1)] ⟨rfl, rfl, rfl, rfl, trivial⟩ ?_
   refine Run.ite rfl hF (fun e5 hF => ?_) (fun e5 hF => ?_)
   ·
    refine Run.seq ?_
    refine Run.reg ?_
    refine op (OpS.as rfl rfl rfl ?_)
    refine RunL.nil ?_
    refine Run.slim [(4, .bool false)] ⟨rfl, trivial⟩ ?_
    refine Run.retP rfl (.tmp rfl .nil) ?_
    cases hF
    exact Post.mk' ⟨rfl, rfl, rfl, rfl⟩ (h6.picks .nil) .nil
   ·
    refine Run.skip ?_
    refine Run.endBlock ?_
    refine Run.reg ?_
    refine op (OpS.mv rfl rfl rfl ?_)
    refine op (OpS.bin rfl rfl rfl rfl rfl ?_)
    refine op (OpS.as rfl rfl rfl ?_)
    obtain ⟨x3, e6, hF⟩ := letP_use hF
    refine RunL.name e6 ?_
    refine RunL.nil ?_
    refine Run.slim [(5, .int .i64 x3), (0, v0), (1, v1)] ⟨rfl, rfl, rfl, trivial⟩ ?_
    refine Run.slim [(0, v0), (1, v1), (5, .int .i64 x3)] ⟨rfl, rfl, rfl, trivial⟩ ?_
    exact hk1 (x3) _ _ ⟨rfl, (h6.facts (.atm (.s (.s .z)) (.atm (.s (.s (.s .z))) .nil))).picks .nil⟩ hF
  ·
   refine Run.exit rfl ?_
   refine Run.seq ?_
   refine Run.reg ?_
   refine op (OpS.as rfl rfl rfl ?_)
   refine RunL.nil ?_
   refine Run.slim [(4, .bool true)] ⟨rfl, trivial⟩ ?_
   refine Run.retP rfl (.tmp rfl .nil) ?_
   cases hF
   exact Post.mk' ⟨rfl, rfl, rfl, rfl⟩ (h1.picks .nil) .nil
theorem made_Light_ok {fuel : Nat} {a0 : List Int} {y : Bool} (hF : made_Light fuel a0 = some y) {w : World} {v0 : Value} :
  Spec Try.prog 24 [v0].toArray w [(false, .val (Rep.slice (Rep.int .i64)) v0 a0)] [] (fun v Γr Ωr Ωo => v = .bool y ∧ Γr = [] ∧ Ωr = [] ∧ Ωo = []) := by
 refine Spec.of (L := [(0, v0)]) Try.func24 rfl ⟨rfl, trivial⟩ rfl (fun e h => ?_)
 unfold made_Light at hF
 refine Run.seq ?_
 refine Run.reg ?_
 refine op (OpS.as rfl rfl rfl ?_)
 refine RunL.nil ?_
 refine Run.slim [(0, v0)] ⟨rfl, trivial⟩ ?_
 refine Run.seq ?_
 refine Run.reg ?_
 refine op (OpS.mv rfl rfl rfl ?_)
 refine op (OpS.len h Try.underlying33 rfl rfl rfl (V.at .z) ?_)
 refine op (OpS.bin rfl rfl rfl rfl rfl ?_)
 refine op (OpS.as rfl rfl rfl ?_)
 obtain ⟨x1, e1, hF⟩ := letP_use hF
 refine RunL.nameb e1 ?_
 refine RunL.nil ?_
 refine Run.slim [(2, .bool x1)] ⟨rfl, trivial⟩ ?_
 refine Run.retP rfl (.tmp rfl .nil) ?_
 cases hF
 exact Post.mk' ⟨rfl, rfl, rfl, rfl⟩ (h.picks .nil) .nil
set_option maxHeartbeats 8000000 in
theorem law21_loaded_ok {fuel : Nat} {a0 : Int} {a1 : List Int} {y : (Option bus_Bus) × (List (List (List Int))) × Bool} (hF : law21_loaded fuel a0 a1 = some y) {w : World} {v1 : Value} :
  Spec Try.prog 25 [.int .i64 a0, v1].toArray w [(false, .val (Rep.slice (Rep.int .i64)) v1 a1)] [] (fun v Γr Ωr Ωo => ∃ u0 u1 : Value, v = .tuple #[u0, u1, .bool y.2.2] ∧ Γr = [] ∧ Ωr = [(false, .opt (fun x_ => .ex fun v_ => .sep (.box 76 (Rep.iso (fun s : bus_Bus => (s.masters, ())) (Rep.prod (Rep.raw (α := List bus_master) v_) Rep.unit)) u0 x_) (.oval (oslice 85 3 (fun _ => bus_master.orep)) v_ x_.masters)) u0 y.1), (true, (.oval (oslice 59 1 (fun _ => Nest_ssuint8.orep)) u1 y.2.1))] ∧ Ωo = []) := by
 refine Spec.of (L := [(0, .int .i64 a0), (1, v1)]) Try.func25 rfl ⟨rfl, rfl, trivial⟩ rfl (fun e h => ?_)
 unfold law21_loaded at hF
 refine Run.seq ?_
 refine Run.reg ?_
 refine op (OpS.as rfl rfl rfl ?_)
 refine op (OpS.as rfl rfl rfl ?_)
 refine op (OpS.as rfl rfl rfl ?_)
 refine RunL.nil ?_
 refine Run.slim [(0, .int .i64 a0), (1, v1)] ⟨rfl, rfl, trivial⟩ ?_
 refine Run.seq ?_
 refine Run.reg ?_
 refine op (OpS.mv rfl rfl rfl ?_)
 obtain ⟨y1, e1, hF⟩ := bindP_use hF
 refine op (OpS.callP h Try.func11 rfl rfl rfl rfl (vs := [.int .i64 a0]) rfl (bus_New_ok e1) .nil ?_)
 rintro _ w1 _ _ _ ⟨u1, rfl, rfl, rfl, rfl⟩ h1
 have h2 := h1 rfl rfl
 simp only [List.cons_append, List.nil_append] at h2
 refine op (OpS.mv rfl rfl rfl ?_)
 refine op (OpS.ext rfl rfl rfl rfl ?_)
 refine op (OpS.ext rfl rfl rfl rfl ?_)
 refine op (OpS.as rfl rfl rfl ?_)
 refine op (OpS.as rfl rfl rfl ?_)
 refine RunL.nil ?_
 refine Run.slim [(8, .int .i64 y1.2), (7, u1), (0, .int .i64 a0), (1, v1)] ⟨rfl, rfl, rfl, rfl, trivial⟩ ?_
 refine Run.seq ?_
 refine Run.seq ?_
 refine Run.reg ?_
 refine op (OpS.mv rfl rfl rfl ?_)
 refine op (OpS.onilE h2 .z (fun _ G_ S_ w_ h_ => ptr_one1 G_ S_ w_ h_) Try.underlying25 rfl rfl rfl rfl ?_)
 refine op (OpS.mv rfl rfl rfl ?_)
 refine RunL.join (σ := Bool) (fun s_ L_ w_ => L_ = [(0, .int .i64 a0), (1, v1), (7, u1), (26, .bool s_)] ∧ St e w_ [(false, .val (Rep.slice (Rep.int .i64)) v1 a1)] [(true, .opt (fun x_ => .ex fun v_ => .sep (.box 76 (Rep.iso (fun s : bus_Bus => (s.masters, ())) (Rep.prod (Rep.raw (α := List bus_master) v_) Rep.unit)) u1 x_) (.oval (oslice 85 3 (fun _ => bus_master.orep)) v_ x_.masters)) u1 y1.1)]) hF (fun s1 _ w2 hI hF => ?_) (fun j1 hj1 hF => ?_)
 ·
  obtain ⟨rfl, h3⟩ := hI
  refine Run.ite rfl hF (fun e2 hF => ?_) (fun e2 hF => ?_)
  ·
   refine Run.seq ?_
   refine Run.reg ?_
   refine op (OpS.as rfl rfl rfl ?_)
   refine op (OpS.as rfl rfl rfl ?_)
   refine op (OpS.as rfl rfl rfl ?_)
   refine RunL.nil ?_
   refine Run.slim [(6, .bool false), (5, .slice none 0 0), (4, .pointer none)] ⟨rfl, rfl, rfl, trivial⟩ ?_
   have h4 := St.none (fun x_ => .ex fun v_ => .sep (.box 76 (Rep.iso (fun s : bus_Bus => (s.masters, ())) (Rep.prod (Rep.raw (α := List bus_master) v_) Rep.unit)) (.pointer none) x_) (.oval (oslice 85 3 (fun _ => bus_master.orep)) v_ x_.masters)) h3
   have h5 := (h4.pick .z).weak
   have h6 := St.nilD 59 1 (fun _ => Nest_ssuint8.orep) h5
   refine Run.retP rfl (.tmp rfl (.tmp rfl (.tmp rfl .nil))) ?_
   cases hF
   exact Post.mk' ⟨(.pointer none), (.slice none 0 0), rfl, rfl, rfl, rfl⟩ (h6.picks (.cons (.s .z) (.cons .z .nil))) .nil
  ·
   refine Run.skip ?_
   refine Run.seq ?_
   refine Run.reg ?_
   refine op (OpS.mv rfl rfl rfl ?_)
   obtain ⟨y2, e3, hF⟩ := bindP_use hF
   have h7 := h3.front .nil
   refine op (OpS.callO h7 Try.func14 rfl rfl rfl rfl (vs := [v1]) rfl (made_Roll_ok e3) rfl (.cons (f := false) (V.at .z) .nil) ?_)
   rintro u2 w3 _ _ _ ⟨_, rfl, rfl, rfl, rfl⟩ h8
   have h9 := h8
   simp only [List.cons_append, List.nil_append] at h9
   refine op (OpS.as rfl rfl rfl ?_)
   refine RunL.nil ?_
   refine Run.slim [(9, u2), (0, .int .i64 a0), (7, u1)] ⟨rfl, rfl, rfl, trivial⟩ ?_
   refine Run.seq ?_
   refine Run.reg ?_
   refine op (OpS.mv rfl rfl rfl ?_)
   obtain ⟨x1, e4, hF⟩ := bindP_use hF
   refine op (OpS.make (r := (Rep.raw (α := List (List Int)) (.slice none 0 0))) h9 Try.underlying54 ti59 rfl rfl (Zr.raw rfl ([] : List (List Int))) rfl rfl rfl rfl e4 (by simp) (mk_fits e4) rfl (fun u3 w4 h10 => ?_))
   have h11 := St.upD (r := Nest_ssuint8.orep) h10 rfl (fun x_ hx_ => by obtain ⟨_, _, rfl⟩ := mk_some e4; rw [List.eq_of_mem_replicate hx_]; exact Nest_ssuint8.joW Jo.nil)
   refine op (OpS.as rfl rfl rfl ?_)
   refine RunL.nil ?_
   refine Run.slim [(10, u3), (9, u2), (0, .int .i64 a0), (7, u1)] ⟨rfl, rfl, rfl, rfl, trivial⟩ ?_
   refine Run.seq ?_
   refine Run.seq ?_
   refine Run.reg ?_
   refine op (OpS.as rfl rfl rfl ?_)
   refine RunL.nil ?_
   refine Run.block ?_
   have h12 := (h11.pick (.s (.s .z))).weak
   refine Run.slim [(0, .int .i64 a0), (7, u1), (9, u2), (10, u3), (11, .int .i64 0)] ⟨rfl, rfl, rfl, rfl, rfl, trivial⟩ ?_
   refine Run.loopP (σ := (Int × made_Dice × (List (List (List Int))) × (Option bus_Bus))) (fun s_ L_ w_ => ∃ u0_ : Value, L_ = [(0, .int .i64 a0), (7, u0_), (9, u2), (10, u3), (11, .int .i64 s_.1)] ∧ St e w_ [] [(false, .box 81 made_Dice.rep u2 s_.2.1), (true, .oval (oslice 59 1 (fun _ => Nest_ssuint8.orep)) u3 s_.2.2.1), (false, .opt (fun x_ => .ex fun v_ => .sep (.box 76 (Rep.iso (fun s : bus_Bus => (s.masters, ())) (Rep.prod (Rep.raw (α := List bus_master) v_) Rep.unit)) u0_ x_) (.oval (oslice 85 3 (fun _ => bus_master.orep)) v_ x_.masters)) u0_ s_.2.2.2)]) hF ⟨u1, rfl, (h12.facts .nil).picks (.cons (.s (.s .z)) (.cons (.s .z) (.cons .z .nil)))⟩ (fun k1 hk1 s2 _ w5 hI hF => ?_)
   obtain ⟨u4, rfl, h13⟩ := hI
   refine Run.seq ?_
   refine Run.seq ?_
   refine Run.reg ?_
   refine op (OpS.mv rfl rfl rfl ?_)
   refine op (OpS.mv rfl rfl rfl ?_)
   refine op (OpS.bin rfl rfl rfl rfl rfl ?_)
   refine RunL.nil ?_
   refine Run.slim [(33, .bool (decide (s2.1 < a0))), (0, .int .i64 a0), (7, u4), (9, u2), (10, u3), (11, .int .i64 s2.1)] ⟨rfl, rfl, rfl, rfl, rfl, rfl, trivial⟩ ?_
   refine Run.ite rfl hF (fun e5 hF => ?_) (fun e5 hF => ?_)
   ·
    refine Run.skip ?_
    refine Run.seq ?_
    refine Run.block ?_
    refine Run.seq ?_
    refine Run.reg ?_
    refine op (OpS.mv rfl rfl rfl ?_)
    obtain ⟨y3, e6, hF⟩ := bindP_use hF
    have h14 := h13.front (.cons .z .nil)
    refine op (OpS.callO h14 Try.func32 rfl rfl rfl rfl (vs := [u2, .int .i64 5]) rfl (made_Dice_Next_ok e6) rfl .nil ?_)
    rintro _ w6 _ _ _ ⟨rfl, rfl, rfl, rfl⟩ h15
    have h16 := h15
    simp only [List.cons_append, List.nil_append] at h16
    refine op (OpS.as rfl rfl rfl ?_)
    refine RunL.nil ?_
    refine Run.slim [(12, .int .i64 y3.1), (0, .int .i64 a0), (7, u4), (9, u2), (10, u3), (11, .int .i64 s2.1)] ⟨rfl, rfl, rfl, rfl, rfl, rfl, trivial⟩ ?_
    refine Run.block ?_
    refine Run.slim [(0, .int .i64 a0), (7, u4), (9, u2), (10, u3), (11, .int .i64 s2.1), (12, .int .i64 y3.1)] ⟨rfl, rfl, rfl, rfl, rfl, rfl, trivial⟩ ?_
    refine Run.loopP (σ := (Int × made_Dice × (List (List (List Int))) × (Option bus_Bus))) (fun s_ L_ w_ => ∃ u0_ : Value, L_ = [(0, .int .i64 a0), (7, u0_), (9, u2), (10, u3), (11, .int .i64 s2.1), (12, .int .i64 s_.1)] ∧ St e w_ [] [(false, .box 81 made_Dice.rep u2 s_.2.1), (true, .oval (oslice 59 1 (fun _ => Nest_ssuint8.orep)) u3 s_.2.2.1), (false, .opt (fun x_ => .ex fun v_ => .sep (.box 76 (Rep.iso (fun s : bus_Bus => (s.masters, ())) (Rep.prod (Rep.raw (α := List bus_master) v_) Rep.unit)) u0_ x_) (.oval (oslice 85 3 (fun _ => bus_master.orep)) v_ x_.masters)) u0_ s_.2.2.2)]) hF ⟨u4, rfl, (h16.facts .nil).picks (.cons .z (.cons .z (.cons .z .nil)))⟩ (fun k2 hk2 s3 _ w7 hI hF => ?_)
    obtain ⟨u5, rfl, h17⟩ := hI
    refine Run.seq ?_
    refine Run.seq ?_
    refine Run.reg ?_
    refine op (OpS.mv rfl rfl rfl ?_)
    refine op (OpS.bin rfl rfl rfl rfl rfl ?_)
    refine RunL.nil ?_
    refine Run.slim [(39, .bool (decide (s3.1 > 0))), (0, .int .i64 a0), (7, u5), (9, u2), (10, u3), (11, .int .i64 s2.1), (12, .int .i64 s3.1)] ⟨rfl, rfl, rfl, rfl, rfl, rfl, rfl, trivial⟩ ?_
    refine Run.ite rfl hF (fun e7 hF => ?_) (fun e7 hF => ?_)
    ·
     refine Run.skip ?_
     refine Run.seq ?_
     refine Run.block ?_
     refine Run.seq ?_
     refine Run.reg ?_
     refine op (OpS.mv rfl rfl rfl ?_)
     obtain ⟨y4, e8, hF⟩ := bindP_use hF
     have h18 := h17.front (.cons .z .nil)
     refine op (OpS.callO h18 Try.func15 rfl rfl rfl rfl (vs := [u2]) rfl (made_Dice_Frame_ok e8) rfl .nil ?_)
     rintro u6 w8 _ _ _ ⟨_, rfl, rfl, rfl, rfl⟩ h19
     have h20 := h19
     simp only [List.cons_append, List.nil_append] at h20
     refine op (OpS.alloc h20 ti36 Frame_.zr rfl rfl (fun u7 w9 h21 => ?_))
     refine op (OpS.storeB (f' := true) h21 .z PA.z Put.id ty36 rfl rfl rfl (V.at .z) (.inl rfl) (fun w10 h22 => ?_))
     refine RunL.nil ?_
     refine Run.slim [(13, u7), (0, .int .i64 a0), (7, u5), (9, u2), (10, u3), (11, .int .i64 s2.1), (12, .int .i64 s3.1)] ⟨rfl, rfl, rfl, rfl, rfl, rfl, rfl, trivial⟩ ?_
     refine Run.seq ?_
     refine Run.reg ?_
     refine op (OpS.loadB h22 .z PA.z Get.id ty36 rfl rfl rfl (fun u8 h23 => ?_))
     obtain ⟨y5, e9, hF⟩ := bindP_use hF
     refine op (OpS.callP h23 Try.func28 rfl rfl rfl rfl (vs := [u8]) rfl (frame_Encode_ok e9) (.cons (f := true) (V.at .z) .nil) ?_)
     rintro _ w11 _ _ _ ⟨u9, rfl, rfl, rfl, rfl⟩ h24
     have h25 := h24 rfl rfl
     simp only [List.cons_append, List.nil_append] at h25
     refine op (OpS.mv rfl rfl rfl ?_)
     refine op (OpS.ext rfl rfl rfl rfl ?_)
     refine op (OpS.ext rfl rfl rfl rfl ?_)
     refine op (OpS.as rfl rfl rfl ?_)
     have h26 := (h25.pick .z).freeze
     refine op (OpS.as rfl rfl rfl ?_)
     refine RunL.nil ?_
     refine Run.slim [(15, .int .i64 y5.2), (14, u9), (13, u7), (0, .int .i64 a0), (7, u5), (9, u2), (10, u3), (11, .int .i64 s2.1), (12, .int .i64 s3.1)] ⟨rfl, rfl, rfl, rfl, rfl, rfl, rfl, rfl, rfl, trivial⟩ ?_
     refine Run.seq ?_
     refine Run.seq ?_
     refine Run.reg ?_
     refine op (OpS.mv rfl rfl rfl ?_)
     refine op (OpS.bin rfl rfl rfl rfl rfl ?_)
     refine op (OpS.mv rfl rfl rfl ?_)
     refine RunL.join (σ := (Bool × (Option bus_Bus))) (fun s_ L_ w_ => ∃ u0_ : Value, L_ = [(0, .int .i64 a0), (7, u0_), (9, u2), (10, u3), (11, .int .i64 s2.1), (12, .int .i64 s3.1), (14, u9), (57, .bool s_.1)] ∧ St e w_ [(true, .val (Rep.slice (Rep.int .u8)) u9 y5.1)] [(false, .box 81 made_Dice.rep u2 y4.2), (true, .oval (oslice 59 1 (fun _ => Nest_ssuint8.orep)) u3 s3.2.2.1), (false, .opt (fun x_ => .ex fun v_ => .sep (.box 76 (Rep.iso (fun s : bus_Bus => (s.masters, ())) (Rep.prod (Rep.raw (α := List bus_master) v_) Rep.unit)) u0_ x_) (.oval (oslice 85 3 (fun _ => bus_master.orep)) v_ x_.masters)) u0_ s_.2)]) hF (fun s4 _ w12 hI hF => ?_) (fun j2 hj2 hF => ?_)
     ·
      obtain ⟨u10, rfl, h27⟩ := hI
      refine Run.ite rfl hF (fun e10 hF => ?_) (fun e10 hF => ?_)
      ·
       refine Run.seq ?_
       refine Run.reg ?_
       refine op (OpS.as rfl rfl rfl ?_)
       refine op (OpS.as rfl rfl rfl ?_)
       refine op (OpS.as rfl rfl rfl ?_)
       refine RunL.nil ?_
       refine Run.slim [(6, .bool false), (5, .slice none 0 0), (4, .pointer none)] ⟨rfl, rfl, rfl, trivial⟩ ?_
       have h28 := St.none (fun x_ => .ex fun v_ => .sep (.box 76 (Rep.iso (fun s : bus_Bus => (s.masters, ())) (Rep.prod (Rep.raw (α := List bus_master) v_) Rep.unit)) (.pointer none) x_) (.oval (oslice 85 3 (fun _ => bus_master.orep)) v_ x_.masters)) h27
       have h29 := (h28.pick .z).weak
       have h30 := St.nilD 59 1 (fun _ => Nest_ssuint8.orep) h29
       refine Run.retP rfl (.tmp rfl (.tmp rfl (.tmp rfl .nil))) ?_
       cases hF
       exact Post.mk' ⟨(.pointer none), (.slice none 0 0), rfl, rfl, rfl, rfl⟩ (h30.picks (.cons (.s .z) (.cons .z .nil))) .nil
      ·
       refine Run.skip ?_
       refine Run.reg ?_
       refine op (OpS.mv rfl rfl rfl ?_)
       refine op (OpS.mv rfl rfl rfl ?_)
       refine op (OpS.mv rfl rfl rfl ?_)
       refine op (OpS.mv rfl rfl rfl ?_)
       obtain ⟨x2, e11, hF⟩ := bindP_use hF
       refine op (OpS.iownD h27 (.s .z) Try.underlying54 sz59 rfl rfl rfl rfl e11 ?_)
       refine op (OpS.openO (F' := fun v_ => at' (fun _ => Nest_ssuint8.orep) (s2.1).toNat (Nest_ssuint8.orepW (raw v_))) (hn := fun _ => rfl) (hn' := fun _ => at_hn rfl rfl) h27 (.s .z) (idx_ne e11) PA.a (fun v_ => Len.comp (Len.arrOpen e11) (Nest_ssuint8.lenO v_)) rfl ty59 rfl rfl rfl rfl (fun u11 h31 => ?_))
       refine op (OpS.mv rfl rfl rfl ?_)
       refine op (OpS.lit (r := (Rep.slice (Rep.int .u8))) (f := true) h31 Try.underlying59 ti34 rfl rfl rfl rfl rfl (.cons rfl (V.at .z) .nil) rfl rfl (fun u12 w13 h32 => ?_))
       obtain ⟨x3, e12, hF⟩ := bindP_use hF
       refine op (OpS.appD (fr := (Rep.slice (Rep.int .u8))) (f' := true) h32 (.s .z) Try.underlying59 ti34 rfl rfl rfl rfl rfl rfl rfl (V.at .z) (.inl rfl) e12 (fun u13 w14 h33 => ?_))
       obtain ⟨x4, e13, hF⟩ := bindP_use hF
       refine op (OpS.iownD h33 (.s .z) Try.underlying54 sz59 rfl rfl rfl rfl e13 ?_)
       obtain ⟨d1, e14, hF⟩ := letP_use hF
       refine op (OpS.storePO (F := (at' (fun _ => Nest_ssuint8.orep) (s2.1).toNat (Nest_ssuint8.orepW (raw u11)))) (F2 := fun _ => Nest_ssuint8.orep) (hn := at_hn rfl rfl) (hn2 := fun _ => rfl) h33 (.s .z) .z (idx_ne e13) PA.a (Len.comp (Len.arrShut e13) (Nest_ssuint8.lenC u11)) ty59 rfl rfl rfl rfl (.inl rfl) (fun w15 h34 => ?_))
       have h35 := St.termD (l' := d1) h34 e14
       refine RunL.nil ?_
       refine Run.slim [(0, .int .i64 a0), (7, u10), (9, u2), (10, u3), (11, .int .i64 s2.1), (12, .int .i64 s3.1)] ⟨rfl, rfl, rfl, rfl, rfl, rfl, trivial⟩ ?_
       refine Run.endBlock ?_
       refine Run.reg ?_
       refine op (OpS.mv rfl rfl rfl ?_)
       refine op (OpS.bin rfl rfl rfl rfl rfl ?_)
       refine op (OpS.as rfl rfl rfl ?_)
       obtain ⟨x5, e15, hF⟩ := letP_use hF
       refine RunL.name e15 ?_
       refine RunL.nil ?_
       refine Run.slim [(12, .int .i64 x5), (0, .int .i64 a0), (7, u10), (9, u2), (10, u3), (11, .int .i64 s2.1)] ⟨rfl, rfl, rfl, rfl, rfl, rfl, trivial⟩ ?_
       refine Run.slim [(0, .int .i64 a0), (7, u10), (9, u2), (10, u3), (11, .int .i64 s2.1), (12, .int .i64 x5)] ⟨rfl, rfl, rfl, rfl, rfl, rfl, trivial⟩ ?_
       exact hk2 (x5, y4.2, d1, s4.2) _ _ ⟨u10, rfl, (h35.facts .nil).picks (.cons (.s .z) (.cons .z (.cons .z .nil)))⟩ hF
     ·
      refine RunL.caseb hF (fun e16 hF => ?_) (fun e16 hF => ?_)
      ·
       refine op (OpS.pass rfl rfl rfl ?_)
       refine op (OpS.pass rfl rfl rfl ?_)
       refine op (OpS.pass rfl rfl rfl ?_)
       refine op (OpS.pass rfl rfl rfl ?_)
       refine op (OpS.pass rfl rfl rfl ?_)
       refine op (OpS.pick rfl rfl rfl rfl ?_)
       refine RunL.nil ?_
       refine Run.slim [(57, .bool true), (14, u9), (0, .int .i64 a0), (7, u5), (9, u2), (10, u3), (11, .int .i64 s2.1), (12, .int .i64 s3.1)] ⟨rfl, rfl, rfl, rfl, rfl, rfl, rfl, rfl, trivial⟩ ?_
       refine Run.slim [(0, .int .i64 a0), (7, u5), (9, u2), (10, u3), (11, .int .i64 s2.1), (12, .int .i64 s3.1), (14, u9), (57, .bool true)] ⟨rfl, rfl, rfl, rfl, rfl, rfl, rfl, rfl, trivial⟩ ?_
       exact hj2 (true, s3.2.2.2) _ _ ⟨u5, rfl, (h26.facts (.atm .z .nil)).picks (.cons (.s .z) (.cons (.s .z) (.cons (.s .z) .nil)))⟩ hF
      ·
       refine op (OpS.mv rfl rfl rfl ?_)
       refine op (OpS.mv rfl rfl rfl ?_)
       refine op (OpS.loadB h26 .z PA.z Get.id ty36 rfl rfl rfl (fun u14 h36 => ?_))
       obtain ⟨x6, e17, hF⟩ := bindP_use hF
       have h37 := St.unopt (h36.pick (.s (.s (.s .z)))) e17
       obtain ⟨u15, h38⟩ := h37.unex
       have h39 := h38.unsep
       obtain ⟨y6, e18, hF⟩ := bindP_use hF
       have h40 := h39.front (.cons .z (.cons .z .nil))
       refine op (OpS.callO h40 Try.func16 rfl rfl rfl rfl (vs := [u5, .int .i64 s2.1, u14]) rfl (bus_Bus_Submit_ok e18) rfl (.cons (f := true) (V.at .z) .nil) ?_)
       rintro _ w16 _ _ _ ⟨u16, rfl, rfl, rfl, rfl⟩ h41
       have h42 := h41
       simp only [List.cons_append, List.nil_append] at h42
       refine op (OpS.bin rfl rfl rfl rfl rfl ?_)
       refine op (OpS.pick rfl rfl rfl rfl ?_)
       refine RunL.nil ?_
       refine Run.slim [(57, .bool (y6.1 != 0)), (14, u9), (0, .int .i64 a0), (7, u5), (9, u2), (10, u3), (11, .int .i64 s2.1), (12, .int .i64 s3.1)] ⟨rfl, rfl, rfl, rfl, rfl, rfl, rfl, rfl, trivial⟩ ?_
       have h43 := h42.front (.cons .z (.cons .z .nil))
       have h44 := St.some (H := (fun x_ => .ex fun v_ => .sep (.box 76 (Rep.iso (fun s : bus_Bus => (s.masters, ())) (Rep.prod (Rep.raw (α := List bus_master) v_) Rep.unit)) u5 x_) (.oval (oslice 85 3 (fun _ => bus_master.orep)) v_ x_.masters))) (q := u5) (x := y6.2) (St.ex (H := fun v_ => .sep (.box 76 (Rep.iso (fun s : bus_Bus => (s.masters, ())) (Rep.prod (Rep.raw (α := List bus_master) v_) Rep.unit)) u5 y6.2) (.oval (oslice 85 3 (fun _ => bus_master.orep)) v_ y6.2.masters)) u16 (St.sep h43))
       refine Run.slim [(0, .int .i64 a0), (7, u5), (9, u2), (10, u3), (11, .int .i64 s2.1), (12, .int .i64 s3.1), (14, u9), (57, .bool (y6.1 != 0))] ⟨rfl, rfl, rfl, rfl, rfl, rfl, rfl, rfl, trivial⟩ ?_
       exact hj2 (y6.1 != 0, (some y6.2)) _ _ ⟨u5, rfl, (h44.facts (.atm (.s .z) .nil)).picks (.cons (.s (.s .z)) (.cons (.s (.s .z)) (.cons .z .nil)))⟩ hF
    ·
     refine Run.exit rfl ?_
     refine Run.endBlock ?_
     refine Run.reg ?_
     refine op (OpS.mv rfl rfl rfl ?_)
     refine op (OpS.bin rfl rfl rfl rfl rfl ?_)
     refine op (OpS.as rfl rfl rfl ?_)
     obtain ⟨x7, e19, hF⟩ := letP_use hF
     refine RunL.name e19 ?_
     refine RunL.nil ?_
     refine Run.slim [(11, .int .i64 x7), (0, .int .i64 a0), (7, u5), (9, u2), (10, u3)] ⟨rfl, rfl, rfl, rfl, rfl, trivial⟩ ?_
     refine Run.slim [(0, .int .i64 a0), (7, u5), (9, u2), (10, u3), (11, .int .i64 x7)] ⟨rfl, rfl, rfl, rfl, rfl, trivial⟩ ?_
     exact hk1 (x7, s3.2.1, s3.2.2.1, s3.2.2.2) _ _ ⟨u5, rfl, (h17.facts .nil).picks (.cons .z (.cons .z (.cons .z .nil)))⟩ hF
   ·
    refine Run.exit rfl ?_
    refine Run.seq ?_
    refine Run.reg ?_
    refine op (OpS.mv rfl rfl rfl ?_)
    refine op (OpS.mv rfl rfl rfl ?_)
    refine op (OpS.as rfl rfl rfl ?_)
    refine op (OpS.as rfl rfl rfl ?_)
    refine op (OpS.as rfl rfl rfl ?_)
    refine RunL.nil ?_
    refine Run.slim [(6, .bool true), (5, u3), (4, u4)] ⟨rfl, rfl, rfl, trivial⟩ ?_
    refine Run.retP rfl (.tmp rfl (.tmp rfl (.tmp rfl .nil))) ?_
    cases hF
    exact Post.mk' ⟨u4, u3, rfl, rfl, rfl, rfl⟩ (h13.picks (.cons (.s (.s .z)) (.cons (.s .z) .nil))) .nil
 ·
  refine RunL.caseb hF (fun e20 hF => ?_) (fun e20 hF => ?_)
  ·
   refine op (OpS.pass rfl rfl rfl ?_)
   refine op (OpS.pass rfl rfl rfl ?_)
   refine op (OpS.pick rfl rfl rfl rfl ?_)
   refine RunL.nil ?_
   refine Run.slim [(26, .bool true), (7, u1), (0, .int .i64 a0), (1, v1)] ⟨rfl, rfl, rfl, rfl, trivial⟩ ?_
   refine Run.slim [(0, .int .i64 a0), (1, v1), (7, u1), (26, .bool true)] ⟨rfl, rfl, rfl, rfl, trivial⟩ ?_
   exact hj1 (true) _ _ ⟨rfl, (h2.facts (.atm .z .nil)).picks (.cons .z .nil)⟩ hF
  ·
   refine op (OpS.mv rfl rfl rfl ?_)
   refine op (OpS.bin rfl rfl rfl rfl rfl ?_)
   refine op (OpS.pick rfl rfl rfl rfl ?_)
   refine RunL.nil ?_
   refine Run.slim [(26, .bool (y1.2 != 0)), (7, u1), (0, .int .i64 a0), (1, v1)] ⟨rfl, rfl, rfl, rfl, trivial⟩ ?_
   refine Run.slim [(0, .int .i64 a0), (1, v1), (7, u1), (26, .bool (y1.2 != 0))] ⟨rfl, rfl, rfl, rfl, trivial⟩ ?_
   exact hj1 (y1.2 != 0) _ _ ⟨rfl, (h2.facts (.atm .z .nil)).picks (.cons .z .nil)⟩ hF
theorem law21_among_ok {fuel : Nat} {a0 : List Int} {a1 : Int} {y : Bool} (hF : law21_among fuel a0 a1 = some y) {w : World} {v0 : Value} :
  Spec Try.prog 27 [v0, .int .i64 a1].toArray w [(false, .val (Rep.slice (Rep.int .i64)) v0 a0)] [] (fun v Γr Ωr Ωo => v = .bool y ∧ Γr = [] ∧ Ωr = [] ∧ Ωo = []) := by
 refine Spec.of (L := [(0, v0), (1, .int .i64 a1)]) Try.func27 rfl ⟨rfl, rfl, trivial⟩ rfl (fun e h => ?_)
 unfold law21_among at hF
 refine Run.seq ?_
 refine Run.reg ?_
 refine op (OpS.as rfl rfl rfl ?_)
 refine RunL.nil ?_
 refine Run.slim [(0, v0), (1, .int .i64 a1)] ⟨rfl, rfl, trivial⟩ ?_
 refine Run.seq ?_
 refine Run.seq ?_
 refine Run.reg ?_
 refine op (OpS.as rfl rfl rfl ?_)
 refine RunL.nil ?_
 refine Run.block ?_
 refine Run.slim [(0, v0), (1, .int .i64 a1), (5, .int .i64 0)] ⟨rfl, rfl, rfl, trivial⟩ ?_
 refine Run.loopP (σ := Int) (fun s_ L_ w_ => L_ = [(0, v0), (1, .int .i64 a1), (5, .int .i64 s_)] ∧ St e w_ [(false, .val (Rep.slice (Rep.int .i64)) v0 a0)] []) hF ⟨rfl, (h.facts (.atm .z .nil)).picks .nil⟩ (fun k1 hk1 s1 _ w1 hI hF => ?_)
 obtain ⟨rfl, h1⟩ := hI
 refine Run.seq ?_
 refine Run.seq ?_
 refine Run.reg ?_
 refine op (OpS.mv rfl rfl rfl ?_)
 refine op (OpS.mv rfl rfl rfl ?_)
 refine op (OpS.len h1 Try.underlying33 rfl rfl rfl (V.at .z) ?_)
 refine op (OpS.bin rfl rfl rfl rfl rfl ?_)
 refine RunL.nil ?_
 refine Run.slim [(9, .bool (decide (s1 < (a0.length : Int)))), (0, v0), (1, .int .i64 a1), (5, .int .i64 s1)] ⟨rfl, rfl, rfl, rfl, trivial⟩ ?_
 refine Run.ite rfl hF (fun e1 hF => ?_) (fun e1 hF => ?_)
 ·
  refine Run.skip ?_
  refine Run.seq ?_
  refine Run.block ?_
  refine Run.seq ?_
  refine Run.reg ?_
  refine op (OpS.mv rfl rfl rfl ?_)
  refine op (OpS.mv rfl rfl rfl ?_)
  obtain ⟨x1, e2, hF⟩ := bindP_use hF
  refine op (OpS.iptr h1 Try.underlying33 ty3 rfl rfl rfl rfl (V.at .z) e2 (fun u1 h2 => ?_))
  refine op (OpS.loadi h2 ty3 rfl rfl rfl .z ?_)
  refine op (OpS.mv rfl rfl rfl ?_)
  refine op (OpS.bin rfl rfl rfl rfl rfl ?_)
  refine RunL.nil ?_
  refine Run.slim [(17, .bool (x1 == a1)), (0, v0), (1, .int .i64 a1), (5, .int .i64 s1)] ⟨rfl, rfl, rfl, rfl, trivial⟩ ?_
  refine Run.ite rfl hF (fun e3 hF => ?_) (fun e3 hF => ?_)
  ·
   refine Run.seq ?_
   refine Run.reg ?_
   refine op (OpS.as rfl rfl rfl ?_)
   refine RunL.nil ?_
   refine Run.slim [(4, .bool true)] ⟨rfl, trivial⟩ ?_
   refine Run.retP rfl (.tmp rfl .nil) ?_
   cases hF
   exact Post.mk' ⟨rfl, rfl, rfl, rfl⟩ (h2.picks .nil) .nil
  ·
   refine Run.skip ?_
   refine Run.endBlock ?_
   refine Run.reg ?_
   refine op (OpS.mv rfl rfl rfl ?_)
   refine op (OpS.bin rfl rfl rfl rfl rfl ?_)
   refine op (OpS.as rfl rfl rfl ?_)
   obtain ⟨x2, e4, hF⟩ := letP_use hF
   refine RunL.name e4 ?_
   refine RunL.nil ?_
   refine Run.slim [(5, .int .i64 x2), (0, v0), (1, .int .i64 a1)] ⟨rfl, rfl, rfl, trivial⟩ ?_
   refine Run.slim [(0, v0), (1, .int .i64 a1), (5, .int .i64 x2)] ⟨rfl, rfl, rfl, trivial⟩ ?_
   exact hk1 (x2) _ _ ⟨rfl, (h2.facts (.atm (.s .z) .nil)).picks .nil⟩ hF
 ·
  refine Run.exit rfl ?_
  refine Run.seq ?_
  refine Run.reg ?_
  refine op (OpS.as rfl rfl rfl ?_)
  refine RunL.nil ?_
  refine Run.slim [(4, .bool false)] ⟨rfl, trivial⟩ ?_
  refine Run.retP rfl (.tmp rfl .nil) ?_
  cases hF
  exact Post.mk' ⟨rfl, rfl, rfl, rfl⟩ (h1.picks .nil) .nil
set_option maxHeartbeats 8000000 in
theorem law21_BusDelivers_ok {fuel : Nat} {a0 : Int} {a1 : List Int} {y : Bool} (hF : law21_BusDelivers fuel a0 a1 = some y) {w : World} {v1 : Value} :
  Spec Try.prog 4 [.int .i64 a0, v1].toArray w [(false, .val (Rep.slice (Rep.int .i64)) v1 a1)] [] (fun v Γr Ωr Ωo => v = .bool y ∧ Γr = [] ∧ Ωr = [] ∧ Ωo = []) := by
 refine Spec.of (L := [(0, .int .i64 a0), (1, v1)]) Try.func4 rfl ⟨rfl, rfl, trivial⟩ rfl (fun e h => ?_)
 unfold law21_BusDelivers at hF
 refine Run.seq ?_
 refine Run.reg ?_
 refine op (OpS.as rfl rfl rfl ?_)
 refine RunL.nil ?_
 refine Run.slim [(0, .int .i64 a0), (1, v1)] ⟨rfl, rfl, trivial⟩ ?_
 refine Run.seq ?_
 refine Run.seq ?_
 refine Run.reg ?_
 refine op (OpS.mv rfl rfl rfl ?_)
 obtain ⟨y1, e1, hF⟩ := bindP_use hF
 refine op (OpS.callP h Try.func24 rfl rfl rfl rfl (vs := [v1]) rfl (made_Light_ok e1) (.cons (f := false) (V.at .z) .nil) ?_)
 rintro _ w1 _ _ _ ⟨rfl, rfl, rfl, rfl⟩ h1
 have h2 := h1 rfl rfl
 simp only [List.cons_append, List.nil_append] at h2
 refine op (OpS.not rfl rfl rfl ?_)
 refine RunL.nil ?_
 refine Run.slim [(22, .bool (!y1)), (0, .int .i64 a0), (1, v1)] ⟨rfl, rfl, rfl, trivial⟩ ?_
 refine Run.ite rfl hF (fun e2 hF => ?_) (fun e2 hF => ?_)
 ·
  refine Run.seq ?_
  refine Run.reg ?_
  obtain ⟨y2, e3, hF⟩ := bindP_use hF
  refine op (OpS.callP h2 Try.func10 rfl rfl rfl rfl (vs := []) rfl (law21_awake_ok e3) .nil ?_)
  rintro _ w2 _ _ _ ⟨rfl, rfl, rfl, rfl⟩ h3
  have h4 := h3 rfl rfl
  simp only [List.cons_append, List.nil_append] at h4
  refine op (OpS.as rfl rfl rfl ?_)
  refine RunL.nil ?_
  refine Run.slim [(4, .bool y2)] ⟨rfl, trivial⟩ ?_
  refine Run.retP rfl (.tmp rfl .nil) ?_
  cases hF
  exact Post.mk' ⟨rfl, rfl, rfl, rfl⟩ (h4.picks .nil) .nil
 ·
  refine Run.skip ?_
  refine Run.seq ?_
  refine Run.reg ?_
  refine op (OpS.mv rfl rfl rfl ?_)
  obtain ⟨y3, e4, hF⟩ := bindP_use hF
  refine op (OpS.callP h2 Try.func13 rfl rfl rfl rfl (vs := [.int .i64 a0, .int .i64 8]) rfl (made_Mod_ok e4) .nil ?_)
  rintro _ w3 _ _ _ ⟨rfl, rfl, rfl, rfl⟩ h5
  have h6 := h5 rfl rfl
  simp only [List.cons_append, List.nil_append] at h6
  refine op (OpS.bin rfl rfl rfl rfl rfl ?_)
  refine op (OpS.as rfl rfl rfl ?_)
  obtain ⟨x1, e5, hF⟩ := letP_use hF
  refine RunL.name e5 ?_
  refine RunL.nil ?_
  refine Run.slim [(5, .int .i64 x1), (1, v1)] ⟨rfl, rfl, trivial⟩ ?_
  refine Run.seq ?_
  refine Run.reg ?_
  refine op (OpS.mv rfl rfl rfl ?_)
  refine op (OpS.mv rfl rfl rfl ?_)
  obtain ⟨y4, e6, hF⟩ := bindP_use hF
  have h7 := h6.front .nil
  refine op (OpS.callO h7 Try.func25 rfl rfl rfl rfl (vs := [.int .i64 x1, v1]) rfl (law21_loaded_ok e6) rfl (.cons (f := false) (V.at .z) .nil) ?_)
  rintro _ w4 _ _ _ ⟨u1, u2, rfl, rfl, rfl, rfl⟩ h8
  have h9 := h8
  simp only [List.cons_append, List.nil_append] at h9
  refine op (OpS.mv rfl rfl rfl ?_)
  refine op (OpS.ext rfl rfl rfl rfl ?_)
  refine op (OpS.ext rfl rfl rfl rfl ?_)
  refine op (OpS.ext rfl rfl rfl rfl ?_)
  refine op (OpS.as rfl rfl rfl ?_)
  refine op (OpS.as rfl rfl rfl ?_)
  have h10 := St.freezeF (h9.pick (.s .z)) Nest_ssuint8.rf
  refine op (OpS.as rfl rfl rfl ?_)
  refine RunL.nil ?_
  refine Run.slim [(8, .bool y4.2.2), (7, u2), (6, u1), (5, .int .i64 x1)] ⟨rfl, rfl, rfl, rfl, trivial⟩ ?_
  refine Run.seq ?_
  refine Run.seq ?_
  refine Run.reg ?_
  refine op (OpS.mv rfl rfl rfl ?_)
  refine op (OpS.not rfl rfl rfl ?_)
  refine RunL.nil ?_
  refine Run.slim [(35, .bool (!y4.2.2)), (7, u2), (6, u1), (5, .int .i64 x1)] ⟨rfl, rfl, rfl, rfl, trivial⟩ ?_
  refine Run.ite rfl hF (fun e7 hF => ?_) (fun e7 hF => ?_)
  ·
   refine Run.seq ?_
   refine Run.reg ?_
   refine op (OpS.as rfl rfl rfl ?_)
   refine RunL.nil ?_
   refine Run.slim [(4, .bool false)] ⟨rfl, trivial⟩ ?_
   refine Run.retP rfl (.tmp rfl .nil) ?_
   cases hF
   exact Post.mk' ⟨rfl, rfl, rfl, rfl⟩ (h10.picks .nil) .nil
  ·
   refine Run.skip ?_
   refine Run.seq ?_
   refine Run.reg ?_
   refine op (OpS.mv rfl rfl rfl ?_)
   obtain ⟨x2, e8, hF⟩ := bindP_use hF
   refine op (OpS.make h10 Try.underlying33 ti3 rfl rfl (Zr.int .i64 0) rfl rfl rfl rfl e8 (by simp) (mk_fits e8) rfl (fun u3 w5 h11 => ?_))
   refine op (OpS.as rfl rfl rfl ?_)
   refine RunL.nil ?_
   refine Run.slim [(9, u3), (7, u2), (6, u1), (5, .int .i64 x1)] ⟨rfl, rfl, rfl, rfl, trivial⟩ ?_
   refine Run.seq ?_
   refine Run.reg ?_
   refine op (OpS.alloc h11 ti58 (Zr.of (Zr.arr (Zr.of (Zr.arr (Zr.int .i64 0) 8) rfl) 8) rfl) rfl rfl (fun u4 w6 h12 => ?_))
   refine RunL.nil ?_
   refine Run.seq ?_
   refine Run.seq ?_
   refine Run.reg ?_
   refine op (OpS.as rfl rfl rfl ?_)
   refine RunL.nil ?_
   refine Run.block ?_
   refine Run.slim [(5, .int .i64 x1), (6, u1), (7, u2), (9, u3), (10, u4), (11, .int .i64 1)] ⟨rfl, rfl, rfl, rfl, rfl, rfl, trivial⟩ ?_
   refine Run.loopP (σ := (Int × (List (List Int)) × (List Int) × (Option bus_Bus))) (fun s_ L_ w_ => ∃ u0_ : Value, L_ = [(5, .int .i64 x1), (6, u0_), (7, u2), (9, u3), (10, u4), (11, .int .i64 s_.1)] ∧ St e w_ [(true, .val (Rep.slice (Rep.slice (Rep.slice (Rep.int .u8)))) u2 y4.2.1)] [(true, .box 58 (Rep.arr 8 (Rep.arr 8 (Rep.int .i64))) u4 s_.2.1), (true, .slice 3 (Rep.int .i64) u3 s_.2.2.1), (false, .opt (fun x_ => .ex fun v_ => .sep (.box 76 (Rep.iso (fun s : bus_Bus => (s.masters, ())) (Rep.prod (Rep.raw (α := List bus_master) v_) Rep.unit)) u0_ x_) (.oval (oslice 85 3 (fun _ => bus_master.orep)) v_ x_.masters)) u0_ s_.2.2.2)]) hF ⟨u1, rfl, (h12.facts (.atm .z .nil)).picks (.cons .z (.cons .z (.cons .z .nil)))⟩ (fun k1 hk1 s1 _ w7 hI hF => ?_)
   obtain ⟨u5, rfl, h13⟩ := hI
   refine Run.seq ?_
   refine Run.seq ?_
   refine Run.reg ?_
   refine op (OpS.mv rfl rfl rfl ?_)
   refine op (OpS.bin rfl rfl rfl rfl rfl ?_)
   refine RunL.nil ?_
   refine Run.slim [(39, .bool (decide (s1.1 ≤ 41))), (5, .int .i64 x1), (6, u5), (7, u2), (9, u3), (10, u4), (11, .int .i64 s1.1)] ⟨rfl, rfl, rfl, rfl, rfl, rfl, rfl, trivial⟩ ?_
   refine Run.ite rfl hF (fun e9 hF => ?_) (fun e9 hF => ?_)
   ·
    refine Run.skip ?_
    refine Run.seq ?_
    refine Run.block ?_
    refine Run.seq ?_
    refine Run.reg ?_
    refine op (OpS.mv rfl rfl rfl ?_)
    refine op (OpS.build (f := true) (x' := Fault_.z) h13 pl38 ti38 Fault_.zr rfl rfl rfl .nil (fun u6 h14 => ?_))
    obtain ⟨x3, e10, hF⟩ := bindP_use hF
    have h15 := St.unopt (h14.pick (.s (.s .z))) e10
    obtain ⟨u7, h16⟩ := h15.unex
    have h17 := h16.unsep
    obtain ⟨y5, e11, hF⟩ := bindP_use hF
    have h18 := h17.front (.cons .z (.cons .z .nil))
    refine op (OpS.callO h18 Try.func18 rfl rfl rfl rfl (vs := [u5, u6]) rfl (bus_Bus_Step_ok e11) rfl (.cons (f := true) (V.at .z) .nil) ?_)
    rintro _ w8 _ _ _ ⟨u8, u9, rfl, rfl, rfl, rfl⟩ h19
    have h20 := h19
    simp only [List.cons_append, List.nil_append] at h20
    refine op (OpS.mv rfl rfl rfl ?_)
    refine op (OpS.ext rfl rfl rfl rfl ?_)
    refine op (OpS.ext rfl rfl rfl rfl ?_)
    refine op (OpS.alloc h20 ti46 Delivery_.zr rfl rfl (fun u10 w9 h21 => ?_))
    refine op (OpS.storeB (f' := true) h21 .z PA.z Put.id ty46 rfl rfl rfl (V.at .z) (.inl rfl) (fun w10 h22 => ?_))
    refine op (OpS.as rfl rfl rfl ?_)
    refine RunL.nil ?_
    refine Run.slim [(13, .bool y5.2.1), (12, u10), (5, .int .i64 x1), (6, u5), (7, u2), (9, u3), (10, u4), (11, .int .i64 s1.1)] ⟨rfl, rfl, rfl, rfl, rfl, rfl, rfl, rfl, trivial⟩ ?_
    refine Run.seq ?_
    refine Run.reg ?_
    refine op (OpS.as rfl rfl rfl ?_)
    refine RunL.nil ?_
    refine Run.seq ?_
    refine Run.seq ?_
    refine Run.reg ?_
    refine op (OpS.as rfl rfl rfl ?_)
    refine RunL.nil ?_
    refine Run.block ?_
    refine Run.slim [(5, .int .i64 x1), (6, u5), (7, u2), (9, u3), (10, u4), (11, .int .i64 s1.1), (12, u10), (13, .bool y5.2.1), (14, .bool false), (15, .int .i64 0)] ⟨rfl, rfl, rfl, rfl, rfl, rfl, rfl, rfl, rfl, rfl, trivial⟩ ?_
    refine Run.loopP (σ := (Bool × Int)) (fun s_ L_ w_ => L_ = [(5, .int .i64 x1), (6, u5), (7, u2), (9, u3), (10, u4), (11, .int .i64 s1.1), (12, u10), (13, .bool y5.2.1), (14, .bool s_.1), (15, .int .i64 s_.2)] ∧ St e w_ [(true, .val (Rep.slice (Rep.slice (Rep.slice (Rep.int .u8)))) u2 y4.2.1)] [(false, .box 76 (Rep.iso (fun s : bus_Bus => (s.masters, ())) (Rep.prod (Rep.raw (α := List bus_master) u9) Rep.unit)) u5 y5.2.2), (true, .box 58 (Rep.arr 8 (Rep.arr 8 (Rep.int .i64))) u4 s1.2.1), (true, .box 46 Delivery_.rep u10 y5.1), (true, .slice 3 (Rep.int .i64) u3 s1.2.2.1), (false, .oval (oslice 85 3 (fun _ => bus_master.orep)) u9 y5.2.2.masters)]) hF ⟨rfl, (h22.facts (.atm (.s (.s .z)) .nil)).picks (.cons (.s .z) (.cons (.s (.s .z)) (.cons .z (.cons (.s .z) (.cons .z .nil)))))⟩ (fun k2 hk2 s2 _ w11 hI hF => ?_)
    obtain ⟨rfl, h23⟩ := hI
    refine Run.seq ?_
    refine Run.seq ?_
    refine Run.reg ?_
    refine op (OpS.mv rfl rfl rfl ?_)
    refine op (OpS.mv rfl rfl rfl ?_)
    refine op (OpS.bin rfl rfl rfl rfl rfl ?_)
    refine RunL.nil ?_
    refine Run.slim [(50, .bool (decide (s2.2 < x1))), (5, .int .i64 x1), (6, u5), (7, u2), (9, u3), (10, u4), (11, .int .i64 s1.1), (12, u10), (13, .bool y5.2.1), (14, .bool s2.1), (15, .int .i64 s2.2)] ⟨rfl, rfl, rfl, rfl, rfl, rfl, rfl, rfl, rfl, rfl, rfl, trivial⟩ ?_
    refine Run.ite rfl hF (fun e12 hF => ?_) (fun e12 hF => ?_)
    ·
     refine Run.skip ?_
     refine Run.seq ?_
     refine Run.block ?_
     have h24 := h23.picks (.cons (.s (.s (.s .z))) (.cons .z (.cons .z (.cons .z (.cons .z .nil)))))
     obtain ⟨x4, e13, hF⟩ := letP_use hF
     refine iteP_use hF (fun e14 hF => ?_) (fun e14 hF => ?_)
     ·
      have hG := hF
      subst e14
      have hF := hG
      refine Run.drawV (Ωs := [(false, .box 76 (Rep.iso (fun s : bus_Bus => (s.masters, ())) (Rep.prod (Rep.raw (α := List bus_master) u9) Rep.unit)) u5 y5.2.2), (true, .box 58 (Rep.arr 8 (Rep.arr 8 (Rep.int .i64))) u4 s1.2.1), (true, .box 46 Delivery_.rep u10 y5.1), (false, .oval (oslice 85 3 (fun _ => bus_master.orep)) u9 y5.2.2.masters)]) [⟨some 53, some (.bool s2.1), fun _ => [], fun ds_ u_ => [], [], [], none⟩, ⟨some 54, some (.bool true), fun _ => [], fun ds_ u_ => [], [], [], none⟩, ⟨some 55, some undef, fun _ => [], fun _ _ => [], [], [], none⟩, ⟨some 56, some undef, fun _ => [], fun _ _ => [], [], [], none⟩, ⟨some 57, some undef, fun _ => [], fun _ _ => [], [], [], none⟩, ⟨some 58, some undef, fun _ => [], fun _ _ => [], [], [], none⟩, ⟨some 59, some undef, fun _ => [], fun _ _ => [], [], [], none⟩, ⟨some 60, some undef, fun _ => [], fun _ _ => [], [], [], none⟩, ⟨some 61, some undef, fun _ => [], fun _ _ => [], [], [], none⟩, ⟨some 62, some undef, fun _ => [], fun _ _ => [], [], [], none⟩, ⟨some 63, some undef, fun _ => [], fun _ _ => [], [], [], none⟩, ⟨some 64, some undef, fun _ => [], fun _ _ => [], [], [], none⟩, ⟨some 65, some (.bool true), fun _ => [], fun ds_ u_ => [], [], [], none⟩] [[], [0], [1], [1], [1], [1], [1], [1], [1], [1], [1], [1], [1, 11]] [[(true, .slice 3 (Rep.int .i64) u3 s1.2.2.1)]] [0, 1, 2, 3, 4, 5, 6, 7, 8, 9, 10, 11, 12, 13] Try_mixed rfl rfl rfl h24 (.cons ?_ (.cons ?_ (.cons ?_ (.cons ?_ (.cons ?_ (.cons ?_ (.cons ?_ (.cons ?_ (.cons ?_ (.cons ?_ (.cons ?_ (.cons ?_ (.cons ?_ .nil))))))))))))) (fun q1 w hq1 h => ?_)
      ·intro q1 w Γx Ωx h
       refine OpS.mv rfl rfl rfl ?_
       exact ⟨undef, rfl, trivial, h⟩
      ·intro q1 w Γx Ωx h
       refine OpS.mv rfl rfl rfl ?_
       exact ⟨undef, (congrArg (fun z_ => some (Value.bool z_)) e13), trivial, h⟩
      ·intro q1 w Γx Ωx h
       exact OpS.pass rfl rfl rfl ⟨undef, rfl, trivial, h⟩
      ·intro q1 w Γx Ωx h
       exact OpS.pass rfl rfl rfl ⟨undef, rfl, trivial, h⟩
      ·intro q1 w Γx Ωx h
       exact OpS.pass rfl rfl rfl ⟨undef, rfl, trivial, h⟩
      ·intro q1 w Γx Ωx h
       exact OpS.pass rfl rfl rfl ⟨undef, rfl, trivial, h⟩
      ·intro q1 w Γx Ωx h
       exact OpS.pass rfl rfl rfl ⟨undef, rfl, trivial, h⟩
      ·intro q1 w Γx Ωx h
       exact OpS.pass rfl rfl rfl ⟨undef, rfl, trivial, h⟩
      ·intro q1 w Γx Ωx h
       exact OpS.pass rfl rfl rfl ⟨undef, rfl, trivial, h⟩
      ·intro q1 w Γx Ωx h
       exact OpS.pass rfl rfl rfl ⟨undef, rfl, trivial, h⟩
      ·intro q1 w Γx Ωx h
       exact OpS.pass rfl rfl rfl ⟨undef, rfl, trivial, h⟩
      ·intro q1 w Γx Ωx h
       exact OpS.pass rfl rfl rfl ⟨undef, rfl, trivial, h⟩
      ·intro q1 w Γx Ωx h
       refine OpS.pick rfl rfl rfl rfl ?_
       exact ⟨undef, rfl, trivial, h⟩
      have h25 : St e w [(true, .val (Rep.slice (Rep.slice (Rep.slice (Rep.int .u8)))) u2 y4.2.1)] [(true, .slice 3 (Rep.int .i64) u3 s1.2.2.1), (false, .box 76 (Rep.iso (fun s : bus_Bus => (s.masters, ())) (Rep.prod (Rep.raw (α := List bus_master) u9) Rep.unit)) u5 y5.2.2), (true, .box 58 (Rep.arr 8 (Rep.arr 8 (Rep.int .i64))) u4 s1.2.1), (true, .box 46 Delivery_.rep u10 y5.1), (false, .oval (oslice 85 3 (fun _ => bus_master.orep)) u9 y5.2.2.masters)] := h
      refine op (OpS.as rfl rfl rfl ?_)
      refine RunL.nil ?_
      refine Run.slim [(14, .bool true), (5, .int .i64 x1), (6, u5), (7, u2), (9, u3), (10, u4), (11, .int .i64 s1.1), (12, u10), (13, .bool y5.2.1), (15, .int .i64 s2.2)] ⟨rfl, rfl, rfl, rfl, rfl, rfl, rfl, rfl, rfl, rfl, trivial⟩ ?_
      refine Run.endBlock ?_
      refine Run.reg ?_
      refine op (OpS.mv rfl rfl rfl ?_)
      refine op (OpS.bin rfl rfl rfl rfl rfl ?_)
      refine op (OpS.as rfl rfl rfl ?_)
      obtain ⟨x5, e15, hF⟩ := letP_use hF
      refine RunL.name e15 ?_
      refine RunL.nil ?_
      refine Run.slim [(15, .int .i64 x5), (14, .bool true), (5, .int .i64 x1), (6, u5), (7, u2), (9, u3), (10, u4), (11, .int .i64 s1.1), (12, u10), (13, .bool y5.2.1)] ⟨rfl, rfl, rfl, rfl, rfl, rfl, rfl, rfl, rfl, rfl, trivial⟩ ?_
      refine Run.slim [(5, .int .i64 x1), (6, u5), (7, u2), (9, u3), (10, u4), (11, .int .i64 s1.1), (12, u10), (13, .bool y5.2.1), (14, .bool true), (15, .int .i64 x5)] ⟨rfl, rfl, rfl, rfl, rfl, rfl, rfl, rfl, rfl, rfl, trivial⟩ ?_
      exact hk2 (true, x5) _ _ ⟨rfl, (h25.facts (.atm .z .nil)).picks (.cons (.s .z) (.cons (.s .z) (.cons (.s .z) (.cons .z (.cons .z .nil)))))⟩ hF
     ·
      have hG := hF
      subst e14
      have hF := hG
      obtain ⟨x6, e16, hF⟩ := bindP_use hF
      obtain ⟨x7, e17, hF⟩ := bindP_use hF
      refine Run.drawV (Ωs := [(false, .box 76 (Rep.iso (fun s : bus_Bus => (s.masters, ())) (Rep.prod (Rep.raw (α := List bus_master) u9) Rep.unit)) u5 y5.2.2), (true, .box 58 (Rep.arr 8 (Rep.arr 8 (Rep.int .i64))) u4 s1.2.1), (true, .box 46 Delivery_.rep u10 y5.1), (false, .oval (oslice 85 3 (fun _ => bus_master.orep)) u9 y5.2.2.masters)]) [⟨some 53, some (.bool s2.1), fun _ => [], fun ds_ u_ => [], [], [], none⟩, ⟨some 54, some (.bool false), fun _ => [], fun ds_ u_ => [], [], [], none⟩, ⟨some 55, some (u3), fun _ => [], fun ds_ u_ => [], [], [], none⟩, ⟨some 56, some (.int .i64 s2.2), fun _ => [], fun ds_ u_ => [], [], [], none⟩, ⟨some 57, some ((padd (sp u3) ((s2.2 : Int).toNat * (Rep.int .i64).n))), fun _ => [], fun ds_ u_ => [], [], [(0, [])], none⟩, ⟨some 58, some (.int .i64 x6), fun _ => [], fun ds_ u_ => [], [], [(0, [])], none⟩, ⟨some 59, some (u2), fun _ => [], fun ds_ u_ => [], [], [], none⟩, ⟨some 60, some (.int .i64 s2.2), fun _ => [], fun ds_ u_ => [], [], [], none⟩, ⟨some 61, none, fun u_ => [(true, .ptr (Rep.slice (Rep.slice (Rep.int .u8))) u_ x7)], fun ds_ u_ => [], [], [], none⟩, ⟨some 62, none, fun u_ => [(true, .val (Rep.slice (Rep.slice (Rep.int .u8))) u_ x7)], fun ds_ u_ => [], [], [], none⟩, ⟨some 63, some (.int .i64 (x7.length : Int)), fun _ => [], fun ds_ u_ => [], [], [], none⟩, ⟨some 64, some (.bool (decide (x6 < (x7.length : Int)))), fun _ => [], fun ds_ u_ => [], [], [], none⟩, ⟨some 65, some (.bool (decide (x6 < (x7.length : Int)))), fun _ => [], fun ds_ u_ => [], [], [], none⟩] [[], [0], [1], [1], [2, 3, 1], [4, 1], [1], [1], [6, 7, 1], [8, 1], [9, 1], [5, 10, 1], [1, 11]] [[(true, .slice 3 (Rep.int .i64) u3 s1.2.2.1)]] [0, 1, 2, 3, 4, 5, 6, 7, 8, 9, 10, 11, 12, 13] Try_mixed rfl rfl rfl h24 (.cons ?_ (.cons ?_ (.cons ?_ (.cons ?_ (.cons ?_ (.cons ?_ (.cons ?_ (.cons ?_ (.cons ?_ (.cons ?_ (.cons ?_ (.cons ?_ (.cons ?_ .nil))))))))))))) (fun q1 w hq2 h => ?_)
      ·intro q1 w Γx Ωx h
       refine OpS.mv rfl rfl rfl ?_
       exact ⟨undef, rfl, trivial, h⟩
      ·intro q1 w Γx Ωx h
       refine OpS.mv rfl rfl rfl ?_
       exact ⟨undef, (congrArg (fun z_ => some (Value.bool z_)) e13), trivial, h⟩
      ·intro q1 w Γx Ωx h
       refine OpS.mv rfl rfl rfl ?_
       exact ⟨undef, rfl, trivial, h⟩
      ·intro q1 w Γx Ωx h
       refine OpS.mv rfl rfl rfl ?_
       exact ⟨undef, rfl, trivial, h⟩
      ·intro q1 w Γx Ωx h
       have h : St e w ([(true, .val (Rep.slice (Rep.slice (Rep.slice (Rep.int .u8)))) u2 y4.2.1)] ++ Γx) ([(true, .slice 3 (Rep.int .i64) u3 s1.2.2.1), (false, .box 76 (Rep.iso (fun s : bus_Bus => (s.masters, ())) (Rep.prod (Rep.raw (α := List bus_master) u9) Rep.unit)) u5 y5.2.2), (true, .box 58 (Rep.arr 8 (Rep.arr 8 (Rep.int .i64))) u4 s1.2.1), (true, .box 46 Delivery_.rep u10 y5.1), (false, .oval (oslice 85 3 (fun _ => bus_master.orep)) u9 y5.2.2.masters)] ++ Ωx) := h
       refine OpS.iown h .z Try.underlying33 ty3 rfl rfl rfl rfl e16 ?_
       exact ⟨undef, rfl, trivial, h⟩
      ·intro q1 w Γx Ωx h
       have h : St e w ([(true, .val (Rep.slice (Rep.slice (Rep.slice (Rep.int .u8)))) u2 y4.2.1)] ++ Γx) ([(true, .slice 3 (Rep.int .i64) u3 s1.2.2.1), (false, .box 76 (Rep.iso (fun s : bus_Bus => (s.masters, ())) (Rep.prod (Rep.raw (α := List bus_master) u9) Rep.unit)) u5 y5.2.2), (true, .box 58 (Rep.arr 8 (Rep.arr 8 (Rep.int .i64))) u4 s1.2.1), (true, .box 46 Delivery_.rep u10 y5.1), (false, .oval (oslice 85 3 (fun _ => bus_master.orep)) u9 y5.2.2.masters)] ++ Ωx) := h
       refine OpS.loadOi h .z (idx_ne e16) PA.a (Get.arr e16) ty3 rfl rfl rfl ?_
       exact ⟨undef, rfl, trivial, h⟩
      ·intro q1 w Γx Ωx h
       refine OpS.mv rfl rfl rfl ?_
       exact ⟨undef, rfl, trivial, h⟩
      ·intro q1 w Γx Ωx h
       refine OpS.mv rfl rfl rfl ?_
       exact ⟨undef, rfl, trivial, h⟩
      ·intro q1 w Γx Ωx h
       refine OpS.iptr h Try.underlying54 ty59 rfl rfl rfl rfl (V.at .z) e17 (fun u h28 => ?_)
       exact ⟨u, rfl, trivial, h28⟩
      ·intro q1 w Γx Ωx h
       refine OpS.load h ty59 rfl rfl rfl .z (fun u h29 => ?_)
       exact ⟨u, rfl, trivial, h29⟩
      ·intro q1 w Γx Ωx h
       refine OpS.len h Try.underlying59 rfl rfl rfl (V.at .z) ?_
       exact ⟨undef, rfl, trivial, h⟩
      ·intro q1 w Γx Ωx h
       refine OpS.bin rfl rfl rfl rfl rfl ?_
       exact ⟨undef, rfl, trivial, h⟩
      ·intro q1 w Γx Ωx h
       refine OpS.pick rfl rfl rfl rfl ?_
       exact ⟨undef, rfl, trivial, h⟩
      have h30 : St e w [(true, .ptr (Rep.slice (Rep.slice (Rep.int .u8))) (q1 8) x7), (true, .val (Rep.slice (Rep.slice (Rep.int .u8))) (q1 9) x7), (true, .val (Rep.slice (Rep.slice (Rep.slice (Rep.int .u8)))) u2 y4.2.1)] [(true, .slice 3 (Rep.int .i64) u3 s1.2.2.1), (false, .box 76 (Rep.iso (fun s : bus_Bus => (s.masters, ())) (Rep.prod (Rep.raw (α := List bus_master) u9) Rep.unit)) u5 y5.2.2), (true, .box 58 (Rep.arr 8 (Rep.arr 8 (Rep.int .i64))) u4 s1.2.1), (true, .box 46 Delivery_.rep u10 y5.1), (false, .oval (oslice 85 3 (fun _ => bus_master.orep)) u9 y5.2.2.masters)] := h
      refine op (OpS.as rfl rfl rfl ?_)
      obtain ⟨x8, e18, hF⟩ := letP_use hF
      refine RunL.nameb e18 ?_
      refine RunL.nil ?_
      refine Run.slim [(14, .bool x8), (5, .int .i64 x1), (6, u5), (7, u2), (9, u3), (10, u4), (11, .int .i64 s1.1), (12, u10), (13, .bool y5.2.1), (15, .int .i64 s2.2)] ⟨rfl, rfl, rfl, rfl, rfl, rfl, rfl, rfl, rfl, rfl, trivial⟩ ?_
      refine Run.endBlock ?_
      refine Run.reg ?_
      refine op (OpS.mv rfl rfl rfl ?_)
      refine op (OpS.bin rfl rfl rfl rfl rfl ?_)
      refine op (OpS.as rfl rfl rfl ?_)
      obtain ⟨x9, e19, hF⟩ := letP_use hF
      refine RunL.name e19 ?_
      refine RunL.nil ?_
      refine Run.slim [(15, .int .i64 x9), (14, .bool x8), (5, .int .i64 x1), (6, u5), (7, u2), (9, u3), (10, u4), (11, .int .i64 s1.1), (12, u10), (13, .bool y5.2.1)] ⟨rfl, rfl, rfl, rfl, rfl, rfl, rfl, rfl, rfl, rfl, trivial⟩ ?_
      refine Run.slim [(5, .int .i64 x1), (6, u5), (7, u2), (9, u3), (10, u4), (11, .int .i64 s1.1), (12, u10), (13, .bool y5.2.1), (14, .bool x8), (15, .int .i64 x9)] ⟨rfl, rfl, rfl, rfl, rfl, rfl, rfl, rfl, rfl, rfl, trivial⟩ ?_
      exact hk2 (x8, x9) _ _ ⟨rfl, (h30.facts (.atm (.s (.s .z)) .nil)).picks (.cons (.s .z) (.cons (.s .z) (.cons (.s .z) (.cons .z (.cons .z .nil)))))⟩ hF
    ·
     refine Run.exit rfl ?_
     refine Run.seq ?_
     refine Run.seq ?_
     refine Run.reg ?_
     refine op (OpS.mv rfl rfl rfl ?_)
     refine op (OpS.mv rfl rfl rfl ?_)
     refine op (OpS.neb Try.underlying4 rfl rfl rfl rfl ?_)
     refine RunL.nil ?_
     refine Run.slim [(68, .bool (y5.2.1 != s2.1)), (5, .int .i64 x1), (6, u5), (7, u2), (9, u3), (10, u4), (11, .int .i64 s1.1), (12, u10), (13, .bool y5.2.1)] ⟨rfl, rfl, rfl, rfl, rfl, rfl, rfl, rfl, rfl, trivial⟩ ?_
     refine Run.ite rfl hF (fun e20 hF => ?_) (fun e20 hF => ?_)
     ·
      refine Run.seq ?_
      refine Run.reg ?_
      refine op (OpS.as rfl rfl rfl ?_)
      refine RunL.nil ?_
      refine Run.slim [(4, .bool false)] ⟨rfl, trivial⟩ ?_
      refine Run.retP rfl (.tmp rfl .nil) ?_
      cases hF
      exact Post.mk' ⟨rfl, rfl, rfl, rfl⟩ (h23.picks .nil) .nil
     ·
      refine Run.skip ?_
      refine Run.seq ?_
      refine Run.seq ?_
      refine Run.reg ?_
      refine op (OpS.mv rfl rfl rfl ?_)
      refine op (OpS.not rfl rfl rfl ?_)
      refine RunL.nil ?_
      refine Run.slim [(70, .bool (!y5.2.1)), (5, .int .i64 x1), (6, u5), (7, u2), (9, u3), (10, u4), (11, .int .i64 s1.1), (12, u10)] ⟨rfl, rfl, rfl, rfl, rfl, rfl, rfl, rfl, trivial⟩ ?_
      refine Run.ite rfl hF (fun e21 hF => ?_) (fun e21 hF => ?_)
      ·
       refine Run.seq ?_
       refine Run.reg ?_
       obtain ⟨y6, e22, hF⟩ := bindP_use hF
       refine op (OpS.callP h23 Try.func10 rfl rfl rfl rfl (vs := []) rfl (law21_awake_ok e22) .nil ?_)
       rintro _ w12 _ _ _ ⟨rfl, rfl, rfl, rfl⟩ h31
       have h32 := h31 rfl rfl
       simp only [List.cons_append, List.nil_append] at h32
       refine op (OpS.as rfl rfl rfl ?_)
       refine RunL.nil ?_
       refine Run.slim [(4, .bool y6)] ⟨rfl, trivial⟩ ?_
       refine Run.retP rfl (.tmp rfl .nil) ?_
       cases hF
       exact Post.mk' ⟨rfl, rfl, rfl, rfl⟩ (h32.picks .nil) .nil
      ·
       refine Run.skip ?_
       refine Run.seq ?_
       refine Run.seq ?_
       refine Run.reg ?_
       refine op (OpS.fbox (o3 := 2) h23 (.s (.s .z)) PA.z fa46_2 rfl rfl rfl rfl ?_)
       refine op (OpS.loadBb h23 (.s (.s .z)) PA.a (Get.fld Delivery_.f2) ty4 rfl rfl rfl ?_)
       refine op (OpS.not rfl rfl rfl ?_)
       refine op (OpS.mv rfl rfl rfl ?_)
       refine RunL.join (σ := Bool) (fun s_ L_ w_ => L_ = [(5, .int .i64 x1), (6, u5), (7, u2), (9, u3), (10, u4), (11, .int .i64 s1.1), (12, u10), (86, .bool s_)] ∧ St e w_ [(true, .val (Rep.slice (Rep.slice (Rep.slice (Rep.int .u8)))) u2 y4.2.1)] [(false, .box 76 (Rep.iso (fun s : bus_Bus => (s.masters, ())) (Rep.prod (Rep.raw (α := List bus_master) u9) Rep.unit)) u5 y5.2.2), (true, .box 58 (Rep.arr 8 (Rep.arr 8 (Rep.int .i64))) u4 s1.2.1), (true, .box 46 Delivery_.rep u10 y5.1), (true, .slice 3 (Rep.int .i64) u3 s1.2.2.1), (false, .oval (oslice 85 3 (fun _ => bus_master.orep)) u9 y5.2.2.masters)]) hF (fun s3 _ w13 hI hF => ?_) (fun j1 hj1 hF => ?_)
       ·
        obtain ⟨rfl, h33⟩ := hI
        refine Run.ite rfl hF (fun e23 hF => ?_) (fun e23 hF => ?_)
        ·
         refine Run.seq ?_
         refine Run.reg ?_
         refine op (OpS.as rfl rfl rfl ?_)
         refine RunL.nil ?_
         refine Run.slim [(4, .bool false)] ⟨rfl, trivial⟩ ?_
         refine Run.retP rfl (.tmp rfl .nil) ?_
         cases hF
         exact Post.mk' ⟨rfl, rfl, rfl, rfl⟩ (h33.picks .nil) .nil
        ·
         refine Run.skip ?_
         refine Run.seq ?_
         refine Run.seq ?_
         refine Run.reg ?_
         refine op (OpS.as rfl rfl rfl ?_)
         refine RunL.nil ?_
         refine Run.slim [(16, .int .i64 0), (5, .int .i64 x1), (6, u5), (7, u2), (9, u3), (10, u4), (11, .int .i64 s1.1), (12, u10)] ⟨rfl, rfl, rfl, rfl, rfl, rfl, rfl, rfl, trivial⟩ ?_
         refine Run.block ?_
         refine Run.slim [(5, .int .i64 x1), (6, u5), (7, u2), (9, u3), (10, u4), (11, .int .i64 s1.1), (12, u10), (16, .int .i64 0)] ⟨rfl, rfl, rfl, rfl, rfl, rfl, rfl, rfl, trivial⟩ ?_
         refine Run.loopP (σ := (Int × (List (List Int)))) (fun s_ L_ w_ => L_ = [(5, .int .i64 x1), (6, u5), (7, u2), (9, u3), (10, u4), (11, .int .i64 s1.1), (12, u10), (16, .int .i64 s_.1)] ∧ St e w_ [(true, .val (Rep.slice (Rep.slice (Rep.slice (Rep.int .u8)))) u2 y4.2.1)] [(false, .box 76 (Rep.iso (fun s : bus_Bus => (s.masters, ())) (Rep.prod (Rep.raw (α := List bus_master) u9) Rep.unit)) u5 y5.2.2), (true, .box 58 (Rep.arr 8 (Rep.arr 8 (Rep.int .i64))) u4 s_.2), (true, .box 46 Delivery_.rep u10 y5.1), (true, .slice 3 (Rep.int .i64) u3 s1.2.2.1), (false, .oval (oslice 85 3 (fun _ => bus_master.orep)) u9 y5.2.2.masters)]) hF ⟨rfl, (h33.facts (.atm .z .nil)).picks (.cons .z (.cons .z (.cons .z (.cons .z (.cons .z .nil)))))⟩ (fun k3 hk3 s4 _ w14 hI hF => ?_)
         obtain ⟨rfl, h34⟩ := hI
         refine Run.seq ?_
         refine Run.seq ?_
         refine Run.reg ?_
         refine op (OpS.mv rfl rfl rfl ?_)
         refine op (OpS.fbox (o3 := 0) h34 (.s (.s .z)) PA.z fa46_0 rfl rfl rfl rfl ?_)
         refine op (OpS.loadB h34 (.s (.s .z)) PA.a (Get.fld Delivery_.f0) ty33 rfl rfl rfl (fun u11 h35 => ?_))
         refine op (OpS.len h35 Try.underlying33 rfl rfl rfl (V.at .z) ?_)
         refine op (OpS.bin rfl rfl rfl rfl rfl ?_)
         refine RunL.nil ?_
         refine Run.slim [(91, .bool (decide (s4.1 < (y5.1.Masters.length : Int)))), (5, .int .i64 x1), (6, u5), (7, u2), (9, u3), (10, u4), (11, .int .i64 s1.1), (12, u10), (16, .int .i64 s4.1)] ⟨rfl, rfl, rfl, rfl, rfl, rfl, rfl, rfl, rfl, trivial⟩ ?_
         refine Run.ite rfl hF (fun e24 hF => ?_) (fun e24 hF => ?_)
         ·
          refine Run.skip ?_
          refine Run.seq ?_
          refine Run.block ?_
          refine Run.seq ?_
          refine Run.reg ?_
          refine op (OpS.fbox (o3 := 0) h35 (.s (.s .z)) PA.z fa46_0 rfl rfl rfl rfl ?_)
          refine op (OpS.loadB h35 (.s (.s .z)) PA.a (Get.fld Delivery_.f0) ty33 rfl rfl rfl (fun u12 h36 => ?_))
          refine op (OpS.mv rfl rfl rfl ?_)
          obtain ⟨x10, e25, hF⟩ := bindP_use hF
          refine op (OpS.iptr h36 Try.underlying33 ty3 rfl rfl rfl rfl (V.at .z) e25 (fun u13 h37 => ?_))
          refine op (OpS.loadi h37 ty3 rfl rfl rfl .z ?_)
          refine op (OpS.as rfl rfl rfl ?_)
          refine RunL.nil ?_
          refine Run.slim [(17, .int .i64 x10), (5, .int .i64 x1), (6, u5), (7, u2), (9, u3), (10, u4), (11, .int .i64 s1.1), (12, u10), (16, .int .i64 s4.1)] ⟨rfl, rfl, rfl, rfl, rfl, rfl, rfl, rfl, rfl, trivial⟩ ?_
          refine Run.seq ?_
          refine Run.seq ?_
          refine Run.join (σ := Bool) (fun s_ L_ w_ => L_ = [(5, .int .i64 x1), (6, u5), (7, u2), (9, u3), (10, u4), (11, .int .i64 s1.1), (12, u10), (16, .int .i64 s4.1), (17, .int .i64 x10), (133, .bool s_)] ∧ St e w_ [(true, .val (Rep.slice (Rep.slice (Rep.slice (Rep.int .u8)))) u2 y4.2.1)] [(false, .box 76 (Rep.iso (fun s : bus_Bus => (s.masters, ())) (Rep.prod (Rep.raw (α := List bus_master) u9) Rep.unit)) u5 y5.2.2), (true, .box 58 (Rep.arr 8 (Rep.arr 8 (Rep.int .i64))) u4 s4.2), (true, .box 46 Delivery_.rep u10 y5.1), (true, .slice 3 (Rep.int .i64) u3 s1.2.2.1), (false, .oval (oslice 85 3 (fun _ => bus_master.orep)) u9 y5.2.2.masters)]) hF (fun s5 _ w15 hI hF => ?_) (fun j2 hj2 hF => ?_)
          ·
           obtain ⟨rfl, h38⟩ := hI
           refine Run.ite rfl hF (fun e26 hF => ?_) (fun e26 hF => ?_)
           ·
            refine Run.seq ?_
            refine Run.reg ?_
            refine op (OpS.as rfl rfl rfl ?_)
            refine RunL.nil ?_
            refine Run.slim [(4, .bool false)] ⟨rfl, trivial⟩ ?_
            refine Run.retP rfl (.tmp rfl .nil) ?_
            cases hF
            exact Post.mk' ⟨rfl, rfl, rfl, rfl⟩ (h38.picks .nil) .nil
           ·
            refine Run.skip ?_
            refine Run.seq ?_
            refine Run.reg ?_
            refine op (OpS.as rfl rfl rfl ?_)
            refine RunL.nil ?_
            refine Run.slim [(18, .int .i64 0), (5, .int .i64 x1), (6, u5), (7, u2), (9, u3), (10, u4), (11, .int .i64 s1.1), (12, u10), (16, .int .i64 s4.1), (17, .int .i64 x10)] ⟨rfl, rfl, rfl, rfl, rfl, rfl, rfl, rfl, rfl, rfl, trivial⟩ ?_
            refine Run.block ?_
            refine Run.slim [(5, .int .i64 x1), (6, u5), (7, u2), (9, u3), (10, u4), (11, .int .i64 s1.1), (12, u10), (16, .int .i64 s4.1), (17, .int .i64 x10), (18, .int .i64 0)] ⟨rfl, rfl, rfl, rfl, rfl, rfl, rfl, rfl, rfl, rfl, trivial⟩ ?_
            refine Run.loopP (σ := (Int × (List (List Int)))) (fun s_ L_ w_ => L_ = [(5, .int .i64 x1), (6, u5), (7, u2), (9, u3), (10, u4), (11, .int .i64 s1.1), (12, u10), (16, .int .i64 s4.1), (17, .int .i64 x10), (18, .int .i64 s_.1)] ∧ St e w_ [(true, .val (Rep.slice (Rep.slice (Rep.slice (Rep.int .u8)))) u2 y4.2.1)] [(false, .box 76 (Rep.iso (fun s : bus_Bus => (s.masters, ())) (Rep.prod (Rep.raw (α := List bus_master) u9) Rep.unit)) u5 y5.2.2), (true, .box 58 (Rep.arr 8 (Rep.arr 8 (Rep.int .i64))) u4 s_.2), (true, .box 46 Delivery_.rep u10 y5.1), (true, .slice 3 (Rep.int .i64) u3 s1.2.2.1), (false, .oval (oslice 85 3 (fun _ => bus_master.orep)) u9 y5.2.2.masters)]) hF ⟨rfl, (h38.facts (.atm .z .nil)).picks (.cons .z (.cons .z (.cons .z (.cons .z (.cons .z .nil)))))⟩ (fun k4 hk4 s6 _ w16 hI hF => ?_)
            obtain ⟨rfl, h39⟩ := hI
            refine Run.seq ?_
            refine Run.seq ?_
            refine Run.reg ?_
            refine op (OpS.mv rfl rfl rfl ?_)
            refine op (OpS.mv rfl rfl rfl ?_)
            refine op (OpS.bin rfl rfl rfl rfl rfl ?_)
            refine RunL.nil ?_
            refine Run.slim [(136, .bool (decide (s6.1 < x1))), (5, .int .i64 x1), (6, u5), (7, u2), (9, u3), (10, u4), (11, .int .i64 s1.1), (12, u10), (16, .int .i64 s4.1), (17, .int .i64 x10), (18, .int .i64 s6.1)] ⟨rfl, rfl, rfl, rfl, rfl, rfl, rfl, rfl, rfl, rfl, rfl, trivial⟩ ?_
            refine Run.ite rfl hF (fun e27 hF => ?_) (fun e27 hF => ?_)
            ·
             refine Run.skip ?_
             refine Run.seq ?_
             refine Run.block ?_
             refine Run.seq ?_
             have h40 := h39.picks (.cons (.s .z) (.cons .z (.cons .z (.cons .z (.cons .z .nil)))))
             obtain ⟨x11, e28, hF⟩ := bindP_use hF
             obtain ⟨e29, hF⟩ := chk_use hF
             obtain ⟨x12, e30, hF⟩ := bindP_use hF
             obtain ⟨e31, hF⟩ := chk_use hF
             obtain ⟨x13, e32, hF⟩ := bindP_use hF
             obtain ⟨e33, hF⟩ := chk_use hF
             refine Run.drawV (Ωs := [(false, .box 76 (Rep.iso (fun s : bus_Bus => (s.masters, ())) (Rep.prod (Rep.raw (α := List bus_master) u9) Rep.unit)) u5 y5.2.2), (true, .box 46 Delivery_.rep u10 y5.1), (true, .slice 3 (Rep.int .i64) u3 s1.2.2.1), (false, .oval (oslice 85 3 (fun _ => bus_master.orep)) u9 y5.2.2.masters)]) [⟨some 139, some (.int .i64 s6.1), fun _ => [], fun ds_ u_ => [], [], [], none⟩, ⟨some 140, some (.int .i64 x10), fun _ => [], fun ds_ u_ => [], [], [], none⟩, ⟨some 141, some ((padd u4 (0 + (s6.1 : Int).toNat * (Rep.arr 8 (Rep.int .i64)).n))), fun _ => [], fun ds_ u_ => [], [], [(0, [])], none⟩, ⟨some 142, some ((padd u4 (0 + (s6.1 : Int).toNat * (Rep.arr 8 (Rep.int .i64)).n + (x10 : Int).toNat * (Rep.int .i64).n))), fun _ => [], fun ds_ u_ => [], [], [(0, [])], none⟩, ⟨some 143, some (.int .i64 x12), fun _ => [], fun ds_ u_ => [], [], [(0, [])], none⟩, ⟨some 144, some (.int .i64 (IntKind.i64.wrap (x12 + 1))), fun _ => [], fun ds_ u_ => [], [], [], none⟩, ⟨some 145, some ((padd u4 (0 + (s6.1 : Int).toNat * (Rep.arr 8 (Rep.int .i64)).n))), fun _ => [], fun ds_ u_ => [], [], [(0, [])], none⟩] [[], [], [0], [2, 1], [3], [4], [0]] [[(true, .box 58 (Rep.arr 8 (Rep.arr 8 (Rep.int .i64))) u4 s6.2)]] [0, 1, 2, 3, 4, 5, 6, 7] Try_mixed rfl rfl rfl h40 (.cons ?_ (.cons ?_ (.cons ?_ (.cons ?_ (.cons ?_ (.cons ?_ (.cons ?_ .nil))))))) (fun q2 w hq3 h => ?_)
             ·intro q2 w Γx Ωx h
              refine OpS.mv rfl rfl rfl ?_
              exact ⟨undef, rfl, trivial, h⟩
             ·intro q2 w Γx Ωx h
              refine OpS.mv rfl rfl rfl ?_
              exact ⟨undef, rfl, trivial, h⟩
             ·intro q2 w Γx Ωx h
              have h : St e w ([(true, .val (Rep.slice (Rep.slice (Rep.slice (Rep.int .u8)))) u2 y4.2.1)] ++ Γx) ([(true, .box 58 (Rep.arr 8 (Rep.arr 8 (Rep.int .i64))) u4 s6.2), (false, .box 76 (Rep.iso (fun s : bus_Bus => (s.masters, ())) (Rep.prod (Rep.raw (α := List bus_master) u9) Rep.unit)) u5 y5.2.2), (true, .box 46 Delivery_.rep u10 y5.1), (true, .slice 3 (Rep.int .i64) u3 s1.2.2.1), (false, .oval (oslice 85 3 (fun _ => bus_master.orep)) u9 y5.2.2.masters)] ++ Ωx) := h
              refine OpS.ibox h .z PA.z Try.underlying58 ty57 (Nat.eq_of_beq_eq_true e29) rfl rfl rfl rfl e28 ?_
              exact ⟨undef, rfl, trivial, h⟩
             ·intro q2 w Γx Ωx h
              have h : St e w ([(true, .val (Rep.slice (Rep.slice (Rep.slice (Rep.int .u8)))) u2 y4.2.1)] ++ Γx) ([(true, .box 58 (Rep.arr 8 (Rep.arr 8 (Rep.int .i64))) u4 s6.2), (false, .box 76 (Rep.iso (fun s : bus_Bus => (s.masters, ())) (Rep.prod (Rep.raw (α := List bus_master) u9) Rep.unit)) u5 y5.2.2), (true, .box 46 Delivery_.rep u10 y5.1), (true, .slice 3 (Rep.int .i64) u3 s1.2.2.1), (false, .oval (oslice 85 3 (fun _ => bus_master.orep)) u9 y5.2.2.masters)] ++ Ωx) := h
              refine OpS.ibox h .z PA.a Try.underlying57 ty3 (Nat.eq_of_beq_eq_true e31) rfl rfl rfl rfl e30 ?_
              exact ⟨undef, rfl, trivial, h⟩
             ·intro q2 w Γx Ωx h
              have h : St e w ([(true, .val (Rep.slice (Rep.slice (Rep.slice (Rep.int .u8)))) u2 y4.2.1)] ++ Γx) ([(true, .box 58 (Rep.arr 8 (Rep.arr 8 (Rep.int .i64))) u4 s6.2), (false, .box 76 (Rep.iso (fun s : bus_Bus => (s.masters, ())) (Rep.prod (Rep.raw (α := List bus_master) u9) Rep.unit)) u5 y5.2.2), (true, .box 46 Delivery_.rep u10 y5.1), (true, .slice 3 (Rep.int .i64) u3 s1.2.2.1), (false, .oval (oslice 85 3 (fun _ => bus_master.orep)) u9 y5.2.2.masters)] ++ Ωx) := h
              refine OpS.loadBi h .z PA.a (Get.comp (Get.comp Get.id (Get.arr e28)) (Get.arr e30)) ty3 rfl rfl rfl ?_
              exact ⟨undef, rfl, trivial, h⟩
             ·intro q2 w Γx Ωx h
              refine OpS.bin rfl rfl rfl rfl rfl ?_
              exact ⟨undef, rfl, trivial, h⟩
             ·intro q2 w Γx Ωx h
              have h : St e w ([(true, .val (Rep.slice (Rep.slice (Rep.slice (Rep.int .u8)))) u2 y4.2.1)] ++ Γx) ([(true, .box 58 (Rep.arr 8 (Rep.arr 8 (Rep.int .i64))) u4 s6.2), (false, .box 76 (Rep.iso (fun s : bus_Bus => (s.masters, ())) (Rep.prod (Rep.raw (α := List bus_master) u9) Rep.unit)) u5 y5.2.2), (true, .box 46 Delivery_.rep u10 y5.1), (true, .slice 3 (Rep.int .i64) u3 s1.2.2.1), (false, .oval (oslice 85 3 (fun _ => bus_master.orep)) u9 y5.2.2.masters)] ++ Ωx) := h
              refine OpS.ibox h .z PA.z Try.underlying58 ty57 (Nat.eq_of_beq_eq_true e33) rfl rfl rfl rfl e32 ?_
              exact ⟨undef, rfl, trivial, h⟩
             have h41 : St e w [(true, .val (Rep.slice (Rep.slice (Rep.slice (Rep.int .u8)))) u2 y4.2.1)] [(true, .box 58 (Rep.arr 8 (Rep.arr 8 (Rep.int .i64))) u4 s6.2), (false, .box 76 (Rep.iso (fun s : bus_Bus => (s.masters, ())) (Rep.prod (Rep.raw (α := List bus_master) u9) Rep.unit)) u5 y5.2.2), (true, .box 46 Delivery_.rep u10 y5.1), (true, .slice 3 (Rep.int .i64) u3 s1.2.2.1), (false, .oval (oslice 85 3 (fun _ => bus_master.orep)) u9 y5.2.2.masters)] := h
             obtain ⟨x14, e34, hF⟩ := bindP_use hF
             obtain ⟨e35, hF⟩ := chk_use hF
             refine op (OpS.ibox h41 .z PA.a Try.underlying57 ty3 (Nat.eq_of_beq_eq_true e35) rfl rfl rfl rfl e34 ?_)
             obtain ⟨d1, e36, hF⟩ := letP_use hF
             refine op (OpS.storeB (f' := true) h41 .z PA.a (Put.of (Put.comp (Get.comp Get.id (Get.arr e32)) (Put.arr e34) (Put.comp Get.id (Put.arr e32) Put.id)) e36) ty3 rfl rfl rfl V.int (.inl rfl) (fun w17 h42 => ?_))
             refine RunL.nil ?_
             refine Run.slim [(5, .int .i64 x1), (6, u5), (7, u2), (9, u3), (10, u4), (11, .int .i64 s1.1), (12, u10), (16, .int .i64 s4.1), (17, .int .i64 x10), (18, .int .i64 s6.1)] ⟨rfl, rfl, rfl, rfl, rfl, rfl, rfl, rfl, rfl, rfl, trivial⟩ ?_
             refine Run.seq ?_
             refine Run.join (σ := Bool) (fun s_ L_ w_ => L_ = [(5, .int .i64 x1), (6, u5), (7, u2), (9, u3), (10, u4), (11, .int .i64 s1.1), (12, u10), (16, .int .i64 s4.1), (17, .int .i64 x10), (18, .int .i64 s6.1), (171, .bool s_)] ∧ St e w_ [(true, .val (Rep.slice (Rep.slice (Rep.slice (Rep.int .u8)))) u2 y4.2.1)] [(false, .box 76 (Rep.iso (fun s : bus_Bus => (s.masters, ())) (Rep.prod (Rep.raw (α := List bus_master) u9) Rep.unit)) u5 y5.2.2), (true, .box 58 (Rep.arr 8 (Rep.arr 8 (Rep.int .i64))) u4 d1), (true, .box 46 Delivery_.rep u10 y5.1), (true, .slice 3 (Rep.int .i64) u3 s1.2.2.1), (false, .oval (oslice 85 3 (fun _ => bus_master.orep)) u9 y5.2.2.masters)]) hF (fun s7 _ w18 hI hF => ?_) (fun j3 hj3 hF => ?_)
             ·
              obtain ⟨rfl, h43⟩ := hI
              refine Run.ite rfl hF (fun e37 hF => ?_) (fun e37 hF => ?_)
              ·
               refine Run.seq ?_
               refine Run.reg ?_
               refine op (OpS.as rfl rfl rfl ?_)
               refine RunL.nil ?_
               refine Run.slim [(4, .bool false)] ⟨rfl, trivial⟩ ?_
               refine Run.retP rfl (.tmp rfl .nil) ?_
               cases hF
               exact Post.mk' ⟨rfl, rfl, rfl, rfl⟩ (h43.picks .nil) .nil
              ·
               refine Run.skip ?_
               refine Run.endBlock ?_
               refine Run.reg ?_
               refine op (OpS.mv rfl rfl rfl ?_)
               refine op (OpS.bin rfl rfl rfl rfl rfl ?_)
               refine op (OpS.as rfl rfl rfl ?_)
               obtain ⟨x15, e38, hF⟩ := letP_use hF
               refine RunL.name e38 ?_
               refine RunL.nil ?_
               refine Run.slim [(18, .int .i64 x15), (5, .int .i64 x1), (6, u5), (7, u2), (9, u3), (10, u4), (11, .int .i64 s1.1), (12, u10), (16, .int .i64 s4.1), (17, .int .i64 x10)] ⟨rfl, rfl, rfl, rfl, rfl, rfl, rfl, rfl, rfl, rfl, trivial⟩ ?_
               refine Run.slim [(5, .int .i64 x1), (6, u5), (7, u2), (9, u3), (10, u4), (11, .int .i64 s1.1), (12, u10), (16, .int .i64 s4.1), (17, .int .i64 x10), (18, .int .i64 x15)] ⟨rfl, rfl, rfl, rfl, rfl, rfl, rfl, rfl, rfl, rfl, trivial⟩ ?_
               exact hk4 (x15, d1) _ _ ⟨rfl, (h43.facts (.atm .z .nil)).picks (.cons .z (.cons .z (.cons .z (.cons .z (.cons .z .nil)))))⟩ hF
             ·
              have h44 := h42.picks (.cons .z (.cons (.s .z) (.cons (.s .z) (.cons .z (.cons .z .nil)))))
              obtain ⟨x16, e39, hF⟩ := bindP_use hF
              obtain ⟨e40, hF⟩ := chk_use hF
              obtain ⟨x17, e41, hF⟩ := bindP_use hF
              obtain ⟨e42, hF⟩ := chk_use hF
              obtain ⟨x18, e43, hF⟩ := letP_use hF
              refine iteP_use hF (fun e44 hF => ?_) (fun e44 hF => ?_)
              ·
               have hG := hF
               subst e44
               have hF := hG
               obtain ⟨x19, e45, hF⟩ := bindP_use hF
               obtain ⟨x20, e46, hF⟩ := bindP_use hF
               obtain ⟨x21, e47, hF⟩ := letP_use hF
               refine iteP_use hF (fun e48 hF => ?_) (fun e48 hF => ?_)
               ·
                have hG := hF
                subst e48
                have hF := hG
                obtain ⟨y7, e49, hF⟩ := bindP_use hF
                refine Run.drawV (Ωs := [(false, .box 76 (Rep.iso (fun s : bus_Bus => (s.masters, ())) (Rep.prod (Rep.raw (α := List bus_master) u9) Rep.unit)) u5 y5.2.2), (false, .oval (oslice 85 3 (fun _ => bus_master.orep)) u9 y5.2.2.masters)]) [⟨some 147, some (.int .i64 s6.1), fun _ => [], fun ds_ u_ => [], [], [], none⟩, ⟨some 148, some (.int .i64 x10), fun _ => [], fun ds_ u_ => [], [], [], none⟩, ⟨some 149, some ((padd u4 (0 + (s6.1 : Int).toNat * (Rep.arr 8 (Rep.int .i64)).n))), fun _ => [], fun ds_ u_ => [], [], [(0, [])], none⟩, ⟨some 150, some ((padd u4 (0 + (s6.1 : Int).toNat * (Rep.arr 8 (Rep.int .i64)).n + (x10 : Int).toNat * (Rep.int .i64).n))), fun _ => [], fun ds_ u_ => [], [], [(0, [])], none⟩, ⟨some 151, some (.int .i64 x17), fun _ => [], fun ds_ u_ => [], [], [(0, [])], none⟩, ⟨some 152, some (.bool (decide (x17 > 2))), fun _ => [], fun ds_ u_ => [], [], [], none⟩, ⟨some 153, some (.bool true), fun _ => [], fun ds_ u_ => [], [], [], none⟩, ⟨some 154, some (u3), fun _ => [], fun ds_ u_ => [], [], [], none⟩, ⟨some 155, some (.int .i64 s6.1), fun _ => [], fun ds_ u_ => [], [], [], none⟩, ⟨some 156, some ((padd (sp u3) ((s6.1 : Int).toNat * (Rep.int .i64).n))), fun _ => [], fun ds_ u_ => [], [], [(2, [])], none⟩, ⟨some 157, some (.int .i64 x19), fun _ => [], fun ds_ u_ => [], [], [(2, [])], none⟩, ⟨some 158, some (u2), fun _ => [], fun ds_ u_ => [], [], [], none⟩, ⟨some 159, some (.int .i64 s6.1), fun _ => [], fun ds_ u_ => [], [], [], none⟩, ⟨some 160, none, fun u_ => [(true, .ptr (Rep.slice (Rep.slice (Rep.int .u8))) u_ x20)], fun ds_ u_ => [], [], [], none⟩, ⟨some 161, none, fun u_ => [(true, .val (Rep.slice (Rep.slice (Rep.int .u8))) u_ x20)], fun ds_ u_ => [], [], [], none⟩, ⟨some 162, some (.int .i64 (x20.length : Int)), fun _ => [], fun ds_ u_ => [], [], [], none⟩, ⟨some 163, some (.bool (decide (x19 < (x20.length : Int)))), fun _ => [], fun ds_ u_ => [], [], [], none⟩, ⟨some 164, some (.bool (decide (x19 < (x20.length : Int)))), fun _ => [], fun ds_ u_ => [], [], [], none⟩, ⟨some 165, some (.bool true), fun _ => [], fun ds_ u_ => [], [], [], none⟩, ⟨some 166, some ((padd u10 0)), fun _ => [], fun ds_ u_ => [], [], [(1, [])], none⟩, ⟨some 167, none, fun u_ => [(true, .val (Rep.slice (Rep.int .i64)) u_ y5.1.Masters)], fun ds_ u_ => [], [], [(1, [])], none⟩, ⟨some 168, some (.int .i64 s6.1), fun _ => [], fun ds_ u_ => [], [], [], none⟩, ⟨some 169, some (.bool y7), fun _ => [], fun ds_ u_ => [], [], [], none⟩, ⟨some 170, some (.bool (!y7)), fun _ => [], fun ds_ u_ => [], [], [], none⟩, ⟨some 171, some (.bool (!y7)), fun _ => [], fun ds_ u_ => [], [], [], none⟩] [[], [], [0], [2, 1], [3], [4], [5], [6], [6], [7, 8, 6], [9, 6], [6], [6], [11, 12, 6], [13, 6], [14, 6], [10, 15, 6], [6, 16], [17], [18], [19, 18], [18], [20, 21, 18], [22, 18], [18, 23]] [[(true, .box 58 (Rep.arr 8 (Rep.arr 8 (Rep.int .i64))) u4 d1)], [(true, .box 46 Delivery_.rep u10 y5.1)], [(true, .slice 3 (Rep.int .i64) u3 s1.2.2.1)]] [0, 1, 2, 3, 4, 5, 6, 7, 8, 9, 10, 11, 12, 13, 14, 15, 16, 17, 18, 19, 20, 21, 22, 23, 24, 25, 26, 27] Try_mixed rfl rfl rfl h44 (.cons ?_ (.cons ?_ (.cons ?_ (.cons ?_ (.cons ?_ (.cons ?_ (.cons ?_ (.cons ?_ (.cons ?_ (.cons ?_ (.cons ?_ (.cons ?_ (.cons ?_ (.cons ?_ (.cons ?_ (.cons ?_ (.cons ?_ (.cons ?_ (.cons ?_ (.cons ?_ (.cons ?_ (.cons ?_ (.cons ?_ (.cons ?_ (.cons ?_ .nil))))))))))))))))))))))))) (fun q3 w hq4 h => ?_)
                ·intro q3 w Γx Ωx h
                 refine OpS.mv rfl rfl rfl ?_
                 exact ⟨undef, rfl, trivial, h⟩
                ·intro q3 w Γx Ωx h
                 refine OpS.mv rfl rfl rfl ?_
                 exact ⟨undef, rfl, trivial, h⟩
                ·intro q3 w Γx Ωx h
                 have h : St e w ([(true, .val (Rep.slice (Rep.slice (Rep.slice (Rep.int .u8)))) u2 y4.2.1)] ++ Γx) ([(true, .box 58 (Rep.arr 8 (Rep.arr 8 (Rep.int .i64))) u4 d1), (false, .box 76 (Rep.iso (fun s : bus_Bus => (s.masters, ())) (Rep.prod (Rep.raw (α := List bus_master) u9) Rep.unit)) u5 y5.2.2), (false, .oval (oslice 85 3 (fun _ => bus_master.orep)) u9 y5.2.2.masters)] ++ Ωx) := h
                 refine OpS.ibox h .z PA.z Try.underlying58 ty57 (Nat.eq_of_beq_eq_true e40) rfl rfl rfl rfl e39 ?_
                 exact ⟨undef, rfl, trivial, h⟩
                ·intro q3 w Γx Ωx h
                 have h : St e w ([(true, .val (Rep.slice (Rep.slice (Rep.slice (Rep.int .u8)))) u2 y4.2.1)] ++ Γx) ([(true, .box 58 (Rep.arr 8 (Rep.arr 8 (Rep.int .i64))) u4 d1), (false, .box 76 (Rep.iso (fun s : bus_Bus => (s.masters, ())) (Rep.prod (Rep.raw (α := List bus_master) u9) Rep.unit)) u5 y5.2.2), (false, .oval (oslice 85 3 (fun _ => bus_master.orep)) u9 y5.2.2.masters)] ++ Ωx) := h
                 refine OpS.ibox h .z PA.a Try.underlying57 ty3 (Nat.eq_of_beq_eq_true e42) rfl rfl rfl rfl e41 ?_
                 exact ⟨undef, rfl, trivial, h⟩
                ·intro q3 w Γx Ωx h
                 have h : St e w ([(true, .val (Rep.slice (Rep.slice (Rep.slice (Rep.int .u8)))) u2 y4.2.1)] ++ Γx) ([(true, .box 58 (Rep.arr 8 (Rep.arr 8 (Rep.int .i64))) u4 d1), (false, .box 76 (Rep.iso (fun s : bus_Bus => (s.masters, ())) (Rep.prod (Rep.raw (α := List bus_master) u9) Rep.unit)) u5 y5.2.2), (false, .oval (oslice 85 3 (fun _ => bus_master.orep)) u9 y5.2.2.masters)] ++ Ωx) := h
                 refine OpS.loadBi h .z PA.a (Get.comp (Get.comp Get.id (Get.arr e39)) (Get.arr e41)) ty3 rfl rfl rfl ?_
                 exact ⟨undef, rfl, trivial, h⟩
                ·intro q3 w Γx Ωx h
                 refine OpS.bin rfl rfl rfl rfl rfl ?_
                 exact ⟨undef, rfl, trivial, h⟩
                ·intro q3 w Γx Ωx h
                 refine OpS.mv rfl rfl rfl ?_
                 exact ⟨undef, (congrArg (fun z_ => some (Value.bool z_)) e43), trivial, h⟩
                ·intro q3 w Γx Ωx h
                 refine OpS.mv rfl rfl rfl ?_
                 exact ⟨undef, rfl, trivial, h⟩
                ·intro q3 w Γx Ωx h
                 refine OpS.mv rfl rfl rfl ?_
                 exact ⟨undef, rfl, trivial, h⟩
                ·intro q3 w Γx Ωx h
                 have h : St e w ([(true, .val (Rep.slice (Rep.slice (Rep.slice (Rep.int .u8)))) u2 y4.2.1)] ++ Γx) ([(true, .slice 3 (Rep.int .i64) u3 s1.2.2.1), (false, .box 76 (Rep.iso (fun s : bus_Bus => (s.masters, ())) (Rep.prod (Rep.raw (α := List bus_master) u9) Rep.unit)) u5 y5.2.2), (false, .oval (oslice 85 3 (fun _ => bus_master.orep)) u9 y5.2.2.masters)] ++ Ωx) := h
                 refine OpS.iown h .z Try.underlying33 ty3 rfl rfl rfl rfl e45 ?_
                 exact ⟨undef, rfl, trivial, h⟩
                ·intro q3 w Γx Ωx h
                 have h : St e w ([(true, .val (Rep.slice (Rep.slice (Rep.slice (Rep.int .u8)))) u2 y4.2.1)] ++ Γx) ([(true, .slice 3 (Rep.int .i64) u3 s1.2.2.1), (false, .box 76 (Rep.iso (fun s : bus_Bus => (s.masters, ())) (Rep.prod (Rep.raw (α := List bus_master) u9) Rep.unit)) u5 y5.2.2), (false, .oval (oslice 85 3 (fun _ => bus_master.orep)) u9 y5.2.2.masters)] ++ Ωx) := h
                 refine OpS.loadOi h .z (idx_ne e45) PA.a (Get.arr e45) ty3 rfl rfl rfl ?_
                 exact ⟨undef, rfl, trivial, h⟩
                ·intro q3 w Γx Ωx h
                 refine OpS.mv rfl rfl rfl ?_
                 exact ⟨undef, rfl, trivial, h⟩
                ·intro q3 w Γx Ωx h
                 refine OpS.mv rfl rfl rfl ?_
                 exact ⟨undef, rfl, trivial, h⟩
                ·intro q3 w Γx Ωx h
                 refine OpS.iptr h Try.underlying54 ty59 rfl rfl rfl rfl (V.at .z) e46 (fun u h50 => ?_)
                 exact ⟨u, rfl, trivial, h50⟩
                ·intro q3 w Γx Ωx h
                 refine OpS.load h ty59 rfl rfl rfl .z (fun u h51 => ?_)
                 exact ⟨u, rfl, trivial, h51⟩
                ·intro q3 w Γx Ωx h
                 refine OpS.len h Try.underlying59 rfl rfl rfl (V.at .z) ?_
                 exact ⟨undef, rfl, trivial, h⟩
                ·intro q3 w Γx Ωx h
                 refine OpS.bin rfl rfl rfl rfl rfl ?_
                 exact ⟨undef, rfl, trivial, h⟩
                ·intro q3 w Γx Ωx h
                 refine OpS.pick rfl rfl rfl rfl ?_
                 exact ⟨undef, rfl, trivial, h⟩
                ·intro q3 w Γx Ωx h
                 refine OpS.mv rfl rfl rfl ?_
                 exact ⟨undef, (congrArg (fun z_ => some (Value.bool z_)) e47), trivial, h⟩
                ·intro q3 w Γx Ωx h
                 have h : St e w ([(true, .val (Rep.slice (Rep.slice (Rep.slice (Rep.int .u8)))) u2 y4.2.1)] ++ Γx) ([(true, .box 46 Delivery_.rep u10 y5.1), (false, .box 76 (Rep.iso (fun s : bus_Bus => (s.masters, ())) (Rep.prod (Rep.raw (α := List bus_master) u9) Rep.unit)) u5 y5.2.2), (false, .oval (oslice 85 3 (fun _ => bus_master.orep)) u9 y5.2.2.masters)] ++ Ωx) := h
                 refine OpS.fbox (o3 := 0) h .z PA.z fa46_0 rfl rfl rfl rfl ?_
                 exact ⟨undef, rfl, trivial, h⟩
                ·intro q3 w Γx Ωx h
                 have h : St e w ([(true, .val (Rep.slice (Rep.slice (Rep.slice (Rep.int .u8)))) u2 y4.2.1)] ++ Γx) ([(true, .box 46 Delivery_.rep u10 y5.1), (false, .box 76 (Rep.iso (fun s : bus_Bus => (s.masters, ())) (Rep.prod (Rep.raw (α := List bus_master) u9) Rep.unit)) u5 y5.2.2), (false, .oval (oslice 85 3 (fun _ => bus_master.orep)) u9 y5.2.2.masters)] ++ Ωx) := h
                 refine OpS.loadB h .z PA.a (Get.fld Delivery_.f0) ty33 rfl rfl rfl (fun u h52 => ?_)
                 exact ⟨u, rfl, trivial, h52⟩
                ·intro q3 w Γx Ωx h
                 refine OpS.mv rfl rfl rfl ?_
                 exact ⟨undef, rfl, trivial, h⟩
                ·intro q3 w Γx Ωx h
                 refine OpS.callP h Try.func27 rfl rfl rfl rfl (vs := [(q3 20), .int .i64 s6.1]) rfl (law21_among_ok e49) (.cons (f := true) (V.at .z) .nil) ?_
                 rintro _ w20 _ _ _ ⟨rfl, rfl, rfl, rfl⟩ h53
                 have h54 := h53 rfl rfl
                 simp only [List.cons_append, List.nil_append] at h54
                 exact ⟨undef, rfl, trivial, h54⟩
                ·intro q3 w Γx Ωx h
                 refine OpS.not rfl rfl rfl ?_
                 exact ⟨undef, rfl, trivial, h⟩
                ·intro q3 w Γx Ωx h
                 refine OpS.pick rfl rfl rfl rfl ?_
                 exact ⟨undef, rfl, trivial, h⟩
                have h55 : St e w [(true, .ptr (Rep.slice (Rep.slice (Rep.int .u8))) (q3 13) x20), (true, .val (Rep.slice (Rep.slice (Rep.int .u8))) (q3 14) x20), (true, .val (Rep.slice (Rep.int .i64)) (q3 20) y5.1.Masters), (true, .val (Rep.slice (Rep.slice (Rep.slice (Rep.int .u8)))) u2 y4.2.1)] [(true, .box 58 (Rep.arr 8 (Rep.arr 8 (Rep.int .i64))) u4 d1), (true, .box 46 Delivery_.rep u10 y5.1), (true, .slice 3 (Rep.int .i64) u3 s1.2.2.1), (false, .box 76 (Rep.iso (fun s : bus_Bus => (s.masters, ())) (Rep.prod (Rep.raw (α := List bus_master) u9) Rep.unit)) u5 y5.2.2), (false, .oval (oslice 85 3 (fun _ => bus_master.orep)) u9 y5.2.2.masters)] := h
                refine RunL.nil ?_
                refine Run.slim [(171, .bool (!y7)), (5, .int .i64 x1), (6, u5), (7, u2), (9, u3), (10, u4), (11, .int .i64 s1.1), (12, u10), (16, .int .i64 s4.1), (17, .int .i64 x10), (18, .int .i64 s6.1)] ⟨rfl, rfl, rfl, rfl, rfl, rfl, rfl, rfl, rfl, rfl, rfl, trivial⟩ ?_
                refine Run.slim [(5, .int .i64 x1), (6, u5), (7, u2), (9, u3), (10, u4), (11, .int .i64 s1.1), (12, u10), (16, .int .i64 s4.1), (17, .int .i64 x10), (18, .int .i64 s6.1), (171, .bool (!y7))] ⟨rfl, rfl, rfl, rfl, rfl, rfl, rfl, rfl, rfl, rfl, rfl, trivial⟩ ?_
                exact hj3 (!y7) _ _ ⟨rfl, (h55.facts (.atm (.s (.s (.s .z))) .nil)).picks (.cons (.s (.s (.s .z))) (.cons .z (.cons .z (.cons .z (.cons .z .nil)))))⟩ hF
               ·
                have hG := hF
                subst e48
                have hF := hG
                refine Run.drawV (Ωs := [(false, .box 76 (Rep.iso (fun s : bus_Bus => (s.masters, ())) (Rep.prod (Rep.raw (α := List bus_master) u9) Rep.unit)) u5 y5.2.2), (false, .oval (oslice 85 3 (fun _ => bus_master.orep)) u9 y5.2.2.masters)]) [⟨some 147, some (.int .i64 s6.1), fun _ => [], fun ds_ u_ => [], [], [], none⟩, ⟨some 148, some (.int .i64 x10), fun _ => [], fun ds_ u_ => [], [], [], none⟩, ⟨some 149, some ((padd u4 (0 + (s6.1 : Int).toNat * (Rep.arr 8 (Rep.int .i64)).n))), fun _ => [], fun ds_ u_ => [], [], [(0, [])], none⟩, ⟨some 150, some ((padd u4 (0 + (s6.1 : Int).toNat * (Rep.arr 8 (Rep.int .i64)).n + (x10 : Int).toNat * (Rep.int .i64).n))), fun _ => [], fun ds_ u_ => [], [], [(0, [])], none⟩, ⟨some 151, some (.int .i64 x17), fun _ => [], fun ds_ u_ => [], [], [(0, [])], none⟩, ⟨some 152, some (.bool (decide (x17 > 2))), fun _ => [], fun ds_ u_ => [], [], [], none⟩, ⟨some 153, some (.bool true), fun _ => [], fun ds_ u_ => [], [], [], none⟩, ⟨some 154, some (u3), fun _ => [], fun ds_ u_ => [], [], [], none⟩, ⟨some 155, some (.int .i64 s6.1), fun _ => [], fun ds_ u_ => [], [], [], none⟩, ⟨some 156, some ((padd (sp u3) ((s6.1 : Int).toNat * (Rep.int .i64).n))), fun _ => [], fun ds_ u_ => [], [], [(2, [])], none⟩, ⟨some 157, some (.int .i64 x19), fun _ => [], fun ds_ u_ => [], [], [(2, [])], none⟩, ⟨some 158, some (u2), fun _ => [], fun ds_ u_ => [], [], [], none⟩, ⟨some 159, some (.int .i64 s6.1), fun _ => [], fun ds_ u_ => [], [], [], none⟩, ⟨some 160, none, fun u_ => [(true, .ptr (Rep.slice (Rep.slice (Rep.int .u8))) u_ x20)], fun ds_ u_ => [], [], [], none⟩, ⟨some 161, none, fun u_ => [(true, .val (Rep.slice (Rep.slice (Rep.int .u8))) u_ x20)], fun ds_ u_ => [], [], [], none⟩, ⟨some 162, some (.int .i64 (x20.length : Int)), fun _ => [], fun ds_ u_ => [], [], [], none⟩, ⟨some 163, some (.bool (decide (x19 < (x20.length : Int)))), fun _ => [], fun ds_ u_ => [], [], [], none⟩, ⟨some 164, some (.bool (decide (x19 < (x20.length : Int)))), fun _ => [], fun ds_ u_ => [], [], [], none⟩, ⟨some 165, some (.bool false), fun _ => [], fun ds_ u_ => [], [], [], none⟩, ⟨some 166, some undef, fun _ => [], fun _ _ => [], [], [], none⟩, ⟨some 167, some undef, fun _ => [], fun _ _ => [], [], [], none⟩, ⟨some 168, some undef, fun _ => [], fun _ _ => [], [], [], none⟩, ⟨some 169, some undef, fun _ => [], fun _ _ => [], [], [], none⟩, ⟨some 170, some undef, fun _ => [], fun _ _ => [], [], [], none⟩, ⟨some 171, some (.bool false), fun _ => [], fun ds_ u_ => [], [], [], none⟩] [[], [], [0], [2, 1], [3], [4], [5], [6], [6], [7, 8, 6], [9, 6], [6], [6], [11, 12, 6], [13, 6], [14, 6], [10, 15, 6], [6, 16], [17], [18], [18], [18], [18], [18], [18, 23]] [[(true, .box 58 (Rep.arr 8 (Rep.arr 8 (Rep.int .i64))) u4 d1)], [(true, .box 46 Delivery_.rep u10 y5.1)], [(true, .slice 3 (Rep.int .i64) u3 s1.2.2.1)]] [0, 1, 2, 3, 4, 5, 6, 7, 8, 9, 10, 11, 12, 13, 14, 15, 16, 17, 18, 19, 20, 21, 22, 23, 24, 25, 26, 27] Try_mixed rfl rfl rfl h44 (.cons ?_ (.cons ?_ (.cons ?_ (.cons ?_ (.cons ?_ (.cons ?_ (.cons ?_ (.cons ?_ (.cons ?_ (.cons ?_ (.cons ?_ (.cons ?_ (.cons ?_ (.cons ?_ (.cons ?_ (.cons ?_ (.cons ?_ (.cons ?_ (.cons ?_ (.cons ?_ (.cons ?_ (.cons ?_ (.cons ?_ (.cons ?_ (.cons ?_ .nil))))))))))))))))))))))))) (fun q3 w hq5 h => ?_)
                ·intro q3 w Γx Ωx h
                 refine OpS.mv rfl rfl rfl ?_
                 exact ⟨undef, rfl, trivial, h⟩
                ·intro q3 w Γx Ωx h
                 refine OpS.mv rfl rfl rfl ?_
                 exact ⟨undef, rfl, trivial, h⟩
                ·intro q3 w Γx Ωx h
                 have h : St e w ([(true, .val (Rep.slice (Rep.slice (Rep.slice (Rep.int .u8)))) u2 y4.2.1)] ++ Γx) ([(true, .box 58 (Rep.arr 8 (Rep.arr 8 (Rep.int .i64))) u4 d1), (false, .box 76 (Rep.iso (fun s : bus_Bus => (s.masters, ())) (Rep.prod (Rep.raw (α := List bus_master) u9) Rep.unit)) u5 y5.2.2), (false, .oval (oslice 85 3 (fun _ => bus_master.orep)) u9 y5.2.2.masters)] ++ Ωx) := h
                 refine OpS.ibox h .z PA.z Try.underlying58 ty57 (Nat.eq_of_beq_eq_true e40) rfl rfl rfl rfl e39 ?_
                 exact ⟨undef, rfl, trivial, h⟩
                ·intro q3 w Γx Ωx h
                 have h : St e w ([(true, .val (Rep.slice (Rep.slice (Rep.slice (Rep.int .u8)))) u2 y4.2.1)] ++ Γx) ([(true, .box 58 (Rep.arr 8 (Rep.arr 8 (Rep.int .i64))) u4 d1), (false, .box 76 (Rep.iso (fun s : bus_Bus => (s.masters, ())) (Rep.prod (Rep.raw (α := List bus_master) u9) Rep.unit)) u5 y5.2.2), (false, .oval (oslice 85 3 (fun _ => bus_master.orep)) u9 y5.2.2.masters)] ++ Ωx) := h
                 refine OpS.ibox h .z PA.a Try.underlying57 ty3 (Nat.eq_of_beq_eq_true e42) rfl rfl rfl rfl e41 ?_
                 exact ⟨undef, rfl, trivial, h⟩
                ·intro q3 w Γx Ωx h
                 have h : St e w ([(true, .val (Rep.slice (Rep.slice (Rep.slice (Rep.int .u8)))) u2 y4.2.1)] ++ Γx) ([(true, .box 58 (Rep.arr 8 (Rep.arr 8 (Rep.int .i64))) u4 d1), (false, .box 76 (Rep.iso (fun s : bus_Bus => (s.masters, ())) (Rep.prod (Rep.raw (α := List bus_master) u9) Rep.unit)) u5 y5.2.2), (false, .oval (oslice 85 3 (fun _ => bus_master.orep)) u9 y5.2.2.masters)] ++ Ωx) := h
                 refine OpS.loadBi h .z PA.a (Get.comp (Get.comp Get.id (Get.arr e39)) (Get.arr e41)) ty3 rfl rfl rfl ?_
                 exact ⟨undef, rfl, trivial, h⟩
                ·intro q3 w Γx Ωx h
                 refine OpS.bin rfl rfl rfl rfl rfl ?_
                 exact ⟨undef, rfl, trivial, h⟩
                ·intro q3 w Γx Ωx h
                 refine OpS.mv rfl rfl rfl ?_
                 exact ⟨undef, (congrArg (fun z_ => some (Value.bool z_)) e43), trivial, h⟩
                ·intro q3 w Γx Ωx h
                 refine OpS.mv rfl rfl rfl ?_
                 exact ⟨undef, rfl, trivial, h⟩
                ·intro q3 w Γx Ωx h
                 refine OpS.mv rfl rfl rfl ?_
                 exact ⟨undef, rfl, trivial, h⟩
                ·intro q3 w Γx Ωx h
                 have h : St e w ([(true, .val (Rep.slice (Rep.slice (Rep.slice (Rep.int .u8)))) u2 y4.2.1)] ++ Γx) ([(true, .slice 3 (Rep.int .i64) u3 s1.2.2.1), (false, .box 76 (Rep.iso (fun s : bus_Bus => (s.masters, ())) (Rep.prod (Rep.raw (α := List bus_master) u9) Rep.unit)) u5 y5.2.2), (false, .oval (oslice 85 3 (fun _ => bus_master.orep)) u9 y5.2.2.masters)] ++ Ωx) := h
                 refine OpS.iown h .z Try.underlying33 ty3 rfl rfl rfl rfl e45 ?_
                 exact ⟨undef, rfl, trivial, h⟩
                ·intro q3 w Γx Ωx h
                 have h : St e w ([(true, .val (Rep.slice (Rep.slice (Rep.slice (Rep.int .u8)))) u2 y4.2.1)] ++ Γx) ([(true, .slice 3 (Rep.int .i64) u3 s1.2.2.1), (false, .box 76 (Rep.iso (fun s : bus_Bus => (s.masters, ())) (Rep.prod (Rep.raw (α := List bus_master) u9) Rep.unit)) u5 y5.2.2), (false, .oval (oslice 85 3 (fun _ => bus_master.orep)) u9 y5.2.2.masters)] ++ Ωx) := h
                 refine OpS.loadOi h .z (idx_ne e45) PA.a (Get.arr e45) ty3 rfl rfl rfl ?_
                 exact ⟨undef, rfl, trivial, h⟩
                ·intro q3 w Γx Ωx h
                 refine OpS.mv rfl rfl rfl ?_
                 exact ⟨undef, rfl, trivial, h⟩
                ·intro q3 w Γx Ωx h
                 refine OpS.mv rfl rfl rfl ?_
                 exact ⟨undef, rfl, trivial, h⟩
                ·intro q3 w Γx Ωx h
                 refine OpS.iptr h Try.underlying54 ty59 rfl rfl rfl rfl (V.at .z) e46 (fun u h56 => ?_)
                 exact ⟨u, rfl, trivial, h56⟩
                ·intro q3 w Γx Ωx h
                 refine OpS.load h ty59 rfl rfl rfl .z (fun u h57 => ?_)
                 exact ⟨u, rfl, trivial, h57⟩
                ·intro q3 w Γx Ωx h
                 refine OpS.len h Try.underlying59 rfl rfl rfl (V.at .z) ?_
                 exact ⟨undef, rfl, trivial, h⟩
                ·intro q3 w Γx Ωx h
                 refine OpS.bin rfl rfl rfl rfl rfl ?_
                 exact ⟨undef, rfl, trivial, h⟩
                ·intro q3 w Γx Ωx h
                 refine OpS.pick rfl rfl rfl rfl ?_
                 exact ⟨undef, rfl, trivial, h⟩
                ·intro q3 w Γx Ωx h
                 refine OpS.mv rfl rfl rfl ?_
                 exact ⟨undef, (congrArg (fun z_ => some (Value.bool z_)) e47), trivial, h⟩
                ·intro q3 w Γx Ωx h
                 exact OpS.pass rfl rfl rfl ⟨undef, rfl, trivial, h⟩
                ·intro q3 w Γx Ωx h
                 exact OpS.pass rfl rfl rfl ⟨undef, rfl, trivial, h⟩
                ·intro q3 w Γx Ωx h
                 exact OpS.pass rfl rfl rfl ⟨undef, rfl, trivial, h⟩
                ·intro q3 w Γx Ωx h
                 exact OpS.pass rfl rfl rfl ⟨undef, rfl, trivial, h⟩
                ·intro q3 w Γx Ωx h
                 exact OpS.pass rfl rfl rfl ⟨undef, rfl, trivial, h⟩
                ·intro q3 w Γx Ωx h
                 refine OpS.pick rfl rfl rfl rfl ?_
                 exact ⟨undef, rfl, trivial, h⟩
                have h58 : St e w [(true, .ptr (Rep.slice (Rep.slice (Rep.int .u8))) (q3 13) x20), (true, .val (Rep.slice (Rep.slice (Rep.int .u8))) (q3 14) x20), (true, .val (Rep.slice (Rep.slice (Rep.slice (Rep.int .u8)))) u2 y4.2.1)] [(true, .box 58 (Rep.arr 8 (Rep.arr 8 (Rep.int .i64))) u4 d1), (true, .box 46 Delivery_.rep u10 y5.1), (true, .slice 3 (Rep.int .i64) u3 s1.2.2.1), (false, .box 76 (Rep.iso (fun s : bus_Bus => (s.masters, ())) (Rep.prod (Rep.raw (α := List bus_master) u9) Rep.unit)) u5 y5.2.2), (false, .oval (oslice 85 3 (fun _ => bus_master.orep)) u9 y5.2.2.masters)] := h
                refine RunL.nil ?_
                refine Run.slim [(171, .bool false), (5, .int .i64 x1), (6, u5), (7, u2), (9, u3), (10, u4), (11, .int .i64 s1.1), (12, u10), (16, .int .i64 s4.1), (17, .int .i64 x10), (18, .int .i64 s6.1)] ⟨rfl, rfl, rfl, rfl, rfl, rfl, rfl, rfl, rfl, rfl, rfl, trivial⟩ ?_
                refine Run.slim [(5, .int .i64 x1), (6, u5), (7, u2), (9, u3), (10, u4), (11, .int .i64 s1.1), (12, u10), (16, .int .i64 s4.1), (17, .int .i64 x10), (18, .int .i64 s6.1), (171, .bool false)] ⟨rfl, rfl, rfl, rfl, rfl, rfl, rfl, rfl, rfl, rfl, rfl, trivial⟩ ?_
                exact hj3 (false) _ _ ⟨rfl, (h58.facts (.atm (.s (.s .z)) .nil)).picks (.cons (.s (.s (.s .z))) (.cons .z (.cons .z (.cons .z (.cons .z .nil)))))⟩ hF
              ·
               have hG := hF
               subst e44
               have hF := hG
               refine Run.drawV (Ωs := [(false, .box 76 (Rep.iso (fun s : bus_Bus => (s.masters, ())) (Rep.prod (Rep.raw (α := List bus_master) u9) Rep.unit)) u5 y5.2.2), (false, .oval (oslice 85 3 (fun _ => bus_master.orep)) u9 y5.2.2.masters)]) [⟨some 147, some (.int .i64 s6.1), fun _ => [], fun ds_ u_ => [], [], [], none⟩, ⟨some 148, some (.int .i64 x10), fun _ => [], fun ds_ u_ => [], [], [], none⟩, ⟨some 149, some ((padd u4 (0 + (s6.1 : Int).toNat * (Rep.arr 8 (Rep.int .i64)).n))), fun _ => [], fun ds_ u_ => [], [], [(0, [])], none⟩, ⟨some 150, some ((padd u4 (0 + (s6.1 : Int).toNat * (Rep.arr 8 (Rep.int .i64)).n + (x10 : Int).toNat * (Rep.int .i64).n))), fun _ => [], fun ds_ u_ => [], [], [(0, [])], none⟩, ⟨some 151, some (.int .i64 x17), fun _ => [], fun ds_ u_ => [], [], [(0, [])], none⟩, ⟨some 152, some (.bool (decide (x17 > 2))), fun _ => [], fun ds_ u_ => [], [], [], none⟩, ⟨some 153, some (.bool false), fun _ => [], fun ds_ u_ => [], [], [], none⟩, ⟨some 154, some undef, fun _ => [], fun _ _ => [], [], [], none⟩, ⟨some 155, some undef, fun _ => [], fun _ _ => [], [], [], none⟩, ⟨some 156, some undef, fun _ => [], fun _ _ => [], [], [], none⟩, ⟨some 157, some undef, fun _ => [], fun _ _ => [], [], [], none⟩, ⟨some 158, some undef, fun _ => [], fun _ _ => [], [], [], none⟩, ⟨some 159, some undef, fun _ => [], fun _ _ => [], [], [], none⟩, ⟨some 160, some undef, fun _ => [], fun _ _ => [], [], [], none⟩, ⟨some 161, some undef, fun _ => [], fun _ _ => [], [], [], none⟩, ⟨some 162, some undef, fun _ => [], fun _ _ => [], [], [], none⟩, ⟨some 163, some undef, fun _ => [], fun _ _ => [], [], [], none⟩, ⟨some 164, some (.bool false), fun _ => [], fun ds_ u_ => [], [], [], none⟩, ⟨some 165, some (.bool false), fun _ => [], fun ds_ u_ => [], [], [], none⟩, ⟨some 166, some undef, fun _ => [], fun _ _ => [], [], [], none⟩, ⟨some 167, some undef, fun _ => [], fun _ _ => [], [], [], none⟩, ⟨some 168, some undef, fun _ => [], fun _ _ => [], [], [], none⟩, ⟨some 169, some undef, fun _ => [], fun _ _ => [], [], [], none⟩, ⟨some 170, some undef, fun _ => [], fun _ _ => [], [], [], none⟩, ⟨some 171, some (.bool false), fun _ => [], fun ds_ u_ => [], [], [], none⟩] [[], [], [0], [2, 1], [3], [4], [5], [6], [6], [6], [6], [6], [6], [6], [6], [6], [6], [6, 16], [17], [18], [18], [18], [18], [18], [18, 23]] [[(true, .box 58 (Rep.arr 8 (Rep.arr 8 (Rep.int .i64))) u4 d1)], [(true, .box 46 Delivery_.rep u10 y5.1)], [(true, .slice 3 (Rep.int .i64) u3 s1.2.2.1)]] [0, 1, 2, 3, 4, 5, 6, 7, 8, 9, 10, 11, 12, 13, 14, 15, 16, 17, 18, 19, 20, 21, 22, 23, 24, 25, 26, 27] Try_mixed rfl rfl rfl h44 (.cons ?_ (.cons ?_ (.cons ?_ (.cons ?_ (.cons ?_ (.cons ?_ (.cons ?_ (.cons ?_ (.cons ?_ (.cons ?_ (.cons ?_ (.cons ?_ (.cons ?_ (.cons ?_ (.cons ?_ (.cons ?_ (.cons ?_ (.cons ?_ (.cons ?_ (.cons ?_ (.cons ?_ (.cons ?_ (.cons ?_ (.cons ?_ (.cons ?_ .nil))))))))))))))))))))))))) (fun q3 w hq6 h => ?_)
               ·intro q3 w Γx Ωx h
                refine OpS.mv rfl rfl rfl ?_
                exact ⟨undef, rfl, trivial, h⟩
               ·intro q3 w Γx Ωx h
                refine OpS.mv rfl rfl rfl ?_
                exact ⟨undef, rfl, trivial, h⟩
               ·intro q3 w Γx Ωx h
                have h : St e w ([(true, .val (Rep.slice (Rep.slice (Rep.slice (Rep.int .u8)))) u2 y4.2.1)] ++ Γx) ([(true, .box 58 (Rep.arr 8 (Rep.arr 8 (Rep.int .i64))) u4 d1), (false, .box 76 (Rep.iso (fun s : bus_Bus => (s.masters, ())) (Rep.prod (Rep.raw (α := List bus_master) u9) Rep.unit)) u5 y5.2.2), (false, .oval (oslice 85 3 (fun _ => bus_master.orep)) u9 y5.2.2.masters)] ++ Ωx) := h
                refine OpS.ibox h .z PA.z Try.underlying58 ty57 (Nat.eq_of_beq_eq_true e40) rfl rfl rfl rfl e39 ?_
                exact ⟨undef, rfl, trivial, h⟩
               ·intro q3 w Γx Ωx h
                have h : St e w ([(true, .val (Rep.slice (Rep.slice (Rep.slice (Rep.int .u8)))) u2 y4.2.1)] ++ Γx) ([(true, .box 58 (Rep.arr 8 (Rep.arr 8 (Rep.int .i64))) u4 d1), (false, .box 76 (Rep.iso (fun s : bus_Bus => (s.masters, ())) (Rep.prod (Rep.raw (α := List bus_master) u9) Rep.unit)) u5 y5.2.2), (false, .oval (oslice 85 3 (fun _ => bus_master.orep)) u9 y5.2.2.masters)] ++ Ωx) := h
                refine OpS.ibox h .z PA.a Try.underlying57 ty3 (Nat.eq_of_beq_eq_true e42) rfl rfl rfl rfl e41 ?_
                exact ⟨undef, rfl, trivial, h⟩
               ·intro q3 w Γx Ωx h
                have h : St e w ([(true, .val (Rep.slice (Rep.slice (Rep.slice (Rep.int .u8)))) u2 y4.2.1)] ++ Γx) ([(true, .box 58 (Rep.arr 8 (Rep.arr 8 (Rep.int .i64))) u4 d1), (false, .box 76 (Rep.iso (fun s : bus_Bus => (s.masters, ())) (Rep.prod (Rep.raw (α := List bus_master) u9) Rep.unit)) u5 y5.2.2), (false, .oval (oslice 85 3 (fun _ => bus_master.orep)) u9 y5.2.2.masters)] ++ Ωx) := h
                refine OpS.loadBi h .z PA.a (Get.comp (Get.comp Get.id (Get.arr e39)) (Get.arr e41)) ty3 rfl rfl rfl ?_
                exact ⟨undef, rfl, trivial, h⟩
               ·intro q3 w Γx Ωx h
                refine OpS.bin rfl rfl rfl rfl rfl ?_
                exact ⟨undef, rfl, trivial, h⟩
               ·intro q3 w Γx Ωx h
                refine OpS.mv rfl rfl rfl ?_
                exact ⟨undef, (congrArg (fun z_ => some (Value.bool z_)) e43), trivial, h⟩
               ·intro q3 w Γx Ωx h
                exact OpS.pass rfl rfl rfl ⟨undef, rfl, trivial, h⟩
               ·intro q3 w Γx Ωx h
                exact OpS.pass rfl rfl rfl ⟨undef, rfl, trivial, h⟩
               ·intro q3 w Γx Ωx h
                exact OpS.pass rfl rfl rfl ⟨undef, rfl, trivial, h⟩
               ·intro q3 w Γx Ωx h
                exact OpS.pass rfl rfl rfl ⟨undef, rfl, trivial, h⟩
               ·intro q3 w Γx Ωx h
                exact OpS.pass rfl rfl rfl ⟨undef, rfl, trivial, h⟩
               ·intro q3 w Γx Ωx h
                exact OpS.pass rfl rfl rfl ⟨undef, rfl, trivial, h⟩
               ·intro q3 w Γx Ωx h
                exact OpS.pass rfl rfl rfl ⟨undef, rfl, trivial, h⟩
               ·intro q3 w Γx Ωx h
                exact OpS.pass rfl rfl rfl ⟨undef, rfl, trivial, h⟩
               ·intro q3 w Γx Ωx h
                exact OpS.pass rfl rfl rfl ⟨undef, rfl, trivial, h⟩
               ·intro q3 w Γx Ωx h
                exact OpS.pass rfl rfl rfl ⟨undef, rfl, trivial, h⟩
               ·intro q3 w Γx Ωx h
                refine OpS.pick rfl rfl rfl rfl ?_
                exact ⟨undef, rfl, trivial, h⟩
               ·intro q3 w Γx Ωx h
                refine OpS.mv rfl rfl rfl ?_
                exact ⟨undef, rfl, trivial, h⟩
               ·intro q3 w Γx Ωx h
                exact OpS.pass rfl rfl rfl ⟨undef, rfl, trivial, h⟩
               ·intro q3 w Γx Ωx h
                exact OpS.pass rfl rfl rfl ⟨undef, rfl, trivial, h⟩
               ·intro q3 w Γx Ωx h
                exact OpS.pass rfl rfl rfl ⟨undef, rfl, trivial, h⟩
               ·intro q3 w Γx Ωx h
                exact OpS.pass rfl rfl rfl ⟨undef, rfl, trivial, h⟩
               ·intro q3 w Γx Ωx h
                exact OpS.pass rfl rfl rfl ⟨undef, rfl, trivial, h⟩
               ·intro q3 w Γx Ωx h
                refine OpS.pick rfl rfl rfl rfl ?_
                exact ⟨undef, rfl, trivial, h⟩
               have h59 : St e w [(true, .val (Rep.slice (Rep.slice (Rep.slice (Rep.int .u8)))) u2 y4.2.1)] [(true, .box 58 (Rep.arr 8 (Rep.arr 8 (Rep.int .i64))) u4 d1), (true, .box 46 Delivery_.rep u10 y5.1), (true, .slice 3 (Rep.int .i64) u3 s1.2.2.1), (false, .box 76 (Rep.iso (fun s : bus_Bus => (s.masters, ())) (Rep.prod (Rep.raw (α := List bus_master) u9) Rep.unit)) u5 y5.2.2), (false, .oval (oslice 85 3 (fun _ => bus_master.orep)) u9 y5.2.2.masters)] := h
               refine RunL.nil ?_
               refine Run.slim [(171, .bool false), (5, .int .i64 x1), (6, u5), (7, u2), (9, u3), (10, u4), (11, .int .i64 s1.1), (12, u10), (16, .int .i64 s4.1), (17, .int .i64 x10), (18, .int .i64 s6.1)] ⟨rfl, rfl, rfl, rfl, rfl, rfl, rfl, rfl, rfl, rfl, rfl, trivial⟩ ?_
               refine Run.slim [(5, .int .i64 x1), (6, u5), (7, u2), (9, u3), (10, u4), (11, .int .i64 s1.1), (12, u10), (16, .int .i64 s4.1), (17, .int .i64 x10), (18, .int .i64 s6.1), (171, .bool false)] ⟨rfl, rfl, rfl, rfl, rfl, rfl, rfl, rfl, rfl, rfl, rfl, trivial⟩ ?_
               exact hj3 (false) _ _ ⟨rfl, (h59.facts (.atm .z .nil)).picks (.cons (.s (.s (.s .z))) (.cons .z (.cons .z (.cons .z (.cons .z .nil)))))⟩ hF
            ·
             refine Run.exit rfl ?_
             refine Run.endBlock ?_
             refine Run.reg ?_
             refine op (OpS.mv rfl rfl rfl ?_)
             refine op (OpS.bin rfl rfl rfl rfl rfl ?_)
             refine op (OpS.as rfl rfl rfl ?_)
             obtain ⟨x22, e50, hF⟩ := letP_use hF
             refine RunL.name e50 ?_
             refine RunL.nil ?_
             refine Run.slim [(16, .int .i64 x22), (5, .int .i64 x1), (6, u5), (7, u2), (9, u3), (10, u4), (11, .int .i64 s1.1), (12, u10)] ⟨rfl, rfl, rfl, rfl, rfl, rfl, rfl, rfl, trivial⟩ ?_
             refine Run.slim [(5, .int .i64 x1), (6, u5), (7, u2), (9, u3), (10, u4), (11, .int .i64 s1.1), (12, u10), (16, .int .i64 x22)] ⟨rfl, rfl, rfl, rfl, rfl, rfl, rfl, rfl, trivial⟩ ?_
             exact hk3 (x22, s6.2) _ _ ⟨rfl, (h39.facts (.atm .z .nil)).picks (.cons .z (.cons .z (.cons .z (.cons .z (.cons .z .nil)))))⟩ hF
          ·
           have h60 := h37.picks (.cons (.s (.s .z)) (.cons (.s (.s .z)) (.cons .z (.cons .z (.cons .z .nil)))))
           obtain ⟨x23, e51, hF⟩ := letP_use hF
           refine iteP_use hF (fun e52 hF => ?_) (fun e52 hF => ?_)
           ·
            have hG := hF
            subst e52
            have hF := hG
            refine Run.drawV (Ωs := [(false, .box 76 (Rep.iso (fun s : bus_Bus => (s.masters, ())) (Rep.prod (Rep.raw (α := List bus_master) u9) Rep.unit)) u5 y5.2.2), (true, .box 58 (Rep.arr 8 (Rep.arr 8 (Rep.int .i64))) u4 s4.2), (false, .oval (oslice 85 3 (fun _ => bus_master.orep)) u9 y5.2.2.masters)]) [⟨some 99, some (.int .i64 x10), fun _ => [], fun ds_ u_ => [], [], [], none⟩, ⟨some 100, some (.bool (decide (x10 < 0))), fun _ => [], fun ds_ u_ => [], [], [], none⟩, ⟨some 101, some (.bool true), fun _ => [], fun ds_ u_ => [], [], [], none⟩, ⟨some 102, some undef, fun _ => [], fun _ _ => [], [], [], none⟩, ⟨some 103, some undef, fun _ => [], fun _ _ => [], [], [], none⟩, ⟨some 104, some undef, fun _ => [], fun _ _ => [], [], [], none⟩, ⟨some 105, some (.bool true), fun _ => [], fun ds_ u_ => [], [], [], none⟩, ⟨some 106, some (.bool true), fun _ => [], fun ds_ u_ => [], [], [], none⟩, ⟨some 107, some undef, fun _ => [], fun _ _ => [], [], [], none⟩, ⟨some 108, some undef, fun _ => [], fun _ _ => [], [], [], none⟩, ⟨some 109, some undef, fun _ => [], fun _ _ => [], [], [], none⟩, ⟨some 110, some undef, fun _ => [], fun _ _ => [], [], [], none⟩, ⟨some 111, some undef, fun _ => [], fun _ _ => [], [], [], none⟩, ⟨some 112, some undef, fun _ => [], fun _ _ => [], [], [], none⟩, ⟨some 113, some undef, fun _ => [], fun _ _ => [], [], [], none⟩, ⟨some 114, some undef, fun _ => [], fun _ _ => [], [], [], none⟩, ⟨some 115, some undef, fun _ => [], fun _ _ => [], [], [], none⟩, ⟨some 116, some undef, fun _ => [], fun _ _ => [], [], [], none⟩, ⟨some 117, some (.bool true), fun _ => [], fun ds_ u_ => [], [], [], none⟩, ⟨some 118, some (.bool true), fun _ => [], fun ds_ u_ => [], [], [], none⟩, ⟨some 119, some undef, fun _ => [], fun _ _ => [], [], [], none⟩, ⟨some 120, some undef, fun _ => [], fun _ _ => [], [], [], none⟩, ⟨some 121, some undef, fun _ => [], fun _ _ => [], [], [], none⟩, ⟨some 122, some undef, fun _ => [], fun _ _ => [], [], [], none⟩, ⟨some 123, some undef, fun _ => [], fun _ _ => [], [], [], none⟩, ⟨some 124, some undef, fun _ => [], fun _ _ => [], [], [], none⟩, ⟨some 125, some undef, fun _ => [], fun _ _ => [], [], [], none⟩, ⟨some 126, some undef, fun _ => [], fun _ _ => [], [], [], none⟩, ⟨some 127, some undef, fun _ => [], fun _ _ => [], [], [], none⟩, ⟨some 128, some undef, fun _ => [], fun _ _ => [], [], [], none⟩, ⟨some 129, some undef, fun _ => [], fun _ _ => [], [], [], none⟩, ⟨some 130, some undef, fun _ => [], fun _ _ => [], [], [], none⟩, ⟨some 131, some undef, fun _ => [], fun _ _ => [], [], [], none⟩, ⟨some 132, some undef, fun _ => [], fun _ _ => [], [], [], none⟩, ⟨some 133, some (.bool true), fun _ => [], fun ds_ u_ => [], [], [], none⟩] [[], [0], [1], [2], [2], [2], [2, 5], [6], [7], [7], [7], [7], [7], [7], [7], [7], [7], [7], [7, 17], [18], [19], [19], [19], [19], [19], [19], [19], [19], [19], [19], [19], [19], [19], [19], [19, 33]] [[(true, .box 46 Delivery_.rep u10 y5.1)], [(true, .slice 3 (Rep.int .i64) u3 s1.2.2.1)]] [0, 1, 2, 3, 4, 5, 6, 7, 8, 9, 10, 11, 12, 13, 14, 15, 16, 17, 18, 19, 20, 21, 22, 23, 24, 25, 26, 27, 28, 29, 30, 31, 32, 33, 34, 35, 36] Try_mixed rfl rfl rfl h60 (.cons ?_ (.cons ?_ (.cons ?_ (.cons ?_ (.cons ?_ (.cons ?_ (.cons ?_ (.cons ?_ (.cons ?_ (.cons ?_ (.cons ?_ (.cons ?_ (.cons ?_ (.cons ?_ (.cons ?_ (.cons ?_ (.cons ?_ (.cons ?_ (.cons ?_ (.cons ?_ (.cons ?_ (.cons ?_ (.cons ?_ (.cons ?_ (.cons ?_ (.cons ?_ (.cons ?_ (.cons ?_ (.cons ?_ (.cons ?_ (.cons ?_ (.cons ?_ (.cons ?_ (.cons ?_ (.cons ?_ .nil))))))))))))))))))))))))))))))))))) (fun q4 w hq7 h => ?_)
            ·intro q4 w Γx Ωx h
             refine OpS.mv rfl rfl rfl ?_
             exact ⟨undef, rfl, trivial, h⟩
            ·intro q4 w Γx Ωx h
             refine OpS.bin rfl rfl rfl rfl rfl ?_
             exact ⟨undef, rfl, trivial, h⟩
            ·intro q4 w Γx Ωx h
             refine OpS.mv rfl rfl rfl ?_
             exact ⟨undef, (congrArg (fun z_ => some (Value.bool z_)) e51), trivial, h⟩
            ·intro q4 w Γx Ωx h
             exact OpS.pass rfl rfl rfl ⟨undef, rfl, trivial, h⟩
            ·intro q4 w Γx Ωx h
             exact OpS.pass rfl rfl rfl ⟨undef, rfl, trivial, h⟩
            ·intro q4 w Γx Ωx h
             exact OpS.pass rfl rfl rfl ⟨undef, rfl, trivial, h⟩
            ·intro q4 w Γx Ωx h
             refine OpS.pick rfl rfl rfl rfl ?_
             exact ⟨undef, rfl, trivial, h⟩
            ·intro q4 w Γx Ωx h
             refine OpS.mv rfl rfl rfl ?_
             exact ⟨undef, rfl, trivial, h⟩
            ·intro q4 w Γx Ωx h
             exact OpS.pass rfl rfl rfl ⟨undef, rfl, trivial, h⟩
            ·intro q4 w Γx Ωx h
             exact OpS.pass rfl rfl rfl ⟨undef, rfl, trivial, h⟩
            ·intro q4 w Γx Ωx h
             exact OpS.pass rfl rfl rfl ⟨undef, rfl, trivial, h⟩
            ·intro q4 w Γx Ωx h
             exact OpS.pass rfl rfl rfl ⟨undef, rfl, trivial, h⟩
            ·intro q4 w Γx Ωx h
             exact OpS.pass rfl rfl rfl ⟨undef, rfl, trivial, h⟩
            ·intro q4 w Γx Ωx h
             exact OpS.pass rfl rfl rfl ⟨undef, rfl, trivial, h⟩
            ·intro q4 w Γx Ωx h
             exact OpS.pass rfl rfl rfl ⟨undef, rfl, trivial, h⟩
            ·intro q4 w Γx Ωx h
             exact OpS.pass rfl rfl rfl ⟨undef, rfl, trivial, h⟩
            ·intro q4 w Γx Ωx h
             exact OpS.pass rfl rfl rfl ⟨undef, rfl, trivial, h⟩
            ·intro q4 w Γx Ωx h
             exact OpS.pass rfl rfl rfl ⟨undef, rfl, trivial, h⟩
            ·intro q4 w Γx Ωx h
             refine OpS.pick rfl rfl rfl rfl ?_
             exact ⟨undef, rfl, trivial, h⟩
            ·intro q4 w Γx Ωx h
             refine OpS.mv rfl rfl rfl ?_
             exact ⟨undef, rfl, trivial, h⟩
            ·intro q4 w Γx Ωx h
             exact OpS.pass rfl rfl rfl ⟨undef, rfl, trivial, h⟩
            ·intro q4 w Γx Ωx h
             exact OpS.pass rfl rfl rfl ⟨undef, rfl, trivial, h⟩
            ·intro q4 w Γx Ωx h
             exact OpS.pass rfl rfl rfl ⟨undef, rfl, trivial, h⟩
            ·intro q4 w Γx Ωx h
             exact OpS.pass rfl rfl rfl ⟨undef, rfl, trivial, h⟩
            ·intro q4 w Γx Ωx h
             exact OpS.pass rfl rfl rfl ⟨undef, rfl, trivial, h⟩
            ·intro q4 w Γx Ωx h
             exact OpS.pass rfl rfl rfl ⟨undef, rfl, trivial, h⟩
            ·intro q4 w Γx Ωx h
             exact OpS.pass rfl rfl rfl ⟨undef, rfl, trivial, h⟩
            ·intro q4 w Γx Ωx h
             exact OpS.pass rfl rfl rfl ⟨undef, rfl, trivial, h⟩
            ·intro q4 w Γx Ωx h
             exact OpS.pass rfl rfl rfl ⟨undef, rfl, trivial, h⟩
            ·intro q4 w Γx Ωx h
             exact OpS.pass rfl rfl rfl ⟨undef, rfl, trivial, h⟩
            ·intro q4 w Γx Ωx h
             exact OpS.pass rfl rfl rfl ⟨undef, rfl, trivial, h⟩
            ·intro q4 w Γx Ωx h
             exact OpS.pass rfl rfl rfl ⟨undef, rfl, trivial, h⟩
            ·intro q4 w Γx Ωx h
             exact OpS.pass rfl rfl rfl ⟨undef, rfl, trivial, h⟩
            ·intro q4 w Γx Ωx h
             exact OpS.pass rfl rfl rfl ⟨undef, rfl, trivial, h⟩
            ·intro q4 w Γx Ωx h
             refine OpS.pick rfl rfl rfl rfl ?_
             exact ⟨undef, rfl, trivial, h⟩
            have h61 : St e w [(true, .ptr (Rep.int .i64) u13 x10), (true, .val (Rep.slice (Rep.int .i64)) u12 y5.1.Masters), (true, .val (Rep.slice (Rep.int .i64)) u11 y5.1.Masters), (true, .val (Rep.slice (Rep.slice (Rep.slice (Rep.int .u8)))) u2 y4.2.1)] [(true, .box 46 Delivery_.rep u10 y5.1), (true, .slice 3 (Rep.int .i64) u3 s1.2.2.1), (false, .box 76 (Rep.iso (fun s : bus_Bus => (s.masters, ())) (Rep.prod (Rep.raw (α := List bus_master) u9) Rep.unit)) u5 y5.2.2), (true, .box 58 (Rep.arr 8 (Rep.arr 8 (Rep.int .i64))) u4 s4.2), (false, .oval (oslice 85 3 (fun _ => bus_master.orep)) u9 y5.2.2.masters)] := h
            refine RunL.nil ?_
            refine Run.slim [(133, .bool true), (17, .int .i64 x10), (5, .int .i64 x1), (6, u5), (7, u2), (9, u3), (10, u4), (11, .int .i64 s1.1), (12, u10), (16, .int .i64 s4.1)] ⟨rfl, rfl, rfl, rfl, rfl, rfl, rfl, rfl, rfl, rfl, trivial⟩ ?_
            refine Run.slim [(5, .int .i64 x1), (6, u5), (7, u2), (9, u3), (10, u4), (11, .int .i64 s1.1), (12, u10), (16, .int .i64 s4.1), (17, .int .i64 x10), (133, .bool true)] ⟨rfl, rfl, rfl, rfl, rfl, rfl, rfl, rfl, rfl, rfl, trivial⟩ ?_
            exact hj2 (true) _ _ ⟨rfl, (h61.facts (.atm (.s (.s (.s .z))) .nil)).picks (.cons (.s (.s .z)) (.cons (.s (.s .z)) (.cons .z (.cons .z (.cons .z .nil)))))⟩ hF
           ·
            have hG := hF
            subst e52
            have hF := hG
            obtain ⟨x24, e53, hF⟩ := letP_use hF
            refine iteP_use hF (fun e54 hF => ?_) (fun e54 hF => ?_)
            ·
             have hG := hF
             subst e54
             have hF := hG
             refine Run.drawV (Ωs := [(false, .box 76 (Rep.iso (fun s : bus_Bus => (s.masters, ())) (Rep.prod (Rep.raw (α := List bus_master) u9) Rep.unit)) u5 y5.2.2), (true, .box 58 (Rep.arr 8 (Rep.arr 8 (Rep.int .i64))) u4 s4.2), (false, .oval (oslice 85 3 (fun _ => bus_master.orep)) u9 y5.2.2.masters)]) [⟨some 99, some (.int .i64 x10), fun _ => [], fun ds_ u_ => [], [], [], none⟩, ⟨some 100, some (.bool (decide (x10 < 0))), fun _ => [], fun ds_ u_ => [], [], [], none⟩, ⟨some 101, some (.bool false), fun _ => [], fun ds_ u_ => [], [], [], none⟩, ⟨some 102, some (.int .i64 x10), fun _ => [], fun ds_ u_ => [], [], [], none⟩, ⟨some 103, some (.int .i64 x1), fun _ => [], fun ds_ u_ => [], [], [], none⟩, ⟨some 104, some (.bool (decide (x10 ≥ x1))), fun _ => [], fun ds_ u_ => [], [], [], none⟩, ⟨some 105, some (.bool (decide (x10 ≥ x1))), fun _ => [], fun ds_ u_ => [], [], [], none⟩, ⟨some 106, some (.bool true), fun _ => [], fun ds_ u_ => [], [], [], none⟩, ⟨some 107, some undef, fun _ => [], fun _ _ => [], [], [], none⟩, ⟨some 108, some undef, fun _ => [], fun _ _ => [], [], [], none⟩, ⟨some 109, some undef, fun _ => [], fun _ _ => [], [], [], none⟩, ⟨some 110, some undef, fun _ => [], fun _ _ => [], [], [], none⟩, ⟨some 111, some undef, fun _ => [], fun _ _ => [], [], [], none⟩, ⟨some 112, some undef, fun _ => [], fun _ _ => [], [], [], none⟩, ⟨some 113, some undef, fun _ => [], fun _ _ => [], [], [], none⟩, ⟨some 114, some undef, fun _ => [], fun _ _ => [], [], [], none⟩, ⟨some 115, some undef, fun _ => [], fun _ _ => [], [], [], none⟩, ⟨some 116, some undef, fun _ => [], fun _ _ => [], [], [], none⟩, ⟨some 117, some (.bool true), fun _ => [], fun ds_ u_ => [], [], [], none⟩, ⟨some 118, some (.bool true), fun _ => [], fun ds_ u_ => [], [], [], none⟩, ⟨some 119, some undef, fun _ => [], fun _ _ => [], [], [], none⟩, ⟨some 120, some undef, fun _ => [], fun _ _ => [], [], [], none⟩, ⟨some 121, some undef, fun _ => [], fun _ _ => [], [], [], none⟩, ⟨some 122, some undef, fun _ => [], fun _ _ => [], [], [], none⟩, ⟨some 123, some undef, fun _ => [], fun _ _ => [], [], [], none⟩, ⟨some 124, some undef, fun _ => [], fun _ _ => [], [], [], none⟩, ⟨some 125, some undef, fun _ => [], fun _ _ => [], [], [], none⟩, ⟨some 126, some undef, fun _ => [], fun _ _ => [], [], [], none⟩, ⟨some 127, some undef, fun _ => [], fun _ _ => [], [], [], none⟩, ⟨some 128, some undef, fun _ => [], fun _ _ => [], [], [], none⟩, ⟨some 129, some undef, fun _ => [], fun _ _ => [], [], [], none⟩, ⟨some 130, some undef, fun _ => [], fun _ _ => [], [], [], none⟩, ⟨some 131, some undef, fun _ => [], fun _ _ => [], [], [], none⟩, ⟨some 132, some undef, fun _ => [], fun _ _ => [], [], [], none⟩, ⟨some 133, some (.bool true), fun _ => [], fun ds_ u_ => [], [], [], none⟩] [[], [0], [1], [2], [2], [3, 4, 2], [2, 5], [6], [7], [7], [7], [7], [7], [7], [7], [7], [7], [7], [7, 17], [18], [19], [19], [19], [19], [19], [19], [19], [19], [19], [19], [19], [19], [19], [19], [19, 33]] [[(true, .box 46 Delivery_.rep u10 y5.1)], [(true, .slice 3 (Rep.int .i64) u3 s1.2.2.1)]] [0, 1, 2, 3, 4, 5, 6, 7, 8, 9, 10, 11, 12, 13, 14, 15, 16, 17, 18, 19, 20, 21, 22, 23, 24, 25, 26, 27, 28, 29, 30, 31, 32, 33, 34, 35, 36] Try_mixed rfl rfl rfl h60 (.cons ?_ (.cons ?_ (.cons ?_ (.cons ?_ (.cons ?_ (.cons ?_ (.cons ?_ (.cons ?_ (.cons ?_ (.cons ?_ (.cons ?_ (.cons ?_ (.cons ?_ (.cons ?_ (.cons ?_ (.cons ?_ (.cons ?_ (.cons ?_ (.cons ?_ (.cons ?_ (.cons ?_ (.cons ?_ (.cons ?_ (.cons ?_ (.cons ?_ (.cons ?_ (.cons ?_ (.cons ?_ (.cons ?_ (.cons ?_ (.cons ?_ (.cons ?_ (.cons ?_ (.cons ?_ (.cons ?_ .nil))))))))))))))))))))))))))))))))))) (fun q4 w hq8 h => ?_)
             ·intro q4 w Γx Ωx h
              refine OpS.mv rfl rfl rfl ?_
              exact ⟨undef, rfl, trivial, h⟩
             ·intro q4 w Γx Ωx h
              refine OpS.bin rfl rfl rfl rfl rfl ?_
              exact ⟨undef, rfl, trivial, h⟩
             ·intro q4 w Γx Ωx h
              refine OpS.mv rfl rfl rfl ?_
              exact ⟨undef, (congrArg (fun z_ => some (Value.bool z_)) e51), trivial, h⟩
             ·intro q4 w Γx Ωx h
              refine OpS.mv rfl rfl rfl ?_
              exact ⟨undef, rfl, trivial, h⟩
             ·intro q4 w Γx Ωx h
              refine OpS.mv rfl rfl rfl ?_
              exact ⟨undef, rfl, trivial, h⟩
             ·intro q4 w Γx Ωx h
              refine OpS.bin rfl rfl rfl rfl rfl ?_
              exact ⟨undef, rfl, trivial, h⟩
             ·intro q4 w Γx Ωx h
              refine OpS.pick rfl rfl rfl rfl ?_
              exact ⟨undef, rfl, trivial, h⟩
             ·intro q4 w Γx Ωx h
              refine OpS.mv rfl rfl rfl ?_
              exact ⟨undef, (congrArg (fun z_ => some (Value.bool z_)) e53), trivial, h⟩
             ·intro q4 w Γx Ωx h
              exact OpS.pass rfl rfl rfl ⟨undef, rfl, trivial, h⟩
             ·intro q4 w Γx Ωx h
              exact OpS.pass rfl rfl rfl ⟨undef, rfl, trivial, h⟩
             ·intro q4 w Γx Ωx h
              exact OpS.pass rfl rfl rfl ⟨undef, rfl, trivial, h⟩
             ·intro q4 w Γx Ωx h
              exact OpS.pass rfl rfl rfl ⟨undef, rfl, trivial, h⟩
             ·intro q4 w Γx Ωx h
              exact OpS.pass rfl rfl rfl ⟨undef, rfl, trivial, h⟩
             ·intro q4 w Γx Ωx h
              exact OpS.pass rfl rfl rfl ⟨undef, rfl, trivial, h⟩
             ·intro q4 w Γx Ωx h
              exact OpS.pass rfl rfl rfl ⟨undef, rfl, trivial, h⟩
             ·intro q4 w Γx Ωx h
              exact OpS.pass rfl rfl rfl ⟨undef, rfl, trivial, h⟩
             ·intro q4 w Γx Ωx h
              exact OpS.pass rfl rfl rfl ⟨undef, rfl, trivial, h⟩
             ·intro q4 w Γx Ωx h
              exact OpS.pass rfl rfl rfl ⟨undef, rfl, trivial, h⟩
             ·intro q4 w Γx Ωx h
              refine OpS.pick rfl rfl rfl rfl ?_
              exact ⟨undef, rfl, trivial, h⟩
             ·intro q4 w Γx Ωx h
              refine OpS.mv rfl rfl rfl ?_
              exact ⟨undef, rfl, trivial, h⟩
             ·intro q4 w Γx Ωx h
              exact OpS.pass rfl rfl rfl ⟨undef, rfl, trivial, h⟩
             ·intro q4 w Γx Ωx h
              exact OpS.pass rfl rfl rfl ⟨undef, rfl, trivial, h⟩
             ·intro q4 w Γx Ωx h
              exact OpS.pass rfl rfl rfl ⟨undef, rfl, trivial, h⟩
             ·intro q4 w Γx Ωx h
              exact OpS.pass rfl rfl rfl ⟨undef, rfl, trivial, h⟩
             ·intro q4 w Γx Ωx h
              exact OpS.pass rfl rfl rfl ⟨undef, rfl, trivial, h⟩
             ·intro q4 w Γx Ωx h
              exact OpS.pass rfl rfl rfl ⟨undef, rfl, trivial, h⟩
             ·intro q4 w Γx Ωx h
              exact OpS.pass rfl rfl rfl ⟨undef, rfl, trivial, h⟩
             ·intro q4 w Γx Ωx h
              exact OpS.pass rfl rfl rfl ⟨undef, rfl, trivial, h⟩
             ·intro q4 w Γx Ωx h
              exact OpS.pass rfl rfl rfl ⟨undef, rfl, trivial, h⟩
             ·intro q4 w Γx Ωx h
              exact OpS.pass rfl rfl rfl ⟨undef, rfl, trivial, h⟩
             ·intro q4 w Γx Ωx h
              exact OpS.pass rfl rfl rfl ⟨undef, rfl, trivial, h⟩
             ·intro q4 w Γx Ωx h
              exact OpS.pass rfl rfl rfl ⟨undef, rfl, trivial, h⟩
             ·intro q4 w Γx Ωx h
              exact OpS.pass rfl rfl rfl ⟨undef, rfl, trivial, h⟩
             ·intro q4 w Γx Ωx h
              exact OpS.pass rfl rfl rfl ⟨undef, rfl, trivial, h⟩
             ·intro q4 w Γx Ωx h
              refine OpS.pick rfl rfl rfl rfl ?_
              exact ⟨undef, rfl, trivial, h⟩
             have h62 : St e w [(true, .ptr (Rep.int .i64) u13 x10), (true, .val (Rep.slice (Rep.int .i64)) u12 y5.1.Masters), (true, .val (Rep.slice (Rep.int .i64)) u11 y5.1.Masters), (true, .val (Rep.slice (Rep.slice (Rep.slice (Rep.int .u8)))) u2 y4.2.1)] [(true, .box 46 Delivery_.rep u10 y5.1), (true, .slice 3 (Rep.int .i64) u3 s1.2.2.1), (false, .box 76 (Rep.iso (fun s : bus_Bus => (s.masters, ())) (Rep.prod (Rep.raw (α := List bus_master) u9) Rep.unit)) u5 y5.2.2), (true, .box 58 (Rep.arr 8 (Rep.arr 8 (Rep.int .i64))) u4 s4.2), (false, .oval (oslice 85 3 (fun _ => bus_master.orep)) u9 y5.2.2.masters)] := h
             refine RunL.nil ?_
             refine Run.slim [(133, .bool true), (17, .int .i64 x10), (5, .int .i64 x1), (6, u5), (7, u2), (9, u3), (10, u4), (11, .int .i64 s1.1), (12, u10), (16, .int .i64 s4.1)] ⟨rfl, rfl, rfl, rfl, rfl, rfl, rfl, rfl, rfl, rfl, trivial⟩ ?_
             refine Run.slim [(5, .int .i64 x1), (6, u5), (7, u2), (9, u3), (10, u4), (11, .int .i64 s1.1), (12, u10), (16, .int .i64 s4.1), (17, .int .i64 x10), (133, .bool true)] ⟨rfl, rfl, rfl, rfl, rfl, rfl, rfl, rfl, rfl, rfl, trivial⟩ ?_
             exact hj2 (true) _ _ ⟨rfl, (h62.facts (.atm (.s (.s (.s .z))) .nil)).picks (.cons (.s (.s .z)) (.cons (.s (.s .z)) (.cons .z (.cons .z (.cons .z .nil)))))⟩ hF
            ·
             have hG := hF
             subst e54
             have hF := hG
             obtain ⟨x25, e55, hF⟩ := bindP_use hF
             obtain ⟨x26, e56, hF⟩ := bindP_use hF
             obtain ⟨x27, e57, hF⟩ := letP_use hF
             refine iteP_use hF (fun e58 hF => ?_) (fun e58 hF => ?_)
             ·
              have hG := hF
              subst e58
              have hF := hG
              refine Run.drawV (Ωs := [(false, .box 76 (Rep.iso (fun s : bus_Bus => (s.masters, ())) (Rep.prod (Rep.raw (α := List bus_master) u9) Rep.unit)) u5 y5.2.2), (true, .box 58 (Rep.arr 8 (Rep.arr 8 (Rep.int .i64))) u4 s4.2), (false, .oval (oslice 85 3 (fun _ => bus_master.orep)) u9 y5.2.2.masters)]) [⟨some 99, some (.int .i64 x10), fun _ => [], fun ds_ u_ => [], [], [], none⟩, ⟨some 100, some (.bool (decide (x10 < 0))), fun _ => [], fun ds_ u_ => [], [], [], none⟩, ⟨some 101, some (.bool false), fun _ => [], fun ds_ u_ => [], [], [], none⟩, ⟨some 102, some (.int .i64 x10), fun _ => [], fun ds_ u_ => [], [], [], none⟩, ⟨some 103, some (.int .i64 x1), fun _ => [], fun ds_ u_ => [], [], [], none⟩, ⟨some 104, some (.bool (decide (x10 ≥ x1))), fun _ => [], fun ds_ u_ => [], [], [], none⟩, ⟨some 105, some (.bool (decide (x10 ≥ x1))), fun _ => [], fun ds_ u_ => [], [], [], none⟩, ⟨some 106, some (.bool false), fun _ => [], fun ds_ u_ => [], [], [], none⟩, ⟨some 107, some (u3), fun _ => [], fun ds_ u_ => [], [], [], none⟩, ⟨some 108, some (.int .i64 x10), fun _ => [], fun ds_ u_ => [], [], [], none⟩, ⟨some 109, some ((padd (sp u3) ((x10 : Int).toNat * (Rep.int .i64).n))), fun _ => [], fun ds_ u_ => [], [], [(1, [])], none⟩, ⟨some 110, some (.int .i64 x25), fun _ => [], fun ds_ u_ => [], [], [(1, [])], none⟩, ⟨some 111, some (u2), fun _ => [], fun ds_ u_ => [], [], [], none⟩, ⟨some 112, some (.int .i64 x10), fun _ => [], fun ds_ u_ => [], [], [], none⟩, ⟨some 113, none, fun u_ => [(true, .ptr (Rep.slice (Rep.slice (Rep.int .u8))) u_ x26)], fun ds_ u_ => [], [], [], none⟩, ⟨some 114, none, fun u_ => [(true, .val (Rep.slice (Rep.slice (Rep.int .u8))) u_ x26)], fun ds_ u_ => [], [], [], none⟩, ⟨some 115, some (.int .i64 (x26.length : Int)), fun _ => [], fun ds_ u_ => [], [], [], none⟩, ⟨some 116, some (.bool (decide (x25 ≥ (x26.length : Int)))), fun _ => [], fun ds_ u_ => [], [], [], none⟩, ⟨some 117, some (.bool (decide (x25 ≥ (x26.length : Int)))), fun _ => [], fun ds_ u_ => [], [], [], none⟩, ⟨some 118, some (.bool true), fun _ => [], fun ds_ u_ => [], [], [], none⟩, ⟨some 119, some undef, fun _ => [], fun _ _ => [], [], [], none⟩, ⟨some 120, some undef, fun _ => [], fun _ _ => [], [], [], none⟩, ⟨some 121, some undef, fun _ => [], fun _ _ => [], [], [], none⟩, ⟨some 122, some undef, fun _ => [], fun _ _ => [], [], [], none⟩, ⟨some 123, some undef, fun _ => [], fun _ _ => [], [], [], none⟩, ⟨some 124, some undef, fun _ => [], fun _ _ => [], [], [], none⟩, ⟨some 125, some undef, fun _ => [], fun _ _ => [], [], [], none⟩, ⟨some 126, some undef, fun _ => [], fun _ _ => [], [], [], none⟩, ⟨some 127, some undef, fun _ => [], fun _ _ => [], [], [], none⟩, ⟨some 128, some undef, fun _ => [], fun _ _ => [], [], [], none⟩, ⟨some 129, some undef, fun _ => [], fun _ _ => [], [], [], none⟩, ⟨some 130, some undef, fun _ => [], fun _ _ => [], [], [], none⟩, ⟨some 131, some undef, fun _ => [], fun _ _ => [], [], [], none⟩, ⟨some 132, some undef, fun _ => [], fun _ _ => [], [], [], none⟩, ⟨some 133, some (.bool true), fun _ => [], fun ds_ u_ => [], [], [], none⟩] [[], [0], [1], [2], [2], [3, 4, 2], [2, 5], [6], [7], [7], [8, 9, 7], [10, 7], [7], [7], [12, 13, 7], [14, 7], [15, 7], [11, 16, 7], [7, 17], [18], [19], [19], [19], [19], [19], [19], [19], [19], [19], [19], [19], [19], [19], [19], [19, 33]] [[(true, .box 46 Delivery_.rep u10 y5.1)], [(true, .slice 3 (Rep.int .i64) u3 s1.2.2.1)]] [0, 1, 2, 3, 4, 5, 6, 7, 8, 9, 10, 11, 12, 13, 14, 15, 16, 17, 18, 19, 20, 21, 22, 23, 24, 25, 26, 27, 28, 29, 30, 31, 32, 33, 34, 35, 36] Try_mixed rfl rfl rfl h60 (.cons ?_ (.cons ?_ (.cons ?_ (.cons ?_ (.cons ?_ (.cons ?_ (.cons ?_ (.cons ?_ (.cons ?_ (.cons ?_ (.cons ?_ (.cons ?_ (.cons ?_ (.cons ?_ (.cons ?_ (.cons ?_ (.cons ?_ (.cons ?_ (.cons ?_ (.cons ?_ (.cons ?_ (.cons ?_ (.cons ?_ (.cons ?_ (.cons ?_ (.cons ?_ (.cons ?_ (.cons ?_ (.cons ?_ (.cons ?_ (.cons ?_ (.cons ?_ (.cons ?_ (.cons ?_ (.cons ?_ .nil))))))))))))))))))))))))))))))))))) (fun q4 w hq9 h => ?_)
              ·intro q4 w Γx Ωx h
               refine OpS.mv rfl rfl rfl ?_
               exact ⟨undef, rfl, trivial, h⟩
              ·intro q4 w Γx Ωx h
               refine OpS.bin rfl rfl rfl rfl rfl ?_
               exact ⟨undef, rfl, trivial, h⟩
              ·intro q4 w Γx Ωx h
               refine OpS.mv rfl rfl rfl ?_
               exact ⟨undef, (congrArg (fun z_ => some (Value.bool z_)) e51), trivial, h⟩
              ·intro q4 w Γx Ωx h
               refine OpS.mv rfl rfl rfl ?_
               exact ⟨undef, rfl, trivial, h⟩
              ·intro q4 w Γx Ωx h
               refine OpS.mv rfl rfl rfl ?_
               exact ⟨undef, rfl, trivial, h⟩
              ·intro q4 w Γx Ωx h
               refine OpS.bin rfl rfl rfl rfl rfl ?_
               exact ⟨undef, rfl, trivial, h⟩
              ·intro q4 w Γx Ωx h
               refine OpS.pick rfl rfl rfl rfl ?_
               exact ⟨undef, rfl, trivial, h⟩
              ·intro q4 w Γx Ωx h
               refine OpS.mv rfl rfl rfl ?_
               exact ⟨undef, (congrArg (fun z_ => some (Value.bool z_)) e53), trivial, h⟩
              ·intro q4 w Γx Ωx h
               refine OpS.mv rfl rfl rfl ?_
               exact ⟨undef, rfl, trivial, h⟩
              ·intro q4 w Γx Ωx h
               refine OpS.mv rfl rfl rfl ?_
               exact ⟨undef, rfl, trivial, h⟩
              ·intro q4 w Γx Ωx h
               have h : St e w ([(true, .ptr (Rep.int .i64) u13 x10), (true, .val (Rep.slice (Rep.int .i64)) u12 y5.1.Masters), (true, .val (Rep.slice (Rep.int .i64)) u11 y5.1.Masters), (true, .val (Rep.slice (Rep.slice (Rep.slice (Rep.int .u8)))) u2 y4.2.1)] ++ Γx) ([(true, .slice 3 (Rep.int .i64) u3 s1.2.2.1), (false, .box 76 (Rep.iso (fun s : bus_Bus => (s.masters, ())) (Rep.prod (Rep.raw (α := List bus_master) u9) Rep.unit)) u5 y5.2.2), (true, .box 58 (Rep.arr 8 (Rep.arr 8 (Rep.int .i64))) u4 s4.2), (false, .oval (oslice 85 3 (fun _ => bus_master.orep)) u9 y5.2.2.masters)] ++ Ωx) := h
               refine OpS.iown h .z Try.underlying33 ty3 rfl rfl rfl rfl e55 ?_
               exact ⟨undef, rfl, trivial, h⟩
              ·intro q4 w Γx Ωx h
               have h : St e w ([(true, .ptr (Rep.int .i64) u13 x10), (true, .val (Rep.slice (Rep.int .i64)) u12 y5.1.Masters), (true, .val (Rep.slice (Rep.int .i64)) u11 y5.1.Masters), (true, .val (Rep.slice (Rep.slice (Rep.slice (Rep.int .u8)))) u2 y4.2.1)] ++ Γx) ([(true, .slice 3 (Rep.int .i64) u3 s1.2.2.1), (false, .box 76 (Rep.iso (fun s : bus_Bus => (s.masters, ())) (Rep.prod (Rep.raw (α := List bus_master) u9) Rep.unit)) u5 y5.2.2), (true, .box 58 (Rep.arr 8 (Rep.arr 8 (Rep.int .i64))) u4 s4.2), (false, .oval (oslice 85 3 (fun _ => bus_master.orep)) u9 y5.2.2.masters)] ++ Ωx) := h
               refine OpS.loadOi h .z (idx_ne e55) PA.a (Get.arr e55) ty3 rfl rfl rfl ?_
               exact ⟨undef, rfl, trivial, h⟩
              ·intro q4 w Γx Ωx h
               refine OpS.mv rfl rfl rfl ?_
               exact ⟨undef, rfl, trivial, h⟩
              ·intro q4 w Γx Ωx h
               refine OpS.mv rfl rfl rfl ?_
               exact ⟨undef, rfl, trivial, h⟩
              ·intro q4 w Γx Ωx h
               refine OpS.iptr h Try.underlying54 ty59 rfl rfl rfl rfl (V.at (.s (.s (.s .z)))) e56 (fun u h65 => ?_)
               exact ⟨u, rfl, trivial, h65⟩
              ·intro q4 w Γx Ωx h
               refine OpS.load h ty59 rfl rfl rfl .z (fun u h66 => ?_)
               exact ⟨u, rfl, trivial, h66⟩
              ·intro q4 w Γx Ωx h
               refine OpS.len h Try.underlying59 rfl rfl rfl (V.at .z) ?_
               exact ⟨undef, rfl, trivial, h⟩
              ·intro q4 w Γx Ωx h
               refine OpS.bin rfl rfl rfl rfl rfl ?_
               exact ⟨undef, rfl, trivial, h⟩
              ·intro q4 w Γx Ωx h
               refine OpS.pick rfl rfl rfl rfl ?_
               exact ⟨undef, rfl, trivial, h⟩
              ·intro q4 w Γx Ωx h
               refine OpS.mv rfl rfl rfl ?_
               exact ⟨undef, (congrArg (fun z_ => some (Value.bool z_)) e57), trivial, h⟩
              ·intro q4 w Γx Ωx h
               exact OpS.pass rfl rfl rfl ⟨undef, rfl, trivial, h⟩
              ·intro q4 w Γx Ωx h
               exact OpS.pass rfl rfl rfl ⟨undef, rfl, trivial, h⟩
              ·intro q4 w Γx Ωx h
               exact OpS.pass rfl rfl rfl ⟨undef, rfl, trivial, h⟩
              ·intro q4 w Γx Ωx h
               exact OpS.pass rfl rfl rfl ⟨undef, rfl, trivial, h⟩
              ·intro q4 w Γx Ωx h
               exact OpS.pass rfl rfl rfl ⟨undef, rfl, trivial, h⟩
              ·intro q4 w Γx Ωx h
               exact OpS.pass rfl rfl rfl ⟨undef, rfl, trivial, h⟩
              ·intro q4 w Γx Ωx h
               exact OpS.pass rfl rfl rfl ⟨undef, rfl, trivial, h⟩
              ·intro q4 w Γx Ωx h
               exact OpS.pass rfl rfl rfl ⟨undef, rfl, trivial, h⟩
              ·intro q4 w Γx Ωx h
               exact OpS.pass rfl rfl rfl ⟨undef, rfl, trivial, h⟩
              ·intro q4 w Γx Ωx h
               exact OpS.pass rfl rfl rfl ⟨undef, rfl, trivial, h⟩
              ·intro q4 w Γx Ωx h
               exact OpS.pass rfl rfl rfl ⟨undef, rfl, trivial, h⟩
              ·intro q4 w Γx Ωx h
               exact OpS.pass rfl rfl rfl ⟨undef, rfl, trivial, h⟩
              ·intro q4 w Γx Ωx h
               exact OpS.pass rfl rfl rfl ⟨undef, rfl, trivial, h⟩
              ·intro q4 w Γx Ωx h
               exact OpS.pass rfl rfl rfl ⟨undef, rfl, trivial, h⟩
              ·intro q4 w Γx Ωx h
               refine OpS.pick rfl rfl rfl rfl ?_
               exact ⟨undef, rfl, trivial, h⟩
              have h67 : St e w [(true, .ptr (Rep.slice (Rep.slice (Rep.int .u8))) (q4 14) x26), (true, .val (Rep.slice (Rep.slice (Rep.int .u8))) (q4 15) x26), (true, .ptr (Rep.int .i64) u13 x10), (true, .val (Rep.slice (Rep.int .i64)) u12 y5.1.Masters), (true, .val (Rep.slice (Rep.int .i64)) u11 y5.1.Masters), (true, .val (Rep.slice (Rep.slice (Rep.slice (Rep.int .u8)))) u2 y4.2.1)] [(true, .box 46 Delivery_.rep u10 y5.1), (true, .slice 3 (Rep.int .i64) u3 s1.2.2.1), (false, .box 76 (Rep.iso (fun s : bus_Bus => (s.masters, ())) (Rep.prod (Rep.raw (α := List bus_master) u9) Rep.unit)) u5 y5.2.2), (true, .box 58 (Rep.arr 8 (Rep.arr 8 (Rep.int .i64))) u4 s4.2), (false, .oval (oslice 85 3 (fun _ => bus_master.orep)) u9 y5.2.2.masters)] := h
              refine RunL.nil ?_
              refine Run.slim [(133, .bool true), (17, .int .i64 x10), (5, .int .i64 x1), (6, u5), (7, u2), (9, u3), (10, u4), (11, .int .i64 s1.1), (12, u10), (16, .int .i64 s4.1)] ⟨rfl, rfl, rfl, rfl, rfl, rfl, rfl, rfl, rfl, rfl, trivial⟩ ?_
              refine Run.slim [(5, .int .i64 x1), (6, u5), (7, u2), (9, u3), (10, u4), (11, .int .i64 s1.1), (12, u10), (16, .int .i64 s4.1), (17, .int .i64 x10), (133, .bool true)] ⟨rfl, rfl, rfl, rfl, rfl, rfl, rfl, rfl, rfl, rfl, trivial⟩ ?_
              exact hj2 (true) _ _ ⟨rfl, (h67.facts (.atm (.s (.s (.s (.s (.s .z))))) .nil)).picks (.cons (.s (.s .z)) (.cons (.s (.s .z)) (.cons .z (.cons .z (.cons .z .nil)))))⟩ hF
             ·
              have hG := hF
              subst e58
              have hF := hG
              obtain ⟨x28, e59, hF⟩ := bindP_use hF
              obtain ⟨x29, e60, hF⟩ := bindP_use hF
              obtain ⟨x30, e61, hF⟩ := bindP_use hF
              obtain ⟨y8, e62, hF⟩ := bindP_use hF
              refine Run.drawV (Ωs := [(false, .box 76 (Rep.iso (fun s : bus_Bus => (s.masters, ())) (Rep.prod (Rep.raw (α := List bus_master) u9) Rep.unit)) u5 y5.2.2), (true, .box 58 (Rep.arr 8 (Rep.arr 8 (Rep.int .i64))) u4 s4.2), (false, .oval (oslice 85 3 (fun _ => bus_master.orep)) u9 y5.2.2.masters)]) [⟨some 99, some (.int .i64 x10), fun _ => [], fun ds_ u_ => [], [], [], none⟩, ⟨some 100, some (.bool (decide (x10 < 0))), fun _ => [], fun ds_ u_ => [], [], [], none⟩, ⟨some 101, some (.bool false), fun _ => [], fun ds_ u_ => [], [], [], none⟩, ⟨some 102, some (.int .i64 x10), fun _ => [], fun ds_ u_ => [], [], [], none⟩, ⟨some 103, some (.int .i64 x1), fun _ => [], fun ds_ u_ => [], [], [], none⟩, ⟨some 104, some (.bool (decide (x10 ≥ x1))), fun _ => [], fun ds_ u_ => [], [], [], none⟩, ⟨some 105, some (.bool (decide (x10 ≥ x1))), fun _ => [], fun ds_ u_ => [], [], [], none⟩, ⟨some 106, some (.bool false), fun _ => [], fun ds_ u_ => [], [], [], none⟩, ⟨some 107, some (u3), fun _ => [], fun ds_ u_ => [], [], [], none⟩, ⟨some 108, some (.int .i64 x10), fun _ => [], fun ds_ u_ => [], [], [], none⟩, ⟨some 109, some ((padd (sp u3) ((x10 : Int).toNat * (Rep.int .i64).n))), fun _ => [], fun ds_ u_ => [], [], [(1, [])], none⟩, ⟨some 110, some (.int .i64 x25), fun _ => [], fun ds_ u_ => [], [], [(1, [])], none⟩, ⟨some 111, some (u2), fun _ => [], fun ds_ u_ => [], [], [], none⟩, ⟨some 112, some (.int .i64 x10), fun _ => [], fun ds_ u_ => [], [], [], none⟩, ⟨some 113, none, fun u_ => [(true, .ptr (Rep.slice (Rep.slice (Rep.int .u8))) u_ x26)], fun ds_ u_ => [], [], [], none⟩, ⟨some 114, none, fun u_ => [(true, .val (Rep.slice (Rep.slice (Rep.int .u8))) u_ x26)], fun ds_ u_ => [], [], [], none⟩, ⟨some 115, some (.int .i64 (x26.length : Int)), fun _ => [], fun ds_ u_ => [], [], [], none⟩, ⟨some 116, some (.bool (decide (x25 ≥ (x26.length : Int)))), fun _ => [], fun ds_ u_ => [], [], [], none⟩, ⟨some 117, some (.bool (decide (x25 ≥ (x26.length : Int)))), fun _ => [], fun ds_ u_ => [], [], [], none⟩, ⟨some 118, some (.bool false), fun _ => [], fun ds_ u_ => [], [], [], none⟩, ⟨some 119, some (u2), fun _ => [], fun ds_ u_ => [], [], [], none⟩, ⟨some 120, some (.int .i64 x10), fun _ => [], fun ds_ u_ => [], [], [], none⟩, ⟨some 121, none, fun u_ => [(true, .ptr (Rep.slice (Rep.slice (Rep.int .u8))) u_ x28)], fun ds_ u_ => [], [], [], none⟩, ⟨some 122, none, fun u_ => [(true, .val (Rep.slice (Rep.slice (Rep.int .u8))) u_ x28)], fun ds_ u_ => [], [], [], none⟩, ⟨some 123, some (u3), fun _ => [], fun ds_ u_ => [], [], [], none⟩, ⟨some 124, some (.int .i64 x10), fun _ => [], fun ds_ u_ => [], [], [], none⟩, ⟨some 125, some ((padd (sp u3) ((x10 : Int).toNat * (Rep.int .i64).n))), fun _ => [], fun ds_ u_ => [], [], [(1, [])], none⟩, ⟨some 126, some (.int .i64 x29), fun _ => [], fun ds_ u_ => [], [], [(1, [])], none⟩, ⟨some 127, none, fun u_ => [(true, .ptr (Rep.slice (Rep.int .u8)) u_ x30)], fun ds_ u_ => [], [], [], none⟩, ⟨some 128, none, fun u_ => [(true, .val (Rep.slice (Rep.int .u8)) u_ x30)], fun ds_ u_ => [], [], [], none⟩, ⟨some 129, some ((padd u10 1)), fun _ => [], fun ds_ u_ => [], [], [(0, [])], none⟩, ⟨some 130, none, fun u_ => [(true, .val (Rep.slice (Rep.int .u8)) u_ y5.1.Bytes)], fun ds_ u_ => [], [], [(0, [])], none⟩, ⟨some 131, some (.bool y8), fun _ => [], fun ds_ u_ => [], [], [], none⟩, ⟨some 132, some (.bool (!y8)), fun _ => [], fun ds_ u_ => [], [], [], none⟩, ⟨some 133, some (.bool (!y8)), fun _ => [], fun ds_ u_ => [], [], [], none⟩] [[], [0], [1], [2], [2], [3, 4, 2], [2, 5], [6], [7], [7], [8, 9, 7], [10, 7], [7], [7], [12, 13, 7], [14, 7], [15, 7], [11, 16, 7], [7, 17], [18], [19], [19], [20, 21, 19], [22, 19], [19], [19], [24, 25, 19], [26, 19], [23, 27, 19], [28, 19], [19], [30, 19], [29, 31, 19], [32, 19], [19, 33]] [[(true, .box 46 Delivery_.rep u10 y5.1)], [(true, .slice 3 (Rep.int .i64) u3 s1.2.2.1)]] [0, 1, 2, 3, 4, 5, 6, 7, 8, 9, 10, 11, 12, 13, 14, 15, 16, 17, 18, 19, 20, 21, 22, 23, 24, 25, 26, 27, 28, 29, 30, 31, 32, 33, 34, 35, 36] Try_mixed rfl rfl rfl h60 (.cons ?_ (.cons ?_ (.cons ?_ (.cons ?_ (.cons ?_ (.cons ?_ (.cons ?_ (.cons ?_ (.cons ?_ (.cons ?_ (.cons ?_ (.cons ?_ (.cons ?_ (.cons ?_ (.cons ?_ (.cons ?_ (.cons ?_ (.cons ?_ (.cons ?_ (.cons ?_ (.cons ?_ (.cons ?_ (.cons ?_ (.cons ?_ (.cons ?_ (.cons ?_ (.cons ?_ (.cons ?_ (.cons ?_ (.cons ?_ (.cons ?_ (.cons ?_ (.cons ?_ (.cons ?_ (.cons ?_ .nil))))))))))))))))))))))))))))))))))) (fun q4 w hq10 h => ?_)
              ·intro q4 w Γx Ωx h
               refine OpS.mv rfl rfl rfl ?_
               exact ⟨undef, rfl, trivial, h⟩
              ·intro q4 w Γx Ωx h
               refine OpS.bin rfl rfl rfl rfl rfl ?_
               exact ⟨undef, rfl, trivial, h⟩
              ·intro q4 w Γx Ωx h
               refine OpS.mv rfl rfl rfl ?_
               exact ⟨undef, (congrArg (fun z_ => some (Value.bool z_)) e51), trivial, h⟩
              ·intro q4 w Γx Ωx h
               refine OpS.mv rfl rfl rfl ?_
               exact ⟨undef, rfl, trivial, h⟩
              ·intro q4 w Γx Ωx h
               refine OpS.mv rfl rfl rfl ?_
               exact ⟨undef, rfl, trivial, h⟩
              ·intro q4 w Γx Ωx h
               refine OpS.bin rfl rfl rfl rfl rfl ?_
               exact ⟨undef, rfl, trivial, h⟩
              ·intro q4 w Γx Ωx h
               refine OpS.pick rfl rfl rfl rfl ?_
               exact ⟨undef, rfl, trivial, h⟩
              ·intro q4 w Γx Ωx h
               refine OpS.mv rfl rfl rfl ?_
               exact ⟨undef, (congrArg (fun z_ => some (Value.bool z_)) e53), trivial, h⟩
              ·intro q4 w Γx Ωx h
               refine OpS.mv rfl rfl rfl ?_
               exact ⟨undef, rfl, trivial, h⟩
              ·intro q4 w Γx Ωx h
               refine OpS.mv rfl rfl rfl ?_
               exact ⟨undef, rfl, trivial, h⟩
              ·intro q4 w Γx Ωx h
               have h : St e w ([(true, .ptr (Rep.int .i64) u13 x10), (true, .val (Rep.slice (Rep.int .i64)) u12 y5.1.Masters), (true, .val (Rep.slice (Rep.int .i64)) u11 y5.1.Masters), (true, .val (Rep.slice (Rep.slice (Rep.slice (Rep.int .u8)))) u2 y4.2.1)] ++ Γx) ([(true, .slice 3 (Rep.int .i64) u3 s1.2.2.1), (false, .box 76 (Rep.iso (fun s : bus_Bus => (s.masters, ())) (Rep.prod (Rep.raw (α := List bus_master) u9) Rep.unit)) u5 y5.2.2), (true, .box 58 (Rep.arr 8 (Rep.arr 8 (Rep.int .i64))) u4 s4.2), (false, .oval (oslice 85 3 (fun _ => bus_master.orep)) u9 y5.2.2.masters)] ++ Ωx) := h
               refine OpS.iown h .z Try.underlying33 ty3 rfl rfl rfl rfl e55 ?_
               exact ⟨undef, rfl, trivial, h⟩
              ·intro q4 w Γx Ωx h
               have h : St e w ([(true, .ptr (Rep.int .i64) u13 x10), (true, .val (Rep.slice (Rep.int .i64)) u12 y5.1.Masters), (true, .val (Rep.slice (Rep.int .i64)) u11 y5.1.Masters), (true, .val (Rep.slice (Rep.slice (Rep.slice (Rep.int .u8)))) u2 y4.2.1)] ++ Γx) ([(true, .slice 3 (Rep.int .i64) u3 s1.2.2.1), (false, .box 76 (Rep.iso (fun s : bus_Bus => (s.masters, ())) (Rep.prod (Rep.raw (α := List bus_master) u9) Rep.unit)) u5 y5.2.2), (true, .box 58 (Rep.arr 8 (Rep.arr 8 (Rep.int .i64))) u4 s4.2), (false, .oval (oslice 85 3 (fun _ => bus_master.orep)) u9 y5.2.2.masters)] ++ Ωx) := h
               refine OpS.loadOi h .z (idx_ne e55) PA.a (Get.arr e55) ty3 rfl rfl rfl ?_
               exact ⟨undef, rfl, trivial, h⟩
              ·intro q4 w Γx Ωx h
               refine OpS.mv rfl rfl rfl ?_
               exact ⟨undef, rfl, trivial, h⟩
              ·intro q4 w Γx Ωx h
               refine OpS.mv rfl rfl rfl ?_
               exact ⟨undef, rfl, trivial, h⟩
              ·intro q4 w Γx Ωx h
               refine OpS.iptr h Try.underlying54 ty59 rfl rfl rfl rfl (V.at (.s (.s (.s .z)))) e56 (fun u h75 => ?_)
               exact ⟨u, rfl, trivial, h75⟩
              ·intro q4 w Γx Ωx h
               refine OpS.load h ty59 rfl rfl rfl .z (fun u h76 => ?_)
               exact ⟨u, rfl, trivial, h76⟩
              ·intro q4 w Γx Ωx h
               refine OpS.len h Try.underlying59 rfl rfl rfl (V.at .z) ?_
               exact ⟨undef, rfl, trivial, h⟩
              ·intro q4 w Γx Ωx h
               refine OpS.bin rfl rfl rfl rfl rfl ?_
               exact ⟨undef, rfl, trivial, h⟩
              ·intro q4 w Γx Ωx h
               refine OpS.pick rfl rfl rfl rfl ?_
               exact ⟨undef, rfl, trivial, h⟩
              ·intro q4 w Γx Ωx h
               refine OpS.mv rfl rfl rfl ?_
               exact ⟨undef, (congrArg (fun z_ => some (Value.bool z_)) e57), trivial, h⟩
              ·intro q4 w Γx Ωx h
               refine OpS.mv rfl rfl rfl ?_
               exact ⟨undef, rfl, trivial, h⟩
              ·intro q4 w Γx Ωx h
               refine OpS.mv rfl rfl rfl ?_
               exact ⟨undef, rfl, trivial, h⟩
              ·intro q4 w Γx Ωx h
               refine OpS.iptr h Try.underlying54 ty59 rfl rfl rfl rfl (V.at (.s (.s (.s .z)))) e59 (fun u h77 => ?_)
               exact ⟨u, rfl, trivial, h77⟩
              ·intro q4 w Γx Ωx h
               refine OpS.load h ty59 rfl rfl rfl .z (fun u h78 => ?_)
               exact ⟨u, rfl, trivial, h78⟩
              ·intro q4 w Γx Ωx h
               refine OpS.mv rfl rfl rfl ?_
               exact ⟨undef, rfl, trivial, h⟩
              ·intro q4 w Γx Ωx h
               refine OpS.mv rfl rfl rfl ?_
               exact ⟨undef, rfl, trivial, h⟩
              ·intro q4 w Γx Ωx h
               have h : St e w ([(true, .ptr (Rep.int .i64) u13 x10), (true, .val (Rep.slice (Rep.int .i64)) u12 y5.1.Masters), (true, .val (Rep.slice (Rep.int .i64)) u11 y5.1.Masters), (true, .val (Rep.slice (Rep.slice (Rep.slice (Rep.int .u8)))) u2 y4.2.1)] ++ Γx) ([(true, .slice 3 (Rep.int .i64) u3 s1.2.2.1), (false, .box 76 (Rep.iso (fun s : bus_Bus => (s.masters, ())) (Rep.prod (Rep.raw (α := List bus_master) u9) Rep.unit)) u5 y5.2.2), (true, .box 58 (Rep.arr 8 (Rep.arr 8 (Rep.int .i64))) u4 s4.2), (false, .oval (oslice 85 3 (fun _ => bus_master.orep)) u9 y5.2.2.masters)] ++ Ωx) := h
               refine OpS.iown h .z Try.underlying33 ty3 rfl rfl rfl rfl e60 ?_
               exact ⟨undef, rfl, trivial, h⟩
              ·intro q4 w Γx Ωx h
               have h : St e w ([(true, .ptr (Rep.int .i64) u13 x10), (true, .val (Rep.slice (Rep.int .i64)) u12 y5.1.Masters), (true, .val (Rep.slice (Rep.int .i64)) u11 y5.1.Masters), (true, .val (Rep.slice (Rep.slice (Rep.slice (Rep.int .u8)))) u2 y4.2.1)] ++ Γx) ([(true, .slice 3 (Rep.int .i64) u3 s1.2.2.1), (false, .box 76 (Rep.iso (fun s : bus_Bus => (s.masters, ())) (Rep.prod (Rep.raw (α := List bus_master) u9) Rep.unit)) u5 y5.2.2), (true, .box 58 (Rep.arr 8 (Rep.arr 8 (Rep.int .i64))) u4 s4.2), (false, .oval (oslice 85 3 (fun _ => bus_master.orep)) u9 y5.2.2.masters)] ++ Ωx) := h
               refine OpS.loadOi h .z (idx_ne e60) PA.a (Get.arr e60) ty3 rfl rfl rfl ?_
               exact ⟨undef, rfl, trivial, h⟩
              ·intro q4 w Γx Ωx h
               refine OpS.iptr h Try.underlying59 ty34 rfl rfl rfl rfl (V.at .z) e61 (fun u h79 => ?_)
               exact ⟨u, rfl, trivial, h79⟩
              ·intro q4 w Γx Ωx h
               refine OpS.load h ty34 rfl rfl rfl .z (fun u h80 => ?_)
               exact ⟨u, rfl, trivial, h80⟩
              ·intro q4 w Γx Ωx h
               have h : St e w ([(true, .ptr (Rep.int .i64) u13 x10), (true, .val (Rep.slice (Rep.int .i64)) u12 y5.1.Masters), (true, .val (Rep.slice (Rep.int .i64)) u11 y5.1.Masters), (true, .val (Rep.slice (Rep.slice (Rep.slice (Rep.int .u8)))) u2 y4.2.1)] ++ Γx) ([(true, .box 46 Delivery_.rep u10 y5.1), (false, .box 76 (Rep.iso (fun s : bus_Bus => (s.masters, ())) (Rep.prod (Rep.raw (α := List bus_master) u9) Rep.unit)) u5 y5.2.2), (true, .box 58 (Rep.arr 8 (Rep.arr 8 (Rep.int .i64))) u4 s4.2), (false, .oval (oslice 85 3 (fun _ => bus_master.orep)) u9 y5.2.2.masters)] ++ Ωx) := h
               refine OpS.fbox (o3 := 1) h .z PA.z fa46_1 rfl rfl rfl rfl ?_
               exact ⟨undef, rfl, trivial, h⟩
              ·intro q4 w Γx Ωx h
               have h : St e w ([(true, .ptr (Rep.int .i64) u13 x10), (true, .val (Rep.slice (Rep.int .i64)) u12 y5.1.Masters), (true, .val (Rep.slice (Rep.int .i64)) u11 y5.1.Masters), (true, .val (Rep.slice (Rep.slice (Rep.slice (Rep.int .u8)))) u2 y4.2.1)] ++ Γx) ([(true, .box 46 Delivery_.rep u10 y5.1), (false, .box 76 (Rep.iso (fun s : bus_Bus => (s.masters, ())) (Rep.prod (Rep.raw (α := List bus_master) u9) Rep.unit)) u5 y5.2.2), (true, .box 58 (Rep.arr 8 (Rep.arr 8 (Rep.int .i64))) u4 s4.2), (false, .oval (oslice 85 3 (fun _ => bus_master.orep)) u9 y5.2.2.masters)] ++ Ωx) := h
               refine OpS.loadB h .z PA.a (Get.fld Delivery_.f1) ty34 rfl rfl rfl (fun u h81 => ?_)
               exact ⟨u, rfl, trivial, h81⟩
              ·intro q4 w Γx Ωx h
               refine OpS.callP h Try.func26 rfl rfl rfl rfl (vs := [(q4 29), (q4 31)]) rfl (ref01_Same_ok e62) (.cons (f := true) (V.at .z) (.cons (f := true) (V.at (.s .z)) .nil)) ?_
               rintro _ w22 _ _ _ ⟨rfl, rfl, rfl, rfl⟩ h82
               have h83 := h82 rfl rfl
               simp only [List.cons_append, List.nil_append] at h83
               exact ⟨undef, rfl, trivial, h83⟩
              ·intro q4 w Γx Ωx h
               refine OpS.not rfl rfl rfl ?_
               exact ⟨undef, rfl, trivial, h⟩
              ·intro q4 w Γx Ωx h
               refine OpS.pick rfl rfl rfl rfl ?_
               exact ⟨undef, rfl, trivial, h⟩
              have h84 : St e w [(true, .ptr (Rep.slice (Rep.slice (Rep.int .u8))) (q4 14) x26), (true, .val (Rep.slice (Rep.slice (Rep.int .u8))) (q4 15) x26), (true, .ptr (Rep.slice (Rep.slice (Rep.int .u8))) (q4 22) x28), (true, .val (Rep.slice (Rep.slice (Rep.int .u8))) (q4 23) x28), (true, .ptr (Rep.slice (Rep.int .u8)) (q4 28) x30), (true, .val (Rep.slice (Rep.int .u8)) (q4 29) x30), (true, .val (Rep.slice (Rep.int .u8)) (q4 31) y5.1.Bytes), (true, .ptr (Rep.int .i64) u13 x10), (true, .val (Rep.slice (Rep.int .i64)) u12 y5.1.Masters), (true, .val (Rep.slice (Rep.int .i64)) u11 y5.1.Masters), (true, .val (Rep.slice (Rep.slice (Rep.slice (Rep.int .u8)))) u2 y4.2.1)] [(true, .box 46 Delivery_.rep u10 y5.1), (true, .slice 3 (Rep.int .i64) u3 s1.2.2.1), (false, .box 76 (Rep.iso (fun s : bus_Bus => (s.masters, ())) (Rep.prod (Rep.raw (α := List bus_master) u9) Rep.unit)) u5 y5.2.2), (true, .box 58 (Rep.arr 8 (Rep.arr 8 (Rep.int .i64))) u4 s4.2), (false, .oval (oslice 85 3 (fun _ => bus_master.orep)) u9 y5.2.2.masters)] := h
              refine RunL.nil ?_
              refine Run.slim [(133, .bool (!y8)), (17, .int .i64 x10), (5, .int .i64 x1), (6, u5), (7, u2), (9, u3), (10, u4), (11, .int .i64 s1.1), (12, u10), (16, .int .i64 s4.1)] ⟨rfl, rfl, rfl, rfl, rfl, rfl, rfl, rfl, rfl, rfl, trivial⟩ ?_
              refine Run.slim [(5, .int .i64 x1), (6, u5), (7, u2), (9, u3), (10, u4), (11, .int .i64 s1.1), (12, u10), (16, .int .i64 s4.1), (17, .int .i64 x10), (133, .bool (!y8))] ⟨rfl, rfl, rfl, rfl, rfl, rfl, rfl, rfl, rfl, rfl, trivial⟩ ?_
              exact hj2 (!y8) _ _ ⟨rfl, (h84.facts (.atm (.s (.s (.s (.s (.s (.s (.s (.s (.s (.s .z)))))))))) .nil)).picks (.cons (.s (.s .z)) (.cons (.s (.s .z)) (.cons .z (.cons .z (.cons .z .nil)))))⟩ hF
         ·
          refine Run.exit rfl ?_
          refine Run.seq ?_
          refine Run.reg ?_
          refine op (OpS.as rfl rfl rfl ?_)
          refine RunL.nil ?_
          refine Run.slim [(19, .int .i64 0), (5, .int .i64 x1), (6, u5), (7, u2), (9, u3), (10, u4), (11, .int .i64 s1.1), (12, u10)] ⟨rfl, rfl, rfl, rfl, rfl, rfl, rfl, rfl, trivial⟩ ?_
          refine Run.block ?_
          refine Run.slim [(5, .int .i64 x1), (6, u5), (7, u2), (9, u3), (10, u4), (11, .int .i64 s1.1), (12, u10), (19, .int .i64 0)] ⟨rfl, rfl, rfl, rfl, rfl, rfl, rfl, rfl, trivial⟩ ?_
          refine Run.loopP (σ := (Int × (List (List Int)) × (List Int))) (fun s_ L_ w_ => L_ = [(5, .int .i64 x1), (6, u5), (7, u2), (9, u3), (10, u4), (11, .int .i64 s1.1), (12, u10), (19, .int .i64 s_.1)] ∧ St e w_ [(true, .val (Rep.slice (Rep.slice (Rep.slice (Rep.int .u8)))) u2 y4.2.1)] [(false, .box 76 (Rep.iso (fun s : bus_Bus => (s.masters, ())) (Rep.prod (Rep.raw (α := List bus_master) u9) Rep.unit)) u5 y5.2.2), (true, .box 58 (Rep.arr 8 (Rep.arr 8 (Rep.int .i64))) u4 s_.2.1), (true, .box 46 Delivery_.rep u10 y5.1), (true, .slice 3 (Rep.int .i64) u3 s_.2.2), (false, .oval (oslice 85 3 (fun _ => bus_master.orep)) u9 y5.2.2.masters)]) hF ⟨rfl, (h35.facts (.atm (.s .z) .nil)).picks (.cons .z (.cons .z (.cons .z (.cons .z (.cons .z .nil)))))⟩ (fun k5 hk5 s8 _ w23 hI hF => ?_)
          obtain ⟨rfl, h85⟩ := hI
          refine Run.seq ?_
          refine Run.seq ?_
          refine Run.reg ?_
          refine op (OpS.mv rfl rfl rfl ?_)
          refine op (OpS.fbox (o3 := 0) h85 (.s (.s .z)) PA.z fa46_0 rfl rfl rfl rfl ?_)
          refine op (OpS.loadB h85 (.s (.s .z)) PA.a (Get.fld Delivery_.f0) ty33 rfl rfl rfl (fun u14 h86 => ?_))
          refine op (OpS.len h86 Try.underlying33 rfl rfl rfl (V.at .z) ?_)
          refine op (OpS.bin rfl rfl rfl rfl rfl ?_)
          refine RunL.nil ?_
          refine Run.slim [(176, .bool (decide (s8.1 < (y5.1.Masters.length : Int)))), (5, .int .i64 x1), (6, u5), (7, u2), (9, u3), (10, u4), (11, .int .i64 s1.1), (12, u10), (19, .int .i64 s8.1)] ⟨rfl, rfl, rfl, rfl, rfl, rfl, rfl, rfl, rfl, trivial⟩ ?_
          refine Run.ite rfl hF (fun e63 hF => ?_) (fun e63 hF => ?_)
          ·
           refine Run.skip ?_
           refine Run.seq ?_
           refine Run.block ?_
           refine Run.seq ?_
           refine Run.reg ?_
           refine op (OpS.mv rfl rfl rfl ?_)
           refine op (OpS.fbox (o3 := 0) h86 (.s (.s .z)) PA.z fa46_0 rfl rfl rfl rfl ?_)
           refine op (OpS.loadB h86 (.s (.s .z)) PA.a (Get.fld Delivery_.f0) ty33 rfl rfl rfl (fun u15 h87 => ?_))
           refine op (OpS.mv rfl rfl rfl ?_)
           obtain ⟨x31, e64, hF⟩ := bindP_use hF
           refine op (OpS.iptr h87 Try.underlying33 ty3 rfl rfl rfl rfl (V.at .z) e64 (fun u16 h88 => ?_))
           refine op (OpS.loadi h88 ty3 rfl rfl rfl .z ?_)
           obtain ⟨x32, e65, hF⟩ := bindP_use hF
           refine op (OpS.iown h88 (.s (.s (.s .z))) Try.underlying33 ty3 rfl rfl rfl rfl e65 ?_)
           refine op (OpS.loadOi h88 (.s (.s (.s .z))) (idx_ne e65) PA.a (Get.arr e65) ty3 rfl rfl rfl ?_)
           refine op (OpS.bin rfl rfl rfl rfl rfl ?_)
           obtain ⟨x33, e66, hF⟩ := bindP_use hF
           refine op (OpS.iown h88 (.s (.s (.s .z))) Try.underlying33 ty3 rfl rfl rfl rfl e66 ?_)
           obtain ⟨d2, e67, hF⟩ := letP_use hF
           refine op (OpS.storeO (f' := true) h88 (.s (.s (.s .z))) (idx_ne e66) PA.a (Put.of (Put.arr e66) e67) ty3 rfl rfl rfl V.int (.inl rfl) (fun w24 h89 => ?_))
           refine RunL.nil ?_
           refine Run.slim [(5, .int .i64 x1), (6, u5), (7, u2), (9, u3), (10, u4), (11, .int .i64 s1.1), (12, u10), (19, .int .i64 s8.1)] ⟨rfl, rfl, rfl, rfl, rfl, rfl, rfl, rfl, trivial⟩ ?_
           refine Run.reg ?_
           refine op (OpS.fbox (o3 := 0) h89 (.s (.s (.s .z))) PA.z fa46_0 rfl rfl rfl rfl ?_)
           refine op (OpS.loadB h89 (.s (.s (.s .z))) PA.a (Get.fld Delivery_.f0) ty33 rfl rfl rfl (fun u17 h90 => ?_))
           refine op (OpS.mv rfl rfl rfl ?_)
           obtain ⟨x34, e68, hF⟩ := bindP_use hF
           refine op (OpS.iptr h90 Try.underlying33 ty3 rfl rfl rfl rfl (V.at .z) e68 (fun u18 h91 => ?_))
           refine op (OpS.loadi h91 ty3 rfl rfl rfl .z ?_)
           refine op (OpS.buildZ (f := true) (r := (Rep.arr 8 (Rep.int .i64))) (x := (List.replicate 8 0)) h91 Try.underlying57 ti3 ti57 (Zr.of (Zr.arr (Zr.int .i64 0) 8) rfl) rfl rfl rfl (fun u19 h92 => ?_))
           obtain ⟨x35, e69, hF⟩ := bindP_use hF
           obtain ⟨e70, hF⟩ := chk_use hF
           refine op (OpS.ibox h92 (.s (.s .z)) PA.z Try.underlying58 ty57 (Nat.eq_of_beq_eq_true e70) rfl rfl rfl rfl e69 ?_)
           obtain ⟨d3, e71, hF⟩ := letP_use hF
           refine op (OpS.storeB (f' := true) h92 (.s (.s .z)) PA.a (Put.of (Put.comp Get.id (Put.arr e69) Put.id) e71) ty57 rfl rfl rfl (V.at .z) (.inl rfl) (fun w25 h93 => ?_))
           refine RunL.nil ?_
           refine Run.slim [(5, .int .i64 x1), (6, u5), (7, u2), (9, u3), (10, u4), (11, .int .i64 s1.1), (12, u10), (19, .int .i64 s8.1)] ⟨rfl, rfl, rfl, rfl, rfl, rfl, rfl, rfl, trivial⟩ ?_
           refine Run.endBlock ?_
           refine Run.reg ?_
           refine op (OpS.mv rfl rfl rfl ?_)
           refine op (OpS.bin rfl rfl rfl rfl rfl ?_)
           refine op (OpS.as rfl rfl rfl ?_)
           obtain ⟨x36, e72, hF⟩ := letP_use hF
           refine RunL.name e72 ?_
           refine RunL.nil ?_
           refine Run.slim [(19, .int .i64 x36), (5, .int .i64 x1), (6, u5), (7, u2), (9, u3), (10, u4), (11, .int .i64 s1.1), (12, u10)] ⟨rfl, rfl, rfl, rfl, rfl, rfl, rfl, rfl, trivial⟩ ?_
           refine Run.slim [(5, .int .i64 x1), (6, u5), (7, u2), (9, u3), (10, u4), (11, .int .i64 s1.1), (12, u10), (19, .int .i64 x36)] ⟨rfl, rfl, rfl, rfl, rfl, rfl, rfl, rfl, trivial⟩ ?_
           exact hk5 (x36, d3, d2) _ _ ⟨rfl, (h93.facts (.atm (.s (.s (.s (.s (.s (.s .z)))))) .nil)).picks (.cons (.s (.s .z)) (.cons .z (.cons (.s .z) (.cons .z (.cons .z .nil)))))⟩ hF
          ·
           refine Run.exit rfl ?_
           refine Run.endBlock ?_
           refine Run.reg ?_
           refine op (OpS.mv rfl rfl rfl ?_)
           refine op (OpS.bin rfl rfl rfl rfl rfl ?_)
           refine op (OpS.as rfl rfl rfl ?_)
           obtain ⟨x37, e73, hF⟩ := letP_use hF
           refine RunL.name e73 ?_
           refine RunL.nil ?_
           refine Run.slim [(11, .int .i64 x37), (5, .int .i64 x1), (6, u5), (7, u2), (9, u3), (10, u4)] ⟨rfl, rfl, rfl, rfl, rfl, rfl, trivial⟩ ?_
           have h94 := h86.front (.cons .z (.cons (.s (.s (.s .z))) .nil))
           have h95 := St.some (H := (fun x_ => .ex fun v_ => .sep (.box 76 (Rep.iso (fun s : bus_Bus => (s.masters, ())) (Rep.prod (Rep.raw (α := List bus_master) v_) Rep.unit)) u5 x_) (.oval (oslice 85 3 (fun _ => bus_master.orep)) v_ x_.masters))) (q := u5) (x := y5.2.2) (St.ex (H := fun v_ => .sep (.box 76 (Rep.iso (fun s : bus_Bus => (s.masters, ())) (Rep.prod (Rep.raw (α := List bus_master) v_) Rep.unit)) u5 y5.2.2) (.oval (oslice 85 3 (fun _ => bus_master.orep)) v_ y5.2.2.masters)) u9 (St.sep h94))
           refine Run.slim [(5, .int .i64 x1), (6, u5), (7, u2), (9, u3), (10, u4), (11, .int .i64 x37)] ⟨rfl, rfl, rfl, rfl, rfl, rfl, trivial⟩ ?_
           exact hk1 (x37, s8.2.1, s8.2.2, (some y5.2.2)) _ _ ⟨u5, rfl, (h95.facts (.atm (.s .z) .nil)).picks (.cons (.s .z) (.cons (.s (.s .z)) (.cons .z .nil)))⟩ hF
       ·
        refine RunL.caseb hF (fun e74 hF => ?_) (fun e74 hF => ?_)
        ·
         refine op (OpS.pass rfl rfl rfl ?_)
         refine op (OpS.pass rfl rfl rfl ?_)
         refine op (OpS.pass rfl rfl rfl ?_)
         refine op (OpS.pass rfl rfl rfl ?_)
         refine op (OpS.pick rfl rfl rfl rfl ?_)
         refine op (OpS.mv rfl rfl rfl ?_)
         refine op (OpS.pass rfl rfl rfl ?_)
         refine op (OpS.pass rfl rfl rfl ?_)
         refine op (OpS.pass rfl rfl rfl ?_)
         refine op (OpS.pass rfl rfl rfl ?_)
         refine op (OpS.pick rfl rfl rfl rfl ?_)
         refine RunL.nil ?_
         refine Run.slim [(86, .bool true), (5, .int .i64 x1), (6, u5), (7, u2), (9, u3), (10, u4), (11, .int .i64 s1.1), (12, u10)] ⟨rfl, rfl, rfl, rfl, rfl, rfl, rfl, rfl, trivial⟩ ?_
         refine Run.slim [(5, .int .i64 x1), (6, u5), (7, u2), (9, u3), (10, u4), (11, .int .i64 s1.1), (12, u10), (86, .bool true)] ⟨rfl, rfl, rfl, rfl, rfl, rfl, rfl, rfl, trivial⟩ ?_
         exact hj1 (true) _ _ ⟨rfl, (h23.facts (.atm .z .nil)).picks (.cons .z (.cons .z (.cons .z (.cons .z (.cons .z .nil)))))⟩ hF
        ·
         refine op (OpS.fbox (o3 := 0) h23 (.s (.s .z)) PA.z fa46_0 rfl rfl rfl rfl ?_)
         refine op (OpS.loadB h23 (.s (.s .z)) PA.a (Get.fld Delivery_.f0) ty33 rfl rfl rfl (fun u20 h96 => ?_))
         refine op (OpS.len h96 Try.underlying33 rfl rfl rfl (V.at .z) ?_)
         refine op (OpS.bin rfl rfl rfl rfl rfl ?_)
         refine op (OpS.pick rfl rfl rfl rfl ?_)
         refine op (OpS.mv rfl rfl rfl ?_)
         refine RunL.caseb hF (fun e75 hF => ?_) (fun e75 hF => ?_)
         ·
          refine op (OpS.pass rfl rfl rfl ?_)
          refine op (OpS.pass rfl rfl rfl ?_)
          refine op (OpS.pass rfl rfl rfl ?_)
          refine op (OpS.pass rfl rfl rfl ?_)
          refine op (OpS.pick rfl rfl rfl rfl ?_)
          refine RunL.nil ?_
          refine Run.slim [(86, .bool true), (5, .int .i64 x1), (6, u5), (7, u2), (9, u3), (10, u4), (11, .int .i64 s1.1), (12, u10)] ⟨rfl, rfl, rfl, rfl, rfl, rfl, rfl, rfl, trivial⟩ ?_
          refine Run.slim [(5, .int .i64 x1), (6, u5), (7, u2), (9, u3), (10, u4), (11, .int .i64 s1.1), (12, u10), (86, .bool true)] ⟨rfl, rfl, rfl, rfl, rfl, rfl, rfl, rfl, trivial⟩ ?_
          exact hj1 (true) _ _ ⟨rfl, (h96.facts (.atm (.s .z) .nil)).picks (.cons .z (.cons .z (.cons .z (.cons .z (.cons .z .nil)))))⟩ hF
         ·
          refine op (OpS.fbox (o3 := 3) h96 (.s (.s .z)) PA.z fa46_3 rfl rfl rfl rfl ?_)
          refine op (OpS.loadB h96 (.s (.s .z)) PA.a (Get.fld Delivery_.f3) ty33 rfl rfl rfl (fun u21 h97 => ?_))
          refine op (OpS.len h97 Try.underlying33 rfl rfl rfl (V.at .z) ?_)
          refine op (OpS.bin rfl rfl rfl rfl rfl ?_)
          refine op (OpS.pick rfl rfl rfl rfl ?_)
          refine RunL.nil ?_
          refine Run.slim [(86, .bool ((y5.1.Failed.length : Int) != 0)), (5, .int .i64 x1), (6, u5), (7, u2), (9, u3), (10, u4), (11, .int .i64 s1.1), (12, u10)] ⟨rfl, rfl, rfl, rfl, rfl, rfl, rfl, rfl, trivial⟩ ?_
          refine Run.slim [(5, .int .i64 x1), (6, u5), (7, u2), (9, u3), (10, u4), (11, .int .i64 s1.1), (12, u10), (86, .bool ((y5.1.Failed.length : Int) != 0))] ⟨rfl, rfl, rfl, rfl, rfl, rfl, rfl, rfl, trivial⟩ ?_
          exact hj1 ((y5.1.Failed.length : Int) != 0) _ _ ⟨rfl, (h97.facts (.atm (.s (.s .z)) .nil)).picks (.cons .z (.cons .z (.cons .z (.cons .z (.cons .z .nil)))))⟩ hF
   ·
    refine Run.exit rfl ?_
    refine Run.seq ?_
    refine Run.reg ?_
    refine op (OpS.as rfl rfl rfl ?_)
    refine RunL.nil ?_
    refine Run.slim [(4, .bool false)] ⟨rfl, trivial⟩ ?_
    refine Run.retP rfl (.tmp rfl .nil) ?_
    cases hF
    exact Post.mk' ⟨rfl, rfl, rfl, rfl⟩ (h13.picks .nil) .nil
end Lift
