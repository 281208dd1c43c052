/- Each Go function computes its plain function. Written by lift.py. -/
import Derived.Test.YtnilklnmhndlnaaFragmentPlaysWalksB
set_option linter.unusedVariables false
set_option linter.unusedSimpArgs false
namespace Lift
open Go Go.Proofs
open RunL (op)
set_option maxHeartbeats 8000000 in
theorem law22_FragmentPlays_ok {fuel : Nat} {a0 : Int} {a1 : List Packet_} {a2 : List Int} {y : Bool} (hF : law22_FragmentPlays fuel a0 a1 a2 = some y) {w : World} {v1 v2 : Value} :
  Spec Try.prog 4 [.int .u8 a0, v1, v2].toArray w [(false, .val (Rep.slice Packet_.rep) v1 a1), (false, .val (Rep.slice (Rep.int .i64)) v2 a2)] [] (fun v Γr Ωr Ωo => v = .bool y ∧ Γr = [] ∧ Ωr = [] ∧ Ωo = []) := by
 refine Spec.of (L := [(0, .int .u8 a0), (1, v1), (2, v2)]) Try.func4 rfl ⟨rfl, rfl, rfl, trivial⟩ rfl (fun e h => ?_)
 unfold law22_FragmentPlays at hF
 refine Run.seq ?_
 refine Run.reg ?_
 refine op (OpS.as rfl rfl rfl ?_)
 refine RunL.nil ?_
 refine Run.slim [(0, .int .u8 a0), (1, v1), (2, v2)] ⟨rfl, rfl, rfl, trivial⟩ ?_
 refine Run.seq ?_
 refine Run.seq ?_
 refine Run.reg ?_
 refine op (OpS.mv rfl rfl rfl ?_)
 refine op (OpS.len h Try.underlying27 rfl rfl rfl (V.at .z) ?_)
 refine op (OpS.bin rfl rfl rfl rfl rfl ?_)
 refine op (OpS.mv rfl rfl rfl ?_)
 refine RunL.join (σ := Bool) (fun s_ L_ w_ => L_ = [(0, .int .u8 a0), (1, v1), (2, v2), (39, .bool s_)] ∧ St e w_ [(false, .val (Rep.slice Packet_.rep) v1 a1), (false, .val (Rep.slice (Rep.int .i64)) v2 a2)] []) hF (fun s1 _ w1 hI hF => ?_) (fun j1 hj1 hF => ?_)
 ·
  obtain ⟨rfl, h1⟩ := hI
  refine Run.ite rfl hF (fun e1 hF => ?_) (fun e1 hF => ?_)
  ·
   refine Run.seq ?_
   refine Run.reg ?_
   obtain ⟨y1, e2, hF⟩ := bindP_use hF
   refine op (OpS.callP h1 Try.func11 rfl rfl rfl rfl (vs := []) rfl (law22_awake_ok e2) .nil ?_)
   rintro _ w2 _ _ _ ⟨rfl, rfl, rfl, rfl⟩ h2
   have h3 := h2 rfl rfl
   simp only [List.cons_append, List.nil_append] at h3
   refine op (OpS.as rfl rfl rfl ?_)
   refine RunL.nil ?_
   refine Run.slim [(6, .bool y1)] ⟨rfl, trivial⟩ ?_
   refine Run.retP rfl (.tmp rfl .nil) ?_
   cases hF
   exact Post.mk' ⟨rfl, rfl, rfl, rfl⟩ (h3.picks .nil) .nil
  ·
   refine Run.skip ?_
   refine Run.seq ?_
   refine Run.reg ?_
   refine op (OpS.mv rfl rfl rfl ?_)
   obtain ⟨y2, e3, hF⟩ := bindP_use hF
   refine op (OpS.callP h1 Try.func17 rfl rfl rfl rfl (vs := [.int .u8 a0]) rfl (fragment_New_ok e3) .nil ?_)
   rintro _ w3 _ _ _ ⟨u1, rfl, rfl, rfl, rfl⟩ h4
   have h5 := h4 rfl rfl
   simp only [List.cons_append, List.nil_append] at h5
   refine op (OpS.mv rfl rfl rfl ?_)
   refine op (OpS.ext rfl rfl rfl rfl ?_)
   refine op (OpS.ext rfl rfl rfl rfl ?_)
   refine op (OpS.as rfl rfl rfl ?_)
   refine op (OpS.as rfl rfl rfl ?_)
   refine RunL.nil ?_
   refine Run.slim [(8, .int .i64 y2.2), (7, u1), (0, .int .u8 a0), (1, v1), (2, v2)] ⟨rfl, rfl, rfl, rfl, rfl, trivial⟩ ?_
   refine Run.seq ?_
   refine Run.reg ?_
   refine op (OpS.mv rfl rfl rfl ?_)
   obtain ⟨y3, e4, hF⟩ := bindP_use hF
   refine op (OpS.callP h5 Try.func18 rfl rfl rfl rfl (vs := [.int .u8 a0]) rfl (ref22_New_ok e4) .nil ?_)
   rintro _ w4 _ _ _ ⟨u2, rfl, rfl, rfl, rfl⟩ h6
   have h7 := h6 rfl rfl
   simp only [List.cons_append, List.nil_append] at h7
   refine op (OpS.mv rfl rfl rfl ?_)
   refine op (OpS.ext rfl rfl rfl rfl ?_)
   refine op (OpS.ext rfl rfl rfl rfl ?_)
   refine op (OpS.as rfl rfl rfl ?_)
   refine op (OpS.as rfl rfl rfl ?_)
   refine RunL.nil ?_
   refine Run.slim [(10, .int .i64 y3.2), (8, .int .i64 y2.2), (7, u1), (1, v1), (2, v2)] ⟨rfl, rfl, rfl, rfl, rfl, trivial⟩ ?_
   refine Run.seq ?_
   refine Run.seq ?_
   refine Run.reg ?_
   refine op (OpS.mv rfl rfl rfl ?_)
   refine op (OpS.mv rfl rfl rfl ?_)
   refine op (OpS.bin rfl rfl rfl rfl rfl ?_)
   refine op (OpS.mv rfl rfl rfl ?_)
   refine RunL.join (σ := Bool) (fun s_ L_ w_ => L_ = [(1, v1), (2, v2), (60, .bool s_)] ∧ St e w_ [(false, .val (Rep.slice Packet_.rep) v1 a1), (false, .val (Rep.slice (Rep.int .i64)) v2 a2)] []) hF (fun s2 _ w5 hI hF => ?_) (fun j2 hj2 hF => ?_)
   ·
    obtain ⟨rfl, h8⟩ := hI
    refine Run.ite rfl hF (fun e5 hF => ?_) (fun e5 hF => ?_)
    ·
     refine Run.seq ?_
     refine Run.reg ?_
     refine op (OpS.as rfl rfl rfl ?_)
     refine RunL.nil ?_
     refine Run.slim [(6, .bool false)] ⟨rfl, trivial⟩ ?_
     refine Run.retP rfl (.tmp rfl .nil) ?_
     cases hF
     exact Post.mk' ⟨rfl, rfl, rfl, rfl⟩ (h8.picks .nil) .nil
    ·
     refine Run.skip ?_
     refine Run.seq ?_
     refine Run.reg ?_
     obtain ⟨y4, e6, hF⟩ := bindP_use hF
     refine op (OpS.callP h8 Try.func17 rfl rfl rfl rfl (vs := [.int .u8 9]) rfl (fragment_New_ok e6) .nil ?_)
     rintro _ w6 _ _ _ ⟨u3, rfl, rfl, rfl, rfl⟩ h9
     have h10 := h9 rfl rfl
     simp only [List.cons_append, List.nil_append] at h10
     refine op (OpS.mv rfl rfl rfl ?_)
     refine op (OpS.ext rfl rfl rfl rfl ?_)
     refine op (OpS.ext rfl rfl rfl rfl ?_)
     refine op (OpS.as rfl rfl rfl ?_)
     refine op (OpS.as rfl rfl rfl ?_)
     refine RunL.nil ?_
     refine Run.slim [(8, .int .i64 y4.2), (11, u3), (1, v1), (2, v2)] ⟨rfl, rfl, rfl, rfl, trivial⟩ ?_
     refine Run.seq ?_
     refine Run.reg ?_
     obtain ⟨y5, e7, hF⟩ := bindP_use hF
     refine op (OpS.callP h10 Try.func18 rfl rfl rfl rfl (vs := [.int .u8 9]) rfl (ref22_New_ok e7) .nil ?_)
     rintro _ w7 _ _ _ ⟨u4, rfl, rfl, rfl, rfl⟩ h11
     have h12 := h11 rfl rfl
     simp only [List.cons_append, List.nil_append] at h12
     refine op (OpS.mv rfl rfl rfl ?_)
     refine op (OpS.ext rfl rfl rfl rfl ?_)
     refine op (OpS.ext rfl rfl rfl rfl ?_)
     refine op (OpS.as rfl rfl rfl ?_)
     refine op (OpS.as rfl rfl rfl ?_)
     refine RunL.nil ?_
     refine Run.slim [(12, u4), (8, .int .i64 y4.2), (11, u3), (1, v1), (2, v2)] ⟨rfl, rfl, rfl, rfl, rfl, trivial⟩ ?_
     refine Run.seq ?_
     refine Run.seq ?_
     refine Run.reg ?_
     refine op (OpS.mv rfl rfl rfl ?_)
     refine op (OpS.onilE h12 (.s .z) (fun _ G_ S_ w_ h_ => ptr_one1 G_ S_ w_ h_) Try.underlying35 rfl rfl rfl rfl ?_)
     refine op (OpS.mv rfl rfl rfl ?_)
     refine RunL.join (σ := Bool) (fun s_ L_ w_ => L_ = [(1, v1), (2, v2), (11, u3), (12, u4), (74, .bool s_)] ∧ St e w_ [(false, .val (Rep.slice Packet_.rep) v1 a1), (false, .val (Rep.slice (Rep.int .i64)) v2 a2)] [(true, .opt (fun x_ => .ex fun v_ => .sep (.box 83 (Rep.iso (fun s : fragment_Assembler => (s.own, s.open_, ())) (Rep.prod (Rep.int .u8) (Rep.prod (Rep.raw (α := List fragment_open) v_) Rep.unit))) u3 x_) (.oval (oslice 92 6 (fun _ => fragment_open.orep)) v_ x_.open_)) u3 y4.1), (true, .opt (fun x_ => .ex fun v_ => .sep (.box 49 (Rep.iso (fun s : ref22_Assembler => (s.Own, s.Items, ())) (Rep.prod (Rep.int .u8) (Rep.prod (Rep.raw (α := List ref22_Item) v_) Rep.unit))) u4 x_) (.slice 53 ref22_Item.rep v_ x_.Items)) u4 y5.1)]) hF (fun s3 _ w8 hI hF => ?_) (fun j3 hj3 hF => ?_)
     ·
      obtain ⟨rfl, h13⟩ := hI
      refine Run.ite rfl hF (fun e8 hF => ?_) (fun e8 hF => ?_)
      ·
       refine Run.seq ?_
       refine Run.reg ?_
       refine op (OpS.as rfl rfl rfl ?_)
       refine RunL.nil ?_
       refine Run.slim [(6, .bool false)] ⟨rfl, trivial⟩ ?_
       refine Run.retP rfl (.tmp rfl .nil) ?_
       cases hF
       exact Post.mk' ⟨rfl, rfl, rfl, rfl⟩ (h13.picks .nil) .nil
      ·
       refine Run.skip ?_
       refine Run.seq ?_
       refine Run.reg ?_
       refine op (OpS.mv rfl rfl rfl ?_)
       obtain ⟨y6, e9, hF⟩ := bindP_use hF
       have h14 := h13.front .nil
       refine op (OpS.callO h14 Try.func19 rfl rfl rfl rfl (vs := [v2]) rfl (made_Roll_ok e9) rfl (.cons (f := false) (V.at (.s .z)) .nil) ?_)
       rintro u5 w9 _ _ _ ⟨_, rfl, rfl, rfl, rfl⟩ h15
       have h16 := h15
       simp only [List.cons_append, List.nil_append] at h16
       refine op (OpS.as rfl rfl rfl ?_)
       refine RunL.nil ?_
       refine Run.slim [(14, u5), (1, v1), (11, u3), (12, u4)] ⟨rfl, rfl, rfl, rfl, trivial⟩ ?_
       refine Run.seq ?_
       refine Run.reg ?_
       refine op (OpS.as rfl rfl rfl ?_)
       refine RunL.nil ?_
       refine Run.seq ?_
       refine Run.seq ?_
       refine Run.reg ?_
       refine op (OpS.as rfl rfl rfl ?_)
       refine RunL.nil ?_
       refine Run.block ?_
       have h17 := St.nil 44 Packet_.rep h16
       have h18 := (h17.pick .z).weak
       refine Run.slim [(1, v1), (11, u3), (12, u4), (14, u5), (15, (.slice none 0 0)), (16, .int .i64 0)] ⟨rfl, rfl, rfl, rfl, rfl, rfl, trivial⟩ ?_
       refine Run.loopP (σ := (Int × (List Packet_))) (fun s_ L_ w_ => ∃ u0_ : Value, L_ = [(1, v1), (11, u3), (12, u4), (14, u5), (15, u0_), (16, .int .i64 s_.1)] ∧ St e w_ [(false, .val (Rep.slice Packet_.rep) v1 a1)] [(true, .opt (fun x_ => .ex fun v_ => .sep (.box 83 (Rep.iso (fun s : fragment_Assembler => (s.own, s.open_, ())) (Rep.prod (Rep.int .u8) (Rep.prod (Rep.raw (α := List fragment_open) v_) Rep.unit))) u3 x_) (.oval (oslice 92 6 (fun _ => fragment_open.orep)) v_ x_.open_)) u3 y4.1), (true, .opt (fun x_ => .ex fun v_ => .sep (.box 49 (Rep.iso (fun s : ref22_Assembler => (s.Own, s.Items, ())) (Rep.prod (Rep.int .u8) (Rep.prod (Rep.raw (α := List ref22_Item) v_) Rep.unit))) u4 x_) (.slice 53 ref22_Item.rep v_ x_.Items)) u4 y5.1), (false, .box 85 made_Dice.rep u5 y6), (false, .slice 44 Packet_.rep u0_ s_.2)]) hF ⟨(.slice none 0 0), rfl, (h18.facts (.atm .z .nil)).picks (.cons (.s (.s .z)) (.cons (.s (.s .z)) (.cons (.s .z) (.cons .z .nil))))⟩ (fun k1 hk1 s4 _ w10 hI hF => ?_)
       obtain ⟨u6, rfl, h19⟩ := hI
       refine Run.seq ?_
       refine Run.seq ?_
       refine Run.reg ?_
       refine op (OpS.mv rfl rfl rfl ?_)
       refine op (OpS.mv rfl rfl rfl ?_)
       refine op (OpS.len h19 Try.underlying27 rfl rfl rfl (V.at .z) ?_)
       refine op (OpS.bin rfl rfl rfl rfl rfl ?_)
       refine RunL.nil ?_
       refine Run.slim [(80, .bool (decide (s4.1 < (a1.length : Int)))), (1, v1), (11, u3), (12, u4), (14, u5), (15, u6), (16, .int .i64 s4.1)] ⟨rfl, rfl, rfl, rfl, rfl, rfl, rfl, trivial⟩ ?_
       refine Run.ite rfl hF (fun e10 hF => ?_) (fun e10 hF => ?_)
       ·
        refine Run.skip ?_
        refine Run.seq ?_
        refine Run.block ?_
        refine Run.seq ?_
        refine Run.seq ?_
        refine Run.reg ?_
        refine op (OpS.mv rfl rfl rfl ?_)
        refine op (OpS.mv rfl rfl rfl ?_)
        obtain ⟨x1, e11, hF⟩ := bindP_use hF
        refine op (OpS.iptr h19 Try.underlying27 ty44 rfl rfl rfl rfl (V.at .z) e11 (fun u7 h20 => ?_))
        refine op (OpS.fptr h20 fa44_7 Packet_.f7 rfl rfl rfl .z (fun u8 h21 => ?_))
        refine op (OpS.load h21 ty22 rfl rfl rfl .z (fun u9 h22 => ?_))
        refine op (OpS.len h22 Try.underlying22 rfl rfl rfl (V.at .z) ?_)
        refine op (OpS.bin rfl rfl rfl rfl rfl ?_)
        refine RunL.nil ?_
        refine Run.slim [(89, .bool (decide ((x1.Data.length : Int) > 100))), (1, v1), (11, u3), (12, u4), (14, u5), (15, u6), (16, .int .i64 s4.1)] ⟨rfl, rfl, rfl, rfl, rfl, rfl, rfl, trivial⟩ ?_
        refine Run.ite rfl hF (fun e12 hF => ?_) (fun e12 hF => ?_)
        ·
         refine Run.seq ?_
         refine Run.reg ?_
         obtain ⟨y7, e13, hF⟩ := bindP_use hF
         refine op (OpS.callP h22 Try.func11 rfl rfl rfl rfl (vs := []) rfl (law22_awake_ok e13) .nil ?_)
         rintro _ w11 _ _ _ ⟨rfl, rfl, rfl, rfl⟩ h23
         have h24 := h23 rfl rfl
         simp only [List.cons_append, List.nil_append] at h24
         refine op (OpS.as rfl rfl rfl ?_)
         refine RunL.nil ?_
         refine Run.slim [(6, .bool y7)] ⟨rfl, trivial⟩ ?_
         refine Run.retP rfl (.tmp rfl .nil) ?_
         cases hF
         exact Post.mk' ⟨rfl, rfl, rfl, rfl⟩ (h24.picks .nil) .nil
        ·
         refine Run.skip ?_
         refine Run.reg ?_
         refine op (OpS.mv rfl rfl rfl ?_)
         refine op (OpS.mv rfl rfl rfl ?_)
         refine op (OpS.mv rfl rfl rfl ?_)
         obtain ⟨x2, e14, hF⟩ := bindP_use hF
         refine op (OpS.iptr h22 Try.underlying27 ty44 rfl rfl rfl rfl (V.at (.s (.s (.s .z)))) e14 (fun u10 h25 => ?_))
         refine op (OpS.load h25 ty44 rfl rfl rfl .z (fun u11 h26 => ?_))
         refine op (OpS.lit (r := Packet_.rep) (f := false) h26 Try.underlying27 ti44 rfl rfl rfl rfl rfl (.cons rfl (V.at .z) .nil) rfl rfl (fun u12 w12 h27 => ?_))
         obtain ⟨x3, e15, hF⟩ := bindP_use hF
         refine op (OpS.app (f' := false) h27 (.s (.s (.s .z))) Try.underlying27 ti44 rfl rfl rfl rfl rfl rfl rfl (V.at .z) (.inl (.inr rfl)) e15 (fun u13 w13 h28 => ?_))
         refine op (OpS.as rfl rfl rfl ?_)
         refine RunL.nil ?_
         refine Run.slim [(15, u13), (1, v1), (11, u3), (12, u4), (14, u5), (16, .int .i64 s4.1)] ⟨rfl, rfl, rfl, rfl, rfl, rfl, trivial⟩ ?_
         refine Run.endBlock ?_
         refine Run.reg ?_
         refine op (OpS.mv rfl rfl rfl ?_)
         refine op (OpS.bin rfl rfl rfl rfl rfl ?_)
         refine op (OpS.as rfl rfl rfl ?_)
         obtain ⟨x4, e16, hF⟩ := letP_use hF
         refine RunL.name e16 ?_
         refine RunL.nil ?_
         refine Run.slim [(16, .int .i64 x4), (15, u13), (1, v1), (11, u3), (12, u4), (14, u5)] ⟨rfl, rfl, rfl, rfl, rfl, rfl, trivial⟩ ?_
         refine Run.slim [(1, v1), (11, u3), (12, u4), (14, u5), (15, u13), (16, .int .i64 x4)] ⟨rfl, rfl, rfl, rfl, rfl, rfl, trivial⟩ ?_
         exact hk1 (x4, x3) _ _ ⟨u13, rfl, (h28.facts (.atm (.s (.s (.s (.s (.s (.s .z)))))) .nil)).picks (.cons (.s .z) (.cons (.s .z) (.cons (.s .z) (.cons .z .nil))))⟩ hF
       ·
        refine Run.exit rfl ?_
        refine Run.seq ?_
        refine Run.block ?_
        have h29 := (h19.pick .z).weak
        have h30 := (h29.pick (.s .z)).weak
        refine Run.slim [(11, u3), (12, u4), (14, u5), (15, u6)] ⟨rfl, rfl, rfl, rfl, trivial⟩ ?_
        refine Run.loopP (σ := (made_Dice × (Option fragment_Assembler) × (Option ref22_Assembler))) (fun s_ L_ w_ => ∃ u0_ u1_ : Value, L_ = [(11, u0_), (12, u1_), (14, u5), (15, u6)] ∧ St e w_ [] [(false, .box 85 made_Dice.rep u5 s_.1), (false, .slice 44 Packet_.rep u6 s4.2), (false, .opt (fun x_ => .ex fun v_ => .sep (.box 83 (Rep.iso (fun s : fragment_Assembler => (s.own, s.open_, ())) (Rep.prod (Rep.int .u8) (Rep.prod (Rep.raw (α := List fragment_open) v_) Rep.unit))) u0_ x_) (.oval (oslice 92 6 (fun _ => fragment_open.orep)) v_ x_.open_)) u0_ s_.2.1), (false, .opt (fun x_ => .ex fun v_ => .sep (.box 49 (Rep.iso (fun s : ref22_Assembler => (s.Own, s.Items, ())) (Rep.prod (Rep.int .u8) (Rep.prod (Rep.raw (α := List ref22_Item) v_) Rep.unit))) u1_ x_) (.slice 53 ref22_Item.rep v_ x_.Items)) u1_ s_.2.2)]) hF ⟨u3, u4, rfl, (h30.facts .nil).picks (.cons (.s (.s .z)) (.cons (.s (.s .z)) (.cons (.s .z) (.cons .z .nil))))⟩ (fun k2 hk2 s5 _ w14 hI hF => ?_)
        obtain ⟨u14, u15, rfl, h31⟩ := hI
        refine Run.seq ?_
        refine Run.seq ?_
        refine Run.reg ?_
        refine op (OpS.mv rfl rfl rfl ?_)
        obtain ⟨y8, e17, hF⟩ := bindP_use hF
        refine op (OpS.callP h31 Try.func20 rfl rfl rfl rfl (vs := [u5]) rfl (made_Dice_Left_ok e17) (.box .z .nil) ?_)
        rintro _ w15 _ _ _ ⟨rfl, rfl, rfl, rfl⟩ h32
        have h33 := h32 rfl rfl
        simp only [List.cons_append, List.nil_append] at h33
        refine op (OpS.mv rfl rfl rfl ?_)
        refine RunL.join (σ := Bool) (fun s_ L_ w_ => L_ = [(11, u14), (12, u15), (14, u5), (15, u6), (104, .bool s_)] ∧ St e w_ [] [(false, .opt (fun x_ => .ex fun v_ => .sep (.box 83 (Rep.iso (fun s : fragment_Assembler => (s.own, s.open_, ())) (Rep.prod (Rep.int .u8) (Rep.prod (Rep.raw (α := List fragment_open) v_) Rep.unit))) u14 x_) (.oval (oslice 92 6 (fun _ => fragment_open.orep)) v_ x_.open_)) u14 s5.2.1), (false, .opt (fun x_ => .ex fun v_ => .sep (.box 49 (Rep.iso (fun s : ref22_Assembler => (s.Own, s.Items, ())) (Rep.prod (Rep.int .u8) (Rep.prod (Rep.raw (α := List ref22_Item) v_) Rep.unit))) u15 x_) (.slice 53 ref22_Item.rep v_ x_.Items)) u15 s5.2.2), (false, .box 85 made_Dice.rep u5 s5.1), (false, .slice 44 Packet_.rep u6 s4.2)]) hF (fun s6 _ w16 hI hF => ?_) (fun j4 hj4 hF => ?_)
        ·
         obtain ⟨rfl, h34⟩ := hI
         refine Run.ite rfl hF (fun e18 hF => ?_) (fun e18 hF => ?_)
         ·
          refine Run.skip ?_
          refine Run.block ?_
          refine Run.seq ?_
          refine Run.reg ?_
          refine op (OpS.mv rfl rfl rfl ?_)
          obtain ⟨y9, e19, hF⟩ := bindP_use hF
          have h35 := h34.front (.cons (.s (.s .z)) .nil)
          refine op (OpS.callO h35 Try.func21 rfl rfl rfl rfl (vs := [u5]) rfl (made_Dice_Packet_ok e19) rfl .nil ?_)
          rintro u16 w17 _ _ _ ⟨_, rfl, rfl, rfl, rfl⟩ h36
          have h37 := h36
          simp only [List.cons_append, List.nil_append] at h37
          refine op (OpS.alloc h37 ti44 Packet_.zr rfl rfl (fun u17 w18 h38 => ?_))
          refine op (OpS.storeB (f' := true) h38 .z PA.z Put.id ty44 rfl rfl rfl (V.at .z) (.inl rfl) (fun w19 h39 => ?_))
          refine RunL.nil ?_
          refine Run.slim [(17, u17), (11, u14), (12, u15), (14, u5), (15, u6)] ⟨rfl, rfl, rfl, rfl, rfl, trivial⟩ ?_
          refine Run.seq ?_
          refine Run.seq ?_
          refine Run.reg ?_
          refine op (OpS.mv rfl rfl rfl ?_)
          obtain ⟨y10, e20, hF⟩ := bindP_use hF
          have h40 := h39.front (.cons (.s .z) .nil)
          refine op (OpS.callO h40 Try.func22 rfl rfl rfl rfl (vs := [u5, .int .i64 2]) rfl (made_Dice_Bool_ok e20) rfl .nil ?_)
          rintro _ w20 _ _ _ ⟨rfl, rfl, rfl, rfl⟩ h41
          have h42 := h41
          simp only [List.cons_append, List.nil_append] at h42
          refine op (OpS.mv rfl rfl rfl ?_)
          refine RunL.join (σ := (Bool × (Option ref22_Assembler))) (fun s_ L_ w_ => ∃ u0_ : Value, L_ = [(11, u14), (12, u0_), (14, u5), (15, u6), (17, u17), (116, .bool s_.1)] ∧ St e w_ [] [(false, .opt (fun x_ => .ex fun v_ => .sep (.box 83 (Rep.iso (fun s : fragment_Assembler => (s.own, s.open_, ())) (Rep.prod (Rep.int .u8) (Rep.prod (Rep.raw (α := List fragment_open) v_) Rep.unit))) u14 x_) (.oval (oslice 92 6 (fun _ => fragment_open.orep)) v_ x_.open_)) u14 s5.2.1), (false, .box 85 made_Dice.rep u5 y10.2), (true, .box 44 Packet_.rep u17 y9.1), (false, .slice 44 Packet_.rep u6 s4.2), (false, .opt (fun x_ => .ex fun v_ => .sep (.box 49 (Rep.iso (fun s : ref22_Assembler => (s.Own, s.Items, ())) (Rep.prod (Rep.int .u8) (Rep.prod (Rep.raw (α := List ref22_Item) v_) Rep.unit))) u0_ x_) (.slice 53 ref22_Item.rep v_ x_.Items)) u0_ s_.2)]) hF (fun s7 _ w21 hI hF => ?_) (fun j5 hj5 hF => ?_)
          ·
           obtain ⟨u18, rfl, h43⟩ := hI
           refine Run.join (σ := (made_Dice × Packet_ × (Option ref22_Assembler))) (fun s_ L_ w_ => ∃ u0_ : Value, L_ = [(11, u14), (12, u0_), (14, u5), (15, u6), (17, u17)] ∧ St e w_ [] [(false, .opt (fun x_ => .ex fun v_ => .sep (.box 83 (Rep.iso (fun s : fragment_Assembler => (s.own, s.open_, ())) (Rep.prod (Rep.int .u8) (Rep.prod (Rep.raw (α := List fragment_open) v_) Rep.unit))) u14 x_) (.oval (oslice 92 6 (fun _ => fragment_open.orep)) v_ x_.open_)) u14 s5.2.1), (false, .box 85 made_Dice.rep u5 s_.1), (true, .box 44 Packet_.rep u17 s_.2.1), (false, .slice 44 Packet_.rep u6 s4.2), (false, .opt (fun x_ => .ex fun v_ => .sep (.box 49 (Rep.iso (fun s : ref22_Assembler => (s.Own, s.Items, ())) (Rep.prod (Rep.int .u8) (Rep.prod (Rep.raw (α := List ref22_Item) v_) Rep.unit))) u0_ x_) (.slice 53 ref22_Item.rep v_ x_.Items)) u0_ s_.2.2)]) hF (fun s8 _ w22 hI hF => ?_) (fun j6 hj6 hF => ?_)
           ·
            obtain ⟨u19, rfl, h44⟩ := hI
            refine Run.seq ?_
            refine Run.seq ?_
            refine Run.reg ?_
            refine op (OpS.mv rfl rfl rfl ?_)
            obtain ⟨y11, e21, hF⟩ := bindP_use hF
            have h45 := h44.front (.cons (.s .z) .nil)
            refine op (OpS.callO h45 Try.func22 rfl rfl rfl rfl (vs := [u5, .int .i64 9]) rfl (made_Dice_Bool_ok e21) rfl .nil ?_)
            rintro _ w23 _ _ _ ⟨rfl, rfl, rfl, rfl⟩ h46
            have h47 := h46
            simp only [List.cons_append, List.nil_append] at h47
            refine RunL.nil ?_
            refine Run.slim [(160, .bool y11.1), (11, u14), (12, u19), (14, u5), (15, u6), (17, u17)] ⟨rfl, rfl, rfl, rfl, rfl, rfl, trivial⟩ ?_
            refine Run.join (σ := (made_Dice × Packet_)) (fun s_ L_ w_ => L_ = [(11, u14), (12, u19), (14, u5), (15, u6), (17, u17)] ∧ St e w_ [] [(false, .opt (fun x_ => .ex fun v_ => .sep (.box 83 (Rep.iso (fun s : fragment_Assembler => (s.own, s.open_, ())) (Rep.prod (Rep.int .u8) (Rep.prod (Rep.raw (α := List fragment_open) v_) Rep.unit))) u14 x_) (.oval (oslice 92 6 (fun _ => fragment_open.orep)) v_ x_.open_)) u14 s5.2.1), (false, .opt (fun x_ => .ex fun v_ => .sep (.box 49 (Rep.iso (fun s : ref22_Assembler => (s.Own, s.Items, ())) (Rep.prod (Rep.int .u8) (Rep.prod (Rep.raw (α := List ref22_Item) v_) Rep.unit))) u19 x_) (.slice 53 ref22_Item.rep v_ x_.Items)) u19 s8.2.2), (false, .box 85 made_Dice.rep u5 s_.1), (true, .box 44 Packet_.rep u17 s_.2), (false, .slice 44 Packet_.rep u6 s4.2)]) hF (fun s9 _ w24 hI hF => ?_) (fun j7 hj7 hF => ?_)
            ·
             obtain ⟨rfl, h48⟩ := hI
             refine Run.seq ?_
             refine Run.reg ?_
             refine op (OpS.mv rfl rfl rfl ?_)
             refine op (OpS.loadB h48 (.s (.s (.s .z))) PA.z Get.id ty44 rfl rfl rfl (fun u20 h49 => ?_))
             obtain ⟨x5, e22, hF⟩ := bindP_use hF
             have h50 := St.unopt (h49.pick .z) e22
             obtain ⟨u21, h51⟩ := h50.unex
             have h52 := h51.unsep
             obtain ⟨y12, e23, hF⟩ := bindP_use hF
             have h53 := h52.front (.cons .z (.cons .z .nil))
             refine op (OpS.callO h53 Try.func24 rfl rfl rfl rfl (vs := [u14, u20]) rfl (fragment_Assembler_Accept_ok e23) rfl (.cons (f := true) (V.at .z) .nil) ?_)
             rintro _ w25 _ _ _ ⟨u22, u23, rfl, rfl, rfl, rfl⟩ h54
             have h55 := h54
             simp only [List.cons_append, List.nil_append] at h55
             refine op (OpS.mv rfl rfl rfl ?_)
             refine op (OpS.ext rfl rfl rfl rfl ?_)
             refine op (OpS.ext rfl rfl rfl rfl ?_)
             refine op (OpS.ext rfl rfl rfl rfl ?_)
             refine op (OpS.alloc h55 ti51 Whole_.zr rfl rfl (fun u24 w26 h56 => ?_))
             have h57 := (h56.pick .z).weak
             refine op (OpS.storeB (f' := false) h57 .z PA.z Put.id ty51 rfl rfl rfl (V.at .z) (.inr rfl) (fun w27 h58 => ?_))
             refine op (OpS.as rfl rfl rfl ?_)
             refine op (OpS.as rfl rfl rfl ?_)
             refine RunL.nil ?_
             refine Run.slim [(21, .int .i64 y12.2.2.1), (20, .bool y12.2.1), (19, u24), (11, u14), (12, u19), (14, u5), (15, u6), (17, u17)] ⟨rfl, rfl, rfl, rfl, rfl, rfl, rfl, rfl, trivial⟩ ?_
             refine Run.seq ?_
             refine Run.reg ?_
             refine op (OpS.mv rfl rfl rfl ?_)
             refine op (OpS.loadB h58 (.s (.s (.s (.s (.s .z))))) PA.z Get.id ty44 rfl rfl rfl (fun u25 h59 => ?_))
             obtain ⟨x6, e24, hF⟩ := bindP_use hF
             have h60 := St.unopt (h59.pick (.s (.s (.s .z)))) e24
             obtain ⟨u26, h61⟩ := h60.unex
             have h62 := h61.unsep
             obtain ⟨y13, e25, hF⟩ := bindP_use hF
             have h63 := h62.front (.cons .z (.cons .z .nil))
             refine op (OpS.callO h63 Try.func25 rfl rfl rfl rfl (vs := [u19, u25]) rfl (ref22_Assembler_Accept_ok e25) rfl (.cons (f := true) (V.at .z) .nil) ?_)
             rintro _ w28 _ _ _ ⟨u27, u28, rfl, rfl, rfl, rfl⟩ h64
             have h65 := h64
             simp only [List.cons_append, List.nil_append] at h65
             refine op (OpS.mv rfl rfl rfl ?_)
             refine op (OpS.ext rfl rfl rfl rfl ?_)
             refine op (OpS.ext rfl rfl rfl rfl ?_)
             refine op (OpS.ext rfl rfl rfl rfl ?_)
             refine op (OpS.alloc h65 ti51 Whole_.zr rfl rfl (fun u29 w29 h66 => ?_))
             refine op (OpS.storeB (f' := true) h66 .z PA.z Put.id ty51 rfl rfl rfl (V.at .z) (.inl rfl) (fun w30 h67 => ?_))
             refine op (OpS.as rfl rfl rfl ?_)
             refine op (OpS.as rfl rfl rfl ?_)
             refine RunL.nil ?_
             refine Run.slim [(24, .int .i64 y13.2.2.1), (23, .bool y13.2.1), (22, u29), (21, .int .i64 y12.2.2.1), (20, .bool y12.2.1), (19, u24), (11, u14), (12, u19), (14, u5), (15, u6)] ⟨rfl, rfl, rfl, rfl, rfl, rfl, rfl, rfl, rfl, rfl, trivial⟩ ?_
             refine Run.seq ?_
             obtain ⟨x7, e26, hF⟩ := letP_use hF
             refine iteP_use hF (fun e27 hF => ?_) (fun e27 hF => ?_)
             ·
              have hG := hF
              subst e27
              have hF := hG
              refine Run.drawV (Ωs := [(false, .box 85 made_Dice.rep u5 s9.1), (true, .box 44 Packet_.rep u17 s9.2), (false, .slice 44 Packet_.rep u6 s4.2)]) [⟨some 184, some (.int .i64 y12.2.2.1), fun _ => [], fun ds_ u_ => [], [], [], none⟩, ⟨some 185, some (.int .i64 y13.2.2.1), fun _ => [], fun ds_ u_ => [], [], [], none⟩, ⟨some 186, some (.bool (y12.2.2.1 != y13.2.2.1)), fun _ => [], fun ds_ u_ => [], [], [], none⟩, ⟨some 187, some (.bool true), fun _ => [], fun ds_ u_ => [], [], [], none⟩, ⟨some 188, some undef, fun _ => [], fun _ _ => [], [], [], none⟩, ⟨some 189, some undef, fun _ => [], fun _ _ => [], [], [], none⟩, ⟨some 190, some undef, fun _ => [], fun _ _ => [], [], [], none⟩, ⟨some 191, some (.bool true), fun _ => [], fun ds_ u_ => [], [], [], none⟩, ⟨some 192, some (.bool true), fun _ => [], fun ds_ u_ => [], [], [], none⟩, ⟨some 193, some undef, fun _ => [], fun _ _ => [], [], [], none⟩, ⟨some 194, some undef, fun _ => [], fun _ _ => [], [], [], none⟩, ⟨some 195, some undef, fun _ => [], fun _ _ => [], [], [], none⟩, ⟨some 196, some undef, fun _ => [], fun _ _ => [], [], [], none⟩, ⟨some 197, some (.bool true), fun _ => [], fun ds_ u_ => [], [], [], none⟩, ⟨some 198, some (.bool true), fun _ => [], fun ds_ u_ => [], [], [], none⟩, ⟨some 199, some undef, fun _ => [], fun _ _ => [], [], [], none⟩, ⟨some 200, some undef, fun _ => [], fun _ _ => [], [], [], none⟩, ⟨some 201, some undef, fun _ => [], fun _ _ => [], [], [], none⟩, ⟨some 202, some undef, fun _ => [], fun _ _ => [], [], [], none⟩, ⟨some 203, some undef, fun _ => [], fun _ _ => [], [], [], none⟩, ⟨some 204, some undef, fun _ => [], fun _ _ => [], [], [], none⟩, ⟨some 205, some undef, fun _ => [], fun _ _ => [], [], [], none⟩, ⟨some 206, some undef, fun _ => [], fun _ _ => [], [], [], none⟩, ⟨some 207, some (.bool true), fun _ => [], fun ds_ u_ => [], [], [], none⟩] [[], [], [0, 1], [2], [3], [3], [3], [3, 6], [7], [8], [8], [8], [8], [8, 12], [13], [14], [14], [14], [14], [14], [14], [14], [14], [14, 22]] [[(true, .box 51 Whole_.rep u29 y13.1)], [(false, .box 49 (Rep.iso (fun s : ref22_Assembler => (s.Own, s.Items, ())) (Rep.prod (Rep.int .u8) (Rep.prod (Rep.raw (α := List ref22_Item) u28) Rep.unit))) u19 y13.2.2.2)], [(false, .slice 53 ref22_Item.rep u28 y13.2.2.2.Items)], [(false, .box 51 Whole_.rep u24 y12.1)], [(false, .box 83 (Rep.iso (fun s : fragment_Assembler => (s.own, s.open_, ())) (Rep.prod (Rep.int .u8) (Rep.prod (Rep.raw (α := List fragment_open) u23) Rep.unit))) u14 y12.2.2.2)], [(false, .oval (oslice 92 6 (fun _ => fragment_open.orep)) u23 y12.2.2.2.open_)]] [0, 1, 2, 3, 4, 5, 6, 7, 8, 9, 10, 11, 12, 13, 14, 15, 16, 17, 18, 19, 20, 21, 22, 23, 24, 25, 26, 27, 28, 29] Try_mixed rfl rfl rfl h67 (.cons ?_ (.cons ?_ (.cons ?_ (.cons ?_ (.cons ?_ (.cons ?_ (.cons ?_ (.cons ?_ (.cons ?_ (.cons ?_ (.cons ?_ (.cons ?_ (.cons ?_ (.cons ?_ (.cons ?_ (.cons ?_ (.cons ?_ (.cons ?_ (.cons ?_ (.cons ?_ (.cons ?_ (.cons ?_ (.cons ?_ (.cons ?_ .nil)))))))))))))))))))))))) (fun q1 w hq1 h => ?_)
              ·intro q1 w Γx Ωx h
               refine OpS.mv rfl rfl rfl ?_
               exact ⟨undef, rfl, trivial, h⟩
              ·intro q1 w Γx Ωx h
               refine OpS.mv rfl rfl rfl ?_
               exact ⟨undef, rfl, trivial, h⟩
              ·intro q1 w Γx Ωx h
               refine OpS.bin rfl rfl rfl rfl rfl ?_
               exact ⟨undef, rfl, trivial, h⟩
              ·intro q1 w Γx Ωx h
               refine OpS.mv rfl rfl rfl ?_
               exact ⟨undef, (congrArg (fun z_ => some (Value.bool z_)) e26), trivial, h⟩
              ·intro q1 w Γx Ωx h
               exact OpS.pass rfl rfl rfl ⟨undef, rfl, trivial, h⟩
              ·intro q1 w Γx Ωx h
               exact OpS.pass rfl rfl rfl ⟨undef, rfl, trivial, h⟩
              ·intro q1 w Γx Ωx h
               exact OpS.pass rfl rfl rfl ⟨undef, rfl, trivial, h⟩
              ·intro q1 w Γx Ωx h
               refine OpS.pick rfl rfl rfl rfl ?_
               exact ⟨undef, rfl, trivial, h⟩
              ·intro q1 w Γx Ωx h
               refine OpS.mv rfl rfl rfl ?_
               exact ⟨undef, rfl, trivial, h⟩
              ·intro q1 w Γx Ωx h
               exact OpS.pass rfl rfl rfl ⟨undef, rfl, trivial, h⟩
              ·intro q1 w Γx Ωx h
               exact OpS.pass rfl rfl rfl ⟨undef, rfl, trivial, h⟩
              ·intro q1 w Γx Ωx h
               exact OpS.pass rfl rfl rfl ⟨undef, rfl, trivial, h⟩
              ·intro q1 w Γx Ωx h
               exact OpS.pass rfl rfl rfl ⟨undef, rfl, trivial, h⟩
              ·intro q1 w Γx Ωx h
               refine OpS.pick rfl rfl rfl rfl ?_
               exact ⟨undef, rfl, trivial, h⟩
              ·intro q1 w Γx Ωx h
               refine OpS.mv rfl rfl rfl ?_
               exact ⟨undef, rfl, trivial, h⟩
              ·intro q1 w Γx Ωx h
               exact OpS.pass rfl rfl rfl ⟨undef, rfl, trivial, h⟩
              ·intro q1 w Γx Ωx h
               exact OpS.pass rfl rfl rfl ⟨undef, rfl, trivial, h⟩
              ·intro q1 w Γx Ωx h
               exact OpS.pass rfl rfl rfl ⟨undef, rfl, trivial, h⟩
              ·intro q1 w Γx Ωx h
               exact OpS.pass rfl rfl rfl ⟨undef, rfl, trivial, h⟩
              ·intro q1 w Γx Ωx h
               exact OpS.pass rfl rfl rfl ⟨undef, rfl, trivial, h⟩
              ·intro q1 w Γx Ωx h
               exact OpS.pass rfl rfl rfl ⟨undef, rfl, trivial, h⟩
              ·intro q1 w Γx Ωx h
               exact OpS.pass rfl rfl rfl ⟨undef, rfl, trivial, h⟩
              ·intro q1 w Γx Ωx h
               exact OpS.pass rfl rfl rfl ⟨undef, rfl, trivial, h⟩
              ·intro q1 w Γx Ωx h
               refine OpS.pick rfl rfl rfl rfl ?_
               exact ⟨undef, rfl, trivial, h⟩
              have h68 : St e w [(true, .val Whole_.rep u27 y13.1), (true, .val Packet_.rep u25 s9.2), (false, .val Whole_.rep u22 y12.1), (true, .val Packet_.rep u20 s9.2)] [(true, .box 51 Whole_.rep u29 y13.1), (false, .box 49 (Rep.iso (fun s : ref22_Assembler => (s.Own, s.Items, ())) (Rep.prod (Rep.int .u8) (Rep.prod (Rep.raw (α := List ref22_Item) u28) Rep.unit))) u19 y13.2.2.2), (false, .slice 53 ref22_Item.rep u28 y13.2.2.2.Items), (false, .box 51 Whole_.rep u24 y12.1), (false, .box 83 (Rep.iso (fun s : fragment_Assembler => (s.own, s.open_, ())) (Rep.prod (Rep.int .u8) (Rep.prod (Rep.raw (α := List fragment_open) u23) Rep.unit))) u14 y12.2.2.2), (false, .oval (oslice 92 6 (fun _ => fragment_open.orep)) u23 y12.2.2.2.open_), (false, .box 85 made_Dice.rep u5 s9.1), (true, .box 44 Packet_.rep u17 s9.2), (false, .slice 44 Packet_.rep u6 s4.2)] := h
              refine RunL.nil ?_
              refine Run.slim [(207, .bool true), (11, u14), (12, u19), (14, u5), (15, u6)] ⟨rfl, rfl, rfl, rfl, rfl, trivial⟩ ?_
              refine Run.condT rfl ?_
              refine Run.seq ?_
              refine Run.reg ?_
              refine op (OpS.as rfl rfl rfl ?_)
              refine RunL.nil ?_
              refine Run.slim [(6, .bool false)] ⟨rfl, trivial⟩ ?_
              refine Run.retP rfl (.tmp rfl .nil) ?_
              cases hF
              exact Post.mk' ⟨rfl, rfl, rfl, rfl⟩ (h68.picks .nil) .nil
             ·
              have hG := hF
              subst e27
              have hF := hG
              obtain ⟨x8, e28, hF⟩ := letP_use hF
              refine iteP_use hF (fun e29 hF => ?_) (fun e29 hF => ?_)
              ·
               have hG := hF
               subst e29
               have hF := hG
               refine Run.drawV (Ωs := [(false, .box 85 made_Dice.rep u5 s9.1), (true, .box 44 Packet_.rep u17 s9.2), (false, .slice 44 Packet_.rep u6 s4.2)]) [⟨some 184, some (.int .i64 y12.2.2.1), fun _ => [], fun ds_ u_ => [], [], [], none⟩, ⟨some 185, some (.int .i64 y13.2.2.1), fun _ => [], fun ds_ u_ => [], [], [], none⟩, ⟨some 186, some (.bool (y12.2.2.1 != y13.2.2.1)), fun _ => [], fun ds_ u_ => [], [], [], none⟩, ⟨some 187, some (.bool false), fun _ => [], fun ds_ u_ => [], [], [], none⟩, ⟨some 188, some (.bool y12.2.1), fun _ => [], fun ds_ u_ => [], [], [], none⟩, ⟨some 189, some (.bool y13.2.1), fun _ => [], fun ds_ u_ => [], [], [], none⟩, ⟨some 190, some (.bool (y12.2.1 != y13.2.1)), fun _ => [], fun ds_ u_ => [], [], [], none⟩, ⟨some 191, some (.bool (y12.2.1 != y13.2.1)), fun _ => [], fun ds_ u_ => [], [], [], none⟩, ⟨some 192, some (.bool true), fun _ => [], fun ds_ u_ => [], [], [], none⟩, ⟨some 193, some undef, fun _ => [], fun _ _ => [], [], [], none⟩, ⟨some 194, some undef, fun _ => [], fun _ _ => [], [], [], none⟩, ⟨some 195, some undef, fun _ => [], fun _ _ => [], [], [], none⟩, ⟨some 196, some undef, fun _ => [], fun _ _ => [], [], [], none⟩, ⟨some 197, some (.bool true), fun _ => [], fun ds_ u_ => [], [], [], none⟩, ⟨some 198, some (.bool true), fun _ => [], fun ds_ u_ => [], [], [], none⟩, ⟨some 199, some undef, fun _ => [], fun _ _ => [], [], [], none⟩, ⟨some 200, some undef, fun _ => [], fun _ _ => [], [], [], none⟩, ⟨some 201, some undef, fun _ => [], fun _ _ => [], [], [], none⟩, ⟨some 202, some undef, fun _ => [], fun _ _ => [], [], [], none⟩, ⟨some 203, some undef, fun _ => [], fun _ _ => [], [], [], none⟩, ⟨some 204, some undef, fun _ => [], fun _ _ => [], [], [], none⟩, ⟨some 205, some undef, fun _ => [], fun _ _ => [], [], [], none⟩, ⟨some 206, some undef, fun _ => [], fun _ _ => [], [], [], none⟩, ⟨some 207, some (.bool true), fun _ => [], fun ds_ u_ => [], [], [], none⟩] [[], [], [0, 1], [2], [3], [3], [4, 5, 3], [3, 6], [7], [8], [8], [8], [8], [8, 12], [13], [14], [14], [14], [14], [14], [14], [14], [14], [14, 22]] [[(true, .box 51 Whole_.rep u29 y13.1)], [(false, .box 49 (Rep.iso (fun s : ref22_Assembler => (s.Own, s.Items, ())) (Rep.prod (Rep.int .u8) (Rep.prod (Rep.raw (α := List ref22_Item) u28) Rep.unit))) u19 y13.2.2.2)], [(false, .slice 53 ref22_Item.rep u28 y13.2.2.2.Items)], [(false, .box 51 Whole_.rep u24 y12.1)], [(false, .box 83 (Rep.iso (fun s : fragment_Assembler => (s.own, s.open_, ())) (Rep.prod (Rep.int .u8) (Rep.prod (Rep.raw (α := List fragment_open) u23) Rep.unit))) u14 y12.2.2.2)], [(false, .oval (oslice 92 6 (fun _ => fragment_open.orep)) u23 y12.2.2.2.open_)]] [0, 1, 2, 3, 4, 5, 6, 7, 8, 9, 10, 11, 12, 13, 14, 15, 16, 17, 18, 19, 20, 21, 22, 23, 24, 25, 26, 27, 28, 29] Try_mixed rfl rfl rfl h67 (.cons ?_ (.cons ?_ (.cons ?_ (.cons ?_ (.cons ?_ (.cons ?_ (.cons ?_ (.cons ?_ (.cons ?_ (.cons ?_ (.cons ?_ (.cons ?_ (.cons ?_ (.cons ?_ (.cons ?_ (.cons ?_ (.cons ?_ (.cons ?_ (.cons ?_ (.cons ?_ (.cons ?_ (.cons ?_ (.cons ?_ (.cons ?_ .nil)))))))))))))))))))))))) (fun q1 w hq2 h => ?_)
               ·intro q1 w Γx Ωx h
                refine OpS.mv rfl rfl rfl ?_
                exact ⟨undef, rfl, trivial, h⟩
               ·intro q1 w Γx Ωx h
                refine OpS.mv rfl rfl rfl ?_
                exact ⟨undef, rfl, trivial, h⟩
               ·intro q1 w Γx Ωx h
                refine OpS.bin rfl rfl rfl rfl rfl ?_
                exact ⟨undef, rfl, trivial, h⟩
               ·intro q1 w Γx Ωx h
                refine OpS.mv rfl rfl rfl ?_
                exact ⟨undef, (congrArg (fun z_ => some (Value.bool z_)) e26), trivial, h⟩
               ·intro q1 w Γx Ωx h
                refine OpS.mv rfl rfl rfl ?_
                exact ⟨undef, rfl, trivial, h⟩
               ·intro q1 w Γx Ωx h
                refine OpS.mv rfl rfl rfl ?_
                exact ⟨undef, rfl, trivial, h⟩
               ·intro q1 w Γx Ωx h
                refine OpS.neb Try.underlying4 rfl rfl rfl rfl ?_
                exact ⟨undef, rfl, trivial, h⟩
               ·intro q1 w Γx Ωx h
                refine OpS.pick rfl rfl rfl rfl ?_
                exact ⟨undef, rfl, trivial, h⟩
               ·intro q1 w Γx Ωx h
                refine OpS.mv rfl rfl rfl ?_
                exact ⟨undef, (congrArg (fun z_ => some (Value.bool z_)) e28), trivial, h⟩
               ·intro q1 w Γx Ωx h
                exact OpS.pass rfl rfl rfl ⟨undef, rfl, trivial, h⟩
               ·intro q1 w Γx Ωx h
                exact OpS.pass rfl rfl rfl ⟨undef, rfl, trivial, h⟩
               ·intro q1 w Γx Ωx h
                exact OpS.pass rfl rfl rfl ⟨undef, rfl, trivial, h⟩
               ·intro q1 w Γx Ωx h
                exact OpS.pass rfl rfl rfl ⟨undef, rfl, trivial, h⟩
               ·intro q1 w Γx Ωx h
                refine OpS.pick rfl rfl rfl rfl ?_
                exact ⟨undef, rfl, trivial, h⟩
               ·intro q1 w Γx Ωx h
                refine OpS.mv rfl rfl rfl ?_
                exact ⟨undef, rfl, trivial, h⟩
               ·intro q1 w Γx Ωx h
                exact OpS.pass rfl rfl rfl ⟨undef, rfl, trivial, h⟩
               ·intro q1 w Γx Ωx h
                exact OpS.pass rfl rfl rfl ⟨undef, rfl, trivial, h⟩
               ·intro q1 w Γx Ωx h
                exact OpS.pass rfl rfl rfl ⟨undef, rfl, trivial, h⟩
               ·intro q1 w Γx Ωx h
                exact OpS.pass rfl rfl rfl ⟨undef, rfl, trivial, h⟩
               ·intro q1 w Γx Ωx h
                exact OpS.pass rfl rfl rfl ⟨undef, rfl, trivial, h⟩
               ·intro q1 w Γx Ωx h
                exact OpS.pass rfl rfl rfl ⟨undef, rfl, trivial, h⟩
               ·intro q1 w Γx Ωx h
                exact OpS.pass rfl rfl rfl ⟨undef, rfl, trivial, h⟩
               ·intro q1 w Γx Ωx h
                exact OpS.pass rfl rfl rfl ⟨undef, rfl, trivial, h⟩
               ·intro q1 w Γx Ωx h
                refine OpS.pick rfl rfl rfl rfl ?_
                exact ⟨undef, rfl, trivial, h⟩
               have h69 : St e w [(true, .val Whole_.rep u27 y13.1), (true, .val Packet_.rep u25 s9.2), (false, .val Whole_.rep u22 y12.1), (true, .val Packet_.rep u20 s9.2)] [(true, .box 51 Whole_.rep u29 y13.1), (false, .box 49 (Rep.iso (fun s : ref22_Assembler => (s.Own, s.Items, ())) (Rep.prod (Rep.int .u8) (Rep.prod (Rep.raw (α := List ref22_Item) u28) Rep.unit))) u19 y13.2.2.2), (false, .slice 53 ref22_Item.rep u28 y13.2.2.2.Items), (false, .box 51 Whole_.rep u24 y12.1), (false, .box 83 (Rep.iso (fun s : fragment_Assembler => (s.own, s.open_, ())) (Rep.prod (Rep.int .u8) (Rep.prod (Rep.raw (α := List fragment_open) u23) Rep.unit))) u14 y12.2.2.2), (false, .oval (oslice 92 6 (fun _ => fragment_open.orep)) u23 y12.2.2.2.open_), (false, .box 85 made_Dice.rep u5 s9.1), (true, .box 44 Packet_.rep u17 s9.2), (false, .slice 44 Packet_.rep u6 s4.2)] := h
               refine RunL.nil ?_
               refine Run.slim [(207, .bool true), (11, u14), (12, u19), (14, u5), (15, u6)] ⟨rfl, rfl, rfl, rfl, rfl, trivial⟩ ?_
               refine Run.condT rfl ?_
               refine Run.seq ?_
               refine Run.reg ?_
               refine op (OpS.as rfl rfl rfl ?_)
               refine RunL.nil ?_
               refine Run.slim [(6, .bool false)] ⟨rfl, trivial⟩ ?_
               refine Run.retP rfl (.tmp rfl .nil) ?_
               cases hF
               exact Post.mk' ⟨rfl, rfl, rfl, rfl⟩ (h69.picks .nil) .nil
              ·
               have hG := hF
               subst e29
               have hF := hG
               obtain ⟨y14, e30, hF⟩ := bindP_use hF
               obtain ⟨x9, e31, hF⟩ := letP_use hF
               refine iteP_use hF (fun e32 hF => ?_) (fun e32 hF => ?_)
               ·
                have hG := hF
                subst e32
                have hF := hG
                refine Run.drawV (Ωs := [(false, .box 85 made_Dice.rep u5 s9.1), (true, .box 44 Packet_.rep u17 s9.2), (false, .slice 44 Packet_.rep u6 s4.2)]) [⟨some 184, some (.int .i64 y12.2.2.1), fun _ => [], fun ds_ u_ => [], [], [], none⟩, ⟨some 185, some (.int .i64 y13.2.2.1), fun _ => [], fun ds_ u_ => [], [], [], none⟩, ⟨some 186, some (.bool (y12.2.2.1 != y13.2.2.1)), fun _ => [], fun ds_ u_ => [], [], [], none⟩, ⟨some 187, some (.bool false), fun _ => [], fun ds_ u_ => [], [], [], none⟩, ⟨some 188, some (.bool y12.2.1), fun _ => [], fun ds_ u_ => [], [], [], none⟩, ⟨some 189, some (.bool y13.2.1), fun _ => [], fun ds_ u_ => [], [], [], none⟩, ⟨some 190, some (.bool (y12.2.1 != y13.2.1)), fun _ => [], fun ds_ u_ => [], [], [], none⟩, ⟨some 191, some (.bool (y12.2.1 != y13.2.1)), fun _ => [], fun ds_ u_ => [], [], [], none⟩, ⟨some 192, some (.bool false), fun _ => [], fun ds_ u_ => [], [], [], none⟩, ⟨some 193, none, fun u_ => [(false, .val Whole_.rep u_ y12.1)], fun ds_ u_ => [], [], [(3, [])], none⟩, ⟨some 194, none, fun u_ => [(true, .val Whole_.rep u_ y13.1)], fun ds_ u_ => [], [], [(0, [])], none⟩, ⟨some 195, some (.bool y14), fun _ => [], fun ds_ u_ => [], [], [], none⟩, ⟨some 196, some (.bool (!y14)), fun _ => [], fun ds_ u_ => [], [], [], none⟩, ⟨some 197, some (.bool (!y14)), fun _ => [], fun ds_ u_ => [], [], [], none⟩, ⟨some 198, some (.bool true), fun _ => [], fun ds_ u_ => [], [], [], none⟩, ⟨some 199, some undef, fun _ => [], fun _ _ => [], [], [], none⟩, ⟨some 200, some undef, fun _ => [], fun _ _ => [], [], [], none⟩, ⟨some 201, some undef, fun _ => [], fun _ _ => [], [], [], none⟩, ⟨some 202, some undef, fun _ => [], fun _ _ => [], [], [], none⟩, ⟨some 203, some undef, fun _ => [], fun _ _ => [], [], [], none⟩, ⟨some 204, some undef, fun _ => [], fun _ _ => [], [], [], none⟩, ⟨some 205, some undef, fun _ => [], fun _ _ => [], [], [], none⟩, ⟨some 206, some undef, fun _ => [], fun _ _ => [], [], [], none⟩, ⟨some 207, some (.bool true), fun _ => [], fun ds_ u_ => [], [], [], none⟩] [[], [], [0, 1], [2], [3], [3], [4, 5, 3], [3, 6], [7], [8], [8], [9, 10, 8], [11, 8], [8, 12], [13], [14], [14], [14], [14], [14], [14], [14], [14], [14, 22]] [[(true, .box 51 Whole_.rep u29 y13.1)], [(false, .box 49 (Rep.iso (fun s : ref22_Assembler => (s.Own, s.Items, ())) (Rep.prod (Rep.int .u8) (Rep.prod (Rep.raw (α := List ref22_Item) u28) Rep.unit))) u19 y13.2.2.2)], [(false, .slice 53 ref22_Item.rep u28 y13.2.2.2.Items)], [(false, .box 51 Whole_.rep u24 y12.1)], [(false, .box 83 (Rep.iso (fun s : fragment_Assembler => (s.own, s.open_, ())) (Rep.prod (Rep.int .u8) (Rep.prod (Rep.raw (α := List fragment_open) u23) Rep.unit))) u14 y12.2.2.2)], [(false, .oval (oslice 92 6 (fun _ => fragment_open.orep)) u23 y12.2.2.2.open_)]] [0, 1, 2, 3, 4, 5, 6, 7, 8, 9, 10, 11, 12, 13, 14, 15, 16, 17, 18, 19, 20, 21, 22, 23, 24, 25, 26, 27, 28, 29] Try_mixed rfl rfl rfl h67 (.cons ?_ (.cons ?_ (.cons ?_ (.cons ?_ (.cons ?_ (.cons ?_ (.cons ?_ (.cons ?_ (.cons ?_ (.cons ?_ (.cons ?_ (.cons ?_ (.cons ?_ (.cons ?_ (.cons ?_ (.cons ?_ (.cons ?_ (.cons ?_ (.cons ?_ (.cons ?_ (.cons ?_ (.cons ?_ (.cons ?_ (.cons ?_ .nil)))))))))))))))))))))))) (fun q1 w hq3 h => ?_)
                ·intro q1 w Γx Ωx h
                 refine OpS.mv rfl rfl rfl ?_
                 exact ⟨undef, rfl, trivial, h⟩
                ·intro q1 w Γx Ωx h
                 refine OpS.mv rfl rfl rfl ?_
                 exact ⟨undef, rfl, trivial, h⟩
                ·intro q1 w Γx Ωx h
                 refine OpS.bin rfl rfl rfl rfl rfl ?_
                 exact ⟨undef, rfl, trivial, h⟩
                ·intro q1 w Γx Ωx h
                 refine OpS.mv rfl rfl rfl ?_
                 exact ⟨undef, (congrArg (fun z_ => some (Value.bool z_)) e26), trivial, h⟩
                ·intro q1 w Γx Ωx h
                 refine OpS.mv rfl rfl rfl ?_
                 exact ⟨undef, rfl, trivial, h⟩
                ·intro q1 w Γx Ωx h
                 refine OpS.mv rfl rfl rfl ?_
                 exact ⟨undef, rfl, trivial, h⟩
                ·intro q1 w Γx Ωx h
                 refine OpS.neb Try.underlying4 rfl rfl rfl rfl ?_
                 exact ⟨undef, rfl, trivial, h⟩
                ·intro q1 w Γx Ωx h
                 refine OpS.pick rfl rfl rfl rfl ?_
                 exact ⟨undef, rfl, trivial, h⟩
                ·intro q1 w Γx Ωx h
                 refine OpS.mv rfl rfl rfl ?_
                 exact ⟨undef, (congrArg (fun z_ => some (Value.bool z_)) e28), trivial, h⟩
                ·intro q1 w Γx Ωx h
                 have h : St e w ([(true, .val Whole_.rep u27 y13.1), (true, .val Packet_.rep u25 s9.2), (false, .val Whole_.rep u22 y12.1), (true, .val Packet_.rep u20 s9.2)] ++ Γx) ([(false, .box 51 Whole_.rep u24 y12.1), (false, .box 85 made_Dice.rep u5 s9.1), (true, .box 44 Packet_.rep u17 s9.2), (false, .slice 44 Packet_.rep u6 s4.2)] ++ Ωx) := h
                 refine OpS.loadB h .z PA.z Get.id ty51 rfl rfl rfl (fun u h74 => ?_)
                 exact ⟨u, rfl, trivial, h74⟩
                ·intro q1 w Γx Ωx h
                 have h : St e w ([(true, .val Whole_.rep u27 y13.1), (true, .val Packet_.rep u25 s9.2), (false, .val Whole_.rep u22 y12.1), (true, .val Packet_.rep u20 s9.2)] ++ Γx) ([(true, .box 51 Whole_.rep u29 y13.1), (false, .box 85 made_Dice.rep u5 s9.1), (true, .box 44 Packet_.rep u17 s9.2), (false, .slice 44 Packet_.rep u6 s4.2)] ++ Ωx) := h
                 refine OpS.loadB h .z PA.z Get.id ty51 rfl rfl rfl (fun u h75 => ?_)
                 exact ⟨u, rfl, trivial, h75⟩
                ·intro q1 w Γx Ωx h
                 refine OpS.callP h Try.func26 rfl rfl rfl rfl (vs := [(q1 9), (q1 10)]) rfl (ref22_SameWhole_ok e30) (.cons (f := false) (V.at .z) (.cons (f := true) (V.at (.s .z)) .nil)) ?_
                 rintro _ w32 _ _ _ ⟨rfl, rfl, rfl, rfl⟩ h76
                 have h77 := h76 rfl rfl
                 simp only [List.cons_append, List.nil_append] at h77
                 exact ⟨undef, rfl, trivial, h77⟩
                ·intro q1 w Γx Ωx h
                 refine OpS.not rfl rfl rfl ?_
                 exact ⟨undef, rfl, trivial, h⟩
                ·intro q1 w Γx Ωx h
                 refine OpS.pick rfl rfl rfl rfl ?_
                 exact ⟨undef, rfl, trivial, h⟩
                ·intro q1 w Γx Ωx h
                 refine OpS.mv rfl rfl rfl ?_
                 exact ⟨undef, (congrArg (fun z_ => some (Value.bool z_)) e31), trivial, h⟩
                ·intro q1 w Γx Ωx h
                 exact OpS.pass rfl rfl rfl ⟨undef, rfl, trivial, h⟩
                ·intro q1 w Γx Ωx h
                 exact OpS.pass rfl rfl rfl ⟨undef, rfl, trivial, h⟩
                ·intro q1 w Γx Ωx h
                 exact OpS.pass rfl rfl rfl ⟨undef, rfl, trivial, h⟩
                ·intro q1 w Γx Ωx h
                 exact OpS.pass rfl rfl rfl ⟨undef, rfl, trivial, h⟩
                ·intro q1 w Γx Ωx h
                 exact OpS.pass rfl rfl rfl ⟨undef, rfl, trivial, h⟩
                ·intro q1 w Γx Ωx h
                 exact OpS.pass rfl rfl rfl ⟨undef, rfl, trivial, h⟩
                ·intro q1 w Γx Ωx h
                 exact OpS.pass rfl rfl rfl ⟨undef, rfl, trivial, h⟩
                ·intro q1 w Γx Ωx h
                 exact OpS.pass rfl rfl rfl ⟨undef, rfl, trivial, h⟩
                ·intro q1 w Γx Ωx h
                 refine OpS.pick rfl rfl rfl rfl ?_
                 exact ⟨undef, rfl, trivial, h⟩
                have h78 : St e w [(false, .val Whole_.rep (q1 9) y12.1), (true, .val Whole_.rep (q1 10) y13.1), (true, .val Whole_.rep u27 y13.1), (true, .val Packet_.rep u25 s9.2), (false, .val Whole_.rep u22 y12.1), (true, .val Packet_.rep u20 s9.2)] [(true, .box 51 Whole_.rep u29 y13.1), (false, .box 49 (Rep.iso (fun s : ref22_Assembler => (s.Own, s.Items, ())) (Rep.prod (Rep.int .u8) (Rep.prod (Rep.raw (α := List ref22_Item) u28) Rep.unit))) u19 y13.2.2.2), (false, .slice 53 ref22_Item.rep u28 y13.2.2.2.Items), (false, .box 51 Whole_.rep u24 y12.1), (false, .box 83 (Rep.iso (fun s : fragment_Assembler => (s.own, s.open_, ())) (Rep.prod (Rep.int .u8) (Rep.prod (Rep.raw (α := List fragment_open) u23) Rep.unit))) u14 y12.2.2.2), (false, .oval (oslice 92 6 (fun _ => fragment_open.orep)) u23 y12.2.2.2.open_), (false, .box 85 made_Dice.rep u5 s9.1), (true, .box 44 Packet_.rep u17 s9.2), (false, .slice 44 Packet_.rep u6 s4.2)] := h
                refine RunL.nil ?_
                refine Run.slim [(207, .bool true), (11, u14), (12, u19), (14, u5), (15, u6)] ⟨rfl, rfl, rfl, rfl, rfl, trivial⟩ ?_
                refine Run.condT rfl ?_
                refine Run.seq ?_
                refine Run.reg ?_
                refine op (OpS.as rfl rfl rfl ?_)
                refine RunL.nil ?_
                refine Run.slim [(6, .bool false)] ⟨rfl, trivial⟩ ?_
                refine Run.retP rfl (.tmp rfl .nil) ?_
                cases hF
                exact Post.mk' ⟨rfl, rfl, rfl, rfl⟩ (h78.picks .nil) .nil
               ·
                have hG := hF
                subst e32
                have hF := hG
                obtain ⟨y15, e33, hF⟩ := bindP_use hF
                refine Run.drawV (Ωs := [(false, .box 85 made_Dice.rep u5 s9.1), (true, .box 44 Packet_.rep u17 s9.2), (false, .slice 44 Packet_.rep u6 s4.2)]) [⟨some 184, some (.int .i64 y12.2.2.1), fun _ => [], fun ds_ u_ => [], [], [], none⟩, ⟨some 185, some (.int .i64 y13.2.2.1), fun _ => [], fun ds_ u_ => [], [], [], none⟩, ⟨some 186, some (.bool (y12.2.2.1 != y13.2.2.1)), fun _ => [], fun ds_ u_ => [], [], [], none⟩, ⟨some 187, some (.bool false), fun _ => [], fun ds_ u_ => [], [], [], none⟩, ⟨some 188, some (.bool y12.2.1), fun _ => [], fun ds_ u_ => [], [], [], none⟩, ⟨some 189, some (.bool y13.2.1), fun _ => [], fun ds_ u_ => [], [], [], none⟩, ⟨some 190, some (.bool (y12.2.1 != y13.2.1)), fun _ => [], fun ds_ u_ => [], [], [], none⟩, ⟨some 191, some (.bool (y12.2.1 != y13.2.1)), fun _ => [], fun ds_ u_ => [], [], [], none⟩, ⟨some 192, some (.bool false), fun _ => [], fun ds_ u_ => [], [], [], none⟩, ⟨some 193, none, fun u_ => [(false, .val Whole_.rep u_ y12.1)], fun ds_ u_ => [], [], [(3, [])], none⟩, ⟨some 194, none, fun u_ => [(true, .val Whole_.rep u_ y13.1)], fun ds_ u_ => [], [], [(0, [])], none⟩, ⟨some 195, some (.bool y14), fun _ => [], fun ds_ u_ => [], [], [], none⟩, ⟨some 196, some (.bool (!y14)), fun _ => [], fun ds_ u_ => [], [], [], none⟩, ⟨some 197, some (.bool (!y14)), fun _ => [], fun ds_ u_ => [], [], [], none⟩, ⟨some 198, some (.bool false), fun _ => [], fun ds_ u_ => [], [], [], none⟩, ⟨some 199, some (u14), fun _ => [], fun ds_ u_ => [], [], [], none⟩, ⟨some 200, some (.int .i64 y15), fun _ => [], fun ds_ u_ => [], [], [(4, []), (5, [])], none⟩, ⟨some 201, some (u19), fun _ => [], fun ds_ u_ => [], [], [], none⟩, ⟨some 202, some (u19), fun _ => [], fun ds_ u_ => [], [], [(1, [])], none⟩, ⟨some 203, some ((padd u19 1)), fun _ => [], fun ds_ u_ => [], [], [(1, [])], none⟩, ⟨some 204, some (u28), fun _ => [], fun ds_ u_ => [], [], [(1, [])], none⟩, ⟨some 205, some (.int .i64 (y13.2.2.2.Items.length : Int)), fun _ => [], fun ds_ u_ => [], [], [(2, [])], none⟩, ⟨some 206, some (.bool (y15 != (y13.2.2.2.Items.length : Int))), fun _ => [], fun ds_ u_ => [], [], [], none⟩, ⟨some 207, some (.bool (y15 != (y13.2.2.2.Items.length : Int))), fun _ => [], fun ds_ u_ => [], [], [], none⟩] [[], [], [0, 1], [2], [3], [3], [4, 5, 3], [3, 6], [7], [8], [8], [9, 10, 8], [11, 8], [8, 12], [13], [14], [15, 14], [14], [17, 14], [18, 14], [19, 14], [20, 14], [16, 21, 14], [14, 22]] [[(true, .box 51 Whole_.rep u29 y13.1)], [(false, .box 49 (Rep.iso (fun s : ref22_Assembler => (s.Own, s.Items, ())) (Rep.prod (Rep.int .u8) (Rep.prod (Rep.raw (α := List ref22_Item) u28) Rep.unit))) u19 y13.2.2.2)], [(false, .slice 53 ref22_Item.rep u28 y13.2.2.2.Items)], [(false, .box 51 Whole_.rep u24 y12.1)], [(false, .box 83 (Rep.iso (fun s : fragment_Assembler => (s.own, s.open_, ())) (Rep.prod (Rep.int .u8) (Rep.prod (Rep.raw (α := List fragment_open) u23) Rep.unit))) u14 y12.2.2.2)], [(false, .oval (oslice 92 6 (fun _ => fragment_open.orep)) u23 y12.2.2.2.open_)]] [0, 1, 2, 3, 4, 5, 6, 7, 8, 9, 10, 11, 12, 13, 14, 15, 16, 17, 18, 19, 20, 21, 22, 23, 24, 25, 26, 27, 28, 29] Try_mixed rfl rfl rfl h67 (.cons ?_ (.cons ?_ (.cons ?_ (.cons ?_ (.cons ?_ (.cons ?_ (.cons ?_ (.cons ?_ (.cons ?_ (.cons ?_ (.cons ?_ (.cons ?_ (.cons ?_ (.cons ?_ (.cons ?_ (.cons ?_ (.cons ?_ (.cons ?_ (.cons ?_ (.cons ?_ (.cons ?_ (.cons ?_ (.cons ?_ (.cons ?_ .nil)))))))))))))))))))))))) (fun q1 w hq4 h => ?_)
                ·intro q1 w Γx Ωx h
                 refine OpS.mv rfl rfl rfl ?_
                 exact ⟨undef, rfl, trivial, h⟩
                ·intro q1 w Γx Ωx h
                 refine OpS.mv rfl rfl rfl ?_
                 exact ⟨undef, rfl, trivial, h⟩
                ·intro q1 w Γx Ωx h
                 refine OpS.bin rfl rfl rfl rfl rfl ?_
                 exact ⟨undef, rfl, trivial, h⟩
                ·intro q1 w Γx Ωx h
                 refine OpS.mv rfl rfl rfl ?_
                 exact ⟨undef, (congrArg (fun z_ => some (Value.bool z_)) e26), trivial, h⟩
                ·intro q1 w Γx Ωx h
                 refine OpS.mv rfl rfl rfl ?_
                 exact ⟨undef, rfl, trivial, h⟩
                ·intro q1 w Γx Ωx h
                 refine OpS.mv rfl rfl rfl ?_
                 exact ⟨undef, rfl, trivial, h⟩
                ·intro q1 w Γx Ωx h
                 refine OpS.neb Try.underlying4 rfl rfl rfl rfl ?_
                 exact ⟨undef, rfl, trivial, h⟩
                ·intro q1 w Γx Ωx h
                 refine OpS.pick rfl rfl rfl rfl ?_
                 exact ⟨undef, rfl, trivial, h⟩
                ·intro q1 w Γx Ωx h
                 refine OpS.mv rfl rfl rfl ?_
                 exact ⟨undef, (congrArg (fun z_ => some (Value.bool z_)) e28), trivial, h⟩
                ·intro q1 w Γx Ωx h
                 have h : St e w ([(true, .val Whole_.rep u27 y13.1), (true, .val Packet_.rep u25 s9.2), (false, .val Whole_.rep u22 y12.1), (true, .val Packet_.rep u20 s9.2)] ++ Γx) ([(false, .box 51 Whole_.rep u24 y12.1), (false, .box 85 made_Dice.rep u5 s9.1), (true, .box 44 Packet_.rep u17 s9.2), (false, .slice 44 Packet_.rep u6 s4.2)] ++ Ωx) := h
                 refine OpS.loadB h .z PA.z Get.id ty51 rfl rfl rfl (fun u h82 => ?_)
                 exact ⟨u, rfl, trivial, h82⟩
                ·intro q1 w Γx Ωx h
                 have h : St e w ([(true, .val Whole_.rep u27 y13.1), (true, .val Packet_.rep u25 s9.2), (false, .val Whole_.rep u22 y12.1), (true, .val Packet_.rep u20 s9.2)] ++ Γx) ([(true, .box 51 Whole_.rep u29 y13.1), (false, .box 85 made_Dice.rep u5 s9.1), (true, .box 44 Packet_.rep u17 s9.2), (false, .slice 44 Packet_.rep u6 s4.2)] ++ Ωx) := h
                 refine OpS.loadB h .z PA.z Get.id ty51 rfl rfl rfl (fun u h83 => ?_)
                 exact ⟨u, rfl, trivial, h83⟩
                ·intro q1 w Γx Ωx h
                 refine OpS.callP h Try.func26 rfl rfl rfl rfl (vs := [(q1 9), (q1 10)]) rfl (ref22_SameWhole_ok e30) (.cons (f := false) (V.at .z) (.cons (f := true) (V.at (.s .z)) .nil)) ?_
                 rintro _ w34 _ _ _ ⟨rfl, rfl, rfl, rfl⟩ h84
                 have h85 := h84 rfl rfl
                 simp only [List.cons_append, List.nil_append] at h85
                 exact ⟨undef, rfl, trivial, h85⟩
                ·intro q1 w Γx Ωx h
                 refine OpS.not rfl rfl rfl ?_
                 exact ⟨undef, rfl, trivial, h⟩
                ·intro q1 w Γx Ωx h
                 refine OpS.pick rfl rfl rfl rfl ?_
                 exact ⟨undef, rfl, trivial, h⟩
                ·intro q1 w Γx Ωx h
                 refine OpS.mv rfl rfl rfl ?_
                 exact ⟨undef, (congrArg (fun z_ => some (Value.bool z_)) e31), trivial, h⟩
                ·intro q1 w Γx Ωx h
                 refine OpS.mv rfl rfl rfl ?_
                 exact ⟨undef, rfl, trivial, h⟩
                ·intro q1 w Γx Ωx h
                 have h : St e w ([(true, .val Whole_.rep u27 y13.1), (true, .val Packet_.rep u25 s9.2), (false, .val Whole_.rep u22 y12.1), (true, .val Packet_.rep u20 s9.2)] ++ Γx) ([(false, .box 83 (Rep.iso (fun s : fragment_Assembler => (s.own, s.open_, ())) (Rep.prod (Rep.int .u8) (Rep.prod (Rep.raw (α := List fragment_open) u23) Rep.unit))) u14 y12.2.2.2), (false, .oval (oslice 92 6 (fun _ => fragment_open.orep)) u23 y12.2.2.2.open_), (false, .box 85 made_Dice.rep u5 s9.1), (true, .box 44 Packet_.rep u17 s9.2), (false, .slice 44 Packet_.rep u6 s4.2)] ++ Ωx) := h
                 have h86 := h.front (.cons .z (.cons .z .nil))
                 refine OpS.callO h86 Try.func27 rfl rfl rfl rfl (vs := [u14]) rfl (fragment_Assembler_Open_ok e33) rfl .nil ?_
                 rintro _ w35 _ _ _ ⟨rfl, rfl, rfl, rfl⟩ h87
                 have h88 := h87
                 simp only [List.cons_append, List.nil_append] at h88
                 exact ⟨undef, rfl, trivial, h88⟩
                ·intro q1 w Γx Ωx h
                 refine OpS.mv rfl rfl rfl ?_
                 exact ⟨undef, rfl, trivial, h⟩
                ·intro q1 w Γx Ωx h
                 have h : St e w ([(true, .val Whole_.rep u27 y13.1), (true, .val Packet_.rep u25 s9.2), (false, .val Whole_.rep u22 y12.1), (true, .val Packet_.rep u20 s9.2)] ++ Γx) ([(false, .box 49 (Rep.iso (fun s : ref22_Assembler => (s.Own, s.Items, ())) (Rep.prod (Rep.int .u8) (Rep.prod (Rep.raw (α := List ref22_Item) u28) Rep.unit))) u19 y13.2.2.2), (false, .box 85 made_Dice.rep u5 s9.1), (true, .box 44 Packet_.rep u17 s9.2), (false, .slice 44 Packet_.rep u6 s4.2)] ++ Ωx) := h
                 refine OpS.nchk h .z rfl rfl rfl ?_
                 exact ⟨undef, rfl, trivial, h⟩
                ·intro q1 w Γx Ωx h
                 have h : St e w ([(true, .val Whole_.rep u27 y13.1), (true, .val Packet_.rep u25 s9.2), (false, .val Whole_.rep u22 y12.1), (true, .val Packet_.rep u20 s9.2)] ++ Γx) ([(false, .box 49 (Rep.iso (fun s : ref22_Assembler => (s.Own, s.Items, ())) (Rep.prod (Rep.int .u8) (Rep.prod (Rep.raw (α := List ref22_Item) u28) Rep.unit))) u19 y13.2.2.2), (false, .box 85 made_Dice.rep u5 s9.1), (true, .box 44 Packet_.rep u17 s9.2), (false, .slice 44 Packet_.rep u6 s4.2)] ++ Ωx) := h
                 refine OpS.fbox (o3 := 1) h .z PA.z fa49_1 rfl rfl rfl rfl ?_
                 exact ⟨undef, rfl, trivial, h⟩
                ·intro q1 w Γx Ωx h
                 have h : St e w ([(true, .val Whole_.rep u27 y13.1), (true, .val Packet_.rep u25 s9.2), (false, .val Whole_.rep u22 y12.1), (true, .val Packet_.rep u20 s9.2)] ++ Γx) ([(false, .box 49 (Rep.iso (fun s : ref22_Assembler => (s.Own, s.Items, ())) (Rep.prod (Rep.int .u8) (Rep.prod (Rep.raw (α := List ref22_Item) u28) Rep.unit))) u19 y13.2.2.2), (false, .box 85 made_Dice.rep u5 s9.1), (true, .box 44 Packet_.rep u17 s9.2), (false, .slice 44 Packet_.rep u6 s4.2)] ++ Ωx) := h
                 refine OpS.loadR h .z PA.a (GetS.ok (GetS.iso _ (GetS.there (GetS.here GetS.id)))) ty47 rfl rfl rfl rfl rfl ?_
                 exact ⟨undef, rfl, trivial, h⟩
                ·intro q1 w Γx Ωx h
                 have h : St e w ([(true, .val Whole_.rep u27 y13.1), (true, .val Packet_.rep u25 s9.2), (false, .val Whole_.rep u22 y12.1), (true, .val Packet_.rep u20 s9.2)] ++ Γx) ([(false, .slice 53 ref22_Item.rep u28 y13.2.2.2.Items), (false, .box 85 made_Dice.rep u5 s9.1), (true, .box 44 Packet_.rep u17 s9.2), (false, .slice 44 Packet_.rep u6 s4.2)] ++ Ωx) := h
                 refine OpS.lenO h .z Try.underlying47 rfl rfl rfl ?_
                 exact ⟨undef, rfl, trivial, h⟩
                ·intro q1 w Γx Ωx h
                 refine OpS.bin rfl rfl rfl rfl rfl ?_
                 exact ⟨undef, rfl, trivial, h⟩
                ·intro q1 w Γx Ωx h
                 refine OpS.pick rfl rfl rfl rfl ?_
                 exact ⟨undef, rfl, trivial, h⟩
                have h89 : St e w [(false, .val Whole_.rep (q1 9) y12.1), (true, .val Whole_.rep (q1 10) y13.1), (true, .val Whole_.rep u27 y13.1), (true, .val Packet_.rep u25 s9.2), (false, .val Whole_.rep u22 y12.1), (true, .val Packet_.rep u20 s9.2)] [(true, .box 51 Whole_.rep u29 y13.1), (false, .box 49 (Rep.iso (fun s : ref22_Assembler => (s.Own, s.Items, ())) (Rep.prod (Rep.int .u8) (Rep.prod (Rep.raw (α := List ref22_Item) u28) Rep.unit))) u19 y13.2.2.2), (false, .slice 53 ref22_Item.rep u28 y13.2.2.2.Items), (false, .box 51 Whole_.rep u24 y12.1), (false, .box 83 (Rep.iso (fun s : fragment_Assembler => (s.own, s.open_, ())) (Rep.prod (Rep.int .u8) (Rep.prod (Rep.raw (α := List fragment_open) u23) Rep.unit))) u14 y12.2.2.2), (false, .oval (oslice 92 6 (fun _ => fragment_open.orep)) u23 y12.2.2.2.open_), (false, .box 85 made_Dice.rep u5 s9.1), (true, .box 44 Packet_.rep u17 s9.2), (false, .slice 44 Packet_.rep u6 s4.2)] := h
                refine RunL.nil ?_
                refine Run.slim [(207, .bool (y15 != (y13.2.2.2.Items.length : Int))), (11, u14), (12, u19), (14, u5), (15, u6)] ⟨rfl, rfl, rfl, rfl, rfl, trivial⟩ ?_
                refine Run.ite rfl hF (fun e34 hF => ?_) (fun e34 hF => ?_)
                ·
                 refine Run.seq ?_
                 refine Run.reg ?_
                 refine op (OpS.as rfl rfl rfl ?_)
                 refine RunL.nil ?_
                 refine Run.slim [(6, .bool false)] ⟨rfl, trivial⟩ ?_
                 refine Run.retP rfl (.tmp rfl .nil) ?_
                 cases hF
                 exact Post.mk' ⟨rfl, rfl, rfl, rfl⟩ (h89.picks .nil) .nil
                ·
                 refine Run.skip ?_
                 refine Run.endBlock ?_
                 have h90 := h89.front (.cons (.s (.s (.s (.s .z)))) (.cons (.s (.s (.s (.s .z)))) .nil))
                 have h91 := St.some (H := (fun x_ => .ex fun v_ => .sep (.box 83 (Rep.iso (fun s : fragment_Assembler => (s.own, s.open_, ())) (Rep.prod (Rep.int .u8) (Rep.prod (Rep.raw (α := List fragment_open) v_) Rep.unit))) u14 x_) (.oval (oslice 92 6 (fun _ => fragment_open.orep)) v_ x_.open_))) (q := u14) (x := y12.2.2.2) (St.ex (H := fun v_ => .sep (.box 83 (Rep.iso (fun s : fragment_Assembler => (s.own, s.open_, ())) (Rep.prod (Rep.int .u8) (Rep.prod (Rep.raw (α := List fragment_open) v_) Rep.unit))) u14 y12.2.2.2) (.oval (oslice 92 6 (fun _ => fragment_open.orep)) v_ y12.2.2.2.open_)) u23 (St.sep h90))
                 have h92 := h91.front (.cons (.s (.s .z)) (.cons (.s (.s .z)) .nil))
                 have h93 := St.some (H := (fun x_ => .ex fun v_ => .sep (.box 49 (Rep.iso (fun s : ref22_Assembler => (s.Own, s.Items, ())) (Rep.prod (Rep.int .u8) (Rep.prod (Rep.raw (α := List ref22_Item) v_) Rep.unit))) u19 x_) (.slice 53 ref22_Item.rep v_ x_.Items))) (q := u19) (x := y13.2.2.2) (St.ex (H := fun v_ => .sep (.box 49 (Rep.iso (fun s : ref22_Assembler => (s.Own, s.Items, ())) (Rep.prod (Rep.int .u8) (Rep.prod (Rep.raw (α := List ref22_Item) v_) Rep.unit))) u19 y13.2.2.2) (.slice 53 ref22_Item.rep v_ y13.2.2.2.Items)) u28 (St.sep h92))
                 refine Run.slim [(11, u14), (12, u19), (14, u5), (15, u6)] ⟨rfl, rfl, rfl, rfl, trivial⟩ ?_
                 exact hk2 (s9.1, (some y12.2.2.2), (some y13.2.2.2)) _ _ ⟨u14, u19, rfl, (h93.facts .nil).picks (.cons (.s (.s (.s (.s .z)))) (.cons (.s (.s (.s (.s (.s .z))))) (.cons (.s .z) (.cons .z .nil))))⟩ hF
            ·
             refine Run.ite rfl hF (fun e35 hF => ?_) (fun e35 hF => ?_)
             ·
              refine Run.reg ?_
              refine op (OpS.mv rfl rfl rfl ?_)
              obtain ⟨y16, e36, hF⟩ := bindP_use hF
              have h94 := h47.front (.cons .z .nil)
              refine op (OpS.callO h94 Try.func23 rfl rfl rfl rfl (vs := [u5, .int .i64 5]) rfl (made_Dice_Next_ok e36) rfl .nil ?_)
              rintro _ w36 _ _ _ ⟨rfl, rfl, rfl, rfl⟩ h95
              have h96 := h95
              simp only [List.cons_append, List.nil_append] at h96
              refine op (OpS.bin rfl rfl rfl rfl rfl ?_)
              refine op (OpS.conv Try.underlying3 Try.underlying5 rfl rfl rfl ?_)
              refine op (OpS.mv rfl rfl rfl ?_)
              obtain ⟨y17, e37, hF⟩ := bindP_use hF
              have h97 := h96.front (.cons .z .nil)
              refine op (OpS.callO h97 Try.func23 rfl rfl rfl rfl (vs := [u5, .int .i64 8]) rfl (made_Dice_Next_ok e37) rfl .nil ?_)
              rintro _ w37 _ _ _ ⟨rfl, rfl, rfl, rfl⟩ h98
              have h99 := h98
              simp only [List.cons_append, List.nil_append] at h99
              refine op (OpS.fbox (o3 := 2) h99 (.s (.s .z)) PA.z fa44_2 rfl rfl rfl rfl ?_)
              obtain ⟨d1, e38, hF⟩ := letP_use hF
              refine op (OpS.storeB (f' := true) h99 (.s (.s .z)) PA.a (Put.of (Put.fld Packet_.f2) e38) ty4 rfl rfl rfl V.bool (.inl rfl) (fun w38 h100 => ?_))
              refine op (OpS.fbox (o3 := 1) h100 .z PA.z fa44_1 rfl rfl rfl rfl ?_)
              obtain ⟨d2, e39, hF⟩ := letP_use hF
              refine op (OpS.storeB (f' := true) h100 .z PA.a (Put.of (Put.fld Packet_.f1) e39) ty5 rfl rfl rfl V.int (.inl rfl) (fun w39 h101 => ?_))
              refine op (OpS.fbox (o3 := 6) h101 .z PA.z fa44_6 rfl rfl rfl rfl ?_)
              obtain ⟨d3, e40, hF⟩ := letP_use hF
              refine op (OpS.storeB (f' := true) h101 .z PA.a (Put.of (Put.fld Packet_.f6) e40) ty3 rfl rfl rfl V.int (.inl rfl) (fun w40 h102 => ?_))
              refine RunL.nil ?_
              refine Run.slim [(11, u14), (12, u19), (14, u5), (15, u6), (17, u17)] ⟨rfl, rfl, rfl, rfl, rfl, trivial⟩ ?_
              refine Run.slim [(11, u14), (12, u19), (14, u5), (15, u6), (17, u17)] ⟨rfl, rfl, rfl, rfl, rfl, trivial⟩ ?_
              exact hj7 (y17.2, d3) _ _ ⟨rfl, (h102.facts .nil).picks (.cons (.s (.s .z)) (.cons (.s (.s (.s .z))) (.cons (.s .z) (.cons .z (.cons .z .nil)))))⟩ hF
             ·
              refine Run.skip ?_
              refine Run.slim [(11, u14), (12, u19), (14, u5), (15, u6), (17, u17)] ⟨rfl, rfl, rfl, rfl, rfl, trivial⟩ ?_
              exact hj7 (y11.2, s8.2.1) _ _ ⟨rfl, (h47.facts .nil).picks (.cons (.s .z) (.cons (.s (.s (.s .z))) (.cons .z (.cons .z (.cons .z .nil)))))⟩ hF
           ·
            refine Run.ite rfl hF (fun e41 hF => ?_) (fun e41 hF => ?_)
            ·
             refine Run.seq ?_
             obtain ⟨x10, e42, hF⟩ := bindP_use hF
             have h103 := St.unopt (h43.pick (.s (.s (.s (.s .z))))) e42
             obtain ⟨u30, h104⟩ := h103.unex
             have h105 := h104.unsep
             have h106 := h105.picks (.cons .z (.cons .z (.cons (.s .z) (.cons .z (.cons .z (.cons .z .nil))))))
             obtain ⟨y18, e43, hF⟩ := bindP_use hF
             obtain ⟨x11, e44, hF⟩ := bindP_use hF
             refine Run.drawV (Ωs := [(false, .opt (fun x_ => .ex fun v_ => .sep (.box 83 (Rep.iso (fun s : fragment_Assembler => (s.own, s.open_, ())) (Rep.prod (Rep.int .u8) (Rep.prod (Rep.raw (α := List fragment_open) v_) Rep.unit))) u14 x_) (.oval (oslice 92 6 (fun _ => fragment_open.orep)) v_ x_.open_)) u14 s5.2.1), (true, .box 44 Packet_.rep u17 y9.1), (false, .slice 44 Packet_.rep u6 s4.2)]) [⟨some 117, some (u18), fun _ => [], fun ds_ u_ => [], [], [], none⟩, ⟨some 118, some (u18), fun _ => [], fun ds_ u_ => [], [], [(0, [])], none⟩, ⟨some 119, some ((padd u18 1)), fun _ => [], fun ds_ u_ => [], [], [(0, [])], none⟩, ⟨some 120, some (u30), fun _ => [], fun ds_ u_ => [], [], [(0, [])], none⟩, ⟨some 121, some (u5), fun _ => [], fun ds_ u_ => [], [], [], none⟩, ⟨some 122, some (u18), fun _ => [], fun ds_ u_ => [], [], [], none⟩, ⟨some 123, some (u18), fun _ => [], fun ds_ u_ => [], [], [(0, [])], none⟩, ⟨some 124, some ((padd u18 1)), fun _ => [], fun ds_ u_ => [], [], [(0, [])], none⟩, ⟨some 125, some (u30), fun _ => [], fun ds_ u_ => [], [], [(0, [])], none⟩, ⟨some 126, some (.int .i64 (x10.Items.length : Int)), fun _ => [], fun ds_ u_ => [], [], [(1, [])], none⟩, ⟨some 127, some (.int .i64 y18.1), fun _ => [], fun ds_ u_ => [(false, .box 85 made_Dice.rep u5 y18.2)], [2], [], none⟩, ⟨some 128, some ((padd (sp u30) ((y18.1 : Int).toNat * ref22_Item.rep.n))), fun _ => [], fun ds_ u_ => [], [], [(1, [])], none⟩, ⟨some 129, none, fun u_ => [(false, .val ref22_Item.rep u_ x11)], fun ds_ u_ => [], [], [(1, [])], none⟩, ⟨some 18, none, fun u_ => [], fun ds_ u_ => [(true, .box 53 ref22_Item.rep u_ ref22_Item.z)], [], [], none⟩] [[], [0], [1], [2], [], [], [5], [6], [7], [8], [4, 9], [3, 10], [11], []] [[(false, .box 49 (Rep.iso (fun s : ref22_Assembler => (s.Own, s.Items, ())) (Rep.prod (Rep.int .u8) (Rep.prod (Rep.raw (α := List ref22_Item) u30) Rep.unit))) u18 x10)], [(false, .slice 53 ref22_Item.rep u30 x10.Items)], [(false, .box 85 made_Dice.rep u5 y10.2)]] [0, 1, 3, 4, 5, 6, 7, 8, 9, 10, 11, 12, 13, 14, 15, 16] Try_mixed rfl rfl rfl h106 (.cons ?_ (.cons ?_ (.cons ?_ (.cons ?_ (.cons ?_ (.cons ?_ (.cons ?_ (.cons ?_ (.cons ?_ (.cons ?_ (.cons ?_ (.cons ?_ (.cons ?_ (.cons ?_ .nil)))))))))))))) (fun q2 w hq5 h => ?_)
             ·intro q2 w Γx Ωx h
              refine OpS.mv rfl rfl rfl ?_
              exact ⟨undef, rfl, trivial, h⟩
             ·intro q2 w Γx Ωx h
              have h : St e w ([] ++ Γx) ([(false, .box 49 (Rep.iso (fun s : ref22_Assembler => (s.Own, s.Items, ())) (Rep.prod (Rep.int .u8) (Rep.prod (Rep.raw (α := List ref22_Item) u30) Rep.unit))) u18 x10), (false, .opt (fun x_ => .ex fun v_ => .sep (.box 83 (Rep.iso (fun s : fragment_Assembler => (s.own, s.open_, ())) (Rep.prod (Rep.int .u8) (Rep.prod (Rep.raw (α := List fragment_open) v_) Rep.unit))) u14 x_) (.oval (oslice 92 6 (fun _ => fragment_open.orep)) v_ x_.open_)) u14 s5.2.1), (true, .box 44 Packet_.rep u17 y9.1), (false, .slice 44 Packet_.rep u6 s4.2)] ++ Ωx) := h
              refine OpS.nchk h .z rfl rfl rfl ?_
              exact ⟨undef, rfl, trivial, h⟩
             ·intro q2 w Γx Ωx h
              have h : St e w ([] ++ Γx) ([(false, .box 49 (Rep.iso (fun s : ref22_Assembler => (s.Own, s.Items, ())) (Rep.prod (Rep.int .u8) (Rep.prod (Rep.raw (α := List ref22_Item) u30) Rep.unit))) u18 x10), (false, .opt (fun x_ => .ex fun v_ => .sep (.box 83 (Rep.iso (fun s : fragment_Assembler => (s.own, s.open_, ())) (Rep.prod (Rep.int .u8) (Rep.prod (Rep.raw (α := List fragment_open) v_) Rep.unit))) u14 x_) (.oval (oslice 92 6 (fun _ => fragment_open.orep)) v_ x_.open_)) u14 s5.2.1), (true, .box 44 Packet_.rep u17 y9.1), (false, .slice 44 Packet_.rep u6 s4.2)] ++ Ωx) := h
              refine OpS.fbox (o3 := 1) h .z PA.z fa49_1 rfl rfl rfl rfl ?_
              exact ⟨undef, rfl, trivial, h⟩
             ·intro q2 w Γx Ωx h
              have h : St e w ([] ++ Γx) ([(false, .box 49 (Rep.iso (fun s : ref22_Assembler => (s.Own, s.Items, ())) (Rep.prod (Rep.int .u8) (Rep.prod (Rep.raw (α := List ref22_Item) u30) Rep.unit))) u18 x10), (false, .opt (fun x_ => .ex fun v_ => .sep (.box 83 (Rep.iso (fun s : fragment_Assembler => (s.own, s.open_, ())) (Rep.prod (Rep.int .u8) (Rep.prod (Rep.raw (α := List fragment_open) v_) Rep.unit))) u14 x_) (.oval (oslice 92 6 (fun _ => fragment_open.orep)) v_ x_.open_)) u14 s5.2.1), (true, .box 44 Packet_.rep u17 y9.1), (false, .slice 44 Packet_.rep u6 s4.2)] ++ Ωx) := h
              refine OpS.loadR h .z PA.a (GetS.ok (GetS.iso _ (GetS.there (GetS.here GetS.id)))) ty47 rfl rfl rfl rfl rfl ?_
              exact ⟨undef, rfl, trivial, h⟩
             ·intro q2 w Γx Ωx h
              refine OpS.mv rfl rfl rfl ?_
              exact ⟨undef, rfl, trivial, h⟩
             ·intro q2 w Γx Ωx h
              refine OpS.mv rfl rfl rfl ?_
              exact ⟨undef, rfl, trivial, h⟩
             ·intro q2 w Γx Ωx h
              have h : St e w ([] ++ Γx) ([(false, .box 49 (Rep.iso (fun s : ref22_Assembler => (s.Own, s.Items, ())) (Rep.prod (Rep.int .u8) (Rep.prod (Rep.raw (α := List ref22_Item) u30) Rep.unit))) u18 x10), (false, .opt (fun x_ => .ex fun v_ => .sep (.box 83 (Rep.iso (fun s : fragment_Assembler => (s.own, s.open_, ())) (Rep.prod (Rep.int .u8) (Rep.prod (Rep.raw (α := List fragment_open) v_) Rep.unit))) u14 x_) (.oval (oslice 92 6 (fun _ => fragment_open.orep)) v_ x_.open_)) u14 s5.2.1), (true, .box 44 Packet_.rep u17 y9.1), (false, .slice 44 Packet_.rep u6 s4.2)] ++ Ωx) := h
              refine OpS.nchk h .z rfl rfl rfl ?_
              exact ⟨undef, rfl, trivial, h⟩
             ·intro q2 w Γx Ωx h
              have h : St e w ([] ++ Γx) ([(false, .box 49 (Rep.iso (fun s : ref22_Assembler => (s.Own, s.Items, ())) (Rep.prod (Rep.int .u8) (Rep.prod (Rep.raw (α := List ref22_Item) u30) Rep.unit))) u18 x10), (false, .opt (fun x_ => .ex fun v_ => .sep (.box 83 (Rep.iso (fun s : fragment_Assembler => (s.own, s.open_, ())) (Rep.prod (Rep.int .u8) (Rep.prod (Rep.raw (α := List fragment_open) v_) Rep.unit))) u14 x_) (.oval (oslice 92 6 (fun _ => fragment_open.orep)) v_ x_.open_)) u14 s5.2.1), (true, .box 44 Packet_.rep u17 y9.1), (false, .slice 44 Packet_.rep u6 s4.2)] ++ Ωx) := h
              refine OpS.fbox (o3 := 1) h .z PA.z fa49_1 rfl rfl rfl rfl ?_
              exact ⟨undef, rfl, trivial, h⟩
             ·intro q2 w Γx Ωx h
              have h : St e w ([] ++ Γx) ([(false, .box 49 (Rep.iso (fun s : ref22_Assembler => (s.Own, s.Items, ())) (Rep.prod (Rep.int .u8) (Rep.prod (Rep.raw (α := List ref22_Item) u30) Rep.unit))) u18 x10), (false, .opt (fun x_ => .ex fun v_ => .sep (.box 83 (Rep.iso (fun s : fragment_Assembler => (s.own, s.open_, ())) (Rep.prod (Rep.int .u8) (Rep.prod (Rep.raw (α := List fragment_open) v_) Rep.unit))) u14 x_) (.oval (oslice 92 6 (fun _ => fragment_open.orep)) v_ x_.open_)) u14 s5.2.1), (true, .box 44 Packet_.rep u17 y9.1), (false, .slice 44 Packet_.rep u6 s4.2)] ++ Ωx) := h
              refine OpS.loadR h .z PA.a (GetS.ok (GetS.iso _ (GetS.there (GetS.here GetS.id)))) ty47 rfl rfl rfl rfl rfl ?_
              exact ⟨undef, rfl, trivial, h⟩
             ·intro q2 w Γx Ωx h
              have h : St e w ([] ++ Γx) ([(false, .slice 53 ref22_Item.rep u30 x10.Items), (false, .opt (fun x_ => .ex fun v_ => .sep (.box 83 (Rep.iso (fun s : fragment_Assembler => (s.own, s.open_, ())) (Rep.prod (Rep.int .u8) (Rep.prod (Rep.raw (α := List fragment_open) v_) Rep.unit))) u14 x_) (.oval (oslice 92 6 (fun _ => fragment_open.orep)) v_ x_.open_)) u14 s5.2.1), (true, .box 44 Packet_.rep u17 y9.1), (false, .slice 44 Packet_.rep u6 s4.2)] ++ Ωx) := h
              refine OpS.lenO h .z Try.underlying47 rfl rfl rfl ?_
              exact ⟨undef, rfl, trivial, h⟩
             ·intro q2 w Γx Ωx h
              have h : St e w ([] ++ Γx) ([(false, .box 85 made_Dice.rep u5 y10.2), (false, .opt (fun x_ => .ex fun v_ => .sep (.box 83 (Rep.iso (fun s : fragment_Assembler => (s.own, s.open_, ())) (Rep.prod (Rep.int .u8) (Rep.prod (Rep.raw (α := List fragment_open) v_) Rep.unit))) u14 x_) (.oval (oslice 92 6 (fun _ => fragment_open.orep)) v_ x_.open_)) u14 s5.2.1), (true, .box 44 Packet_.rep u17 y9.1), (false, .slice 44 Packet_.rep u6 s4.2)] ++ Ωx) := h
              have h112 := h.front (.cons .z .nil)
              refine OpS.callO h112 Try.func23 rfl rfl rfl rfl (vs := [u5, .int .i64 (x10.Items.length : Int)]) rfl (made_Dice_Next_ok e43) rfl .nil ?_
              rintro _ w43 _ _ _ ⟨rfl, rfl, rfl, rfl⟩ h113
              have h114 := h113
              simp only [List.cons_append, List.nil_append] at h114
              exact ⟨undef, rfl, trivial, h114⟩
             ·intro q2 w Γx Ωx h
              have h : St e w ([] ++ Γx) ([(false, .slice 53 ref22_Item.rep u30 x10.Items), (false, .opt (fun x_ => .ex fun v_ => .sep (.box 83 (Rep.iso (fun s : fragment_Assembler => (s.own, s.open_, ())) (Rep.prod (Rep.int .u8) (Rep.prod (Rep.raw (α := List fragment_open) v_) Rep.unit))) u14 x_) (.oval (oslice 92 6 (fun _ => fragment_open.orep)) v_ x_.open_)) u14 s5.2.1), (true, .box 44 Packet_.rep u17 y9.1), (false, .slice 44 Packet_.rep u6 s4.2)] ++ Ωx) := h
              refine OpS.iown h .z Try.underlying47 ty53 rfl rfl rfl rfl e44 ?_
              exact ⟨undef, rfl, trivial, h⟩
             ·intro q2 w Γx Ωx h
              have h : St e w ([] ++ Γx) ([(false, .slice 53 ref22_Item.rep u30 x10.Items), (false, .opt (fun x_ => .ex fun v_ => .sep (.box 83 (Rep.iso (fun s : fragment_Assembler => (s.own, s.open_, ())) (Rep.prod (Rep.int .u8) (Rep.prod (Rep.raw (α := List fragment_open) v_) Rep.unit))) u14 x_) (.oval (oslice 92 6 (fun _ => fragment_open.orep)) v_ x_.open_)) u14 s5.2.1), (true, .box 44 Packet_.rep u17 y9.1), (false, .slice 44 Packet_.rep u6 s4.2)] ++ Ωx) := h
              refine OpS.loadO h .z (idx_ne e44) PA.a (Get.arr e44) ty53 rfl rfl rfl (fun u h115 => ?_)
              exact ⟨u, rfl, trivial, h115⟩
             ·intro q2 w Γx Ωx h
              refine OpS.alloc h ti53 ref22_Item.zr rfl rfl (fun u w44 h116 => ?_)
              exact ⟨u, rfl, trivial, h116⟩
             have h117 : St e w [(false, .val ref22_Item.rep (q2 12) x11)] [(false, .box 49 (Rep.iso (fun s : ref22_Assembler => (s.Own, s.Items, ())) (Rep.prod (Rep.int .u8) (Rep.prod (Rep.raw (α := List ref22_Item) u30) Rep.unit))) u18 x10), (false, .slice 53 ref22_Item.rep u30 x10.Items), (false, .box 85 made_Dice.rep u5 y18.2), (true, .box 53 ref22_Item.rep (q2 13) ref22_Item.z), (false, .opt (fun x_ => .ex fun v_ => .sep (.box 83 (Rep.iso (fun s : fragment_Assembler => (s.own, s.open_, ())) (Rep.prod (Rep.int .u8) (Rep.prod (Rep.raw (α := List fragment_open) v_) Rep.unit))) u14 x_) (.oval (oslice 92 6 (fun _ => fragment_open.orep)) v_ x_.open_)) u14 s5.2.1), (true, .box 44 Packet_.rep u17 y9.1), (false, .slice 44 Packet_.rep u6 s4.2)] := h
             have h118 := (h117.pick (.s (.s (.s .z)))).weak
             refine op (OpS.storeB (f' := false) h118 .z PA.z Put.id ty53 rfl rfl rfl (V.at .z) (.inr rfl) (fun w45 h119 => ?_))
             refine RunL.nil ?_
             refine Run.slim [(18, (q2 13)), (11, u14), (12, u18), (14, u5), (15, u6), (17, u17)] ⟨rfl, rfl, rfl, rfl, rfl, rfl, trivial⟩ ?_
             refine Run.seq ?_
             have h120 := h119.picks (.cons .z (.cons (.s (.s .z)) (.cons .z (.cons .z (.cons .z (.cons .z (.cons .z .nil)))))))
             obtain ⟨y19, e45, hF⟩ := bindP_use hF
             obtain ⟨x12, e46, hF⟩ := bindP_use hF
             refine Run.drawV (Ωs := [(false, .box 49 (Rep.iso (fun s : ref22_Assembler => (s.Own, s.Items, ())) (Rep.prod (Rep.int .u8) (Rep.prod (Rep.raw (α := List ref22_Item) u30) Rep.unit))) u18 x10), (false, .slice 53 ref22_Item.rep u30 x10.Items), (false, .opt (fun x_ => .ex fun v_ => .sep (.box 83 (Rep.iso (fun s : fragment_Assembler => (s.own, s.open_, ())) (Rep.prod (Rep.int .u8) (Rep.prod (Rep.raw (α := List fragment_open) v_) Rep.unit))) u14 x_) (.oval (oslice 92 6 (fun _ => fragment_open.orep)) v_ x_.open_)) u14 s5.2.1), (true, .box 44 Packet_.rep u17 y9.1), (false, .slice 44 Packet_.rep u6 s4.2)]) [⟨some 130, some ((padd (q2 13) 0)), fun _ => [], fun ds_ u_ => [], [], [(0, [])], none⟩, ⟨some 131, some ((padd (q2 13) 0)), fun _ => [], fun ds_ u_ => [], [], [(0, [])], none⟩, ⟨some 132, some (.int .u8 x11.Whole.From), fun _ => [], fun ds_ u_ => [], [], [(0, [])], none⟩, ⟨some 133, some ((padd (q2 13) 0)), fun _ => [], fun ds_ u_ => [], [], [(0, [])], none⟩, ⟨some 134, some ((padd (q2 13) 1)), fun _ => [], fun ds_ u_ => [], [], [(0, [])], none⟩, ⟨some 135, some (.bool x11.Whole.Owner), fun _ => [], fun ds_ u_ => [], [], [(0, [])], none⟩, ⟨some 136, some ((padd (q2 13) 0)), fun _ => [], fun ds_ u_ => [], [], [(0, [])], none⟩, ⟨some 137, some ((padd (q2 13) 2)), fun _ => [], fun ds_ u_ => [], [], [(0, [])], none⟩, ⟨some 138, some (.int .i64 x11.Whole.Tag), fun _ => [], fun ds_ u_ => [], [], [(0, [])], none⟩, ⟨some 139, some ((padd (q2 13) 5)), fun _ => [], fun ds_ u_ => [], [], [(0, [])], none⟩, ⟨some 140, some (.int .i64 x11.Next), fun _ => [], fun ds_ u_ => [], [], [(0, [])], none⟩, ⟨some 141, some (u5), fun _ => [], fun ds_ u_ => [], [], [], none⟩, ⟨some 142, some (.bool y19.1), fun _ => [], fun ds_ u_ => [(false, .box 85 made_Dice.rep u5 y19.2)], [1], [], none⟩, ⟨some 143, some ((padd (q2 13) 4)), fun _ => [], fun ds_ u_ => [], [], [(0, [])], none⟩, ⟨some 144, some (.int .i64 x11.Size), fun _ => [], fun ds_ u_ => [], [], [(0, [])], none⟩, ⟨some 145, none, fun u_ => [(true, .val (Rep.slice (Rep.int .u8)) u_ x12)], fun ds_ u_ => [], [], [], none⟩, ⟨some 146, none, fun u_ => [(true, .val Packet_.rep u_ (⟨9, x11.Whole.From, false, y19.1, x11.Next, x11.Whole.Owner, x11.Whole.Tag, x12⟩ : Packet_))], fun ds_ u_ => [], [], [], none⟩] [[], [0], [1], [], [3], [4], [], [6], [7], [], [9], [], [11], [], [13], [14], [2, 5, 8, 10, 12, 15]] [[(false, .box 53 ref22_Item.rep (q2 13) x11)], [(false, .box 85 made_Dice.rep u5 y18.2)]] [0, 2, 3, 4, 5, 6, 7, 8, 9, 10, 11, 12, 13, 14, 15, 16, 17, 18] Try_mixed rfl rfl rfl h120 (.cons ?_ (.cons ?_ (.cons ?_ (.cons ?_ (.cons ?_ (.cons ?_ (.cons ?_ (.cons ?_ (.cons ?_ (.cons ?_ (.cons ?_ (.cons ?_ (.cons ?_ (.cons ?_ (.cons ?_ (.cons ?_ (.cons ?_ .nil))))))))))))))))) (fun q3 w hq6 h => ?_)
             ·intro q3 w Γx Ωx h
              have h : St e w ([(false, .val ref22_Item.rep (q2 12) x11)] ++ Γx) ([(false, .box 53 ref22_Item.rep (q2 13) x11), (false, .box 49 (Rep.iso (fun s : ref22_Assembler => (s.Own, s.Items, ())) (Rep.prod (Rep.int .u8) (Rep.prod (Rep.raw (α := List ref22_Item) u30) Rep.unit))) u18 x10), (false, .slice 53 ref22_Item.rep u30 x10.Items), (false, .opt (fun x_ => .ex fun v_ => .sep (.box 83 (Rep.iso (fun s : fragment_Assembler => (s.own, s.open_, ())) (Rep.prod (Rep.int .u8) (Rep.prod (Rep.raw (α := List fragment_open) v_) Rep.unit))) u14 x_) (.oval (oslice 92 6 (fun _ => fragment_open.orep)) v_ x_.open_)) u14 s5.2.1), (true, .box 44 Packet_.rep u17 y9.1), (false, .slice 44 Packet_.rep u6 s4.2)] ++ Ωx) := h
              refine OpS.fbox (o3 := 0) h .z PA.z fa53_0 rfl rfl rfl rfl ?_
              exact ⟨undef, rfl, trivial, h⟩
             ·intro q3 w Γx Ωx h
              have h : St e w ([(false, .val ref22_Item.rep (q2 12) x11)] ++ Γx) ([(false, .box 53 ref22_Item.rep (q2 13) x11), (false, .box 49 (Rep.iso (fun s : ref22_Assembler => (s.Own, s.Items, ())) (Rep.prod (Rep.int .u8) (Rep.prod (Rep.raw (α := List ref22_Item) u30) Rep.unit))) u18 x10), (false, .slice 53 ref22_Item.rep u30 x10.Items), (false, .opt (fun x_ => .ex fun v_ => .sep (.box 83 (Rep.iso (fun s : fragment_Assembler => (s.own, s.open_, ())) (Rep.prod (Rep.int .u8) (Rep.prod (Rep.raw (α := List fragment_open) v_) Rep.unit))) u14 x_) (.oval (oslice 92 6 (fun _ => fragment_open.orep)) v_ x_.open_)) u14 s5.2.1), (true, .box 44 Packet_.rep u17 y9.1), (false, .slice 44 Packet_.rep u6 s4.2)] ++ Ωx) := h
              refine OpS.fbox (o3 := 0) h .z PA.a fa51_0 rfl rfl rfl rfl ?_
              exact ⟨undef, rfl, trivial, h⟩
             ·intro q3 w Γx Ωx h
              have h : St e w ([(false, .val ref22_Item.rep (q2 12) x11)] ++ Γx) ([(false, .box 53 ref22_Item.rep (q2 13) x11), (false, .box 49 (Rep.iso (fun s : ref22_Assembler => (s.Own, s.Items, ())) (Rep.prod (Rep.int .u8) (Rep.prod (Rep.raw (α := List ref22_Item) u30) Rep.unit))) u18 x10), (false, .slice 53 ref22_Item.rep u30 x10.Items), (false, .opt (fun x_ => .ex fun v_ => .sep (.box 83 (Rep.iso (fun s : fragment_Assembler => (s.own, s.open_, ())) (Rep.prod (Rep.int .u8) (Rep.prod (Rep.raw (α := List fragment_open) v_) Rep.unit))) u14 x_) (.oval (oslice 92 6 (fun _ => fragment_open.orep)) v_ x_.open_)) u14 s5.2.1), (true, .box 44 Packet_.rep u17 y9.1), (false, .slice 44 Packet_.rep u6 s4.2)] ++ Ωx) := h
              refine OpS.loadBi h .z PA.a (Get.comp (Get.fld ref22_Item.f0) (Get.fld Whole_.f0)) ty5 rfl rfl rfl ?_
              exact ⟨undef, rfl, trivial, h⟩
             ·intro q3 w Γx Ωx h
              have h : St e w ([(false, .val ref22_Item.rep (q2 12) x11)] ++ Γx) ([(false, .box 53 ref22_Item.rep (q2 13) x11), (false, .box 49 (Rep.iso (fun s : ref22_Assembler => (s.Own, s.Items, ())) (Rep.prod (Rep.int .u8) (Rep.prod (Rep.raw (α := List ref22_Item) u30) Rep.unit))) u18 x10), (false, .slice 53 ref22_Item.rep u30 x10.Items), (false, .opt (fun x_ => .ex fun v_ => .sep (.box 83 (Rep.iso (fun s : fragment_Assembler => (s.own, s.open_, ())) (Rep.prod (Rep.int .u8) (Rep.prod (Rep.raw (α := List fragment_open) v_) Rep.unit))) u14 x_) (.oval (oslice 92 6 (fun _ => fragment_open.orep)) v_ x_.open_)) u14 s5.2.1), (true, .box 44 Packet_.rep u17 y9.1), (false, .slice 44 Packet_.rep u6 s4.2)] ++ Ωx) := h
              refine OpS.fbox (o3 := 0) h .z PA.z fa53_0 rfl rfl rfl rfl ?_
              exact ⟨undef, rfl, trivial, h⟩
             ·intro q3 w Γx Ωx h
              have h : St e w ([(false, .val ref22_Item.rep (q2 12) x11)] ++ Γx) ([(false, .box 53 ref22_Item.rep (q2 13) x11), (false, .box 49 (Rep.iso (fun s : ref22_Assembler => (s.Own, s.Items, ())) (Rep.prod (Rep.int .u8) (Rep.prod (Rep.raw (α := List ref22_Item) u30) Rep.unit))) u18 x10), (false, .slice 53 ref22_Item.rep u30 x10.Items), (false, .opt (fun x_ => .ex fun v_ => .sep (.box 83 (Rep.iso (fun s : fragment_Assembler => (s.own, s.open_, ())) (Rep.prod (Rep.int .u8) (Rep.prod (Rep.raw (α := List fragment_open) v_) Rep.unit))) u14 x_) (.oval (oslice 92 6 (fun _ => fragment_open.orep)) v_ x_.open_)) u14 s5.2.1), (true, .box 44 Packet_.rep u17 y9.1), (false, .slice 44 Packet_.rep u6 s4.2)] ++ Ωx) := h
              refine OpS.fbox (o3 := 1) h .z PA.a fa51_1 rfl rfl rfl rfl ?_
              exact ⟨undef, rfl, trivial, h⟩
             ·intro q3 w Γx Ωx h
              have h : St e w ([(false, .val ref22_Item.rep (q2 12) x11)] ++ Γx) ([(false, .box 53 ref22_Item.rep (q2 13) x11), (false, .box 49 (Rep.iso (fun s : ref22_Assembler => (s.Own, s.Items, ())) (Rep.prod (Rep.int .u8) (Rep.prod (Rep.raw (α := List ref22_Item) u30) Rep.unit))) u18 x10), (false, .slice 53 ref22_Item.rep u30 x10.Items), (false, .opt (fun x_ => .ex fun v_ => .sep (.box 83 (Rep.iso (fun s : fragment_Assembler => (s.own, s.open_, ())) (Rep.prod (Rep.int .u8) (Rep.prod (Rep.raw (α := List fragment_open) v_) Rep.unit))) u14 x_) (.oval (oslice 92 6 (fun _ => fragment_open.orep)) v_ x_.open_)) u14 s5.2.1), (true, .box 44 Packet_.rep u17 y9.1), (false, .slice 44 Packet_.rep u6 s4.2)] ++ Ωx) := h
              refine OpS.loadBb h .z PA.a (Get.comp (Get.fld ref22_Item.f0) (Get.fld Whole_.f1)) ty4 rfl rfl rfl ?_
              exact ⟨undef, rfl, trivial, h⟩
             ·intro q3 w Γx Ωx h
              have h : St e w ([(false, .val ref22_Item.rep (q2 12) x11)] ++ Γx) ([(false, .box 53 ref22_Item.rep (q2 13) x11), (false, .box 49 (Rep.iso (fun s : ref22_Assembler => (s.Own, s.Items, ())) (Rep.prod (Rep.int .u8) (Rep.prod (Rep.raw (α := List ref22_Item) u30) Rep.unit))) u18 x10), (false, .slice 53 ref22_Item.rep u30 x10.Items), (false, .opt (fun x_ => .ex fun v_ => .sep (.box 83 (Rep.iso (fun s : fragment_Assembler => (s.own, s.open_, ())) (Rep.prod (Rep.int .u8) (Rep.prod (Rep.raw (α := List fragment_open) v_) Rep.unit))) u14 x_) (.oval (oslice 92 6 (fun _ => fragment_open.orep)) v_ x_.open_)) u14 s5.2.1), (true, .box 44 Packet_.rep u17 y9.1), (false, .slice 44 Packet_.rep u6 s4.2)] ++ Ωx) := h
              refine OpS.fbox (o3 := 0) h .z PA.z fa53_0 rfl rfl rfl rfl ?_
              exact ⟨undef, rfl, trivial, h⟩
             ·intro q3 w Γx Ωx h
              have h : St e w ([(false, .val ref22_Item.rep (q2 12) x11)] ++ Γx) ([(false, .box 53 ref22_Item.rep (q2 13) x11), (false, .box 49 (Rep.iso (fun s : ref22_Assembler => (s.Own, s.Items, ())) (Rep.prod (Rep.int .u8) (Rep.prod (Rep.raw (α := List ref22_Item) u30) Rep.unit))) u18 x10), (false, .slice 53 ref22_Item.rep u30 x10.Items), (false, .opt (fun x_ => .ex fun v_ => .sep (.box 83 (Rep.iso (fun s : fragment_Assembler => (s.own, s.open_, ())) (Rep.prod (Rep.int .u8) (Rep.prod (Rep.raw (α := List fragment_open) v_) Rep.unit))) u14 x_) (.oval (oslice 92 6 (fun _ => fragment_open.orep)) v_ x_.open_)) u14 s5.2.1), (true, .box 44 Packet_.rep u17 y9.1), (false, .slice 44 Packet_.rep u6 s4.2)] ++ Ωx) := h
              refine OpS.fbox (o3 := 2) h .z PA.a fa51_2 rfl rfl rfl rfl ?_
              exact ⟨undef, rfl, trivial, h⟩
             ·intro q3 w Γx Ωx h
              have h : St e w ([(false, .val ref22_Item.rep (q2 12) x11)] ++ Γx) ([(false, .box 53 ref22_Item.rep (q2 13) x11), (false, .box 49 (Rep.iso (fun s : ref22_Assembler => (s.Own, s.Items, ())) (Rep.prod (Rep.int .u8) (Rep.prod (Rep.raw (α := List ref22_Item) u30) Rep.unit))) u18 x10), (false, .slice 53 ref22_Item.rep u30 x10.Items), (false, .opt (fun x_ => .ex fun v_ => .sep (.box 83 (Rep.iso (fun s : fragment_Assembler => (s.own, s.open_, ())) (Rep.prod (Rep.int .u8) (Rep.prod (Rep.raw (α := List fragment_open) v_) Rep.unit))) u14 x_) (.oval (oslice 92 6 (fun _ => fragment_open.orep)) v_ x_.open_)) u14 s5.2.1), (true, .box 44 Packet_.rep u17 y9.1), (false, .slice 44 Packet_.rep u6 s4.2)] ++ Ωx) := h
              refine OpS.loadBi h .z PA.a (Get.comp (Get.fld ref22_Item.f0) (Get.fld Whole_.f2)) ty3 rfl rfl rfl ?_
              exact ⟨undef, rfl, trivial, h⟩
             ·intro q3 w Γx Ωx h
              have h : St e w ([(false, .val ref22_Item.rep (q2 12) x11)] ++ Γx) ([(false, .box 53 ref22_Item.rep (q2 13) x11), (false, .box 49 (Rep.iso (fun s : ref22_Assembler => (s.Own, s.Items, ())) (Rep.prod (Rep.int .u8) (Rep.prod (Rep.raw (α := List ref22_Item) u30) Rep.unit))) u18 x10), (false, .slice 53 ref22_Item.rep u30 x10.Items), (false, .opt (fun x_ => .ex fun v_ => .sep (.box 83 (Rep.iso (fun s : fragment_Assembler => (s.own, s.open_, ())) (Rep.prod (Rep.int .u8) (Rep.prod (Rep.raw (α := List fragment_open) v_) Rep.unit))) u14 x_) (.oval (oslice 92 6 (fun _ => fragment_open.orep)) v_ x_.open_)) u14 s5.2.1), (true, .box 44 Packet_.rep u17 y9.1), (false, .slice 44 Packet_.rep u6 s4.2)] ++ Ωx) := h
              refine OpS.fbox (o3 := 5) h .z PA.z fa53_2 rfl rfl rfl rfl ?_
              exact ⟨undef, rfl, trivial, h⟩
             ·intro q3 w Γx Ωx h
              have h : St e w ([(false, .val ref22_Item.rep (q2 12) x11)] ++ Γx) ([(false, .box 53 ref22_Item.rep (q2 13) x11), (false, .box 49 (Rep.iso (fun s : ref22_Assembler => (s.Own, s.Items, ())) (Rep.prod (Rep.int .u8) (Rep.prod (Rep.raw (α := List ref22_Item) u30) Rep.unit))) u18 x10), (false, .slice 53 ref22_Item.rep u30 x10.Items), (false, .opt (fun x_ => .ex fun v_ => .sep (.box 83 (Rep.iso (fun s : fragment_Assembler => (s.own, s.open_, ())) (Rep.prod (Rep.int .u8) (Rep.prod (Rep.raw (α := List fragment_open) v_) Rep.unit))) u14 x_) (.oval (oslice 92 6 (fun _ => fragment_open.orep)) v_ x_.open_)) u14 s5.2.1), (true, .box 44 Packet_.rep u17 y9.1), (false, .slice 44 Packet_.rep u6 s4.2)] ++ Ωx) := h
              refine OpS.loadBi h .z PA.a (Get.fld ref22_Item.f2) ty3 rfl rfl rfl ?_
              exact ⟨undef, rfl, trivial, h⟩
             ·intro q3 w Γx Ωx h
              refine OpS.mv rfl rfl rfl ?_
              exact ⟨undef, rfl, trivial, h⟩
             ·intro q3 w Γx Ωx h
              have h : St e w ([(false, .val ref22_Item.rep (q2 12) x11)] ++ Γx) ([(false, .box 85 made_Dice.rep u5 y18.2), (false, .box 49 (Rep.iso (fun s : ref22_Assembler => (s.Own, s.Items, ())) (Rep.prod (Rep.int .u8) (Rep.prod (Rep.raw (α := List ref22_Item) u30) Rep.unit))) u18 x10), (false, .slice 53 ref22_Item.rep u30 x10.Items), (false, .opt (fun x_ => .ex fun v_ => .sep (.box 83 (Rep.iso (fun s : fragment_Assembler => (s.own, s.open_, ())) (Rep.prod (Rep.int .u8) (Rep.prod (Rep.raw (α := List fragment_open) v_) Rep.unit))) u14 x_) (.oval (oslice 92 6 (fun _ => fragment_open.orep)) v_ x_.open_)) u14 s5.2.1), (true, .box 44 Packet_.rep u17 y9.1), (false, .slice 44 Packet_.rep u6 s4.2)] ++ Ωx) := h
              have h126 := h.front (.cons .z .nil)
              refine OpS.callO h126 Try.func22 rfl rfl rfl rfl (vs := [u5, .int .i64 4]) rfl (made_Dice_Bool_ok e45) rfl .nil ?_
              rintro _ w48 _ _ _ ⟨rfl, rfl, rfl, rfl⟩ h127
              have h128 := h127
              simp only [List.cons_append, List.nil_append] at h128
              exact ⟨undef, rfl, trivial, h128⟩
             ·intro q3 w Γx Ωx h
              have h : St e w ([(false, .val ref22_Item.rep (q2 12) x11)] ++ Γx) ([(false, .box 53 ref22_Item.rep (q2 13) x11), (false, .box 49 (Rep.iso (fun s : ref22_Assembler => (s.Own, s.Items, ())) (Rep.prod (Rep.int .u8) (Rep.prod (Rep.raw (α := List ref22_Item) u30) Rep.unit))) u18 x10), (false, .slice 53 ref22_Item.rep u30 x10.Items), (false, .opt (fun x_ => .ex fun v_ => .sep (.box 83 (Rep.iso (fun s : fragment_Assembler => (s.own, s.open_, ())) (Rep.prod (Rep.int .u8) (Rep.prod (Rep.raw (α := List fragment_open) v_) Rep.unit))) u14 x_) (.oval (oslice 92 6 (fun _ => fragment_open.orep)) v_ x_.open_)) u14 s5.2.1), (true, .box 44 Packet_.rep u17 y9.1), (false, .slice 44 Packet_.rep u6 s4.2)] ++ Ωx) := h
              refine OpS.fbox (o3 := 4) h .z PA.z fa53_1 rfl rfl rfl rfl ?_
              exact ⟨undef, rfl, trivial, h⟩
             ·intro q3 w Γx Ωx h
              have h : St e w ([(false, .val ref22_Item.rep (q2 12) x11)] ++ Γx) ([(false, .box 53 ref22_Item.rep (q2 13) x11), (false, .box 49 (Rep.iso (fun s : ref22_Assembler => (s.Own, s.Items, ())) (Rep.prod (Rep.int .u8) (Rep.prod (Rep.raw (α := List ref22_Item) u30) Rep.unit))) u18 x10), (false, .slice 53 ref22_Item.rep u30 x10.Items), (false, .opt (fun x_ => .ex fun v_ => .sep (.box 83 (Rep.iso (fun s : fragment_Assembler => (s.own, s.open_, ())) (Rep.prod (Rep.int .u8) (Rep.prod (Rep.raw (α := List fragment_open) v_) Rep.unit))) u14 x_) (.oval (oslice 92 6 (fun _ => fragment_open.orep)) v_ x_.open_)) u14 s5.2.1), (true, .box 44 Packet_.rep u17 y9.1), (false, .slice 44 Packet_.rep u6 s4.2)] ++ Ωx) := h
              refine OpS.loadBi h .z PA.a (Get.fld ref22_Item.f1) ty3 rfl rfl rfl ?_
              exact ⟨undef, rfl, trivial, h⟩
             ·intro q3 w Γx Ωx h
              refine OpS.make h Try.underlying22 ti5 rfl rfl (Zr.int .u8 0) rfl rfl rfl rfl e46 (by simp) (mk_fits e46) rfl (fun u w49 h129 => ?_)
              exact ⟨u, rfl, trivial, (h129.freeze)⟩
             ·intro q3 w Γx Ωx h
              refine OpS.build (f := true) (x' := (⟨9, x11.Whole.From, false, y19.1, x11.Next, x11.Whole.Owner, x11.Whole.Tag, x12⟩ : Packet_)) h pl44 ti44 Packet_.zr rfl rfl rfl (.cons rfl Packet_.f0 rfl V.int (.cons rfl Packet_.f1 rfl V.int (.cons rfl Packet_.f5 rfl V.bool (.cons rfl Packet_.f6 rfl V.int (.cons rfl Packet_.f4 rfl V.int (.cons rfl Packet_.f3 rfl V.bool (.cons rfl Packet_.f7 rfl (V.at .z) .nil))))))) (fun u h130 => ?_)
              exact ⟨u, rfl, trivial, h130⟩
             have h131 : St e w [(true, .val (Rep.slice (Rep.int .u8)) (q3 15) x12), (true, .val Packet_.rep (q3 16) (⟨9, x11.Whole.From, false, y19.1, x11.Next, x11.Whole.Owner, x11.Whole.Tag, x12⟩ : Packet_)), (false, .val ref22_Item.rep (q2 12) x11)] [(false, .box 53 ref22_Item.rep (q2 13) x11), (false, .box 85 made_Dice.rep u5 y19.2), (false, .box 49 (Rep.iso (fun s : ref22_Assembler => (s.Own, s.Items, ())) (Rep.prod (Rep.int .u8) (Rep.prod (Rep.raw (α := List ref22_Item) u30) Rep.unit))) u18 x10), (false, .slice 53 ref22_Item.rep u30 x10.Items), (false, .opt (fun x_ => .ex fun v_ => .sep (.box 83 (Rep.iso (fun s : fragment_Assembler => (s.own, s.open_, ())) (Rep.prod (Rep.int .u8) (Rep.prod (Rep.raw (α := List fragment_open) v_) Rep.unit))) u14 x_) (.oval (oslice 92 6 (fun _ => fragment_open.orep)) v_ x_.open_)) u14 s5.2.1), (true, .box 44 Packet_.rep u17 y9.1), (false, .slice 44 Packet_.rep u6 s4.2)] := h
             refine op (OpS.storeB (f' := true) h131 (.s (.s (.s (.s (.s .z))))) PA.z Put.id ty44 rfl rfl rfl (V.at (.s .z)) (.inl rfl) (fun w50 h132 => ?_))
             refine RunL.nil ?_
             refine Run.slim [(11, u14), (12, u18), (14, u5), (15, u6), (17, u17)] ⟨rfl, rfl, rfl, rfl, rfl, trivial⟩ ?_
             refine Run.seq ?_
             refine Run.seq ?_
             refine Run.reg ?_
             refine op (OpS.mv rfl rfl rfl ?_)
             obtain ⟨y20, e47, hF⟩ := bindP_use hF
             have h133 := h132.front (.cons (.s (.s .z)) .nil)
             refine op (OpS.callO h133 Try.func22 rfl rfl rfl rfl (vs := [u5, .int .i64 15]) rfl (made_Dice_Bool_ok e47) rfl .nil ?_)
             rintro _ w51 _ _ _ ⟨rfl, rfl, rfl, rfl⟩ h134
             have h135 := h134
             simp only [List.cons_append, List.nil_append] at h135
             refine RunL.nil ?_
             refine Run.slim [(148, .bool y20.1), (11, u14), (12, u18), (14, u5), (15, u6), (17, u17)] ⟨rfl, rfl, rfl, rfl, rfl, rfl, trivial⟩ ?_
             refine Run.join (σ := (made_Dice × Packet_)) (fun s_ L_ w_ => L_ = [(11, u14), (12, u18), (14, u5), (15, u6), (17, u17)] ∧ St e w_ [] [(false, .opt (fun x_ => .ex fun v_ => .sep (.box 83 (Rep.iso (fun s : fragment_Assembler => (s.own, s.open_, ())) (Rep.prod (Rep.int .u8) (Rep.prod (Rep.raw (α := List fragment_open) v_) Rep.unit))) u14 x_) (.oval (oslice 92 6 (fun _ => fragment_open.orep)) v_ x_.open_)) u14 s5.2.1), (false, .box 49 (Rep.iso (fun s : ref22_Assembler => (s.Own, s.Items, ())) (Rep.prod (Rep.int .u8) (Rep.prod (Rep.raw (α := List ref22_Item) u30) Rep.unit))) u18 x10), (false, .box 85 made_Dice.rep u5 s_.1), (true, .box 44 Packet_.rep u17 s_.2), (false, .slice 44 Packet_.rep u6 s4.2), (false, .slice 53 ref22_Item.rep u30 x10.Items)]) hF (fun s10 _ w52 hI hF => ?_) (fun j8 hj8 hF => ?_)
             ·
              obtain ⟨rfl, h136⟩ := hI
              refine Run.seq ?_
              refine Run.reg ?_
              refine op (OpS.mv rfl rfl rfl ?_)
              obtain ⟨y21, e48, hF⟩ := bindP_use hF
              have h137 := h136.front (.cons (.s (.s .z)) .nil)
              refine op (OpS.callO h137 Try.func22 rfl rfl rfl rfl (vs := [u5, .int .i64 15]) rfl (made_Dice_Bool_ok e48) rfl .nil ?_)
              rintro _ w53 _ _ _ ⟨rfl, rfl, rfl, rfl⟩ h138
              have h139 := h138
              simp only [List.cons_append, List.nil_append] at h139
              refine RunL.nil ?_
              refine Run.slim [(153, .bool y21.1), (11, u14), (12, u18), (14, u5), (15, u6), (17, u17)] ⟨rfl, rfl, rfl, rfl, rfl, rfl, trivial⟩ ?_
              refine Run.ite rfl hF (fun e49 hF => ?_) (fun e49 hF => ?_)
              ·
               refine Run.reg ?_
               refine op (OpS.mv rfl rfl rfl ?_)
               obtain ⟨y22, e50, hF⟩ := bindP_use hF
               have h140 := h139.front (.cons .z .nil)
               refine op (OpS.callO h140 Try.func23 rfl rfl rfl rfl (vs := [u5, .int .i64 64]) rfl (made_Dice_Next_ok e50) rfl .nil ?_)
               rintro _ w54 _ _ _ ⟨rfl, rfl, rfl, rfl⟩ h141
               have h142 := h141
               simp only [List.cons_append, List.nil_append] at h142
               refine op (OpS.bin rfl rfl rfl rfl rfl ?_)
               obtain ⟨x13, e51, hF⟩ := bindP_use hF
               refine op (OpS.make h142 Try.underlying22 ti5 rfl rfl (Zr.int .u8 0) rfl rfl rfl rfl e51 (by simp) (mk_fits e51) rfl (fun u31 w55 h143 => ?_))
               refine op (OpS.fbox (o3 := 7) h143 (.s (.s (.s (.s .z)))) PA.z fa44_7 rfl rfl rfl rfl ?_)
               refine op (OpS.storeC (f' := true) (fr := (Rep.raw u31)) (r' := (Rep.iso (fun s : Packet_ => (s.To, s.From, s.Start, s.End, s.Sequence, s.Owner, s.Tag, s.Data, ())) (Rep.prod (Rep.int .u8) (Rep.prod (Rep.int .u8) (Rep.prod Rep.bool (Rep.prod Rep.bool (Rep.prod (Rep.int .i64) (Rep.prod Rep.bool (Rep.prod (Rep.int .i64) (Rep.prod (Rep.raw (α := List Int) u31) Rep.unit)))))))))) (x' := s10.2) h143 (.s (.s (.s (.s .z)))) PA.a (Chg.iso _ (Chg.there (Chg.there (Chg.there (Chg.there (Chg.there (Chg.there (Chg.there (Chg.here (Chg.id (by rfl))))))))))) (Ty.like ty22 (by rfl) (by rfl)) rfl rfl rfl (V.raw (f := true) (St.own1 h143 .z) s10.2.Data) (.inl rfl) (fun w56 h144 => ?_))
               refine RunL.nil ?_
               refine Run.slim [(11, u14), (12, u18), (14, u5), (15, u6), (17, u17)] ⟨rfl, rfl, rfl, rfl, rfl, trivial⟩ ?_
               have h145 := h144.front (.cons (.s (.s (.s (.s .z)))) (.cons (.s (.s (.s (.s (.s .z))))) .nil))
               have h146 := St.some (H := (fun x_ => .ex fun v_ => .sep (.box 49 (Rep.iso (fun s : ref22_Assembler => (s.Own, s.Items, ())) (Rep.prod (Rep.int .u8) (Rep.prod (Rep.raw (α := List ref22_Item) v_) Rep.unit))) u18 x_) (.slice 53 ref22_Item.rep v_ x_.Items))) (q := u18) (x := x10) (St.ex (H := fun v_ => .sep (.box 49 (Rep.iso (fun s : ref22_Assembler => (s.Own, s.Items, ())) (Rep.prod (Rep.int .u8) (Rep.prod (Rep.raw (α := List ref22_Item) v_) Rep.unit))) u18 x10) (.slice 53 ref22_Item.rep v_ x10.Items)) u30 (St.sep h145))
               have h147 := (h146.pick (.s (.s .z))).freeze
               have h148 := h147.pick (.s .z)
               have h149 := St.boxJ (r' := Packet_.rep) (x' := { s10.2 with Data := x13 }) h148 (fun _ _ hs_ => (Jn.iso _ (Jn.prod Jn.refl (Jn.prod Jn.refl (Jn.prod Jn.refl (Jn.prod Jn.refl (Jn.prod Jn.refl (Jn.prod Jn.refl (Jn.prod Jn.refl (Jn.prod (Jn.raw ((V.at .z) _ _ hs_) rfl) Jn.refl))))))))))
               refine Run.slim [(11, u14), (12, u18), (14, u5), (15, u6), (17, u17)] ⟨rfl, rfl, rfl, rfl, rfl, trivial⟩ ?_
               exact hj6 (y22.2, { s10.2 with Data := x13 }, (some x10)) _ _ ⟨u18, rfl, (h149.facts .nil).picks (.cons (.s (.s (.s .z))) (.cons (.s (.s .z)) (.cons .z (.cons (.s .z) (.cons .z .nil)))))⟩ hF
              ·
               refine Run.skip ?_
               have h150 := h139.front (.cons (.s (.s .z)) (.cons (.s (.s (.s (.s .z)))) .nil))
               have h151 := St.some (H := (fun x_ => .ex fun v_ => .sep (.box 49 (Rep.iso (fun s : ref22_Assembler => (s.Own, s.Items, ())) (Rep.prod (Rep.int .u8) (Rep.prod (Rep.raw (α := List ref22_Item) v_) Rep.unit))) u18 x_) (.slice 53 ref22_Item.rep v_ x_.Items))) (q := u18) (x := x10) (St.ex (H := fun v_ => .sep (.box 49 (Rep.iso (fun s : ref22_Assembler => (s.Own, s.Items, ())) (Rep.prod (Rep.int .u8) (Rep.prod (Rep.raw (α := List ref22_Item) v_) Rep.unit))) u18 x10) (.slice 53 ref22_Item.rep v_ x10.Items)) u30 (St.sep h150))
               refine Run.slim [(11, u14), (12, u18), (14, u5), (15, u6), (17, u17)] ⟨rfl, rfl, rfl, rfl, rfl, trivial⟩ ?_
               exact hj6 (y21.2, s10.2, (some x10)) _ _ ⟨u18, rfl, (h151.facts .nil).picks (.cons (.s (.s .z)) (.cons (.s .z) (.cons (.s .z) (.cons (.s .z) (.cons .z .nil)))))⟩ hF
             ·
              refine Run.ite rfl hF (fun e52 hF => ?_) (fun e52 hF => ?_)
              ·
               refine Run.reg ?_
               refine op (OpS.mv rfl rfl rfl ?_)
               obtain ⟨y23, e53, hF⟩ := bindP_use hF
               have h152 := h135.front (.cons .z .nil)
               refine op (OpS.callO h152 Try.func23 rfl rfl rfl rfl (vs := [u5, .int .i64 4]) rfl (made_Dice_Next_ok e53) rfl .nil ?_)
               rintro _ w57 _ _ _ ⟨rfl, rfl, rfl, rfl⟩ h153
               have h154 := h153
               simp only [List.cons_append, List.nil_append] at h154
               refine op (OpS.fbox (o3 := 4) h154 (.s .z) PA.z fa44_4 rfl rfl rfl rfl ?_)
               obtain ⟨d4, e54, hF⟩ := letP_use hF
               refine op (OpS.storeB (f' := true) h154 (.s .z) PA.a (Put.of (Put.fld Packet_.f4) e54) ty3 rfl rfl rfl V.int (.inl rfl) (fun w58 h155 => ?_))
               refine RunL.nil ?_
               refine Run.slim [(11, u14), (12, u18), (14, u5), (15, u6), (17, u17)] ⟨rfl, rfl, rfl, rfl, rfl, trivial⟩ ?_
               refine Run.slim [(11, u14), (12, u18), (14, u5), (15, u6), (17, u17)] ⟨rfl, rfl, rfl, rfl, rfl, trivial⟩ ?_
               exact hj8 (y23.2, d4) _ _ ⟨rfl, (h155.facts .nil).picks (.cons (.s (.s (.s (.s (.s .z))))) (.cons (.s (.s (.s .z))) (.cons (.s .z) (.cons .z (.cons (.s (.s .z)) (.cons (.s .z) .nil))))))⟩ hF
              ·
               refine Run.skip ?_
               refine Run.slim [(11, u14), (12, u18), (14, u5), (15, u6), (17, u17)] ⟨rfl, rfl, rfl, rfl, rfl, trivial⟩ ?_
               exact hj8 (y20.2, (⟨9, x11.Whole.From, false, y19.1, x11.Next, x11.Whole.Owner, x11.Whole.Tag, x12⟩ : Packet_)) _ _ ⟨rfl, (h135.facts .nil).picks (.cons (.s (.s (.s (.s (.s .z))))) (.cons (.s (.s (.s .z))) (.cons .z (.cons .z (.cons (.s (.s .z)) (.cons (.s .z) .nil))))))⟩ hF
            ·
             refine Run.skip ?_
             refine Run.slim [(11, u14), (12, u18), (14, u5), (15, u6), (17, u17)] ⟨rfl, rfl, rfl, rfl, rfl, trivial⟩ ?_
             exact hj6 (y10.2, y9.1, s7.2) _ _ ⟨u18, rfl, (h43.facts .nil).picks (.cons .z (.cons .z (.cons .z (.cons .z (.cons .z .nil)))))⟩ hF
          ·
           refine RunL.caseb hF (fun e55 hF => ?_) (fun e55 hF => ?_)
           ·
            refine op (OpS.mv rfl rfl rfl ?_)
            obtain ⟨x14, e56, hF⟩ := bindP_use hF
            have h156 := St.unopt (h42.pick (.s (.s (.s .z)))) e56
            obtain ⟨u32, h157⟩ := h156.unex
            have h158 := h157.unsep
            refine op (OpS.nchk h158 .z rfl rfl rfl ?_)
            refine op (OpS.fbox (o3 := 1) h158 .z PA.z fa49_1 rfl rfl rfl rfl ?_)
            refine op (OpS.loadR h158 .z PA.a (GetS.ok (GetS.iso _ (GetS.there (GetS.here GetS.id)))) ty47 rfl rfl rfl rfl rfl ?_)
            refine op (OpS.lenO h158 (.s .z) Try.underlying47 rfl rfl rfl ?_)
            refine op (OpS.bin rfl rfl rfl rfl rfl ?_)
            refine op (OpS.pick rfl rfl rfl rfl ?_)
            refine RunL.nil ?_
            refine Run.slim [(116, .bool (decide ((x14.Items.length : Int) > 0))), (17, u17), (11, u14), (12, u15), (14, u5), (15, u6)] ⟨rfl, rfl, rfl, rfl, rfl, rfl, trivial⟩ ?_
            have h159 := h158.front (.cons .z (.cons .z .nil))
            have h160 := St.some (H := (fun x_ => .ex fun v_ => .sep (.box 49 (Rep.iso (fun s : ref22_Assembler => (s.Own, s.Items, ())) (Rep.prod (Rep.int .u8) (Rep.prod (Rep.raw (α := List ref22_Item) v_) Rep.unit))) u15 x_) (.slice 53 ref22_Item.rep v_ x_.Items))) (q := u15) (x := x14) (St.ex (H := fun v_ => .sep (.box 49 (Rep.iso (fun s : ref22_Assembler => (s.Own, s.Items, ())) (Rep.prod (Rep.int .u8) (Rep.prod (Rep.raw (α := List ref22_Item) v_) Rep.unit))) u15 x14) (.slice 53 ref22_Item.rep v_ x14.Items)) u32 (St.sep h159))
            refine Run.slim [(11, u14), (12, u15), (14, u5), (15, u6), (17, u17), (116, .bool (decide ((x14.Items.length : Int) > 0)))] ⟨rfl, rfl, rfl, rfl, rfl, rfl, trivial⟩ ?_
            exact hj5 (decide ((x14.Items.length : Int) > 0), (some x14)) _ _ ⟨u15, rfl, (h160.facts .nil).picks (.cons (.s (.s (.s .z))) (.cons (.s .z) (.cons (.s .z) (.cons (.s .z) (.cons .z .nil)))))⟩ hF
           ·
            refine op (OpS.pass rfl rfl rfl ?_)
            refine op (OpS.pass rfl rfl rfl ?_)
            refine op (OpS.pass rfl rfl rfl ?_)
            refine op (OpS.pass rfl rfl rfl ?_)
            refine op (OpS.pass rfl rfl rfl ?_)
            refine op (OpS.pass rfl rfl rfl ?_)
            refine op (OpS.pick rfl rfl rfl rfl ?_)
            refine RunL.nil ?_
            refine Run.slim [(116, .bool false), (17, u17), (11, u14), (12, u15), (14, u5), (15, u6)] ⟨rfl, rfl, rfl, rfl, rfl, rfl, trivial⟩ ?_
            refine Run.slim [(11, u14), (12, u15), (14, u5), (15, u6), (17, u17), (116, .bool false)] ⟨rfl, rfl, rfl, rfl, rfl, rfl, trivial⟩ ?_
            exact hj5 (false, s5.2.2) _ _ ⟨u15, rfl, (h42.facts .nil).picks (.cons (.s (.s .z)) (.cons .z (.cons .z (.cons (.s .z) (.cons .z .nil)))))⟩ hF
         ·
          refine Run.exit rfl ?_
          refine Run.seq ?_
          refine Run.seq ?_
          refine Run.reg ?_
          refine op (OpS.as rfl rfl rfl ?_)
          refine RunL.nil ?_
          refine Run.slim [(25, .int .i64 0), (11, u14), (12, u15), (15, u6)] ⟨rfl, rfl, rfl, rfl, trivial⟩ ?_
          refine Run.block ?_
          refine Run.slim [(11, u14), (12, u15), (15, u6), (25, .int .i64 0)] ⟨rfl, rfl, rfl, rfl, trivial⟩ ?_
          refine Run.loopP (σ := (Int × (Option fragment_Assembler) × (Option ref22_Assembler))) (fun s_ L_ w_ => ∃ u0_ u1_ : Value, L_ = [(11, u0_), (12, u1_), (15, u6), (25, .int .i64 s_.1)] ∧ St e w_ [] [(false, .slice 44 Packet_.rep u6 s4.2), (false, .opt (fun x_ => .ex fun v_ => .sep (.box 83 (Rep.iso (fun s : fragment_Assembler => (s.own, s.open_, ())) (Rep.prod (Rep.int .u8) (Rep.prod (Rep.raw (α := List fragment_open) v_) Rep.unit))) u0_ x_) (.oval (oslice 92 6 (fun _ => fragment_open.orep)) v_ x_.open_)) u0_ s_.2.1), (false, .opt (fun x_ => .ex fun v_ => .sep (.box 49 (Rep.iso (fun s : ref22_Assembler => (s.Own, s.Items, ())) (Rep.prod (Rep.int .u8) (Rep.prod (Rep.raw (α := List ref22_Item) v_) Rep.unit))) u1_ x_) (.slice 53 ref22_Item.rep v_ x_.Items)) u1_ s_.2.2)]) hF ⟨u14, u15, rfl, (h34.facts .nil).picks (.cons (.s (.s (.s .z))) (.cons .z (.cons .z .nil)))⟩ (fun k3 hk3 s11 _ w59 hI hF => ?_)
          obtain ⟨u33, u34, rfl, h161⟩ := hI
          refine Run.seq ?_
          refine Run.seq ?_
          refine Run.reg ?_
          refine op (OpS.mv rfl rfl rfl ?_)
          refine op (OpS.mv rfl rfl rfl ?_)
          refine op (OpS.lenO h161 .z Try.underlying27 rfl rfl rfl ?_)
          refine op (OpS.bin rfl rfl rfl rfl rfl ?_)
          refine RunL.nil ?_
          refine Run.slim [(211, .bool (decide (s11.1 < (s4.2.length : Int)))), (11, u33), (12, u34), (15, u6), (25, .int .i64 s11.1)] ⟨rfl, rfl, rfl, rfl, rfl, trivial⟩ ?_
          refine Run.ite rfl hF (fun e57 hF => ?_) (fun e57 hF => ?_)
          ·
           refine Run.skip ?_
           refine Run.seq ?_
           refine Run.block ?_
           refine Run.seq ?_
           refine Run.reg ?_
           refine op (OpS.mv rfl rfl rfl ?_)
           refine op (OpS.mv rfl rfl rfl ?_)
           refine op (OpS.mv rfl rfl rfl ?_)
           obtain ⟨x15, e58, hF⟩ := bindP_use hF
           refine op (OpS.iown h161 .z Try.underlying27 ty44 rfl rfl rfl rfl e58 ?_)
           refine op (OpS.loadO h161 .z (idx_ne e58) PA.a (Get.arr e58) ty44 rfl rfl rfl (fun u35 h162 => ?_))
           obtain ⟨x16, e59, hF⟩ := bindP_use hF
           have h163 := St.unopt (h162.pick (.s .z)) e59
           obtain ⟨u36, h164⟩ := h163.unex
           have h165 := h164.unsep
           obtain ⟨y24, e60, hF⟩ := bindP_use hF
           have h166 := h165.front (.cons .z (.cons .z .nil))
           refine op (OpS.callO h166 Try.func24 rfl rfl rfl rfl (vs := [u33, u35]) rfl (fragment_Assembler_Accept_ok e60) rfl (.cons (f := false) (V.at .z) .nil) ?_)
           rintro _ w60 _ _ _ ⟨u37, u38, rfl, rfl, rfl, rfl⟩ h167
           have h168 := h167
           simp only [List.cons_append, List.nil_append] at h168
           refine op (OpS.mv rfl rfl rfl ?_)
           refine op (OpS.ext rfl rfl rfl rfl ?_)
           refine op (OpS.ext rfl rfl rfl rfl ?_)
           refine op (OpS.ext rfl rfl rfl rfl ?_)
           refine op (OpS.alloc h168 ti51 Whole_.zr rfl rfl (fun u39 w61 h169 => ?_))
           have h170 := (h169.pick .z).weak
           refine op (OpS.storeB (f' := false) h170 .z PA.z Put.id ty51 rfl rfl rfl (V.at .z) (.inr rfl) (fun w62 h171 => ?_))
           refine op (OpS.as rfl rfl rfl ?_)
           refine op (OpS.as rfl rfl rfl ?_)
           refine RunL.nil ?_
           refine Run.slim [(28, .int .i64 y24.2.2.1), (27, .bool y24.2.1), (26, u39), (11, u33), (12, u34), (15, u6), (25, .int .i64 s11.1)] ⟨rfl, rfl, rfl, rfl, rfl, rfl, rfl, trivial⟩ ?_
           refine Run.seq ?_
           refine Run.reg ?_
           refine op (OpS.mv rfl rfl rfl ?_)
           refine op (OpS.mv rfl rfl rfl ?_)
           refine op (OpS.mv rfl rfl rfl ?_)
           obtain ⟨x17, e61, hF⟩ := bindP_use hF
           refine op (OpS.iown h171 (.s (.s (.s .z))) Try.underlying27 ty44 rfl rfl rfl rfl e61 ?_)
           refine op (OpS.loadO h171 (.s (.s (.s .z))) (idx_ne e61) PA.a (Get.arr e61) ty44 rfl rfl rfl (fun u40 h172 => ?_))
           obtain ⟨x18, e62, hF⟩ := bindP_use hF
           have h173 := St.unopt (h172.pick (.s (.s (.s (.s .z))))) e62
           obtain ⟨u41, h174⟩ := h173.unex
           have h175 := h174.unsep
           obtain ⟨y25, e63, hF⟩ := bindP_use hF
           have h176 := h175.front (.cons .z (.cons .z .nil))
           refine op (OpS.callO h176 Try.func25 rfl rfl rfl rfl (vs := [u34, u40]) rfl (ref22_Assembler_Accept_ok e63) rfl (.cons (f := false) (V.at .z) .nil) ?_)
           rintro _ w63 _ _ _ ⟨u42, u43, rfl, rfl, rfl, rfl⟩ h177
           have h178 := h177
           simp only [List.cons_append, List.nil_append] at h178
           refine op (OpS.mv rfl rfl rfl ?_)
           refine op (OpS.ext rfl rfl rfl rfl ?_)
           refine op (OpS.ext rfl rfl rfl rfl ?_)
           refine op (OpS.ext rfl rfl rfl rfl ?_)
           refine op (OpS.alloc h178 ti51 Whole_.zr rfl rfl (fun u44 w64 h179 => ?_))
           refine op (OpS.storeB (f' := true) h179 .z PA.z Put.id ty51 rfl rfl rfl (V.at .z) (.inl rfl) (fun w65 h180 => ?_))
           refine op (OpS.as rfl rfl rfl ?_)
           refine op (OpS.as rfl rfl rfl ?_)
           refine RunL.nil ?_
           refine Run.slim [(31, .int .i64 y25.2.2.1), (30, .bool y25.2.1), (29, u44), (28, .int .i64 y24.2.2.1), (27, .bool y24.2.1), (26, u39), (11, u33), (12, u34), (15, u6), (25, .int .i64 s11.1)] ⟨rfl, rfl, rfl, rfl, rfl, rfl, rfl, rfl, rfl, rfl, trivial⟩ ?_
           refine Run.seq ?_
           refine Run.join (σ := Bool) (fun s_ L_ w_ => L_ = [(11, u33), (12, u34), (15, u6), (25, .int .i64 s11.1), (257, .bool s_)] ∧ St e w_ [] [(false, .box 83 (Rep.iso (fun s : fragment_Assembler => (s.own, s.open_, ())) (Rep.prod (Rep.int .u8) (Rep.prod (Rep.raw (α := List fragment_open) u38) Rep.unit))) u33 y24.2.2.2), (false, .box 49 (Rep.iso (fun s : ref22_Assembler => (s.Own, s.Items, ())) (Rep.prod (Rep.int .u8) (Rep.prod (Rep.raw (α := List ref22_Item) u43) Rep.unit))) u34 y25.2.2.2), (false, .slice 44 Packet_.rep u6 s4.2), (false, .oval (oslice 92 6 (fun _ => fragment_open.orep)) u38 y24.2.2.2.open_), (false, .slice 53 ref22_Item.rep u43 y25.2.2.2.Items)]) hF (fun s12 _ w66 hI hF => ?_) (fun j9 hj9 hF => ?_)
           ·
            obtain ⟨rfl, h181⟩ := hI
            refine Run.ite rfl hF (fun e64 hF => ?_) (fun e64 hF => ?_)
            ·
             refine Run.seq ?_
             refine Run.reg ?_
             refine op (OpS.as rfl rfl rfl ?_)
             refine RunL.nil ?_
             refine Run.slim [(6, .bool false)] ⟨rfl, trivial⟩ ?_
             refine Run.retP rfl (.tmp rfl .nil) ?_
             cases hF
             exact Post.mk' ⟨rfl, rfl, rfl, rfl⟩ (h181.picks .nil) .nil
            ·
             refine Run.skip ?_
             refine Run.endBlock ?_
             refine Run.reg ?_
             refine op (OpS.mv rfl rfl rfl ?_)
             refine op (OpS.bin rfl rfl rfl rfl rfl ?_)
             refine op (OpS.as rfl rfl rfl ?_)
             obtain ⟨x19, e65, hF⟩ := letP_use hF
             refine RunL.name e65 ?_
             refine RunL.nil ?_
             refine Run.slim [(25, .int .i64 x19), (11, u33), (12, u34), (15, u6)] ⟨rfl, rfl, rfl, rfl, trivial⟩ ?_
             have h182 := h181.front (.cons .z (.cons (.s (.s .z)) .nil))
             have h183 := St.some (H := (fun x_ => .ex fun v_ => .sep (.box 83 (Rep.iso (fun s : fragment_Assembler => (s.own, s.open_, ())) (Rep.prod (Rep.int .u8) (Rep.prod (Rep.raw (α := List fragment_open) v_) Rep.unit))) u33 x_) (.oval (oslice 92 6 (fun _ => fragment_open.orep)) v_ x_.open_))) (q := u33) (x := y24.2.2.2) (St.ex (H := fun v_ => .sep (.box 83 (Rep.iso (fun s : fragment_Assembler => (s.own, s.open_, ())) (Rep.prod (Rep.int .u8) (Rep.prod (Rep.raw (α := List fragment_open) v_) Rep.unit))) u33 y24.2.2.2) (.oval (oslice 92 6 (fun _ => fragment_open.orep)) v_ y24.2.2.2.open_)) u38 (St.sep h182))
             have h184 := h183.front (.cons (.s .z) (.cons (.s (.s .z)) .nil))
             have h185 := St.some (H := (fun x_ => .ex fun v_ => .sep (.box 49 (Rep.iso (fun s : ref22_Assembler => (s.Own, s.Items, ())) (Rep.prod (Rep.int .u8) (Rep.prod (Rep.raw (α := List ref22_Item) v_) Rep.unit))) u34 x_) (.slice 53 ref22_Item.rep v_ x_.Items))) (q := u34) (x := y25.2.2.2) (St.ex (H := fun v_ => .sep (.box 49 (Rep.iso (fun s : ref22_Assembler => (s.Own, s.Items, ())) (Rep.prod (Rep.int .u8) (Rep.prod (Rep.raw (α := List ref22_Item) v_) Rep.unit))) u34 y25.2.2.2) (.slice 53 ref22_Item.rep v_ y25.2.2.2.Items)) u43 (St.sep h184))
             refine Run.slim [(11, u33), (12, u34), (15, u6), (25, .int .i64 x19)] ⟨rfl, rfl, rfl, rfl, trivial⟩ ?_
             exact hk3 (x19, (some y24.2.2.2), (some y25.2.2.2)) _ _ ⟨u33, u34, rfl, (h185.facts .nil).picks (.cons (.s (.s .z)) (.cons (.s .z) (.cons .z .nil)))⟩ hF
           ·
            obtain ⟨x20, e66, hF⟩ := letP_use hF
            refine iteP_use hF (fun e67 hF => ?_) (fun e67 hF => ?_)
            ·
             have hG := hF
             subst e67
             have hF := hG
             refine Run.drawV (Ωs := [(false, .slice 44 Packet_.rep u6 s4.2)]) [⟨some 234, some (.int .i64 y24.2.2.1), fun _ => [], fun ds_ u_ => [], [], [], none⟩, ⟨some 235, some (.int .i64 y25.2.2.1), fun _ => [], fun ds_ u_ => [], [], [], none⟩, ⟨some 236, some (.bool (y24.2.2.1 != y25.2.2.1)), fun _ => [], fun ds_ u_ => [], [], [], none⟩, ⟨some 237, some (.bool true), fun _ => [], fun ds_ u_ => [], [], [], none⟩, ⟨some 238, some undef, fun _ => [], fun _ _ => [], [], [], none⟩, ⟨some 239, some undef, fun _ => [], fun _ _ => [], [], [], none⟩, ⟨some 240, some undef, fun _ => [], fun _ _ => [], [], [], none⟩, ⟨some 241, some (.bool true), fun _ => [], fun ds_ u_ => [], [], [], none⟩, ⟨some 242, some (.bool true), fun _ => [], fun ds_ u_ => [], [], [], none⟩, ⟨some 243, some undef, fun _ => [], fun _ _ => [], [], [], none⟩, ⟨some 244, some undef, fun _ => [], fun _ _ => [], [], [], none⟩, ⟨some 245, some undef, fun _ => [], fun _ _ => [], [], [], none⟩, ⟨some 246, some undef, fun _ => [], fun _ _ => [], [], [], none⟩, ⟨some 247, some (.bool true), fun _ => [], fun ds_ u_ => [], [], [], none⟩, ⟨some 248, some (.bool true), fun _ => [], fun ds_ u_ => [], [], [], none⟩, ⟨some 249, some undef, fun _ => [], fun _ _ => [], [], [], none⟩, ⟨some 250, some undef, fun _ => [], fun _ _ => [], [], [], none⟩, ⟨some 251, some undef, fun _ => [], fun _ _ => [], [], [], none⟩, ⟨some 252, some undef, fun _ => [], fun _ _ => [], [], [], none⟩, ⟨some 253, some undef, fun _ => [], fun _ _ => [], [], [], none⟩, ⟨some 254, some undef, fun _ => [], fun _ _ => [], [], [], none⟩, ⟨some 255, some undef, fun _ => [], fun _ _ => [], [], [], none⟩, ⟨some 256, some undef, fun _ => [], fun _ _ => [], [], [], none⟩, ⟨some 257, some (.bool true), fun _ => [], fun ds_ u_ => [], [], [], none⟩] [[], [], [0, 1], [2], [3], [3], [3], [3, 6], [7], [8], [8], [8], [8], [8, 12], [13], [14], [14], [14], [14], [14], [14], [14], [14], [14, 22]] [[(true, .box 51 Whole_.rep u44 y25.1)], [(false, .box 49 (Rep.iso (fun s : ref22_Assembler => (s.Own, s.Items, ())) (Rep.prod (Rep.int .u8) (Rep.prod (Rep.raw (α := List ref22_Item) u43) Rep.unit))) u34 y25.2.2.2)], [(false, .slice 53 ref22_Item.rep u43 y25.2.2.2.Items)], [(false, .box 51 Whole_.rep u39 y24.1)], [(false, .box 83 (Rep.iso (fun s : fragment_Assembler => (s.own, s.open_, ())) (Rep.prod (Rep.int .u8) (Rep.prod (Rep.raw (α := List fragment_open) u38) Rep.unit))) u33 y24.2.2.2)], [(false, .oval (oslice 92 6 (fun _ => fragment_open.orep)) u38 y24.2.2.2.open_)]] [0, 1, 2, 3, 4, 5, 6, 7, 8, 9, 10, 11, 12, 13, 14, 15, 16, 17, 18, 19, 20, 21, 22, 23, 24, 25, 26, 27, 28, 29] Try_mixed rfl rfl rfl h180 (.cons ?_ (.cons ?_ (.cons ?_ (.cons ?_ (.cons ?_ (.cons ?_ (.cons ?_ (.cons ?_ (.cons ?_ (.cons ?_ (.cons ?_ (.cons ?_ (.cons ?_ (.cons ?_ (.cons ?_ (.cons ?_ (.cons ?_ (.cons ?_ (.cons ?_ (.cons ?_ (.cons ?_ (.cons ?_ (.cons ?_ (.cons ?_ .nil)))))))))))))))))))))))) (fun q4 w hq7 h => ?_)
             ·intro q4 w Γx Ωx h
              refine OpS.mv rfl rfl rfl ?_
              exact ⟨undef, rfl, trivial, h⟩
             ·intro q4 w Γx Ωx h
              refine OpS.mv rfl rfl rfl ?_
              exact ⟨undef, rfl, trivial, h⟩
             ·intro q4 w Γx Ωx h
              refine OpS.bin rfl rfl rfl rfl rfl ?_
              exact ⟨undef, rfl, trivial, h⟩
             ·intro q4 w Γx Ωx h
              refine OpS.mv rfl rfl rfl ?_
              exact ⟨undef, (congrArg (fun z_ => some (Value.bool z_)) e66), trivial, h⟩
             ·intro q4 w Γx Ωx h
              exact OpS.pass rfl rfl rfl ⟨undef, rfl, trivial, h⟩
             ·intro q4 w Γx Ωx h
              exact OpS.pass rfl rfl rfl ⟨undef, rfl, trivial, h⟩
             ·intro q4 w Γx Ωx h
              exact OpS.pass rfl rfl rfl ⟨undef, rfl, trivial, h⟩
             ·intro q4 w Γx Ωx h
              refine OpS.pick rfl rfl rfl rfl ?_
              exact ⟨undef, rfl, trivial, h⟩
             ·intro q4 w Γx Ωx h
              refine OpS.mv rfl rfl rfl ?_
              exact ⟨undef, rfl, trivial, h⟩
             ·intro q4 w Γx Ωx h
              exact OpS.pass rfl rfl rfl ⟨undef, rfl, trivial, h⟩
             ·intro q4 w Γx Ωx h
              exact OpS.pass rfl rfl rfl ⟨undef, rfl, trivial, h⟩
             ·intro q4 w Γx Ωx h
              exact OpS.pass rfl rfl rfl ⟨undef, rfl, trivial, h⟩
             ·intro q4 w Γx Ωx h
              exact OpS.pass rfl rfl rfl ⟨undef, rfl, trivial, h⟩
             ·intro q4 w Γx Ωx h
              refine OpS.pick rfl rfl rfl rfl ?_
              exact ⟨undef, rfl, trivial, h⟩
             ·intro q4 w Γx Ωx h
              refine OpS.mv rfl rfl rfl ?_
              exact ⟨undef, rfl, trivial, h⟩
             ·intro q4 w Γx Ωx h
              exact OpS.pass rfl rfl rfl ⟨undef, rfl, trivial, h⟩
             ·intro q4 w Γx Ωx h
              exact OpS.pass rfl rfl rfl ⟨undef, rfl, trivial, h⟩
             ·intro q4 w Γx Ωx h
              exact OpS.pass rfl rfl rfl ⟨undef, rfl, trivial, h⟩
             ·intro q4 w Γx Ωx h
              exact OpS.pass rfl rfl rfl ⟨undef, rfl, trivial, h⟩
             ·intro q4 w Γx Ωx h
              exact OpS.pass rfl rfl rfl ⟨undef, rfl, trivial, h⟩
             ·intro q4 w Γx Ωx h
              exact OpS.pass rfl rfl rfl ⟨undef, rfl, trivial, h⟩
             ·intro q4 w Γx Ωx h
              exact OpS.pass rfl rfl rfl ⟨undef, rfl, trivial, h⟩
             ·intro q4 w Γx Ωx h
              exact OpS.pass rfl rfl rfl ⟨undef, rfl, trivial, h⟩
             ·intro q4 w Γx Ωx h
              refine OpS.pick rfl rfl rfl rfl ?_
              exact ⟨undef, rfl, trivial, h⟩
             have h186 : St e w [(true, .val Whole_.rep u42 y25.1), (false, .val Packet_.rep u40 x17), (false, .val Whole_.rep u37 y24.1), (false, .val Packet_.rep u35 x15)] [(true, .box 51 Whole_.rep u44 y25.1), (false, .box 49 (Rep.iso (fun s : ref22_Assembler => (s.Own, s.Items, ())) (Rep.prod (Rep.int .u8) (Rep.prod (Rep.raw (α := List ref22_Item) u43) Rep.unit))) u34 y25.2.2.2), (false, .slice 53 ref22_Item.rep u43 y25.2.2.2.Items), (false, .box 51 Whole_.rep u39 y24.1), (false, .box 83 (Rep.iso (fun s : fragment_Assembler => (s.own, s.open_, ())) (Rep.prod (Rep.int .u8) (Rep.prod (Rep.raw (α := List fragment_open) u38) Rep.unit))) u33 y24.2.2.2), (false, .oval (oslice 92 6 (fun _ => fragment_open.orep)) u38 y24.2.2.2.open_), (false, .slice 44 Packet_.rep u6 s4.2)] := h
             refine RunL.nil ?_
             refine Run.slim [(257, .bool true), (11, u33), (12, u34), (15, u6), (25, .int .i64 s11.1)] ⟨rfl, rfl, rfl, rfl, rfl, trivial⟩ ?_
             refine Run.slim [(11, u33), (12, u34), (15, u6), (25, .int .i64 s11.1), (257, .bool true)] ⟨rfl, rfl, rfl, rfl, rfl, trivial⟩ ?_
             exact hj9 (true) _ _ ⟨rfl, (h186.facts .nil).picks (.cons (.s (.s (.s (.s .z)))) (.cons (.s .z) (.cons (.s (.s (.s (.s .z)))) (.cons (.s (.s (.s .z))) (.cons (.s .z) .nil)))))⟩ hF
            ·
             have hG := hF
             subst e67
             have hF := hG
             obtain ⟨x21, e68, hF⟩ := letP_use hF
             refine iteP_use hF (fun e69 hF => ?_) (fun e69 hF => ?_)
             ·
              have hG := hF
              subst e69
              have hF := hG
              refine Run.drawV (Ωs := [(false, .slice 44 Packet_.rep u6 s4.2)]) [⟨some 234, some (.int .i64 y24.2.2.1), fun _ => [], fun ds_ u_ => [], [], [], none⟩, ⟨some 235, some (.int .i64 y25.2.2.1), fun _ => [], fun ds_ u_ => [], [], [], none⟩, ⟨some 236, some (.bool (y24.2.2.1 != y25.2.2.1)), fun _ => [], fun ds_ u_ => [], [], [], none⟩, ⟨some 237, some (.bool false), fun _ => [], fun ds_ u_ => [], [], [], none⟩, ⟨some 238, some (.bool y24.2.1), fun _ => [], fun ds_ u_ => [], [], [], none⟩, ⟨some 239, some (.bool y25.2.1), fun _ => [], fun ds_ u_ => [], [], [], none⟩, ⟨some 240, some (.bool (y24.2.1 != y25.2.1)), fun _ => [], fun ds_ u_ => [], [], [], none⟩, ⟨some 241, some (.bool (y24.2.1 != y25.2.1)), fun _ => [], fun ds_ u_ => [], [], [], none⟩, ⟨some 242, some (.bool true), fun _ => [], fun ds_ u_ => [], [], [], none⟩, ⟨some 243, some undef, fun _ => [], fun _ _ => [], [], [], none⟩, ⟨some 244, some undef, fun _ => [], fun _ _ => [], [], [], none⟩, ⟨some 245, some undef, fun _ => [], fun _ _ => [], [], [], none⟩, ⟨some 246, some undef, fun _ => [], fun _ _ => [], [], [], none⟩, ⟨some 247, some (.bool true), fun _ => [], fun ds_ u_ => [], [], [], none⟩, ⟨some 248, some (.bool true), fun _ => [], fun ds_ u_ => [], [], [], none⟩, ⟨some 249, some undef, fun _ => [], fun _ _ => [], [], [], none⟩, ⟨some 250, some undef, fun _ => [], fun _ _ => [], [], [], none⟩, ⟨some 251, some undef, fun _ => [], fun _ _ => [], [], [], none⟩, ⟨some 252, some undef, fun _ => [], fun _ _ => [], [], [], none⟩, ⟨some 253, some undef, fun _ => [], fun _ _ => [], [], [], none⟩, ⟨some 254, some undef, fun _ => [], fun _ _ => [], [], [], none⟩, ⟨some 255, some undef, fun _ => [], fun _ _ => [], [], [], none⟩, ⟨some 256, some undef, fun _ => [], fun _ _ => [], [], [], none⟩, ⟨some 257, some (.bool true), fun _ => [], fun ds_ u_ => [], [], [], none⟩] [[], [], [0, 1], [2], [3], [3], [4, 5, 3], [3, 6], [7], [8], [8], [8], [8], [8, 12], [13], [14], [14], [14], [14], [14], [14], [14], [14], [14, 22]] [[(true, .box 51 Whole_.rep u44 y25.1)], [(false, .box 49 (Rep.iso (fun s : ref22_Assembler => (s.Own, s.Items, ())) (Rep.prod (Rep.int .u8) (Rep.prod (Rep.raw (α := List ref22_Item) u43) Rep.unit))) u34 y25.2.2.2)], [(false, .slice 53 ref22_Item.rep u43 y25.2.2.2.Items)], [(false, .box 51 Whole_.rep u39 y24.1)], [(false, .box 83 (Rep.iso (fun s : fragment_Assembler => (s.own, s.open_, ())) (Rep.prod (Rep.int .u8) (Rep.prod (Rep.raw (α := List fragment_open) u38) Rep.unit))) u33 y24.2.2.2)], [(false, .oval (oslice 92 6 (fun _ => fragment_open.orep)) u38 y24.2.2.2.open_)]] [0, 1, 2, 3, 4, 5, 6, 7, 8, 9, 10, 11, 12, 13, 14, 15, 16, 17, 18, 19, 20, 21, 22, 23, 24, 25, 26, 27, 28, 29] Try_mixed rfl rfl rfl h180 (.cons ?_ (.cons ?_ (.cons ?_ (.cons ?_ (.cons ?_ (.cons ?_ (.cons ?_ (.cons ?_ (.cons ?_ (.cons ?_ (.cons ?_ (.cons ?_ (.cons ?_ (.cons ?_ (.cons ?_ (.cons ?_ (.cons ?_ (.cons ?_ (.cons ?_ (.cons ?_ (.cons ?_ (.cons ?_ (.cons ?_ (.cons ?_ .nil)))))))))))))))))))))))) (fun q4 w hq8 h => ?_)
              ·intro q4 w Γx Ωx h
               refine OpS.mv rfl rfl rfl ?_
               exact ⟨undef, rfl, trivial, h⟩
              ·intro q4 w Γx Ωx h
               refine OpS.mv rfl rfl rfl ?_
               exact ⟨undef, rfl, trivial, h⟩
              ·intro q4 w Γx Ωx h
               refine OpS.bin rfl rfl rfl rfl rfl ?_
               exact ⟨undef, rfl, trivial, h⟩
              ·intro q4 w Γx Ωx h
               refine OpS.mv rfl rfl rfl ?_
               exact ⟨undef, (congrArg (fun z_ => some (Value.bool z_)) e66), trivial, h⟩
              ·intro q4 w Γx Ωx h
               refine OpS.mv rfl rfl rfl ?_
               exact ⟨undef, rfl, trivial, h⟩
              ·intro q4 w Γx Ωx h
               refine OpS.mv rfl rfl rfl ?_
               exact ⟨undef, rfl, trivial, h⟩
              ·intro q4 w Γx Ωx h
               refine OpS.neb Try.underlying4 rfl rfl rfl rfl ?_
               exact ⟨undef, rfl, trivial, h⟩
              ·intro q4 w Γx Ωx h
               refine OpS.pick rfl rfl rfl rfl ?_
               exact ⟨undef, rfl, trivial, h⟩
              ·intro q4 w Γx Ωx h
               refine OpS.mv rfl rfl rfl ?_
               exact ⟨undef, (congrArg (fun z_ => some (Value.bool z_)) e68), trivial, h⟩
              ·intro q4 w Γx Ωx h
               exact OpS.pass rfl rfl rfl ⟨undef, rfl, trivial, h⟩
              ·intro q4 w Γx Ωx h
               exact OpS.pass rfl rfl rfl ⟨undef, rfl, trivial, h⟩
              ·intro q4 w Γx Ωx h
               exact OpS.pass rfl rfl rfl ⟨undef, rfl, trivial, h⟩
              ·intro q4 w Γx Ωx h
               exact OpS.pass rfl rfl rfl ⟨undef, rfl, trivial, h⟩
              ·intro q4 w Γx Ωx h
               refine OpS.pick rfl rfl rfl rfl ?_
               exact ⟨undef, rfl, trivial, h⟩
              ·intro q4 w Γx Ωx h
               refine OpS.mv rfl rfl rfl ?_
               exact ⟨undef, rfl, trivial, h⟩
              ·intro q4 w Γx Ωx h
               exact OpS.pass rfl rfl rfl ⟨undef, rfl, trivial, h⟩
              ·intro q4 w Γx Ωx h
               exact OpS.pass rfl rfl rfl ⟨undef, rfl, trivial, h⟩
              ·intro q4 w Γx Ωx h
               exact OpS.pass rfl rfl rfl ⟨undef, rfl, trivial, h⟩
              ·intro q4 w Γx Ωx h
               exact OpS.pass rfl rfl rfl ⟨undef, rfl, trivial, h⟩
              ·intro q4 w Γx Ωx h
               exact OpS.pass rfl rfl rfl ⟨undef, rfl, trivial, h⟩
              ·intro q4 w Γx Ωx h
               exact OpS.pass rfl rfl rfl ⟨undef, rfl, trivial, h⟩
              ·intro q4 w Γx Ωx h
               exact OpS.pass rfl rfl rfl ⟨undef, rfl, trivial, h⟩
              ·intro q4 w Γx Ωx h
               exact OpS.pass rfl rfl rfl ⟨undef, rfl, trivial, h⟩
              ·intro q4 w Γx Ωx h
               refine OpS.pick rfl rfl rfl rfl ?_
               exact ⟨undef, rfl, trivial, h⟩
              have h187 : St e w [(true, .val Whole_.rep u42 y25.1), (false, .val Packet_.rep u40 x17), (false, .val Whole_.rep u37 y24.1), (false, .val Packet_.rep u35 x15)] [(true, .box 51 Whole_.rep u44 y25.1), (false, .box 49 (Rep.iso (fun s : ref22_Assembler => (s.Own, s.Items, ())) (Rep.prod (Rep.int .u8) (Rep.prod (Rep.raw (α := List ref22_Item) u43) Rep.unit))) u34 y25.2.2.2), (false, .slice 53 ref22_Item.rep u43 y25.2.2.2.Items), (false, .box 51 Whole_.rep u39 y24.1), (false, .box 83 (Rep.iso (fun s : fragment_Assembler => (s.own, s.open_, ())) (Rep.prod (Rep.int .u8) (Rep.prod (Rep.raw (α := List fragment_open) u38) Rep.unit))) u33 y24.2.2.2), (false, .oval (oslice 92 6 (fun _ => fragment_open.orep)) u38 y24.2.2.2.open_), (false, .slice 44 Packet_.rep u6 s4.2)] := h
              refine RunL.nil ?_
              refine Run.slim [(257, .bool true), (11, u33), (12, u34), (15, u6), (25, .int .i64 s11.1)] ⟨rfl, rfl, rfl, rfl, rfl, trivial⟩ ?_
              refine Run.slim [(11, u33), (12, u34), (15, u6), (25, .int .i64 s11.1), (257, .bool true)] ⟨rfl, rfl, rfl, rfl, rfl, trivial⟩ ?_
              exact hj9 (true) _ _ ⟨rfl, (h187.facts .nil).picks (.cons (.s (.s (.s (.s .z)))) (.cons (.s .z) (.cons (.s (.s (.s (.s .z)))) (.cons (.s (.s (.s .z))) (.cons (.s .z) .nil)))))⟩ hF
             ·
              have hG := hF
              subst e69
              have hF := hG
              obtain ⟨y26, e70, hF⟩ := bindP_use hF
              obtain ⟨x22, e71, hF⟩ := letP_use hF
              refine iteP_use hF (fun e72 hF => ?_) (fun e72 hF => ?_)
              ·
               have hG := hF
               subst e72
               have hF := hG
               refine Run.drawV (Ωs := [(false, .slice 44 Packet_.rep u6 s4.2)]) [⟨some 234, some (.int .i64 y24.2.2.1), fun _ => [], fun ds_ u_ => [], [], [], none⟩, ⟨some 235, some (.int .i64 y25.2.2.1), fun _ => [], fun ds_ u_ => [], [], [], none⟩, ⟨some 236, some (.bool (y24.2.2.1 != y25.2.2.1)), fun _ => [], fun ds_ u_ => [], [], [], none⟩, ⟨some 237, some (.bool false), fun _ => [], fun ds_ u_ => [], [], [], none⟩, ⟨some 238, some (.bool y24.2.1), fun _ => [], fun ds_ u_ => [], [], [], none⟩, ⟨some 239, some (.bool y25.2.1), fun _ => [], fun ds_ u_ => [], [], [], none⟩, ⟨some 240, some (.bool (y24.2.1 != y25.2.1)), fun _ => [], fun ds_ u_ => [], [], [], none⟩, ⟨some 241, some (.bool (y24.2.1 != y25.2.1)), fun _ => [], fun ds_ u_ => [], [], [], none⟩, ⟨some 242, some (.bool false), fun _ => [], fun ds_ u_ => [], [], [], none⟩, ⟨some 243, none, fun u_ => [(false, .val Whole_.rep u_ y24.1)], fun ds_ u_ => [], [], [(3, [])], none⟩, ⟨some 244, none, fun u_ => [(true, .val Whole_.rep u_ y25.1)], fun ds_ u_ => [], [], [(0, [])], none⟩, ⟨some 245, some (.bool y26), fun _ => [], fun ds_ u_ => [], [], [], none⟩, ⟨some 246, some (.bool (!y26)), fun _ => [], fun ds_ u_ => [], [], [], none⟩, ⟨some 247, some (.bool (!y26)), fun _ => [], fun ds_ u_ => [], [], [], none⟩, ⟨some 248, some (.bool true), fun _ => [], fun ds_ u_ => [], [], [], none⟩, ⟨some 249, some undef, fun _ => [], fun _ _ => [], [], [], none⟩, ⟨some 250, some undef, fun _ => [], fun _ _ => [], [], [], none⟩, ⟨some 251, some undef, fun _ => [], fun _ _ => [], [], [], none⟩, ⟨some 252, some undef, fun _ => [], fun _ _ => [], [], [], none⟩, ⟨some 253, some undef, fun _ => [], fun _ _ => [], [], [], none⟩, ⟨some 254, some undef, fun _ => [], fun _ _ => [], [], [], none⟩, ⟨some 255, some undef, fun _ => [], fun _ _ => [], [], [], none⟩, ⟨some 256, some undef, fun _ => [], fun _ _ => [], [], [], none⟩, ⟨some 257, some (.bool true), fun _ => [], fun ds_ u_ => [], [], [], none⟩] [[], [], [0, 1], [2], [3], [3], [4, 5, 3], [3, 6], [7], [8], [8], [9, 10, 8], [11, 8], [8, 12], [13], [14], [14], [14], [14], [14], [14], [14], [14], [14, 22]] [[(true, .box 51 Whole_.rep u44 y25.1)], [(false, .box 49 (Rep.iso (fun s : ref22_Assembler => (s.Own, s.Items, ())) (Rep.prod (Rep.int .u8) (Rep.prod (Rep.raw (α := List ref22_Item) u43) Rep.unit))) u34 y25.2.2.2)], [(false, .slice 53 ref22_Item.rep u43 y25.2.2.2.Items)], [(false, .box 51 Whole_.rep u39 y24.1)], [(false, .box 83 (Rep.iso (fun s : fragment_Assembler => (s.own, s.open_, ())) (Rep.prod (Rep.int .u8) (Rep.prod (Rep.raw (α := List fragment_open) u38) Rep.unit))) u33 y24.2.2.2)], [(false, .oval (oslice 92 6 (fun _ => fragment_open.orep)) u38 y24.2.2.2.open_)]] [0, 1, 2, 3, 4, 5, 6, 7, 8, 9, 10, 11, 12, 13, 14, 15, 16, 17, 18, 19, 20, 21, 22, 23, 24, 25, 26, 27, 28, 29] Try_mixed rfl rfl rfl h180 (.cons ?_ (.cons ?_ (.cons ?_ (.cons ?_ (.cons ?_ (.cons ?_ (.cons ?_ (.cons ?_ (.cons ?_ (.cons ?_ (.cons ?_ (.cons ?_ (.cons ?_ (.cons ?_ (.cons ?_ (.cons ?_ (.cons ?_ (.cons ?_ (.cons ?_ (.cons ?_ (.cons ?_ (.cons ?_ (.cons ?_ (.cons ?_ .nil)))))))))))))))))))))))) (fun q4 w hq9 h => ?_)
               ·intro q4 w Γx Ωx h
                refine OpS.mv rfl rfl rfl ?_
                exact ⟨undef, rfl, trivial, h⟩
               ·intro q4 w Γx Ωx h
                refine OpS.mv rfl rfl rfl ?_
                exact ⟨undef, rfl, trivial, h⟩
               ·intro q4 w Γx Ωx h
                refine OpS.bin rfl rfl rfl rfl rfl ?_
                exact ⟨undef, rfl, trivial, h⟩
               ·intro q4 w Γx Ωx h
                refine OpS.mv rfl rfl rfl ?_
                exact ⟨undef, (congrArg (fun z_ => some (Value.bool z_)) e66), trivial, h⟩
               ·intro q4 w Γx Ωx h
                refine OpS.mv rfl rfl rfl ?_
                exact ⟨undef, rfl, trivial, h⟩
               ·intro q4 w Γx Ωx h
                refine OpS.mv rfl rfl rfl ?_
                exact ⟨undef, rfl, trivial, h⟩
               ·intro q4 w Γx Ωx h
                refine OpS.neb Try.underlying4 rfl rfl rfl rfl ?_
                exact ⟨undef, rfl, trivial, h⟩
               ·intro q4 w Γx Ωx h
                refine OpS.pick rfl rfl rfl rfl ?_
                exact ⟨undef, rfl, trivial, h⟩
               ·intro q4 w Γx Ωx h
                refine OpS.mv rfl rfl rfl ?_
                exact ⟨undef, (congrArg (fun z_ => some (Value.bool z_)) e68), trivial, h⟩
               ·intro q4 w Γx Ωx h
                have h : St e w ([(true, .val Whole_.rep u42 y25.1), (false, .val Packet_.rep u40 x17), (false, .val Whole_.rep u37 y24.1), (false, .val Packet_.rep u35 x15)] ++ Γx) ([(false, .box 51 Whole_.rep u39 y24.1), (false, .slice 44 Packet_.rep u6 s4.2)] ++ Ωx) := h
                refine OpS.loadB h .z PA.z Get.id ty51 rfl rfl rfl (fun u h192 => ?_)
                exact ⟨u, rfl, trivial, h192⟩
               ·intro q4 w Γx Ωx h
                have h : St e w ([(true, .val Whole_.rep u42 y25.1), (false, .val Packet_.rep u40 x17), (false, .val Whole_.rep u37 y24.1), (false, .val Packet_.rep u35 x15)] ++ Γx) ([(true, .box 51 Whole_.rep u44 y25.1), (false, .slice 44 Packet_.rep u6 s4.2)] ++ Ωx) := h
                refine OpS.loadB h .z PA.z Get.id ty51 rfl rfl rfl (fun u h193 => ?_)
                exact ⟨u, rfl, trivial, h193⟩
               ·intro q4 w Γx Ωx h
                refine OpS.callP h Try.func26 rfl rfl rfl rfl (vs := [(q4 9), (q4 10)]) rfl (ref22_SameWhole_ok e70) (.cons (f := false) (V.at .z) (.cons (f := true) (V.at (.s .z)) .nil)) ?_
                rintro _ w68 _ _ _ ⟨rfl, rfl, rfl, rfl⟩ h194
                have h195 := h194 rfl rfl
                simp only [List.cons_append, List.nil_append] at h195
                exact ⟨undef, rfl, trivial, h195⟩
               ·intro q4 w Γx Ωx h
                refine OpS.not rfl rfl rfl ?_
                exact ⟨undef, rfl, trivial, h⟩
               ·intro q4 w Γx Ωx h
                refine OpS.pick rfl rfl rfl rfl ?_
                exact ⟨undef, rfl, trivial, h⟩
               ·intro q4 w Γx Ωx h
                refine OpS.mv rfl rfl rfl ?_
                exact ⟨undef, (congrArg (fun z_ => some (Value.bool z_)) e71), trivial, h⟩
               ·intro q4 w Γx Ωx h
                exact OpS.pass rfl rfl rfl ⟨undef, rfl, trivial, h⟩
               ·intro q4 w Γx Ωx h
                exact OpS.pass rfl rfl rfl ⟨undef, rfl, trivial, h⟩
               ·intro q4 w Γx Ωx h
                exact OpS.pass rfl rfl rfl ⟨undef, rfl, trivial, h⟩
               ·intro q4 w Γx Ωx h
                exact OpS.pass rfl rfl rfl ⟨undef, rfl, trivial, h⟩
               ·intro q4 w Γx Ωx h
                exact OpS.pass rfl rfl rfl ⟨undef, rfl, trivial, h⟩
               ·intro q4 w Γx Ωx h
                exact OpS.pass rfl rfl rfl ⟨undef, rfl, trivial, h⟩
               ·intro q4 w Γx Ωx h
                exact OpS.pass rfl rfl rfl ⟨undef, rfl, trivial, h⟩
               ·intro q4 w Γx Ωx h
                exact OpS.pass rfl rfl rfl ⟨undef, rfl, trivial, h⟩
               ·intro q4 w Γx Ωx h
                refine OpS.pick rfl rfl rfl rfl ?_
                exact ⟨undef, rfl, trivial, h⟩
               have h196 : St e w [(false, .val Whole_.rep (q4 9) y24.1), (true, .val Whole_.rep (q4 10) y25.1), (true, .val Whole_.rep u42 y25.1), (false, .val Packet_.rep u40 x17), (false, .val Whole_.rep u37 y24.1), (false, .val Packet_.rep u35 x15)] [(true, .box 51 Whole_.rep u44 y25.1), (false, .box 49 (Rep.iso (fun s : ref22_Assembler => (s.Own, s.Items, ())) (Rep.prod (Rep.int .u8) (Rep.prod (Rep.raw (α := List ref22_Item) u43) Rep.unit))) u34 y25.2.2.2), (false, .slice 53 ref22_Item.rep u43 y25.2.2.2.Items), (false, .box 51 Whole_.rep u39 y24.1), (false, .box 83 (Rep.iso (fun s : fragment_Assembler => (s.own, s.open_, ())) (Rep.prod (Rep.int .u8) (Rep.prod (Rep.raw (α := List fragment_open) u38) Rep.unit))) u33 y24.2.2.2), (false, .oval (oslice 92 6 (fun _ => fragment_open.orep)) u38 y24.2.2.2.open_), (false, .slice 44 Packet_.rep u6 s4.2)] := h
               refine RunL.nil ?_
               refine Run.slim [(257, .bool true), (11, u33), (12, u34), (15, u6), (25, .int .i64 s11.1)] ⟨rfl, rfl, rfl, rfl, rfl, trivial⟩ ?_
               refine Run.slim [(11, u33), (12, u34), (15, u6), (25, .int .i64 s11.1), (257, .bool true)] ⟨rfl, rfl, rfl, rfl, rfl, trivial⟩ ?_
               exact hj9 (true) _ _ ⟨rfl, (h196.facts .nil).picks (.cons (.s (.s (.s (.s .z)))) (.cons (.s .z) (.cons (.s (.s (.s (.s .z)))) (.cons (.s (.s (.s .z))) (.cons (.s .z) .nil)))))⟩ hF
              ·
               have hG := hF
               subst e72
               have hF := hG
               obtain ⟨y27, e73, hF⟩ := bindP_use hF
               refine Run.drawV (Ωs := [(false, .slice 44 Packet_.rep u6 s4.2)]) [⟨some 234, some (.int .i64 y24.2.2.1), fun _ => [], fun ds_ u_ => [], [], [], none⟩, ⟨some 235, some (.int .i64 y25.2.2.1), fun _ => [], fun ds_ u_ => [], [], [], none⟩, ⟨some 236, some (.bool (y24.2.2.1 != y25.2.2.1)), fun _ => [], fun ds_ u_ => [], [], [], none⟩, ⟨some 237, some (.bool false), fun _ => [], fun ds_ u_ => [], [], [], none⟩, ⟨some 238, some (.bool y24.2.1), fun _ => [], fun ds_ u_ => [], [], [], none⟩, ⟨some 239, some (.bool y25.2.1), fun _ => [], fun ds_ u_ => [], [], [], none⟩, ⟨some 240, some (.bool (y24.2.1 != y25.2.1)), fun _ => [], fun ds_ u_ => [], [], [], none⟩, ⟨some 241, some (.bool (y24.2.1 != y25.2.1)), fun _ => [], fun ds_ u_ => [], [], [], none⟩, ⟨some 242, some (.bool false), fun _ => [], fun ds_ u_ => [], [], [], none⟩, ⟨some 243, none, fun u_ => [(false, .val Whole_.rep u_ y24.1)], fun ds_ u_ => [], [], [(3, [])], none⟩, ⟨some 244, none, fun u_ => [(true, .val Whole_.rep u_ y25.1)], fun ds_ u_ => [], [], [(0, [])], none⟩, ⟨some 245, some (.bool y26), fun _ => [], fun ds_ u_ => [], [], [], none⟩, ⟨some 246, some (.bool (!y26)), fun _ => [], fun ds_ u_ => [], [], [], none⟩, ⟨some 247, some (.bool (!y26)), fun _ => [], fun ds_ u_ => [], [], [], none⟩, ⟨some 248, some (.bool false), fun _ => [], fun ds_ u_ => [], [], [], none⟩, ⟨some 249, some (u33), fun _ => [], fun ds_ u_ => [], [], [], none⟩, ⟨some 250, some (.int .i64 y27), fun _ => [], fun ds_ u_ => [], [], [(4, []), (5, [])], none⟩, ⟨some 251, some (u34), fun _ => [], fun ds_ u_ => [], [], [], none⟩, ⟨some 252, some (u34), fun _ => [], fun ds_ u_ => [], [], [(1, [])], none⟩, ⟨some 253, some ((padd u34 1)), fun _ => [], fun ds_ u_ => [], [], [(1, [])], none⟩, ⟨some 254, some (u43), fun _ => [], fun ds_ u_ => [], [], [(1, [])], none⟩, ⟨some 255, some (.int .i64 (y25.2.2.2.Items.length : Int)), fun _ => [], fun ds_ u_ => [], [], [(2, [])], none⟩, ⟨some 256, some (.bool (y27 != (y25.2.2.2.Items.length : Int))), fun _ => [], fun ds_ u_ => [], [], [], none⟩, ⟨some 257, some (.bool (y27 != (y25.2.2.2.Items.length : Int))), fun _ => [], fun ds_ u_ => [], [], [], none⟩] [[], [], [0, 1], [2], [3], [3], [4, 5, 3], [3, 6], [7], [8], [8], [9, 10, 8], [11, 8], [8, 12], [13], [14], [15, 14], [14], [17, 14], [18, 14], [19, 14], [20, 14], [16, 21, 14], [14, 22]] [[(true, .box 51 Whole_.rep u44 y25.1)], [(false, .box 49 (Rep.iso (fun s : ref22_Assembler => (s.Own, s.Items, ())) (Rep.prod (Rep.int .u8) (Rep.prod (Rep.raw (α := List ref22_Item) u43) Rep.unit))) u34 y25.2.2.2)], [(false, .slice 53 ref22_Item.rep u43 y25.2.2.2.Items)], [(false, .box 51 Whole_.rep u39 y24.1)], [(false, .box 83 (Rep.iso (fun s : fragment_Assembler => (s.own, s.open_, ())) (Rep.prod (Rep.int .u8) (Rep.prod (Rep.raw (α := List fragment_open) u38) Rep.unit))) u33 y24.2.2.2)], [(false, .oval (oslice 92 6 (fun _ => fragment_open.orep)) u38 y24.2.2.2.open_)]] [0, 1, 2, 3, 4, 5, 6, 7, 8, 9, 10, 11, 12, 13, 14, 15, 16, 17, 18, 19, 20, 21, 22, 23, 24, 25, 26, 27, 28, 29] Try_mixed rfl rfl rfl h180 (.cons ?_ (.cons ?_ (.cons ?_ (.cons ?_ (.cons ?_ (.cons ?_ (.cons ?_ (.cons ?_ (.cons ?_ (.cons ?_ (.cons ?_ (.cons ?_ (.cons ?_ (.cons ?_ (.cons ?_ (.cons ?_ (.cons ?_ (.cons ?_ (.cons ?_ (.cons ?_ (.cons ?_ (.cons ?_ (.cons ?_ (.cons ?_ .nil)))))))))))))))))))))))) (fun q4 w hq10 h => ?_)
               ·intro q4 w Γx Ωx h
                refine OpS.mv rfl rfl rfl ?_
                exact ⟨undef, rfl, trivial, h⟩
               ·intro q4 w Γx Ωx h
                refine OpS.mv rfl rfl rfl ?_
                exact ⟨undef, rfl, trivial, h⟩
               ·intro q4 w Γx Ωx h
                refine OpS.bin rfl rfl rfl rfl rfl ?_
                exact ⟨undef, rfl, trivial, h⟩
               ·intro q4 w Γx Ωx h
                refine OpS.mv rfl rfl rfl ?_
                exact ⟨undef, (congrArg (fun z_ => some (Value.bool z_)) e66), trivial, h⟩
               ·intro q4 w Γx Ωx h
                refine OpS.mv rfl rfl rfl ?_
                exact ⟨undef, rfl, trivial, h⟩
               ·intro q4 w Γx Ωx h
                refine OpS.mv rfl rfl rfl ?_
                exact ⟨undef, rfl, trivial, h⟩
               ·intro q4 w Γx Ωx h
                refine OpS.neb Try.underlying4 rfl rfl rfl rfl ?_
                exact ⟨undef, rfl, trivial, h⟩
               ·intro q4 w Γx Ωx h
                refine OpS.pick rfl rfl rfl rfl ?_
                exact ⟨undef, rfl, trivial, h⟩
               ·intro q4 w Γx Ωx h
                refine OpS.mv rfl rfl rfl ?_
                exact ⟨undef, (congrArg (fun z_ => some (Value.bool z_)) e68), trivial, h⟩
               ·intro q4 w Γx Ωx h
                have h : St e w ([(true, .val Whole_.rep u42 y25.1), (false, .val Packet_.rep u40 x17), (false, .val Whole_.rep u37 y24.1), (false, .val Packet_.rep u35 x15)] ++ Γx) ([(false, .box 51 Whole_.rep u39 y24.1), (false, .slice 44 Packet_.rep u6 s4.2)] ++ Ωx) := h
                refine OpS.loadB h .z PA.z Get.id ty51 rfl rfl rfl (fun u h200 => ?_)
                exact ⟨u, rfl, trivial, h200⟩
               ·intro q4 w Γx Ωx h
                have h : St e w ([(true, .val Whole_.rep u42 y25.1), (false, .val Packet_.rep u40 x17), (false, .val Whole_.rep u37 y24.1), (false, .val Packet_.rep u35 x15)] ++ Γx) ([(true, .box 51 Whole_.rep u44 y25.1), (false, .slice 44 Packet_.rep u6 s4.2)] ++ Ωx) := h
                refine OpS.loadB h .z PA.z Get.id ty51 rfl rfl rfl (fun u h201 => ?_)
                exact ⟨u, rfl, trivial, h201⟩
               ·intro q4 w Γx Ωx h
                refine OpS.callP h Try.func26 rfl rfl rfl rfl (vs := [(q4 9), (q4 10)]) rfl (ref22_SameWhole_ok e70) (.cons (f := false) (V.at .z) (.cons (f := true) (V.at (.s .z)) .nil)) ?_
                rintro _ w70 _ _ _ ⟨rfl, rfl, rfl, rfl⟩ h202
                have h203 := h202 rfl rfl
                simp only [List.cons_append, List.nil_append] at h203
                exact ⟨undef, rfl, trivial, h203⟩
               ·intro q4 w Γx Ωx h
                refine OpS.not rfl rfl rfl ?_
                exact ⟨undef, rfl, trivial, h⟩
               ·intro q4 w Γx Ωx h
                refine OpS.pick rfl rfl rfl rfl ?_
                exact ⟨undef, rfl, trivial, h⟩
               ·intro q4 w Γx Ωx h
                refine OpS.mv rfl rfl rfl ?_
                exact ⟨undef, (congrArg (fun z_ => some (Value.bool z_)) e71), trivial, h⟩
               ·intro q4 w Γx Ωx h
                refine OpS.mv rfl rfl rfl ?_
                exact ⟨undef, rfl, trivial, h⟩
               ·intro q4 w Γx Ωx h
                have h : St e w ([(true, .val Whole_.rep u42 y25.1), (false, .val Packet_.rep u40 x17), (false, .val Whole_.rep u37 y24.1), (false, .val Packet_.rep u35 x15)] ++ Γx) ([(false, .box 83 (Rep.iso (fun s : fragment_Assembler => (s.own, s.open_, ())) (Rep.prod (Rep.int .u8) (Rep.prod (Rep.raw (α := List fragment_open) u38) Rep.unit))) u33 y24.2.2.2), (false, .oval (oslice 92 6 (fun _ => fragment_open.orep)) u38 y24.2.2.2.open_), (false, .slice 44 Packet_.rep u6 s4.2)] ++ Ωx) := h
                have h204 := h.front (.cons .z (.cons .z .nil))
                refine OpS.callO h204 Try.func27 rfl rfl rfl rfl (vs := [u33]) rfl (fragment_Assembler_Open_ok e73) rfl .nil ?_
                rintro _ w71 _ _ _ ⟨rfl, rfl, rfl, rfl⟩ h205
                have h206 := h205
                simp only [List.cons_append, List.nil_append] at h206
                exact ⟨undef, rfl, trivial, h206⟩
               ·intro q4 w Γx Ωx h
                refine OpS.mv rfl rfl rfl ?_
                exact ⟨undef, rfl, trivial, h⟩
               ·intro q4 w Γx Ωx h
                have h : St e w ([(true, .val Whole_.rep u42 y25.1), (false, .val Packet_.rep u40 x17), (false, .val Whole_.rep u37 y24.1), (false, .val Packet_.rep u35 x15)] ++ Γx) ([(false, .box 49 (Rep.iso (fun s : ref22_Assembler => (s.Own, s.Items, ())) (Rep.prod (Rep.int .u8) (Rep.prod (Rep.raw (α := List ref22_Item) u43) Rep.unit))) u34 y25.2.2.2), (false, .slice 44 Packet_.rep u6 s4.2)] ++ Ωx) := h
                refine OpS.nchk h .z rfl rfl rfl ?_
                exact ⟨undef, rfl, trivial, h⟩
               ·intro q4 w Γx Ωx h
                have h : St e w ([(true, .val Whole_.rep u42 y25.1), (false, .val Packet_.rep u40 x17), (false, .val Whole_.rep u37 y24.1), (false, .val Packet_.rep u35 x15)] ++ Γx) ([(false, .box 49 (Rep.iso (fun s : ref22_Assembler => (s.Own, s.Items, ())) (Rep.prod (Rep.int .u8) (Rep.prod (Rep.raw (α := List ref22_Item) u43) Rep.unit))) u34 y25.2.2.2), (false, .slice 44 Packet_.rep u6 s4.2)] ++ Ωx) := h
                refine OpS.fbox (o3 := 1) h .z PA.z fa49_1 rfl rfl rfl rfl ?_
                exact ⟨undef, rfl, trivial, h⟩
               ·intro q4 w Γx Ωx h
                have h : St e w ([(true, .val Whole_.rep u42 y25.1), (false, .val Packet_.rep u40 x17), (false, .val Whole_.rep u37 y24.1), (false, .val Packet_.rep u35 x15)] ++ Γx) ([(false, .box 49 (Rep.iso (fun s : ref22_Assembler => (s.Own, s.Items, ())) (Rep.prod (Rep.int .u8) (Rep.prod (Rep.raw (α := List ref22_Item) u43) Rep.unit))) u34 y25.2.2.2), (false, .slice 44 Packet_.rep u6 s4.2)] ++ Ωx) := h
                refine OpS.loadR h .z PA.a (GetS.ok (GetS.iso _ (GetS.there (GetS.here GetS.id)))) ty47 rfl rfl rfl rfl rfl ?_
                exact ⟨undef, rfl, trivial, h⟩
               ·intro q4 w Γx Ωx h
                have h : St e w ([(true, .val Whole_.rep u42 y25.1), (false, .val Packet_.rep u40 x17), (false, .val Whole_.rep u37 y24.1), (false, .val Packet_.rep u35 x15)] ++ Γx) ([(false, .slice 53 ref22_Item.rep u43 y25.2.2.2.Items), (false, .slice 44 Packet_.rep u6 s4.2)] ++ Ωx) := h
                refine OpS.lenO h .z Try.underlying47 rfl rfl rfl ?_
                exact ⟨undef, rfl, trivial, h⟩
               ·intro q4 w Γx Ωx h
                refine OpS.bin rfl rfl rfl rfl rfl ?_
                exact ⟨undef, rfl, trivial, h⟩
               ·intro q4 w Γx Ωx h
                refine OpS.pick rfl rfl rfl rfl ?_
                exact ⟨undef, rfl, trivial, h⟩
               have h207 : St e w [(false, .val Whole_.rep (q4 9) y24.1), (true, .val Whole_.rep (q4 10) y25.1), (true, .val Whole_.rep u42 y25.1), (false, .val Packet_.rep u40 x17), (false, .val Whole_.rep u37 y24.1), (false, .val Packet_.rep u35 x15)] [(true, .box 51 Whole_.rep u44 y25.1), (false, .box 49 (Rep.iso (fun s : ref22_Assembler => (s.Own, s.Items, ())) (Rep.prod (Rep.int .u8) (Rep.prod (Rep.raw (α := List ref22_Item) u43) Rep.unit))) u34 y25.2.2.2), (false, .slice 53 ref22_Item.rep u43 y25.2.2.2.Items), (false, .box 51 Whole_.rep u39 y24.1), (false, .box 83 (Rep.iso (fun s : fragment_Assembler => (s.own, s.open_, ())) (Rep.prod (Rep.int .u8) (Rep.prod (Rep.raw (α := List fragment_open) u38) Rep.unit))) u33 y24.2.2.2), (false, .oval (oslice 92 6 (fun _ => fragment_open.orep)) u38 y24.2.2.2.open_), (false, .slice 44 Packet_.rep u6 s4.2)] := h
               refine RunL.nil ?_
               refine Run.slim [(257, .bool (y27 != (y25.2.2.2.Items.length : Int))), (11, u33), (12, u34), (15, u6), (25, .int .i64 s11.1)] ⟨rfl, rfl, rfl, rfl, rfl, trivial⟩ ?_
               refine Run.slim [(11, u33), (12, u34), (15, u6), (25, .int .i64 s11.1), (257, .bool (y27 != (y25.2.2.2.Items.length : Int)))] ⟨rfl, rfl, rfl, rfl, rfl, trivial⟩ ?_
               exact hj9 (y27 != (y25.2.2.2.Items.length : Int)) _ _ ⟨rfl, (h207.facts .nil).picks (.cons (.s (.s (.s (.s .z)))) (.cons (.s .z) (.cons (.s (.s (.s (.s .z)))) (.cons (.s (.s (.s .z))) (.cons (.s .z) .nil)))))⟩ hF
          ·
           refine Run.exit rfl ?_
           refine Run.seq ?_
           refine Run.reg ?_
           obtain ⟨y28, e74, hF⟩ := bindP_use hF
           refine op (OpS.callP h161 Try.func11 rfl rfl rfl rfl (vs := []) rfl (law22_awake_ok e74) .nil ?_)
           rintro _ w72 _ _ _ ⟨rfl, rfl, rfl, rfl⟩ h208
           have h209 := h208 rfl rfl
           simp only [List.cons_append, List.nil_append] at h209
           refine op (OpS.as rfl rfl rfl ?_)
           refine RunL.nil ?_
           refine Run.slim [(6, .bool y28)] ⟨rfl, trivial⟩ ?_
           refine Run.retP rfl (.tmp rfl .nil) ?_
           cases hF
           exact Post.mk' ⟨rfl, rfl, rfl, rfl⟩ (h209.picks .nil) .nil
        ·
         refine RunL.caseb hF (fun e75 hF => ?_) (fun e75 hF => ?_)
         ·
          refine op (OpS.mv rfl rfl rfl ?_)
          refine op (OpS.lenO h33 (.s .z) Try.underlying27 rfl rfl rfl ?_)
          refine op (OpS.bin rfl rfl rfl rfl rfl ?_)
          refine op (OpS.pick rfl rfl rfl rfl ?_)
          refine RunL.nil ?_
          refine Run.slim [(104, .bool (decide ((s4.2.length : Int) < 200))), (11, u14), (12, u15), (14, u5), (15, u6)] ⟨rfl, rfl, rfl, rfl, rfl, trivial⟩ ?_
          refine Run.slim [(11, u14), (12, u15), (14, u5), (15, u6), (104, .bool (decide ((s4.2.length : Int) < 200)))] ⟨rfl, rfl, rfl, rfl, rfl, trivial⟩ ?_
          exact hj4 (decide ((s4.2.length : Int) < 200)) _ _ ⟨rfl, (h33.facts .nil).picks (.cons (.s (.s .z)) (.cons (.s (.s .z)) (.cons .z (.cons .z .nil))))⟩ hF
         ·
          refine op (OpS.pass rfl rfl rfl ?_)
          refine op (OpS.pass rfl rfl rfl ?_)
          refine op (OpS.pass rfl rfl rfl ?_)
          refine op (OpS.pick rfl rfl rfl rfl ?_)
          refine RunL.nil ?_
          refine Run.slim [(104, .bool false), (11, u14), (12, u15), (14, u5), (15, u6)] ⟨rfl, rfl, rfl, rfl, rfl, trivial⟩ ?_
          refine Run.slim [(11, u14), (12, u15), (14, u5), (15, u6), (104, .bool false)] ⟨rfl, rfl, rfl, rfl, rfl, trivial⟩ ?_
          exact hj4 (false) _ _ ⟨rfl, (h33.facts .nil).picks (.cons (.s (.s .z)) (.cons (.s (.s .z)) (.cons .z (.cons .z .nil))))⟩ hF
     ·
      refine RunL.caseb hF (fun e76 hF => ?_) (fun e76 hF => ?_)
      ·
       refine op (OpS.pass rfl rfl rfl ?_)
       refine op (OpS.pass rfl rfl rfl ?_)
       refine op (OpS.pick rfl rfl rfl rfl ?_)
       refine RunL.nil ?_
       refine Run.slim [(74, .bool true), (12, u4), (11, u3), (1, v1), (2, v2)] ⟨rfl, rfl, rfl, rfl, rfl, trivial⟩ ?_
       refine Run.slim [(1, v1), (2, v2), (11, u3), (12, u4), (74, .bool true)] ⟨rfl, rfl, rfl, rfl, rfl, trivial⟩ ?_
       exact hj3 (true) _ _ ⟨rfl, (h12.facts (.atm .z (.atm (.s .z) .nil))).picks (.cons (.s .z) (.cons .z .nil))⟩ hF
      ·
       refine op (OpS.mv rfl rfl rfl ?_)
       refine op (OpS.bin rfl rfl rfl rfl rfl ?_)
       refine op (OpS.pick rfl rfl rfl rfl ?_)
       refine RunL.nil ?_
       refine Run.slim [(74, .bool (y4.2 != 0)), (12, u4), (11, u3), (1, v1), (2, v2)] ⟨rfl, rfl, rfl, rfl, rfl, trivial⟩ ?_
       refine Run.slim [(1, v1), (2, v2), (11, u3), (12, u4), (74, .bool (y4.2 != 0))] ⟨rfl, rfl, rfl, rfl, rfl, trivial⟩ ?_
       exact hj3 (y4.2 != 0) _ _ ⟨rfl, (h12.facts (.atm .z (.atm (.s .z) .nil))).picks (.cons (.s .z) (.cons .z .nil))⟩ hF
   ·
    refine RunL.caseb hF (fun e77 hF => ?_) (fun e77 hF => ?_)
    ·
     refine op (OpS.pass rfl rfl rfl ?_)
     refine op (OpS.pass rfl rfl rfl ?_)
     refine op (OpS.pass rfl rfl rfl ?_)
     refine op (OpS.pass rfl rfl rfl ?_)
     refine op (OpS.pass rfl rfl rfl ?_)
     refine op (OpS.pick rfl rfl rfl rfl ?_)
     refine RunL.nil ?_
     refine Run.slim [(60, .bool true), (1, v1), (2, v2)] ⟨rfl, rfl, rfl, trivial⟩ ?_
     refine Run.slim [(1, v1), (2, v2), (60, .bool true)] ⟨rfl, rfl, rfl, trivial⟩ ?_
     exact hj2 (true) _ _ ⟨rfl, (h7.facts (.atm .z (.atm (.s .z) .nil))).picks .nil⟩ hF
    ·
     refine op (OpS.mv rfl rfl rfl ?_)
     refine op (OpS.onilN h7 (.s .z) (fun _ G_ S_ w_ h_ => ptr_one1 G_ S_ w_ h_) Try.underlying35 rfl rfl rfl rfl ?_)
     refine op (OpS.mv rfl rfl rfl ?_)
     refine op (OpS.bin rfl rfl rfl rfl rfl ?_)
     refine op (OpS.neb Try.underlying4 rfl rfl rfl rfl ?_)
     refine op (OpS.pick rfl rfl rfl rfl ?_)
     refine RunL.nil ?_
     refine Run.slim [(60, .bool ((!y2.1.isNone) != (y3.2 == 0))), (1, v1), (2, v2)] ⟨rfl, rfl, rfl, trivial⟩ ?_
     refine Run.slim [(1, v1), (2, v2), (60, .bool ((!y2.1.isNone) != (y3.2 == 0)))] ⟨rfl, rfl, rfl, trivial⟩ ?_
     exact hj2 ((!y2.1.isNone) != (y3.2 == 0)) _ _ ⟨rfl, (h7.facts (.atm .z (.atm (.s .z) .nil))).picks .nil⟩ hF
 ·
  refine RunL.caseb hF (fun e78 hF => ?_) (fun e78 hF => ?_)
  ·
   refine op (OpS.pass rfl rfl rfl ?_)
   refine op (OpS.pass rfl rfl rfl ?_)
   refine op (OpS.pass rfl rfl rfl ?_)
   refine op (OpS.pick rfl rfl rfl rfl ?_)
   refine RunL.nil ?_
   refine Run.slim [(39, .bool true), (0, .int .u8 a0), (1, v1), (2, v2)] ⟨rfl, rfl, rfl, rfl, trivial⟩ ?_
   refine Run.slim [(0, .int .u8 a0), (1, v1), (2, v2), (39, .bool true)] ⟨rfl, rfl, rfl, rfl, trivial⟩ ?_
   exact hj1 (true) _ _ ⟨rfl, (h.facts (.atm .z (.atm (.s .z) .nil))).picks .nil⟩ hF
  ·
   refine op (OpS.mv rfl rfl rfl ?_)
   obtain ⟨y29, e79, hF⟩ := bindP_use hF
   refine op (OpS.callP h Try.func16 rfl rfl rfl rfl (vs := [v2]) rfl (made_Light_ok e79) (.cons (f := false) (V.at (.s .z)) .nil) ?_)
   rintro _ w73 _ _ _ ⟨rfl, rfl, rfl, rfl⟩ h210
   have h211 := h210 rfl rfl
   simp only [List.cons_append, List.nil_append] at h211
   refine op (OpS.not rfl rfl rfl ?_)
   refine op (OpS.pick rfl rfl rfl rfl ?_)
   refine RunL.nil ?_
   refine Run.slim [(39, .bool (!y29)), (0, .int .u8 a0), (1, v1), (2, v2)] ⟨rfl, rfl, rfl, rfl, trivial⟩ ?_
   refine Run.slim [(0, .int .u8 a0), (1, v1), (2, v2), (39, .bool (!y29))] ⟨rfl, rfl, rfl, rfl, trivial⟩ ?_
   exact hj1 (!y29) _ _ ⟨rfl, (h211.facts (.atm .z (.atm (.s .z) .nil))).picks .nil⟩ hF
end Lift
