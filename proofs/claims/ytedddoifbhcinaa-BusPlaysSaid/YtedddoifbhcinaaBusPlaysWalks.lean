/- Each Go function computes its plain function. Written by lift.py. -/
import Derived.Test.YtedddoifbhcinaaBusPlaysWalksB
set_option linter.unusedVariables false
set_option linter.unusedSimpArgs false
namespace Lift
open Go Go.Proofs
open RunL (op)
set_option maxHeartbeats 8000000 in
theorem law21_BusPlays_ok {fuel : Nat} {a0 : Int} {a1 : List law21_Do} {y : Bool} (hF : law21_BusPlays fuel a0 a1 = some y) {w : World} {v1 : Value} :
  Spec Try.prog 3 [.int .i64 a0, v1].toArray w [(false, .val (Rep.slice law21_Do.rep) v1 a1)] [] (fun v Γr Ωr Ωo => v = .bool y ∧ Γr = [] ∧ Ωr = [] ∧ Ωo = []) := by
 refine Spec.of (L := [(0, .int .i64 a0), (1, v1)]) Try.func3 rfl ⟨rfl, rfl, trivial⟩ rfl (fun e h => ?_)
 unfold law21_BusPlays at hF
 refine Run.seq ?_
 refine Run.reg ?_
 refine op (OpS.as rfl rfl rfl ?_)
 refine RunL.nil ?_
 refine Run.slim [(0, .int .i64 a0), (1, v1)] ⟨rfl, rfl, trivial⟩ ?_
 refine Run.seq ?_
 refine Run.seq ?_
 refine Run.reg ?_
 refine op (OpS.mv rfl rfl rfl ?_)
 obtain ⟨y1, e1, hF⟩ := bindP_use hF
 refine op (OpS.callP h Try.func9 rfl rfl rfl rfl (vs := [v1]) rfl (law21_light_ok e1) (.cons (f := false) (V.at .z) .nil) ?_)
 rintro _ w1 _ _ _ ⟨rfl, rfl, rfl, rfl⟩ h1
 have h2 := h1 rfl rfl
 simp only [List.cons_append, List.nil_append] at h2
 refine op (OpS.not rfl rfl rfl ?_)
 refine RunL.nil ?_
 refine Run.slim [(24, .bool (!y1)), (0, .int .i64 a0), (1, v1)] ⟨rfl, rfl, rfl, trivial⟩ ?_
 refine Run.ite rfl hF (fun e2 hF => ?_) (fun e2 hF => ?_)
 ·
  refine Run.seq ?_
  refine Run.reg ?_
  obtain ⟨y2, e3, hF⟩ := bindP_use hF
  refine op (OpS.callP h2 Try.func10 rfl rfl rfl rfl (vs := []) rfl (law21_awake_ok e3) .nil ?_)
  rintro _ w2 _ _ _ ⟨rfl, rfl, rfl, rfl⟩ h3
  have h4 := h3 rfl rfl
  simp only [List.cons_append, List.nil_append] at h4
  refine op (OpS.as rfl rfl rfl ?_)
  refine RunL.nil ?_
  refine Run.slim [(4, .bool y2)] ⟨rfl, trivial⟩ ?_
  refine Run.retP rfl (.tmp rfl .nil) ?_
  cases hF
  exact Post.mk' ⟨rfl, rfl, rfl, rfl⟩ (h4.picks .nil) .nil
 ·
  refine Run.skip ?_
  refine Run.seq ?_
  refine Run.reg ?_
  refine op (OpS.mv rfl rfl rfl ?_)
  obtain ⟨y3, e4, hF⟩ := bindP_use hF
  refine op (OpS.callP h2 Try.func11 rfl rfl rfl rfl (vs := [.int .i64 a0]) rfl (bus_New_ok e4) .nil ?_)
  rintro _ w3 _ _ _ ⟨u1, rfl, rfl, rfl, rfl⟩ h5
  have h6 := h5 rfl rfl
  simp only [List.cons_append, List.nil_append] at h6
  refine op (OpS.mv rfl rfl rfl ?_)
  refine op (OpS.ext rfl rfl rfl rfl ?_)
  refine op (OpS.ext rfl rfl rfl rfl ?_)
  refine op (OpS.as rfl rfl rfl ?_)
  refine op (OpS.as rfl rfl rfl ?_)
  refine RunL.nil ?_
  refine Run.slim [(6, .int .i64 y3.2), (5, u1), (0, .int .i64 a0), (1, v1)] ⟨rfl, rfl, rfl, rfl, trivial⟩ ?_
  refine Run.seq ?_
  refine Run.reg ?_
  refine op (OpS.mv rfl rfl rfl ?_)
  obtain ⟨y4, e5, hF⟩ := bindP_use hF
  refine op (OpS.callP h6 Try.func12 rfl rfl rfl rfl (vs := [.int .i64 a0]) rfl (ref21_New_ok e5) .nil ?_)
  rintro _ w4 _ _ _ ⟨u2, rfl, rfl, rfl, rfl⟩ h7
  have h8 := h7 rfl rfl
  simp only [List.cons_append, List.nil_append] at h8
  refine op (OpS.mv rfl rfl rfl ?_)
  refine op (OpS.ext rfl rfl rfl rfl ?_)
  refine op (OpS.ext rfl rfl rfl rfl ?_)
  refine op (OpS.as rfl rfl rfl ?_)
  refine op (OpS.as rfl rfl rfl ?_)
  refine RunL.nil ?_
  refine Run.slim [(8, .int .i64 y4.2), (6, .int .i64 y3.2), (5, u1), (0, .int .i64 a0), (1, v1)] ⟨rfl, rfl, rfl, rfl, rfl, trivial⟩ ?_
  refine Run.seq ?_
  refine Run.seq ?_
  refine Run.reg ?_
  refine op (OpS.mv rfl rfl rfl ?_)
  refine op (OpS.mv rfl rfl rfl ?_)
  refine op (OpS.bin rfl rfl rfl rfl rfl ?_)
  refine op (OpS.mv rfl rfl rfl ?_)
  refine RunL.join (σ := Bool) (fun s_ L_ w_ => L_ = [(0, .int .i64 a0), (1, v1), (45, .bool s_)] ∧ St e w_ [(false, .val (Rep.slice law21_Do.rep) v1 a1)] []) hF (fun s1 _ w5 hI hF => ?_) (fun j1 hj1 hF => ?_)
  ·
   obtain ⟨rfl, h9⟩ := hI
   refine Run.ite rfl hF (fun e6 hF => ?_) (fun e6 hF => ?_)
   ·
    refine Run.seq ?_
    refine Run.reg ?_
    refine op (OpS.as rfl rfl rfl ?_)
    refine RunL.nil ?_
    refine Run.slim [(4, .bool false)] ⟨rfl, trivial⟩ ?_
    refine Run.retP rfl (.tmp rfl .nil) ?_
    cases hF
    exact Post.mk' ⟨rfl, rfl, rfl, rfl⟩ (h9.picks .nil) .nil
   ·
    refine Run.skip ?_
    refine Run.seq ?_
    refine Run.reg ?_
    refine op (OpS.mv rfl rfl rfl ?_)
    obtain ⟨y5, e7, hF⟩ := bindP_use hF
    refine op (OpS.callP h9 Try.func13 rfl rfl rfl rfl (vs := [.int .i64 a0, .int .i64 8]) rfl (made_Mod_ok e7) .nil ?_)
    rintro _ w6 _ _ _ ⟨rfl, rfl, rfl, rfl⟩ h10
    have h11 := h10 rfl rfl
    simp only [List.cons_append, List.nil_append] at h11
    refine op (OpS.bin rfl rfl rfl rfl rfl ?_)
    refine op (OpS.as rfl rfl rfl ?_)
    obtain ⟨x1, e8, hF⟩ := letP_use hF
    refine RunL.name e8 ?_
    refine RunL.nil ?_
    refine Run.slim [(9, .int .i64 x1), (1, v1)] ⟨rfl, rfl, trivial⟩ ?_
    refine Run.seq ?_
    refine Run.reg ?_
    refine op (OpS.mv rfl rfl rfl ?_)
    obtain ⟨y6, e9, hF⟩ := bindP_use hF
    refine op (OpS.callP h11 Try.func11 rfl rfl rfl rfl (vs := [.int .i64 x1]) rfl (bus_New_ok e9) .nil ?_)
    rintro _ w7 _ _ _ ⟨u3, rfl, rfl, rfl, rfl⟩ h12
    have h13 := h12 rfl rfl
    simp only [List.cons_append, List.nil_append] at h13
    refine op (OpS.mv rfl rfl rfl ?_)
    refine op (OpS.ext rfl rfl rfl rfl ?_)
    refine op (OpS.ext rfl rfl rfl rfl ?_)
    refine op (OpS.as rfl rfl rfl ?_)
    refine op (OpS.as rfl rfl rfl ?_)
    refine RunL.nil ?_
    refine Run.slim [(6, .int .i64 y6.2), (10, u3), (9, .int .i64 x1), (1, v1)] ⟨rfl, rfl, rfl, rfl, trivial⟩ ?_
    refine Run.seq ?_
    refine Run.reg ?_
    refine op (OpS.mv rfl rfl rfl ?_)
    obtain ⟨y7, e10, hF⟩ := bindP_use hF
    refine op (OpS.callP h13 Try.func12 rfl rfl rfl rfl (vs := [.int .i64 x1]) rfl (ref21_New_ok e10) .nil ?_)
    rintro _ w8 _ _ _ ⟨u4, rfl, rfl, rfl, rfl⟩ h14
    have h15 := h14 rfl rfl
    simp only [List.cons_append, List.nil_append] at h15
    refine op (OpS.mv rfl rfl rfl ?_)
    refine op (OpS.ext rfl rfl rfl rfl ?_)
    refine op (OpS.ext rfl rfl rfl rfl ?_)
    refine op (OpS.as rfl rfl rfl ?_)
    refine op (OpS.as rfl rfl rfl ?_)
    refine RunL.nil ?_
    refine Run.slim [(11, u4), (6, .int .i64 y6.2), (10, u3), (9, .int .i64 x1), (1, v1)] ⟨rfl, rfl, rfl, rfl, rfl, trivial⟩ ?_
    refine Run.seq ?_
    refine Run.seq ?_
    refine Run.reg ?_
    refine op (OpS.mv rfl rfl rfl ?_)
    refine op (OpS.onilE h15 (.s .z) (fun _ G_ S_ w_ h_ => ptr_one1 G_ S_ w_ h_) Try.underlying25 rfl rfl rfl rfl ?_)
    refine op (OpS.mv rfl rfl rfl ?_)
    refine RunL.join (σ := Bool) (fun s_ L_ w_ => L_ = [(1, v1), (9, .int .i64 x1), (10, u3), (11, u4), (64, .bool s_)] ∧ St e w_ [(false, .val (Rep.slice law21_Do.rep) v1 a1)] [(true, .opt (fun x_ => .ex fun v_ => .sep (.box 76 (Rep.iso (fun s : bus_Bus => (s.masters, ())) (Rep.prod (Rep.raw (α := List bus_master) v_) Rep.unit)) u3 x_) (.oval (oslice 85 3 (fun _ => bus_master.orep)) v_ x_.masters)) u3 y6.1), (true, .opt (fun x_ => .ex fun v_ => .sep (.box 79 (Rep.iso (fun s : ref21_Bus => (s.Masters, ())) (Rep.prod (Rep.raw (α := List ref21_Master) v_) Rep.unit)) u4 x_) (.oval (oslice 87 3 (fun _ => ref21_Master.orep)) v_ x_.Masters)) u4 y7.1)]) hF (fun s2 _ w9 hI hF => ?_) (fun j2 hj2 hF => ?_)
    ·
     obtain ⟨rfl, h16⟩ := hI
     refine Run.ite rfl hF (fun e11 hF => ?_) (fun e11 hF => ?_)
     ·
      refine Run.seq ?_
      refine Run.reg ?_
      refine op (OpS.as rfl rfl rfl ?_)
      refine RunL.nil ?_
      refine Run.slim [(4, .bool false)] ⟨rfl, trivial⟩ ?_
      refine Run.retP rfl (.tmp rfl .nil) ?_
      cases hF
      exact Post.mk' ⟨rfl, rfl, rfl, rfl⟩ (h16.picks .nil) .nil
     ·
      refine Run.skip ?_
      refine Run.seq ?_
      refine Run.seq ?_
      refine Run.reg ?_
      refine op (OpS.as rfl rfl rfl ?_)
      refine RunL.nil ?_
      refine Run.slim [(13, .int .i64 0), (1, v1), (9, .int .i64 x1), (10, u3), (11, u4)] ⟨rfl, rfl, rfl, rfl, rfl, trivial⟩ ?_
      refine Run.block ?_
      have h17 := (h16.pick .z).weak
      have h18 := (h17.pick (.s .z)).weak
      refine Run.slim [(1, v1), (9, .int .i64 x1), (10, u3), (11, u4), (13, .int .i64 0)] ⟨rfl, rfl, rfl, rfl, rfl, trivial⟩ ?_
      refine Run.loopP (σ := (Int × (Option bus_Bus) × (Option ref21_Bus))) (fun s_ L_ w_ => ∃ u0_ u1_ : Value, L_ = [(1, v1), (9, .int .i64 x1), (10, u0_), (11, u1_), (13, .int .i64 s_.1)] ∧ St e w_ [(false, .val (Rep.slice law21_Do.rep) v1 a1)] [(false, .opt (fun x_ => .ex fun v_ => .sep (.box 76 (Rep.iso (fun s : bus_Bus => (s.masters, ())) (Rep.prod (Rep.raw (α := List bus_master) v_) Rep.unit)) u0_ x_) (.oval (oslice 85 3 (fun _ => bus_master.orep)) v_ x_.masters)) u0_ s_.2.1), (false, .opt (fun x_ => .ex fun v_ => .sep (.box 79 (Rep.iso (fun s : ref21_Bus => (s.Masters, ())) (Rep.prod (Rep.raw (α := List ref21_Master) v_) Rep.unit)) u1_ x_) (.oval (oslice 87 3 (fun _ => ref21_Master.orep)) v_ x_.Masters)) u1_ s_.2.2)]) hF ⟨u3, u4, rfl, (h18.facts (.atm .z .nil)).picks (.cons (.s .z) (.cons .z .nil))⟩ (fun k1 hk1 s3 _ w10 hI hF => ?_)
      obtain ⟨u5, u6, rfl, h19⟩ := hI
      refine Run.seq ?_
      refine Run.seq ?_
      refine Run.reg ?_
      refine op (OpS.mv rfl rfl rfl ?_)
      refine op (OpS.mv rfl rfl rfl ?_)
      refine op (OpS.len h19 Try.underlying22 rfl rfl rfl (V.at .z) ?_)
      refine op (OpS.bin rfl rfl rfl rfl rfl ?_)
      refine RunL.nil ?_
      refine Run.slim [(68, .bool (decide (s3.1 < (a1.length : Int)))), (1, v1), (9, .int .i64 x1), (10, u5), (11, u6), (13, .int .i64 s3.1)] ⟨rfl, rfl, rfl, rfl, rfl, rfl, trivial⟩ ?_
      refine Run.ite rfl hF (fun e12 hF => ?_) (fun e12 hF => ?_)
      ·
       refine Run.skip ?_
       refine Run.seq ?_
       refine Run.block ?_
       refine Run.seq ?_
       refine Run.reg ?_
       refine op (OpS.mv rfl rfl rfl ?_)
       refine op (OpS.mv rfl rfl rfl ?_)
       obtain ⟨x2, e13, hF⟩ := bindP_use hF
       refine op (OpS.iptr h19 Try.underlying22 ty40 rfl rfl rfl rfl (V.at .z) e13 (fun u7 h20 => ?_))
       refine op (OpS.load h20 ty40 rfl rfl rfl .z (fun u8 h21 => ?_))
       refine op (OpS.alloc h21 ti40 law21_Do.zr rfl rfl (fun u9 w11 h22 => ?_))
       have h23 := (h22.pick .z).weak
       refine op (OpS.storeB (f' := false) h23 .z PA.z Put.id ty40 rfl rfl rfl (V.at .z) (.inr rfl) (fun w12 h24 => ?_))
       refine RunL.nil ?_
       refine Run.slim [(14, u9), (1, v1), (9, .int .i64 x1), (10, u5), (11, u6), (13, .int .i64 s3.1)] ⟨rfl, rfl, rfl, rfl, rfl, rfl, trivial⟩ ?_
       refine Run.seq ?_
       refine Run.reg ?_
       refine op (OpS.fbox (o3 := 1) h24 .z PA.z fa40_1 rfl rfl rfl rfl ?_)
       refine op (OpS.loadBi h24 .z PA.a (Get.fld law21_Do.f1) ty3 rfl rfl rfl ?_)
       refine op (OpS.as rfl rfl rfl ?_)
       refine RunL.nil ?_
       refine Run.slim [(15, .int .i64 x2.Master), (14, u9), (1, v1), (9, .int .i64 x1), (10, u5), (11, u6), (13, .int .i64 s3.1)] ⟨rfl, rfl, rfl, rfl, rfl, rfl, rfl, trivial⟩ ?_
       refine Run.seq ?_
       refine Run.seq ?_
       refine Run.reg ?_
       refine op (OpS.mv rfl rfl rfl ?_)
       refine op (OpS.rem rfl rfl rfl rfl (by decide) ?_)
       refine op (OpS.bin rfl rfl rfl rfl rfl ?_)
       refine RunL.nil ?_
       refine Run.slim [(79, .bool ((Int.tmod x2.Master 7) != 6)), (15, .int .i64 x2.Master), (14, u9), (1, v1), (9, .int .i64 x1), (10, u5), (11, u6), (13, .int .i64 s3.1)] ⟨rfl, rfl, rfl, rfl, rfl, rfl, rfl, rfl, trivial⟩ ?_
       refine Run.join (σ := Int) (fun s_ L_ w_ => L_ = [(1, v1), (9, .int .i64 x1), (10, u5), (11, u6), (13, .int .i64 s3.1), (14, u9), (15, .int .i64 s_)] ∧ St e w_ [(false, .val (Rep.slice law21_Do.rep) v1 a1)] [(false, .opt (fun x_ => .ex fun v_ => .sep (.box 76 (Rep.iso (fun s : bus_Bus => (s.masters, ())) (Rep.prod (Rep.raw (α := List bus_master) v_) Rep.unit)) u5 x_) (.oval (oslice 85 3 (fun _ => bus_master.orep)) v_ x_.masters)) u5 s3.2.1), (false, .opt (fun x_ => .ex fun v_ => .sep (.box 79 (Rep.iso (fun s : ref21_Bus => (s.Masters, ())) (Rep.prod (Rep.raw (α := List ref21_Master) v_) Rep.unit)) u6 x_) (.oval (oslice 87 3 (fun _ => ref21_Master.orep)) v_ x_.Masters)) u6 s3.2.2), (false, .box 40 law21_Do.rep u9 x2)]) hF (fun s4 _ w13 hI hF => ?_) (fun j3 hj3 hF => ?_)
       ·
        obtain ⟨rfl, h25⟩ := hI
        refine Run.seq ?_
        refine Run.seq ?_
        refine Run.reg ?_
        refine op (OpS.fbox (o3 := 0) h25 (.s (.s .z)) PA.z fa40_0 rfl rfl rfl rfl ?_)
        refine op (OpS.loadBi h25 (.s (.s .z)) PA.a (Get.fld law21_Do.f0) ty3 rfl rfl rfl ?_)
        obtain ⟨y8, e14, hF⟩ := bindP_use hF
        refine op (OpS.callP h25 Try.func13 rfl rfl rfl rfl (vs := [.int .i64 x2.Kind, .int .i64 4]) rfl (made_Mod_ok e14) .nil ?_)
        rintro _ w14 _ _ _ ⟨rfl, rfl, rfl, rfl⟩ h26
        have h27 := h26 rfl rfl
        simp only [List.cons_append, List.nil_append] at h27
        refine RunL.nil ?_
        refine Run.slim [(85, .int .i64 y8), (1, v1), (9, .int .i64 x1), (10, u5), (11, u6), (13, .int .i64 s3.1), (14, u9), (15, .int .i64 s4)] ⟨rfl, rfl, rfl, rfl, rfl, rfl, rfl, rfl, trivial⟩ ?_
        refine Run.block ?_
        refine Run.seq ?_
        refine Run.seq ?_
        refine Run.reg ?_
        refine op (OpS.bin rfl rfl rfl rfl rfl ?_)
        refine op (OpS.as rfl rfl rfl ?_)
        obtain ⟨x3, e15, hF⟩ := letP_use hF
        refine RunL.nameb e15 ?_
        refine RunL.nil ?_
        refine Run.slim [(97, .bool x3), (85, .int .i64 y8), (1, v1), (9, .int .i64 x1), (10, u5), (11, u6), (13, .int .i64 s3.1), (14, u9), (15, .int .i64 s4)] ⟨rfl, rfl, rfl, rfl, rfl, rfl, rfl, rfl, rfl, trivial⟩ ?_
        refine Run.join (σ := Bool) (fun s_ L_ w_ => L_ = [(1, v1), (9, .int .i64 x1), (10, u5), (11, u6), (13, .int .i64 s3.1), (14, u9), (15, .int .i64 s4), (85, .int .i64 y8), (97, .bool s_)] ∧ St e w_ [(false, .val (Rep.slice law21_Do.rep) v1 a1)] [(false, .opt (fun x_ => .ex fun v_ => .sep (.box 76 (Rep.iso (fun s : bus_Bus => (s.masters, ())) (Rep.prod (Rep.raw (α := List bus_master) v_) Rep.unit)) u5 x_) (.oval (oslice 85 3 (fun _ => bus_master.orep)) v_ x_.masters)) u5 s3.2.1), (false, .opt (fun x_ => .ex fun v_ => .sep (.box 79 (Rep.iso (fun s : ref21_Bus => (s.Masters, ())) (Rep.prod (Rep.raw (α := List ref21_Master) v_) Rep.unit)) u6 x_) (.oval (oslice 87 3 (fun _ => ref21_Master.orep)) v_ x_.Masters)) u6 s3.2.2), (false, .box 40 law21_Do.rep u9 x2)]) hF (fun s5 _ w15 hI hF => ?_) (fun j4 hj4 hF => ?_)
        ·
         obtain ⟨rfl, h28⟩ := hI
         refine Run.join (σ := ((Option bus_Bus) × (Option ref21_Bus))) (fun s_ L_ w_ => ∃ u0_ u1_ : Value, L_ = [(1, v1), (9, .int .i64 x1), (10, u0_), (11, u1_), (13, .int .i64 s3.1)] ∧ St e w_ [(false, .val (Rep.slice law21_Do.rep) v1 a1)] [(false, .opt (fun x_ => .ex fun v_ => .sep (.box 76 (Rep.iso (fun s : bus_Bus => (s.masters, ())) (Rep.prod (Rep.raw (α := List bus_master) v_) Rep.unit)) u0_ x_) (.oval (oslice 85 3 (fun _ => bus_master.orep)) v_ x_.masters)) u0_ s_.1), (false, .opt (fun x_ => .ex fun v_ => .sep (.box 79 (Rep.iso (fun s : ref21_Bus => (s.Masters, ())) (Rep.prod (Rep.raw (α := List ref21_Master) v_) Rep.unit)) u1_ x_) (.oval (oslice 87 3 (fun _ => ref21_Master.orep)) v_ x_.Masters)) u1_ s_.2)]) hF (fun s6 _ w16 hI hF => ?_) (fun j5 hj5 hF => ?_)
         ·
          obtain ⟨u10, u11, rfl, h29⟩ := hI
          refine Run.endBlock ?_
          refine Run.seq ?_
          refine Run.reg ?_
          refine op (OpS.as rfl rfl rfl ?_)
          refine RunL.nil ?_
          refine Run.block ?_
          refine Run.slim [(1, v1), (9, .int .i64 x1), (10, u10), (11, u11), (13, .int .i64 s3.1), (21, .int .i64 (-1))] ⟨rfl, rfl, rfl, rfl, rfl, rfl, trivial⟩ ?_
          refine Run.loopP (σ := (Int × (Option bus_Bus) × (Option ref21_Bus))) (fun s_ L_ w_ => ∃ u0_ u1_ : Value, L_ = [(1, v1), (9, .int .i64 x1), (10, u0_), (11, u1_), (13, .int .i64 s3.1), (21, .int .i64 s_.1)] ∧ St e w_ [(false, .val (Rep.slice law21_Do.rep) v1 a1)] [(false, .opt (fun x_ => .ex fun v_ => .sep (.box 76 (Rep.iso (fun s : bus_Bus => (s.masters, ())) (Rep.prod (Rep.raw (α := List bus_master) v_) Rep.unit)) u0_ x_) (.oval (oslice 85 3 (fun _ => bus_master.orep)) v_ x_.masters)) u0_ s_.2.1), (false, .opt (fun x_ => .ex fun v_ => .sep (.box 79 (Rep.iso (fun s : ref21_Bus => (s.Masters, ())) (Rep.prod (Rep.raw (α := List ref21_Master) v_) Rep.unit)) u1_ x_) (.oval (oslice 87 3 (fun _ => ref21_Master.orep)) v_ x_.Masters)) u1_ s_.2.2)]) hF ⟨u10, u11, rfl, (h29.facts (.atm .z .nil)).picks (.cons .z (.cons .z .nil))⟩ (fun k2 hk2 s7 _ w17 hI hF => ?_)
          obtain ⟨u12, u13, rfl, h30⟩ := hI
          refine Run.seq ?_
          refine Run.seq ?_
          refine Run.reg ?_
          refine op (OpS.mv rfl rfl rfl ?_)
          refine op (OpS.mv rfl rfl rfl ?_)
          refine op (OpS.bin rfl rfl rfl rfl rfl ?_)
          refine RunL.nil ?_
          refine Run.slim [(142, .bool (decide (s7.1 ≤ x1))), (1, v1), (9, .int .i64 x1), (10, u12), (11, u13), (13, .int .i64 s3.1), (21, .int .i64 s7.1)] ⟨rfl, rfl, rfl, rfl, rfl, rfl, rfl, trivial⟩ ?_
          refine Run.ite rfl hF (fun e16 hF => ?_) (fun e16 hF => ?_)
          ·
           refine Run.skip ?_
           refine Run.seq ?_
           refine Run.block ?_
           refine Run.seq ?_
           refine Run.reg ?_
           refine op (OpS.mv rfl rfl rfl ?_)
           refine op (OpS.mv rfl rfl rfl ?_)
           obtain ⟨x4, e17, hF⟩ := bindP_use hF
           have h31 := St.unopt (h30.pick .z) e17
           obtain ⟨u14, h32⟩ := h31.unex
           have h33 := h32.unsep
           obtain ⟨y9, e18, hF⟩ := bindP_use hF
           have h34 := h33.front (.cons .z (.cons .z .nil))
           refine op (OpS.callO h34 Try.func22 rfl rfl rfl rfl (vs := [u12, .int .i64 s7.1]) rfl (bus_Bus_Pending_ok e18) rfl .nil ?_)
           rintro _ w18 _ _ _ ⟨rfl, rfl, rfl, rfl⟩ h35
           have h36 := h35
           simp only [List.cons_append, List.nil_append] at h36
           refine op (OpS.mv rfl rfl rfl ?_)
           refine op (OpS.mv rfl rfl rfl ?_)
           obtain ⟨x5, e19, hF⟩ := bindP_use hF
           have h37 := St.unopt (h36.pick (.s (.s .z))) e19
           obtain ⟨u15, h38⟩ := h37.unex
           have h39 := h38.unsep
           obtain ⟨y10, e20, hF⟩ := bindP_use hF
           have h40 := h39.front (.cons .z (.cons .z .nil))
           refine op (OpS.callO h40 Try.func23 rfl rfl rfl rfl (vs := [u13, .int .i64 s7.1]) rfl (ref21_Bus_Pending_ok e20) rfl .nil ?_)
           rintro _ w19 _ _ _ ⟨rfl, rfl, rfl, rfl⟩ h41
           have h42 := h41
           simp only [List.cons_append, List.nil_append] at h42
           refine op (OpS.bin rfl rfl rfl rfl rfl ?_)
           refine RunL.nil ?_
           refine Run.slim [(151, .bool (y9 != y10)), (1, v1), (9, .int .i64 x1), (10, u12), (11, u13), (13, .int .i64 s3.1), (21, .int .i64 s7.1)] ⟨rfl, rfl, rfl, rfl, rfl, rfl, rfl, trivial⟩ ?_
           refine Run.ite rfl hF (fun e21 hF => ?_) (fun e21 hF => ?_)
           ·
            refine Run.seq ?_
            refine Run.reg ?_
            refine op (OpS.as rfl rfl rfl ?_)
            refine RunL.nil ?_
            refine Run.slim [(4, .bool false)] ⟨rfl, trivial⟩ ?_
            refine Run.retP rfl (.tmp rfl .nil) ?_
            cases hF
            exact Post.mk' ⟨rfl, rfl, rfl, rfl⟩ (h42.picks .nil) .nil
           ·
            refine Run.skip ?_
            refine Run.endBlock ?_
            refine Run.reg ?_
            refine op (OpS.mv rfl rfl rfl ?_)
            refine op (OpS.bin rfl rfl rfl rfl rfl ?_)
            refine op (OpS.as rfl rfl rfl ?_)
            obtain ⟨x6, e22, hF⟩ := letP_use hF
            refine RunL.name e22 ?_
            refine RunL.nil ?_
            refine Run.slim [(21, .int .i64 x6), (1, v1), (9, .int .i64 x1), (10, u12), (11, u13), (13, .int .i64 s3.1)] ⟨rfl, rfl, rfl, rfl, rfl, rfl, trivial⟩ ?_
            have h43 := h42.front (.cons (.s (.s .z)) (.cons (.s (.s .z)) .nil))
            have h44 := St.some (H := (fun x_ => .ex fun v_ => .sep (.box 76 (Rep.iso (fun s : bus_Bus => (s.masters, ())) (Rep.prod (Rep.raw (α := List bus_master) v_) Rep.unit)) u12 x_) (.oval (oslice 85 3 (fun _ => bus_master.orep)) v_ x_.masters))) (q := u12) (x := x4) (St.ex (H := fun v_ => .sep (.box 76 (Rep.iso (fun s : bus_Bus => (s.masters, ())) (Rep.prod (Rep.raw (α := List bus_master) v_) Rep.unit)) u12 x4) (.oval (oslice 85 3 (fun _ => bus_master.orep)) v_ x4.masters)) u14 (St.sep h43))
            have h45 := h44.front (.cons (.s .z) (.cons (.s .z) .nil))
            have h46 := St.some (H := (fun x_ => .ex fun v_ => .sep (.box 79 (Rep.iso (fun s : ref21_Bus => (s.Masters, ())) (Rep.prod (Rep.raw (α := List ref21_Master) v_) Rep.unit)) u13 x_) (.oval (oslice 87 3 (fun _ => ref21_Master.orep)) v_ x_.Masters))) (q := u13) (x := x5) (St.ex (H := fun v_ => .sep (.box 79 (Rep.iso (fun s : ref21_Bus => (s.Masters, ())) (Rep.prod (Rep.raw (α := List ref21_Master) v_) Rep.unit)) u13 x5) (.oval (oslice 87 3 (fun _ => ref21_Master.orep)) v_ x5.Masters)) u15 (St.sep h45))
            refine Run.slim [(1, v1), (9, .int .i64 x1), (10, u12), (11, u13), (13, .int .i64 s3.1), (21, .int .i64 x6)] ⟨rfl, rfl, rfl, rfl, rfl, rfl, trivial⟩ ?_
            exact hk2 (x6, (some x4), (some x5)) _ _ ⟨u12, u13, rfl, (h46.facts (.atm .z .nil)).picks (.cons (.s .z) (.cons .z .nil))⟩ hF
          ·
           refine Run.exit rfl ?_
           refine Run.endBlock ?_
           refine Run.reg ?_
           refine op (OpS.mv rfl rfl rfl ?_)
           refine op (OpS.bin rfl rfl rfl rfl rfl ?_)
           refine op (OpS.as rfl rfl rfl ?_)
           obtain ⟨x7, e23, hF⟩ := letP_use hF
           refine RunL.name e23 ?_
           refine RunL.nil ?_
           refine Run.slim [(13, .int .i64 x7), (1, v1), (9, .int .i64 x1), (10, u12), (11, u13)] ⟨rfl, rfl, rfl, rfl, rfl, trivial⟩ ?_
           refine Run.slim [(1, v1), (9, .int .i64 x1), (10, u12), (11, u13), (13, .int .i64 x7)] ⟨rfl, rfl, rfl, rfl, rfl, trivial⟩ ?_
           exact hk1 (x7, s7.2.1, s7.2.2) _ _ ⟨u12, u13, rfl, (h30.facts (.atm .z .nil)).picks (.cons .z (.cons .z .nil))⟩ hF
         ·
          refine Run.ite rfl hF (fun e24 hF => ?_) (fun e24 hF => ?_)
          ·
           refine Run.seq ?_
           refine Run.reg ?_
           refine op (OpS.fbox (o3 := 2) h28 (.s (.s .z)) PA.z fa40_2 rfl rfl rfl rfl ?_)
           refine op (OpS.loadB h28 (.s (.s .z)) PA.a (Get.fld law21_Do.f2) ty33 rfl rfl rfl (fun u16 h47 => ?_))
           obtain ⟨y11, e25, hF⟩ := bindP_use hF
           have h48 := h47.front .nil
           refine op (OpS.callO h48 Try.func14 rfl rfl rfl rfl (vs := [u16]) rfl (made_Roll_ok e25) rfl (.cons (f := false) (V.at .z) .nil) ?_)
           rintro u17 w20 _ _ _ ⟨_, rfl, rfl, rfl, rfl⟩ h49
           have h50 := h49
           simp only [List.cons_append, List.nil_append] at h50
           obtain ⟨y12, e26, hF⟩ := bindP_use hF
           have h51 := h50.front (.cons .z .nil)
           refine op (OpS.callO h51 Try.func15 rfl rfl rfl rfl (vs := [u17]) rfl (made_Dice_Frame_ok e26) rfl .nil ?_)
           rintro u18 w21 _ _ _ ⟨_, rfl, rfl, rfl, rfl⟩ h52
           have h53 := h52
           simp only [List.cons_append, List.nil_append] at h53
           refine op (OpS.alloc h53 ti36 Frame_.zr rfl rfl (fun u19 w22 h54 => ?_))
           refine op (OpS.storeB (f' := true) h54 .z PA.z Put.id ty36 rfl rfl rfl (V.at .z) (.inl rfl) (fun w23 h55 => ?_))
           refine RunL.nil ?_
           refine Run.slim [(16, u19), (1, v1), (9, .int .i64 x1), (10, u5), (11, u6), (13, .int .i64 s3.1), (15, .int .i64 s4)] ⟨rfl, rfl, rfl, rfl, rfl, rfl, rfl, trivial⟩ ?_
           refine Run.seq ?_
           have h56 := h55.picks (.cons .z (.cons (.s .z) (.cons (.s .z) (.cons .z (.cons .z .nil)))))
           obtain ⟨x8, e27, hF⟩ := bindP_use hF
           obtain ⟨y13, e28, hF⟩ := bindP_use hF
           obtain ⟨x9, e29, hF⟩ := bindP_use hF
           obtain ⟨y14, e30, hF⟩ := bindP_use hF
           refine Run.drawV (Ωs := [(false, .box 81 made_Dice.rep u17 y12.2), (false, .box 40 law21_Do.rep u9 x2)]) [⟨some 104, some (u5), fun _ => [], fun ds_ u_ => [], [], [], none⟩, ⟨some 105, some (.int .i64 s4), fun _ => [], fun ds_ u_ => [], [], [], none⟩, ⟨some 106, none, fun u_ => [(true, .val Frame_.rep u_ y12.1)], fun ds_ u_ => [], [], [(0, [])], none⟩, ⟨some 107, some (.int .i64 y13.1), fun _ => [], fun ds_ u_ => [(false, .opt (fun x_ => .ex fun v_ => .sep (.box 76 (Rep.iso (fun s : bus_Bus => (s.masters, ())) (Rep.prod (Rep.raw (α := List bus_master) v_) Rep.unit)) u5 x_) (.oval (oslice 85 3 (fun _ => bus_master.orep)) v_ x_.masters)) u5 (some y13.2))], [1], [], none⟩, ⟨some 108, some (u6), fun _ => [], fun ds_ u_ => [], [], [], none⟩, ⟨some 109, some (.int .i64 s4), fun _ => [], fun ds_ u_ => [], [], [], none⟩, ⟨some 110, none, fun u_ => [(true, .val Frame_.rep u_ y12.1)], fun ds_ u_ => [], [], [(0, [])], none⟩, ⟨some 111, some (.int .i64 y14.1), fun _ => [], fun ds_ u_ => [(false, .opt (fun x_ => .ex fun v_ => .sep (.box 79 (Rep.iso (fun s : ref21_Bus => (s.Masters, ())) (Rep.prod (Rep.raw (α := List ref21_Master) v_) Rep.unit)) u6 x_) (.oval (oslice 87 3 (fun _ => ref21_Master.orep)) v_ x_.Masters)) u6 (some y14.2))], [2], [], none⟩, ⟨some 112, some (.bool (y13.1 != y14.1)), fun _ => [], fun ds_ u_ => [], [], [], none⟩] [[], [], [], [0, 1, 2], [], [], [], [4, 5, 6], [3, 7]] [[(true, .box 36 Frame_.rep u19 y12.1)], [(false, .opt (fun x_ => .ex fun v_ => .sep (.box 76 (Rep.iso (fun s : bus_Bus => (s.masters, ())) (Rep.prod (Rep.raw (α := List bus_master) v_) Rep.unit)) u5 x_) (.oval (oslice 85 3 (fun _ => bus_master.orep)) v_ x_.masters)) u5 s3.2.1)], [(false, .opt (fun x_ => .ex fun v_ => .sep (.box 79 (Rep.iso (fun s : ref21_Bus => (s.Masters, ())) (Rep.prod (Rep.raw (α := List ref21_Master) v_) Rep.unit)) u6 x_) (.oval (oslice 87 3 (fun _ => ref21_Master.orep)) v_ x_.Masters)) u6 s3.2.2)]] [0, 3, 4, 5, 6, 7, 8, 9, 10, 11] Try_mixed rfl rfl rfl h56 (.cons ?_ (.cons ?_ (.cons ?_ (.cons ?_ (.cons ?_ (.cons ?_ (.cons ?_ (.cons ?_ (.cons ?_ .nil))))))))) (fun q1 w hq1 h => ?_)
           ·intro q1 w Γx Ωx h
            refine OpS.mv rfl rfl rfl ?_
            exact ⟨undef, rfl, trivial, h⟩
           ·intro q1 w Γx Ωx h
            refine OpS.mv rfl rfl rfl ?_
            exact ⟨undef, rfl, trivial, h⟩
           ·intro q1 w Γx Ωx h
            have h : St e w ([(true, .val Frame_.rep u18 y12.1), (false, .val (Rep.slice (Rep.int .i64)) u16 x2.Seed), (false, .val (Rep.slice law21_Do.rep) v1 a1)] ++ Γx) ([(true, .box 36 Frame_.rep u19 y12.1), (false, .box 81 made_Dice.rep u17 y12.2), (false, .box 40 law21_Do.rep u9 x2)] ++ Ωx) := h
            refine OpS.loadB h .z PA.z Get.id ty36 rfl rfl rfl (fun u h75 => ?_)
            exact ⟨u, rfl, trivial, h75⟩
           ·intro q1 w Γx Ωx h
            have h : St e w ([(true, .val Frame_.rep (q1 2) y12.1), (true, .val Frame_.rep u18 y12.1), (false, .val (Rep.slice (Rep.int .i64)) u16 x2.Seed), (false, .val (Rep.slice law21_Do.rep) v1 a1)] ++ Γx) ([(false, .opt (fun x_ => .ex fun v_ => .sep (.box 76 (Rep.iso (fun s : bus_Bus => (s.masters, ())) (Rep.prod (Rep.raw (α := List bus_master) v_) Rep.unit)) u5 x_) (.oval (oslice 85 3 (fun _ => bus_master.orep)) v_ x_.masters)) u5 s3.2.1), (false, .box 81 made_Dice.rep u17 y12.2), (false, .box 40 law21_Do.rep u9 x2)] ++ Ωx) := h
            have h76 := St.unopt (h.pick .z) e27
            obtain ⟨u24, h77⟩ := h76.unex
            have h78 := h77.unsep
            have h79 := h78.front (.cons .z (.cons .z .nil))
            refine OpS.callO h79 Try.func16 rfl rfl rfl rfl (vs := [u5, .int .i64 s4, (q1 2)]) rfl (bus_Bus_Submit_ok e28) rfl (.cons (f := true) (V.at .z) .nil) ?_
            rintro _ w26 _ _ _ ⟨u25, rfl, rfl, rfl, rfl⟩ h80
            have h81 := h80
            simp only [List.cons_append, List.nil_append] at h81
            have h82 := h81.front (.cons .z (.cons .z .nil))
            have h83 := St.some (H := (fun x_ => .ex fun v_ => .sep (.box 76 (Rep.iso (fun s : bus_Bus => (s.masters, ())) (Rep.prod (Rep.raw (α := List bus_master) v_) Rep.unit)) u5 x_) (.oval (oslice 85 3 (fun _ => bus_master.orep)) v_ x_.masters))) (q := u5) (x := y13.2) (St.ex (H := fun v_ => .sep (.box 76 (Rep.iso (fun s : bus_Bus => (s.masters, ())) (Rep.prod (Rep.raw (α := List bus_master) v_) Rep.unit)) u5 y13.2) (.oval (oslice 85 3 (fun _ => bus_master.orep)) v_ y13.2.masters)) u25 (St.sep h82))
            exact ⟨undef, rfl, trivial, h83⟩
           ·intro q1 w Γx Ωx h
            refine OpS.mv rfl rfl rfl ?_
            exact ⟨undef, rfl, trivial, h⟩
           ·intro q1 w Γx Ωx h
            refine OpS.mv rfl rfl rfl ?_
            exact ⟨undef, rfl, trivial, h⟩
           ·intro q1 w Γx Ωx h
            have h : St e w ([(true, .val Frame_.rep u18 y12.1), (false, .val (Rep.slice (Rep.int .i64)) u16 x2.Seed), (false, .val (Rep.slice law21_Do.rep) v1 a1)] ++ Γx) ([(true, .box 36 Frame_.rep u19 y12.1), (false, .box 81 made_Dice.rep u17 y12.2), (false, .box 40 law21_Do.rep u9 x2)] ++ Ωx) := h
            refine OpS.loadB h .z PA.z Get.id ty36 rfl rfl rfl (fun u h84 => ?_)
            exact ⟨u, rfl, trivial, h84⟩
           ·intro q1 w Γx Ωx h
            have h : St e w ([(true, .val Frame_.rep (q1 6) y12.1), (true, .val Frame_.rep u18 y12.1), (false, .val (Rep.slice (Rep.int .i64)) u16 x2.Seed), (false, .val (Rep.slice law21_Do.rep) v1 a1)] ++ Γx) ([(false, .opt (fun x_ => .ex fun v_ => .sep (.box 79 (Rep.iso (fun s : ref21_Bus => (s.Masters, ())) (Rep.prod (Rep.raw (α := List ref21_Master) v_) Rep.unit)) u6 x_) (.oval (oslice 87 3 (fun _ => ref21_Master.orep)) v_ x_.Masters)) u6 s3.2.2), (false, .box 81 made_Dice.rep u17 y12.2), (false, .box 40 law21_Do.rep u9 x2)] ++ Ωx) := h
            have h85 := St.unopt (h.pick .z) e29
            obtain ⟨u26, h86⟩ := h85.unex
            have h87 := h86.unsep
            have h88 := h87.front (.cons .z (.cons .z .nil))
            refine OpS.callO h88 Try.func17 rfl rfl rfl rfl (vs := [u6, .int .i64 s4, (q1 6)]) rfl (ref21_Bus_Submit_ok e30) rfl (.cons (f := true) (V.at .z) .nil) ?_
            rintro _ w27 _ _ _ ⟨u27, rfl, rfl, rfl, rfl⟩ h89
            have h90 := h89
            simp only [List.cons_append, List.nil_append] at h90
            have h91 := h90.front (.cons .z (.cons .z .nil))
            have h92 := St.some (H := (fun x_ => .ex fun v_ => .sep (.box 79 (Rep.iso (fun s : ref21_Bus => (s.Masters, ())) (Rep.prod (Rep.raw (α := List ref21_Master) v_) Rep.unit)) u6 x_) (.oval (oslice 87 3 (fun _ => ref21_Master.orep)) v_ x_.Masters))) (q := u6) (x := y14.2) (St.ex (H := fun v_ => .sep (.box 79 (Rep.iso (fun s : ref21_Bus => (s.Masters, ())) (Rep.prod (Rep.raw (α := List ref21_Master) v_) Rep.unit)) u6 y14.2) (.oval (oslice 87 3 (fun _ => ref21_Master.orep)) v_ y14.2.Masters)) u27 (St.sep h91))
            exact ⟨undef, rfl, trivial, h92⟩
           ·intro q1 w Γx Ωx h
            refine OpS.bin rfl rfl rfl rfl rfl ?_
            exact ⟨undef, rfl, trivial, h⟩
           have h93 : St e w [(true, .val Frame_.rep (q1 2) y12.1), (true, .val Frame_.rep (q1 6) y12.1), (true, .val Frame_.rep u18 y12.1), (false, .val (Rep.slice (Rep.int .i64)) u16 x2.Seed), (false, .val (Rep.slice law21_Do.rep) v1 a1)] [(true, .box 36 Frame_.rep u19 y12.1), (false, .opt (fun x_ => .ex fun v_ => .sep (.box 76 (Rep.iso (fun s : bus_Bus => (s.masters, ())) (Rep.prod (Rep.raw (α := List bus_master) v_) Rep.unit)) u5 x_) (.oval (oslice 85 3 (fun _ => bus_master.orep)) v_ x_.masters)) u5 (some y13.2)), (false, .opt (fun x_ => .ex fun v_ => .sep (.box 79 (Rep.iso (fun s : ref21_Bus => (s.Masters, ())) (Rep.prod (Rep.raw (α := List ref21_Master) v_) Rep.unit)) u6 x_) (.oval (oslice 87 3 (fun _ => ref21_Master.orep)) v_ x_.Masters)) u6 (some y14.2)), (false, .box 81 made_Dice.rep u17 y12.2), (false, .box 40 law21_Do.rep u9 x2)] := h
           refine RunL.nil ?_
           refine Run.slim [(112, .bool (y13.1 != y14.1)), (1, v1), (9, .int .i64 x1), (10, u5), (11, u6), (13, .int .i64 s3.1)] ⟨rfl, rfl, rfl, rfl, rfl, rfl, trivial⟩ ?_
           refine Run.ite rfl hF (fun e31 hF => ?_) (fun e31 hF => ?_)
           ·
            refine Run.seq ?_
            refine Run.reg ?_
            refine op (OpS.as rfl rfl rfl ?_)
            refine RunL.nil ?_
            refine Run.slim [(4, .bool false)] ⟨rfl, trivial⟩ ?_
            refine Run.retP rfl (.tmp rfl .nil) ?_
            cases hF
            exact Post.mk' ⟨rfl, rfl, rfl, rfl⟩ (h93.picks .nil) .nil
           ·
            refine Run.skip ?_
            refine Run.slim [(1, v1), (9, .int .i64 x1), (10, u5), (11, u6), (13, .int .i64 s3.1)] ⟨rfl, rfl, rfl, rfl, rfl, trivial⟩ ?_
            exact hj5 ((some y13.2), (some y14.2)) _ _ ⟨u5, u6, rfl, (h93.facts (.atm (.s (.s (.s (.s .z)))) .nil)).picks (.cons (.s .z) (.cons (.s .z) .nil))⟩ hF
          ·
           refine Run.seq ?_
           refine Run.reg ?_
           refine op (OpS.bin rfl rfl rfl rfl rfl ?_)
           refine op (OpS.as rfl rfl rfl ?_)
           obtain ⟨x10, e32, hF⟩ := letP_use hF
           refine RunL.nameb e32 ?_
           refine RunL.nil ?_
           refine Run.slim [(113, .bool x10), (1, v1), (9, .int .i64 x1), (10, u5), (11, u6), (13, .int .i64 s3.1), (14, u9), (15, .int .i64 s4)] ⟨rfl, rfl, rfl, rfl, rfl, rfl, rfl, rfl, trivial⟩ ?_
           refine Run.ite rfl hF (fun e33 hF => ?_) (fun e33 hF => ?_)
           ·
            refine Run.seq ?_
            refine Run.reg ?_
            refine op (OpS.mv rfl rfl rfl ?_)
            refine op (OpS.fbox (o3 := 6) h28 (.s (.s .z)) PA.z fa40_4 rfl rfl rfl rfl ?_)
            refine op (OpS.loadB h28 (.s (.s .z)) PA.a (Get.fld law21_Do.f4) ty38 rfl rfl rfl (fun u28 h94 => ?_))
            obtain ⟨y15, e34, hF⟩ := bindP_use hF
            have h95 := h94.front .nil
            refine op (OpS.callO h95 Try.func19 rfl rfl rfl rfl (vs := [u28]) rfl (law21_fault_ok e34) rfl (.cons (f := false) (V.at .z) .nil) ?_)
            rintro u29 w28 _ _ _ ⟨_, rfl, rfl, rfl, rfl⟩ h96
            have h97 := h96
            simp only [List.cons_append, List.nil_append] at h97
            obtain ⟨x11, e35, hF⟩ := bindP_use hF
            have h98 := St.unopt (h97.pick .z) e35
            obtain ⟨u30, h99⟩ := h98.unex
            have h100 := h99.unsep
            obtain ⟨y16, e36, hF⟩ := bindP_use hF
            have h101 := h100.front (.cons .z (.cons .z .nil))
            refine op (OpS.callO h101 Try.func18 rfl rfl rfl rfl (vs := [u5, u29]) rfl (bus_Bus_Step_ok e36) rfl (.cons (f := false) (V.at .z) .nil) ?_)
            rintro _ w29 _ _ _ ⟨u31, u32, rfl, rfl, rfl, rfl⟩ h102
            have h103 := h102
            simp only [List.cons_append, List.nil_append] at h103
            refine op (OpS.mv rfl rfl rfl ?_)
            refine op (OpS.ext rfl rfl rfl rfl ?_)
            refine op (OpS.ext rfl rfl rfl rfl ?_)
            refine op (OpS.alloc h103 ti46 Delivery_.zr rfl rfl (fun u33 w30 h104 => ?_))
            refine op (OpS.storeB (f' := true) h104 .z PA.z Put.id ty46 rfl rfl rfl (V.at .z) (.inl rfl) (fun w31 h105 => ?_))
            refine op (OpS.as rfl rfl rfl ?_)
            refine RunL.nil ?_
            refine Run.slim [(18, .bool y16.2.1), (17, u33), (1, v1), (9, .int .i64 x1), (10, u5), (11, u6), (13, .int .i64 s3.1), (14, u9)] ⟨rfl, rfl, rfl, rfl, rfl, rfl, rfl, rfl, trivial⟩ ?_
            refine Run.seq ?_
            refine Run.reg ?_
            refine op (OpS.mv rfl rfl rfl ?_)
            refine op (OpS.fbox (o3 := 6) h105 (.s (.s (.s (.s .z)))) PA.z fa40_4 rfl rfl rfl rfl ?_)
            refine op (OpS.loadB h105 (.s (.s (.s (.s .z)))) PA.a (Get.fld law21_Do.f4) ty38 rfl rfl rfl (fun u34 h106 => ?_))
            obtain ⟨y17, e37, hF⟩ := bindP_use hF
            have h107 := h106.front .nil
            refine op (OpS.callO h107 Try.func19 rfl rfl rfl rfl (vs := [u34]) rfl (law21_fault_ok e37) rfl (.cons (f := false) (V.at .z) .nil) ?_)
            rintro u35 w32 _ _ _ ⟨_, rfl, rfl, rfl, rfl⟩ h108
            have h109 := h108
            simp only [List.cons_append, List.nil_append] at h109
            obtain ⟨x12, e38, hF⟩ := bindP_use hF
            have h110 := St.unopt (h109.pick (.s (.s (.s .z)))) e38
            obtain ⟨u36, h111⟩ := h110.unex
            have h112 := h111.unsep
            obtain ⟨y18, e39, hF⟩ := bindP_use hF
            have h113 := h112.front (.cons .z (.cons .z .nil))
            refine op (OpS.callO h113 Try.func20 rfl rfl rfl rfl (vs := [u6, u35]) rfl (ref21_Bus_Step_ok e39) rfl (.cons (f := false) (V.at .z) .nil) ?_)
            rintro _ w33 _ _ _ ⟨u37, u38, rfl, rfl, rfl, rfl⟩ h114
            have h115 := h114
            simp only [List.cons_append, List.nil_append] at h115
            refine op (OpS.mv rfl rfl rfl ?_)
            refine op (OpS.ext rfl rfl rfl rfl ?_)
            refine op (OpS.ext rfl rfl rfl rfl ?_)
            refine op (OpS.alloc h115 ti46 Delivery_.zr rfl rfl (fun u39 w34 h116 => ?_))
            refine op (OpS.storeB (f' := true) h116 .z PA.z Put.id ty46 rfl rfl rfl (V.at .z) (.inl rfl) (fun w35 h117 => ?_))
            refine op (OpS.as rfl rfl rfl ?_)
            refine RunL.nil ?_
            refine Run.slim [(20, .bool y18.2.1), (19, u39), (18, .bool y16.2.1), (17, u33), (1, v1), (9, .int .i64 x1), (10, u5), (11, u6), (13, .int .i64 s3.1)] ⟨rfl, rfl, rfl, rfl, rfl, rfl, rfl, rfl, rfl, trivial⟩ ?_
            refine Run.seq ?_
            refine Run.reg ?_
            refine op (OpS.mv rfl rfl rfl ?_)
            refine op (OpS.mv rfl rfl rfl ?_)
            refine op (OpS.neb Try.underlying4 rfl rfl rfl rfl ?_)
            refine op (OpS.mv rfl rfl rfl ?_)
            refine RunL.join (σ := Bool) (fun s_ L_ w_ => L_ = [(1, v1), (9, .int .i64 x1), (10, u5), (11, u6), (13, .int .i64 s3.1), (139, .bool s_)] ∧ St e w_ [(false, .val (Rep.slice law21_Do.rep) v1 a1)] [(false, .box 76 (Rep.iso (fun s : bus_Bus => (s.masters, ())) (Rep.prod (Rep.raw (α := List bus_master) u32) Rep.unit)) u5 y16.2.2), (false, .box 79 (Rep.iso (fun s : ref21_Bus => (s.Masters, ())) (Rep.prod (Rep.raw (α := List ref21_Master) u38) Rep.unit)) u6 y18.2.2), (false, .oval (oslice 85 3 (fun _ => bus_master.orep)) u32 y16.2.2.masters), (false, .oval (oslice 87 3 (fun _ => ref21_Master.orep)) u38 y18.2.2.Masters)]) hF (fun s8 _ w36 hI hF => ?_) (fun j6 hj6 hF => ?_)
            ·
             obtain ⟨rfl, h118⟩ := hI
             refine Run.ite rfl hF (fun e40 hF => ?_) (fun e40 hF => ?_)
             ·
              refine Run.seq ?_
              refine Run.reg ?_
              refine op (OpS.as rfl rfl rfl ?_)
              refine RunL.nil ?_
              refine Run.slim [(4, .bool false)] ⟨rfl, trivial⟩ ?_
              refine Run.retP rfl (.tmp rfl .nil) ?_
              cases hF
              exact Post.mk' ⟨rfl, rfl, rfl, rfl⟩ (h118.picks .nil) .nil
             ·
              refine Run.skip ?_
              have h119 := h118.front (.cons .z (.cons (.s .z) .nil))
              have h120 := St.some (H := (fun x_ => .ex fun v_ => .sep (.box 76 (Rep.iso (fun s : bus_Bus => (s.masters, ())) (Rep.prod (Rep.raw (α := List bus_master) v_) Rep.unit)) u5 x_) (.oval (oslice 85 3 (fun _ => bus_master.orep)) v_ x_.masters))) (q := u5) (x := y16.2.2) (St.ex (H := fun v_ => .sep (.box 76 (Rep.iso (fun s : bus_Bus => (s.masters, ())) (Rep.prod (Rep.raw (α := List bus_master) v_) Rep.unit)) u5 y16.2.2) (.oval (oslice 85 3 (fun _ => bus_master.orep)) v_ y16.2.2.masters)) u32 (St.sep h119))
              have h121 := h120.front (.cons (.s .z) (.cons (.s .z) .nil))
              have h122 := St.some (H := (fun x_ => .ex fun v_ => .sep (.box 79 (Rep.iso (fun s : ref21_Bus => (s.Masters, ())) (Rep.prod (Rep.raw (α := List ref21_Master) v_) Rep.unit)) u6 x_) (.oval (oslice 87 3 (fun _ => ref21_Master.orep)) v_ x_.Masters))) (q := u6) (x := y18.2.2) (St.ex (H := fun v_ => .sep (.box 79 (Rep.iso (fun s : ref21_Bus => (s.Masters, ())) (Rep.prod (Rep.raw (α := List ref21_Master) v_) Rep.unit)) u6 y18.2.2) (.oval (oslice 87 3 (fun _ => ref21_Master.orep)) v_ y18.2.2.Masters)) u38 (St.sep h121))
              refine Run.slim [(1, v1), (9, .int .i64 x1), (10, u5), (11, u6), (13, .int .i64 s3.1)] ⟨rfl, rfl, rfl, rfl, rfl, trivial⟩ ?_
              exact hj5 ((some y16.2.2), (some y18.2.2)) _ _ ⟨u5, u6, rfl, (h122.facts (.atm .z .nil)).picks (.cons (.s .z) (.cons .z .nil))⟩ hF
            ·
             refine RunL.caseb hF (fun e41 hF => ?_) (fun e41 hF => ?_)
             ·
              refine op (OpS.pass rfl rfl rfl ?_)
              refine op (OpS.pass rfl rfl rfl ?_)
              refine op (OpS.pass rfl rfl rfl ?_)
              refine op (OpS.pass rfl rfl rfl ?_)
              refine op (OpS.pick rfl rfl rfl rfl ?_)
              refine RunL.nil ?_
              refine Run.slim [(139, .bool true), (1, v1), (9, .int .i64 x1), (10, u5), (11, u6), (13, .int .i64 s3.1)] ⟨rfl, rfl, rfl, rfl, rfl, rfl, trivial⟩ ?_
              refine Run.slim [(1, v1), (9, .int .i64 x1), (10, u5), (11, u6), (13, .int .i64 s3.1), (139, .bool true)] ⟨rfl, rfl, rfl, rfl, rfl, rfl, trivial⟩ ?_
              exact hj6 (true) _ _ ⟨rfl, (h117.facts (.atm (.s (.s (.s (.s (.s (.s .z)))))) .nil)).picks (.cons (.s (.s (.s (.s .z)))) (.cons (.s .z) (.cons (.s (.s (.s .z))) (.cons (.s .z) .nil))))⟩ hF
             ·
              refine op (OpS.loadB h117 (.s (.s (.s .z))) PA.z Get.id ty46 rfl rfl rfl (fun u40 h123 => ?_))
              refine op (OpS.loadB h123 .z PA.z Get.id ty46 rfl rfl rfl (fun u41 h124 => ?_))
              obtain ⟨y19, e42, hF⟩ := bindP_use hF
              refine op (OpS.callP h124 Try.func21 rfl rfl rfl rfl (vs := [u40, u41]) rfl (ref21_Same_ok e42) (.cons (f := true) (V.at (.s .z)) (.cons (f := true) (V.at .z) .nil)) ?_)
              rintro _ w37 _ _ _ ⟨rfl, rfl, rfl, rfl⟩ h125
              have h126 := h125 rfl rfl
              simp only [List.cons_append, List.nil_append] at h126
              refine op (OpS.not rfl rfl rfl ?_)
              refine op (OpS.pick rfl rfl rfl rfl ?_)
              refine RunL.nil ?_
              refine Run.slim [(139, .bool (!y19)), (1, v1), (9, .int .i64 x1), (10, u5), (11, u6), (13, .int .i64 s3.1)] ⟨rfl, rfl, rfl, rfl, rfl, rfl, trivial⟩ ?_
              refine Run.slim [(1, v1), (9, .int .i64 x1), (10, u5), (11, u6), (13, .int .i64 s3.1), (139, .bool (!y19))] ⟨rfl, rfl, rfl, rfl, rfl, rfl, trivial⟩ ?_
              exact hj6 (!y19) _ _ ⟨rfl, (h126.facts (.atm (.s (.s (.s (.s (.s (.s (.s (.s .z)))))))) .nil)).picks (.cons (.s (.s (.s (.s .z)))) (.cons (.s .z) (.cons (.s (.s (.s .z))) (.cons (.s .z) .nil))))⟩ hF
           ·
            refine Run.seq ?_
            obtain ⟨x13, e43, hF⟩ := bindP_use hF
            obtain ⟨y20, e44, hF⟩ := bindP_use hF
            obtain ⟨x14, e45, hF⟩ := bindP_use hF
            obtain ⟨y21, e46, hF⟩ := bindP_use hF
            refine Run.drawV (Ωs := []) [⟨some 86, some (u5), fun _ => [], fun ds_ u_ => [], [], [], none⟩, ⟨some 87, some (.int .i64 s4), fun _ => [], fun ds_ u_ => [], [], [], none⟩, ⟨some 88, some ((padd u9 3)), fun _ => [], fun ds_ u_ => [], [], [(2, [])], none⟩, ⟨some 89, none, fun u_ => [(false, .val Frame_.rep u_ x2.Frame)], fun ds_ u_ => [], [], [(2, [])], none⟩, ⟨some 90, some (.int .i64 y20.1), fun _ => [], fun ds_ u_ => [(false, .opt (fun x_ => .ex fun v_ => .sep (.box 76 (Rep.iso (fun s : bus_Bus => (s.masters, ())) (Rep.prod (Rep.raw (α := List bus_master) v_) Rep.unit)) u5 x_) (.oval (oslice 85 3 (fun _ => bus_master.orep)) v_ x_.masters)) u5 (some y20.2))], [0], [], none⟩, ⟨some 91, some (u6), fun _ => [], fun ds_ u_ => [], [], [], none⟩, ⟨some 92, some (.int .i64 s4), fun _ => [], fun ds_ u_ => [], [], [], none⟩, ⟨some 93, some ((padd u9 3)), fun _ => [], fun ds_ u_ => [], [], [(2, [])], none⟩, ⟨some 94, none, fun u_ => [(false, .val Frame_.rep u_ x2.Frame)], fun ds_ u_ => [], [], [(2, [])], none⟩, ⟨some 95, some (.int .i64 y21.1), fun _ => [], fun ds_ u_ => [(false, .opt (fun x_ => .ex fun v_ => .sep (.box 79 (Rep.iso (fun s : ref21_Bus => (s.Masters, ())) (Rep.prod (Rep.raw (α := List ref21_Master) v_) Rep.unit)) u6 x_) (.oval (oslice 87 3 (fun _ => ref21_Master.orep)) v_ x_.Masters)) u6 (some y21.2))], [1], [], none⟩, ⟨some 96, some (.bool (y20.1 != y21.1)), fun _ => [], fun ds_ u_ => [], [], [], none⟩] [[], [], [], [2], [0, 1, 3], [], [], [], [7], [5, 6, 8], [4, 9]] [[(false, .opt (fun x_ => .ex fun v_ => .sep (.box 76 (Rep.iso (fun s : bus_Bus => (s.masters, ())) (Rep.prod (Rep.raw (α := List bus_master) v_) Rep.unit)) u5 x_) (.oval (oslice 85 3 (fun _ => bus_master.orep)) v_ x_.masters)) u5 s3.2.1)], [(false, .opt (fun x_ => .ex fun v_ => .sep (.box 79 (Rep.iso (fun s : ref21_Bus => (s.Masters, ())) (Rep.prod (Rep.raw (α := List ref21_Master) v_) Rep.unit)) u6 x_) (.oval (oslice 87 3 (fun _ => ref21_Master.orep)) v_ x_.Masters)) u6 s3.2.2)], [(false, .box 40 law21_Do.rep u9 x2)]] [2, 3, 4, 5, 6, 7, 8, 9, 10, 11, 12, 13] Try_mixed rfl rfl rfl h28 (.cons ?_ (.cons ?_ (.cons ?_ (.cons ?_ (.cons ?_ (.cons ?_ (.cons ?_ (.cons ?_ (.cons ?_ (.cons ?_ (.cons ?_ .nil))))))))))) (fun q2 w hq2 h => ?_)
            ·intro q2 w Γx Ωx h
             refine OpS.mv rfl rfl rfl ?_
             exact ⟨undef, rfl, trivial, h⟩
            ·intro q2 w Γx Ωx h
             refine OpS.mv rfl rfl rfl ?_
             exact ⟨undef, rfl, trivial, h⟩
            ·intro q2 w Γx Ωx h
             have h : St e w ([(false, .val (Rep.slice law21_Do.rep) v1 a1)] ++ Γx) ([(false, .box 40 law21_Do.rep u9 x2)] ++ Ωx) := h
             refine OpS.fbox (o3 := 3) h .z PA.z fa40_3 rfl rfl rfl rfl ?_
             exact ⟨undef, rfl, trivial, h⟩
            ·intro q2 w Γx Ωx h
             have h : St e w ([(false, .val (Rep.slice law21_Do.rep) v1 a1)] ++ Γx) ([(false, .box 40 law21_Do.rep u9 x2)] ++ Ωx) := h
             refine OpS.loadB h .z PA.a (Get.fld law21_Do.f3) ty36 rfl rfl rfl (fun u h145 => ?_)
             exact ⟨u, rfl, trivial, h145⟩
            ·intro q2 w Γx Ωx h
             have h : St e w ([(false, .val Frame_.rep (q2 3) x2.Frame), (false, .val (Rep.slice law21_Do.rep) v1 a1)] ++ Γx) ([(false, .opt (fun x_ => .ex fun v_ => .sep (.box 76 (Rep.iso (fun s : bus_Bus => (s.masters, ())) (Rep.prod (Rep.raw (α := List bus_master) v_) Rep.unit)) u5 x_) (.oval (oslice 85 3 (fun _ => bus_master.orep)) v_ x_.masters)) u5 s3.2.1)] ++ Ωx) := h
             have h146 := St.unopt (h.pick .z) e43
             obtain ⟨u46, h147⟩ := h146.unex
             have h148 := h147.unsep
             have h149 := h148.front (.cons .z (.cons .z .nil))
             refine OpS.callO h149 Try.func16 rfl rfl rfl rfl (vs := [u5, .int .i64 s4, (q2 3)]) rfl (bus_Bus_Submit_ok e44) rfl (.cons (f := false) (V.at .z) .nil) ?_
             rintro _ w40 _ _ _ ⟨u47, rfl, rfl, rfl, rfl⟩ h150
             have h151 := h150
             simp only [List.cons_append, List.nil_append] at h151
             have h152 := h151.front (.cons .z (.cons .z .nil))
             have h153 := St.some (H := (fun x_ => .ex fun v_ => .sep (.box 76 (Rep.iso (fun s : bus_Bus => (s.masters, ())) (Rep.prod (Rep.raw (α := List bus_master) v_) Rep.unit)) u5 x_) (.oval (oslice 85 3 (fun _ => bus_master.orep)) v_ x_.masters))) (q := u5) (x := y20.2) (St.ex (H := fun v_ => .sep (.box 76 (Rep.iso (fun s : bus_Bus => (s.masters, ())) (Rep.prod (Rep.raw (α := List bus_master) v_) Rep.unit)) u5 y20.2) (.oval (oslice 85 3 (fun _ => bus_master.orep)) v_ y20.2.masters)) u47 (St.sep h152))
             exact ⟨undef, rfl, trivial, h153⟩
            ·intro q2 w Γx Ωx h
             refine OpS.mv rfl rfl rfl ?_
             exact ⟨undef, rfl, trivial, h⟩
            ·intro q2 w Γx Ωx h
             refine OpS.mv rfl rfl rfl ?_
             exact ⟨undef, rfl, trivial, h⟩
            ·intro q2 w Γx Ωx h
             have h : St e w ([(false, .val (Rep.slice law21_Do.rep) v1 a1)] ++ Γx) ([(false, .box 40 law21_Do.rep u9 x2)] ++ Ωx) := h
             refine OpS.fbox (o3 := 3) h .z PA.z fa40_3 rfl rfl rfl rfl ?_
             exact ⟨undef, rfl, trivial, h⟩
            ·intro q2 w Γx Ωx h
             have h : St e w ([(false, .val (Rep.slice law21_Do.rep) v1 a1)] ++ Γx) ([(false, .box 40 law21_Do.rep u9 x2)] ++ Ωx) := h
             refine OpS.loadB h .z PA.a (Get.fld law21_Do.f3) ty36 rfl rfl rfl (fun u h154 => ?_)
             exact ⟨u, rfl, trivial, h154⟩
            ·intro q2 w Γx Ωx h
             have h : St e w ([(false, .val Frame_.rep (q2 8) x2.Frame), (false, .val (Rep.slice law21_Do.rep) v1 a1)] ++ Γx) ([(false, .opt (fun x_ => .ex fun v_ => .sep (.box 79 (Rep.iso (fun s : ref21_Bus => (s.Masters, ())) (Rep.prod (Rep.raw (α := List ref21_Master) v_) Rep.unit)) u6 x_) (.oval (oslice 87 3 (fun _ => ref21_Master.orep)) v_ x_.Masters)) u6 s3.2.2)] ++ Ωx) := h
             have h155 := St.unopt (h.pick .z) e45
             obtain ⟨u48, h156⟩ := h155.unex
             have h157 := h156.unsep
             have h158 := h157.front (.cons .z (.cons .z .nil))
             refine OpS.callO h158 Try.func17 rfl rfl rfl rfl (vs := [u6, .int .i64 s4, (q2 8)]) rfl (ref21_Bus_Submit_ok e46) rfl (.cons (f := false) (V.at .z) .nil) ?_
             rintro _ w41 _ _ _ ⟨u49, rfl, rfl, rfl, rfl⟩ h159
             have h160 := h159
             simp only [List.cons_append, List.nil_append] at h160
             have h161 := h160.front (.cons .z (.cons .z .nil))
             have h162 := St.some (H := (fun x_ => .ex fun v_ => .sep (.box 79 (Rep.iso (fun s : ref21_Bus => (s.Masters, ())) (Rep.prod (Rep.raw (α := List ref21_Master) v_) Rep.unit)) u6 x_) (.oval (oslice 87 3 (fun _ => ref21_Master.orep)) v_ x_.Masters))) (q := u6) (x := y21.2) (St.ex (H := fun v_ => .sep (.box 79 (Rep.iso (fun s : ref21_Bus => (s.Masters, ())) (Rep.prod (Rep.raw (α := List ref21_Master) v_) Rep.unit)) u6 y21.2) (.oval (oslice 87 3 (fun _ => ref21_Master.orep)) v_ y21.2.Masters)) u49 (St.sep h161))
             exact ⟨undef, rfl, trivial, h162⟩
            ·intro q2 w Γx Ωx h
             refine OpS.bin rfl rfl rfl rfl rfl ?_
             exact ⟨undef, rfl, trivial, h⟩
            have h163 : St e w [(false, .val Frame_.rep (q2 3) x2.Frame), (false, .val Frame_.rep (q2 8) x2.Frame), (false, .val (Rep.slice law21_Do.rep) v1 a1)] [(false, .box 40 law21_Do.rep u9 x2), (false, .opt (fun x_ => .ex fun v_ => .sep (.box 76 (Rep.iso (fun s : bus_Bus => (s.masters, ())) (Rep.prod (Rep.raw (α := List bus_master) v_) Rep.unit)) u5 x_) (.oval (oslice 85 3 (fun _ => bus_master.orep)) v_ x_.masters)) u5 (some y20.2)), (false, .opt (fun x_ => .ex fun v_ => .sep (.box 79 (Rep.iso (fun s : ref21_Bus => (s.Masters, ())) (Rep.prod (Rep.raw (α := List ref21_Master) v_) Rep.unit)) u6 x_) (.oval (oslice 87 3 (fun _ => ref21_Master.orep)) v_ x_.Masters)) u6 (some y21.2))] := h
            refine RunL.nil ?_
            refine Run.slim [(96, .bool (y20.1 != y21.1)), (1, v1), (9, .int .i64 x1), (10, u5), (11, u6), (13, .int .i64 s3.1)] ⟨rfl, rfl, rfl, rfl, rfl, rfl, trivial⟩ ?_
            refine Run.ite rfl hF (fun e47 hF => ?_) (fun e47 hF => ?_)
            ·
             refine Run.seq ?_
             refine Run.reg ?_
             refine op (OpS.as rfl rfl rfl ?_)
             refine RunL.nil ?_
             refine Run.slim [(4, .bool false)] ⟨rfl, trivial⟩ ?_
             refine Run.retP rfl (.tmp rfl .nil) ?_
             cases hF
             exact Post.mk' ⟨rfl, rfl, rfl, rfl⟩ (h163.picks .nil) .nil
            ·
             refine Run.skip ?_
             refine Run.slim [(1, v1), (9, .int .i64 x1), (10, u5), (11, u6), (13, .int .i64 s3.1)] ⟨rfl, rfl, rfl, rfl, rfl, trivial⟩ ?_
             exact hj5 ((some y20.2), (some y21.2)) _ _ ⟨u5, u6, rfl, (h163.facts (.atm (.s (.s .z)) .nil)).picks (.cons (.s .z) (.cons (.s .z) .nil))⟩ hF
        ·
         refine Run.ite rfl hF (fun e48 hF => ?_) (fun e48 hF => ?_)
         ·
          refine Run.skip ?_
          refine Run.slim [(1, v1), (9, .int .i64 x1), (10, u5), (11, u6), (13, .int .i64 s3.1), (14, u9), (15, .int .i64 s4), (85, .int .i64 y8), (97, .bool x3)] ⟨rfl, rfl, rfl, rfl, rfl, rfl, rfl, rfl, rfl, trivial⟩ ?_
          exact hj4 (x3) _ _ ⟨rfl, (h27.facts (.atm .z .nil)).picks (.cons .z (.cons .z (.cons .z .nil)))⟩ hF
         ·
          refine Run.reg ?_
          refine op (OpS.bin rfl rfl rfl rfl rfl ?_)
          refine op (OpS.as rfl rfl rfl ?_)
          obtain ⟨x15, e49, hF⟩ := letP_use hF
          refine RunL.nameb e49 ?_
          refine RunL.nil ?_
          refine Run.slim [(97, .bool x15), (85, .int .i64 y8), (1, v1), (9, .int .i64 x1), (10, u5), (11, u6), (13, .int .i64 s3.1), (14, u9), (15, .int .i64 s4)] ⟨rfl, rfl, rfl, rfl, rfl, rfl, rfl, rfl, rfl, trivial⟩ ?_
          refine Run.slim [(1, v1), (9, .int .i64 x1), (10, u5), (11, u6), (13, .int .i64 s3.1), (14, u9), (15, .int .i64 s4), (85, .int .i64 y8), (97, .bool x15)] ⟨rfl, rfl, rfl, rfl, rfl, rfl, rfl, rfl, rfl, trivial⟩ ?_
          exact hj4 (x15) _ _ ⟨rfl, (h27.facts (.atm .z .nil)).picks (.cons .z (.cons .z (.cons .z .nil)))⟩ hF
       ·
        refine Run.ite rfl hF (fun e50 hF => ?_) (fun e50 hF => ?_)
        ·
         refine Run.reg ?_
         refine op (OpS.mv rfl rfl rfl ?_)
         refine op (OpS.mv rfl rfl rfl ?_)
         obtain ⟨y22, e51, hF⟩ := bindP_use hF
         refine op (OpS.callP h24 Try.func13 rfl rfl rfl rfl (vs := [.int .i64 x2.Master, .int .i64 x1]) rfl (made_Mod_ok e51) .nil ?_)
         rintro _ w42 _ _ _ ⟨rfl, rfl, rfl, rfl⟩ h164
         have h165 := h164 rfl rfl
         simp only [List.cons_append, List.nil_append] at h165
         refine op (OpS.as rfl rfl rfl ?_)
         refine RunL.nil ?_
         refine Run.slim [(15, .int .i64 y22), (14, u9), (1, v1), (9, .int .i64 x1), (10, u5), (11, u6), (13, .int .i64 s3.1)] ⟨rfl, rfl, rfl, rfl, rfl, rfl, rfl, trivial⟩ ?_
         refine Run.slim [(1, v1), (9, .int .i64 x1), (10, u5), (11, u6), (13, .int .i64 s3.1), (14, u9), (15, .int .i64 y22)] ⟨rfl, rfl, rfl, rfl, rfl, rfl, rfl, trivial⟩ ?_
         exact hj3 (y22) _ _ ⟨rfl, (h165.facts (.atm (.s (.s .z)) .nil)).picks (.cons (.s .z) (.cons (.s .z) (.cons .z .nil)))⟩ hF
        ·
         refine Run.skip ?_
         refine Run.slim [(1, v1), (9, .int .i64 x1), (10, u5), (11, u6), (13, .int .i64 s3.1), (14, u9), (15, .int .i64 x2.Master)] ⟨rfl, rfl, rfl, rfl, rfl, rfl, rfl, trivial⟩ ?_
         exact hj3 (x2.Master) _ _ ⟨rfl, (h24.facts (.atm (.s (.s .z)) .nil)).picks (.cons (.s .z) (.cons (.s .z) (.cons .z .nil)))⟩ hF
      ·
       refine Run.exit rfl ?_
       refine Run.seq ?_
       refine Run.reg ?_
       obtain ⟨y23, e52, hF⟩ := bindP_use hF
       refine op (OpS.callP h19 Try.func10 rfl rfl rfl rfl (vs := []) rfl (law21_awake_ok e52) .nil ?_)
       rintro _ w43 _ _ _ ⟨rfl, rfl, rfl, rfl⟩ h166
       have h167 := h166 rfl rfl
       simp only [List.cons_append, List.nil_append] at h167
       refine op (OpS.as rfl rfl rfl ?_)
       refine RunL.nil ?_
       refine Run.slim [(4, .bool y23)] ⟨rfl, trivial⟩ ?_
       refine Run.retP rfl (.tmp rfl .nil) ?_
       cases hF
       exact Post.mk' ⟨rfl, rfl, rfl, rfl⟩ (h167.picks .nil) .nil
    ·
     refine RunL.caseb hF (fun e53 hF => ?_) (fun e53 hF => ?_)
     ·
      refine op (OpS.pass rfl rfl rfl ?_)
      refine op (OpS.pass rfl rfl rfl ?_)
      refine op (OpS.pick rfl rfl rfl rfl ?_)
      refine RunL.nil ?_
      refine Run.slim [(64, .bool true), (11, u4), (10, u3), (9, .int .i64 x1), (1, v1)] ⟨rfl, rfl, rfl, rfl, rfl, trivial⟩ ?_
      refine Run.slim [(1, v1), (9, .int .i64 x1), (10, u3), (11, u4), (64, .bool true)] ⟨rfl, rfl, rfl, rfl, rfl, trivial⟩ ?_
      exact hj2 (true) _ _ ⟨rfl, (h15.facts (.atm .z .nil)).picks (.cons (.s .z) (.cons .z .nil))⟩ hF
     ·
      refine op (OpS.mv rfl rfl rfl ?_)
      refine op (OpS.bin rfl rfl rfl rfl rfl ?_)
      refine op (OpS.pick rfl rfl rfl rfl ?_)
      refine RunL.nil ?_
      refine Run.slim [(64, .bool (y6.2 != 0)), (11, u4), (10, u3), (9, .int .i64 x1), (1, v1)] ⟨rfl, rfl, rfl, rfl, rfl, trivial⟩ ?_
      refine Run.slim [(1, v1), (9, .int .i64 x1), (10, u3), (11, u4), (64, .bool (y6.2 != 0))] ⟨rfl, rfl, rfl, rfl, rfl, trivial⟩ ?_
      exact hj2 (y6.2 != 0) _ _ ⟨rfl, (h15.facts (.atm .z .nil)).picks (.cons (.s .z) (.cons .z .nil))⟩ hF
  ·
   refine RunL.caseb hF (fun e54 hF => ?_) (fun e54 hF => ?_)
   ·
    refine op (OpS.pass rfl rfl rfl ?_)
    refine op (OpS.pass rfl rfl rfl ?_)
    refine op (OpS.pass rfl rfl rfl ?_)
    refine op (OpS.pass rfl rfl rfl ?_)
    refine op (OpS.pass rfl rfl rfl ?_)
    refine op (OpS.pick rfl rfl rfl rfl ?_)
    refine RunL.nil ?_
    refine Run.slim [(45, .bool true), (0, .int .i64 a0), (1, v1)] ⟨rfl, rfl, rfl, trivial⟩ ?_
    refine Run.slim [(0, .int .i64 a0), (1, v1), (45, .bool true)] ⟨rfl, rfl, rfl, trivial⟩ ?_
    exact hj1 (true) _ _ ⟨rfl, (h8.facts (.atm .z .nil)).picks .nil⟩ hF
   ·
    refine op (OpS.mv rfl rfl rfl ?_)
    refine op (OpS.onilN h8 (.s .z) (fun _ G_ S_ w_ h_ => ptr_one1 G_ S_ w_ h_) Try.underlying25 rfl rfl rfl rfl ?_)
    refine op (OpS.mv rfl rfl rfl ?_)
    refine op (OpS.bin rfl rfl rfl rfl rfl ?_)
    refine op (OpS.neb Try.underlying4 rfl rfl rfl rfl ?_)
    refine op (OpS.pick rfl rfl rfl rfl ?_)
    refine RunL.nil ?_
    refine Run.slim [(45, .bool ((!y3.1.isNone) != (y4.2 == 0))), (0, .int .i64 a0), (1, v1)] ⟨rfl, rfl, rfl, trivial⟩ ?_
    refine Run.slim [(0, .int .i64 a0), (1, v1), (45, .bool ((!y3.1.isNone) != (y4.2 == 0)))] ⟨rfl, rfl, rfl, trivial⟩ ?_
    exact hj1 ((!y3.1.isNone) != (y4.2 == 0)) _ _ ⟨rfl, (h8.facts (.atm .z .nil)).picks .nil⟩ hF
end Lift
