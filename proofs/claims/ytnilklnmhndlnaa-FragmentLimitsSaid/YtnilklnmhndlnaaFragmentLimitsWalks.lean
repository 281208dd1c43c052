/- Each Go function computes its plain function. Written by lift.py. -/
import Derived.Test.YtnilklnmhndlnaaFragmentLimitsWalksA
set_option linter.unusedVariables false
set_option linter.unusedSimpArgs false
namespace Lift
open Go Go.Proofs
open RunL (op)
set_option maxHeartbeats 8000000 in
theorem law22_awake_ok {fuel : Nat}  {y : Bool} (hF : law22_awake fuel  = some y) {w : World} :
  Spec Try.prog 11 [].toArray w [] [] (fun v Γr Ωr Ωo => v = .bool y ∧ Γr = [] ∧ Ωr = [] ∧ Ωo = []) := by
 refine Spec.of (L := []) Try.func11 rfl trivial rfl (fun e h => ?_)
 unfold law22_awake at hF
 refine Run.seq ?_
 refine Run.reg ?_
 refine op (OpS.as rfl rfl rfl ?_)
 refine RunL.nil ?_
 refine Run.slim [] trivial ?_
 refine Run.seq ?_
 refine Run.reg ?_
 refine op (OpS.lit (r := (Rep.int .u8)) (f := true) h Try.underlying22 ti5 rfl rfl rfl rfl rfl (.cons rfl V.int (.cons rfl V.int (.cons rfl V.int (.cons rfl V.int (.cons rfl V.int .nil))))) rfl rfl (fun u1 w1 h1 => ?_))
 obtain ⟨y1, e1, hF⟩ := bindP_use hF
 have h2 := h1.front .nil
 refine op (OpS.callO h2 Try.func13 rfl rfl rfl rfl (vs := [.int .u8 9, .int .u8 10, .bool true, .int .i64 1, .int .i64 2, u1]) rfl (fragment_Split_ok e1) rfl (.cons (f := true) (V.at .z) .nil) ?_)
 rintro _ w2 _ _ _ ⟨u2, rfl, rfl, rfl, rfl⟩ h3
 have h4 := h3
 simp only [List.cons_append, List.nil_append] at h4
 refine op (OpS.mv rfl rfl rfl ?_)
 refine op (OpS.ext rfl rfl rfl rfl ?_)
 refine op (OpS.ext rfl rfl rfl rfl ?_)
 refine op (OpS.as rfl rfl rfl ?_)
 have h5 := (h4.pick .z).freeze
 refine op (OpS.as rfl rfl rfl ?_)
 refine RunL.nil ?_
 refine Run.slim [(2, .int .i64 y1.2), (1, u2)] ⟨rfl, rfl, trivial⟩ ?_
 refine Run.seq ?_
 refine Run.reg ?_
 obtain ⟨y2, e2, hF⟩ := bindP_use hF
 refine op (OpS.callP h5 Try.func17 rfl rfl rfl rfl (vs := [.int .u8 9]) rfl (fragment_New_ok e2) .nil ?_)
 rintro _ w3 _ _ _ ⟨u3, rfl, rfl, rfl, rfl⟩ h6
 have h7 := h6 rfl rfl
 simp only [List.cons_append, List.nil_append] at h7
 refine op (OpS.mv rfl rfl rfl ?_)
 refine op (OpS.ext rfl rfl rfl rfl ?_)
 refine op (OpS.ext rfl rfl rfl rfl ?_)
 refine op (OpS.as rfl rfl rfl ?_)
 refine op (OpS.as rfl rfl rfl ?_)
 refine RunL.nil ?_
 refine Run.slim [(4, .int .i64 y2.2), (3, u3), (2, .int .i64 y1.2), (1, u2)] ⟨rfl, rfl, rfl, rfl, trivial⟩ ?_
 refine Run.seq ?_
 refine Run.seq ?_
 refine Run.reg ?_
 refine op (OpS.mv rfl rfl rfl ?_)
 refine op (OpS.bin rfl rfl rfl rfl rfl ?_)
 refine op (OpS.mv rfl rfl rfl ?_)
 refine RunL.join (σ := Bool) (fun s_ L_ w_ => L_ = [(1, u2), (3, u3), (49, .bool s_)] ∧ St e w_ [(false, .val (Rep.slice Packet_.rep) u2 y1.1)] [(true, .opt (fun x_ => .ex fun v_ => .sep (.box 83 (Rep.iso (fun s : fragment_Assembler => (s.own, s.open_, ())) (Rep.prod (Rep.int .u8) (Rep.prod (Rep.raw (α := List fragment_open) v_) Rep.unit))) u3 x_) (.oval (oslice 92 6 (fun _ => fragment_open.orep)) v_ x_.open_)) u3 y2.1)]) hF (fun s1 _ w4 hI hF => ?_) (fun j1 hj1 hF => ?_)
 ·
  obtain ⟨rfl, h8⟩ := hI
  refine Run.ite rfl hF (fun e3 hF => ?_) (fun e3 hF => ?_)
  ·
   refine Run.seq ?_
   refine Run.reg ?_
   refine op (OpS.as rfl rfl rfl ?_)
   refine RunL.nil ?_
   refine Run.slim [(0, .bool false)] ⟨rfl, trivial⟩ ?_
   refine Run.retP rfl (.tmp rfl .nil) ?_
   cases hF
   exact Post.mk' ⟨rfl, rfl, rfl, rfl⟩ (h8.picks .nil) .nil
  ·
   refine Run.skip ?_
   refine Run.seq ?_
   refine Run.reg ?_
   refine op (OpS.mv rfl rfl rfl ?_)
   refine op (OpS.mv rfl rfl rfl ?_)
   obtain ⟨x1, e4, hF⟩ := bindP_use hF
   refine op (OpS.iptr h8 Try.underlying27 ty44 rfl rfl rfl rfl (V.at .z) e4 (fun u4 h9 => ?_))
   refine op (OpS.load h9 ty44 rfl rfl rfl .z (fun u5 h10 => ?_))
   obtain ⟨x2, e5, hF⟩ := bindP_use hF
   have h11 := St.unopt (h10.pick .z) e5
   obtain ⟨u6, h12⟩ := h11.unex
   have h13 := h12.unsep
   obtain ⟨y3, e6, hF⟩ := bindP_use hF
   have h14 := (h13.pick .z).weak
   have h15 := (h14.pick (.s .z)).weak
   have h16 := h15.front (.cons (.s .z) (.cons .z .nil))
   refine op (OpS.callO h16 Try.func24 rfl rfl rfl rfl (vs := [u3, u5]) rfl (fragment_Assembler_Accept_ok e6) rfl (.cons (f := false) (V.at .z) .nil) ?_)
   rintro _ w5 _ _ _ ⟨u7, u8, rfl, rfl, rfl, rfl⟩ h17
   have h18 := h17
   simp only [List.cons_append, List.nil_append] at h18
   refine op (OpS.mv rfl rfl rfl ?_)
   refine op (OpS.ext rfl rfl rfl rfl ?_)
   refine op (OpS.ext rfl rfl rfl rfl ?_)
   refine op (OpS.ext rfl rfl rfl rfl ?_)
   refine op (OpS.alloc h18 ti51 Whole_.zr rfl rfl (fun u9 w6 h19 => ?_))
   have h20 := (h19.pick .z).weak
   refine op (OpS.storeB (f' := false) h20 .z PA.z Put.id ty51 rfl rfl rfl (V.at .z) (.inr rfl) (fun w7 h21 => ?_))
   refine op (OpS.as rfl rfl rfl ?_)
   refine op (OpS.as rfl rfl rfl ?_)
   refine RunL.nil ?_
   refine Run.slim [(7, .int .i64 y3.2.2.1), (6, .bool y3.2.1), (1, u2), (3, u3)] ⟨rfl, rfl, rfl, rfl, trivial⟩ ?_
   refine Run.seq ?_
   refine Run.reg ?_
   refine op (OpS.mv rfl rfl rfl ?_)
   refine op (OpS.mv rfl rfl rfl ?_)
   obtain ⟨x3, e7, hF⟩ := bindP_use hF
   refine op (OpS.iptr h21 Try.underlying27 ty44 rfl rfl rfl rfl (V.at (.s (.s (.s .z)))) e7 (fun u10 h22 => ?_))
   refine op (OpS.load h22 ty44 rfl rfl rfl .z (fun u11 h23 => ?_))
   obtain ⟨y4, e8, hF⟩ := bindP_use hF
   have h24 := h23.front (.cons (.s .z) (.cons (.s .z) .nil))
   refine op (OpS.callO h24 Try.func24 rfl rfl rfl rfl (vs := [u3, u11]) rfl (fragment_Assembler_Accept_ok e8) rfl (.cons (f := false) (V.at .z) .nil) ?_)
   rintro _ w8 _ _ _ ⟨u12, u13, rfl, rfl, rfl, rfl⟩ h25
   have h26 := h25
   simp only [List.cons_append, List.nil_append] at h26
   refine op (OpS.mv rfl rfl rfl ?_)
   refine op (OpS.ext rfl rfl rfl rfl ?_)
   refine op (OpS.ext rfl rfl rfl rfl ?_)
   refine op (OpS.ext rfl rfl rfl rfl ?_)
   refine op (OpS.alloc h26 ti51 Whole_.zr rfl rfl (fun u14 w9 h27 => ?_))
   have h28 := (h27.pick .z).weak
   refine op (OpS.storeB (f' := false) h28 .z PA.z Put.id ty51 rfl rfl rfl (V.at .z) (.inr rfl) (fun w10 h29 => ?_))
   refine op (OpS.as rfl rfl rfl ?_)
   refine op (OpS.as rfl rfl rfl ?_)
   refine RunL.nil ?_
   refine Run.slim [(10, .int .i64 y4.2.2.1), (9, .bool y4.2.1), (7, .int .i64 y3.2.2.1), (6, .bool y3.2.1), (3, u3)] ⟨rfl, rfl, rfl, rfl, rfl, trivial⟩ ?_
   refine Run.seq ?_
   refine Run.reg ?_
   refine op (OpS.mv rfl rfl rfl ?_)
   refine op (OpS.bin rfl rfl rfl rfl rfl ?_)
   refine op (OpS.mv rfl rfl rfl ?_)
   refine RunL.caseb hF (fun e9 hF => ?_) (fun e9 hF => ?_)
   ·
    refine op (OpS.mv rfl rfl rfl ?_)
    refine op (OpS.not rfl rfl rfl ?_)
    refine op (OpS.pick rfl rfl rfl rfl ?_)
    refine op (OpS.mv rfl rfl rfl ?_)
    refine RunL.caseb hF (fun e10 hF => ?_) (fun e10 hF => ?_)
    ·
     refine op (OpS.mv rfl rfl rfl ?_)
     refine op (OpS.bin rfl rfl rfl rfl rfl ?_)
     refine op (OpS.pick rfl rfl rfl rfl ?_)
     refine op (OpS.mv rfl rfl rfl ?_)
     refine RunL.caseb hF (fun e11 hF => ?_) (fun e11 hF => ?_)
     ·
      refine op (OpS.mv rfl rfl rfl ?_)
      refine op (OpS.not rfl rfl rfl ?_)
      refine op (OpS.pick rfl rfl rfl rfl ?_)
      refine op (OpS.mv rfl rfl rfl ?_)
      refine RunL.caseb hF (fun e12 hF => ?_) (fun e12 hF => ?_)
      ·
       refine op (OpS.mv rfl rfl rfl ?_)
       obtain ⟨y5, e13, hF⟩ := bindP_use hF
       have h30 := h29.front (.cons (.s .z) (.cons (.s .z) .nil))
       refine op (OpS.callO h30 Try.func27 rfl rfl rfl rfl (vs := [u3]) rfl (fragment_Assembler_Open_ok e13) rfl .nil ?_)
       rintro _ w11 _ _ _ ⟨rfl, rfl, rfl, rfl⟩ h31
       have h32 := h31
       simp only [List.cons_append, List.nil_append] at h32
       refine op (OpS.bin rfl rfl rfl rfl rfl ?_)
       refine op (OpS.pick rfl rfl rfl rfl ?_)
       refine op (OpS.as rfl rfl rfl ?_)
       obtain ⟨x4, e14, hF⟩ := letP_use hF
       refine RunL.nameb e14 ?_
       refine RunL.nil ?_
       refine Run.slim [(0, .bool x4)] ⟨rfl, trivial⟩ ?_
       refine Run.retP rfl (.tmp rfl .nil) ?_
       cases hF
       exact Post.mk' ⟨rfl, rfl, rfl, rfl⟩ (h32.picks .nil) .nil
      ·
       refine op (OpS.pass rfl rfl rfl ?_)
       refine op (OpS.pass rfl rfl rfl ?_)
       refine op (OpS.pass rfl rfl rfl ?_)
       refine op (OpS.pick rfl rfl rfl rfl ?_)
       refine op (OpS.as rfl rfl rfl ?_)
       refine RunL.nil ?_
       refine Run.slim [(0, .bool false)] ⟨rfl, trivial⟩ ?_
       refine Run.retP rfl (.tmp rfl .nil) ?_
       cases hF
       exact Post.mk' ⟨rfl, rfl, rfl, rfl⟩ (h29.picks .nil) .nil
     ·
      refine op (OpS.pass rfl rfl rfl ?_)
      refine op (OpS.pass rfl rfl rfl ?_)
      refine op (OpS.pick rfl rfl rfl rfl ?_)
      refine op (OpS.mv rfl rfl rfl ?_)
      refine op (OpS.pass rfl rfl rfl ?_)
      refine op (OpS.pass rfl rfl rfl ?_)
      refine op (OpS.pass rfl rfl rfl ?_)
      refine op (OpS.pick rfl rfl rfl rfl ?_)
      refine op (OpS.as rfl rfl rfl ?_)
      refine RunL.nil ?_
      refine Run.slim [(0, .bool false)] ⟨rfl, trivial⟩ ?_
      refine Run.retP rfl (.tmp rfl .nil) ?_
      cases hF
      exact Post.mk' ⟨rfl, rfl, rfl, rfl⟩ (h29.picks .nil) .nil
    ·
     refine op (OpS.pass rfl rfl rfl ?_)
     refine op (OpS.pass rfl rfl rfl ?_)
     refine op (OpS.pick rfl rfl rfl rfl ?_)
     refine op (OpS.mv rfl rfl rfl ?_)
     refine op (OpS.pass rfl rfl rfl ?_)
     refine op (OpS.pass rfl rfl rfl ?_)
     refine op (OpS.pick rfl rfl rfl rfl ?_)
     refine op (OpS.mv rfl rfl rfl ?_)
     refine op (OpS.pass rfl rfl rfl ?_)
     refine op (OpS.pass rfl rfl rfl ?_)
     refine op (OpS.pass rfl rfl rfl ?_)
     refine op (OpS.pick rfl rfl rfl rfl ?_)
     refine op (OpS.as rfl rfl rfl ?_)
     refine RunL.nil ?_
     refine Run.slim [(0, .bool false)] ⟨rfl, trivial⟩ ?_
     refine Run.retP rfl (.tmp rfl .nil) ?_
     cases hF
     exact Post.mk' ⟨rfl, rfl, rfl, rfl⟩ (h29.picks .nil) .nil
   ·
    refine op (OpS.pass rfl rfl rfl ?_)
    refine op (OpS.pass rfl rfl rfl ?_)
    refine op (OpS.pick rfl rfl rfl rfl ?_)
    refine op (OpS.mv rfl rfl rfl ?_)
    refine op (OpS.pass rfl rfl rfl ?_)
    refine op (OpS.pass rfl rfl rfl ?_)
    refine op (OpS.pick rfl rfl rfl rfl ?_)
    refine op (OpS.mv rfl rfl rfl ?_)
    refine op (OpS.pass rfl rfl rfl ?_)
    refine op (OpS.pass rfl rfl rfl ?_)
    refine op (OpS.pick rfl rfl rfl rfl ?_)
    refine op (OpS.mv rfl rfl rfl ?_)
    refine op (OpS.pass rfl rfl rfl ?_)
    refine op (OpS.pass rfl rfl rfl ?_)
    refine op (OpS.pass rfl rfl rfl ?_)
    refine op (OpS.pick rfl rfl rfl rfl ?_)
    refine op (OpS.as rfl rfl rfl ?_)
    refine RunL.nil ?_
    refine Run.slim [(0, .bool false)] ⟨rfl, trivial⟩ ?_
    refine Run.retP rfl (.tmp rfl .nil) ?_
    cases hF
    exact Post.mk' ⟨rfl, rfl, rfl, rfl⟩ (h29.picks .nil) .nil
 ·
  refine RunL.caseb hF (fun e15 hF => ?_) (fun e15 hF => ?_)
  ·
   refine op (OpS.pass rfl rfl rfl ?_)
   refine op (OpS.pass rfl rfl rfl ?_)
   refine op (OpS.pick rfl rfl rfl rfl ?_)
   refine op (OpS.mv rfl rfl rfl ?_)
   refine op (OpS.pass rfl rfl rfl ?_)
   refine op (OpS.pass rfl rfl rfl ?_)
   refine op (OpS.pick rfl rfl rfl rfl ?_)
   refine op (OpS.mv rfl rfl rfl ?_)
   refine op (OpS.pass rfl rfl rfl ?_)
   refine op (OpS.pass rfl rfl rfl ?_)
   refine op (OpS.pass rfl rfl rfl ?_)
   refine op (OpS.pick rfl rfl rfl rfl ?_)
   refine op (OpS.mv rfl rfl rfl ?_)
   refine op (OpS.pass rfl rfl rfl ?_)
   refine op (OpS.pass rfl rfl rfl ?_)
   refine op (OpS.pass rfl rfl rfl ?_)
   refine op (OpS.pass rfl rfl rfl ?_)
   refine op (OpS.pass rfl rfl rfl ?_)
   refine op (OpS.pass rfl rfl rfl ?_)
   refine op (OpS.pick rfl rfl rfl rfl ?_)
   refine op (OpS.mv rfl rfl rfl ?_)
   refine op (OpS.pass rfl rfl rfl ?_)
   refine op (OpS.pass rfl rfl rfl ?_)
   refine op (OpS.pass rfl rfl rfl ?_)
   refine op (OpS.pass rfl rfl rfl ?_)
   refine op (OpS.pass rfl rfl rfl ?_)
   refine op (OpS.pick rfl rfl rfl rfl ?_)
   refine RunL.nil ?_
   refine Run.slim [(49, .bool true), (3, u3), (1, u2)] ⟨rfl, rfl, rfl, trivial⟩ ?_
   refine Run.slim [(1, u2), (3, u3), (49, .bool true)] ⟨rfl, rfl, rfl, trivial⟩ ?_
   exact hj1 (true) _ _ ⟨rfl, (h7.facts (.atm .z .nil)).picks (.cons .z .nil)⟩ hF
  ·
   refine op (OpS.mv rfl rfl rfl ?_)
   refine op (OpS.bin rfl rfl rfl rfl rfl ?_)
   refine op (OpS.pick rfl rfl rfl rfl ?_)
   refine op (OpS.mv rfl rfl rfl ?_)
   refine RunL.caseb hF (fun e16 hF => ?_) (fun e16 hF => ?_)
   ·
    refine op (OpS.pass rfl rfl rfl ?_)
    refine op (OpS.pass rfl rfl rfl ?_)
    refine op (OpS.pick rfl rfl rfl rfl ?_)
    refine op (OpS.mv rfl rfl rfl ?_)
    refine op (OpS.pass rfl rfl rfl ?_)
    refine op (OpS.pass rfl rfl rfl ?_)
    refine op (OpS.pass rfl rfl rfl ?_)
    refine op (OpS.pick rfl rfl rfl rfl ?_)
    refine op (OpS.mv rfl rfl rfl ?_)
    refine op (OpS.pass rfl rfl rfl ?_)
    refine op (OpS.pass rfl rfl rfl ?_)
    refine op (OpS.pass rfl rfl rfl ?_)
    refine op (OpS.pass rfl rfl rfl ?_)
    refine op (OpS.pass rfl rfl rfl ?_)
    refine op (OpS.pass rfl rfl rfl ?_)
    refine op (OpS.pick rfl rfl rfl rfl ?_)
    refine op (OpS.mv rfl rfl rfl ?_)
    refine op (OpS.pass rfl rfl rfl ?_)
    refine op (OpS.pass rfl rfl rfl ?_)
    refine op (OpS.pass rfl rfl rfl ?_)
    refine op (OpS.pass rfl rfl rfl ?_)
    refine op (OpS.pass rfl rfl rfl ?_)
    refine op (OpS.pick rfl rfl rfl rfl ?_)
    refine RunL.nil ?_
    refine Run.slim [(49, .bool true), (3, u3), (1, u2)] ⟨rfl, rfl, rfl, trivial⟩ ?_
    refine Run.slim [(1, u2), (3, u3), (49, .bool true)] ⟨rfl, rfl, rfl, trivial⟩ ?_
    exact hj1 (true) _ _ ⟨rfl, (h7.facts (.atm .z .nil)).picks (.cons .z .nil)⟩ hF
   ·
    refine op (OpS.mv rfl rfl rfl ?_)
    refine op (OpS.onilE h7 .z (fun _ G_ S_ w_ h_ => ptr_one1 G_ S_ w_ h_) Try.underlying35 rfl rfl rfl rfl ?_)
    refine op (OpS.pick rfl rfl rfl rfl ?_)
    refine op (OpS.mv rfl rfl rfl ?_)
    refine RunL.caseb hF (fun e17 hF => ?_) (fun e17 hF => ?_)
    ·
     refine op (OpS.pass rfl rfl rfl ?_)
     refine op (OpS.pass rfl rfl rfl ?_)
     refine op (OpS.pass rfl rfl rfl ?_)
     refine op (OpS.pick rfl rfl rfl rfl ?_)
     refine op (OpS.mv rfl rfl rfl ?_)
     refine op (OpS.pass rfl rfl rfl ?_)
     refine op (OpS.pass rfl rfl rfl ?_)
     refine op (OpS.pass rfl rfl rfl ?_)
     refine op (OpS.pass rfl rfl rfl ?_)
     refine op (OpS.pass rfl rfl rfl ?_)
     refine op (OpS.pass rfl rfl rfl ?_)
     refine op (OpS.pick rfl rfl rfl rfl ?_)
     refine op (OpS.mv rfl rfl rfl ?_)
     refine op (OpS.pass rfl rfl rfl ?_)
     refine op (OpS.pass rfl rfl rfl ?_)
     refine op (OpS.pass rfl rfl rfl ?_)
     refine op (OpS.pass rfl rfl rfl ?_)
     refine op (OpS.pass rfl rfl rfl ?_)
     refine op (OpS.pick rfl rfl rfl rfl ?_)
     refine RunL.nil ?_
     refine Run.slim [(49, .bool true), (3, u3), (1, u2)] ⟨rfl, rfl, rfl, trivial⟩ ?_
     refine Run.slim [(1, u2), (3, u3), (49, .bool true)] ⟨rfl, rfl, rfl, trivial⟩ ?_
     exact hj1 (true) _ _ ⟨rfl, (h7.facts (.atm .z .nil)).picks (.cons .z .nil)⟩ hF
    ·
     refine op (OpS.mv rfl rfl rfl ?_)
     refine op (OpS.len h7 Try.underlying27 rfl rfl rfl (V.at .z) ?_)
     refine op (OpS.bin rfl rfl rfl rfl rfl ?_)
     refine op (OpS.pick rfl rfl rfl rfl ?_)
     refine op (OpS.mv rfl rfl rfl ?_)
     refine RunL.caseb hF (fun e18 hF => ?_) (fun e18 hF => ?_)
     ·
      refine op (OpS.pass rfl rfl rfl ?_)
      refine op (OpS.pass rfl rfl rfl ?_)
      refine op (OpS.pass rfl rfl rfl ?_)
      refine op (OpS.pass rfl rfl rfl ?_)
      refine op (OpS.pass rfl rfl rfl ?_)
      refine op (OpS.pass rfl rfl rfl ?_)
      refine op (OpS.pick rfl rfl rfl rfl ?_)
      refine op (OpS.mv rfl rfl rfl ?_)
      refine op (OpS.pass rfl rfl rfl ?_)
      refine op (OpS.pass rfl rfl rfl ?_)
      refine op (OpS.pass rfl rfl rfl ?_)
      refine op (OpS.pass rfl rfl rfl ?_)
      refine op (OpS.pass rfl rfl rfl ?_)
      refine op (OpS.pick rfl rfl rfl rfl ?_)
      refine RunL.nil ?_
      refine Run.slim [(49, .bool true), (3, u3), (1, u2)] ⟨rfl, rfl, rfl, trivial⟩ ?_
      refine Run.slim [(1, u2), (3, u3), (49, .bool true)] ⟨rfl, rfl, rfl, trivial⟩ ?_
      exact hj1 (true) _ _ ⟨rfl, (h7.facts (.atm .z .nil)).picks (.cons .z .nil)⟩ hF
     ·
      refine op (OpS.mv rfl rfl rfl ?_)
      obtain ⟨x5, e19, hF⟩ := bindP_use hF
      refine op (OpS.iptr h7 Try.underlying27 ty44 rfl rfl rfl rfl (V.at .z) e19 (fun u15 h33 => ?_))
      refine op (OpS.fptr h33 fa44_7 Packet_.f7 rfl rfl rfl .z (fun u16 h34 => ?_))
      refine op (OpS.load h34 ty22 rfl rfl rfl .z (fun u17 h35 => ?_))
      refine op (OpS.len h35 Try.underlying22 rfl rfl rfl (V.at .z) ?_)
      refine op (OpS.bin rfl rfl rfl rfl rfl ?_)
      refine op (OpS.pick rfl rfl rfl rfl ?_)
      refine op (OpS.mv rfl rfl rfl ?_)
      refine RunL.caseb hF (fun e20 hF => ?_) (fun e20 hF => ?_)
      ·
       refine op (OpS.pass rfl rfl rfl ?_)
       refine op (OpS.pass rfl rfl rfl ?_)
       refine op (OpS.pass rfl rfl rfl ?_)
       refine op (OpS.pass rfl rfl rfl ?_)
       refine op (OpS.pass rfl rfl rfl ?_)
       refine op (OpS.pick rfl rfl rfl rfl ?_)
       refine RunL.nil ?_
       refine Run.slim [(49, .bool true), (3, u3), (1, u2)] ⟨rfl, rfl, rfl, trivial⟩ ?_
       refine Run.slim [(1, u2), (3, u3), (49, .bool true)] ⟨rfl, rfl, rfl, trivial⟩ ?_
       exact hj1 (true) _ _ ⟨rfl, (h35.facts (.atm (.s (.s (.s .z))) .nil)).picks (.cons .z .nil)⟩ hF
      ·
       refine op (OpS.mv rfl rfl rfl ?_)
       obtain ⟨x6, e21, hF⟩ := bindP_use hF
       refine op (OpS.iptr h35 Try.underlying27 ty44 rfl rfl rfl rfl (V.at (.s (.s (.s .z)))) e21 (fun u18 h36 => ?_))
       refine op (OpS.fptr h36 fa44_4 Packet_.f4 rfl rfl rfl .z (fun u19 h37 => ?_))
       refine op (OpS.loadi h37 ty3 rfl rfl rfl .z ?_)
       refine op (OpS.bin rfl rfl rfl rfl rfl ?_)
       refine op (OpS.pick rfl rfl rfl rfl ?_)
       refine RunL.nil ?_
       refine Run.slim [(49, .bool (x6.Sequence != 2)), (3, u3), (1, u2)] ⟨rfl, rfl, rfl, trivial⟩ ?_
       refine Run.slim [(1, u2), (3, u3), (49, .bool (x6.Sequence != 2))] ⟨rfl, rfl, rfl, trivial⟩ ?_
       exact hj1 (x6.Sequence != 2) _ _ ⟨rfl, (h37.facts (.atm (.s (.s (.s (.s (.s .z))))) .nil)).picks (.cons .z .nil)⟩ hF
theorem made_Mod_ok {fuel : Nat} {a0 : Int} {a1 : Int} {y : Int} (hF : made_Mod fuel a0 a1 = some y) {w : World} :
  Spec Try.prog 12 [.int .i64 a0, .int .i64 a1].toArray w [] [] (fun v Γr Ωr Ωo => v = .int .i64 y ∧ Γr = [] ∧ Ωr = [] ∧ Ωo = []) := by
 refine Spec.of (L := [(0, .int .i64 a0), (1, .int .i64 a1)]) Try.func12 rfl ⟨rfl, rfl, trivial⟩ rfl (fun e h => ?_)
 unfold made_Mod at hF
 refine Run.seq ?_
 refine Run.reg ?_
 refine op (OpS.as rfl rfl rfl ?_)
 refine RunL.nil ?_
 refine Run.slim [(0, .int .i64 a0), (1, .int .i64 a1)] ⟨rfl, rfl, trivial⟩ ?_
 refine Run.seq ?_
 refine Run.reg ?_
 refine op (OpS.mv rfl rfl rfl ?_)
 refine op (OpS.mv rfl rfl rfl ?_)
 obtain ⟨e1, hF⟩ := chk_use hF
 refine op (OpS.rem rfl rfl rfl rfl e1 ?_)
 refine op (OpS.as rfl rfl rfl ?_)
 refine RunL.nil ?_
 refine Run.slim [(0, .int .i64 (Int.tmod a0 a1)), (1, .int .i64 a1)] ⟨rfl, rfl, trivial⟩ ?_
 refine Run.seq ?_
 refine Run.seq ?_
 refine Run.reg ?_
 refine op (OpS.mv rfl rfl rfl ?_)
 refine op (OpS.bin rfl rfl rfl rfl rfl ?_)
 refine RunL.nil ?_
 refine Run.slim [(9, .bool (decide ((Int.tmod a0 a1) < 0))), (0, .int .i64 (Int.tmod a0 a1)), (1, .int .i64 a1)] ⟨rfl, rfl, rfl, trivial⟩ ?_
 refine Run.ite rfl hF (fun e2 hF => ?_) (fun e2 hF => ?_)
 ·
  refine Run.reg ?_
  refine op (OpS.mv rfl rfl rfl ?_)
  refine op (OpS.mv rfl rfl rfl ?_)
  refine op (OpS.bin rfl rfl rfl rfl rfl ?_)
  refine op (OpS.as rfl rfl rfl ?_)
  obtain ⟨x1, e3, hF⟩ := letP_use hF
  refine RunL.name e3 ?_
  refine RunL.nil ?_
  refine Run.slim [(0, .int .i64 x1)] ⟨rfl, trivial⟩ ?_
  refine Run.seq ?_
  refine Run.reg ?_
  refine op (OpS.mv rfl rfl rfl ?_)
  refine op (OpS.as rfl rfl rfl ?_)
  refine RunL.nil ?_
  refine Run.slim [(4, .int .i64 x1)] ⟨rfl, trivial⟩ ?_
  refine Run.retP rfl (.tmp rfl .nil) ?_
  cases hF
  exact Post.mk' ⟨rfl, rfl, rfl, rfl⟩ (h.picks .nil) .nil
 ·
  refine Run.skip ?_
  refine Run.seq ?_
  refine Run.reg ?_
  refine op (OpS.mv rfl rfl rfl ?_)
  refine op (OpS.as rfl rfl rfl ?_)
  refine RunL.nil ?_
  refine Run.slim [(4, .int .i64 (Int.tmod a0 a1))] ⟨rfl, trivial⟩ ?_
  refine Run.retP rfl (.tmp rfl .nil) ?_
  cases hF
  exact Post.mk' ⟨rfl, rfl, rfl, rfl⟩ (h.picks .nil) .nil
theorem ref01_Same_ok {fuel : Nat} {a0 : List Int} {a1 : List Int} {y : Bool} (hF : ref01_Same fuel a0 a1 = some y) {w : World} {v0 v1 : Value} :
  Spec Try.prog 29 [v0, v1].toArray w [(false, .val (Rep.slice (Rep.int .u8)) v0 a0), (false, .val (Rep.slice (Rep.int .u8)) v1 a1)] [] (fun v Γr Ωr Ωo => v = .bool y ∧ Γr = [] ∧ Ωr = [] ∧ Ωo = []) := by
 refine Spec.of (L := [(0, v0), (1, v1)]) Try.func29 rfl ⟨rfl, rfl, trivial⟩ rfl (fun e h => ?_)
 unfold ref01_Same at hF
 refine Run.seq ?_
 refine Run.reg ?_
 refine op (OpS.as rfl rfl rfl ?_)
 refine RunL.nil ?_
 refine Run.slim [(0, v0), (1, v1)] ⟨rfl, rfl, trivial⟩ ?_
 refine Run.seq ?_
 refine Run.seq ?_
 refine Run.reg ?_
 refine op (OpS.mv rfl rfl rfl ?_)
 refine op (OpS.len h Try.underlying22 rfl rfl rfl (V.at .z) ?_)
 refine op (OpS.mv rfl rfl rfl ?_)
 refine op (OpS.len h Try.underlying22 rfl rfl rfl (V.at (.s .z)) ?_)
 refine op (OpS.bin rfl rfl rfl rfl rfl ?_)
 refine RunL.nil ?_
 refine Run.slim [(10, .bool ((a0.length : Int) != (a1.length : Int))), (0, v0), (1, v1)] ⟨rfl, rfl, rfl, trivial⟩ ?_
 refine Run.ite rfl hF (fun e1 hF => ?_) (fun e1 hF => ?_)
 ·
  refine Run.seq ?_
  refine Run.reg ?_
  refine op (OpS.as rfl rfl rfl ?_)
  refine RunL.nil ?_
  refine Run.slim [(4, .bool false)] ⟨rfl, trivial⟩ ?_
  refine Run.retP rfl (.tmp rfl .nil) ?_
  cases hF
  exact Post.mk' ⟨rfl, rfl, rfl, rfl⟩ (h.picks .nil) .nil
 ·
  refine Run.skip ?_
  refine Run.seq ?_
  refine Run.seq ?_
  refine Run.reg ?_
  refine op (OpS.as rfl rfl rfl ?_)
  refine RunL.nil ?_
  refine Run.slim [(5, .int .i64 0), (0, v0), (1, v1)] ⟨rfl, rfl, rfl, trivial⟩ ?_
  refine Run.block ?_
  refine Run.slim [(0, v0), (1, v1), (5, .int .i64 0)] ⟨rfl, rfl, rfl, trivial⟩ ?_
  refine Run.loopP (σ := Int) (fun s_ L_ w_ => L_ = [(0, v0), (1, v1), (5, .int .i64 s_)] ∧ St e w_ [(false, .val (Rep.slice (Rep.int .u8)) v0 a0), (false, .val (Rep.slice (Rep.int .u8)) v1 a1)] []) hF ⟨rfl, (h.facts (.atm .z (.atm (.s .z) .nil))).picks .nil⟩ (fun k1 hk1 s1 _ w1 hI hF => ?_)
  obtain ⟨rfl, h1⟩ := hI
  refine Run.seq ?_
  refine Run.seq ?_
  refine Run.reg ?_
  refine op (OpS.mv rfl rfl rfl ?_)
  refine op (OpS.mv rfl rfl rfl ?_)
  refine op (OpS.len h1 Try.underlying22 rfl rfl rfl (V.at .z) ?_)
  refine op (OpS.bin rfl rfl rfl rfl rfl ?_)
  refine RunL.nil ?_
  refine Run.slim [(14, .bool (decide (s1 < (a0.length : Int)))), (0, v0), (1, v1), (5, .int .i64 s1)] ⟨rfl, rfl, rfl, rfl, trivial⟩ ?_
  refine Run.ite rfl hF (fun e2 hF => ?_) (fun e2 hF => ?_)
  ·
   refine Run.skip ?_
   refine Run.seq ?_
   refine Run.block ?_
   refine Run.seq ?_
   obtain ⟨x1, e3, hF⟩ := bindP_use hF
   obtain ⟨x2, e4, hF⟩ := bindP_use hF
   refine Run.drawV (Ωs := []) [⟨some 17, some (v0), fun _ => [], fun ds_ u_ => [], [], [], none⟩, ⟨some 18, some (.int .i64 s1), fun _ => [], fun ds_ u_ => [], [], [], none⟩, ⟨some 19, none, fun u_ => [(false, .ptr (Rep.int .u8) u_ x1)], fun ds_ u_ => [], [], [], none⟩, ⟨some 20, some (.int .u8 x1), fun _ => [], fun ds_ u_ => [], [], [], none⟩, ⟨some 21, some (v1), fun _ => [], fun ds_ u_ => [], [], [], none⟩, ⟨some 22, some (.int .i64 s1), fun _ => [], fun ds_ u_ => [], [], [], none⟩, ⟨some 23, none, fun u_ => [(false, .ptr (Rep.int .u8) u_ x2)], fun ds_ u_ => [], [], [], none⟩, ⟨some 24, some (.int .u8 x2), fun _ => [], fun ds_ u_ => [], [], [], none⟩, ⟨some 25, some (.bool (x1 != x2)), fun _ => [], fun ds_ u_ => [], [], [], none⟩] [[], [], [0, 1], [2], [], [], [4, 5], [6], [3, 7]] [] [0, 1, 2, 3, 4, 5, 6, 7, 8] Try_mixed rfl rfl rfl h1 (.cons ?_ (.cons ?_ (.cons ?_ (.cons ?_ (.cons ?_ (.cons ?_ (.cons ?_ (.cons ?_ (.cons ?_ .nil))))))))) (fun q1 w hq1 h => ?_)
   ·intro q1 w Γx Ωx h
    refine OpS.mv rfl rfl rfl ?_
    exact ⟨undef, rfl, trivial, h⟩
   ·intro q1 w Γx Ωx h
    refine OpS.mv rfl rfl rfl ?_
    exact ⟨undef, rfl, trivial, h⟩
   ·intro q1 w Γx Ωx h
    refine OpS.iptr h Try.underlying22 ty5 rfl rfl rfl rfl (V.at .z) e3 (fun u h4 => ?_)
    exact ⟨u, rfl, trivial, h4⟩
   ·intro q1 w Γx Ωx h
    refine OpS.loadi h ty5 rfl rfl rfl .z ?_
    exact ⟨undef, rfl, trivial, h⟩
   ·intro q1 w Γx Ωx h
    refine OpS.mv rfl rfl rfl ?_
    exact ⟨undef, rfl, trivial, h⟩
   ·intro q1 w Γx Ωx h
    refine OpS.mv rfl rfl rfl ?_
    exact ⟨undef, rfl, trivial, h⟩
   ·intro q1 w Γx Ωx h
    refine OpS.iptr h Try.underlying22 ty5 rfl rfl rfl rfl (V.at (.s .z)) e4 (fun u h5 => ?_)
    exact ⟨u, rfl, trivial, h5⟩
   ·intro q1 w Γx Ωx h
    refine OpS.loadi h ty5 rfl rfl rfl .z ?_
    exact ⟨undef, rfl, trivial, h⟩
   ·intro q1 w Γx Ωx h
    refine OpS.bin rfl rfl rfl rfl rfl ?_
    exact ⟨undef, rfl, trivial, h⟩
   have h6 : St e w [(false, .ptr (Rep.int .u8) (q1 2) x1), (false, .ptr (Rep.int .u8) (q1 6) x2), (false, .val (Rep.slice (Rep.int .u8)) v0 a0), (false, .val (Rep.slice (Rep.int .u8)) v1 a1)] [] := h
   refine RunL.nil ?_
   refine Run.slim [(25, .bool (x1 != x2)), (0, v0), (1, v1), (5, .int .i64 s1)] ⟨rfl, rfl, rfl, rfl, trivial⟩ ?_
   refine Run.ite rfl hF (fun e5 hF => ?_) (fun e5 hF => ?_)
   ·
    refine Run.seq ?_
    refine Run.reg ?_
    refine op (OpS.as rfl rfl rfl ?_)
    refine RunL.nil ?_
    refine Run.slim [(4, .bool false)] ⟨rfl, trivial⟩ ?_
    refine Run.retP rfl (.tmp rfl .nil) ?_
    cases hF
    exact Post.mk' ⟨rfl, rfl, rfl, rfl⟩ (h6.picks .nil) .nil
   ·
    refine Run.skip ?_
    refine Run.endBlock ?_
    refine Run.reg ?_
    refine op (OpS.mv rfl rfl rfl ?_)
    refine op (OpS.bin rfl rfl rfl rfl rfl ?_)
    refine op (OpS.as rfl rfl rfl ?_)
    obtain ⟨x3, e6, hF⟩ := letP_use hF
    refine RunL.name e6 ?_
    refine RunL.nil ?_
    refine Run.slim [(5, .int .i64 x3), (0, v0), (1, v1)] ⟨rfl, rfl, rfl, trivial⟩ ?_
    refine Run.slim [(0, v0), (1, v1), (5, .int .i64 x3)] ⟨rfl, rfl, rfl, trivial⟩ ?_
    exact hk1 (x3) _ _ ⟨rfl, (h6.facts (.atm (.s (.s .z)) (.atm (.s (.s (.s .z))) .nil))).picks .nil⟩ hF
  ·
   refine Run.exit rfl ?_
   refine Run.seq ?_
   refine Run.reg ?_
   refine op (OpS.as rfl rfl rfl ?_)
   refine RunL.nil ?_
   refine Run.slim [(4, .bool true)] ⟨rfl, trivial⟩ ?_
   refine Run.retP rfl (.tmp rfl .nil) ?_
   cases hF
   exact Post.mk' ⟨rfl, rfl, rfl, rfl⟩ (h1.picks .nil) .nil
set_option maxHeartbeats 8000000 in
theorem law22_FragmentLimits_ok {fuel : Nat} {a0 : Int} {a1 : Int} {a2 : Int} {y : Bool} (hF : law22_FragmentLimits fuel a0 a1 a2 = some y) {w : World} :
  Spec Try.prog 6 [.int .i64 a0, .int .i64 a1, .int .i64 a2].toArray w [] [] (fun v Γr Ωr Ωo => v = .bool y ∧ Γr = [] ∧ Ωr = [] ∧ Ωo = []) := by
 refine Spec.of (L := [(0, .int .i64 a0), (1, .int .i64 a1), (2, .int .i64 a2)]) Try.func6 rfl ⟨rfl, rfl, rfl, trivial⟩ rfl (fun e h => ?_)
 unfold law22_FragmentLimits at hF
 refine Run.seq ?_
 refine Run.reg ?_
 refine op (OpS.as rfl rfl rfl ?_)
 refine RunL.nil ?_
 refine Run.slim [(0, .int .i64 a0), (1, .int .i64 a1), (2, .int .i64 a2)] ⟨rfl, rfl, rfl, trivial⟩ ?_
 refine Run.seq ?_
 refine Run.reg ?_
 obtain ⟨y1, e1, hF⟩ := bindP_use hF
 refine op (OpS.callP h Try.func17 rfl rfl rfl rfl (vs := [.int .u8 9]) rfl (fragment_New_ok e1) .nil ?_)
 rintro _ w1 _ _ _ ⟨u1, rfl, rfl, rfl, rfl⟩ h1
 have h2 := h1 rfl rfl
 simp only [List.cons_append, List.nil_append] at h2
 refine op (OpS.mv rfl rfl rfl ?_)
 refine op (OpS.ext rfl rfl rfl rfl ?_)
 refine op (OpS.ext rfl rfl rfl rfl ?_)
 refine op (OpS.as rfl rfl rfl ?_)
 refine op (OpS.as rfl rfl rfl ?_)
 refine RunL.nil ?_
 refine Run.slim [(8, .int .i64 y1.2), (7, u1), (0, .int .i64 a0), (1, .int .i64 a1), (2, .int .i64 a2)] ⟨rfl, rfl, rfl, rfl, rfl, trivial⟩ ?_
 refine Run.seq ?_
 refine Run.seq ?_
 refine Run.reg ?_
 refine op (OpS.mv rfl rfl rfl ?_)
 refine op (OpS.onilE h2 .z (fun _ G_ S_ w_ h_ => ptr_one1 G_ S_ w_ h_) Try.underlying35 rfl rfl rfl rfl ?_)
 refine op (OpS.mv rfl rfl rfl ?_)
 refine RunL.join (σ := Bool) (fun s_ L_ w_ => L_ = [(0, .int .i64 a0), (1, .int .i64 a1), (2, .int .i64 a2), (7, u1), (35, .bool s_)] ∧ St e w_ [] [(true, .opt (fun x_ => .ex fun v_ => .sep (.box 83 (Rep.iso (fun s : fragment_Assembler => (s.own, s.open_, ())) (Rep.prod (Rep.int .u8) (Rep.prod (Rep.raw (α := List fragment_open) v_) Rep.unit))) u1 x_) (.oval (oslice 92 6 (fun _ => fragment_open.orep)) v_ x_.open_)) u1 y1.1)]) hF (fun s1 _ w2 hI hF => ?_) (fun j1 hj1 hF => ?_)
 ·
  obtain ⟨rfl, h3⟩ := hI
  refine Run.ite rfl hF (fun e2 hF => ?_) (fun e2 hF => ?_)
  ·
   refine Run.seq ?_
   refine Run.reg ?_
   refine op (OpS.as rfl rfl rfl ?_)
   refine RunL.nil ?_
   refine Run.slim [(6, .bool false)] ⟨rfl, trivial⟩ ?_
   refine Run.retP rfl (.tmp rfl .nil) ?_
   cases hF
   exact Post.mk' ⟨rfl, rfl, rfl, rfl⟩ (h3.picks .nil) .nil
  ·
   refine Run.skip ?_
   refine Run.seq ?_
   refine Run.reg ?_
   refine op (OpS.mv rfl rfl rfl ?_)
   obtain ⟨y2, e3, hF⟩ := bindP_use hF
   refine op (OpS.callP h3 Try.func12 rfl rfl rfl rfl (vs := [.int .i64 a0, .int .i64 4]) rfl (made_Mod_ok e3) .nil ?_)
   rintro _ w3 _ _ _ ⟨rfl, rfl, rfl, rfl⟩ h4
   have h5 := h4 rfl rfl
   simp only [List.cons_append, List.nil_append] at h5
   refine op (OpS.bin rfl rfl rfl rfl rfl ?_)
   refine op (OpS.as rfl rfl rfl ?_)
   obtain ⟨x1, e4, hF⟩ := letP_use hF
   refine RunL.name e4 ?_
   refine RunL.nil ?_
   refine Run.slim [(9, .int .i64 x1), (1, .int .i64 a1), (2, .int .i64 a2), (7, u1)] ⟨rfl, rfl, rfl, rfl, trivial⟩ ?_
   refine Run.seq ?_
   refine Run.seq ?_
   refine Run.reg ?_
   refine op (OpS.as rfl rfl rfl ?_)
   refine RunL.nil ?_
   refine Run.block ?_
   have h6 := (h5.pick .z).weak
   refine Run.slim [(1, .int .i64 a1), (2, .int .i64 a2), (7, u1), (9, .int .i64 x1), (10, .int .i64 0)] ⟨rfl, rfl, rfl, rfl, rfl, trivial⟩ ?_
   refine Run.loopP (σ := (Int × (Option fragment_Assembler))) (fun s_ L_ w_ => ∃ u0_ : Value, L_ = [(1, .int .i64 a1), (2, .int .i64 a2), (7, u0_), (9, .int .i64 x1), (10, .int .i64 s_.1)] ∧ St e w_ [] [(false, .opt (fun x_ => .ex fun v_ => .sep (.box 83 (Rep.iso (fun s : fragment_Assembler => (s.own, s.open_, ())) (Rep.prod (Rep.int .u8) (Rep.prod (Rep.raw (α := List fragment_open) v_) Rep.unit))) u0_ x_) (.oval (oslice 92 6 (fun _ => fragment_open.orep)) v_ x_.open_)) u0_ s_.2)]) hF ⟨u1, rfl, (h6.facts .nil).picks (.cons .z .nil)⟩ (fun k1 hk1 s2 _ w4 hI hF => ?_)
   obtain ⟨u2, rfl, h7⟩ := hI
   refine Run.seq ?_
   refine Run.seq ?_
   refine Run.reg ?_
   refine op (OpS.mv rfl rfl rfl ?_)
   refine op (OpS.mv rfl rfl rfl ?_)
   refine op (OpS.bin rfl rfl rfl rfl rfl ?_)
   refine RunL.nil ?_
   refine Run.slim [(41, .bool (decide (s2.1 < x1))), (1, .int .i64 a1), (2, .int .i64 a2), (7, u2), (9, .int .i64 x1), (10, .int .i64 s2.1)] ⟨rfl, rfl, rfl, rfl, rfl, rfl, trivial⟩ ?_
   refine Run.ite rfl hF (fun e5 hF => ?_) (fun e5 hF => ?_)
   ·
    refine Run.skip ?_
    refine Run.seq ?_
    refine Run.block ?_
    refine Run.seq ?_
    refine Run.reg ?_
    refine op (OpS.mv rfl rfl rfl ?_)
    refine op (OpS.mv rfl rfl rfl ?_)
    refine op (OpS.bin rfl rfl rfl rfl rfl ?_)
    refine op (OpS.conv Try.underlying3 Try.underlying5 rfl rfl rfl ?_)
    refine op (OpS.mv rfl rfl rfl ?_)
    refine op (OpS.conv Try.underlying3 Try.underlying5 rfl rfl rfl ?_)
    refine op (OpS.lit (r := (Rep.int .u8)) (f := true) h7 Try.underlying22 ti5 rfl rfl rfl rfl rfl (.cons rfl V.int .nil) rfl rfl (fun u3 w5 h8 => ?_))
    refine op (OpS.build (f := true) (x' := (⟨9, (IntKind.u8.wrap (IntKind.i64.wrap (20 + s2.1))), true, false, 0, false, 0, [(IntKind.u8.wrap s2.1)]⟩ : Packet_)) h8 pl44 ti44 Packet_.zr rfl rfl rfl (.cons rfl Packet_.f0 rfl V.int (.cons rfl Packet_.f1 rfl V.int (.cons rfl Packet_.f2 rfl V.bool (.cons rfl Packet_.f7 rfl (V.at .z) .nil)))) (fun u4 h9 => ?_))
    obtain ⟨x2, e6, hF⟩ := bindP_use hF
    have h10 := St.unopt (h9.pick .z) e6
    obtain ⟨u5, h11⟩ := h10.unex
    have h12 := h11.unsep
    obtain ⟨y3, e7, hF⟩ := bindP_use hF
    have h13 := h12.front (.cons .z (.cons .z .nil))
    refine op (OpS.callO h13 Try.func24 rfl rfl rfl rfl (vs := [u2, u4]) rfl (fragment_Assembler_Accept_ok e7) rfl (.cons (f := true) (V.at .z) .nil) ?_)
    rintro _ w6 _ _ _ ⟨u6, u7, rfl, rfl, rfl, rfl⟩ h14
    have h15 := h14
    simp only [List.cons_append, List.nil_append] at h15
    refine op (OpS.mv rfl rfl rfl ?_)
    refine op (OpS.ext rfl rfl rfl rfl ?_)
    refine op (OpS.ext rfl rfl rfl rfl ?_)
    refine op (OpS.ext rfl rfl rfl rfl ?_)
    refine op (OpS.alloc h15 ti51 Whole_.zr rfl rfl (fun u8 w7 h16 => ?_))
    have h17 := (h16.pick .z).weak
    refine op (OpS.storeB (f' := false) h17 .z PA.z Put.id ty51 rfl rfl rfl (V.at .z) (.inr rfl) (fun w8 h18 => ?_))
    refine op (OpS.as rfl rfl rfl ?_)
    refine op (OpS.as rfl rfl rfl ?_)
    refine RunL.nil ?_
    refine Run.slim [(13, .int .i64 y3.2.2.1), (12, .bool y3.2.1), (1, .int .i64 a1), (2, .int .i64 a2), (7, u2), (9, .int .i64 x1), (10, .int .i64 s2.1)] ⟨rfl, rfl, rfl, rfl, rfl, rfl, rfl, trivial⟩ ?_
    refine Run.seq ?_
    refine Run.reg ?_
    refine op (OpS.mv rfl rfl rfl ?_)
    refine op (OpS.mv rfl rfl rfl ?_)
    refine RunL.join (σ := Bool) (fun s_ L_ w_ => L_ = [(1, .int .i64 a1), (2, .int .i64 a2), (7, u2), (9, .int .i64 x1), (10, .int .i64 s2.1), (69, .bool s_)] ∧ St e w_ [] [(false, .box 83 (Rep.iso (fun s : fragment_Assembler => (s.own, s.open_, ())) (Rep.prod (Rep.int .u8) (Rep.prod (Rep.raw (α := List fragment_open) u7) Rep.unit))) u2 y3.2.2.2), (false, .oval (oslice 92 6 (fun _ => fragment_open.orep)) u7 y3.2.2.2.open_)]) hF (fun s3 _ w9 hI hF => ?_) (fun j2 hj2 hF => ?_)
    ·
     obtain ⟨rfl, h19⟩ := hI
     refine Run.ite rfl hF (fun e8 hF => ?_) (fun e8 hF => ?_)
     ·
      refine Run.seq ?_
      refine Run.reg ?_
      refine op (OpS.as rfl rfl rfl ?_)
      refine RunL.nil ?_
      refine Run.slim [(6, .bool false)] ⟨rfl, trivial⟩ ?_
      refine Run.retP rfl (.tmp rfl .nil) ?_
      cases hF
      exact Post.mk' ⟨rfl, rfl, rfl, rfl⟩ (h19.picks .nil) .nil
     ·
      refine Run.skip ?_
      refine Run.endBlock ?_
      refine Run.reg ?_
      refine op (OpS.mv rfl rfl rfl ?_)
      refine op (OpS.bin rfl rfl rfl rfl rfl ?_)
      refine op (OpS.as rfl rfl rfl ?_)
      obtain ⟨x3, e9, hF⟩ := letP_use hF
      refine RunL.name e9 ?_
      refine RunL.nil ?_
      refine Run.slim [(10, .int .i64 x3), (1, .int .i64 a1), (2, .int .i64 a2), (7, u2), (9, .int .i64 x1)] ⟨rfl, rfl, rfl, rfl, rfl, trivial⟩ ?_
      have h20 := h19.front (.cons .z (.cons .z .nil))
      have h21 := St.some (H := (fun x_ => .ex fun v_ => .sep (.box 83 (Rep.iso (fun s : fragment_Assembler => (s.own, s.open_, ())) (Rep.prod (Rep.int .u8) (Rep.prod (Rep.raw (α := List fragment_open) v_) Rep.unit))) u2 x_) (.oval (oslice 92 6 (fun _ => fragment_open.orep)) v_ x_.open_))) (q := u2) (x := y3.2.2.2) (St.ex (H := fun v_ => .sep (.box 83 (Rep.iso (fun s : fragment_Assembler => (s.own, s.open_, ())) (Rep.prod (Rep.int .u8) (Rep.prod (Rep.raw (α := List fragment_open) v_) Rep.unit))) u2 y3.2.2.2) (.oval (oslice 92 6 (fun _ => fragment_open.orep)) v_ y3.2.2.2.open_)) u7 (St.sep h20))
      refine Run.slim [(1, .int .i64 a1), (2, .int .i64 a2), (7, u2), (9, .int .i64 x1), (10, .int .i64 x3)] ⟨rfl, rfl, rfl, rfl, rfl, trivial⟩ ?_
      exact hk1 (x3, (some y3.2.2.2)) _ _ ⟨u2, rfl, (h21.facts .nil).picks (.cons .z .nil)⟩ hF
    ·
     refine RunL.caseb hF (fun e10 hF => ?_) (fun e10 hF => ?_)
     ·
      refine op (OpS.pass rfl rfl rfl ?_)
      refine op (OpS.pass rfl rfl rfl ?_)
      refine op (OpS.pick rfl rfl rfl rfl ?_)
      refine op (OpS.mv rfl rfl rfl ?_)
      refine op (OpS.pass rfl rfl rfl ?_)
      refine op (OpS.pass rfl rfl rfl ?_)
      refine op (OpS.pass rfl rfl rfl ?_)
      refine op (OpS.pass rfl rfl rfl ?_)
      refine op (OpS.pass rfl rfl rfl ?_)
      refine op (OpS.pass rfl rfl rfl ?_)
      refine op (OpS.pick rfl rfl rfl rfl ?_)
      refine RunL.nil ?_
      refine Run.slim [(69, .bool true), (1, .int .i64 a1), (2, .int .i64 a2), (7, u2), (9, .int .i64 x1), (10, .int .i64 s2.1)] ⟨rfl, rfl, rfl, rfl, rfl, rfl, trivial⟩ ?_
      refine Run.slim [(1, .int .i64 a1), (2, .int .i64 a2), (7, u2), (9, .int .i64 x1), (10, .int .i64 s2.1), (69, .bool true)] ⟨rfl, rfl, rfl, rfl, rfl, rfl, trivial⟩ ?_
      exact hj2 (true) _ _ ⟨rfl, (h18.facts .nil).picks (.cons (.s .z) (.cons (.s .z) .nil))⟩ hF
     ·
      refine op (OpS.mv rfl rfl rfl ?_)
      refine op (OpS.bin rfl rfl rfl rfl rfl ?_)
      refine op (OpS.pick rfl rfl rfl rfl ?_)
      refine op (OpS.mv rfl rfl rfl ?_)
      refine RunL.caseb hF (fun e11 hF => ?_) (fun e11 hF => ?_)
      ·
       refine op (OpS.pass rfl rfl rfl ?_)
       refine op (OpS.pass rfl rfl rfl ?_)
       refine op (OpS.pass rfl rfl rfl ?_)
       refine op (OpS.pass rfl rfl rfl ?_)
       refine op (OpS.pass rfl rfl rfl ?_)
       refine op (OpS.pass rfl rfl rfl ?_)
       refine op (OpS.pick rfl rfl rfl rfl ?_)
       refine RunL.nil ?_
       refine Run.slim [(69, .bool true), (1, .int .i64 a1), (2, .int .i64 a2), (7, u2), (9, .int .i64 x1), (10, .int .i64 s2.1)] ⟨rfl, rfl, rfl, rfl, rfl, rfl, trivial⟩ ?_
       refine Run.slim [(1, .int .i64 a1), (2, .int .i64 a2), (7, u2), (9, .int .i64 x1), (10, .int .i64 s2.1), (69, .bool true)] ⟨rfl, rfl, rfl, rfl, rfl, rfl, trivial⟩ ?_
       exact hj2 (true) _ _ ⟨rfl, (h18.facts .nil).picks (.cons (.s .z) (.cons (.s .z) .nil))⟩ hF
      ·
       refine op (OpS.mv rfl rfl rfl ?_)
       obtain ⟨y4, e12, hF⟩ := bindP_use hF
       have h22 := h18.front (.cons (.s .z) (.cons (.s .z) .nil))
       refine op (OpS.callO h22 Try.func27 rfl rfl rfl rfl (vs := [u2]) rfl (fragment_Assembler_Open_ok e12) rfl .nil ?_)
       rintro _ w10 _ _ _ ⟨rfl, rfl, rfl, rfl⟩ h23
       have h24 := h23
       simp only [List.cons_append, List.nil_append] at h24
       refine op (OpS.mv rfl rfl rfl ?_)
       refine op (OpS.bin rfl rfl rfl rfl rfl ?_)
       refine op (OpS.mini rfl rfl rfl rfl ?_)
       refine op (OpS.bin rfl rfl rfl rfl rfl ?_)
       refine op (OpS.pick rfl rfl rfl rfl ?_)
       refine RunL.nil ?_
       refine Run.slim [(69, .bool (y4 != (min (IntKind.i64.wrap (s2.1 + 1)) 8))), (1, .int .i64 a1), (2, .int .i64 a2), (7, u2), (9, .int .i64 x1), (10, .int .i64 s2.1)] ⟨rfl, rfl, rfl, rfl, rfl, rfl, trivial⟩ ?_
       refine Run.slim [(1, .int .i64 a1), (2, .int .i64 a2), (7, u2), (9, .int .i64 x1), (10, .int .i64 s2.1), (69, .bool (y4 != (min (IntKind.i64.wrap (s2.1 + 1)) 8)))] ⟨rfl, rfl, rfl, rfl, rfl, rfl, trivial⟩ ?_
       exact hj2 (y4 != (min (IntKind.i64.wrap (s2.1 + 1)) 8)) _ _ ⟨rfl, (h24.facts .nil).picks (.cons .z (.cons .z .nil))⟩ hF
   ·
    refine Run.exit rfl ?_
    refine Run.seq ?_
    refine Run.reg ?_
    refine op (OpS.mv rfl rfl rfl ?_)
    refine op (OpS.mv rfl rfl rfl ?_)
    obtain ⟨y5, e13, hF⟩ := bindP_use hF
    refine op (OpS.callP h7 Try.func12 rfl rfl rfl rfl (vs := [.int .i64 a2, .int .i64 x1]) rfl (made_Mod_ok e13) .nil ?_)
    rintro _ w11 _ _ _ ⟨rfl, rfl, rfl, rfl⟩ h25
    have h26 := h25 rfl rfl
    simp only [List.cons_append, List.nil_append] at h26
    refine op (OpS.as rfl rfl rfl ?_)
    refine RunL.nil ?_
    refine Run.slim [(14, .int .i64 y5), (1, .int .i64 a1), (7, u2), (9, .int .i64 x1)] ⟨rfl, rfl, rfl, rfl, trivial⟩ ?_
    refine Run.seq ?_
    refine Run.reg ?_
    refine op (OpS.mv rfl rfl rfl ?_)
    refine op (OpS.mv rfl rfl rfl ?_)
    refine op (OpS.bin rfl rfl rfl rfl rfl ?_)
    refine op (OpS.conv Try.underlying3 Try.underlying5 rfl rfl rfl ?_)
    refine op (OpS.lit (r := (Rep.int .u8)) (f := true) h26 Try.underlying22 ti5 rfl rfl rfl rfl rfl (.cons rfl V.int .nil) rfl rfl (fun u9 w12 h27 => ?_))
    refine op (OpS.build (f := true) (x' := (⟨9, (IntKind.u8.wrap (IntKind.i64.wrap (20 + y5))), false, true, 1, false, 0, [7]⟩ : Packet_)) h27 pl44 ti44 Packet_.zr rfl rfl rfl (.cons rfl Packet_.f0 rfl V.int (.cons rfl Packet_.f1 rfl V.int (.cons rfl Packet_.f3 rfl V.bool (.cons rfl Packet_.f4 rfl V.int (.cons rfl Packet_.f7 rfl (V.at .z) .nil))))) (fun u10 h28 => ?_))
    obtain ⟨x4, e14, hF⟩ := bindP_use hF
    have h29 := St.unopt (h28.pick .z) e14
    obtain ⟨u11, h30⟩ := h29.unex
    have h31 := h30.unsep
    obtain ⟨y6, e15, hF⟩ := bindP_use hF
    have h32 := h31.front (.cons .z (.cons .z .nil))
    refine op (OpS.callO h32 Try.func24 rfl rfl rfl rfl (vs := [u2, u10]) rfl (fragment_Assembler_Accept_ok e15) rfl (.cons (f := true) (V.at .z) .nil) ?_)
    rintro _ w13 _ _ _ ⟨u12, u13, rfl, rfl, rfl, rfl⟩ h33
    have h34 := h33
    simp only [List.cons_append, List.nil_append] at h34
    refine op (OpS.mv rfl rfl rfl ?_)
    refine op (OpS.ext rfl rfl rfl rfl ?_)
    refine op (OpS.ext rfl rfl rfl rfl ?_)
    refine op (OpS.ext rfl rfl rfl rfl ?_)
    refine op (OpS.alloc h34 ti51 Whole_.zr rfl rfl (fun u14 w14 h35 => ?_))
    have h36 := (h35.pick .z).weak
    refine op (OpS.storeB (f' := false) h36 .z PA.z Put.id ty51 rfl rfl rfl (V.at .z) (.inr rfl) (fun w15 h37 => ?_))
    refine op (OpS.as rfl rfl rfl ?_)
    refine op (OpS.as rfl rfl rfl ?_)
    refine RunL.nil ?_
    refine Run.slim [(17, .int .i64 y6.2.2.1), (16, .bool y6.2.1), (15, u14), (14, .int .i64 y5), (1, .int .i64 a1), (7, u2), (9, .int .i64 x1)] ⟨rfl, rfl, rfl, rfl, rfl, rfl, rfl, trivial⟩ ?_
    refine Run.seq ?_
    refine Run.reg ?_
    refine op (OpS.mv rfl rfl rfl ?_)
    refine op (OpS.mv rfl rfl rfl ?_)
    refine op (OpS.bin rfl rfl rfl rfl rfl ?_)
    refine op (OpS.bin rfl rfl rfl rfl rfl ?_)
    refine op (OpS.as rfl rfl rfl ?_)
    obtain ⟨x5, e16, hF⟩ := letP_use hF
    refine RunL.nameb e16 ?_
    refine RunL.nil ?_
    refine Run.slim [(18, .bool x5), (17, .int .i64 y6.2.2.1), (16, .bool y6.2.1), (15, u14), (14, .int .i64 y5), (1, .int .i64 a1), (7, u2)] ⟨rfl, rfl, rfl, rfl, rfl, rfl, rfl, trivial⟩ ?_
    refine Run.seq ?_
    refine Run.seq ?_
    refine Run.reg ?_
    refine op (OpS.mv rfl rfl rfl ?_)
    refine op (OpS.mv rfl rfl rfl ?_)
    refine op (OpS.neb Try.underlying4 rfl rfl rfl rfl ?_)
    refine op (OpS.mv rfl rfl rfl ?_)
    refine RunL.join (σ := Bool) (fun s_ L_ w_ => L_ = [(1, .int .i64 a1), (7, u2), (114, .bool s_)] ∧ St e w_ [] [(false, .box 83 (Rep.iso (fun s : fragment_Assembler => (s.own, s.open_, ())) (Rep.prod (Rep.int .u8) (Rep.prod (Rep.raw (α := List fragment_open) u13) Rep.unit))) u2 y6.2.2.2), (false, .oval (oslice 92 6 (fun _ => fragment_open.orep)) u13 y6.2.2.2.open_)]) hF (fun s4 _ w16 hI hF => ?_) (fun j3 hj3 hF => ?_)
    ·
     obtain ⟨rfl, h38⟩ := hI
     refine Run.ite rfl hF (fun e17 hF => ?_) (fun e17 hF => ?_)
     ·
      refine Run.seq ?_
      refine Run.reg ?_
      refine op (OpS.as rfl rfl rfl ?_)
      refine RunL.nil ?_
      refine Run.slim [(6, .bool false)] ⟨rfl, trivial⟩ ?_
      refine Run.retP rfl (.tmp rfl .nil) ?_
      cases hF
      exact Post.mk' ⟨rfl, rfl, rfl, rfl⟩ (h38.picks .nil) .nil
     ·
      refine Run.skip ?_
      refine Run.seq ?_
      refine Run.reg ?_
      refine op (OpS.mv rfl rfl rfl ?_)
      obtain ⟨y7, e18, hF⟩ := bindP_use hF
      refine op (OpS.callP h38 Try.func12 rfl rfl rfl rfl (vs := [.int .i64 a1, .int .i64 64]) rfl (made_Mod_ok e18) .nil ?_)
      rintro _ w17 _ _ _ ⟨rfl, rfl, rfl, rfl⟩ h39
      have h40 := h39 rfl rfl
      simp only [List.cons_append, List.nil_append] at h40
      refine op (OpS.bin rfl rfl rfl rfl rfl ?_)
      refine op (OpS.as rfl rfl rfl ?_)
      obtain ⟨x6, e19, hF⟩ := letP_use hF
      refine RunL.name e19 ?_
      refine RunL.nil ?_
      refine Run.slim [(19, .int .i64 x6), (7, u2)] ⟨rfl, rfl, trivial⟩ ?_
      refine Run.seq ?_
      refine Run.reg ?_
      refine op (OpS.mv rfl rfl rfl ?_)
      obtain ⟨x7, e20, hF⟩ := bindP_use hF
      refine op (OpS.make h40 Try.underlying22 ti5 rfl rfl (Zr.int .u8 0) rfl rfl rfl rfl e20 (by simp) (mk_fits e20) rfl (fun u15 w18 h41 => ?_))
      have h42 := (h41.pick .z).freeze
      refine op (OpS.build (f := true) (x' := (⟨9, 8, true, false, 0, false, 0, x7⟩ : Packet_)) h42 pl44 ti44 Packet_.zr rfl rfl rfl (.cons rfl Packet_.f0 rfl V.int (.cons rfl Packet_.f1 rfl V.int (.cons rfl Packet_.f2 rfl V.bool (.cons rfl Packet_.f7 rfl (V.at .z) .nil)))) (fun u16 h43 => ?_))
      refine op (OpS.alloc h43 ti44 Packet_.zr rfl rfl (fun u17 w19 h44 => ?_))
      refine op (OpS.storeB (f' := true) h44 .z PA.z Put.id ty44 rfl rfl rfl (V.at .z) (.inl rfl) (fun w20 h45 => ?_))
      refine RunL.nil ?_
      refine Run.slim [(20, u17), (19, .int .i64 x6), (7, u2)] ⟨rfl, rfl, rfl, trivial⟩ ?_
      refine Run.seq ?_
      refine Run.reg ?_
      refine op (OpS.as rfl rfl rfl ?_)
      refine RunL.nil ?_
      refine Run.seq ?_
      refine Run.seq ?_
      refine Run.reg ?_
      refine op (OpS.as rfl rfl rfl ?_)
      refine RunL.nil ?_
      refine Run.block ?_
      refine Run.slim [(7, u2), (19, .int .i64 x6), (20, u17), (21, .int .i64 0), (22, .int .i64 0)] ⟨rfl, rfl, rfl, rfl, rfl, trivial⟩ ?_
      refine Run.loopP (σ := (Int × Int × fragment_Assembler × Packet_)) (fun s_ L_ w_ => ∃ u0_ : Value, L_ = [(7, u2), (19, .int .i64 x6), (20, u17), (21, .int .i64 s_.1), (22, .int .i64 s_.2.1)] ∧ St e w_ [] [(false, .box 83 (Rep.iso (fun s : fragment_Assembler => (s.own, s.open_, ())) (Rep.prod (Rep.int .u8) (Rep.prod (Rep.raw (α := List fragment_open) u0_) Rep.unit))) u2 s_.2.2.1), (true, .box 44 Packet_.rep u17 s_.2.2.2), (false, .oval (oslice 92 6 (fun _ => fragment_open.orep)) u0_ s_.2.2.1.open_)]) hF ⟨u13, rfl, (h45.facts .nil).picks (.cons (.s .z) (.cons .z (.cons .z .nil)))⟩ (fun k2 hk2 s5 _ w21 hI hF => ?_)
      obtain ⟨u18, rfl, h46⟩ := hI
      refine Run.seq ?_
      refine Run.seq ?_
      refine Run.reg ?_
      refine op (OpS.mv rfl rfl rfl ?_)
      refine op (OpS.bin rfl rfl rfl rfl rfl ?_)
      refine RunL.nil ?_
      refine Run.slim [(122, .bool (decide (s5.2.1 < 514))), (7, u2), (19, .int .i64 x6), (20, u17), (21, .int .i64 s5.1), (22, .int .i64 s5.2.1)] ⟨rfl, rfl, rfl, rfl, rfl, rfl, trivial⟩ ?_
      refine Run.ite rfl hF (fun e21 hF => ?_) (fun e21 hF => ?_)
      ·
       refine Run.skip ?_
       refine Run.seq ?_
       refine Run.block ?_
       refine Run.seq ?_
       refine Run.reg ?_
       refine op (OpS.mv rfl rfl rfl ?_)
       refine op (OpS.loadB h46 (.s .z) PA.z Get.id ty44 rfl rfl rfl (fun u19 h47 => ?_))
       obtain ⟨y8, e22, hF⟩ := bindP_use hF
       have h48 := h47.front (.cons .z (.cons (.s .z) .nil))
       refine op (OpS.callO h48 Try.func24 rfl rfl rfl rfl (vs := [u2, u19]) rfl (fragment_Assembler_Accept_ok e22) rfl (.cons (f := true) (V.at .z) .nil) ?_)
       rintro _ w22 _ _ _ ⟨u20, u21, rfl, rfl, rfl, rfl⟩ h49
       have h50 := h49
       simp only [List.cons_append, List.nil_append] at h50
       refine op (OpS.mv rfl rfl rfl ?_)
       refine op (OpS.ext rfl rfl rfl rfl ?_)
       refine op (OpS.ext rfl rfl rfl rfl ?_)
       refine op (OpS.ext rfl rfl rfl rfl ?_)
       refine op (OpS.alloc h50 ti51 Whole_.zr rfl rfl (fun u22 w23 h51 => ?_))
       have h52 := (h51.pick .z).weak
       refine op (OpS.storeB (f' := false) h52 .z PA.z Put.id ty51 rfl rfl rfl (V.at .z) (.inr rfl) (fun w24 h53 => ?_))
       refine op (OpS.as rfl rfl rfl ?_)
       refine op (OpS.as rfl rfl rfl ?_)
       refine RunL.nil ?_
       refine Run.slim [(25, .int .i64 y8.2.2.1), (24, .bool y8.2.1), (7, u2), (19, .int .i64 x6), (20, u17), (21, .int .i64 s5.1), (22, .int .i64 s5.2.1)] ⟨rfl, rfl, rfl, rfl, rfl, rfl, rfl, trivial⟩ ?_
       refine Run.seq ?_
       refine Run.seq ?_
       refine Run.reg ?_
       refine op (OpS.mv rfl rfl rfl ?_)
       refine RunL.nil ?_
       refine Run.slim [(132, .bool y8.2.1), (25, .int .i64 y8.2.2.1), (7, u2), (19, .int .i64 x6), (20, u17), (21, .int .i64 s5.1), (22, .int .i64 s5.2.1)] ⟨rfl, rfl, rfl, rfl, rfl, rfl, rfl, trivial⟩ ?_
       refine Run.ite rfl hF (fun e23 hF => ?_) (fun e23 hF => ?_)
       ·
        refine Run.seq ?_
        refine Run.reg ?_
        refine op (OpS.as rfl rfl rfl ?_)
        refine RunL.nil ?_
        refine Run.slim [(6, .bool false)] ⟨rfl, trivial⟩ ?_
        refine Run.retP rfl (.tmp rfl .nil) ?_
        cases hF
        exact Post.mk' ⟨rfl, rfl, rfl, rfl⟩ (h53.picks .nil) .nil
       ·
        refine Run.skip ?_
        refine Run.seq ?_
        refine Run.seq ?_
        refine Run.reg ?_
        refine op (OpS.mv rfl rfl rfl ?_)
        refine op (OpS.bin rfl rfl rfl rfl rfl ?_)
        refine RunL.nil ?_
        refine Run.slim [(134, .bool (y8.2.2.1 != 0)), (25, .int .i64 y8.2.2.1), (7, u2), (19, .int .i64 x6), (20, u17), (21, .int .i64 s5.1), (22, .int .i64 s5.2.1)] ⟨rfl, rfl, rfl, rfl, rfl, rfl, rfl, trivial⟩ ?_
        refine Run.ite rfl hF (fun e24 hF => ?_) (fun e24 hF => ?_)
        ·
         refine Run.seq ?_
         refine Run.reg ?_
         refine op (OpS.mv rfl rfl rfl ?_)
         refine op (OpS.bin rfl rfl rfl rfl rfl ?_)
         refine op (OpS.mv rfl rfl rfl ?_)
         refine RunL.join (σ := Bool) (fun s_ L_ w_ => L_ = [(6, .bool s_)] ∧ St e w_ [] []) hF (fun s6 _ w25 hI hF => ?_) (fun j4 hj4 hF => ?_)
         ·
          obtain ⟨rfl, h54⟩ := hI
          refine Run.retP rfl (.tmp rfl .nil) ?_
          cases hF
          exact Post.mk' ⟨rfl, rfl, rfl, rfl⟩ (h54.picks .nil) .nil
         ·
          refine RunL.caseb hF (fun e25 hF => ?_) (fun e25 hF => ?_)
          ·
           refine op (OpS.mv rfl rfl rfl ?_)
           refine op (OpS.mv rfl rfl rfl ?_)
           refine op (OpS.bin rfl rfl rfl rfl rfl ?_)
           refine op (OpS.bin rfl rfl rfl rfl rfl ?_)
           refine op (OpS.pick rfl rfl rfl rfl ?_)
           refine op (OpS.mv rfl rfl rfl ?_)
           refine RunL.caseb hF (fun e26 hF => ?_) (fun e26 hF => ?_)
           ·
            obtain ⟨y9, e27, hF⟩ := bindP_use hF
            refine op (OpS.callP h53 Try.func11 rfl rfl rfl rfl (vs := []) rfl (law22_awake_ok e27) .nil ?_)
            rintro _ w26 _ _ _ ⟨rfl, rfl, rfl, rfl⟩ h55
            have h56 := h55 rfl rfl
            simp only [List.cons_append, List.nil_append] at h56
            refine op (OpS.pick rfl rfl rfl rfl ?_)
            refine op (OpS.as rfl rfl rfl ?_)
            refine RunL.nil ?_
            refine Run.slim [(6, .bool y9)] ⟨rfl, trivial⟩ ?_
            refine Run.slim [(6, .bool y9)] ⟨rfl, trivial⟩ ?_
            exact hj4 (y9) _ _ ⟨rfl, (h56.facts .nil).picks .nil⟩ hF
           ·
            refine op (OpS.pass rfl rfl rfl ?_)
            refine op (OpS.pick rfl rfl rfl rfl ?_)
            refine op (OpS.as rfl rfl rfl ?_)
            refine RunL.nil ?_
            refine Run.slim [(6, .bool false)] ⟨rfl, trivial⟩ ?_
            refine Run.slim [(6, .bool false)] ⟨rfl, trivial⟩ ?_
            exact hj4 (false) _ _ ⟨rfl, (h53.facts .nil).picks .nil⟩ hF
          ·
           refine op (OpS.pass rfl rfl rfl ?_)
           refine op (OpS.pass rfl rfl rfl ?_)
           refine op (OpS.pass rfl rfl rfl ?_)
           refine op (OpS.pass rfl rfl rfl ?_)
           refine op (OpS.pick rfl rfl rfl rfl ?_)
           refine op (OpS.mv rfl rfl rfl ?_)
           refine op (OpS.pass rfl rfl rfl ?_)
           refine op (OpS.pick rfl rfl rfl rfl ?_)
           refine op (OpS.as rfl rfl rfl ?_)
           refine RunL.nil ?_
           refine Run.slim [(6, .bool false)] ⟨rfl, trivial⟩ ?_
           refine Run.slim [(6, .bool false)] ⟨rfl, trivial⟩ ?_
           exact hj4 (false) _ _ ⟨rfl, (h53.facts .nil).picks .nil⟩ hF
        ·
         refine Run.skip ?_
         refine Run.seq ?_
         refine Run.reg ?_
         refine op (OpS.mv rfl rfl rfl ?_)
         refine op (OpS.mv rfl rfl rfl ?_)
         refine op (OpS.bin rfl rfl rfl rfl rfl ?_)
         refine op (OpS.as rfl rfl rfl ?_)
         obtain ⟨x8, e28, hF⟩ := letP_use hF
         refine RunL.name e28 ?_
         refine RunL.nil ?_
         refine Run.slim [(21, .int .i64 x8), (7, u2), (19, .int .i64 x6), (20, u17), (22, .int .i64 s5.2.1)] ⟨rfl, rfl, rfl, rfl, rfl, trivial⟩ ?_
         refine Run.seq ?_
         refine Run.reg ?_
         refine op (OpS.fbox (o3 := 2) h53 (.s (.s (.s .z))) PA.z fa44_2 rfl rfl rfl rfl ?_)
         obtain ⟨d1, e29, hF⟩ := letP_use hF
         refine op (OpS.storeB (f' := true) h53 (.s (.s (.s .z))) PA.a (Put.of (Put.fld Packet_.f2) e29) ty4 rfl rfl rfl V.bool (.inl rfl) (fun w27 h57 => ?_))
         refine RunL.nil ?_
         refine Run.slim [(21, .int .i64 x8), (7, u2), (19, .int .i64 x6), (20, u17), (22, .int .i64 s5.2.1)] ⟨rfl, rfl, rfl, rfl, rfl, trivial⟩ ?_
         refine Run.reg ?_
         refine op (OpS.fbox (o3 := 4) h57 .z PA.z fa44_4 rfl rfl rfl rfl ?_)
         refine op (OpS.loadBi h57 .z PA.a (Get.fld Packet_.f4) ty3 rfl rfl rfl ?_)
         refine op (OpS.bin rfl rfl rfl rfl rfl ?_)
         refine op (OpS.rem rfl rfl rfl rfl (by decide) ?_)
         refine op (OpS.fbox (o3 := 4) h57 .z PA.z fa44_4 rfl rfl rfl rfl ?_)
         obtain ⟨d2, e30, hF⟩ := letP_use hF
         refine op (OpS.storeB (f' := true) h57 .z PA.a (Put.of (Put.fld Packet_.f4) e30) ty3 rfl rfl rfl V.int (.inl rfl) (fun w28 h58 => ?_))
         refine RunL.nil ?_
         refine Run.slim [(21, .int .i64 x8), (7, u2), (19, .int .i64 x6), (20, u17), (22, .int .i64 s5.2.1)] ⟨rfl, rfl, rfl, rfl, rfl, trivial⟩ ?_
         refine Run.endBlock ?_
         refine Run.reg ?_
         refine op (OpS.mv rfl rfl rfl ?_)
         refine op (OpS.bin rfl rfl rfl rfl rfl ?_)
         refine op (OpS.as rfl rfl rfl ?_)
         obtain ⟨x9, e31, hF⟩ := letP_use hF
         refine RunL.name e31 ?_
         refine RunL.nil ?_
         refine Run.slim [(22, .int .i64 x9), (21, .int .i64 x8), (7, u2), (19, .int .i64 x6), (20, u17)] ⟨rfl, rfl, rfl, rfl, rfl, trivial⟩ ?_
         refine Run.slim [(7, u2), (19, .int .i64 x6), (20, u17), (21, .int .i64 x8), (22, .int .i64 x9)] ⟨rfl, rfl, rfl, rfl, rfl, trivial⟩ ?_
         exact hk2 (x8, x9, y8.2.2.2, d2) _ _ ⟨u21, rfl, (h58.facts .nil).picks (.cons (.s (.s .z)) (.cons .z (.cons (.s .z) .nil)))⟩ hF
      ·
       refine Run.exit rfl ?_
       refine Run.seq ?_
       refine Run.reg ?_
       refine op (OpS.as rfl rfl rfl ?_)
       refine RunL.nil ?_
       refine Run.slim [(6, .bool false)] ⟨rfl, trivial⟩ ?_
       refine Run.retP rfl (.tmp rfl .nil) ?_
       cases hF
       exact Post.mk' ⟨rfl, rfl, rfl, rfl⟩ (h46.picks .nil) .nil
    ·
     refine RunL.caseb hF (fun e32 hF => ?_) (fun e32 hF => ?_)
     ·
      refine op (OpS.pass rfl rfl rfl ?_)
      refine op (OpS.pass rfl rfl rfl ?_)
      refine op (OpS.pass rfl rfl rfl ?_)
      refine op (OpS.pass rfl rfl rfl ?_)
      refine op (OpS.pass rfl rfl rfl ?_)
      refine op (OpS.pass rfl rfl rfl ?_)
      refine op (OpS.pass rfl rfl rfl ?_)
      refine op (OpS.pass rfl rfl rfl ?_)
      refine op (OpS.pass rfl rfl rfl ?_)
      refine op (OpS.pass rfl rfl rfl ?_)
      refine op (OpS.pass rfl rfl rfl ?_)
      refine op (OpS.pass rfl rfl rfl ?_)
      refine op (OpS.pass rfl rfl rfl ?_)
      refine op (OpS.pass rfl rfl rfl ?_)
      refine op (OpS.pick rfl rfl rfl rfl ?_)
      refine op (OpS.mv rfl rfl rfl ?_)
      refine op (OpS.pass rfl rfl rfl ?_)
      refine op (OpS.pass rfl rfl rfl ?_)
      refine op (OpS.pass rfl rfl rfl ?_)
      refine op (OpS.pass rfl rfl rfl ?_)
      refine op (OpS.pass rfl rfl rfl ?_)
      refine op (OpS.pass rfl rfl rfl ?_)
      refine op (OpS.pick rfl rfl rfl rfl ?_)
      refine RunL.nil ?_
      refine Run.slim [(114, .bool true), (1, .int .i64 a1), (7, u2)] ⟨rfl, rfl, rfl, trivial⟩ ?_
      refine Run.slim [(1, .int .i64 a1), (7, u2), (114, .bool true)] ⟨rfl, rfl, rfl, trivial⟩ ?_
      exact hj3 (true) _ _ ⟨rfl, (h37.facts .nil).picks (.cons (.s .z) (.cons (.s .z) .nil))⟩ hF
     ·
      refine op (OpS.mv rfl rfl rfl ?_)
      refine op (OpS.mv rfl rfl rfl ?_)
      refine RunL.caseb hF (fun e33 hF => ?_) (fun e33 hF => ?_)
      ·
       refine op (OpS.mv rfl rfl rfl ?_)
       refine op (OpS.bin rfl rfl rfl rfl rfl ?_)
       refine op (OpS.mv rfl rfl rfl ?_)
       refine RunL.caseb hF (fun e34 hF => ?_) (fun e34 hF => ?_)
       ·
        refine op (OpS.pass rfl rfl rfl ?_)
        refine op (OpS.pass rfl rfl rfl ?_)
        refine op (OpS.pass rfl rfl rfl ?_)
        refine op (OpS.pass rfl rfl rfl ?_)
        refine op (OpS.pass rfl rfl rfl ?_)
        refine op (OpS.pass rfl rfl rfl ?_)
        refine op (OpS.pass rfl rfl rfl ?_)
        refine op (OpS.pick rfl rfl rfl rfl ?_)
        refine op (OpS.pick rfl rfl rfl rfl ?_)
        refine op (OpS.pick rfl rfl rfl rfl ?_)
        refine op (OpS.mv rfl rfl rfl ?_)
        refine op (OpS.pass rfl rfl rfl ?_)
        refine op (OpS.pass rfl rfl rfl ?_)
        refine op (OpS.pass rfl rfl rfl ?_)
        refine op (OpS.pass rfl rfl rfl ?_)
        refine op (OpS.pass rfl rfl rfl ?_)
        refine op (OpS.pass rfl rfl rfl ?_)
        refine op (OpS.pick rfl rfl rfl rfl ?_)
        refine RunL.nil ?_
        refine Run.slim [(114, .bool true), (1, .int .i64 a1), (7, u2)] ⟨rfl, rfl, rfl, trivial⟩ ?_
        refine Run.slim [(1, .int .i64 a1), (7, u2), (114, .bool true)] ⟨rfl, rfl, rfl, trivial⟩ ?_
        exact hj3 (true) _ _ ⟨rfl, (h37.facts .nil).picks (.cons (.s .z) (.cons (.s .z) .nil))⟩ hF
       ·
        refine op (OpS.fbox (o3 := 3) h37 .z PA.z fa51_3 rfl rfl rfl rfl ?_)
        refine op (OpS.loadB h37 .z PA.a (Get.fld Whole_.f3) ty22 rfl rfl rfl (fun u23 h59 => ?_))
        refine op (OpS.mv rfl rfl rfl ?_)
        refine op (OpS.conv Try.underlying3 Try.underlying5 rfl rfl rfl ?_)
        refine op (OpS.lit (r := (Rep.int .u8)) (f := true) h59 Try.underlying22 ti5 rfl rfl rfl rfl rfl (.cons rfl V.int (.cons rfl V.int .nil)) rfl rfl (fun u24 w29 h60 => ?_))
        obtain ⟨y10, e35, hF⟩ := bindP_use hF
        refine op (OpS.callP h60 Try.func29 rfl rfl rfl rfl (vs := [u23, u24]) rfl (ref01_Same_ok e35) (.cons (f := false) (V.at (.s .z)) (.cons (f := true) (V.at .z) .nil)) ?_)
        rintro _ w30 _ _ _ ⟨rfl, rfl, rfl, rfl⟩ h61
        have h62 := h61 rfl rfl
        simp only [List.cons_append, List.nil_append] at h62
        refine op (OpS.not rfl rfl rfl ?_)
        refine op (OpS.pick rfl rfl rfl rfl ?_)
        refine op (OpS.pick rfl rfl rfl rfl ?_)
        refine op (OpS.pick rfl rfl rfl rfl ?_)
        refine op (OpS.mv rfl rfl rfl ?_)
        refine RunL.caseb hF (fun e36 hF => ?_) (fun e36 hF => ?_)
        ·
         refine op (OpS.pass rfl rfl rfl ?_)
         refine op (OpS.pass rfl rfl rfl ?_)
         refine op (OpS.pass rfl rfl rfl ?_)
         refine op (OpS.pass rfl rfl rfl ?_)
         refine op (OpS.pass rfl rfl rfl ?_)
         refine op (OpS.pass rfl rfl rfl ?_)
         refine op (OpS.pick rfl rfl rfl rfl ?_)
         refine RunL.nil ?_
         refine Run.slim [(114, .bool true), (1, .int .i64 a1), (7, u2)] ⟨rfl, rfl, rfl, trivial⟩ ?_
         refine Run.slim [(1, .int .i64 a1), (7, u2), (114, .bool true)] ⟨rfl, rfl, rfl, trivial⟩ ?_
         exact hj3 (true) _ _ ⟨rfl, (h62.facts .nil).picks (.cons (.s .z) (.cons (.s .z) .nil))⟩ hF
        ·
         refine op (OpS.mv rfl rfl rfl ?_)
         refine op (OpS.not rfl rfl rfl ?_)
         refine op (OpS.mv rfl rfl rfl ?_)
         refine RunL.caseb hF (fun e37 hF => ?_) (fun e37 hF => ?_)
         ·
          refine op (OpS.mv rfl rfl rfl ?_)
          refine op (OpS.bin rfl rfl rfl rfl rfl ?_)
          refine op (OpS.pick rfl rfl rfl rfl ?_)
          refine op (OpS.pick rfl rfl rfl rfl ?_)
          refine RunL.nil ?_
          refine Run.slim [(114, .bool (y6.2.2.1 != 8)), (1, .int .i64 a1), (7, u2)] ⟨rfl, rfl, rfl, trivial⟩ ?_
          refine Run.slim [(1, .int .i64 a1), (7, u2), (114, .bool (y6.2.2.1 != 8))] ⟨rfl, rfl, rfl, trivial⟩ ?_
          exact hj3 (y6.2.2.1 != 8) _ _ ⟨rfl, (h62.facts .nil).picks (.cons (.s .z) (.cons (.s .z) .nil))⟩ hF
         ·
          refine op (OpS.pass rfl rfl rfl ?_)
          refine op (OpS.pass rfl rfl rfl ?_)
          refine op (OpS.pick rfl rfl rfl rfl ?_)
          refine op (OpS.pick rfl rfl rfl rfl ?_)
          refine RunL.nil ?_
          refine Run.slim [(114, .bool false), (1, .int .i64 a1), (7, u2)] ⟨rfl, rfl, rfl, trivial⟩ ?_
          refine Run.slim [(1, .int .i64 a1), (7, u2), (114, .bool false)] ⟨rfl, rfl, rfl, trivial⟩ ?_
          exact hj3 (false) _ _ ⟨rfl, (h62.facts .nil).picks (.cons (.s .z) (.cons (.s .z) .nil))⟩ hF
      ·
       refine op (OpS.pass rfl rfl rfl ?_)
       refine op (OpS.pass rfl rfl rfl ?_)
       refine op (OpS.pass rfl rfl rfl ?_)
       refine op (OpS.pass rfl rfl rfl ?_)
       refine op (OpS.pass rfl rfl rfl ?_)
       refine op (OpS.pass rfl rfl rfl ?_)
       refine op (OpS.pass rfl rfl rfl ?_)
       refine op (OpS.pass rfl rfl rfl ?_)
       refine op (OpS.pass rfl rfl rfl ?_)
       refine op (OpS.pass rfl rfl rfl ?_)
       refine op (OpS.pass rfl rfl rfl ?_)
       refine op (OpS.pick rfl rfl rfl rfl ?_)
       refine op (OpS.pick rfl rfl rfl rfl ?_)
       refine op (OpS.mv rfl rfl rfl ?_)
       refine op (OpS.mv rfl rfl rfl ?_)
       refine op (OpS.not rfl rfl rfl ?_)
       refine op (OpS.mv rfl rfl rfl ?_)
       refine RunL.caseb hF (fun e38 hF => ?_) (fun e38 hF => ?_)
       ·
        refine op (OpS.mv rfl rfl rfl ?_)
        refine op (OpS.bin rfl rfl rfl rfl rfl ?_)
        refine op (OpS.pick rfl rfl rfl rfl ?_)
        refine op (OpS.pick rfl rfl rfl rfl ?_)
        refine RunL.nil ?_
        refine Run.slim [(114, .bool (y6.2.2.1 != 8)), (1, .int .i64 a1), (7, u2)] ⟨rfl, rfl, rfl, trivial⟩ ?_
        refine Run.slim [(1, .int .i64 a1), (7, u2), (114, .bool (y6.2.2.1 != 8))] ⟨rfl, rfl, rfl, trivial⟩ ?_
        exact hj3 (y6.2.2.1 != 8) _ _ ⟨rfl, (h37.facts .nil).picks (.cons (.s .z) (.cons (.s .z) .nil))⟩ hF
       ·
        refine op (OpS.pass rfl rfl rfl ?_)
        refine op (OpS.pass rfl rfl rfl ?_)
        refine op (OpS.pick rfl rfl rfl rfl ?_)
        refine op (OpS.pick rfl rfl rfl rfl ?_)
        refine RunL.nil ?_
        refine Run.slim [(114, .bool false), (1, .int .i64 a1), (7, u2)] ⟨rfl, rfl, rfl, trivial⟩ ?_
        refine Run.slim [(1, .int .i64 a1), (7, u2), (114, .bool false)] ⟨rfl, rfl, rfl, trivial⟩ ?_
        exact hj3 (false) _ _ ⟨rfl, (h37.facts .nil).picks (.cons (.s .z) (.cons (.s .z) .nil))⟩ hF
 ·
  refine RunL.caseb hF (fun e39 hF => ?_) (fun e39 hF => ?_)
  ·
   refine op (OpS.pass rfl rfl rfl ?_)
   refine op (OpS.pass rfl rfl rfl ?_)
   refine op (OpS.pick rfl rfl rfl rfl ?_)
   refine RunL.nil ?_
   refine Run.slim [(35, .bool true), (7, u1), (0, .int .i64 a0), (1, .int .i64 a1), (2, .int .i64 a2)] ⟨rfl, rfl, rfl, rfl, rfl, trivial⟩ ?_
   refine Run.slim [(0, .int .i64 a0), (1, .int .i64 a1), (2, .int .i64 a2), (7, u1), (35, .bool true)] ⟨rfl, rfl, rfl, rfl, rfl, trivial⟩ ?_
   exact hj1 (true) _ _ ⟨rfl, (h2.facts .nil).picks (.cons .z .nil)⟩ hF
  ·
   refine op (OpS.mv rfl rfl rfl ?_)
   refine op (OpS.bin rfl rfl rfl rfl rfl ?_)
   refine op (OpS.pick rfl rfl rfl rfl ?_)
   refine RunL.nil ?_
   refine Run.slim [(35, .bool (y1.2 != 0)), (7, u1), (0, .int .i64 a0), (1, .int .i64 a1), (2, .int .i64 a2)] ⟨rfl, rfl, rfl, rfl, rfl, trivial⟩ ?_
   refine Run.slim [(0, .int .i64 a0), (1, .int .i64 a1), (2, .int .i64 a2), (7, u1), (35, .bool (y1.2 != 0))] ⟨rfl, rfl, rfl, rfl, rfl, trivial⟩ ?_
   exact hj1 (y1.2 != 0) _ _ ⟨rfl, (h2.facts .nil).picks (.cons .z .nil)⟩ hF
end Lift
