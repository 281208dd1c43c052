/- Each Go function computes its plain function. Written by lift.py. -/
import Derived.Test.YtnilklnmhndlnaaFragmentPlaysWalksA
set_option linter.unusedVariables false
set_option linter.unusedSimpArgs false
namespace Lift
open Go Go.Proofs
open RunL (op)
set_option maxHeartbeats 8000000 in
theorem law22_awake_ok {fuel : Nat}  {y : Bool} (hF : law22_awake fuel  = some y) {w : World} :
  Spec Try.prog 11 [].toArray w [] [] (fun v Γr Ωr Ωo => v = .bool y ∧ Γr = [] ∧ Ωr = [] ∧ Ωo = []) := by
 refine Spec.of (L := []) Try.func11 rfl trivial rfl (fun e h => ?_)
 unfold law22_awake at hF
 refine Run.seq ?_
 refine Run.reg ?_
 refine op (OpS.as rfl rfl rfl ?_)
 refine RunL.nil ?_
 refine Run.slim [] trivial ?_
 refine Run.seq ?_
 refine Run.reg ?_
 refine op (OpS.lit (r := (Rep.int .u8)) (f := true) h Try.underlying22 ti5 rfl rfl rfl rfl rfl (.cons rfl V.int (.cons rfl V.int (.cons rfl V.int (.cons rfl V.int (.cons rfl V.int .nil))))) rfl rfl (fun u1 w1 h1 => ?_))
 obtain ⟨y1, e1, hF⟩ := bindP_use hF
 have h2 := h1.front .nil
 refine op (OpS.callO h2 Try.func13 rfl rfl rfl rfl (vs := [.int .u8 9, .int .u8 10, .bool true, .int .i64 1, .int .i64 2, u1]) rfl (fragment_Split_ok e1) rfl (.cons (f := true) (V.at .z) .nil) ?_)
 rintro _ w2 _ _ _ ⟨u2, rfl, rfl, rfl, rfl⟩ h3
 have h4 := h3
 simp only [List.cons_append, List.nil_append] at h4
 refine op (OpS.mv rfl rfl rfl ?_)
 refine op (OpS.ext rfl rfl rfl rfl ?_)
 refine op (OpS.ext rfl rfl rfl rfl ?_)
 refine op (OpS.as rfl rfl rfl ?_)
 have h5 := (h4.pick .z).freeze
 refine op (OpS.as rfl rfl rfl ?_)
 refine RunL.nil ?_
 refine Run.slim [(2, .int .i64 y1.2), (1, u2)] ⟨rfl, rfl, trivial⟩ ?_
 refine Run.seq ?_
 refine Run.reg ?_
 obtain ⟨y2, e2, hF⟩ := bindP_use hF
 refine op (OpS.callP h5 Try.func17 rfl rfl rfl rfl (vs := [.int .u8 9]) rfl (fragment_New_ok e2) .nil ?_)
 rintro _ w3 _ _ _ ⟨u3, rfl, rfl, rfl, rfl⟩ h6
 have h7 := h6 rfl rfl
 simp only [List.cons_append, List.nil_append] at h7
 refine op (OpS.mv rfl rfl rfl ?_)
 refine op (OpS.ext rfl rfl rfl rfl ?_)
 refine op (OpS.ext rfl rfl rfl rfl ?_)
 refine op (OpS.as rfl rfl rfl ?_)
 refine op (OpS.as rfl rfl rfl ?_)
 refine RunL.nil ?_
 refine Run.slim [(4, .int .i64 y2.2), (3, u3), (2, .int .i64 y1.2), (1, u2)] ⟨rfl, rfl, rfl, rfl, trivial⟩ ?_
 refine Run.seq ?_
 refine Run.seq ?_
 refine Run.reg ?_
 refine op (OpS.mv rfl rfl rfl ?_)
 refine op (OpS.bin rfl rfl rfl rfl rfl ?_)
 refine op (OpS.mv rfl rfl rfl ?_)
 refine RunL.join (σ := Bool) (fun s_ L_ w_ => L_ = [(1, u2), (3, u3), (49, .bool s_)] ∧ St e w_ [(false, .val (Rep.slice Packet_.rep) u2 y1.1)] [(true, .opt (fun x_ => .ex fun v_ => .sep (.box 83 (Rep.iso (fun s : fragment_Assembler => (s.own, s.open_, ())) (Rep.prod (Rep.int .u8) (Rep.prod (Rep.raw (α := List fragment_open) v_) Rep.unit))) u3 x_) (.oval (oslice 92 6 (fun _ => fragment_open.orep)) v_ x_.open_)) u3 y2.1)]) hF (fun s1 _ w4 hI hF => ?_) (fun j1 hj1 hF => ?_)
 ·
  obtain ⟨rfl, h8⟩ := hI
  refine Run.ite rfl hF (fun e3 hF => ?_) (fun e3 hF => ?_)
  ·
   refine Run.seq ?_
   refine Run.reg ?_
   refine op (OpS.as rfl rfl rfl ?_)
   refine RunL.nil ?_
   refine Run.slim [(0, .bool false)] ⟨rfl, trivial⟩ ?_
   refine Run.retP rfl (.tmp rfl .nil) ?_
   cases hF
   exact Post.mk' ⟨rfl, rfl, rfl, rfl⟩ (h8.picks .nil) .nil
  ·
   refine Run.skip ?_
   refine Run.seq ?_
   refine Run.reg ?_
   refine op (OpS.mv rfl rfl rfl ?_)
   refine op (OpS.mv rfl rfl rfl ?_)
   obtain ⟨x1, e4, hF⟩ := bindP_use hF
   refine op (OpS.iptr h8 Try.underlying27 ty44 rfl rfl rfl rfl (V.at .z) e4 (fun u4 h9 => ?_))
   refine op (OpS.load h9 ty44 rfl rfl rfl .z (fun u5 h10 => ?_))
   obtain ⟨x2, e5, hF⟩ := bindP_use hF
   have h11 := St.unopt (h10.pick .z) e5
   obtain ⟨u6, h12⟩ := h11.unex
   have h13 := h12.unsep
   obtain ⟨y3, e6, hF⟩ := bindP_use hF
   have h14 := (h13.pick .z).weak
   have h15 := (h14.pick (.s .z)).weak
   have h16 := h15.front (.cons (.s .z) (.cons .z .nil))
   refine op (OpS.callO h16 Try.func24 rfl rfl rfl rfl (vs := [u3, u5]) rfl (fragment_Assembler_Accept_ok e6) rfl (.cons (f := false) (V.at .z) .nil) ?_)
   rintro _ w5 _ _ _ ⟨u7, u8, rfl, rfl, rfl, rfl⟩ h17
   have h18 := h17
   simp only [List.cons_append, List.nil_append] at h18
   refine op (OpS.mv rfl rfl rfl ?_)
   refine op (OpS.ext rfl rfl rfl rfl ?_)
   refine op (OpS.ext rfl rfl rfl rfl ?_)
   refine op (OpS.ext rfl rfl rfl rfl ?_)
   refine op (OpS.alloc h18 ti51 Whole_.zr rfl rfl (fun u9 w6 h19 => ?_))
   have h20 := (h19.pick .z).weak
   refine op (OpS.storeB (f' := false) h20 .z PA.z Put.id ty51 rfl rfl rfl (V.at .z) (.inr rfl) (fun w7 h21 => ?_))
   refine op (OpS.as rfl rfl rfl ?_)
   refine op (OpS.as rfl rfl rfl ?_)
   refine RunL.nil ?_
   refine Run.slim [(7, .int .i64 y3.2.2.1), (6, .bool y3.2.1), (1, u2), (3, u3)] ⟨rfl, rfl, rfl, rfl, trivial⟩ ?_
   refine Run.seq ?_
   refine Run.reg ?_
   refine op (OpS.mv rfl rfl rfl ?_)
   refine op (OpS.mv rfl rfl rfl ?_)
   obtain ⟨x3, e7, hF⟩ := bindP_use hF
   refine op (OpS.iptr h21 Try.underlying27 ty44 rfl rfl rfl rfl (V.at (.s (.s (.s .z)))) e7 (fun u10 h22 => ?_))
   refine op (OpS.load h22 ty44 rfl rfl rfl .z (fun u11 h23 => ?_))
   obtain ⟨y4, e8, hF⟩ := bindP_use hF
   have h24 := h23.front (.cons (.s .z) (.cons (.s .z) .nil))
   refine op (OpS.callO h24 Try.func24 rfl rfl rfl rfl (vs := [u3, u11]) rfl (fragment_Assembler_Accept_ok e8) rfl (.cons (f := false) (V.at .z) .nil) ?_)
   rintro _ w8 _ _ _ ⟨u12, u13, rfl, rfl, rfl, rfl⟩ h25
   have h26 := h25
   simp only [List.cons_append, List.nil_append] at h26
   refine op (OpS.mv rfl rfl rfl ?_)
   refine op (OpS.ext rfl rfl rfl rfl ?_)
   refine op (OpS.ext rfl rfl rfl rfl ?_)
   refine op (OpS.ext rfl rfl rfl rfl ?_)
   refine op (OpS.alloc h26 ti51 Whole_.zr rfl rfl (fun u14 w9 h27 => ?_))
   have h28 := (h27.pick .z).weak
   refine op (OpS.storeB (f' := false) h28 .z PA.z Put.id ty51 rfl rfl rfl (V.at .z) (.inr rfl) (fun w10 h29 => ?_))
   refine op (OpS.as rfl rfl rfl ?_)
   refine op (OpS.as rfl rfl rfl ?_)
   refine RunL.nil ?_
   refine Run.slim [(10, .int .i64 y4.2.2.1), (9, .bool y4.2.1), (7, .int .i64 y3.2.2.1), (6, .bool y3.2.1), (3, u3)] ⟨rfl, rfl, rfl, rfl, rfl, trivial⟩ ?_
   refine Run.seq ?_
   refine Run.reg ?_
   refine op (OpS.mv rfl rfl rfl ?_)
   refine op (OpS.bin rfl rfl rfl rfl rfl ?_)
   refine op (OpS.mv rfl rfl rfl ?_)
   refine RunL.caseb hF (fun e9 hF => ?_) (fun e9 hF => ?_)
   ·
    refine op (OpS.mv rfl rfl rfl ?_)
    refine op (OpS.not rfl rfl rfl ?_)
    refine op (OpS.pick rfl rfl rfl rfl ?_)
    refine op (OpS.mv rfl rfl rfl ?_)
    refine RunL.caseb hF (fun e10 hF => ?_) (fun e10 hF => ?_)
    ·
     refine op (OpS.mv rfl rfl rfl ?_)
     refine op (OpS.bin rfl rfl rfl rfl rfl ?_)
     refine op (OpS.pick rfl rfl rfl rfl ?_)
     refine op (OpS.mv rfl rfl rfl ?_)
     refine RunL.caseb hF (fun e11 hF => ?_) (fun e11 hF => ?_)
     ·
      refine op (OpS.mv rfl rfl rfl ?_)
      refine op (OpS.not rfl rfl rfl ?_)
      refine op (OpS.pick rfl rfl rfl rfl ?_)
      refine op (OpS.mv rfl rfl rfl ?_)
      refine RunL.caseb hF (fun e12 hF => ?_) (fun e12 hF => ?_)
      ·
       refine op (OpS.mv rfl rfl rfl ?_)
       obtain ⟨y5, e13, hF⟩ := bindP_use hF
       have h30 := h29.front (.cons (.s .z) (.cons (.s .z) .nil))
       refine op (OpS.callO h30 Try.func27 rfl rfl rfl rfl (vs := [u3]) rfl (fragment_Assembler_Open_ok e13) rfl .nil ?_)
       rintro _ w11 _ _ _ ⟨rfl, rfl, rfl, rfl⟩ h31
       have h32 := h31
       simp only [List.cons_append, List.nil_append] at h32
       refine op (OpS.bin rfl rfl rfl rfl rfl ?_)
       refine op (OpS.pick rfl rfl rfl rfl ?_)
       refine op (OpS.as rfl rfl rfl ?_)
       obtain ⟨x4, e14, hF⟩ := letP_use hF
       refine RunL.nameb e14 ?_
       refine RunL.nil ?_
       refine Run.slim [(0, .bool x4)] ⟨rfl, trivial⟩ ?_
       refine Run.retP rfl (.tmp rfl .nil) ?_
       cases hF
       exact Post.mk' ⟨rfl, rfl, rfl, rfl⟩ (h32.picks .nil) .nil
      ·
       refine op (OpS.pass rfl rfl rfl ?_)
       refine op (OpS.pass rfl rfl rfl ?_)
       refine op (OpS.pass rfl rfl rfl ?_)
       refine op (OpS.pick rfl rfl rfl rfl ?_)
       refine op (OpS.as rfl rfl rfl ?_)
       refine RunL.nil ?_
       refine Run.slim [(0, .bool false)] ⟨rfl, trivial⟩ ?_
       refine Run.retP rfl (.tmp rfl .nil) ?_
       cases hF
       exact Post.mk' ⟨rfl, rfl, rfl, rfl⟩ (h29.picks .nil) .nil
     ·
      refine op (OpS.pass rfl rfl rfl ?_)
      refine op (OpS.pass rfl rfl rfl ?_)
      refine op (OpS.pick rfl rfl rfl rfl ?_)
      refine op (OpS.mv rfl rfl rfl ?_)
      refine op (OpS.pass rfl rfl rfl ?_)
      refine op (OpS.pass rfl rfl rfl ?_)
      refine op (OpS.pass rfl rfl rfl ?_)
      refine op (OpS.pick rfl rfl rfl rfl ?_)
      refine op (OpS.as rfl rfl rfl ?_)
      refine RunL.nil ?_
      refine Run.slim [(0, .bool false)] ⟨rfl, trivial⟩ ?_
      refine Run.retP rfl (.tmp rfl .nil) ?_
      cases hF
      exact Post.mk' ⟨rfl, rfl, rfl, rfl⟩ (h29.picks .nil) .nil
    ·
     refine op (OpS.pass rfl rfl rfl ?_)
     refine op (OpS.pass rfl rfl rfl ?_)
     refine op (OpS.pick rfl rfl rfl rfl ?_)
     refine op (OpS.mv rfl rfl rfl ?_)
     refine op (OpS.pass rfl rfl rfl ?_)
     refine op (OpS.pass rfl rfl rfl ?_)
     refine op (OpS.pick rfl rfl rfl rfl ?_)
     refine op (OpS.mv rfl rfl rfl ?_)
     refine op (OpS.pass rfl rfl rfl ?_)
     refine op (OpS.pass rfl rfl rfl ?_)
     refine op (OpS.pass rfl rfl rfl ?_)
     refine op (OpS.pick rfl rfl rfl rfl ?_)
     refine op (OpS.as rfl rfl rfl ?_)
     refine RunL.nil ?_
     refine Run.slim [(0, .bool false)] ⟨rfl, trivial⟩ ?_
     refine Run.retP rfl (.tmp rfl .nil) ?_
     cases hF
     exact Post.mk' ⟨rfl, rfl, rfl, rfl⟩ (h29.picks .nil) .nil
   ·
    refine op (OpS.pass rfl rfl rfl ?_)
    refine op (OpS.pass rfl rfl rfl ?_)
    refine op (OpS.pick rfl rfl rfl rfl ?_)
    refine op (OpS.mv rfl rfl rfl ?_)
    refine op (OpS.pass rfl rfl rfl ?_)
    refine op (OpS.pass rfl rfl rfl ?_)
    refine op (OpS.pick rfl rfl rfl rfl ?_)
    refine op (OpS.mv rfl rfl rfl ?_)
    refine op (OpS.pass rfl rfl rfl ?_)
    refine op (OpS.pass rfl rfl rfl ?_)
    refine op (OpS.pick rfl rfl rfl rfl ?_)
    refine op (OpS.mv rfl rfl rfl ?_)
    refine op (OpS.pass rfl rfl rfl ?_)
    refine op (OpS.pass rfl rfl rfl ?_)
    refine op (OpS.pass rfl rfl rfl ?_)
    refine op (OpS.pick rfl rfl rfl rfl ?_)
    refine op (OpS.as rfl rfl rfl ?_)
    refine RunL.nil ?_
    refine Run.slim [(0, .bool false)] ⟨rfl, trivial⟩ ?_
    refine Run.retP rfl (.tmp rfl .nil) ?_
    cases hF
    exact Post.mk' ⟨rfl, rfl, rfl, rfl⟩ (h29.picks .nil) .nil
 ·
  refine RunL.caseb hF (fun e15 hF => ?_) (fun e15 hF => ?_)
  ·
   refine op (OpS.pass rfl rfl rfl ?_)
   refine op (OpS.pass rfl rfl rfl ?_)
   refine op (OpS.pick rfl rfl rfl rfl ?_)
   refine op (OpS.mv rfl rfl rfl ?_)
   refine op (OpS.pass rfl rfl rfl ?_)
   refine op (OpS.pass rfl rfl rfl ?_)
   refine op (OpS.pick rfl rfl rfl rfl ?_)
   refine op (OpS.mv rfl rfl rfl ?_)
   refine op (OpS.pass rfl rfl rfl ?_)
   refine op (OpS.pass rfl rfl rfl ?_)
   refine op (OpS.pass rfl rfl rfl ?_)
   refine op (OpS.pick rfl rfl rfl rfl ?_)
   refine op (OpS.mv rfl rfl rfl ?_)
   refine op (OpS.pass rfl rfl rfl ?_)
   refine op (OpS.pass rfl rfl rfl ?_)
   refine op (OpS.pass rfl rfl rfl ?_)
   refine op (OpS.pass rfl rfl rfl ?_)
   refine op (OpS.pass rfl rfl rfl ?_)
   refine op (OpS.pass rfl rfl rfl ?_)
   refine op (OpS.pick rfl rfl rfl rfl ?_)
   refine op (OpS.mv rfl rfl rfl ?_)
   refine op (OpS.pass rfl rfl rfl ?_)
   refine op (OpS.pass rfl rfl rfl ?_)
   refine op (OpS.pass rfl rfl rfl ?_)
   refine op (OpS.pass rfl rfl rfl ?_)
   refine op (OpS.pass rfl rfl rfl ?_)
   refine op (OpS.pick rfl rfl rfl rfl ?_)
   refine RunL.nil ?_
   refine Run.slim [(49, .bool true), (3, u3), (1, u2)] ⟨rfl, rfl, rfl, trivial⟩ ?_
   refine Run.slim [(1, u2), (3, u3), (49, .bool true)] ⟨rfl, rfl, rfl, trivial⟩ ?_
   exact hj1 (true) _ _ ⟨rfl, (h7.facts (.atm .z .nil)).picks (.cons .z .nil)⟩ hF
  ·
   refine op (OpS.mv rfl rfl rfl ?_)
   refine op (OpS.bin rfl rfl rfl rfl rfl ?_)
   refine op (OpS.pick rfl rfl rfl rfl ?_)
   refine op (OpS.mv rfl rfl rfl ?_)
   refine RunL.caseb hF (fun e16 hF => ?_) (fun e16 hF => ?_)
   ·
    refine op (OpS.pass rfl rfl rfl ?_)
    refine op (OpS.pass rfl rfl rfl ?_)
    refine op (OpS.pick rfl rfl rfl rfl ?_)
    refine op (OpS.mv rfl rfl rfl ?_)
    refine op (OpS.pass rfl rfl rfl ?_)
    refine op (OpS.pass rfl rfl rfl ?_)
    refine op (OpS.pass rfl rfl rfl ?_)
    refine op (OpS.pick rfl rfl rfl rfl ?_)
    refine op (OpS.mv rfl rfl rfl ?_)
    refine op (OpS.pass rfl rfl rfl ?_)
    refine op (OpS.pass rfl rfl rfl ?_)
    refine op (OpS.pass rfl rfl rfl ?_)
    refine op (OpS.pass rfl rfl rfl ?_)
    refine op (OpS.pass rfl rfl rfl ?_)
    refine op (OpS.pass rfl rfl rfl ?_)
    refine op (OpS.pick rfl rfl rfl rfl ?_)
    refine op (OpS.mv rfl rfl rfl ?_)
    refine op (OpS.pass rfl rfl rfl ?_)
    refine op (OpS.pass rfl rfl rfl ?_)
    refine op (OpS.pass rfl rfl rfl ?_)
    refine op (OpS.pass rfl rfl rfl ?_)
    refine op (OpS.pass rfl rfl rfl ?_)
    refine op (OpS.pick rfl rfl rfl rfl ?_)
    refine RunL.nil ?_
    refine Run.slim [(49, .bool true), (3, u3), (1, u2)] ⟨rfl, rfl, rfl, trivial⟩ ?_
    refine Run.slim [(1, u2), (3, u3), (49, .bool true)] ⟨rfl, rfl, rfl, trivial⟩ ?_
    exact hj1 (true) _ _ ⟨rfl, (h7.facts (.atm .z .nil)).picks (.cons .z .nil)⟩ hF
   ·
    refine op (OpS.mv rfl rfl rfl ?_)
    refine op (OpS.onilE h7 .z (fun _ G_ S_ w_ h_ => ptr_one1 G_ S_ w_ h_) Try.underlying35 rfl rfl rfl rfl ?_)
    refine op (OpS.pick rfl rfl rfl rfl ?_)
    refine op (OpS.mv rfl rfl rfl ?_)
    refine RunL.caseb hF (fun e17 hF => ?_) (fun e17 hF => ?_)
    ·
     refine op (OpS.pass rfl rfl rfl ?_)
     refine op (OpS.pass rfl rfl rfl ?_)
     refine op (OpS.pass rfl rfl rfl ?_)
     refine op (OpS.pick rfl rfl rfl rfl ?_)
     refine op (OpS.mv rfl rfl rfl ?_)
     refine op (OpS.pass rfl rfl rfl ?_)
     refine op (OpS.pass rfl rfl rfl ?_)
     refine op (OpS.pass rfl rfl rfl ?_)
     refine op (OpS.pass rfl rfl rfl ?_)
     refine op (OpS.pass rfl rfl rfl ?_)
     refine op (OpS.pass rfl rfl rfl ?_)
     refine op (OpS.pick rfl rfl rfl rfl ?_)
     refine op (OpS.mv rfl rfl rfl ?_)
     refine op (OpS.pass rfl rfl rfl ?_)
     refine op (OpS.pass rfl rfl rfl ?_)
     refine op (OpS.pass rfl rfl rfl ?_)
     refine op (OpS.pass rfl rfl rfl ?_)
     refine op (OpS.pass rfl rfl rfl ?_)
     refine op (OpS.pick rfl rfl rfl rfl ?_)
     refine RunL.nil ?_
     refine Run.slim [(49, .bool true), (3, u3), (1, u2)] ⟨rfl, rfl, rfl, trivial⟩ ?_
     refine Run.slim [(1, u2), (3, u3), (49, .bool true)] ⟨rfl, rfl, rfl, trivial⟩ ?_
     exact hj1 (true) _ _ ⟨rfl, (h7.facts (.atm .z .nil)).picks (.cons .z .nil)⟩ hF
    ·
     refine op (OpS.mv rfl rfl rfl ?_)
     refine op (OpS.len h7 Try.underlying27 rfl rfl rfl (V.at .z) ?_)
     refine op (OpS.bin rfl rfl rfl rfl rfl ?_)
     refine op (OpS.pick rfl rfl rfl rfl ?_)
     refine op (OpS.mv rfl rfl rfl ?_)
     refine RunL.caseb hF (fun e18 hF => ?_) (fun e18 hF => ?_)
     ·
      refine op (OpS.pass rfl rfl rfl ?_)
      refine op (OpS.pass rfl rfl rfl ?_)
      refine op (OpS.pass rfl rfl rfl ?_)
      refine op (OpS.pass rfl rfl rfl ?_)
      refine op (OpS.pass rfl rfl rfl ?_)
      refine op (OpS.pass rfl rfl rfl ?_)
      refine op (OpS.pick rfl rfl rfl rfl ?_)
      refine op (OpS.mv rfl rfl rfl ?_)
      refine op (OpS.pass rfl rfl rfl ?_)
      refine op (OpS.pass rfl rfl rfl ?_)
      refine op (OpS.pass rfl rfl rfl ?_)
      refine op (OpS.pass rfl rfl rfl ?_)
      refine op (OpS.pass rfl rfl rfl ?_)
      refine op (OpS.pick rfl rfl rfl rfl ?_)
      refine RunL.nil ?_
      refine Run.slim [(49, .bool true), (3, u3), (1, u2)] ⟨rfl, rfl, rfl, trivial⟩ ?_
      refine Run.slim [(1, u2), (3, u3), (49, .bool true)] ⟨rfl, rfl, rfl, trivial⟩ ?_
      exact hj1 (true) _ _ ⟨rfl, (h7.facts (.atm .z .nil)).picks (.cons .z .nil)⟩ hF
     ·
      refine op (OpS.mv rfl rfl rfl ?_)
      obtain ⟨x5, e19, hF⟩ := bindP_use hF
      refine op (OpS.iptr h7 Try.underlying27 ty44 rfl rfl rfl rfl (V.at .z) e19 (fun u15 h33 => ?_))
      refine op (OpS.fptr h33 fa44_7 Packet_.f7 rfl rfl rfl .z (fun u16 h34 => ?_))
      refine op (OpS.load h34 ty22 rfl rfl rfl .z (fun u17 h35 => ?_))
      refine op (OpS.len h35 Try.underlying22 rfl rfl rfl (V.at .z) ?_)
      refine op (OpS.bin rfl rfl rfl rfl rfl ?_)
      refine op (OpS.pick rfl rfl rfl rfl ?_)
      refine op (OpS.mv rfl rfl rfl ?_)
      refine RunL.caseb hF (fun e20 hF => ?_) (fun e20 hF => ?_)
      ·
       refine op (OpS.pass rfl rfl rfl ?_)
       refine op (OpS.pass rfl rfl rfl ?_)
       refine op (OpS.pass rfl rfl rfl ?_)
       refine op (OpS.pass rfl rfl rfl ?_)
       refine op (OpS.pass rfl rfl rfl ?_)
       refine op (OpS.pick rfl rfl rfl rfl ?_)
       refine RunL.nil ?_
       refine Run.slim [(49, .bool true), (3, u3), (1, u2)] ⟨rfl, rfl, rfl, trivial⟩ ?_
       refine Run.slim [(1, u2), (3, u3), (49, .bool true)] ⟨rfl, rfl, rfl, trivial⟩ ?_
       exact hj1 (true) _ _ ⟨rfl, (h35.facts (.atm (.s (.s (.s .z))) .nil)).picks (.cons .z .nil)⟩ hF
      ·
       refine op (OpS.mv rfl rfl rfl ?_)
       obtain ⟨x6, e21, hF⟩ := bindP_use hF
       refine op (OpS.iptr h35 Try.underlying27 ty44 rfl rfl rfl rfl (V.at (.s (.s (.s .z)))) e21 (fun u18 h36 => ?_))
       refine op (OpS.fptr h36 fa44_4 Packet_.f4 rfl rfl rfl .z (fun u19 h37 => ?_))
       refine op (OpS.loadi h37 ty3 rfl rfl rfl .z ?_)
       refine op (OpS.bin rfl rfl rfl rfl rfl ?_)
       refine op (OpS.pick rfl rfl rfl rfl ?_)
       refine RunL.nil ?_
       refine Run.slim [(49, .bool (x6.Sequence != 2)), (3, u3), (1, u2)] ⟨rfl, rfl, rfl, trivial⟩ ?_
       refine Run.slim [(1, u2), (3, u3), (49, .bool (x6.Sequence != 2))] ⟨rfl, rfl, rfl, trivial⟩ ?_
       exact hj1 (x6.Sequence != 2) _ _ ⟨rfl, (h37.facts (.atm (.s (.s (.s (.s (.s .z))))) .nil)).picks (.cons .z .nil)⟩ hF
theorem made_Mod_ok {fuel : Nat} {a0 : Int} {a1 : Int} {y : Int} (hF : made_Mod fuel a0 a1 = some y) {w : World} :
  Spec Try.prog 12 [.int .i64 a0, .int .i64 a1].toArray w [] [] (fun v Γr Ωr Ωo => v = .int .i64 y ∧ Γr = [] ∧ Ωr = [] ∧ Ωo = []) := by
 refine Spec.of (L := [(0, .int .i64 a0), (1, .int .i64 a1)]) Try.func12 rfl ⟨rfl, rfl, trivial⟩ rfl (fun e h => ?_)
 unfold made_Mod at hF
 refine Run.seq ?_
 refine Run.reg ?_
 refine op (OpS.as rfl rfl rfl ?_)
 refine RunL.nil ?_
 refine Run.slim [(0, .int .i64 a0), (1, .int .i64 a1)] ⟨rfl, rfl, trivial⟩ ?_
 refine Run.seq ?_
 refine Run.reg ?_
 refine op (OpS.mv rfl rfl rfl ?_)
 refine op (OpS.mv rfl rfl rfl ?_)
 obtain ⟨e1, hF⟩ := chk_use hF
 refine op (OpS.rem rfl rfl rfl rfl e1 ?_)
 refine op (OpS.as rfl rfl rfl ?_)
 refine RunL.nil ?_
 refine Run.slim [(0, .int .i64 (Int.tmod a0 a1)), (1, .int .i64 a1)] ⟨rfl, rfl, trivial⟩ ?_
 refine Run.seq ?_
 refine Run.seq ?_
 refine Run.reg ?_
 refine op (OpS.mv rfl rfl rfl ?_)
 refine op (OpS.bin rfl rfl rfl rfl rfl ?_)
 refine RunL.nil ?_
 refine Run.slim [(9, .bool (decide ((Int.tmod a0 a1) < 0))), (0, .int .i64 (Int.tmod a0 a1)), (1, .int .i64 a1)] ⟨rfl, rfl, rfl, trivial⟩ ?_
 refine Run.ite rfl hF (fun e2 hF => ?_) (fun e2 hF => ?_)
 ·
  refine Run.reg ?_
  refine op (OpS.mv rfl rfl rfl ?_)
  refine op (OpS.mv rfl rfl rfl ?_)
  refine op (OpS.bin rfl rfl rfl rfl rfl ?_)
  refine op (OpS.as rfl rfl rfl ?_)
  obtain ⟨x1, e3, hF⟩ := letP_use hF
  refine RunL.name e3 ?_
  refine RunL.nil ?_
  refine Run.slim [(0, .int .i64 x1)] ⟨rfl, trivial⟩ ?_
  refine Run.seq ?_
  refine Run.reg ?_
  refine op (OpS.mv rfl rfl rfl ?_)
  refine op (OpS.as rfl rfl rfl ?_)
  refine RunL.nil ?_
  refine Run.slim [(4, .int .i64 x1)] ⟨rfl, trivial⟩ ?_
  refine Run.retP rfl (.tmp rfl .nil) ?_
  cases hF
  exact Post.mk' ⟨rfl, rfl, rfl, rfl⟩ (h.picks .nil) .nil
 ·
  refine Run.skip ?_
  refine Run.seq ?_
  refine Run.reg ?_
  refine op (OpS.mv rfl rfl rfl ?_)
  refine op (OpS.as rfl rfl rfl ?_)
  refine RunL.nil ?_
  refine Run.slim [(4, .int .i64 (Int.tmod a0 a1))] ⟨rfl, trivial⟩ ?_
  refine Run.retP rfl (.tmp rfl .nil) ?_
  cases hF
  exact Post.mk' ⟨rfl, rfl, rfl, rfl⟩ (h.picks .nil) .nil
theorem ref22_Endpoint_ok {fuel : Nat} {a0 : Int} {y : Bool} (hF : ref22_Endpoint fuel a0 = some y) {w : World} :
  Spec Try.prog 41 [.int .u8 a0].toArray w [] [] (fun v Γr Ωr Ωo => v = .bool y ∧ Γr = [] ∧ Ωr = [] ∧ Ωo = []) := by
 refine Spec.of (L := [(0, .int .u8 a0)]) Try.func41 rfl ⟨rfl, trivial⟩ rfl (fun e h => ?_)
 unfold ref22_Endpoint at hF
 refine Run.seq ?_
 refine Run.reg ?_
 refine op (OpS.as rfl rfl rfl ?_)
 refine RunL.nil ?_
 refine Run.slim [(0, .int .u8 a0)] ⟨rfl, trivial⟩ ?_
 refine Run.seq ?_
 refine Run.reg ?_
 refine op (OpS.mv rfl rfl rfl ?_)
 refine op (OpS.bin rfl rfl rfl rfl rfl ?_)
 refine op (OpS.mv rfl rfl rfl ?_)
 refine RunL.caseb hF (fun e1 hF => ?_) (fun e1 hF => ?_)
 ·
  refine op (OpS.mv rfl rfl rfl ?_)
  refine op (OpS.bin rfl rfl rfl rfl rfl ?_)
  refine op (OpS.pick rfl rfl rfl rfl ?_)
  refine op (OpS.as rfl rfl rfl ?_)
  obtain ⟨x1, e2, hF⟩ := letP_use hF
  refine RunL.nameb e2 ?_
  refine RunL.nil ?_
  refine Run.slim [(2, .bool x1)] ⟨rfl, trivial⟩ ?_
  refine Run.retP rfl (.tmp rfl .nil) ?_
  cases hF
  exact Post.mk' ⟨rfl, rfl, rfl, rfl⟩ (h.picks .nil) .nil
 ·
  refine op (OpS.pass rfl rfl rfl ?_)
  refine op (OpS.pass rfl rfl rfl ?_)
  refine op (OpS.pick rfl rfl rfl rfl ?_)
  refine op (OpS.as rfl rfl rfl ?_)
  refine RunL.nil ?_
  refine Run.slim [(2, .bool false)] ⟨rfl, trivial⟩ ?_
  refine Run.retP rfl (.tmp rfl .nil) ?_
  cases hF
  exact Post.mk' ⟨rfl, rfl, rfl, rfl⟩ (h.picks .nil) .nil
theorem ref01_Copy_ok {fuel : Nat} {a0 : List Int} {y : (List Int)} (hF : ref01_Copy fuel a0 = some y) {w : World} {v0 : Value} :
  Spec Try.prog 42 [v0].toArray w [(false, .val (Rep.slice (Rep.int .u8)) v0 a0)] [] (fun v Γr Ωr Ωo => ∃ u0 : Value, v = u0 ∧ Γr = [] ∧ Ωr = [(true, (.slice 5 (Rep.int .u8) u0 y))] ∧ Ωo = []) := by
 refine Spec.of (L := [(0, v0)]) Try.func42 rfl ⟨rfl, trivial⟩ rfl (fun e h => ?_)
 unfold ref01_Copy at hF
 refine Run.seq ?_
 refine Run.reg ?_
 refine op (OpS.as rfl rfl rfl ?_)
 refine RunL.nil ?_
 refine Run.slim [(0, v0)] ⟨rfl, trivial⟩ ?_
 refine Run.seq ?_
 refine Run.reg ?_
 refine op (OpS.as rfl rfl rfl ?_)
 refine RunL.nil ?_
 refine Run.seq ?_
 refine Run.seq ?_
 refine Run.reg ?_
 refine op (OpS.as rfl rfl rfl ?_)
 refine RunL.nil ?_
 refine Run.block ?_
 have h1 := St.nil 5 (Rep.int .u8) h
 refine Run.slim [(0, v0), (3, (.slice none 0 0)), (4, .int .i64 0)] ⟨rfl, rfl, rfl, trivial⟩ ?_
 refine Run.loopP (σ := (Int × (List Int))) (fun s_ L_ w_ => ∃ u0_ : Value, L_ = [(0, v0), (3, u0_), (4, .int .i64 s_.1)] ∧ St e w_ [(false, .val (Rep.slice (Rep.int .u8)) v0 a0)] [(true, .slice 5 (Rep.int .u8) u0_ s_.2)]) hF ⟨(.slice none 0 0), rfl, (h1.facts (.atm .z .nil)).picks (.cons .z .nil)⟩ (fun k1 hk1 s1 _ w1 hI hF => ?_)
 obtain ⟨u1, rfl, h2⟩ := hI
 refine Run.seq ?_
 refine Run.seq ?_
 refine Run.reg ?_
 refine op (OpS.mv rfl rfl rfl ?_)
 refine op (OpS.mv rfl rfl rfl ?_)
 refine op (OpS.len h2 Try.underlying22 rfl rfl rfl (V.at .z) ?_)
 refine op (OpS.bin rfl rfl rfl rfl rfl ?_)
 refine RunL.nil ?_
 refine Run.slim [(8, .bool (decide (s1.1 < (a0.length : Int)))), (0, v0), (3, u1), (4, .int .i64 s1.1)] ⟨rfl, rfl, rfl, rfl, trivial⟩ ?_
 refine Run.ite rfl hF (fun e1 hF => ?_) (fun e1 hF => ?_)
 ·
  refine Run.skip ?_
  refine Run.seq ?_
  refine Run.block ?_
  refine Run.reg ?_
  refine op (OpS.mv rfl rfl rfl ?_)
  refine op (OpS.mv rfl rfl rfl ?_)
  refine op (OpS.mv rfl rfl rfl ?_)
  obtain ⟨x1, e2, hF⟩ := bindP_use hF
  refine op (OpS.iptr h2 Try.underlying22 ty5 rfl rfl rfl rfl (V.at .z) e2 (fun u2 h3 => ?_))
  refine op (OpS.loadi h3 ty5 rfl rfl rfl .z ?_)
  refine op (OpS.lit (r := (Rep.int .u8)) (f := true) h3 Try.underlying22 ti5 rfl rfl rfl rfl rfl (.cons rfl V.int .nil) rfl rfl (fun u3 w2 h4 => ?_))
  obtain ⟨x2, e3, hF⟩ := bindP_use hF
  refine op (OpS.app (f' := true) h4 .z Try.underlying22 ti5 rfl rfl rfl rfl rfl rfl rfl (V.at .z) (.inr Pure.int) e3 (fun u4 w3 h5 => ?_))
  refine op (OpS.as rfl rfl rfl ?_)
  refine RunL.nil ?_
  refine Run.slim [(3, u4), (0, v0), (4, .int .i64 s1.1)] ⟨rfl, rfl, rfl, trivial⟩ ?_
  refine Run.endBlock ?_
  refine Run.reg ?_
  refine op (OpS.mv rfl rfl rfl ?_)
  refine op (OpS.bin rfl rfl rfl rfl rfl ?_)
  refine op (OpS.as rfl rfl rfl ?_)
  obtain ⟨x3, e4, hF⟩ := letP_use hF
  refine RunL.name e4 ?_
  refine RunL.nil ?_
  refine Run.slim [(4, .int .i64 x3), (3, u4), (0, v0)] ⟨rfl, rfl, rfl, trivial⟩ ?_
  refine Run.slim [(0, v0), (3, u4), (4, .int .i64 x3)] ⟨rfl, rfl, rfl, trivial⟩ ?_
  exact hk1 (x3, x2) _ _ ⟨u4, rfl, (h5.facts (.atm (.s (.s .z)) .nil)).picks (.cons .z .nil)⟩ hF
 ·
  refine Run.exit rfl ?_
  refine Run.seq ?_
  refine Run.reg ?_
  refine op (OpS.mv rfl rfl rfl ?_)
  refine op (OpS.as rfl rfl rfl ?_)
  refine RunL.nil ?_
  refine Run.slim [(2, u1)] ⟨rfl, trivial⟩ ?_
  refine Run.retP rfl (.tmp rfl .nil) ?_
  cases hF
  exact Post.mk' ⟨u1, rfl, rfl, rfl, rfl⟩ (h2.picks (.cons .z .nil)) .nil
theorem ref01_Same_ok {fuel : Nat} {a0 : List Int} {a1 : List Int} {y : Bool} (hF : ref01_Same fuel a0 a1 = some y) {w : World} {v0 v1 : Value} :
  Spec Try.prog 29 [v0, v1].toArray w [(false, .val (Rep.slice (Rep.int .u8)) v0 a0), (false, .val (Rep.slice (Rep.int .u8)) v1 a1)] [] (fun v Γr Ωr Ωo => v = .bool y ∧ Γr = [] ∧ Ωr = [] ∧ Ωo = []) := by
 refine Spec.of (L := [(0, v0), (1, v1)]) Try.func29 rfl ⟨rfl, rfl, trivial⟩ rfl (fun e h => ?_)
 unfold ref01_Same at hF
 refine Run.seq ?_
 refine Run.reg ?_
 refine op (OpS.as rfl rfl rfl ?_)
 refine RunL.nil ?_
 refine Run.slim [(0, v0), (1, v1)] ⟨rfl, rfl, trivial⟩ ?_
 refine Run.seq ?_
 refine Run.seq ?_
 refine Run.reg ?_
 refine op (OpS.mv rfl rfl rfl ?_)
 refine op (OpS.len h Try.underlying22 rfl rfl rfl (V.at .z) ?_)
 refine op (OpS.mv rfl rfl rfl ?_)
 refine op (OpS.len h Try.underlying22 rfl rfl rfl (V.at (.s .z)) ?_)
 refine op (OpS.bin rfl rfl rfl rfl rfl ?_)
 refine RunL.nil ?_
 refine Run.slim [(10, .bool ((a0.length : Int) != (a1.length : Int))), (0, v0), (1, v1)] ⟨rfl, rfl, rfl, trivial⟩ ?_
 refine Run.ite rfl hF (fun e1 hF => ?_) (fun e1 hF => ?_)
 ·
  refine Run.seq ?_
  refine Run.reg ?_
  refine op (OpS.as rfl rfl rfl ?_)
  refine RunL.nil ?_
  refine Run.slim [(4, .bool false)] ⟨rfl, trivial⟩ ?_
  refine Run.retP rfl (.tmp rfl .nil) ?_
  cases hF
  exact Post.mk' ⟨rfl, rfl, rfl, rfl⟩ (h.picks .nil) .nil
 ·
  refine Run.skip ?_
  refine Run.seq ?_
  refine Run.seq ?_
  refine Run.reg ?_
  refine op (OpS.as rfl rfl rfl ?_)
  refine RunL.nil ?_
  refine Run.slim [(5, .int .i64 0), (0, v0), (1, v1)] ⟨rfl, rfl, rfl, trivial⟩ ?_
  refine Run.block ?_
  refine Run.slim [(0, v0), (1, v1), (5, .int .i64 0)] ⟨rfl, rfl, rfl, trivial⟩ ?_
  refine Run.loopP (σ := Int) (fun s_ L_ w_ => L_ = [(0, v0), (1, v1), (5, .int .i64 s_)] ∧ St e w_ [(false, .val (Rep.slice (Rep.int .u8)) v0 a0), (false, .val (Rep.slice (Rep.int .u8)) v1 a1)] []) hF ⟨rfl, (h.facts (.atm .z (.atm (.s .z) .nil))).picks .nil⟩ (fun k1 hk1 s1 _ w1 hI hF => ?_)
  obtain ⟨rfl, h1⟩ := hI
  refine Run.seq ?_
  refine Run.seq ?_
  refine Run.reg ?_
  refine op (OpS.mv rfl rfl rfl ?_)
  refine op (OpS.mv rfl rfl rfl ?_)
  refine op (OpS.len h1 Try.underlying22 rfl rfl rfl (V.at .z) ?_)
  refine op (OpS.bin rfl rfl rfl rfl rfl ?_)
  refine RunL.nil ?_
  refine Run.slim [(14, .bool (decide (s1 < (a0.length : Int)))), (0, v0), (1, v1), (5, .int .i64 s1)] ⟨rfl, rfl, rfl, rfl, trivial⟩ ?_
  refine Run.ite rfl hF (fun e2 hF => ?_) (fun e2 hF => ?_)
  ·
   refine Run.skip ?_
   refine Run.seq ?_
   refine Run.block ?_
   refine Run.seq ?_
   obtain ⟨x1, e3, hF⟩ := bindP_use hF
   obtain ⟨x2, e4, hF⟩ := bindP_use hF
   refine Run.drawV (Ωs := []) [⟨some 17, some (v0), fun _ => [], fun ds_ u_ => [], [], [], none⟩, ⟨some 18, some (.int .i64 s1), fun _ => [], fun ds_ u_ => [], [], [], none⟩, ⟨some 19, none, fun u_ => [(false, .ptr (Rep.int .u8) u_ x1)], fun ds_ u_ => [], [], [], none⟩, ⟨some 20, some (.int .u8 x1), fun _ => [], fun ds_ u_ => [], [], [], none⟩, ⟨some 21, some (v1), fun _ => [], fun ds_ u_ => [], [], [], none⟩, ⟨some 22, some (.int .i64 s1), fun _ => [], fun ds_ u_ => [], [], [], none⟩, ⟨some 23, none, fun u_ => [(false, .ptr (Rep.int .u8) u_ x2)], fun ds_ u_ => [], [], [], none⟩, ⟨some 24, some (.int .u8 x2), fun _ => [], fun ds_ u_ => [], [], [], none⟩, ⟨some 25, some (.bool (x1 != x2)), fun _ => [], fun ds_ u_ => [], [], [], none⟩] [[], [], [0, 1], [2], [], [], [4, 5], [6], [3, 7]] [] [0, 1, 2, 3, 4, 5, 6, 7, 8] Try_mixed rfl rfl rfl h1 (.cons ?_ (.cons ?_ (.cons ?_ (.cons ?_ (.cons ?_ (.cons ?_ (.cons ?_ (.cons ?_ (.cons ?_ .nil))))))))) (fun q1 w hq1 h => ?_)
   ·intro q1 w Γx Ωx h
    refine OpS.mv rfl rfl rfl ?_
    exact ⟨undef, rfl, trivial, h⟩
   ·intro q1 w Γx Ωx h
    refine OpS.mv rfl rfl rfl ?_
    exact ⟨undef, rfl, trivial, h⟩
   ·intro q1 w Γx Ωx h
    refine OpS.iptr h Try.underlying22 ty5 rfl rfl rfl rfl (V.at .z) e3 (fun u h4 => ?_)
    exact ⟨u, rfl, trivial, h4⟩
   ·intro q1 w Γx Ωx h
    refine OpS.loadi h ty5 rfl rfl rfl .z ?_
    exact ⟨undef, rfl, trivial, h⟩
   ·intro q1 w Γx Ωx h
    refine OpS.mv rfl rfl rfl ?_
    exact ⟨undef, rfl, trivial, h⟩
   ·intro q1 w Γx Ωx h
    refine OpS.mv rfl rfl rfl ?_
    exact ⟨undef, rfl, trivial, h⟩
   ·intro q1 w Γx Ωx h
    refine OpS.iptr h Try.underlying22 ty5 rfl rfl rfl rfl (V.at (.s .z)) e4 (fun u h5 => ?_)
    exact ⟨u, rfl, trivial, h5⟩
   ·intro q1 w Γx Ωx h
    refine OpS.loadi h ty5 rfl rfl rfl .z ?_
    exact ⟨undef, rfl, trivial, h⟩
   ·intro q1 w Γx Ωx h
    refine OpS.bin rfl rfl rfl rfl rfl ?_
    exact ⟨undef, rfl, trivial, h⟩
   have h6 : St e w [(false, .ptr (Rep.int .u8) (q1 2) x1), (false, .ptr (Rep.int .u8) (q1 6) x2), (false, .val (Rep.slice (Rep.int .u8)) v0 a0), (false, .val (Rep.slice (Rep.int .u8)) v1 a1)] [] := h
   refine RunL.nil ?_
   refine Run.slim [(25, .bool (x1 != x2)), (0, v0), (1, v1), (5, .int .i64 s1)] ⟨rfl, rfl, rfl, rfl, trivial⟩ ?_
   refine Run.ite rfl hF (fun e5 hF => ?_) (fun e5 hF => ?_)
   ·
    refine Run.seq ?_
    refine Run.reg ?_
    refine op (OpS.as rfl rfl rfl ?_)
    refine RunL.nil ?_
    refine Run.slim [(4, .bool false)] ⟨rfl, trivial⟩ ?_
    refine Run.retP rfl (.tmp rfl .nil) ?_
    cases hF
    exact Post.mk' ⟨rfl, rfl, rfl, rfl⟩ (h6.picks .nil) .nil
   ·
    refine Run.skip ?_
    refine Run.endBlock ?_
    refine Run.reg ?_
    refine op (OpS.mv rfl rfl rfl ?_)
    refine op (OpS.bin rfl rfl rfl rfl rfl ?_)
    refine op (OpS.as rfl rfl rfl ?_)
    obtain ⟨x3, e6, hF⟩ := letP_use hF
    refine RunL.name e6 ?_
    refine RunL.nil ?_
    refine Run.slim [(5, .int .i64 x3), (0, v0), (1, v1)] ⟨rfl, rfl, rfl, trivial⟩ ?_
    refine Run.slim [(0, v0), (1, v1), (5, .int .i64 x3)] ⟨rfl, rfl, rfl, trivial⟩ ?_
    exact hk1 (x3) _ _ ⟨rfl, (h6.facts (.atm (.s (.s .z)) (.atm (.s (.s (.s .z))) .nil))).picks .nil⟩ hF
  ·
   refine Run.exit rfl ?_
   refine Run.seq ?_
   refine Run.reg ?_
   refine op (OpS.as rfl rfl rfl ?_)
   refine RunL.nil ?_
   refine Run.slim [(4, .bool true)] ⟨rfl, trivial⟩ ?_
   refine Run.retP rfl (.tmp rfl .nil) ?_
   cases hF
   exact Post.mk' ⟨rfl, rfl, rfl, rfl⟩ (h1.picks .nil) .nil
theorem made_Light_ok {fuel : Nat} {a0 : List Int} {y : Bool} (hF : made_Light fuel a0 = some y) {w : World} {v0 : Value} :
  Spec Try.prog 16 [v0].toArray w [(false, .val (Rep.slice (Rep.int .i64)) v0 a0)] [] (fun v Γr Ωr Ωo => v = .bool y ∧ Γr = [] ∧ Ωr = [] ∧ Ωo = []) := by
 refine Spec.of (L := [(0, v0)]) Try.func16 rfl ⟨rfl, trivial⟩ rfl (fun e h => ?_)
 unfold made_Light at hF
 refine Run.seq ?_
 refine Run.reg ?_
 refine op (OpS.as rfl rfl rfl ?_)
 refine RunL.nil ?_
 refine Run.slim [(0, v0)] ⟨rfl, trivial⟩ ?_
 refine Run.seq ?_
 refine Run.reg ?_
 refine op (OpS.mv rfl rfl rfl ?_)
 refine op (OpS.len h Try.underlying33 rfl rfl rfl (V.at .z) ?_)
 refine op (OpS.bin rfl rfl rfl rfl rfl ?_)
 refine op (OpS.as rfl rfl rfl ?_)
 obtain ⟨x1, e1, hF⟩ := letP_use hF
 refine RunL.nameb e1 ?_
 refine RunL.nil ?_
 refine Run.slim [(2, .bool x1)] ⟨rfl, trivial⟩ ?_
 refine Run.retP rfl (.tmp rfl .nil) ?_
 cases hF
 exact Post.mk' ⟨rfl, rfl, rfl, rfl⟩ (h.picks .nil) .nil
theorem ref22_New_ok {fuel : Nat} {a0 : Int} {y : (Option ref22_Assembler) × Int} (hF : ref22_New fuel a0 = some y) {w : World} :
  Spec Try.prog 18 [.int .u8 a0].toArray w [] [] (fun v Γr Ωr Ωo => ∃ u0 : Value, v = .tuple #[u0, .int .i64 y.2] ∧ Γr = [] ∧ Ωr = [(true, .opt (fun x_ => .ex fun v_ => .sep (.box 49 (Rep.iso (fun s : ref22_Assembler => (s.Own, s.Items, ())) (Rep.prod (Rep.int .u8) (Rep.prod (Rep.raw (α := List ref22_Item) v_) Rep.unit))) u0 x_) (.slice 53 ref22_Item.rep v_ x_.Items)) u0 y.1)] ∧ Ωo = []) := by
 refine Spec.of (L := [(0, .int .u8 a0)]) Try.func18 rfl ⟨rfl, trivial⟩ rfl (fun e h => ?_)
 unfold ref22_New at hF
 refine Run.seq ?_
 refine Run.reg ?_
 refine op (OpS.as rfl rfl rfl ?_)
 refine op (OpS.as rfl rfl rfl ?_)
 refine RunL.nil ?_
 refine Run.slim [(0, .int .u8 a0)] ⟨rfl, trivial⟩ ?_
 refine Run.seq ?_
 refine Run.seq ?_
 refine Run.reg ?_
 refine op (OpS.mv rfl rfl rfl ?_)
 obtain ⟨y1, e1, hF⟩ := bindP_use hF
 refine op (OpS.callP h Try.func41 rfl rfl rfl rfl (vs := [.int .u8 a0]) rfl (ref22_Endpoint_ok e1) .nil ?_)
 rintro _ w1 _ _ _ ⟨rfl, rfl, rfl, rfl⟩ h1
 have h2 := h1 rfl rfl
 simp only [List.cons_append, List.nil_append] at h2
 refine op (OpS.not rfl rfl rfl ?_)
 refine RunL.nil ?_
 refine Run.slim [(6, .bool (!y1)), (0, .int .u8 a0)] ⟨rfl, rfl, trivial⟩ ?_
 refine Run.ite rfl hF (fun e2 hF => ?_) (fun e2 hF => ?_)
 ·
  refine Run.seq ?_
  refine Run.reg ?_
  refine op (OpS.as rfl rfl rfl ?_)
  refine op (OpS.as rfl rfl rfl ?_)
  refine RunL.nil ?_
  refine Run.slim [(3, .int .i64 13), (2, .pointer none)] ⟨rfl, rfl, trivial⟩ ?_
  have h3 := St.none (fun x_ => .ex fun v_ => .sep (.box 49 (Rep.iso (fun s : ref22_Assembler => (s.Own, s.Items, ())) (Rep.prod (Rep.int .u8) (Rep.prod (Rep.raw (α := List ref22_Item) v_) Rep.unit))) (.pointer none) x_) (.slice 53 ref22_Item.rep v_ x_.Items)) h2
  refine Run.retP rfl (.tmp rfl (.tmp rfl .nil)) ?_
  cases hF
  exact Post.mk' ⟨(.pointer none), rfl, rfl, rfl, rfl⟩ (h3.picks (.cons .z .nil)) .nil
 ·
  refine Run.skip ?_
  refine Run.seq ?_
  refine Run.reg ?_
  refine op (OpS.mv rfl rfl rfl ?_)
  have h4 := St.nil 53 ref22_Item.rep h2
  refine op (OpS.buildC (f := true) (r := (Rep.iso (fun s : ref22_Assembler => (s.Own, s.Items, ())) (Rep.prod (Rep.int .u8) (Rep.prod (Rep.raw (α := List ref22_Item) (.slice none 0 0)) Rep.unit)))) (x := ref22_Assembler.z) (r' := (Rep.iso (fun s : ref22_Assembler => (s.Own, s.Items, ())) (Rep.prod (Rep.int .u8) (Rep.prod (Rep.raw (α := List ref22_Item) (.slice none 0 0)) Rep.unit)))) (x' := (⟨a0, []⟩ : ref22_Assembler)) h4 pl49 ti49 (Zr.iso (y := ref22_Assembler.z) _ (Zr.of (Zr.prod (Zr.int .u8 0) (Zr.prod (Zr.raw rfl ([] : List ref22_Item)) Zr.unit)) (by rfl))) rfl rfl rfl (.cons (Rep.int .u8) (Rep.iso (fun s : ref22_Assembler => (s.Own, s.Items, ())) (Rep.prod (Rep.int .u8) (Rep.prod (Rep.raw (α := List ref22_Item) (.slice none 0 0)) Rep.unit))) (Rep.iso (fun s : ref22_Assembler => (s.Own, s.Items, ())) (Rep.prod (Rep.int .u8) (Rep.prod (Rep.raw (α := List ref22_Item) (.slice none 0 0)) Rep.unit))) ref22_Assembler.z (⟨a0, []⟩ : ref22_Assembler) (Chg.iso _ (Chg.here (Chg.id (by rfl)))) rfl rfl V.int .nil) (fun u1 h5 => ?_))
  refine op (OpS.box (f' := true) h5 rfl rfl rfl (V.at .z) (fun u2 w2 h6 => ?_))
  refine op (OpS.as rfl rfl rfl ?_)
  refine op (OpS.as rfl rfl rfl ?_)
  refine RunL.nil ?_
  refine Run.slim [(3, .int .i64 0), (2, u2)] ⟨rfl, rfl, trivial⟩ ?_
  have h7 := St.boxJ (r' := (Rep.iso (fun s : ref22_Assembler => (s.Own, s.Items, ())) (Rep.prod (Rep.int .u8) (Rep.prod (Rep.raw (α := List ref22_Item) (.slice none 0 0)) Rep.unit)))) (x' := { (⟨a0, []⟩ : ref22_Assembler) with Items := [] }) (h6.pick .z) (fun _ _ hs_ => (Jn.iso _ (Jn.prod Jn.refl (Jn.prod Jn.same Jn.refl))))
  have h8 := h7.front (.cons .z (.cons .z .nil))
  have h9 := St.some (H := (fun x_ => .ex fun v_ => .sep (.box 49 (Rep.iso (fun s : ref22_Assembler => (s.Own, s.Items, ())) (Rep.prod (Rep.int .u8) (Rep.prod (Rep.raw (α := List ref22_Item) v_) Rep.unit))) u2 x_) (.slice 53 ref22_Item.rep v_ x_.Items))) (q := u2) (x := { (⟨a0, []⟩ : ref22_Assembler) with Items := [] }) (St.ex (H := fun v_ => .sep (.box 49 (Rep.iso (fun s : ref22_Assembler => (s.Own, s.Items, ())) (Rep.prod (Rep.int .u8) (Rep.prod (Rep.raw (α := List ref22_Item) v_) Rep.unit))) u2 ({ (⟨a0, []⟩ : ref22_Assembler) with Items := [] })) (.slice 53 ref22_Item.rep v_ (({ (⟨a0, []⟩ : ref22_Assembler) with Items := [] }).Items))) (.slice none 0 0) (St.sep h8))
  refine Run.retP rfl (.tmp rfl (.tmp rfl .nil)) ?_
  cases hF
  exact Post.mk' ⟨u2, rfl, rfl, rfl, rfl⟩ (h9.picks (.cons .z .nil)) .nil
theorem made_Roll_ok {fuel : Nat} {a0 : List Int} {y : made_Dice} (hF : made_Roll fuel a0 = some y) {w : World} {v0 : Value} :
  Spec Try.prog 19 [v0].toArray w [(false, .val (Rep.slice (Rep.int .i64)) v0 a0)] [] (fun v Γr Ωr Ωo => ∃ u0 : Value, v = u0 ∧ Γr = [] ∧ Ωr = [(false, .box 85 made_Dice.rep u0 y)] ∧ Ωo = []) := by
 refine Spec.of (L := [(0, v0)]) Try.func19 rfl ⟨rfl, trivial⟩ rfl (fun e h => ?_)
 unfold made_Roll at hF
 refine Run.seq ?_
 refine Run.reg ?_
 refine op (OpS.as rfl rfl rfl ?_)
 refine RunL.nil ?_
 refine Run.slim [(0, v0)] ⟨rfl, trivial⟩ ?_
 refine Run.seq ?_
 refine Run.reg ?_
 refine op (OpS.mv rfl rfl rfl ?_)
 refine op (OpS.build (f := false) (x' := (⟨a0, 0⟩ : made_Dice)) h pl85 ti85 made_Dice.zr rfl rfl rfl (.cons rfl made_Dice.f0 rfl (V.at .z) .nil) (fun u1 h1 => ?_))
 refine op (OpS.boxF h1 rfl rfl rfl (V.at .z) (fun u2 w1 h2 => ?_))
 refine op (OpS.as rfl rfl rfl ?_)
 refine RunL.nil ?_
 refine Run.slim [(2, u2)] ⟨rfl, trivial⟩ ?_
 refine Run.retP rfl (.tmp rfl .nil) ?_
 cases hF
 exact Post.mk' ⟨u2, rfl, rfl, rfl, rfl⟩ (h2.picks (.cons .z .nil)) .nil
theorem made_Dice_Left_ok {fuel : Nat} {a0 : made_Dice} {y : Bool} (hF : made_Dice_Left fuel a0 = some y) {w : World} {v0 : Value} :
  Spec Try.prog 20 [v0].toArray w [(false, .ptr made_Dice.rep v0 a0)] [] (fun v Γr Ωr Ωo => v = .bool y ∧ Γr = [] ∧ Ωr = [] ∧ Ωo = []) := by
 refine Spec.of (L := [(0, v0)]) Try.func20 rfl ⟨rfl, trivial⟩ rfl (fun e h => ?_)
 unfold made_Dice_Left at hF
 refine Run.seq ?_
 refine Run.reg ?_
 refine op (OpS.as rfl rfl rfl ?_)
 refine RunL.nil ?_
 refine Run.slim [(0, v0)] ⟨rfl, trivial⟩ ?_
 refine Run.seq ?_
 refine Run.drawV (Ωs := []) [⟨some 3, some (v0), fun _ => [], fun ds_ u_ => [], [], [], none⟩, ⟨some 4, some (v0), fun _ => [], fun ds_ u_ => [], [], [], none⟩, ⟨some 5, none, fun u_ => [(false, .ptr (Rep.int .i64) u_ a0.At)], fun ds_ u_ => [], [], [], none⟩, ⟨some 6, some (.int .i64 a0.At), fun _ => [], fun ds_ u_ => [], [], [], none⟩, ⟨some 7, some (v0), fun _ => [], fun ds_ u_ => [], [], [], none⟩, ⟨some 8, some (v0), fun _ => [], fun ds_ u_ => [], [], [], none⟩, ⟨some 9, none, fun u_ => [(false, .ptr (Rep.slice (Rep.int .i64)) u_ a0.L)], fun ds_ u_ => [], [], [], none⟩, ⟨some 10, none, fun u_ => [(false, .val (Rep.slice (Rep.int .i64)) u_ a0.L)], fun ds_ u_ => [], [], [], none⟩, ⟨some 11, some (.int .i64 (a0.L.length : Int)), fun _ => [], fun ds_ u_ => [], [], [], none⟩, ⟨some 12, some (.bool (decide (a0.At < (a0.L.length : Int)))), fun _ => [], fun ds_ u_ => [], [], [], none⟩] [[], [0], [1], [2], [], [4], [5], [6], [7], [3, 8]] [] [0, 1, 2, 3, 4, 5, 6, 7, 8, 9] Try_mixed rfl rfl rfl h (.cons ?_ (.cons ?_ (.cons ?_ (.cons ?_ (.cons ?_ (.cons ?_ (.cons ?_ (.cons ?_ (.cons ?_ (.cons ?_ .nil)))))))))) (fun q1 w hq1 h => ?_)
 ·intro q1 w Γx Ωx h
  refine OpS.mv rfl rfl rfl ?_
  exact ⟨undef, rfl, trivial, h⟩
 ·intro q1 w Γx Ωx h
  refine OpS.nchkI h .z rfl rfl rfl ?_
  exact ⟨undef, rfl, trivial, h⟩
 ·intro q1 w Γx Ωx h
  refine OpS.fptr h fa85_1 made_Dice.f1 rfl rfl rfl .z (fun u h4 => ?_)
  exact ⟨u, rfl, trivial, h4⟩
 ·intro q1 w Γx Ωx h
  refine OpS.loadi h ty3 rfl rfl rfl .z ?_
  exact ⟨undef, rfl, trivial, h⟩
 ·intro q1 w Γx Ωx h
  refine OpS.mv rfl rfl rfl ?_
  exact ⟨undef, rfl, trivial, h⟩
 ·intro q1 w Γx Ωx h
  refine OpS.nchkI h .z rfl rfl rfl ?_
  exact ⟨undef, rfl, trivial, h⟩
 ·intro q1 w Γx Ωx h
  refine OpS.fptr h fa85_0 made_Dice.f0 rfl rfl rfl .z (fun u h5 => ?_)
  exact ⟨u, rfl, trivial, h5⟩
 ·intro q1 w Γx Ωx h
  refine OpS.load h ty33 rfl rfl rfl .z (fun u h6 => ?_)
  exact ⟨u, rfl, trivial, h6⟩
 ·intro q1 w Γx Ωx h
  refine OpS.len h Try.underlying33 rfl rfl rfl (V.at .z) ?_
  exact ⟨undef, rfl, trivial, h⟩
 ·intro q1 w Γx Ωx h
  refine OpS.bin rfl rfl rfl rfl rfl ?_
  exact ⟨undef, rfl, trivial, h⟩
 have h7 : St e w [(false, .ptr (Rep.int .i64) (q1 2) a0.At), (false, .ptr (Rep.slice (Rep.int .i64)) (q1 6) a0.L), (false, .val (Rep.slice (Rep.int .i64)) (q1 7) a0.L), (false, .ptr made_Dice.rep v0 a0)] [] := h
 refine op (OpS.as rfl rfl rfl ?_)
 obtain ⟨x1, e1, hF⟩ := letP_use hF
 refine RunL.nameb e1 ?_
 refine RunL.nil ?_
 refine Run.slim [(2, .bool x1)] ⟨rfl, trivial⟩ ?_
 refine Run.retP rfl (.tmp rfl .nil) ?_
 cases hF
 exact Post.mk' ⟨rfl, rfl, rfl, rfl⟩ (h7.picks .nil) .nil
theorem made_Dice_Next_ok {fuel : Nat} {a0 : made_Dice} {a1 : Int} {y : Int × made_Dice} (hF : made_Dice_Next fuel a0 a1 = some y) {w : World} {v0 : Value} :
  Spec Try.prog 23 [v0, .int .i64 a1].toArray w [] [(false, .box 85 made_Dice.rep v0 a0)] (fun v Γr Ωr Ωo => v = .int .i64 y.1 ∧ Γr = [] ∧ Ωr = [] ∧ Ωo = [(false, .box 85 made_Dice.rep v0 y.2)]) := by
 refine Spec.of (L := [(0, v0), (1, .int .i64 a1)]) Try.func23 rfl ⟨rfl, rfl, trivial⟩ rfl (fun e h => ?_)
 unfold made_Dice_Next at hF
 refine Run.seq ?_
 refine Run.reg ?_
 refine op (OpS.as rfl rfl rfl ?_)
 refine RunL.nil ?_
 refine Run.slim [(0, v0), (1, .int .i64 a1)] ⟨rfl, rfl, trivial⟩ ?_
 refine Run.seq ?_
 refine Run.seq ?_
 refine Run.drawV (Ωs := []) [⟨some 5, some (v0), fun _ => [], fun ds_ u_ => [], [], [], none⟩, ⟨some 6, some (v0), fun _ => [], fun ds_ u_ => [], [], [(0, [])], none⟩, ⟨some 7, some ((padd v0 1)), fun _ => [], fun ds_ u_ => [], [], [(0, [])], none⟩, ⟨some 8, some (.int .i64 a0.At), fun _ => [], fun ds_ u_ => [], [], [(0, [])], none⟩, ⟨some 9, some (v0), fun _ => [], fun ds_ u_ => [], [], [], none⟩, ⟨some 10, some (v0), fun _ => [], fun ds_ u_ => [], [], [(0, [])], none⟩, ⟨some 11, some ((padd v0 0)), fun _ => [], fun ds_ u_ => [], [], [(0, [])], none⟩, ⟨some 12, none, fun u_ => [(false, .val (Rep.slice (Rep.int .i64)) u_ a0.L)], fun ds_ u_ => [], [], [(0, [])], none⟩, ⟨some 13, some (.int .i64 (a0.L.length : Int)), fun _ => [], fun ds_ u_ => [], [], [], none⟩, ⟨some 14, some (.bool (decide (a0.At ≥ (a0.L.length : Int)))), fun _ => [], fun ds_ u_ => [], [], [], none⟩] [[], [0], [1], [2], [], [4], [5], [6], [7], [3, 8]] [[(false, .box 85 made_Dice.rep v0 a0)]] [0, 1, 2, 3, 4, 5, 6, 7, 8, 9, 10] Try_mixed rfl rfl rfl h (.cons ?_ (.cons ?_ (.cons ?_ (.cons ?_ (.cons ?_ (.cons ?_ (.cons ?_ (.cons ?_ (.cons ?_ (.cons ?_ .nil)))))))))) (fun q1 w hq1 h => ?_)
 ·intro q1 w Γx Ωx h
  refine OpS.mv rfl rfl rfl ?_
  exact ⟨undef, rfl, trivial, h⟩
 ·intro q1 w Γx Ωx h
  have h : St e w ([] ++ Γx) ([(false, .box 85 made_Dice.rep v0 a0)] ++ Ωx) := h
  refine OpS.nchk h .z rfl rfl rfl ?_
  exact ⟨undef, rfl, trivial, h⟩
 ·intro q1 w Γx Ωx h
  have h : St e w ([] ++ Γx) ([(false, .box 85 made_Dice.rep v0 a0)] ++ Ωx) := h
  refine OpS.fbox (o3 := 1) h .z PA.z fa85_1 rfl rfl rfl rfl ?_
  exact ⟨undef, rfl, trivial, h⟩
 ·intro q1 w Γx Ωx h
  have h : St e w ([] ++ Γx) ([(false, .box 85 made_Dice.rep v0 a0)] ++ Ωx) := h
  refine OpS.loadBi h .z PA.a (Get.fld made_Dice.f1) ty3 rfl rfl rfl ?_
  exact ⟨undef, rfl, trivial, h⟩
 ·intro q1 w Γx Ωx h
  refine OpS.mv rfl rfl rfl ?_
  exact ⟨undef, rfl, trivial, h⟩
 ·intro q1 w Γx Ωx h
  have h : St e w ([] ++ Γx) ([(false, .box 85 made_Dice.rep v0 a0)] ++ Ωx) := h
  refine OpS.nchk h .z rfl rfl rfl ?_
  exact ⟨undef, rfl, trivial, h⟩
 ·intro q1 w Γx Ωx h
  have h : St e w ([] ++ Γx) ([(false, .box 85 made_Dice.rep v0 a0)] ++ Ωx) := h
  refine OpS.fbox (o3 := 0) h .z PA.z fa85_0 rfl rfl rfl rfl ?_
  exact ⟨undef, rfl, trivial, h⟩
 ·intro q1 w Γx Ωx h
  have h : St e w ([] ++ Γx) ([(false, .box 85 made_Dice.rep v0 a0)] ++ Ωx) := h
  refine OpS.loadB h .z PA.a (Get.fld made_Dice.f0) ty33 rfl rfl rfl (fun u h2 => ?_)
  exact ⟨u, rfl, trivial, h2⟩
 ·intro q1 w Γx Ωx h
  refine OpS.len h Try.underlying33 rfl rfl rfl (V.at .z) ?_
  exact ⟨undef, rfl, trivial, h⟩
 ·intro q1 w Γx Ωx h
  refine OpS.bin rfl rfl rfl rfl rfl ?_
  exact ⟨undef, rfl, trivial, h⟩
 have h3 : St e w [(false, .val (Rep.slice (Rep.int .i64)) (q1 7) a0.L)] [(false, .box 85 made_Dice.rep v0 a0)] := h
 refine RunL.nil ?_
 refine Run.slim [(14, .bool (decide (a0.At ≥ (a0.L.length : Int)))), (0, v0), (1, .int .i64 a1)] ⟨rfl, rfl, rfl, trivial⟩ ?_
 refine Run.ite rfl hF (fun e1 hF => ?_) (fun e1 hF => ?_)
 ·
  refine Run.seq ?_
  refine Run.reg ?_
  refine op (OpS.as rfl rfl rfl ?_)
  refine RunL.nil ?_
  refine Run.slim [(4, .int .i64 0)] ⟨rfl, trivial⟩ ?_
  refine Run.retP rfl (.tmp rfl .nil) ?_
  cases hF
  exact Post.mk' ⟨rfl, rfl, rfl, rfl⟩ (h3.picks (.cons .z .nil)) .nil
 ·
  refine Run.skip ?_
  refine Run.seq ?_
  refine Run.reg ?_
  refine op (OpS.mv rfl rfl rfl ?_)
  refine op (OpS.nchk h3 .z rfl rfl rfl ?_)
  refine op (OpS.fbox (o3 := 1) h3 .z PA.z fa85_1 rfl rfl rfl rfl ?_)
  refine op (OpS.loadBi h3 .z PA.a (Get.fld made_Dice.f1) ty3 rfl rfl rfl ?_)
  refine op (OpS.bin rfl rfl rfl rfl rfl ?_)
  refine op (OpS.nchk h3 .z rfl rfl rfl ?_)
  refine op (OpS.fbox (o3 := 1) h3 .z PA.z fa85_1 rfl rfl rfl rfl ?_)
  obtain ⟨d1, e2, hF⟩ := letP_use hF
  refine op (OpS.storeB (f' := true) h3 .z PA.a (Put.of (Put.fld made_Dice.f1) e2) ty3 rfl rfl rfl V.int (.inr rfl) (fun w1 h4 => ?_))
  refine RunL.nil ?_
  refine Run.slim [(0, v0), (1, .int .i64 a1)] ⟨rfl, rfl, trivial⟩ ?_
  refine Run.seq ?_
  obtain ⟨x1, e3, hF⟩ := bindP_use hF
  obtain ⟨y1, e4, hF⟩ := bindP_use hF
  refine Run.drawV (Ωs := []) [⟨some 22, some (v0), fun _ => [], fun ds_ u_ => [], [], [], none⟩, ⟨some 23, some (v0), fun _ => [], fun ds_ u_ => [], [], [(0, [])], none⟩, ⟨some 24, some ((padd v0 0)), fun _ => [], fun ds_ u_ => [], [], [(0, [])], none⟩, ⟨some 25, none, fun u_ => [(false, .val (Rep.slice (Rep.int .i64)) u_ d1.L)], fun ds_ u_ => [], [], [(0, [])], none⟩, ⟨some 26, some (v0), fun _ => [], fun ds_ u_ => [], [], [], none⟩, ⟨some 27, some (v0), fun _ => [], fun ds_ u_ => [], [], [(0, [])], none⟩, ⟨some 28, some ((padd v0 1)), fun _ => [], fun ds_ u_ => [], [], [(0, [])], none⟩, ⟨some 29, some (.int .i64 d1.At), fun _ => [], fun ds_ u_ => [], [], [(0, [])], none⟩, ⟨some 30, some (.int .i64 (IntKind.i64.wrap (d1.At - 1))), fun _ => [], fun ds_ u_ => [], [], [], none⟩, ⟨some 31, none, fun u_ => [(false, .ptr (Rep.int .i64) u_ x1)], fun ds_ u_ => [], [], [], none⟩, ⟨some 32, some (.int .i64 x1), fun _ => [], fun ds_ u_ => [], [], [], none⟩, ⟨some 33, some (.int .i64 a1), fun _ => [], fun ds_ u_ => [], [], [], none⟩, ⟨some 34, some (.int .i64 y1), fun _ => [], fun ds_ u_ => [], [], [], none⟩] [[], [0], [1], [2], [], [4], [5], [6], [7], [3, 8], [9], [], [10, 11]] [[(false, .box 85 made_Dice.rep v0 d1)]] [0, 1, 2, 3, 4, 5, 6, 7, 8, 9, 10, 11, 12, 13] Try_mixed rfl rfl rfl h4 (.cons ?_ (.cons ?_ (.cons ?_ (.cons ?_ (.cons ?_ (.cons ?_ (.cons ?_ (.cons ?_ (.cons ?_ (.cons ?_ (.cons ?_ (.cons ?_ (.cons ?_ .nil))))))))))))) (fun q2 w hq2 h => ?_)
  ·intro q2 w Γx Ωx h
   refine OpS.mv rfl rfl rfl ?_
   exact ⟨undef, rfl, trivial, h⟩
  ·intro q2 w Γx Ωx h
   have h : St e w ([(false, .val (Rep.slice (Rep.int .i64)) (q1 7) a0.L)] ++ Γx) ([(false, .box 85 made_Dice.rep v0 d1)] ++ Ωx) := h
   refine OpS.nchk h .z rfl rfl rfl ?_
   exact ⟨undef, rfl, trivial, h⟩
  ·intro q2 w Γx Ωx h
   have h : St e w ([(false, .val (Rep.slice (Rep.int .i64)) (q1 7) a0.L)] ++ Γx) ([(false, .box 85 made_Dice.rep v0 d1)] ++ Ωx) := h
   refine OpS.fbox (o3 := 0) h .z PA.z fa85_0 rfl rfl rfl rfl ?_
   exact ⟨undef, rfl, trivial, h⟩
  ·intro q2 w Γx Ωx h
   have h : St e w ([(false, .val (Rep.slice (Rep.int .i64)) (q1 7) a0.L)] ++ Γx) ([(false, .box 85 made_Dice.rep v0 d1)] ++ Ωx) := h
   refine OpS.loadB h .z PA.a (Get.fld made_Dice.f0) ty33 rfl rfl rfl (fun u h9 => ?_)
   exact ⟨u, rfl, trivial, h9⟩
  ·intro q2 w Γx Ωx h
   refine OpS.mv rfl rfl rfl ?_
   exact ⟨undef, rfl, trivial, h⟩
  ·intro q2 w Γx Ωx h
   have h : St e w ([(false, .val (Rep.slice (Rep.int .i64)) (q1 7) a0.L)] ++ Γx) ([(false, .box 85 made_Dice.rep v0 d1)] ++ Ωx) := h
   refine OpS.nchk h .z rfl rfl rfl ?_
   exact ⟨undef, rfl, trivial, h⟩
  ·intro q2 w Γx Ωx h
   have h : St e w ([(false, .val (Rep.slice (Rep.int .i64)) (q1 7) a0.L)] ++ Γx) ([(false, .box 85 made_Dice.rep v0 d1)] ++ Ωx) := h
   refine OpS.fbox (o3 := 1) h .z PA.z fa85_1 rfl rfl rfl rfl ?_
   exact ⟨undef, rfl, trivial, h⟩
  ·intro q2 w Γx Ωx h
   have h : St e w ([(false, .val (Rep.slice (Rep.int .i64)) (q1 7) a0.L)] ++ Γx) ([(false, .box 85 made_Dice.rep v0 d1)] ++ Ωx) := h
   refine OpS.loadBi h .z PA.a (Get.fld made_Dice.f1) ty3 rfl rfl rfl ?_
   exact ⟨undef, rfl, trivial, h⟩
  ·intro q2 w Γx Ωx h
   refine OpS.bin rfl rfl rfl rfl rfl ?_
   exact ⟨undef, rfl, trivial, h⟩
  ·intro q2 w Γx Ωx h
   refine OpS.iptr h Try.underlying33 ty3 rfl rfl rfl rfl (V.at .z) e3 (fun u h10 => ?_)
   exact ⟨u, rfl, trivial, h10⟩
  ·intro q2 w Γx Ωx h
   refine OpS.loadi h ty3 rfl rfl rfl .z ?_
   exact ⟨undef, rfl, trivial, h⟩
  ·intro q2 w Γx Ωx h
   refine OpS.mv rfl rfl rfl ?_
   exact ⟨undef, rfl, trivial, h⟩
  ·intro q2 w Γx Ωx h
   refine OpS.callP h Try.func12 rfl rfl rfl rfl (vs := [.int .i64 x1, .int .i64 a1]) rfl (made_Mod_ok e4) .nil ?_
   rintro _ w3 _ _ _ ⟨rfl, rfl, rfl, rfl⟩ h11
   have h12 := h11 rfl rfl
   simp only [List.cons_append, List.nil_append] at h12
   exact ⟨undef, rfl, trivial, h12⟩
  have h13 : St e w [(false, .val (Rep.slice (Rep.int .i64)) (q2 3) d1.L), (false, .ptr (Rep.int .i64) (q2 9) x1), (false, .val (Rep.slice (Rep.int .i64)) (q1 7) a0.L)] [(false, .box 85 made_Dice.rep v0 d1)] := h
  refine op (OpS.as rfl rfl rfl ?_)
  refine RunL.nil ?_
  refine Run.slim [(4, .int .i64 y1)] ⟨rfl, trivial⟩ ?_
  refine Run.retP rfl (.tmp rfl .nil) ?_
  cases hF
  exact Post.mk' ⟨rfl, rfl, rfl, rfl⟩ (h13.picks (.cons .z .nil)) .nil
theorem made_Dice_Bool_ok {fuel : Nat} {a0 : made_Dice} {a1 : Int} {y : Bool × made_Dice} (hF : made_Dice_Bool fuel a0 a1 = some y) {w : World} {v0 : Value} :
  Spec Try.prog 22 [v0, .int .i64 a1].toArray w [] [(false, .box 85 made_Dice.rep v0 a0)] (fun v Γr Ωr Ωo => v = .bool y.1 ∧ Γr = [] ∧ Ωr = [] ∧ Ωo = [(false, .box 85 made_Dice.rep v0 y.2)]) := by
 refine Spec.of (L := [(0, v0), (1, .int .i64 a1)]) Try.func22 rfl ⟨rfl, rfl, trivial⟩ rfl (fun e h => ?_)
 unfold made_Dice_Bool at hF
 refine Run.seq ?_
 refine Run.reg ?_
 refine op (OpS.as rfl rfl rfl ?_)
 refine RunL.nil ?_
 refine Run.slim [(0, v0), (1, .int .i64 a1)] ⟨rfl, rfl, trivial⟩ ?_
 refine Run.seq ?_
 refine Run.reg ?_
 refine op (OpS.mv rfl rfl rfl ?_)
 refine op (OpS.mv rfl rfl rfl ?_)
 obtain ⟨y1, e1, hF⟩ := bindP_use hF
 have h1 := h.front (.cons .z .nil)
 refine op (OpS.callO h1 Try.func23 rfl rfl rfl rfl (vs := [v0, .int .i64 a1]) rfl (made_Dice_Next_ok e1) rfl .nil ?_)
 rintro _ w1 _ _ _ ⟨rfl, rfl, rfl, rfl⟩ h2
 have h3 := h2
 simp only [List.cons_append, List.nil_append] at h3
 refine op (OpS.mv rfl rfl rfl ?_)
 refine op (OpS.bin rfl rfl rfl rfl rfl ?_)
 refine op (OpS.bin rfl rfl rfl rfl rfl ?_)
 refine op (OpS.as rfl rfl rfl ?_)
 obtain ⟨x1, e2, hF⟩ := letP_use hF
 refine RunL.nameb e2 ?_
 refine RunL.nil ?_
 refine Run.slim [(4, .bool x1)] ⟨rfl, trivial⟩ ?_
 refine Run.retP rfl (.tmp rfl .nil) ?_
 cases hF
 exact Post.mk' ⟨rfl, rfl, rfl, rfl⟩ (h3.picks (.cons .z .nil)) .nil
theorem made_Dice_Byte_ok {fuel : Nat} {a0 : made_Dice} {y : Int × made_Dice} (hF : made_Dice_Byte fuel a0 = some y) {w : World} {v0 : Value} :
  Spec Try.prog 34 [v0].toArray w [] [(false, .box 85 made_Dice.rep v0 a0)] (fun v Γr Ωr Ωo => v = .int .u8 y.1 ∧ Γr = [] ∧ Ωr = [] ∧ Ωo = [(false, .box 85 made_Dice.rep v0 y.2)]) := by
 refine Spec.of (L := [(0, v0)]) Try.func34 rfl ⟨rfl, trivial⟩ rfl (fun e h => ?_)
 unfold made_Dice_Byte at hF
 refine Run.seq ?_
 refine Run.reg ?_
 refine op (OpS.as rfl rfl rfl ?_)
 refine RunL.nil ?_
 refine Run.slim [(0, v0)] ⟨rfl, trivial⟩ ?_
 refine Run.seq ?_
 refine Run.reg ?_
 refine op (OpS.buildA (f := true) (r := (Rep.int .u8)) h Try.underlying96 ti5 rfl ti96 rfl rfl rfl (.cons rfl V.int (.cons rfl V.int (.cons rfl V.int (.cons rfl V.int (.cons rfl V.int (.cons rfl V.int (.cons rfl V.int (.cons rfl V.int .nil)))))))) rfl (fun u1 h1 => ?_))
 refine op (OpS.alloc h1 ti96 (Zr.of (Zr.arr (Zr.int .u8 0) 8) rfl) rfl rfl (fun u2 w1 h2 => ?_))
 obtain ⟨d1, e1, hF⟩ := letP_use hF
 refine op (OpS.storeB (f' := true) h2 .z PA.z (Put.of Put.id e1) ty96 rfl rfl rfl (V.at .z) (.inl rfl) (fun w2 h3 => ?_))
 refine RunL.nil ?_
 refine Run.slim [(3, u2), (0, v0)] ⟨rfl, rfl, trivial⟩ ?_
 refine Run.seq ?_
 refine Run.seq ?_
 refine Run.reg ?_
 refine op (OpS.mv rfl rfl rfl ?_)
 obtain ⟨y1, e2, hF⟩ := bindP_use hF
 have h4 := h3.front (.cons (.s .z) .nil)
 refine op (OpS.callO h4 Try.func22 rfl rfl rfl rfl (vs := [v0, .int .i64 3]) rfl (made_Dice_Bool_ok e2) rfl .nil ?_)
 rintro _ w3 _ _ _ ⟨rfl, rfl, rfl, rfl⟩ h5
 have h6 := h5
 simp only [List.cons_append, List.nil_append] at h6
 refine RunL.nil ?_
 refine Run.slim [(6, .bool y1.1), (3, u2), (0, v0)] ⟨rfl, rfl, rfl, trivial⟩ ?_
 refine Run.ite rfl hF (fun e3 hF => ?_) (fun e3 hF => ?_)
 ·
  refine Run.seq ?_
  refine Run.reg ?_
  refine op (OpS.mv rfl rfl rfl ?_)
  obtain ⟨y2, e4, hF⟩ := bindP_use hF
  have h7 := h6.front (.cons .z .nil)
  refine op (OpS.callO h7 Try.func23 rfl rfl rfl rfl (vs := [v0, .int .i64 8]) rfl (made_Dice_Next_ok e4) rfl .nil ?_)
  rintro _ w4 _ _ _ ⟨rfl, rfl, rfl, rfl⟩ h8
  have h9 := h8
  simp only [List.cons_append, List.nil_append] at h9
  obtain ⟨x1, e5, hF⟩ := bindP_use hF
  obtain ⟨e6, hF⟩ := chk_use hF
  refine op (OpS.ibox h9 (.s .z) PA.z Try.underlying96 ty5 (Nat.eq_of_beq_eq_true e6) rfl rfl rfl rfl e5 ?_)
  refine op (OpS.loadBi h9 (.s .z) PA.a (Get.comp Get.id (Get.arr e5)) ty5 rfl rfl rfl ?_)
  refine op (OpS.as rfl rfl rfl ?_)
  refine RunL.nil ?_
  refine Run.slim [(2, .int .u8 x1)] ⟨rfl, trivial⟩ ?_
  refine Run.retP rfl (.tmp rfl .nil) ?_
  cases hF
  exact Post.mk' ⟨rfl, rfl, rfl, rfl⟩ (h9.picks (.cons .z .nil)) .nil
 ·
  refine Run.skip ?_
  refine Run.seq ?_
  refine Run.reg ?_
  refine op (OpS.mv rfl rfl rfl ?_)
  obtain ⟨y3, e7, hF⟩ := bindP_use hF
  have h10 := h6.front (.cons .z .nil)
  refine op (OpS.callO h10 Try.func23 rfl rfl rfl rfl (vs := [v0, .int .i64 256]) rfl (made_Dice_Next_ok e7) rfl .nil ?_)
  rintro _ w5 _ _ _ ⟨rfl, rfl, rfl, rfl⟩ h11
  have h12 := h11
  simp only [List.cons_append, List.nil_append] at h12
  refine op (OpS.conv Try.underlying3 Try.underlying5 rfl rfl rfl ?_)
  refine op (OpS.as rfl rfl rfl ?_)
  refine RunL.nil ?_
  refine Run.slim [(2, .int .u8 (IntKind.u8.wrap y3.1))] ⟨rfl, trivial⟩ ?_
  refine Run.retP rfl (.tmp rfl .nil) ?_
  cases hF
  exact Post.mk' ⟨rfl, rfl, rfl, rfl⟩ (h12.picks (.cons .z .nil)) .nil
theorem made_Dice_Bytes_ok {fuel : Nat} {a0 : made_Dice} {a1 : Int} {y : (List Int) × made_Dice} (hF : made_Dice_Bytes fuel a0 a1 = some y) {w : World} {v0 : Value} :
  Spec Try.prog 43 [v0, .int .i64 a1].toArray w [] [(false, .box 85 made_Dice.rep v0 a0)] (fun v Γr Ωr Ωo => ∃ u0 : Value, v = u0 ∧ Γr = [] ∧ Ωr = [(true, (.slice 5 (Rep.int .u8) u0 y.1))] ∧ Ωo = [(false, .box 85 made_Dice.rep v0 y.2)]) := by
 refine Spec.of (L := [(0, v0), (1, .int .i64 a1)]) Try.func43 rfl ⟨rfl, rfl, trivial⟩ rfl (fun e h => ?_)
 unfold made_Dice_Bytes at hF
 refine Run.seq ?_
 refine Run.reg ?_
 refine op (OpS.as rfl rfl rfl ?_)
 refine RunL.nil ?_
 refine Run.slim [(0, v0), (1, .int .i64 a1)] ⟨rfl, rfl, trivial⟩ ?_
 refine Run.seq ?_
 refine Run.reg ?_
 refine op (OpS.as rfl rfl rfl ?_)
 refine RunL.nil ?_
 refine Run.seq ?_
 refine Run.seq ?_
 refine Run.reg ?_
 refine op (OpS.mv rfl rfl rfl ?_)
 refine op (OpS.mv rfl rfl rfl ?_)
 refine op (OpS.bin rfl rfl rfl rfl rfl ?_)
 obtain ⟨y1, e1, hF⟩ := bindP_use hF
 have h1 := h.front (.cons .z .nil)
 refine op (OpS.callO h1 Try.func23 rfl rfl rfl rfl (vs := [v0, .int .i64 (IntKind.i64.wrap (a1 + 1))]) rfl (made_Dice_Next_ok e1) rfl .nil ?_)
 rintro _ w1 _ _ _ ⟨rfl, rfl, rfl, rfl⟩ h2
 have h3 := h2
 simp only [List.cons_append, List.nil_append] at h3
 refine op (OpS.as rfl rfl rfl ?_)
 refine RunL.nil ?_
 refine Run.slim [(6, .int .i64 y1.1), (5, .slice none 0 0), (0, v0)] ⟨rfl, rfl, rfl, trivial⟩ ?_
 refine Run.block ?_
 have h4 := St.nil 5 (Rep.int .u8) h3
 refine Run.slim [(0, v0), (5, (.slice none 0 0)), (6, .int .i64 y1.1)] ⟨rfl, rfl, rfl, trivial⟩ ?_
 refine Run.loopP (σ := (Int × made_Dice × (List Int))) (fun s_ L_ w_ => ∃ u0_ : Value, L_ = [(0, v0), (5, u0_), (6, .int .i64 s_.1)] ∧ St e w_ [] [(false, .box 85 made_Dice.rep v0 s_.2.1), (true, .slice 5 (Rep.int .u8) u0_ s_.2.2)]) hF ⟨(.slice none 0 0), rfl, (h4.facts .nil).picks (.cons (.s .z) (.cons .z .nil))⟩ (fun k1 hk1 s1 _ w2 hI hF => ?_)
 obtain ⟨u1, rfl, h5⟩ := hI
 refine Run.seq ?_
 refine Run.seq ?_
 refine Run.reg ?_
 refine op (OpS.mv rfl rfl rfl ?_)
 refine op (OpS.bin rfl rfl rfl rfl rfl ?_)
 refine RunL.nil ?_
 refine Run.slim [(12, .bool (decide (s1.1 > 0))), (0, v0), (5, u1), (6, .int .i64 s1.1)] ⟨rfl, rfl, rfl, rfl, trivial⟩ ?_
 refine Run.ite rfl hF (fun e2 hF => ?_) (fun e2 hF => ?_)
 ·
  refine Run.skip ?_
  refine Run.seq ?_
  refine Run.block ?_
  refine Run.reg ?_
  refine op (OpS.mv rfl rfl rfl ?_)
  refine op (OpS.mv rfl rfl rfl ?_)
  obtain ⟨y2, e3, hF⟩ := bindP_use hF
  have h6 := h5.front (.cons .z .nil)
  refine op (OpS.callO h6 Try.func34 rfl rfl rfl rfl (vs := [v0]) rfl (made_Dice_Byte_ok e3) rfl .nil ?_)
  rintro _ w3 _ _ _ ⟨rfl, rfl, rfl, rfl⟩ h7
  have h8 := h7
  simp only [List.cons_append, List.nil_append] at h8
  refine op (OpS.lit (r := (Rep.int .u8)) (f := true) h8 Try.underlying22 ti5 rfl rfl rfl rfl rfl (.cons rfl V.int .nil) rfl rfl (fun u2 w4 h9 => ?_))
  obtain ⟨x1, e4, hF⟩ := bindP_use hF
  refine op (OpS.app (f' := true) h9 (.s .z) Try.underlying22 ti5 rfl rfl rfl rfl rfl rfl rfl (V.at .z) (.inr Pure.int) e4 (fun u3 w5 h10 => ?_))
  refine op (OpS.as rfl rfl rfl ?_)
  refine RunL.nil ?_
  refine Run.slim [(5, u3), (0, v0), (6, .int .i64 s1.1)] ⟨rfl, rfl, rfl, trivial⟩ ?_
  refine Run.endBlock ?_
  refine Run.reg ?_
  refine op (OpS.mv rfl rfl rfl ?_)
  refine op (OpS.bin rfl rfl rfl rfl rfl ?_)
  refine op (OpS.as rfl rfl rfl ?_)
  obtain ⟨x2, e5, hF⟩ := letP_use hF
  refine RunL.name e5 ?_
  refine RunL.nil ?_
  refine Run.slim [(6, .int .i64 x2), (5, u3), (0, v0)] ⟨rfl, rfl, rfl, trivial⟩ ?_
  refine Run.slim [(0, v0), (5, u3), (6, .int .i64 x2)] ⟨rfl, rfl, rfl, trivial⟩ ?_
  exact hk1 (x2, y2.2, x1) _ _ ⟨u3, rfl, (h10.facts .nil).picks (.cons (.s .z) (.cons .z .nil))⟩ hF
 ·
  refine Run.exit rfl ?_
  refine Run.seq ?_
  refine Run.reg ?_
  refine op (OpS.mv rfl rfl rfl ?_)
  refine op (OpS.as rfl rfl rfl ?_)
  refine RunL.nil ?_
  refine Run.slim [(4, u1)] ⟨rfl, trivial⟩ ?_
  refine Run.retP rfl (.tmp rfl .nil) ?_
  cases hF
  exact Post.mk' ⟨u1, rfl, rfl, rfl, rfl⟩ (h5.picks (.cons (.s .z) (.cons .z .nil))) .nil
set_option maxHeartbeats 8000000 in
theorem made_Dice_Packet_ok {fuel : Nat} {a0 : made_Dice} {y : Packet_ × made_Dice} (hF : made_Dice_Packet fuel a0 = some y) {w : World} {v0 : Value} :
  Spec Try.prog 21 [v0].toArray w [] [(false, .box 85 made_Dice.rep v0 a0)] (fun v Γr Ωr Ωo => ∃ u0 : Value, v = u0 ∧ Γr = [(true, .val Packet_.rep u0 y.1)] ∧ Ωr = [] ∧ Ωo = [(false, .box 85 made_Dice.rep v0 y.2)]) := by
 refine Spec.of (L := [(0, v0)]) Try.func21 rfl ⟨rfl, trivial⟩ rfl (fun e h => ?_)
 unfold made_Dice_Packet at hF
 refine Run.seq ?_
 refine Run.reg ?_
 refine op (OpS.alloc h ti44 Packet_.zr rfl rfl (fun u1 w1 h1 => ?_))
 refine RunL.nil ?_
 refine Run.seq ?_
 refine Run.reg ?_
 refine op (OpS.mv rfl rfl rfl ?_)
 obtain ⟨y1, e1, hF⟩ := bindP_use hF
 have h2 := h1.front (.cons (.s .z) .nil)
 refine op (OpS.callO h2 Try.func23 rfl rfl rfl rfl (vs := [v0, .int .i64 3]) rfl (made_Dice_Next_ok e1) rfl .nil ?_)
 rintro _ w2 _ _ _ ⟨rfl, rfl, rfl, rfl⟩ h3
 have h4 := h3
 simp only [List.cons_append, List.nil_append] at h4
 refine op (OpS.bin rfl rfl rfl rfl rfl ?_)
 refine op (OpS.conv Try.underlying3 Try.underlying5 rfl rfl rfl ?_)
 refine op (OpS.mv rfl rfl rfl ?_)
 obtain ⟨y2, e2, hF⟩ := bindP_use hF
 have h5 := h4.front (.cons .z .nil)
 refine op (OpS.callO h5 Try.func22 rfl rfl rfl rfl (vs := [v0, .int .i64 2]) rfl (made_Dice_Bool_ok e2) rfl .nil ?_)
 rintro _ w3 _ _ _ ⟨rfl, rfl, rfl, rfl⟩ h6
 have h7 := h6
 simp only [List.cons_append, List.nil_append] at h7
 refine op (OpS.mv rfl rfl rfl ?_)
 obtain ⟨y3, e3, hF⟩ := bindP_use hF
 have h8 := h7.front (.cons .z .nil)
 refine op (OpS.callO h8 Try.func22 rfl rfl rfl rfl (vs := [v0, .int .i64 3]) rfl (made_Dice_Bool_ok e3) rfl .nil ?_)
 rintro _ w4 _ _ _ ⟨rfl, rfl, rfl, rfl⟩ h9
 have h10 := h9
 simp only [List.cons_append, List.nil_append] at h10
 refine op (OpS.mv rfl rfl rfl ?_)
 obtain ⟨y4, e4, hF⟩ := bindP_use hF
 have h11 := h10.front (.cons .z .nil)
 refine op (OpS.callO h11 Try.func23 rfl rfl rfl rfl (vs := [v0, .int .i64 4]) rfl (made_Dice_Next_ok e4) rfl .nil ?_)
 rintro _ w5 _ _ _ ⟨rfl, rfl, rfl, rfl⟩ h12
 have h13 := h12
 simp only [List.cons_append, List.nil_append] at h13
 refine op (OpS.mv rfl rfl rfl ?_)
 obtain ⟨y5, e5, hF⟩ := bindP_use hF
 have h14 := h13.front (.cons .z .nil)
 refine op (OpS.callO h14 Try.func22 rfl rfl rfl rfl (vs := [v0, .int .i64 2]) rfl (made_Dice_Bool_ok e5) rfl .nil ?_)
 rintro _ w6 _ _ _ ⟨rfl, rfl, rfl, rfl⟩ h15
 have h16 := h15
 simp only [List.cons_append, List.nil_append] at h16
 refine op (OpS.mv rfl rfl rfl ?_)
 obtain ⟨y6, e6, hF⟩ := bindP_use hF
 have h17 := h16.front (.cons .z .nil)
 refine op (OpS.callO h17 Try.func23 rfl rfl rfl rfl (vs := [v0, .int .i64 3]) rfl (made_Dice_Next_ok e6) rfl .nil ?_)
 rintro _ w7 _ _ _ ⟨rfl, rfl, rfl, rfl⟩ h18
 have h19 := h18
 simp only [List.cons_append, List.nil_append] at h19
 refine op (OpS.mv rfl rfl rfl ?_)
 obtain ⟨y7, e7, hF⟩ := bindP_use hF
 have h20 := h19.front (.cons .z .nil)
 refine op (OpS.callO h20 Try.func43 rfl rfl rfl rfl (vs := [v0, .int .i64 3]) rfl (made_Dice_Bytes_ok e7) rfl .nil ?_)
 rintro u2 w8 _ _ _ ⟨_, rfl, rfl, rfl, rfl⟩ h21
 have h22 := h21
 simp only [List.cons_append, List.nil_append] at h22
 refine op (OpS.lit (r := (Rep.int .u8)) (f := true) h22 Try.underlying22 ti5 rfl rfl rfl rfl rfl (.cons rfl V.int .nil) rfl rfl (fun u3 w9 h23 => ?_))
 obtain ⟨x1, e8, hF⟩ := bindP_use hF
 refine op (OpS.app (f' := true) h23 .z Try.underlying22 ti5 rfl rfl rfl rfl rfl rfl rfl (V.at .z) (.inr Pure.int) e8 (fun u4 w10 h24 => ?_))
 have h25 := (h24.pick .z).freeze
 refine op (OpS.build (f := true) (x' := (⟨9, (IntKind.u8.wrap (IntKind.i64.wrap (10 + y1.1))), y2.1, y3.1, y4.1, y5.1, y6.1, x1⟩ : Packet_)) h25 pl44 ti44 Packet_.zr rfl rfl rfl (.cons rfl Packet_.f0 rfl V.int (.cons rfl Packet_.f1 rfl V.int (.cons rfl Packet_.f2 rfl V.bool (.cons rfl Packet_.f3 rfl V.bool (.cons rfl Packet_.f4 rfl V.int (.cons rfl Packet_.f5 rfl V.bool (.cons rfl Packet_.f6 rfl V.int (.cons rfl Packet_.f7 rfl (V.at .z) .nil)))))))) (fun u5 h26 => ?_))
 refine op (OpS.alloc h26 ti44 Packet_.zr rfl rfl (fun u6 w11 h27 => ?_))
 refine op (OpS.storeB (f' := true) h27 .z PA.z Put.id ty44 rfl rfl rfl (V.at .z) (.inl rfl) (fun w12 h28 => ?_))
 refine RunL.nil ?_
 refine Run.slim [(3, u6), (2, u1), (0, v0)] ⟨rfl, rfl, rfl, trivial⟩ ?_
 refine Run.seq ?_
 refine Run.seq ?_
 refine Run.reg ?_
 refine op (OpS.mv rfl rfl rfl ?_)
 obtain ⟨y8, e9, hF⟩ := bindP_use hF
 have h29 := h28.front (.cons (.s .z) .nil)
 refine op (OpS.callO h29 Try.func23 rfl rfl rfl rfl (vs := [v0, .int .i64 30]) rfl (made_Dice_Next_ok e9) rfl .nil ?_)
 rintro _ w13 _ _ _ ⟨rfl, rfl, rfl, rfl⟩ h30
 have h31 := h30
 simp only [List.cons_append, List.nil_append] at h31
 refine RunL.nil ?_
 refine Run.slim [(24, .int .i64 y8.1), (3, u6), (2, u1), (0, v0)] ⟨rfl, rfl, rfl, rfl, trivial⟩ ?_
 refine Run.block ?_
 refine Run.seq ?_
 refine Run.reg ?_
 refine op (OpS.bin rfl rfl rfl rfl rfl ?_)
 refine op (OpS.as rfl rfl rfl ?_)
 obtain ⟨x2, e10, hF⟩ := letP_use hF
 refine RunL.nameb e10 ?_
 refine RunL.nil ?_
 refine Run.slim [(25, .bool x2), (24, .int .i64 y8.1), (3, u6), (2, u1), (0, v0)] ⟨rfl, rfl, rfl, rfl, rfl, trivial⟩ ?_
 refine Run.ite rfl hF (fun e11 hF => ?_) (fun e11 hF => ?_)
 ·
  refine Run.reg ?_
  refine op (OpS.fbox (o3 := 7) h31 (.s .z) PA.z fa44_7 rfl rfl rfl rfl ?_)
  obtain ⟨d1, e12, hF⟩ := letP_use hF
  refine op (OpS.storeB (f' := true) h31 (.s .z) PA.a (Put.of (Put.fld Packet_.f7) e12) ty22 rfl rfl rfl V.nil (.inl rfl) (fun w14 h32 => ?_))
  refine RunL.nil ?_
  refine Run.slim [(3, u6), (2, u1)] ⟨rfl, rfl, trivial⟩ ?_
  refine Run.endBlock ?_
  refine Run.seq ?_
  refine Run.reg ?_
  refine op (OpS.loadB h32 .z PA.z Get.id ty44 rfl rfl rfl (fun u7 h33 => ?_))
  refine op (OpS.storeB (f' := true) h33 (.s (.s .z)) PA.z Put.id ty44 rfl rfl rfl (V.at .z) (.inl rfl) (fun w15 h34 => ?_))
  refine RunL.nil ?_
  refine Run.slim [(2, u1)] ⟨rfl, trivial⟩ ?_
  obtain ⟨u8, hu1, h35⟩ := res_box h34 .z ty44
  refine Run.retP rfl (.cell rfl hu1 .nil) ?_
  cases hF
  exact Post.mk' ⟨u8, rfl, rfl, rfl, rfl⟩ (h35.picks (.cons (.s (.s .z)) .nil)) (.val (V.at .z) .nil)
 ·
  refine Run.seq ?_
  refine Run.reg ?_
  refine op (OpS.bin rfl rfl rfl rfl rfl ?_)
  refine op (OpS.as rfl rfl rfl ?_)
  obtain ⟨x3, e13, hF⟩ := letP_use hF
  refine RunL.nameb e13 ?_
  refine RunL.nil ?_
  refine Run.slim [(28, .bool x3), (24, .int .i64 y8.1), (3, u6), (2, u1), (0, v0)] ⟨rfl, rfl, rfl, rfl, rfl, trivial⟩ ?_
  refine Run.ite rfl hF (fun e14 hF => ?_) (fun e14 hF => ?_)
  ·
   refine Run.reg ?_
   refine op (OpS.mv rfl rfl rfl ?_)
   obtain ⟨y9, e15, hF⟩ := bindP_use hF
   have h36 := h31.front (.cons .z .nil)
   refine op (OpS.callO h36 Try.func34 rfl rfl rfl rfl (vs := [v0]) rfl (made_Dice_Byte_ok e15) rfl .nil ?_)
   rintro _ w16 _ _ _ ⟨rfl, rfl, rfl, rfl⟩ h37
   have h38 := h37
   simp only [List.cons_append, List.nil_append] at h38
   refine op (OpS.fbox (o3 := 0) h38 (.s .z) PA.z fa44_0 rfl rfl rfl rfl ?_)
   obtain ⟨d2, e16, hF⟩ := letP_use hF
   refine op (OpS.storeB (f' := true) h38 (.s .z) PA.a (Put.of (Put.fld Packet_.f0) e16) ty5 rfl rfl rfl V.int (.inl rfl) (fun w17 h39 => ?_))
   refine RunL.nil ?_
   refine Run.slim [(3, u6), (2, u1)] ⟨rfl, rfl, trivial⟩ ?_
   refine Run.endBlock ?_
   refine Run.seq ?_
   refine Run.reg ?_
   refine op (OpS.loadB h39 .z PA.z Get.id ty44 rfl rfl rfl (fun u9 h40 => ?_))
   refine op (OpS.storeB (f' := true) h40 (.s (.s .z)) PA.z Put.id ty44 rfl rfl rfl (V.at .z) (.inl rfl) (fun w18 h41 => ?_))
   refine RunL.nil ?_
   refine Run.slim [(2, u1)] ⟨rfl, trivial⟩ ?_
   obtain ⟨u10, hu2, h42⟩ := res_box h41 .z ty44
   refine Run.retP rfl (.cell rfl hu2 .nil) ?_
   cases hF
   exact Post.mk' ⟨u10, rfl, rfl, rfl, rfl⟩ (h42.picks (.cons (.s (.s .z)) .nil)) (.val (V.at .z) .nil)
  ·
   refine Run.seq ?_
   refine Run.reg ?_
   refine op (OpS.bin rfl rfl rfl rfl rfl ?_)
   refine op (OpS.as rfl rfl rfl ?_)
   obtain ⟨x4, e17, hF⟩ := letP_use hF
   refine RunL.nameb e17 ?_
   refine RunL.nil ?_
   refine Run.slim [(33, .bool x4), (24, .int .i64 y8.1), (3, u6), (2, u1), (0, v0)] ⟨rfl, rfl, rfl, rfl, rfl, trivial⟩ ?_
   refine Run.ite rfl hF (fun e18 hF => ?_) (fun e18 hF => ?_)
   ·
    refine Run.reg ?_
    refine op (OpS.fbox (o3 := 6) h31 (.s .z) PA.z fa44_6 rfl rfl rfl rfl ?_)
    obtain ⟨d3, e19, hF⟩ := letP_use hF
    refine op (OpS.storeB (f' := true) h31 (.s .z) PA.a (Put.of (Put.fld Packet_.f6) e19) ty3 rfl rfl rfl V.int (.inl rfl) (fun w19 h43 => ?_))
    refine RunL.nil ?_
    refine Run.slim [(3, u6), (2, u1)] ⟨rfl, rfl, trivial⟩ ?_
    refine Run.endBlock ?_
    refine Run.seq ?_
    refine Run.reg ?_
    refine op (OpS.loadB h43 .z PA.z Get.id ty44 rfl rfl rfl (fun u11 h44 => ?_))
    refine op (OpS.storeB (f' := true) h44 (.s (.s .z)) PA.z Put.id ty44 rfl rfl rfl (V.at .z) (.inl rfl) (fun w20 h45 => ?_))
    refine RunL.nil ?_
    refine Run.slim [(2, u1)] ⟨rfl, trivial⟩ ?_
    obtain ⟨u12, hu3, h46⟩ := res_box h45 .z ty44
    refine Run.retP rfl (.cell rfl hu3 .nil) ?_
    cases hF
    exact Post.mk' ⟨u12, rfl, rfl, rfl, rfl⟩ (h46.picks (.cons (.s (.s .z)) .nil)) (.val (V.at .z) .nil)
   ·
    refine Run.seq ?_
    refine Run.reg ?_
    refine op (OpS.bin rfl rfl rfl rfl rfl ?_)
    refine op (OpS.as rfl rfl rfl ?_)
    obtain ⟨x5, e20, hF⟩ := letP_use hF
    refine RunL.nameb e20 ?_
    refine RunL.nil ?_
    refine Run.slim [(36, .bool x5), (3, u6), (2, u1), (0, v0)] ⟨rfl, rfl, rfl, rfl, trivial⟩ ?_
    refine Run.ite rfl hF (fun e21 hF => ?_) (fun e21 hF => ?_)
    ·
     refine Run.reg ?_
     refine op (OpS.mv rfl rfl rfl ?_)
     obtain ⟨y10, e22, hF⟩ := bindP_use hF
     have h47 := h31.front (.cons .z .nil)
     refine op (OpS.callO h47 Try.func23 rfl rfl rfl rfl (vs := [v0, .int .i64 2]) rfl (made_Dice_Next_ok e22) rfl .nil ?_)
     rintro _ w21 _ _ _ ⟨rfl, rfl, rfl, rfl⟩ h48
     have h49 := h48
     simp only [List.cons_append, List.nil_append] at h49
     refine op (OpS.bin rfl rfl rfl rfl rfl ?_)
     obtain ⟨x6, e23, hF⟩ := bindP_use hF
     refine op (OpS.make h49 Try.underlying22 ti5 rfl rfl (Zr.int .u8 0) rfl rfl rfl rfl e23 (by simp) (mk_fits e23) rfl (fun u13 w22 h50 => ?_))
     refine op (OpS.fbox (o3 := 7) h50 (.s (.s .z)) PA.z fa44_7 rfl rfl rfl rfl ?_)
     refine op (OpS.storeC (f' := true) (fr := (Rep.raw u13)) (r' := (Rep.iso (fun s : Packet_ => (s.To, s.From, s.Start, s.End, s.Sequence, s.Owner, s.Tag, s.Data, ())) (Rep.prod (Rep.int .u8) (Rep.prod (Rep.int .u8) (Rep.prod Rep.bool (Rep.prod Rep.bool (Rep.prod (Rep.int .i64) (Rep.prod Rep.bool (Rep.prod (Rep.int .i64) (Rep.prod (Rep.raw (α := List Int) u13) Rep.unit)))))))))) (x' := (⟨9, (IntKind.u8.wrap (IntKind.i64.wrap (10 + y1.1))), y2.1, y3.1, y4.1, y5.1, y6.1, x1⟩ : Packet_)) h50 (.s (.s .z)) PA.a (Chg.iso _ (Chg.there (Chg.there (Chg.there (Chg.there (Chg.there (Chg.there (Chg.there (Chg.here (Chg.id (by rfl))))))))))) (Ty.like ty22 (by rfl) (by rfl)) rfl rfl rfl (V.raw (f := true) (St.own1 h50 .z) ((⟨9, (IntKind.u8.wrap (IntKind.i64.wrap (10 + y1.1))), y2.1, y3.1, y4.1, y5.1, y6.1, x1⟩ : Packet_).Data)) (.inl rfl) (fun w23 h51 => ?_))
     refine RunL.nil ?_
     refine Run.slim [(3, u6), (2, u1)] ⟨rfl, rfl, trivial⟩ ?_
     refine Run.endBlock ?_
     refine Run.seq ?_
     refine Run.reg ?_
     refine op (OpS.loadB (fr := (Rep.iso (fun s : Packet_ => (s.To, s.From, s.Start, s.End, s.Sequence, s.Owner, s.Tag, s.Data, ())) (Rep.prod (Rep.int .u8) (Rep.prod (Rep.int .u8) (Rep.prod Rep.bool (Rep.prod Rep.bool (Rep.prod (Rep.int .i64) (Rep.prod Rep.bool (Rep.prod (Rep.int .i64) (Rep.prod (Rep.raw (α := List Int) u13) Rep.unit)))))))))) h51 .z PA.z (GetS.ok GetS.id) (Ty.like ty44 (by rfl) (by rfl)) rfl rfl rfl (fun u14 h52 => ?_))
     refine op (OpS.storeC (f' := true) (fr := (Rep.iso (fun s : Packet_ => (s.To, s.From, s.Start, s.End, s.Sequence, s.Owner, s.Tag, s.Data, ())) (Rep.prod (Rep.int .u8) (Rep.prod (Rep.int .u8) (Rep.prod Rep.bool (Rep.prod Rep.bool (Rep.prod (Rep.int .i64) (Rep.prod Rep.bool (Rep.prod (Rep.int .i64) (Rep.prod (Rep.raw (α := List Int) u13) Rep.unit)))))))))) (r' := (Rep.iso (fun s : Packet_ => (s.To, s.From, s.Start, s.End, s.Sequence, s.Owner, s.Tag, s.Data, ())) (Rep.prod (Rep.int .u8) (Rep.prod (Rep.int .u8) (Rep.prod Rep.bool (Rep.prod Rep.bool (Rep.prod (Rep.int .i64) (Rep.prod Rep.bool (Rep.prod (Rep.int .i64) (Rep.prod (Rep.raw (α := List Int) u13) Rep.unit)))))))))) (x' := (⟨9, (IntKind.u8.wrap (IntKind.i64.wrap (10 + y1.1))), y2.1, y3.1, y4.1, y5.1, y6.1, x1⟩ : Packet_)) h52 (.s (.s (.s .z))) PA.z (Chg.id (by rfl)) (Ty.like ty44 (by rfl) (by rfl)) rfl rfl rfl (V.at .z) (.inl rfl) (fun w24 h53 => ?_))
     refine RunL.nil ?_
     refine Run.slim [(2, u1)] ⟨rfl, trivial⟩ ?_
     obtain ⟨u15, hu4, h54⟩ := res_box h53 .z (Ty.like ty44 (by rfl) (by rfl))
     have h55 := (h54.pick (.s (.s .z))).freeze
     have h56 := h55.pick .z
     have h57 := St.boxJ (r' := Packet_.rep) (x' := { (⟨9, (IntKind.u8.wrap (IntKind.i64.wrap (10 + y1.1))), y2.1, y3.1, y4.1, y5.1, y6.1, x1⟩ : Packet_) with Data := x6 }) h56 (fun _ _ hs_ => (Jn.iso _ (Jn.prod Jn.refl (Jn.prod Jn.refl (Jn.prod Jn.refl (Jn.prod Jn.refl (Jn.prod Jn.refl (Jn.prod Jn.refl (Jn.prod Jn.refl (Jn.prod (Jn.raw ((V.at .z) _ _ hs_) rfl) Jn.refl))))))))))
     have h58 := h57.pick (.s .z)
     have h59 := St.boxJ (r' := Packet_.rep) (x' := { (⟨9, (IntKind.u8.wrap (IntKind.i64.wrap (10 + y1.1))), y2.1, y3.1, y4.1, y5.1, y6.1, x1⟩ : Packet_) with Data := x6 }) h58 (fun _ _ hs_ => (Jn.iso _ (Jn.prod Jn.refl (Jn.prod Jn.refl (Jn.prod Jn.refl (Jn.prod Jn.refl (Jn.prod Jn.refl (Jn.prod Jn.refl (Jn.prod Jn.refl (Jn.prod (Jn.raw ((V.at .z) _ _ hs_) rfl) Jn.refl))))))))))
     have h60 := St.addV (f := true) (r := Packet_.rep) (x := { (⟨9, (IntKind.u8.wrap (IntKind.i64.wrap (10 + y1.1))), y2.1, y3.1, y4.1, y5.1, y6.1, x1⟩ : Packet_) with Data := x6 }) h59 (V.jn (r := (Rep.iso (fun s : Packet_ => (s.To, s.From, s.Start, s.End, s.Sequence, s.Owner, s.Tag, s.Data, ())) (Rep.prod (Rep.int .u8) (Rep.prod (Rep.int .u8) (Rep.prod Rep.bool (Rep.prod Rep.bool (Rep.prod (Rep.int .i64) (Rep.prod Rep.bool (Rep.prod (Rep.int .i64) (Rep.prod (Rep.raw (α := List Int) u13) Rep.unit)))))))))) (x := (⟨9, (IntKind.u8.wrap (IntKind.i64.wrap (10 + y1.1))), y2.1, y3.1, y4.1, y5.1, y6.1, x1⟩ : Packet_)) (V.at (.s .z)) rfl (fun _ _ hs_ => (Jn.iso _ (Jn.prod Jn.refl (Jn.prod Jn.refl (Jn.prod Jn.refl (Jn.prod Jn.refl (Jn.prod Jn.refl (Jn.prod Jn.refl (Jn.prod Jn.refl (Jn.prod (Jn.raw ((V.at .z) _ _ hs_) rfl) Jn.refl)))))))))))
     refine Run.retP rfl (.cell rfl hu4 .nil) ?_
     cases hF
     exact Post.mk' ⟨u15, rfl, rfl, rfl, rfl⟩ (h60.picks (.cons (.s (.s .z)) .nil)) (.val (V.at .z) .nil)
    ·
     refine Run.skip ?_
     refine Run.endBlock ?_
     refine Run.seq ?_
     refine Run.reg ?_
     refine op (OpS.loadB h31 (.s .z) PA.z Get.id ty44 rfl rfl rfl (fun u16 h61 => ?_))
     refine op (OpS.storeB (f' := true) h61 (.s (.s .z)) PA.z Put.id ty44 rfl rfl rfl (V.at .z) (.inl rfl) (fun w25 h62 => ?_))
     refine RunL.nil ?_
     refine Run.slim [(2, u1)] ⟨rfl, trivial⟩ ?_
     obtain ⟨u17, hu5, h63⟩ := res_box h62 .z ty44
     refine Run.retP rfl (.cell rfl hu5 .nil) ?_
     cases hF
     exact Post.mk' ⟨u17, rfl, rfl, rfl, rfl⟩ (h63.picks (.cons (.s .z) .nil)) (.val (V.at .z) .nil)
theorem ref22_Valid_ok {fuel : Nat} {a0 : Packet_} {y : Bool} (hF : ref22_Valid fuel a0 = some y) {w : World} {v0 : Value} :
  Spec Try.prog 33 [v0].toArray w [(false, .val Packet_.rep v0 a0)] [] (fun v Γr Ωr Ωo => v = .bool y ∧ Γr = [] ∧ Ωr = [] ∧ Ωo = []) := by
 refine Spec.of (L := [(0, v0)]) Try.func33 rfl ⟨rfl, trivial⟩ rfl (fun e h => ?_)
 unfold ref22_Valid at hF
 refine Run.seq ?_
 refine Run.reg ?_
 refine op (OpS.boxF h rfl rfl rfl (V.at .z) (fun u1 w1 h1 => ?_))
 refine op (OpS.as rfl rfl rfl ?_)
 refine RunL.nil ?_
 refine Run.slim [(1, u1)] ⟨rfl, trivial⟩ ?_
 refine Run.seq ?_
 refine Run.reg ?_
 refine op (OpS.fbox (o3 := 0) h1 .z PA.z fa44_0 rfl rfl rfl rfl ?_)
 refine op (OpS.loadBi h1 .z PA.a (Get.fld Packet_.f0) ty5 rfl rfl rfl ?_)
 obtain ⟨y1, e1, hF⟩ := bindP_use hF
 refine op (OpS.callP h1 Try.func41 rfl rfl rfl rfl (vs := [.int .u8 a0.To]) rfl (ref22_Endpoint_ok e1) .nil ?_)
 rintro _ w2 _ _ _ ⟨rfl, rfl, rfl, rfl⟩ h2
 have h3 := h2 rfl rfl
 simp only [List.cons_append, List.nil_append] at h3
 refine op (OpS.mv rfl rfl rfl ?_)
 refine RunL.caseb hF (fun e2 hF => ?_) (fun e2 hF => ?_)
 ·
  refine op (OpS.fbox (o3 := 1) h3 .z PA.z fa44_1 rfl rfl rfl rfl ?_)
  refine op (OpS.loadBi h3 .z PA.a (Get.fld Packet_.f1) ty5 rfl rfl rfl ?_)
  obtain ⟨y2, e3, hF⟩ := bindP_use hF
  refine op (OpS.callP h3 Try.func41 rfl rfl rfl rfl (vs := [.int .u8 a0.From]) rfl (ref22_Endpoint_ok e3) .nil ?_)
  rintro _ w3 _ _ _ ⟨rfl, rfl, rfl, rfl⟩ h4
  have h5 := h4 rfl rfl
  simp only [List.cons_append, List.nil_append] at h5
  refine op (OpS.pick rfl rfl rfl rfl ?_)
  refine op (OpS.mv rfl rfl rfl ?_)
  refine RunL.caseb hF (fun e4 hF => ?_) (fun e4 hF => ?_)
  ·
   refine op (OpS.fbox (o3 := 4) h5 .z PA.z fa44_4 rfl rfl rfl rfl ?_)
   refine op (OpS.loadBi h5 .z PA.a (Get.fld Packet_.f4) ty3 rfl rfl rfl ?_)
   refine op (OpS.bin rfl rfl rfl rfl rfl ?_)
   refine op (OpS.pick rfl rfl rfl rfl ?_)
   refine op (OpS.mv rfl rfl rfl ?_)
   refine RunL.caseb hF (fun e5 hF => ?_) (fun e5 hF => ?_)
   ·
    refine op (OpS.fbox (o3 := 4) h5 .z PA.z fa44_4 rfl rfl rfl rfl ?_)
    refine op (OpS.loadBi h5 .z PA.a (Get.fld Packet_.f4) ty3 rfl rfl rfl ?_)
    refine op (OpS.bin rfl rfl rfl rfl rfl ?_)
    refine op (OpS.pick rfl rfl rfl rfl ?_)
    refine op (OpS.mv rfl rfl rfl ?_)
    refine RunL.caseb hF (fun e6 hF => ?_) (fun e6 hF => ?_)
    ·
     refine op (OpS.fbox (o3 := 6) h5 .z PA.z fa44_6 rfl rfl rfl rfl ?_)
     refine op (OpS.loadBi h5 .z PA.a (Get.fld Packet_.f6) ty3 rfl rfl rfl ?_)
     refine op (OpS.bin rfl rfl rfl rfl rfl ?_)
     refine op (OpS.pick rfl rfl rfl rfl ?_)
     refine op (OpS.mv rfl rfl rfl ?_)
     refine RunL.caseb hF (fun e7 hF => ?_) (fun e7 hF => ?_)
     ·
      refine op (OpS.fbox (o3 := 6) h5 .z PA.z fa44_6 rfl rfl rfl rfl ?_)
      refine op (OpS.loadBi h5 .z PA.a (Get.fld Packet_.f6) ty3 rfl rfl rfl ?_)
      refine op (OpS.bin rfl rfl rfl rfl rfl ?_)
      refine op (OpS.pick rfl rfl rfl rfl ?_)
      refine op (OpS.mv rfl rfl rfl ?_)
      refine RunL.caseb hF (fun e8 hF => ?_) (fun e8 hF => ?_)
      ·
       refine op (OpS.fbox (o3 := 7) h5 .z PA.z fa44_7 rfl rfl rfl rfl ?_)
       refine op (OpS.loadB h5 .z PA.a (Get.fld Packet_.f7) ty22 rfl rfl rfl (fun u2 h6 => ?_))
       refine op (OpS.len h6 Try.underlying22 rfl rfl rfl (V.at .z) ?_)
       refine op (OpS.bin rfl rfl rfl rfl rfl ?_)
       refine op (OpS.pick rfl rfl rfl rfl ?_)
       refine op (OpS.mv rfl rfl rfl ?_)
       refine RunL.caseb hF (fun e9 hF => ?_) (fun e9 hF => ?_)
       ·
        refine op (OpS.fbox (o3 := 7) h6 .z PA.z fa44_7 rfl rfl rfl rfl ?_)
        refine op (OpS.loadB h6 .z PA.a (Get.fld Packet_.f7) ty22 rfl rfl rfl (fun u3 h7 => ?_))
        refine op (OpS.len h7 Try.underlying22 rfl rfl rfl (V.at .z) ?_)
        refine op (OpS.bin rfl rfl rfl rfl rfl ?_)
        refine op (OpS.pick rfl rfl rfl rfl ?_)
        refine op (OpS.as rfl rfl rfl ?_)
        obtain ⟨x1, e10, hF⟩ := letP_use hF
        refine RunL.nameb e10 ?_
        refine RunL.nil ?_
        refine Run.slim [(2, .bool x1)] ⟨rfl, trivial⟩ ?_
        refine Run.retP rfl (.tmp rfl .nil) ?_
        cases hF
        exact Post.mk' ⟨rfl, rfl, rfl, rfl⟩ (h7.picks .nil) .nil
       ·
        refine op (OpS.pass rfl rfl rfl ?_)
        refine op (OpS.pass rfl rfl rfl ?_)
        refine op (OpS.pass rfl rfl rfl ?_)
        refine op (OpS.pass rfl rfl rfl ?_)
        refine op (OpS.pick rfl rfl rfl rfl ?_)
        refine op (OpS.as rfl rfl rfl ?_)
        refine RunL.nil ?_
        refine Run.slim [(2, .bool false)] ⟨rfl, trivial⟩ ?_
        refine Run.retP rfl (.tmp rfl .nil) ?_
        cases hF
        exact Post.mk' ⟨rfl, rfl, rfl, rfl⟩ (h6.picks .nil) .nil
      ·
       refine op (OpS.pass rfl rfl rfl ?_)
       refine op (OpS.pass rfl rfl rfl ?_)
       refine op (OpS.pass rfl rfl rfl ?_)
       refine op (OpS.pass rfl rfl rfl ?_)
       refine op (OpS.pick rfl rfl rfl rfl ?_)
       refine op (OpS.mv rfl rfl rfl ?_)
       refine op (OpS.pass rfl rfl rfl ?_)
       refine op (OpS.pass rfl rfl rfl ?_)
       refine op (OpS.pass rfl rfl rfl ?_)
       refine op (OpS.pass rfl rfl rfl ?_)
       refine op (OpS.pick rfl rfl rfl rfl ?_)
       refine op (OpS.as rfl rfl rfl ?_)
       refine RunL.nil ?_
       refine Run.slim [(2, .bool false)] ⟨rfl, trivial⟩ ?_
       refine Run.retP rfl (.tmp rfl .nil) ?_
       cases hF
       exact Post.mk' ⟨rfl, rfl, rfl, rfl⟩ (h5.picks .nil) .nil
     ·
      refine op (OpS.pass rfl rfl rfl ?_)
      refine op (OpS.pass rfl rfl rfl ?_)
      refine op (OpS.pass rfl rfl rfl ?_)
      refine op (OpS.pick rfl rfl rfl rfl ?_)
      refine op (OpS.mv rfl rfl rfl ?_)
      refine op (OpS.pass rfl rfl rfl ?_)
      refine op (OpS.pass rfl rfl rfl ?_)
      refine op (OpS.pass rfl rfl rfl ?_)
      refine op (OpS.pass rfl rfl rfl ?_)
      refine op (OpS.pick rfl rfl rfl rfl ?_)
      refine op (OpS.mv rfl rfl rfl ?_)
      refine op (OpS.pass rfl rfl rfl ?_)
      refine op (OpS.pass rfl rfl rfl ?_)
      refine op (OpS.pass rfl rfl rfl ?_)
      refine op (OpS.pass rfl rfl rfl ?_)
      refine op (OpS.pick rfl rfl rfl rfl ?_)
      refine op (OpS.as rfl rfl rfl ?_)
      refine RunL.nil ?_
      refine Run.slim [(2, .bool false)] ⟨rfl, trivial⟩ ?_
      refine Run.retP rfl (.tmp rfl .nil) ?_
      cases hF
      exact Post.mk' ⟨rfl, rfl, rfl, rfl⟩ (h5.picks .nil) .nil
    ·
     refine op (OpS.pass rfl rfl rfl ?_)
     refine op (OpS.pass rfl rfl rfl ?_)
     refine op (OpS.pass rfl rfl rfl ?_)
     refine op (OpS.pick rfl rfl rfl rfl ?_)
     refine op (OpS.mv rfl rfl rfl ?_)
     refine op (OpS.pass rfl rfl rfl ?_)
     refine op (OpS.pass rfl rfl rfl ?_)
     refine op (OpS.pass rfl rfl rfl ?_)
     refine op (OpS.pick rfl rfl rfl rfl ?_)
     refine op (OpS.mv rfl rfl rfl ?_)
     refine op (OpS.pass rfl rfl rfl ?_)
     refine op (OpS.pass rfl rfl rfl ?_)
     refine op (OpS.pass rfl rfl rfl ?_)
     refine op (OpS.pass rfl rfl rfl ?_)
     refine op (OpS.pick rfl rfl rfl rfl ?_)
     refine op (OpS.mv rfl rfl rfl ?_)
     refine op (OpS.pass rfl rfl rfl ?_)
     refine op (OpS.pass rfl rfl rfl ?_)
     refine op (OpS.pass rfl rfl rfl ?_)
     refine op (OpS.pass rfl rfl rfl ?_)
     refine op (OpS.pick rfl rfl rfl rfl ?_)
     refine op (OpS.as rfl rfl rfl ?_)
     refine RunL.nil ?_
     refine Run.slim [(2, .bool false)] ⟨rfl, trivial⟩ ?_
     refine Run.retP rfl (.tmp rfl .nil) ?_
     cases hF
     exact Post.mk' ⟨rfl, rfl, rfl, rfl⟩ (h5.picks .nil) .nil
   ·
    refine op (OpS.pass rfl rfl rfl ?_)
    refine op (OpS.pass rfl rfl rfl ?_)
    refine op (OpS.pass rfl rfl rfl ?_)
    refine op (OpS.pick rfl rfl rfl rfl ?_)
    refine op (OpS.mv rfl rfl rfl ?_)
    refine op (OpS.pass rfl rfl rfl ?_)
    refine op (OpS.pass rfl rfl rfl ?_)
    refine op (OpS.pass rfl rfl rfl ?_)
    refine op (OpS.pick rfl rfl rfl rfl ?_)
    refine op (OpS.mv rfl rfl rfl ?_)
    refine op (OpS.pass rfl rfl rfl ?_)
    refine op (OpS.pass rfl rfl rfl ?_)
    refine op (OpS.pass rfl rfl rfl ?_)
    refine op (OpS.pick rfl rfl rfl rfl ?_)
    refine op (OpS.mv rfl rfl rfl ?_)
    refine op (OpS.pass rfl rfl rfl ?_)
    refine op (OpS.pass rfl rfl rfl ?_)
    refine op (OpS.pass rfl rfl rfl ?_)
    refine op (OpS.pass rfl rfl rfl ?_)
    refine op (OpS.pick rfl rfl rfl rfl ?_)
    refine op (OpS.mv rfl rfl rfl ?_)
    refine op (OpS.pass rfl rfl rfl ?_)
    refine op (OpS.pass rfl rfl rfl ?_)
    refine op (OpS.pass rfl rfl rfl ?_)
    refine op (OpS.pass rfl rfl rfl ?_)
    refine op (OpS.pick rfl rfl rfl rfl ?_)
    refine op (OpS.as rfl rfl rfl ?_)
    refine RunL.nil ?_
    refine Run.slim [(2, .bool false)] ⟨rfl, trivial⟩ ?_
    refine Run.retP rfl (.tmp rfl .nil) ?_
    cases hF
    exact Post.mk' ⟨rfl, rfl, rfl, rfl⟩ (h5.picks .nil) .nil
  ·
   refine op (OpS.pass rfl rfl rfl ?_)
   refine op (OpS.pass rfl rfl rfl ?_)
   refine op (OpS.pass rfl rfl rfl ?_)
   refine op (OpS.pick rfl rfl rfl rfl ?_)
   refine op (OpS.mv rfl rfl rfl ?_)
   refine op (OpS.pass rfl rfl rfl ?_)
   refine op (OpS.pass rfl rfl rfl ?_)
   refine op (OpS.pass rfl rfl rfl ?_)
   refine op (OpS.pick rfl rfl rfl rfl ?_)
   refine op (OpS.mv rfl rfl rfl ?_)
   refine op (OpS.pass rfl rfl rfl ?_)
   refine op (OpS.pass rfl rfl rfl ?_)
   refine op (OpS.pass rfl rfl rfl ?_)
   refine op (OpS.pick rfl rfl rfl rfl ?_)
   refine op (OpS.mv rfl rfl rfl ?_)
   refine op (OpS.pass rfl rfl rfl ?_)
   refine op (OpS.pass rfl rfl rfl ?_)
   refine op (OpS.pass rfl rfl rfl ?_)
   refine op (OpS.pick rfl rfl rfl rfl ?_)
   refine op (OpS.mv rfl rfl rfl ?_)
   refine op (OpS.pass rfl rfl rfl ?_)
   refine op (OpS.pass rfl rfl rfl ?_)
   refine op (OpS.pass rfl rfl rfl ?_)
   refine op (OpS.pass rfl rfl rfl ?_)
   refine op (OpS.pick rfl rfl rfl rfl ?_)
   refine op (OpS.mv rfl rfl rfl ?_)
   refine op (OpS.pass rfl rfl rfl ?_)
   refine op (OpS.pass rfl rfl rfl ?_)
   refine op (OpS.pass rfl rfl rfl ?_)
   refine op (OpS.pass rfl rfl rfl ?_)
   refine op (OpS.pick rfl rfl rfl rfl ?_)
   refine op (OpS.as rfl rfl rfl ?_)
   refine RunL.nil ?_
   refine Run.slim [(2, .bool false)] ⟨rfl, trivial⟩ ?_
   refine Run.retP rfl (.tmp rfl .nil) ?_
   cases hF
   exact Post.mk' ⟨rfl, rfl, rfl, rfl⟩ (h5.picks .nil) .nil
 ·
  refine op (OpS.pass rfl rfl rfl ?_)
  refine op (OpS.pass rfl rfl rfl ?_)
  refine op (OpS.pass rfl rfl rfl ?_)
  refine op (OpS.pick rfl rfl rfl rfl ?_)
  refine op (OpS.mv rfl rfl rfl ?_)
  refine op (OpS.pass rfl rfl rfl ?_)
  refine op (OpS.pass rfl rfl rfl ?_)
  refine op (OpS.pass rfl rfl rfl ?_)
  refine op (OpS.pick rfl rfl rfl rfl ?_)
  refine op (OpS.mv rfl rfl rfl ?_)
  refine op (OpS.pass rfl rfl rfl ?_)
  refine op (OpS.pass rfl rfl rfl ?_)
  refine op (OpS.pass rfl rfl rfl ?_)
  refine op (OpS.pick rfl rfl rfl rfl ?_)
  refine op (OpS.mv rfl rfl rfl ?_)
  refine op (OpS.pass rfl rfl rfl ?_)
  refine op (OpS.pass rfl rfl rfl ?_)
  refine op (OpS.pass rfl rfl rfl ?_)
  refine op (OpS.pick rfl rfl rfl rfl ?_)
  refine op (OpS.mv rfl rfl rfl ?_)
  refine op (OpS.pass rfl rfl rfl ?_)
  refine op (OpS.pass rfl rfl rfl ?_)
  refine op (OpS.pass rfl rfl rfl ?_)
  refine op (OpS.pick rfl rfl rfl rfl ?_)
  refine op (OpS.mv rfl rfl rfl ?_)
  refine op (OpS.pass rfl rfl rfl ?_)
  refine op (OpS.pass rfl rfl rfl ?_)
  refine op (OpS.pass rfl rfl rfl ?_)
  refine op (OpS.pass rfl rfl rfl ?_)
  refine op (OpS.pick rfl rfl rfl rfl ?_)
  refine op (OpS.mv rfl rfl rfl ?_)
  refine op (OpS.pass rfl rfl rfl ?_)
  refine op (OpS.pass rfl rfl rfl ?_)
  refine op (OpS.pass rfl rfl rfl ?_)
  refine op (OpS.pass rfl rfl rfl ?_)
  refine op (OpS.pick rfl rfl rfl rfl ?_)
  refine op (OpS.as rfl rfl rfl ?_)
  refine RunL.nil ?_
  refine Run.slim [(2, .bool false)] ⟨rfl, trivial⟩ ?_
  refine Run.retP rfl (.tmp rfl .nil) ?_
  cases hF
  exact Post.mk' ⟨rfl, rfl, rfl, rfl⟩ (h3.picks .nil) .nil
theorem ref22_Assembler_find_ok {fuel : Nat} {a0 : ref22_Assembler} {a1 : Packet_} {y : Int} (hF : ref22_Assembler_find fuel a0 a1 = some y) {w : World} {v0 v0_0 v1 : Value} :
  Spec Try.prog 47 [v0, v1].toArray w [(false, .val Packet_.rep v1 a1)] [(false, .box 49 (Rep.iso (fun s : ref22_Assembler => (s.Own, s.Items, ())) (Rep.prod (Rep.int .u8) (Rep.prod (Rep.raw (α := List ref22_Item) v0_0) Rep.unit))) v0 a0), (false, .slice 53 ref22_Item.rep v0_0 a0.Items)] (fun v Γr Ωr Ωo => v = .int .i64 y ∧ Γr = [] ∧ Ωr = [] ∧ Ωo = [(false, .box 49 (Rep.iso (fun s : ref22_Assembler => (s.Own, s.Items, ())) (Rep.prod (Rep.int .u8) (Rep.prod (Rep.raw (α := List ref22_Item) v0_0) Rep.unit))) v0 a0), (false, (.slice 53 ref22_Item.rep v0_0 a0.Items))]) := by
 refine Spec.of (L := [(0, v0), (1, v1)]) Try.func47 rfl ⟨rfl, rfl, trivial⟩ rfl (fun e h => ?_)
 unfold ref22_Assembler_find at hF
 refine Run.seq ?_
 refine Run.reg ?_
 refine op (OpS.boxF h rfl rfl rfl (V.at .z) (fun u1 w1 h1 => ?_))
 refine op (OpS.as rfl rfl rfl ?_)
 refine RunL.nil ?_
 refine Run.slim [(3, u1), (0, v0)] ⟨rfl, rfl, trivial⟩ ?_
 refine Run.seq ?_
 refine Run.seq ?_
 refine Run.reg ?_
 refine op (OpS.as rfl rfl rfl ?_)
 refine RunL.nil ?_
 refine Run.block ?_
 refine Run.slim [(0, v0), (3, u1), (5, .int .i64 0)] ⟨rfl, rfl, rfl, trivial⟩ ?_
 refine Run.loopP (σ := Int) (fun s_ L_ w_ => L_ = [(0, v0), (3, u1), (5, .int .i64 s_)] ∧ St e w_ [] [(false, .box 49 (Rep.iso (fun s : ref22_Assembler => (s.Own, s.Items, ())) (Rep.prod (Rep.int .u8) (Rep.prod (Rep.raw (α := List ref22_Item) v0_0) Rep.unit))) v0 a0), (false, .box 44 Packet_.rep u1 a1), (false, .slice 53 ref22_Item.rep v0_0 a0.Items)]) hF ⟨rfl, (h1.facts .nil).picks (.cons (.s .z) (.cons .z (.cons .z .nil)))⟩ (fun k1 hk1 s1 _ w2 hI hF => ?_)
 obtain ⟨rfl, h2⟩ := hI
 refine Run.seq ?_
 refine Run.seq ?_
 refine Run.reg ?_
 refine op (OpS.mv rfl rfl rfl ?_)
 refine op (OpS.mv rfl rfl rfl ?_)
 refine op (OpS.nchk h2 .z rfl rfl rfl ?_)
 refine op (OpS.fbox (o3 := 1) h2 .z PA.z fa49_1 rfl rfl rfl rfl ?_)
 refine op (OpS.loadR h2 .z PA.a (GetS.ok (GetS.iso _ (GetS.there (GetS.here GetS.id)))) ty47 rfl rfl rfl rfl rfl ?_)
 refine op (OpS.lenO h2 (.s (.s .z)) Try.underlying47 rfl rfl rfl ?_)
 refine op (OpS.bin rfl rfl rfl rfl rfl ?_)
 refine RunL.nil ?_
 refine Run.slim [(13, .bool (decide (s1 < (a0.Items.length : Int)))), (0, v0), (3, u1), (5, .int .i64 s1)] ⟨rfl, rfl, rfl, rfl, trivial⟩ ?_
 refine Run.ite rfl hF (fun e1 hF => ?_) (fun e1 hF => ?_)
 ·
  refine Run.skip ?_
  refine Run.seq ?_
  refine Run.block ?_
  refine Run.seq ?_
  refine Run.reg ?_
  refine op (OpS.mv rfl rfl rfl ?_)
  refine op (OpS.nchk h2 .z rfl rfl rfl ?_)
  refine op (OpS.fbox (o3 := 1) h2 .z PA.z fa49_1 rfl rfl rfl rfl ?_)
  refine op (OpS.loadR h2 .z PA.a (GetS.ok (GetS.iso _ (GetS.there (GetS.here GetS.id)))) ty47 rfl rfl rfl rfl rfl ?_)
  refine op (OpS.mv rfl rfl rfl ?_)
  obtain ⟨x1, e2, hF⟩ := bindP_use hF
  refine op (OpS.iown h2 (.s (.s .z)) Try.underlying47 ty53 rfl rfl rfl rfl e2 ?_)
  refine op (OpS.fown h2 (.s (.s .z)) (idx_ne e2) PA.a fa53_0 rfl rfl rfl ?_)
  refine op (OpS.loadO h2 (.s (.s .z)) (idx_ne e2) PA.a (Get.comp (Get.arr e2) (Get.fld ref22_Item.f0)) ty51 rfl rfl rfl (fun u2 h3 => ?_))
  refine op (OpS.alloc h3 ti51 Whole_.zr rfl rfl (fun u3 w3 h4 => ?_))
  have h5 := (h4.pick .z).weak
  refine op (OpS.storeB (f' := false) h5 .z PA.z Put.id ty51 rfl rfl rfl (V.at .z) (.inr rfl) (fun w4 h6 => ?_))
  refine RunL.nil ?_
  refine Run.slim [(6, u3), (0, v0), (3, u1), (5, .int .i64 s1)] ⟨rfl, rfl, rfl, rfl, trivial⟩ ?_
  refine Run.seq ?_
  refine Run.reg ?_
  refine op (OpS.fbox (o3 := 0) h6 .z PA.z fa51_0 rfl rfl rfl rfl ?_)
  refine op (OpS.loadBi h6 .z PA.a (Get.fld Whole_.f0) ty5 rfl rfl rfl ?_)
  refine op (OpS.fbox (o3 := 1) h6 (.s (.s .z)) PA.z fa44_1 rfl rfl rfl rfl ?_)
  refine op (OpS.loadBi h6 (.s (.s .z)) PA.a (Get.fld Packet_.f1) ty5 rfl rfl rfl ?_)
  refine op (OpS.bin rfl rfl rfl rfl rfl ?_)
  refine op (OpS.mv rfl rfl rfl ?_)
  refine RunL.join (σ := Bool) (fun s_ L_ w_ => L_ = [(0, v0), (3, u1), (5, .int .i64 s1), (42, .bool s_)] ∧ St e w_ [] [(false, .box 49 (Rep.iso (fun s : ref22_Assembler => (s.Own, s.Items, ())) (Rep.prod (Rep.int .u8) (Rep.prod (Rep.raw (α := List ref22_Item) v0_0) Rep.unit))) v0 a0), (false, .box 44 Packet_.rep u1 a1), (false, .slice 53 ref22_Item.rep v0_0 a0.Items)]) hF (fun s2 _ w5 hI hF => ?_) (fun j1 hj1 hF => ?_)
  ·
   obtain ⟨rfl, h7⟩ := hI
   refine Run.ite rfl hF (fun e3 hF => ?_) (fun e3 hF => ?_)
   ·
    refine Run.seq ?_
    refine Run.reg ?_
    refine op (OpS.mv rfl rfl rfl ?_)
    refine op (OpS.as rfl rfl rfl ?_)
    refine RunL.nil ?_
    refine Run.slim [(4, .int .i64 s1)] ⟨rfl, trivial⟩ ?_
    refine Run.retP rfl (.tmp rfl .nil) ?_
    cases hF
    exact Post.mk' ⟨rfl, rfl, rfl, rfl⟩ (h7.picks (.cons .z (.cons (.s .z) .nil))) .nil
   ·
    refine Run.skip ?_
    refine Run.endBlock ?_
    refine Run.reg ?_
    refine op (OpS.mv rfl rfl rfl ?_)
    refine op (OpS.bin rfl rfl rfl rfl rfl ?_)
    refine op (OpS.as rfl rfl rfl ?_)
    obtain ⟨x2, e4, hF⟩ := letP_use hF
    refine RunL.name e4 ?_
    refine RunL.nil ?_
    refine Run.slim [(5, .int .i64 x2), (0, v0), (3, u1)] ⟨rfl, rfl, rfl, trivial⟩ ?_
    refine Run.slim [(0, v0), (3, u1), (5, .int .i64 x2)] ⟨rfl, rfl, rfl, trivial⟩ ?_
    exact hk1 (x2) _ _ ⟨rfl, (h7.facts .nil).picks (.cons .z (.cons .z (.cons .z .nil)))⟩ hF
  ·
   refine RunL.caseb hF (fun e5 hF => ?_) (fun e5 hF => ?_)
   ·
    refine op (OpS.fbox (o3 := 1) h6 .z PA.z fa51_1 rfl rfl rfl rfl ?_)
    refine op (OpS.loadBb h6 .z PA.a (Get.fld Whole_.f1) ty4 rfl rfl rfl ?_)
    refine op (OpS.fbox (o3 := 5) h6 (.s (.s .z)) PA.z fa44_5 rfl rfl rfl rfl ?_)
    refine op (OpS.loadBb h6 (.s (.s .z)) PA.a (Get.fld Packet_.f5) ty4 rfl rfl rfl ?_)
    refine op (OpS.eqb Try.underlying4 rfl rfl rfl rfl ?_)
    refine op (OpS.pick rfl rfl rfl rfl ?_)
    refine op (OpS.mv rfl rfl rfl ?_)
    refine RunL.caseb hF (fun e6 hF => ?_) (fun e6 hF => ?_)
    ·
     refine op (OpS.fbox (o3 := 2) h6 .z PA.z fa51_2 rfl rfl rfl rfl ?_)
     refine op (OpS.loadBi h6 .z PA.a (Get.fld Whole_.f2) ty3 rfl rfl rfl ?_)
     refine op (OpS.fbox (o3 := 6) h6 (.s (.s .z)) PA.z fa44_6 rfl rfl rfl rfl ?_)
     refine op (OpS.loadBi h6 (.s (.s .z)) PA.a (Get.fld Packet_.f6) ty3 rfl rfl rfl ?_)
     refine op (OpS.bin rfl rfl rfl rfl rfl ?_)
     refine op (OpS.pick rfl rfl rfl rfl ?_)
     refine RunL.nil ?_
     refine Run.slim [(42, .bool (x1.Whole.Tag == a1.Tag)), (0, v0), (3, u1), (5, .int .i64 s1)] ⟨rfl, rfl, rfl, rfl, trivial⟩ ?_
     refine Run.slim [(0, v0), (3, u1), (5, .int .i64 s1), (42, .bool (x1.Whole.Tag == a1.Tag))] ⟨rfl, rfl, rfl, rfl, trivial⟩ ?_
     exact hj1 (x1.Whole.Tag == a1.Tag) _ _ ⟨rfl, (h6.facts .nil).picks (.cons (.s .z) (.cons (.s .z) (.cons (.s .z) .nil)))⟩ hF
    ·
     refine op (OpS.pass rfl rfl rfl ?_)
     refine op (OpS.pass rfl rfl rfl ?_)
     refine op (OpS.pass rfl rfl rfl ?_)
     refine op (OpS.pass rfl rfl rfl ?_)
     refine op (OpS.pass rfl rfl rfl ?_)
     refine op (OpS.pick rfl rfl rfl rfl ?_)
     refine RunL.nil ?_
     refine Run.slim [(42, .bool false), (0, v0), (3, u1), (5, .int .i64 s1)] ⟨rfl, rfl, rfl, rfl, trivial⟩ ?_
     refine Run.slim [(0, v0), (3, u1), (5, .int .i64 s1), (42, .bool false)] ⟨rfl, rfl, rfl, rfl, trivial⟩ ?_
     exact hj1 (false) _ _ ⟨rfl, (h6.facts .nil).picks (.cons (.s .z) (.cons (.s .z) (.cons (.s .z) .nil)))⟩ hF
   ·
    refine op (OpS.pass rfl rfl rfl ?_)
    refine op (OpS.pass rfl rfl rfl ?_)
    refine op (OpS.pass rfl rfl rfl ?_)
    refine op (OpS.pass rfl rfl rfl ?_)
    refine op (OpS.pass rfl rfl rfl ?_)
    refine op (OpS.pick rfl rfl rfl rfl ?_)
    refine op (OpS.mv rfl rfl rfl ?_)
    refine op (OpS.pass rfl rfl rfl ?_)
    refine op (OpS.pass rfl rfl rfl ?_)
    refine op (OpS.pass rfl rfl rfl ?_)
    refine op (OpS.pass rfl rfl rfl ?_)
    refine op (OpS.pass rfl rfl rfl ?_)
    refine op (OpS.pick rfl rfl rfl rfl ?_)
    refine RunL.nil ?_
    refine Run.slim [(42, .bool false), (0, v0), (3, u1), (5, .int .i64 s1)] ⟨rfl, rfl, rfl, rfl, trivial⟩ ?_
    refine Run.slim [(0, v0), (3, u1), (5, .int .i64 s1), (42, .bool false)] ⟨rfl, rfl, rfl, rfl, trivial⟩ ?_
    exact hj1 (false) _ _ ⟨rfl, (h6.facts .nil).picks (.cons (.s .z) (.cons (.s .z) (.cons (.s .z) .nil)))⟩ hF
 ·
  refine Run.exit rfl ?_
  refine Run.seq ?_
  refine Run.reg ?_
  refine op (OpS.as rfl rfl rfl ?_)
  refine RunL.nil ?_
  refine Run.slim [(4, .int .i64 (-1))] ⟨rfl, trivial⟩ ?_
  refine Run.retP rfl (.tmp rfl .nil) ?_
  cases hF
  exact Post.mk' ⟨rfl, rfl, rfl, rfl⟩ (h2.picks (.cons .z (.cons (.s .z) .nil))) .nil
theorem ref22_Assembler_drop_ok {fuel : Nat} {a0 : ref22_Assembler} {a1 : Int} {y : ref22_Assembler} (hF : ref22_Assembler_drop fuel a0 a1 = some y) {w : World} {v0 v0_0 : Value} :
  Spec Try.prog 48 [v0, .int .i64 a1].toArray w [] [(false, .box 49 (Rep.iso (fun s : ref22_Assembler => (s.Own, s.Items, ())) (Rep.prod (Rep.int .u8) (Rep.prod (Rep.raw (α := List ref22_Item) v0_0) Rep.unit))) v0 a0), (false, .slice 53 ref22_Item.rep v0_0 a0.Items)] (fun v Γr Ωr Ωo => ∃ w0_0 : Value, v = .tuple #[] ∧ Γr = [] ∧ Ωr = [] ∧ Ωo = [(false, .box 49 (Rep.iso (fun s : ref22_Assembler => (s.Own, s.Items, ())) (Rep.prod (Rep.int .u8) (Rep.prod (Rep.raw (α := List ref22_Item) w0_0) Rep.unit))) v0 y), (false, (.slice 53 ref22_Item.rep w0_0 y.Items))]) := by
 refine Spec.of (L := [(0, v0), (1, .int .i64 a1)]) Try.func48 rfl ⟨rfl, rfl, trivial⟩ rfl (fun e h => ?_)
 unfold ref22_Assembler_drop at hF
 refine Run.seq ?_
 refine Run.reg ?_
 refine op (OpS.as rfl rfl rfl ?_)
 refine RunL.nil ?_
 refine Run.seq ?_
 refine Run.seq ?_
 refine Run.reg ?_
 refine op (OpS.as rfl rfl rfl ?_)
 refine RunL.nil ?_
 refine Run.block ?_
 have h1 := St.nil 53 ref22_Item.rep h
 have h2 := (h1.pick .z).weak
 refine Run.slim [(0, v0), (1, .int .i64 a1), (4, (.slice none 0 0)), (5, .int .i64 0)] ⟨rfl, rfl, rfl, rfl, trivial⟩ ?_
 refine Run.loopP (σ := (Int × (List ref22_Item))) (fun s_ L_ w_ => ∃ u0_ : Value, L_ = [(0, v0), (1, .int .i64 a1), (4, u0_), (5, .int .i64 s_.1)] ∧ St e w_ [] [(false, .box 49 (Rep.iso (fun s : ref22_Assembler => (s.Own, s.Items, ())) (Rep.prod (Rep.int .u8) (Rep.prod (Rep.raw (α := List ref22_Item) v0_0) Rep.unit))) v0 a0), (false, .slice 53 ref22_Item.rep u0_ s_.2), (false, .slice 53 ref22_Item.rep v0_0 a0.Items)]) hF ⟨(.slice none 0 0), rfl, (h2.facts .nil).picks (.cons (.s .z) (.cons .z (.cons .z .nil)))⟩ (fun k1 hk1 s1 _ w1 hI hF => ?_)
 obtain ⟨u1, rfl, h3⟩ := hI
 refine Run.seq ?_
 refine Run.seq ?_
 refine Run.reg ?_
 refine op (OpS.mv rfl rfl rfl ?_)
 refine op (OpS.mv rfl rfl rfl ?_)
 refine op (OpS.nchk h3 .z rfl rfl rfl ?_)
 refine op (OpS.fbox (o3 := 1) h3 .z PA.z fa49_1 rfl rfl rfl rfl ?_)
 refine op (OpS.loadR h3 .z PA.a (GetS.ok (GetS.iso _ (GetS.there (GetS.here GetS.id)))) ty47 rfl rfl rfl rfl rfl ?_)
 refine op (OpS.lenO h3 (.s (.s .z)) Try.underlying47 rfl rfl rfl ?_)
 refine op (OpS.bin rfl rfl rfl rfl rfl ?_)
 refine RunL.nil ?_
 refine Run.slim [(12, .bool (decide (s1.1 < (a0.Items.length : Int)))), (0, v0), (1, .int .i64 a1), (4, u1), (5, .int .i64 s1.1)] ⟨rfl, rfl, rfl, rfl, rfl, trivial⟩ ?_
 refine Run.ite rfl hF (fun e1 hF => ?_) (fun e1 hF => ?_)
 ·
  refine Run.skip ?_
  refine Run.seq ?_
  refine Run.block ?_
  refine Run.seq ?_
  refine Run.reg ?_
  refine op (OpS.mv rfl rfl rfl ?_)
  refine op (OpS.mv rfl rfl rfl ?_)
  refine op (OpS.bin rfl rfl rfl rfl rfl ?_)
  refine RunL.nil ?_
  refine Run.slim [(17, .bool (s1.1 != a1)), (0, v0), (1, .int .i64 a1), (4, u1), (5, .int .i64 s1.1)] ⟨rfl, rfl, rfl, rfl, rfl, trivial⟩ ?_
  refine Run.ite rfl hF (fun e2 hF => ?_) (fun e2 hF => ?_)
  ·
   refine Run.reg ?_
   refine op (OpS.mv rfl rfl rfl ?_)
   refine op (OpS.mv rfl rfl rfl ?_)
   refine op (OpS.nchk h3 .z rfl rfl rfl ?_)
   refine op (OpS.fbox (o3 := 1) h3 .z PA.z fa49_1 rfl rfl rfl rfl ?_)
   refine op (OpS.loadR h3 .z PA.a (GetS.ok (GetS.iso _ (GetS.there (GetS.here GetS.id)))) ty47 rfl rfl rfl rfl rfl ?_)
   refine op (OpS.mv rfl rfl rfl ?_)
   obtain ⟨x1, e3, hF⟩ := bindP_use hF
   refine op (OpS.iown h3 (.s (.s .z)) Try.underlying47 ty53 rfl rfl rfl rfl e3 ?_)
   refine op (OpS.loadO h3 (.s (.s .z)) (idx_ne e3) PA.a (Get.arr e3) ty53 rfl rfl rfl (fun u2 h4 => ?_))
   refine op (OpS.lit (r := ref22_Item.rep) (f := false) h4 Try.underlying47 ti53 rfl rfl rfl rfl rfl (.cons rfl (V.at .z) .nil) rfl rfl (fun u3 w2 h5 => ?_))
   obtain ⟨x2, e4, hF⟩ := bindP_use hF
   refine op (OpS.app (f' := false) h5 (.s .z) Try.underlying47 ti53 rfl rfl rfl rfl rfl rfl rfl (V.at .z) (.inl (.inr rfl)) e4 (fun u4 w3 h6 => ?_))
   refine op (OpS.as rfl rfl rfl ?_)
   refine RunL.nil ?_
   refine Run.slim [(4, u4), (0, v0), (1, .int .i64 a1), (5, .int .i64 s1.1)] ⟨rfl, rfl, rfl, rfl, trivial⟩ ?_
   refine Run.endBlock ?_
   refine Run.reg ?_
   refine op (OpS.mv rfl rfl rfl ?_)
   refine op (OpS.bin rfl rfl rfl rfl rfl ?_)
   refine op (OpS.as rfl rfl rfl ?_)
   obtain ⟨x3, e5, hF⟩ := letP_use hF
   refine RunL.name e5 ?_
   refine RunL.nil ?_
   refine Run.slim [(5, .int .i64 x3), (4, u4), (0, v0), (1, .int .i64 a1)] ⟨rfl, rfl, rfl, rfl, trivial⟩ ?_
   refine Run.slim [(0, v0), (1, .int .i64 a1), (4, u4), (5, .int .i64 x3)] ⟨rfl, rfl, rfl, rfl, trivial⟩ ?_
   exact hk1 (x3, x2) _ _ ⟨u4, rfl, (h6.facts .nil).picks (.cons (.s .z) (.cons .z (.cons .z .nil)))⟩ hF
  ·
   refine Run.skip ?_
   refine Run.endBlock ?_
   refine Run.reg ?_
   refine op (OpS.mv rfl rfl rfl ?_)
   refine op (OpS.bin rfl rfl rfl rfl rfl ?_)
   refine op (OpS.as rfl rfl rfl ?_)
   obtain ⟨x4, e6, hF⟩ := letP_use hF
   refine RunL.name e6 ?_
   refine RunL.nil ?_
   refine Run.slim [(5, .int .i64 x4), (0, v0), (1, .int .i64 a1), (4, u1)] ⟨rfl, rfl, rfl, rfl, trivial⟩ ?_
   refine Run.slim [(0, v0), (1, .int .i64 a1), (4, u1), (5, .int .i64 x4)] ⟨rfl, rfl, rfl, rfl, trivial⟩ ?_
   exact hk1 (x4, s1.2) _ _ ⟨u1, rfl, (h3.facts .nil).picks (.cons .z (.cons .z (.cons .z .nil)))⟩ hF
 ·
  refine Run.exit rfl ?_
  refine Run.reg ?_
  refine op (OpS.mv rfl rfl rfl ?_)
  refine op (OpS.mv rfl rfl rfl ?_)
  refine op (OpS.nchk h3 .z rfl rfl rfl ?_)
  refine op (OpS.fbox (o3 := 1) h3 .z PA.z fa49_1 rfl rfl rfl rfl ?_)
  refine op (OpS.storeC (f' := false) (fr := (Rep.raw u1)) (r' := (Rep.iso (fun s : ref22_Assembler => (s.Own, s.Items, ())) (Rep.prod (Rep.int .u8) (Rep.prod (Rep.raw (α := List ref22_Item) u1) Rep.unit)))) (x' := a0) h3 .z PA.a (Chg.iso _ (Chg.there (Chg.here (Chg.id (by rfl))))) (Ty.like ty47 (by rfl) (by rfl)) rfl rfl rfl (V.raw (f := false) (St.own1 h3 (.s .z)) a0.Items) (.inr rfl) (fun w4 h7 => ?_))
  refine RunL.nil ?_
  refine Run.slim [] trivial ?_
  have h8 := St.boxJ (r' := (Rep.iso (fun s : ref22_Assembler => (s.Own, s.Items, ())) (Rep.prod (Rep.int .u8) (Rep.prod (Rep.raw (α := List ref22_Item) u1) Rep.unit)))) (x' := { a0 with Items := s1.2 }) (h7.pick .z) (fun _ _ hs_ => (Jn.iso _ (Jn.prod Jn.refl (Jn.prod Jn.same Jn.refl))))
  refine Run.finP rfl .nil ?_
  cases hF
  exact Post.mk' ⟨u1, rfl, rfl, rfl, rfl⟩ (h8.picks (.cons .z (.cons .z .nil))) .nil
set_option maxHeartbeats 8000000 in
theorem ref22_Assembler_Accept_ok {fuel : Nat} {a0 : ref22_Assembler} {a1 : Packet_} {y : Whole_ × Bool × Int × ref22_Assembler} (hF : ref22_Assembler_Accept fuel a0 a1 = some y) {w : World} {v0 v0_0 v1 : Value} :
  Spec Try.prog 25 [v0, v1].toArray w [(false, .val Packet_.rep v1 a1)] [(false, .box 49 (Rep.iso (fun s : ref22_Assembler => (s.Own, s.Items, ())) (Rep.prod (Rep.int .u8) (Rep.prod (Rep.raw (α := List ref22_Item) v0_0) Rep.unit))) v0 a0), (false, .slice 53 ref22_Item.rep v0_0 a0.Items)] (fun v Γr Ωr Ωo => ∃ u0 w0_0 : Value, v = .tuple #[u0, .bool y.2.1, .int .i64 y.2.2.1] ∧ Γr = [(true, .val Whole_.rep u0 y.1)] ∧ Ωr = [] ∧ Ωo = [(false, .box 49 (Rep.iso (fun s : ref22_Assembler => (s.Own, s.Items, ())) (Rep.prod (Rep.int .u8) (Rep.prod (Rep.raw (α := List ref22_Item) w0_0) Rep.unit))) v0 y.2.2.2), (false, (.slice 53 ref22_Item.rep w0_0 y.2.2.2.Items))]) := by
 refine Spec.of (L := [(0, v0), (1, v1)]) Try.func25 rfl ⟨rfl, rfl, trivial⟩ rfl (fun e h => ?_)
 unfold ref22_Assembler_Accept at hF
 refine Run.seq ?_
 refine Run.reg ?_
 refine op (OpS.boxF h rfl rfl rfl (V.at .z) (fun u1 w1 h1 => ?_))
 refine op (OpS.alloc h1 ti51 Whole_.zr rfl rfl (fun u2 w2 h2 => ?_))
 refine op (OpS.as rfl rfl rfl ?_)
 refine op (OpS.as rfl rfl rfl ?_)
 refine RunL.nil ?_
 refine Run.slim [(4, u2), (3, u1), (0, v0)] ⟨rfl, rfl, rfl, trivial⟩ ?_
 refine Run.seq ?_
 refine Run.reg ?_
 refine op (OpS.build (f := true) (x' := Whole_.z) h2 pl51 ti51 Whole_.zr rfl rfl rfl .nil (fun u3 h3 => ?_))
 refine op (OpS.alloc h3 ti51 Whole_.zr rfl rfl (fun u4 w3 h4 => ?_))
 refine op (OpS.storeB (f' := true) h4 .z PA.z Put.id ty51 rfl rfl rfl (V.at .z) (.inl rfl) (fun w4 h5 => ?_))
 refine RunL.nil ?_
 refine Run.slim [(7, u4), (4, u2), (3, u1), (0, v0)] ⟨rfl, rfl, rfl, rfl, trivial⟩ ?_
 refine Run.seq ?_
 refine Run.seq ?_
 refine Run.reg ?_
 refine op (OpS.loadB h5 (.s (.s .z)) PA.z Get.id ty44 rfl rfl rfl (fun u5 h6 => ?_))
 obtain ⟨y1, e1, hF⟩ := bindP_use hF
 refine op (OpS.callP h6 Try.func33 rfl rfl rfl rfl (vs := [u5]) rfl (ref22_Valid_ok e1) (.cons (f := false) (V.at .z) .nil) ?_)
 rintro _ w5 _ _ _ ⟨rfl, rfl, rfl, rfl⟩ h7
 have h8 := h7 rfl rfl
 simp only [List.cons_append, List.nil_append] at h8
 refine op (OpS.not rfl rfl rfl ?_)
 refine RunL.nil ?_
 refine Run.slim [(14, .bool (!y1)), (7, u4), (4, u2), (3, u1), (0, v0)] ⟨rfl, rfl, rfl, rfl, rfl, trivial⟩ ?_
 refine Run.ite rfl hF (fun e2 hF => ?_) (fun e2 hF => ?_)
 ·
  refine Run.seq ?_
  refine Run.reg ?_
  refine op (OpS.loadB h8 .z PA.z Get.id ty51 rfl rfl rfl (fun u6 h9 => ?_))
  refine op (OpS.storeB (f' := true) h9 (.s .z) PA.z Put.id ty51 rfl rfl rfl (V.at .z) (.inl rfl) (fun w6 h10 => ?_))
  refine op (OpS.as rfl rfl rfl ?_)
  refine op (OpS.as rfl rfl rfl ?_)
  refine RunL.nil ?_
  refine Run.slim [(6, .int .i64 1), (5, .bool false), (4, u2)] ⟨rfl, rfl, rfl, trivial⟩ ?_
  obtain ⟨u7, hu1, h11⟩ := res_box h10 .z ty51
  refine Run.retP rfl (.cell rfl hu1 (.tmp rfl (.tmp rfl .nil))) ?_
  cases hF
  exact Post.mk' ⟨u7, v0_0, rfl, rfl, rfl, rfl⟩ (h11.picks (.cons (.s (.s (.s .z))) (.cons (.s (.s (.s .z))) .nil))) (.val (V.at .z) .nil)
 ·
  refine Run.skip ?_
  refine Run.seq ?_
  refine Run.seq ?_
  have h12 := h8.picks (.cons (.s (.s .z)) (.cons (.s (.s .z)) (.cons .z (.cons .z (.cons .z .nil)))))
  refine Run.drawV (Ωs := [(true, .box 51 Whole_.rep u4 Whole_.z), (true, .box 51 Whole_.rep u2 Whole_.z), (false, .slice 53 ref22_Item.rep v0_0 a0.Items)]) [⟨some 16, some ((padd u1 0)), fun _ => [], fun ds_ u_ => [], [], [(0, [])], none⟩, ⟨some 17, some (.int .u8 a1.To), fun _ => [], fun ds_ u_ => [], [], [(0, [])], none⟩, ⟨some 18, some (v0), fun _ => [], fun ds_ u_ => [], [], [], none⟩, ⟨some 19, some (v0), fun _ => [], fun ds_ u_ => [], [], [(1, [])], none⟩, ⟨some 20, some ((padd v0 0)), fun _ => [], fun ds_ u_ => [], [], [(1, [])], none⟩, ⟨some 21, some (.int .u8 a0.Own), fun _ => [], fun ds_ u_ => [], [], [(1, [])], none⟩, ⟨some 22, some (.bool (a1.To != a0.Own)), fun _ => [], fun ds_ u_ => [], [], [], none⟩] [[], [0], [], [2], [3], [4], [1, 5]] [[(false, .box 44 Packet_.rep u1 a1)], [(false, .box 49 (Rep.iso (fun s : ref22_Assembler => (s.Own, s.Items, ())) (Rep.prod (Rep.int .u8) (Rep.prod (Rep.raw (α := List ref22_Item) v0_0) Rep.unit))) v0 a0)]] [0, 1, 2, 3, 4, 5, 6, 7, 8] Try_mixed rfl rfl rfl h12 (.cons ?_ (.cons ?_ (.cons ?_ (.cons ?_ (.cons ?_ (.cons ?_ (.cons ?_ .nil))))))) (fun q1 w hq1 h => ?_)
  ·intro q1 w Γx Ωx h
   have h : St e w ([(false, .val Packet_.rep u5 a1), (true, .val Whole_.rep u3 Whole_.z), (false, .val Packet_.rep v1 a1)] ++ Γx) ([(false, .box 44 Packet_.rep u1 a1), (true, .box 51 Whole_.rep u4 Whole_.z), (true, .box 51 Whole_.rep u2 Whole_.z), (false, .slice 53 ref22_Item.rep v0_0 a0.Items)] ++ Ωx) := h
   refine OpS.fbox (o3 := 0) h .z PA.z fa44_0 rfl rfl rfl rfl ?_
   exact ⟨undef, rfl, trivial, h⟩
  ·intro q1 w Γx Ωx h
   have h : St e w ([(false, .val Packet_.rep u5 a1), (true, .val Whole_.rep u3 Whole_.z), (false, .val Packet_.rep v1 a1)] ++ Γx) ([(false, .box 44 Packet_.rep u1 a1), (true, .box 51 Whole_.rep u4 Whole_.z), (true, .box 51 Whole_.rep u2 Whole_.z), (false, .slice 53 ref22_Item.rep v0_0 a0.Items)] ++ Ωx) := h
   refine OpS.loadBi h .z PA.a (Get.fld Packet_.f0) ty5 rfl rfl rfl ?_
   exact ⟨undef, rfl, trivial, h⟩
  ·intro q1 w Γx Ωx h
   refine OpS.mv rfl rfl rfl ?_
   exact ⟨undef, rfl, trivial, h⟩
  ·intro q1 w Γx Ωx h
   have h : St e w ([(false, .val Packet_.rep u5 a1), (true, .val Whole_.rep u3 Whole_.z), (false, .val Packet_.rep v1 a1)] ++ Γx) ([(false, .box 49 (Rep.iso (fun s : ref22_Assembler => (s.Own, s.Items, ())) (Rep.prod (Rep.int .u8) (Rep.prod (Rep.raw (α := List ref22_Item) v0_0) Rep.unit))) v0 a0), (true, .box 51 Whole_.rep u4 Whole_.z), (true, .box 51 Whole_.rep u2 Whole_.z), (false, .slice 53 ref22_Item.rep v0_0 a0.Items)] ++ Ωx) := h
   refine OpS.nchk h .z rfl rfl rfl ?_
   exact ⟨undef, rfl, trivial, h⟩
  ·intro q1 w Γx Ωx h
   have h : St e w ([(false, .val Packet_.rep u5 a1), (true, .val Whole_.rep u3 Whole_.z), (false, .val Packet_.rep v1 a1)] ++ Γx) ([(false, .box 49 (Rep.iso (fun s : ref22_Assembler => (s.Own, s.Items, ())) (Rep.prod (Rep.int .u8) (Rep.prod (Rep.raw (α := List ref22_Item) v0_0) Rep.unit))) v0 a0), (true, .box 51 Whole_.rep u4 Whole_.z), (true, .box 51 Whole_.rep u2 Whole_.z), (false, .slice 53 ref22_Item.rep v0_0 a0.Items)] ++ Ωx) := h
   refine OpS.fbox (o3 := 0) h .z PA.z fa49_0 rfl rfl rfl rfl ?_
   exact ⟨undef, rfl, trivial, h⟩
  ·intro q1 w Γx Ωx h
   have h : St e w ([(false, .val Packet_.rep u5 a1), (true, .val Whole_.rep u3 Whole_.z), (false, .val Packet_.rep v1 a1)] ++ Γx) ([(false, .box 49 (Rep.iso (fun s : ref22_Assembler => (s.Own, s.Items, ())) (Rep.prod (Rep.int .u8) (Rep.prod (Rep.raw (α := List ref22_Item) v0_0) Rep.unit))) v0 a0), (true, .box 51 Whole_.rep u4 Whole_.z), (true, .box 51 Whole_.rep u2 Whole_.z), (false, .slice 53 ref22_Item.rep v0_0 a0.Items)] ++ Ωx) := h
   refine OpS.loadBi h .z PA.a (GetS.ok (GetS.iso _ (GetS.here GetS.id))) ty5 rfl rfl rfl ?_
   exact ⟨undef, rfl, trivial, h⟩
  ·intro q1 w Γx Ωx h
   refine OpS.bin rfl rfl rfl rfl rfl ?_
   exact ⟨undef, rfl, trivial, h⟩
  have h13 : St e w [(false, .val Packet_.rep u5 a1), (true, .val Whole_.rep u3 Whole_.z), (false, .val Packet_.rep v1 a1)] [(false, .box 44 Packet_.rep u1 a1), (false, .box 49 (Rep.iso (fun s : ref22_Assembler => (s.Own, s.Items, ())) (Rep.prod (Rep.int .u8) (Rep.prod (Rep.raw (α := List ref22_Item) v0_0) Rep.unit))) v0 a0), (true, .box 51 Whole_.rep u4 Whole_.z), (true, .box 51 Whole_.rep u2 Whole_.z), (false, .slice 53 ref22_Item.rep v0_0 a0.Items)] := h
  refine RunL.nil ?_
  refine Run.slim [(22, .bool (a1.To != a0.Own)), (7, u4), (4, u2), (3, u1), (0, v0)] ⟨rfl, rfl, rfl, rfl, rfl, trivial⟩ ?_
  refine Run.ite rfl hF (fun e3 hF => ?_) (fun e3 hF => ?_)
  ·
   refine Run.seq ?_
   refine Run.reg ?_
   refine op (OpS.loadB h13 (.s (.s .z)) PA.z Get.id ty51 rfl rfl rfl (fun u8 h14 => ?_))
   refine op (OpS.storeB (f' := true) h14 (.s (.s (.s .z))) PA.z Put.id ty51 rfl rfl rfl (V.at .z) (.inl rfl) (fun w7 h15 => ?_))
   refine op (OpS.as rfl rfl rfl ?_)
   refine op (OpS.as rfl rfl rfl ?_)
   refine RunL.nil ?_
   refine Run.slim [(6, .int .i64 13), (5, .bool false), (4, u2)] ⟨rfl, rfl, rfl, trivial⟩ ?_
   obtain ⟨u9, hu2, h16⟩ := res_box h15 .z ty51
   refine Run.retP rfl (.cell rfl hu2 (.tmp rfl (.tmp rfl .nil))) ?_
   cases hF
   exact Post.mk' ⟨u9, v0_0, rfl, rfl, rfl, rfl⟩ (h16.picks (.cons (.s (.s .z)) (.cons (.s (.s (.s .z))) .nil))) (.val (V.at .z) .nil)
  ·
   refine Run.skip ?_
   refine Run.seq ?_
   refine Run.reg ?_
   refine op (OpS.mv rfl rfl rfl ?_)
   refine op (OpS.loadB h13 .z PA.z Get.id ty44 rfl rfl rfl (fun u10 h17 => ?_))
   obtain ⟨y2, e4, hF⟩ := bindP_use hF
   have h18 := h17.front (.cons (.s .z) (.cons (.s (.s (.s .z))) .nil))
   refine op (OpS.callO h18 Try.func47 rfl rfl rfl rfl (vs := [v0, u10]) rfl (ref22_Assembler_find_ok e4) rfl (.cons (f := false) (V.at .z) .nil) ?_)
   rintro _ w8 _ _ _ ⟨rfl, rfl, rfl, rfl⟩ h19
   have h20 := h19
   simp only [List.cons_append, List.nil_append] at h20
   refine op (OpS.as rfl rfl rfl ?_)
   refine RunL.nil ?_
   refine Run.slim [(8, .int .i64 y2), (7, u4), (4, u2), (3, u1), (0, v0)] ⟨rfl, rfl, rfl, rfl, rfl, trivial⟩ ?_
   refine Run.seq ?_
   refine Run.seq ?_
   refine Run.reg ?_
   refine op (OpS.fbox (o3 := 2) h20 (.s (.s .z)) PA.z fa44_2 rfl rfl rfl rfl ?_)
   refine op (OpS.loadBb h20 (.s (.s .z)) PA.a (Get.fld Packet_.f2) ty4 rfl rfl rfl ?_)
   refine RunL.nil ?_
   refine Run.slim [(28, .bool a1.Start), (8, .int .i64 y2), (7, u4), (4, u2), (3, u1), (0, v0)] ⟨rfl, rfl, rfl, rfl, rfl, rfl, trivial⟩ ?_
   refine Run.ite rfl hF (fun e5 hF => ?_) (fun e5 hF => ?_)
   ·
    refine Run.seq ?_
    refine Run.seq ?_
    refine Run.reg ?_
    refine op (OpS.mv rfl rfl rfl ?_)
    refine op (OpS.bin rfl rfl rfl rfl rfl ?_)
    refine RunL.nil ?_
    refine Run.slim [(30, .bool (decide (y2 ≥ 0))), (8, .int .i64 y2), (7, u4), (4, u2), (3, u1), (0, v0)] ⟨rfl, rfl, rfl, rfl, rfl, rfl, trivial⟩ ?_
    refine Run.join (σ := ref22_Assembler) (fun s_ L_ w_ => ∃ u0_ : Value, L_ = [(0, v0), (3, u1), (4, u2), (7, u4)] ∧ St e w_ [] [(false, .box 49 (Rep.iso (fun s : ref22_Assembler => (s.Own, s.Items, ())) (Rep.prod (Rep.int .u8) (Rep.prod (Rep.raw (α := List ref22_Item) u0_) Rep.unit))) v0 s_), (false, .box 44 Packet_.rep u1 a1), (true, .box 51 Whole_.rep u2 Whole_.z), (true, .box 51 Whole_.rep u4 Whole_.z), (false, .slice 53 ref22_Item.rep u0_ s_.Items)]) hF (fun s1 _ w9 hI hF => ?_) (fun j1 hj1 hF => ?_)
    ·
     obtain ⟨u11, rfl, h21⟩ := hI
     refine Run.seq ?_
     have h22 := h21.picks (.cons (.s .z) (.cons .z (.cons .z (.cons .z (.cons .z .nil)))))
     obtain ⟨y3, e6, hF⟩ := bindP_use hF
     refine Run.drawV (Ωs := [(false, .box 49 (Rep.iso (fun s : ref22_Assembler => (s.Own, s.Items, ())) (Rep.prod (Rep.int .u8) (Rep.prod (Rep.raw (α := List ref22_Item) u11) Rep.unit))) v0 s1), (true, .box 51 Whole_.rep u2 Whole_.z), (true, .box 51 Whole_.rep u4 Whole_.z), (false, .slice 53 ref22_Item.rep u11 s1.Items)]) [⟨some 34, some ((padd u1 1)), fun _ => [], fun ds_ u_ => [], [], [(0, [])], none⟩, ⟨some 35, some (.int .u8 a1.From), fun _ => [], fun ds_ u_ => [], [], [(0, [])], none⟩, ⟨some 36, some ((padd u1 5)), fun _ => [], fun ds_ u_ => [], [], [(0, [])], none⟩, ⟨some 37, some (.bool a1.Owner), fun _ => [], fun ds_ u_ => [], [], [(0, [])], none⟩, ⟨some 38, some ((padd u1 6)), fun _ => [], fun ds_ u_ => [], [], [(0, [])], none⟩, ⟨some 39, some (.int .i64 a1.Tag), fun _ => [], fun ds_ u_ => [], [], [(0, [])], none⟩, ⟨some 40, some ((padd u1 7)), fun _ => [], fun ds_ u_ => [], [], [(0, [])], none⟩, ⟨some 41, none, fun u_ => [(false, .val (Rep.slice (Rep.int .u8)) u_ a1.Data)], fun ds_ u_ => [], [], [(0, [])], none⟩, ⟨some 42, none, fun u_ => [(true, .val (Rep.slice (Rep.int .u8)) u_ y3)], fun ds_ u_ => [], [], [], none⟩, ⟨some 43, none, fun u_ => [(true, .val Whole_.rep u_ (⟨a1.From, a1.Owner, a1.Tag, y3⟩ : Whole_))], fun ds_ u_ => [], [], [], none⟩, ⟨some 9, none, fun u_ => [], fun ds_ u_ => [(true, .box 51 Whole_.rep u_ Whole_.z)], [], [], none⟩] [[], [0], [], [2], [], [4], [], [6], [7], [1, 3, 5, 8], []] [[(false, .box 44 Packet_.rep u1 a1)]] [0, 1, 2, 3, 4, 5, 6, 7, 8, 9, 10, 11] Try_mixed rfl rfl rfl h22 (.cons ?_ (.cons ?_ (.cons ?_ (.cons ?_ (.cons ?_ (.cons ?_ (.cons ?_ (.cons ?_ (.cons ?_ (.cons ?_ (.cons ?_ .nil))))))))))) (fun q2 w hq2 h => ?_)
     ·intro q2 w Γx Ωx h
      have h : St e w ([] ++ Γx) ([(false, .box 44 Packet_.rep u1 a1), (false, .box 49 (Rep.iso (fun s : ref22_Assembler => (s.Own, s.Items, ())) (Rep.prod (Rep.int .u8) (Rep.prod (Rep.raw (α := List ref22_Item) u11) Rep.unit))) v0 s1), (true, .box 51 Whole_.rep u2 Whole_.z), (true, .box 51 Whole_.rep u4 Whole_.z), (false, .slice 53 ref22_Item.rep u11 s1.Items)] ++ Ωx) := h
      refine OpS.fbox (o3 := 1) h .z PA.z fa44_1 rfl rfl rfl rfl ?_
      exact ⟨undef, rfl, trivial, h⟩
     ·intro q2 w Γx Ωx h
      have h : St e w ([] ++ Γx) ([(false, .box 44 Packet_.rep u1 a1), (false, .box 49 (Rep.iso (fun s : ref22_Assembler => (s.Own, s.Items, ())) (Rep.prod (Rep.int .u8) (Rep.prod (Rep.raw (α := List ref22_Item) u11) Rep.unit))) v0 s1), (true, .box 51 Whole_.rep u2 Whole_.z), (true, .box 51 Whole_.rep u4 Whole_.z), (false, .slice 53 ref22_Item.rep u11 s1.Items)] ++ Ωx) := h
      refine OpS.loadBi h .z PA.a (Get.fld Packet_.f1) ty5 rfl rfl rfl ?_
      exact ⟨undef, rfl, trivial, h⟩
     ·intro q2 w Γx Ωx h
      have h : St e w ([] ++ Γx) ([(false, .box 44 Packet_.rep u1 a1), (false, .box 49 (Rep.iso (fun s : ref22_Assembler => (s.Own, s.Items, ())) (Rep.prod (Rep.int .u8) (Rep.prod (Rep.raw (α := List ref22_Item) u11) Rep.unit))) v0 s1), (true, .box 51 Whole_.rep u2 Whole_.z), (true, .box 51 Whole_.rep u4 Whole_.z), (false, .slice 53 ref22_Item.rep u11 s1.Items)] ++ Ωx) := h
      refine OpS.fbox (o3 := 5) h .z PA.z fa44_5 rfl rfl rfl rfl ?_
      exact ⟨undef, rfl, trivial, h⟩
     ·intro q2 w Γx Ωx h
      have h : St e w ([] ++ Γx) ([(false, .box 44 Packet_.rep u1 a1), (false, .box 49 (Rep.iso (fun s : ref22_Assembler => (s.Own, s.Items, ())) (Rep.prod (Rep.int .u8) (Rep.prod (Rep.raw (α := List ref22_Item) u11) Rep.unit))) v0 s1), (true, .box 51 Whole_.rep u2 Whole_.z), (true, .box 51 Whole_.rep u4 Whole_.z), (false, .slice 53 ref22_Item.rep u11 s1.Items)] ++ Ωx) := h
      refine OpS.loadBb h .z PA.a (Get.fld Packet_.f5) ty4 rfl rfl rfl ?_
      exact ⟨undef, rfl, trivial, h⟩
     ·intro q2 w Γx Ωx h
      have h : St e w ([] ++ Γx) ([(false, .box 44 Packet_.rep u1 a1), (false, .box 49 (Rep.iso (fun s : ref22_Assembler => (s.Own, s.Items, ())) (Rep.prod (Rep.int .u8) (Rep.prod (Rep.raw (α := List ref22_Item) u11) Rep.unit))) v0 s1), (true, .box 51 Whole_.rep u2 Whole_.z), (true, .box 51 Whole_.rep u4 Whole_.z), (false, .slice 53 ref22_Item.rep u11 s1.Items)] ++ Ωx) := h
      refine OpS.fbox (o3 := 6) h .z PA.z fa44_6 rfl rfl rfl rfl ?_
      exact ⟨undef, rfl, trivial, h⟩
     ·intro q2 w Γx Ωx h
      have h : St e w ([] ++ Γx) ([(false, .box 44 Packet_.rep u1 a1), (false, .box 49 (Rep.iso (fun s : ref22_Assembler => (s.Own, s.Items, ())) (Rep.prod (Rep.int .u8) (Rep.prod (Rep.raw (α := List ref22_Item) u11) Rep.unit))) v0 s1), (true, .box 51 Whole_.rep u2 Whole_.z), (true, .box 51 Whole_.rep u4 Whole_.z), (false, .slice 53 ref22_Item.rep u11 s1.Items)] ++ Ωx) := h
      refine OpS.loadBi h .z PA.a (Get.fld Packet_.f6) ty3 rfl rfl rfl ?_
      exact ⟨undef, rfl, trivial, h⟩
     ·intro q2 w Γx Ωx h
      have h : St e w ([] ++ Γx) ([(false, .box 44 Packet_.rep u1 a1), (false, .box 49 (Rep.iso (fun s : ref22_Assembler => (s.Own, s.Items, ())) (Rep.prod (Rep.int .u8) (Rep.prod (Rep.raw (α := List ref22_Item) u11) Rep.unit))) v0 s1), (true, .box 51 Whole_.rep u2 Whole_.z), (true, .box 51 Whole_.rep u4 Whole_.z), (false, .slice 53 ref22_Item.rep u11 s1.Items)] ++ Ωx) := h
      refine OpS.fbox (o3 := 7) h .z PA.z fa44_7 rfl rfl rfl rfl ?_
      exact ⟨undef, rfl, trivial, h⟩
     ·intro q2 w Γx Ωx h
      have h : St e w ([] ++ Γx) ([(false, .box 44 Packet_.rep u1 a1), (false, .box 49 (Rep.iso (fun s : ref22_Assembler => (s.Own, s.Items, ())) (Rep.prod (Rep.int .u8) (Rep.prod (Rep.raw (α := List ref22_Item) u11) Rep.unit))) v0 s1), (true, .box 51 Whole_.rep u2 Whole_.z), (true, .box 51 Whole_.rep u4 Whole_.z), (false, .slice 53 ref22_Item.rep u11 s1.Items)] ++ Ωx) := h
      refine OpS.loadB h .z PA.a (Get.fld Packet_.f7) ty22 rfl rfl rfl (fun u h29 => ?_)
      exact ⟨u, rfl, trivial, h29⟩
     ·intro q2 w Γx Ωx h
      refine OpS.callP h Try.func42 rfl rfl rfl rfl (vs := [(q2 7)]) rfl (ref01_Copy_ok e6) (.cons (f := false) (V.at .z) .nil) ?_
      rintro u w12 _ _ _ ⟨_, rfl, rfl, rfl, rfl⟩ h30
      have h31 := h30 rfl rfl
      simp only [List.cons_append, List.nil_append] at h31
      have h32 := h31.freeze
      exact ⟨u, rfl, trivial, h32⟩
     ·intro q2 w Γx Ωx h
      refine OpS.build (f := true) (x' := (⟨a1.From, a1.Owner, a1.Tag, y3⟩ : Whole_)) h pl51 ti51 Whole_.zr rfl rfl rfl (.cons rfl Whole_.f0 rfl V.int (.cons rfl Whole_.f1 rfl V.bool (.cons rfl Whole_.f2 rfl V.int (.cons rfl Whole_.f3 rfl (V.at .z) .nil)))) (fun u h33 => ?_)
      exact ⟨u, rfl, trivial, h33⟩
     ·intro q2 w Γx Ωx h
      refine OpS.alloc h ti51 Whole_.zr rfl rfl (fun u w13 h34 => ?_)
      exact ⟨u, rfl, trivial, h34⟩
     have h35 : St e w [(false, .val (Rep.slice (Rep.int .u8)) (q2 7) a1.Data), (true, .val (Rep.slice (Rep.int .u8)) (q2 8) y3), (true, .val Whole_.rep (q2 9) (⟨a1.From, a1.Owner, a1.Tag, y3⟩ : Whole_))] [(false, .box 44 Packet_.rep u1 a1), (true, .box 51 Whole_.rep (q2 10) Whole_.z), (false, .box 49 (Rep.iso (fun s : ref22_Assembler => (s.Own, s.Items, ())) (Rep.prod (Rep.int .u8) (Rep.prod (Rep.raw (α := List ref22_Item) u11) Rep.unit))) v0 s1), (true, .box 51 Whole_.rep u2 Whole_.z), (true, .box 51 Whole_.rep u4 Whole_.z), (false, .slice 53 ref22_Item.rep u11 s1.Items)] := h
     refine op (OpS.storeB (f' := true) h35 (.s .z) PA.z Put.id ty51 rfl rfl rfl (V.at (.s (.s .z))) (.inl rfl) (fun w14 h36 => ?_))
     refine RunL.nil ?_
     refine Run.slim [(9, (q2 10)), (0, v0), (3, u1), (4, u2), (7, u4)] ⟨rfl, rfl, rfl, rfl, rfl, trivial⟩ ?_
     refine Run.seq ?_
     refine Run.seq ?_
     refine Run.reg ?_
     refine op (OpS.fbox (o3 := 3) h36 (.s .z) PA.z fa44_3 rfl rfl rfl rfl ?_)
     refine op (OpS.loadBb h36 (.s .z) PA.a (Get.fld Packet_.f3) ty4 rfl rfl rfl ?_)
     refine RunL.nil ?_
     refine Run.slim [(45, .bool a1.End), (9, (q2 10)), (0, v0), (3, u1), (4, u2), (7, u4)] ⟨rfl, rfl, rfl, rfl, rfl, rfl, trivial⟩ ?_
     refine Run.ite rfl hF (fun e7 hF => ?_) (fun e7 hF => ?_)
     ·
      refine Run.seq ?_
      refine Run.reg ?_
      refine op (OpS.loadB h36 .z PA.z Get.id ty51 rfl rfl rfl (fun u12 h37 => ?_))
      refine op (OpS.storeB (f' := true) h37 (.s (.s (.s .z))) PA.z Put.id ty51 rfl rfl rfl (V.at .z) (.inl rfl) (fun w15 h38 => ?_))
      refine op (OpS.as rfl rfl rfl ?_)
      refine op (OpS.as rfl rfl rfl ?_)
      refine RunL.nil ?_
      refine Run.slim [(6, .int .i64 0), (5, .bool true), (4, u2)] ⟨rfl, rfl, rfl, trivial⟩ ?_
      obtain ⟨u13, hu3, h39⟩ := res_box h38 .z ty51
      refine Run.retP rfl (.cell rfl hu3 (.tmp rfl (.tmp rfl .nil))) ?_
      cases hF
      exact Post.mk' ⟨u13, u11, rfl, rfl, rfl, rfl⟩ (h39.picks (.cons (.s (.s (.s .z))) (.cons (.s (.s (.s (.s .z)))) .nil))) (.val (V.at .z) .nil)
     ·
      refine Run.skip ?_
      refine Run.seq ?_
      refine Run.seq ?_
      refine Run.reg ?_
      refine op (OpS.mv rfl rfl rfl ?_)
      refine op (OpS.nchk h36 (.s (.s .z)) rfl rfl rfl ?_)
      refine op (OpS.fbox (o3 := 1) h36 (.s (.s .z)) PA.z fa49_1 rfl rfl rfl rfl ?_)
      refine op (OpS.loadR h36 (.s (.s .z)) PA.a (GetS.ok (GetS.iso _ (GetS.there (GetS.here GetS.id)))) ty47 rfl rfl rfl rfl rfl ?_)
      refine op (OpS.lenO h36 (.s (.s (.s (.s (.s .z))))) Try.underlying47 rfl rfl rfl ?_)
      refine op (OpS.bin rfl rfl rfl rfl rfl ?_)
      refine RunL.nil ?_
      refine Run.slim [(52, .bool (decide ((s1.Items.length : Int) ≥ 8))), (9, (q2 10)), (0, v0), (3, u1), (4, u2), (7, u4)] ⟨rfl, rfl, rfl, rfl, rfl, rfl, trivial⟩ ?_
      refine Run.join (σ := ref22_Assembler) (fun s_ L_ w_ => ∃ u0_ : Value, L_ = [(0, v0), (3, u1), (4, u2), (7, u4), (9, (q2 10))] ∧ St e w_ [] [(false, .box 49 (Rep.iso (fun s : ref22_Assembler => (s.Own, s.Items, ())) (Rep.prod (Rep.int .u8) (Rep.prod (Rep.raw (α := List ref22_Item) u0_) Rep.unit))) v0 s_), (false, .box 44 Packet_.rep u1 a1), (true, .box 51 Whole_.rep u2 Whole_.z), (true, .box 51 Whole_.rep u4 Whole_.z), (true, .box 51 Whole_.rep (q2 10) (⟨a1.From, a1.Owner, a1.Tag, y3⟩ : Whole_)), (false, .slice 53 ref22_Item.rep u0_ s_.Items)]) hF (fun s2 _ w16 hI hF => ?_) (fun j2 hj2 hF => ?_)
      ·
       obtain ⟨u14, rfl, h40⟩ := hI
       refine Run.seq ?_
       have h41 := h40.picks (.cons .z (.cons .z (.cons (.s (.s .z)) (.cons (.s (.s .z)) (.cons .z (.cons .z .nil))))))
       obtain ⟨x1, e8, hF⟩ := bindP_use hF
       refine Run.drawV (Ωs := [(true, .box 51 Whole_.rep u2 Whole_.z), (true, .box 51 Whole_.rep u4 Whole_.z)]) [⟨some 55, some (v0), fun _ => [], fun ds_ u_ => [], [], [], none⟩, ⟨some 56, some (v0), fun _ => [], fun ds_ u_ => [], [], [], none⟩, ⟨some 57, some (v0), fun _ => [], fun ds_ u_ => [], [], [(0, [])], none⟩, ⟨some 58, some ((padd v0 1)), fun _ => [], fun ds_ u_ => [], [], [(0, [])], none⟩, ⟨some 59, some (u14), fun _ => [], fun ds_ u_ => [], [], [(0, [])], none⟩, ⟨some 60, none, fun u_ => [(true, .val Whole_.rep u_ (⟨a1.From, a1.Owner, a1.Tag, y3⟩ : Whole_))], fun ds_ u_ => [], [], [(2, [])], none⟩, ⟨some 61, some ((padd u1 7)), fun _ => [], fun ds_ u_ => [], [], [(1, [])], none⟩, ⟨some 62, none, fun u_ => [(false, .val (Rep.slice (Rep.int .u8)) u_ a1.Data)], fun ds_ u_ => [], [], [(1, [])], none⟩, ⟨some 63, some (.int .i64 (a1.Data.length : Int)), fun _ => [], fun ds_ u_ => [], [], [], none⟩, ⟨some 64, some ((padd u1 4)), fun _ => [], fun ds_ u_ => [], [], [(1, [])], none⟩, ⟨some 65, some (.int .i64 a1.Sequence), fun _ => [], fun ds_ u_ => [], [], [(1, [])], none⟩, ⟨some 66, some (.int .i64 (IntKind.i64.wrap (a1.Sequence + 1))), fun _ => [], fun ds_ u_ => [], [], [], none⟩, ⟨some 67, some (.int .i64 (Int.tmod (IntKind.i64.wrap (a1.Sequence + 1)) 4)), fun _ => [], fun ds_ u_ => [], [], [], none⟩, ⟨some 68, none, fun u_ => [(true, .val ref22_Item.rep u_ (⟨(⟨a1.From, a1.Owner, a1.Tag, y3⟩ : Whole_), (a1.Data.length : Int), (Int.tmod (IntKind.i64.wrap (a1.Sequence + 1)) 4)⟩ : ref22_Item))], fun ds_ u_ => [], [], [], none⟩, ⟨some 69, none, fun u_ => [(true, .val (Rep.slice ref22_Item.rep) u_ ([(⟨(⟨a1.From, a1.Owner, a1.Tag, y3⟩ : Whole_), (a1.Data.length : Int), (Int.tmod (IntKind.i64.wrap (a1.Sequence + 1)) 4)⟩ : ref22_Item)]))], fun ds_ u_ => [], [], [], none⟩, ⟨some 70, none, fun u_ => [], fun ds_ u_ => [(false, .slice 53 ref22_Item.rep u_ x1)], [3], [], none⟩] [[], [], [1], [2], [3], [], [], [6], [7], [], [9], [10], [11], [5, 8, 12], [13], [4, 14]] [[(false, .box 49 (Rep.iso (fun s : ref22_Assembler => (s.Own, s.Items, ())) (Rep.prod (Rep.int .u8) (Rep.prod (Rep.raw (α := List ref22_Item) u14) Rep.unit))) v0 s2)], [(false, .box 44 Packet_.rep u1 a1)], [(true, .box 51 Whole_.rep (q2 10) (⟨a1.From, a1.Owner, a1.Tag, y3⟩ : Whole_))], [(false, .slice 53 ref22_Item.rep u14 s2.Items)]] [0, 1, 2, 4, 5, 6, 7, 8, 9, 10, 11, 12, 13, 14, 15, 16, 17, 18, 19] Try_mixed rfl rfl rfl h41 (.cons ?_ (.cons ?_ (.cons ?_ (.cons ?_ (.cons ?_ (.cons ?_ (.cons ?_ (.cons ?_ (.cons ?_ (.cons ?_ (.cons ?_ (.cons ?_ (.cons ?_ (.cons ?_ (.cons ?_ (.cons ?_ .nil)))))))))))))))) (fun q3 w hq3 h => ?_)
       ·intro q3 w Γx Ωx h
        refine OpS.mv rfl rfl rfl ?_
        exact ⟨undef, rfl, trivial, h⟩
       ·intro q3 w Γx Ωx h
        refine OpS.mv rfl rfl rfl ?_
        exact ⟨undef, rfl, trivial, h⟩
       ·intro q3 w Γx Ωx h
        have h : St e w ([] ++ Γx) ([(false, .box 49 (Rep.iso (fun s : ref22_Assembler => (s.Own, s.Items, ())) (Rep.prod (Rep.int .u8) (Rep.prod (Rep.raw (α := List ref22_Item) u14) Rep.unit))) v0 s2), (true, .box 51 Whole_.rep u2 Whole_.z), (true, .box 51 Whole_.rep u4 Whole_.z)] ++ Ωx) := h
        refine OpS.nchk h .z rfl rfl rfl ?_
        exact ⟨undef, rfl, trivial, h⟩
       ·intro q3 w Γx Ωx h
        have h : St e w ([] ++ Γx) ([(false, .box 49 (Rep.iso (fun s : ref22_Assembler => (s.Own, s.Items, ())) (Rep.prod (Rep.int .u8) (Rep.prod (Rep.raw (α := List ref22_Item) u14) Rep.unit))) v0 s2), (true, .box 51 Whole_.rep u2 Whole_.z), (true, .box 51 Whole_.rep u4 Whole_.z)] ++ Ωx) := h
        refine OpS.fbox (o3 := 1) h .z PA.z fa49_1 rfl rfl rfl rfl ?_
        exact ⟨undef, rfl, trivial, h⟩
       ·intro q3 w Γx Ωx h
        have h : St e w ([] ++ Γx) ([(false, .box 49 (Rep.iso (fun s : ref22_Assembler => (s.Own, s.Items, ())) (Rep.prod (Rep.int .u8) (Rep.prod (Rep.raw (α := List ref22_Item) u14) Rep.unit))) v0 s2), (true, .box 51 Whole_.rep u2 Whole_.z), (true, .box 51 Whole_.rep u4 Whole_.z)] ++ Ωx) := h
        refine OpS.loadR h .z PA.a (GetS.ok (GetS.iso _ (GetS.there (GetS.here GetS.id)))) ty47 rfl rfl rfl rfl rfl ?_
        exact ⟨undef, rfl, trivial, h⟩
       ·intro q3 w Γx Ωx h
        have h : St e w ([] ++ Γx) ([(true, .box 51 Whole_.rep (q2 10) (⟨a1.From, a1.Owner, a1.Tag, y3⟩ : Whole_)), (true, .box 51 Whole_.rep u2 Whole_.z), (true, .box 51 Whole_.rep u4 Whole_.z)] ++ Ωx) := h
        refine OpS.loadB h .z PA.z Get.id ty51 rfl rfl rfl (fun u h47 => ?_)
        exact ⟨u, rfl, trivial, h47⟩
       ·intro q3 w Γx Ωx h
        have h : St e w ([] ++ Γx) ([(false, .box 44 Packet_.rep u1 a1), (true, .box 51 Whole_.rep u2 Whole_.z), (true, .box 51 Whole_.rep u4 Whole_.z)] ++ Ωx) := h
        refine OpS.fbox (o3 := 7) h .z PA.z fa44_7 rfl rfl rfl rfl ?_
        exact ⟨undef, rfl, trivial, h⟩
       ·intro q3 w Γx Ωx h
        have h : St e w ([] ++ Γx) ([(false, .box 44 Packet_.rep u1 a1), (true, .box 51 Whole_.rep u2 Whole_.z), (true, .box 51 Whole_.rep u4 Whole_.z)] ++ Ωx) := h
        refine OpS.loadB h .z PA.a (Get.fld Packet_.f7) ty22 rfl rfl rfl (fun u h48 => ?_)
        exact ⟨u, rfl, trivial, h48⟩
       ·intro q3 w Γx Ωx h
        refine OpS.len h Try.underlying22 rfl rfl rfl (V.at .z) ?_
        exact ⟨undef, rfl, trivial, h⟩
       ·intro q3 w Γx Ωx h
        have h : St e w ([] ++ Γx) ([(false, .box 44 Packet_.rep u1 a1), (true, .box 51 Whole_.rep u2 Whole_.z), (true, .box 51 Whole_.rep u4 Whole_.z)] ++ Ωx) := h
        refine OpS.fbox (o3 := 4) h .z PA.z fa44_4 rfl rfl rfl rfl ?_
        exact ⟨undef, rfl, trivial, h⟩
       ·intro q3 w Γx Ωx h
        have h : St e w ([] ++ Γx) ([(false, .box 44 Packet_.rep u1 a1), (true, .box 51 Whole_.rep u2 Whole_.z), (true, .box 51 Whole_.rep u4 Whole_.z)] ++ Ωx) := h
        refine OpS.loadBi h .z PA.a (Get.fld Packet_.f4) ty3 rfl rfl rfl ?_
        exact ⟨undef, rfl, trivial, h⟩
       ·intro q3 w Γx Ωx h
        refine OpS.bin rfl rfl rfl rfl rfl ?_
        exact ⟨undef, rfl, trivial, h⟩
       ·intro q3 w Γx Ωx h
        refine OpS.rem rfl rfl rfl rfl (by decide) ?_
        exact ⟨undef, rfl, trivial, h⟩
       ·intro q3 w Γx Ωx h
        refine OpS.build (f := true) (x' := (⟨(⟨a1.From, a1.Owner, a1.Tag, y3⟩ : Whole_), (a1.Data.length : Int), (Int.tmod (IntKind.i64.wrap (a1.Sequence + 1)) 4)⟩ : ref22_Item)) h pl53 ti53 ref22_Item.zr rfl rfl rfl (.cons rfl ref22_Item.f0 rfl (V.at .z) (.cons rfl ref22_Item.f1 rfl V.int (.cons rfl ref22_Item.f2 rfl V.int .nil))) (fun u h49 => ?_)
        exact ⟨u, rfl, trivial, h49⟩
       ·intro q3 w Γx Ωx h
        refine OpS.lit (r := ref22_Item.rep) (f := true) h Try.underlying47 ti53 rfl rfl rfl rfl rfl (.cons rfl (V.at .z) .nil) rfl rfl (fun u w19 h50 => ?_)
        exact ⟨u, rfl, trivial, h50⟩
       ·intro q3 w Γx Ωx h
        have h : St e w ([(true, .val (Rep.slice ref22_Item.rep) (q3 14) ([(⟨(⟨a1.From, a1.Owner, a1.Tag, y3⟩ : Whole_), (a1.Data.length : Int), (Int.tmod (IntKind.i64.wrap (a1.Sequence + 1)) 4)⟩ : ref22_Item)]))] ++ Γx) ([(false, .slice 53 ref22_Item.rep u14 s2.Items), (true, .box 51 Whole_.rep u2 Whole_.z), (true, .box 51 Whole_.rep u4 Whole_.z)] ++ Ωx) := h
        refine OpS.app (f' := true) h .z Try.underlying47 ti53 rfl rfl rfl rfl rfl rfl rfl (V.at .z) (.inl (.inl rfl)) e8 (fun u w20 h51 => ?_)
        exact ⟨u, rfl, trivial, h51⟩
       have h52 : St e w [(true, .val Whole_.rep (q3 5) (⟨a1.From, a1.Owner, a1.Tag, y3⟩ : Whole_)), (false, .val (Rep.slice (Rep.int .u8)) (q3 7) a1.Data), (true, .val ref22_Item.rep (q3 13) (⟨(⟨a1.From, a1.Owner, a1.Tag, y3⟩ : Whole_), (a1.Data.length : Int), (Int.tmod (IntKind.i64.wrap (a1.Sequence + 1)) 4)⟩ : ref22_Item)), (true, .val (Rep.slice ref22_Item.rep) (q3 14) ([(⟨(⟨a1.From, a1.Owner, a1.Tag, y3⟩ : Whole_), (a1.Data.length : Int), (Int.tmod (IntKind.i64.wrap (a1.Sequence + 1)) 4)⟩ : ref22_Item)]))] [(false, .box 49 (Rep.iso (fun s : ref22_Assembler => (s.Own, s.Items, ())) (Rep.prod (Rep.int .u8) (Rep.prod (Rep.raw (α := List ref22_Item) u14) Rep.unit))) v0 s2), (false, .box 44 Packet_.rep u1 a1), (true, .box 51 Whole_.rep (q2 10) (⟨a1.From, a1.Owner, a1.Tag, y3⟩ : Whole_)), (false, .slice 53 ref22_Item.rep (q3 15) x1), (true, .box 51 Whole_.rep u2 Whole_.z), (true, .box 51 Whole_.rep u4 Whole_.z)] := h
       refine op (OpS.nchk h52 .z rfl rfl rfl ?_)
       refine op (OpS.fbox (o3 := 1) h52 .z PA.z fa49_1 rfl rfl rfl rfl ?_)
       refine op (OpS.storeC (f' := false) (fr := (Rep.raw (q3 15))) (r' := (Rep.iso (fun s : ref22_Assembler => (s.Own, s.Items, ())) (Rep.prod (Rep.int .u8) (Rep.prod (Rep.raw (α := List ref22_Item) (q3 15)) Rep.unit)))) (x' := s2) h52 .z PA.a (Chg.iso _ (Chg.there (Chg.here (Chg.id (by rfl))))) (Ty.like ty47 (by rfl) (by rfl)) rfl rfl rfl (V.raw (f := false) (St.own1 h52 (.s (.s (.s .z)))) s2.Items) (.inr rfl) (fun w21 h53 => ?_))
       refine RunL.nil ?_
       refine Run.slim [(4, u2), (7, u4)] ⟨rfl, rfl, trivial⟩ ?_
       refine Run.seq ?_
       refine Run.reg ?_
       refine op (OpS.loadB h53 (.s (.s (.s (.s (.s .z))))) PA.z Get.id ty51 rfl rfl rfl (fun u15 h54 => ?_))
       refine op (OpS.storeB (f' := true) h54 (.s (.s (.s (.s .z)))) PA.z Put.id ty51 rfl rfl rfl (V.at .z) (.inl rfl) (fun w22 h55 => ?_))
       refine op (OpS.as rfl rfl rfl ?_)
       refine op (OpS.as rfl rfl rfl ?_)
       refine RunL.nil ?_
       refine Run.slim [(6, .int .i64 0), (5, .bool false), (4, u2)] ⟨rfl, rfl, rfl, trivial⟩ ?_
       obtain ⟨u16, hu4, h56⟩ := res_box h55 .z ty51
       have h57 := St.boxJ (r' := (Rep.iso (fun s : ref22_Assembler => (s.Own, s.Items, ())) (Rep.prod (Rep.int .u8) (Rep.prod (Rep.raw (α := List ref22_Item) (q3 15)) Rep.unit)))) (x' := { s2 with Items := x1 }) (h56.pick (.s .z)) (fun _ _ hs_ => (Jn.iso _ (Jn.prod Jn.refl (Jn.prod Jn.same Jn.refl))))
       refine Run.retP rfl (.cell rfl hu4 (.tmp rfl (.tmp rfl .nil))) ?_
       cases hF
       exact Post.mk' ⟨u16, (q3 15), rfl, rfl, rfl, rfl⟩ (h57.picks (.cons .z (.cons (.s (.s (.s .z))) .nil))) (.val (V.at .z) .nil)
      ·
       refine Run.ite rfl hF (fun e9 hF => ?_) (fun e9 hF => ?_)
       ·
        refine Run.reg ?_
        refine op (OpS.mv rfl rfl rfl ?_)
        obtain ⟨y4, e10, hF⟩ := bindP_use hF
        have h58 := h36.front (.cons (.s (.s .z)) (.cons (.s (.s (.s (.s .z)))) .nil))
        refine op (OpS.callO h58 Try.func48 rfl rfl rfl rfl (vs := [v0, .int .i64 0]) rfl (ref22_Assembler_drop_ok e10) rfl .nil ?_)
        rintro _ w23 _ _ _ ⟨u17, rfl, rfl, rfl, rfl⟩ h59
        have h60 := h59
        simp only [List.cons_append, List.nil_append] at h60
        refine RunL.nil ?_
        refine Run.slim [(9, (q2 10)), (0, v0), (3, u1), (4, u2), (7, u4)] ⟨rfl, rfl, rfl, rfl, rfl, trivial⟩ ?_
        refine Run.slim [(0, v0), (3, u1), (4, u2), (7, u4), (9, (q2 10))] ⟨rfl, rfl, rfl, rfl, rfl, trivial⟩ ?_
        exact hj2 (y4) _ _ ⟨u17, rfl, (h60.facts .nil).picks (.cons .z (.cons (.s (.s .z)) (.cons (.s (.s .z)) (.cons (.s (.s .z)) (.cons (.s .z) (.cons .z .nil))))))⟩ hF
       ·
        refine Run.skip ?_
        refine Run.slim [(0, v0), (3, u1), (4, u2), (7, u4), (9, (q2 10))] ⟨rfl, rfl, rfl, rfl, rfl, trivial⟩ ?_
        exact hj2 (s1) _ _ ⟨u11, rfl, (h36.facts .nil).picks (.cons (.s (.s .z)) (.cons (.s .z) (.cons (.s .z) (.cons (.s .z) (.cons .z (.cons .z .nil))))))⟩ hF
    ·
     refine Run.ite rfl hF (fun e11 hF => ?_) (fun e11 hF => ?_)
     ·
      refine Run.reg ?_
      refine op (OpS.mv rfl rfl rfl ?_)
      refine op (OpS.mv rfl rfl rfl ?_)
      obtain ⟨y5, e12, hF⟩ := bindP_use hF
      have h61 := h20.front (.cons .z (.cons .z .nil))
      refine op (OpS.callO h61 Try.func48 rfl rfl rfl rfl (vs := [v0, .int .i64 y2]) rfl (ref22_Assembler_drop_ok e12) rfl .nil ?_)
      rintro _ w24 _ _ _ ⟨u18, rfl, rfl, rfl, rfl⟩ h62
      have h63 := h62
      simp only [List.cons_append, List.nil_append] at h63
      refine RunL.nil ?_
      refine Run.slim [(7, u4), (4, u2), (3, u1), (0, v0)] ⟨rfl, rfl, rfl, rfl, trivial⟩ ?_
      refine Run.slim [(0, v0), (3, u1), (4, u2), (7, u4)] ⟨rfl, rfl, rfl, rfl, trivial⟩ ?_
      exact hj1 (y5) _ _ ⟨u18, rfl, (h63.facts .nil).picks (.cons .z (.cons (.s .z) (.cons (.s (.s .z)) (.cons (.s .z) (.cons .z .nil)))))⟩ hF
     ·
      refine Run.skip ?_
      refine Run.slim [(0, v0), (3, u1), (4, u2), (7, u4)] ⟨rfl, rfl, rfl, rfl, trivial⟩ ?_
      exact hj1 (a0) _ _ ⟨v0_0, rfl, (h20.facts .nil).picks (.cons .z (.cons (.s .z) (.cons (.s (.s .z)) (.cons (.s .z) (.cons .z .nil)))))⟩ hF
   ·
    refine Run.skip ?_
    refine Run.seq ?_
    refine Run.seq ?_
    refine Run.reg ?_
    refine op (OpS.mv rfl rfl rfl ?_)
    refine op (OpS.bin rfl rfl rfl rfl rfl ?_)
    refine RunL.nil ?_
    refine Run.slim [(75, .bool (decide (y2 < 0))), (8, .int .i64 y2), (7, u4), (4, u2), (3, u1), (0, v0)] ⟨rfl, rfl, rfl, rfl, rfl, rfl, trivial⟩ ?_
    refine Run.ite rfl hF (fun e13 hF => ?_) (fun e13 hF => ?_)
    ·
     refine Run.seq ?_
     refine Run.reg ?_
     refine op (OpS.loadB h20 (.s (.s (.s .z))) PA.z Get.id ty51 rfl rfl rfl (fun u19 h64 => ?_))
     refine op (OpS.storeB (f' := true) h64 (.s (.s (.s (.s .z)))) PA.z Put.id ty51 rfl rfl rfl (V.at .z) (.inl rfl) (fun w25 h65 => ?_))
     refine op (OpS.as rfl rfl rfl ?_)
     refine op (OpS.as rfl rfl rfl ?_)
     refine RunL.nil ?_
     refine Run.slim [(6, .int .i64 8), (5, .bool false), (4, u2)] ⟨rfl, rfl, rfl, trivial⟩ ?_
     obtain ⟨u20, hu5, h66⟩ := res_box h65 .z ty51
     refine Run.retP rfl (.cell rfl hu5 (.tmp rfl (.tmp rfl .nil))) ?_
     cases hF
     exact Post.mk' ⟨u20, v0_0, rfl, rfl, rfl, rfl⟩ (h66.picks (.cons (.s .z) (.cons (.s .z) .nil))) (.val (V.at .z) .nil)
    ·
     refine Run.skip ?_
     refine Run.seq ?_
     refine Run.reg ?_
     refine op (OpS.mv rfl rfl rfl ?_)
     refine op (OpS.nchk h20 .z rfl rfl rfl ?_)
     refine op (OpS.fbox (o3 := 1) h20 .z PA.z fa49_1 rfl rfl rfl rfl ?_)
     refine op (OpS.loadR h20 .z PA.a (GetS.ok (GetS.iso _ (GetS.there (GetS.here GetS.id)))) ty47 rfl rfl rfl rfl rfl ?_)
     refine op (OpS.mv rfl rfl rfl ?_)
     obtain ⟨x2, e14, hF⟩ := bindP_use hF
     refine op (OpS.iown h20 (.s .z) Try.underlying47 ty53 rfl rfl rfl rfl e14 ?_)
     refine op (OpS.loadO h20 (.s .z) (idx_ne e14) PA.a (Get.arr e14) ty53 rfl rfl rfl (fun u21 h67 => ?_))
     refine op (OpS.alloc h67 ti53 ref22_Item.zr rfl rfl (fun u22 w26 h68 => ?_))
     have h69 := (h68.pick .z).weak
     refine op (OpS.storeB (f' := false) h69 .z PA.z Put.id ty53 rfl rfl rfl (V.at .z) (.inr rfl) (fun w27 h70 => ?_))
     refine RunL.nil ?_
     refine Run.slim [(10, u22), (8, .int .i64 y2), (7, u4), (4, u2), (3, u1), (0, v0)] ⟨rfl, rfl, rfl, rfl, rfl, rfl, trivial⟩ ?_
     refine Run.seq ?_
     refine Run.seq ?_
     refine Run.reg ?_
     refine op (OpS.fbox (o3 := 4) h70 (.s (.s (.s .z))) PA.z fa44_4 rfl rfl rfl rfl ?_)
     refine op (OpS.loadBi h70 (.s (.s (.s .z))) PA.a (Get.fld Packet_.f4) ty3 rfl rfl rfl ?_)
     refine op (OpS.fbox (o3 := 5) h70 .z PA.z fa53_2 rfl rfl rfl rfl ?_)
     refine op (OpS.loadBi h70 .z PA.a (Get.fld ref22_Item.f2) ty3 rfl rfl rfl ?_)
     refine op (OpS.bin rfl rfl rfl rfl rfl ?_)
     refine op (OpS.mv rfl rfl rfl ?_)
     refine RunL.join (σ := Bool) (fun s_ L_ w_ => L_ = [(0, v0), (3, u1), (4, u2), (7, u4), (8, .int .i64 y2), (10, u22), (109, .bool s_)] ∧ St e w_ [] [(false, .box 49 (Rep.iso (fun s : ref22_Assembler => (s.Own, s.Items, ())) (Rep.prod (Rep.int .u8) (Rep.prod (Rep.raw (α := List ref22_Item) v0_0) Rep.unit))) v0 a0), (false, .box 44 Packet_.rep u1 a1), (true, .box 51 Whole_.rep u2 Whole_.z), (true, .box 51 Whole_.rep u4 Whole_.z), (false, .box 53 ref22_Item.rep u22 x2), (false, .slice 53 ref22_Item.rep v0_0 a0.Items)]) hF (fun s3 _ w28 hI hF => ?_) (fun j3 hj3 hF => ?_)
     ·
      obtain ⟨rfl, h71⟩ := hI
      refine Run.ite rfl hF (fun e15 hF => ?_) (fun e15 hF => ?_)
      ·
       refine Run.seq ?_
       refine Run.reg ?_
       refine op (OpS.mv rfl rfl rfl ?_)
       refine op (OpS.mv rfl rfl rfl ?_)
       obtain ⟨y6, e16, hF⟩ := bindP_use hF
       have h72 := h71.front (.cons .z (.cons (.s (.s (.s (.s .z)))) .nil))
       refine op (OpS.callO h72 Try.func48 rfl rfl rfl rfl (vs := [v0, .int .i64 y2]) rfl (ref22_Assembler_drop_ok e16) rfl .nil ?_)
       rintro _ w29 _ _ _ ⟨u23, rfl, rfl, rfl, rfl⟩ h73
       have h74 := h73
       simp only [List.cons_append, List.nil_append] at h74
       refine RunL.nil ?_
       refine Run.slim [(4, u2), (7, u4)] ⟨rfl, rfl, trivial⟩ ?_
       refine Run.seq ?_
       refine Run.reg ?_
       refine op (OpS.loadB h74 (.s (.s (.s (.s .z)))) PA.z Get.id ty51 rfl rfl rfl (fun u24 h75 => ?_))
       refine op (OpS.storeB (f' := true) h75 (.s (.s (.s .z))) PA.z Put.id ty51 rfl rfl rfl (V.at .z) (.inl rfl) (fun w30 h76 => ?_))
       refine op (OpS.as rfl rfl rfl ?_)
       refine op (OpS.as rfl rfl rfl ?_)
       refine RunL.nil ?_
       refine Run.slim [(6, .int .i64 15), (5, .bool false), (4, u2)] ⟨rfl, rfl, rfl, trivial⟩ ?_
       obtain ⟨u25, hu6, h77⟩ := res_box h76 .z ty51
       refine Run.retP rfl (.cell rfl hu6 (.tmp rfl (.tmp rfl .nil))) ?_
       cases hF
       exact Post.mk' ⟨u25, u23, rfl, rfl, rfl, rfl⟩ (h77.picks (.cons (.s .z) (.cons (.s .z) .nil))) (.val (V.at .z) .nil)
      ·
       refine Run.skip ?_
       refine Run.seq ?_
       refine Run.seq ?_
       refine Run.reg ?_
       refine op (OpS.fbox (o3 := 0) h71 (.s (.s (.s (.s .z)))) PA.z fa53_0 rfl rfl rfl rfl ?_)
       refine op (OpS.fbox (o3 := 3) h71 (.s (.s (.s (.s .z)))) PA.a fa51_3 rfl rfl rfl rfl ?_)
       refine op (OpS.loadB h71 (.s (.s (.s (.s .z)))) PA.a (Get.comp (Get.fld ref22_Item.f0) (Get.fld Whole_.f3)) ty22 rfl rfl rfl (fun u26 h78 => ?_))
       refine op (OpS.len h78 Try.underlying22 rfl rfl rfl (V.at .z) ?_)
       refine op (OpS.fbox (o3 := 7) h78 (.s .z) PA.z fa44_7 rfl rfl rfl rfl ?_)
       refine op (OpS.loadB h78 (.s .z) PA.a (Get.fld Packet_.f7) ty22 rfl rfl rfl (fun u27 h79 => ?_))
       refine op (OpS.len h79 Try.underlying22 rfl rfl rfl (V.at .z) ?_)
       refine op (OpS.bin rfl rfl rfl rfl rfl ?_)
       refine op (OpS.bin rfl rfl rfl rfl rfl ?_)
       refine RunL.nil ?_
       refine Run.slim [(122, .bool (decide ((IntKind.i64.wrap ((x2.Whole.Data.length : Int) + (a1.Data.length : Int))) > 512))), (0, v0), (3, u1), (4, u2), (7, u4), (8, .int .i64 y2), (10, u22)] ⟨rfl, rfl, rfl, rfl, rfl, rfl, rfl, trivial⟩ ?_
       refine Run.ite rfl hF (fun e17 hF => ?_) (fun e17 hF => ?_)
       ·
        refine Run.seq ?_
        refine Run.reg ?_
        refine op (OpS.mv rfl rfl rfl ?_)
        refine op (OpS.mv rfl rfl rfl ?_)
        obtain ⟨y7, e18, hF⟩ := bindP_use hF
        have h80 := h79.front (.cons .z (.cons (.s (.s (.s (.s .z)))) .nil))
        refine op (OpS.callO h80 Try.func48 rfl rfl rfl rfl (vs := [v0, .int .i64 y2]) rfl (ref22_Assembler_drop_ok e18) rfl .nil ?_)
        rintro _ w31 _ _ _ ⟨u28, rfl, rfl, rfl, rfl⟩ h81
        have h82 := h81
        simp only [List.cons_append, List.nil_append] at h82
        refine RunL.nil ?_
        refine Run.slim [(4, u2), (7, u4)] ⟨rfl, rfl, trivial⟩ ?_
        refine Run.seq ?_
        refine Run.reg ?_
        refine op (OpS.loadB h82 (.s (.s (.s (.s .z)))) PA.z Get.id ty51 rfl rfl rfl (fun u29 h83 => ?_))
        refine op (OpS.storeB (f' := true) h83 (.s (.s (.s .z))) PA.z Put.id ty51 rfl rfl rfl (V.at .z) (.inl rfl) (fun w32 h84 => ?_))
        refine op (OpS.as rfl rfl rfl ?_)
        refine op (OpS.as rfl rfl rfl ?_)
        refine RunL.nil ?_
        refine Run.slim [(6, .int .i64 3), (5, .bool false), (4, u2)] ⟨rfl, rfl, rfl, trivial⟩ ?_
        obtain ⟨u30, hu7, h85⟩ := res_box h84 .z ty51
        refine Run.retP rfl (.cell rfl hu7 (.tmp rfl (.tmp rfl .nil))) ?_
        cases hF
        exact Post.mk' ⟨u30, u28, rfl, rfl, rfl, rfl⟩ (h85.picks (.cons (.s .z) (.cons (.s .z) .nil))) (.val (V.at .z) .nil)
       ·
        refine Run.skip ?_
        refine Run.seq ?_
        have h86 := h79.picks (.cons (.s .z) (.cons (.s (.s (.s .z))) (.cons .z (.cons .z (.cons .z (.cons .z .nil))))))
        obtain ⟨y8, e19, hF⟩ := bindP_use hF
        obtain ⟨x3, e20, hF⟩ := bindP_use hF
        refine Run.drawV (Ωs := [(false, .box 49 (Rep.iso (fun s : ref22_Assembler => (s.Own, s.Items, ())) (Rep.prod (Rep.int .u8) (Rep.prod (Rep.raw (α := List ref22_Item) v0_0) Rep.unit))) v0 a0), (true, .box 51 Whole_.rep u2 Whole_.z), (true, .box 51 Whole_.rep u4 Whole_.z), (false, .slice 53 ref22_Item.rep v0_0 a0.Items)]) [⟨some 127, some ((padd u22 0)), fun _ => [], fun ds_ u_ => [], [], [(1, [])], none⟩, ⟨some 128, some ((padd u22 3)), fun _ => [], fun ds_ u_ => [], [], [(1, [])], none⟩, ⟨some 129, none, fun u_ => [(false, .val (Rep.slice (Rep.int .u8)) u_ x2.Whole.Data)], fun ds_ u_ => [], [], [(1, [])], none⟩, ⟨some 130, none, fun u_ => [], fun ds_ u_ => [(true, .slice 5 (Rep.int .u8) u_ y8)], [], [], none⟩, ⟨some 131, some ((padd u1 7)), fun _ => [], fun ds_ u_ => [], [], [(0, [])], none⟩, ⟨some 132, none, fun u_ => [(false, .val (Rep.slice (Rep.int .u8)) u_ a1.Data)], fun ds_ u_ => [], [], [(0, [])], none⟩, ⟨some 133, none, fun u_ => [], fun ds_ u_ => [(true, .slice 5 (Rep.int .u8) u_ x3)], [5], [], none⟩] [[], [0], [1], [2], [], [4], [3, 5]] [[(false, .box 44 Packet_.rep u1 a1)], [(false, .box 53 ref22_Item.rep u22 x2)]] [0, 1, 2, 3, 4, 6, 7, 8] Try_mixed rfl rfl rfl h86 (.cons ?_ (.cons ?_ (.cons ?_ (.cons ?_ (.cons ?_ (.cons ?_ (.cons ?_ .nil))))))) (fun q4 w hq4 h => ?_)
        ·intro q4 w Γx Ωx h
         have h : St e w ([(false, .val (Rep.slice (Rep.int .u8)) u27 a1.Data), (false, .val (Rep.slice (Rep.int .u8)) u26 x2.Whole.Data)] ++ Γx) ([(false, .box 53 ref22_Item.rep u22 x2), (false, .box 49 (Rep.iso (fun s : ref22_Assembler => (s.Own, s.Items, ())) (Rep.prod (Rep.int .u8) (Rep.prod (Rep.raw (α := List ref22_Item) v0_0) Rep.unit))) v0 a0), (true, .box 51 Whole_.rep u2 Whole_.z), (true, .box 51 Whole_.rep u4 Whole_.z), (false, .slice 53 ref22_Item.rep v0_0 a0.Items)] ++ Ωx) := h
         refine OpS.fbox (o3 := 0) h .z PA.z fa53_0 rfl rfl rfl rfl ?_
         exact ⟨undef, rfl, trivial, h⟩
        ·intro q4 w Γx Ωx h
         have h : St e w ([(false, .val (Rep.slice (Rep.int .u8)) u27 a1.Data), (false, .val (Rep.slice (Rep.int .u8)) u26 x2.Whole.Data)] ++ Γx) ([(false, .box 53 ref22_Item.rep u22 x2), (false, .box 49 (Rep.iso (fun s : ref22_Assembler => (s.Own, s.Items, ())) (Rep.prod (Rep.int .u8) (Rep.prod (Rep.raw (α := List ref22_Item) v0_0) Rep.unit))) v0 a0), (true, .box 51 Whole_.rep u2 Whole_.z), (true, .box 51 Whole_.rep u4 Whole_.z), (false, .slice 53 ref22_Item.rep v0_0 a0.Items)] ++ Ωx) := h
         refine OpS.fbox (o3 := 3) h .z PA.a fa51_3 rfl rfl rfl rfl ?_
         exact ⟨undef, rfl, trivial, h⟩
        ·intro q4 w Γx Ωx h
         have h : St e w ([(false, .val (Rep.slice (Rep.int .u8)) u27 a1.Data), (false, .val (Rep.slice (Rep.int .u8)) u26 x2.Whole.Data)] ++ Γx) ([(false, .box 53 ref22_Item.rep u22 x2), (false, .box 49 (Rep.iso (fun s : ref22_Assembler => (s.Own, s.Items, ())) (Rep.prod (Rep.int .u8) (Rep.prod (Rep.raw (α := List ref22_Item) v0_0) Rep.unit))) v0 a0), (true, .box 51 Whole_.rep u2 Whole_.z), (true, .box 51 Whole_.rep u4 Whole_.z), (false, .slice 53 ref22_Item.rep v0_0 a0.Items)] ++ Ωx) := h
         refine OpS.loadB h .z PA.a (Get.comp (Get.fld ref22_Item.f0) (Get.fld Whole_.f3)) ty22 rfl rfl rfl (fun u h92 => ?_)
         exact ⟨u, rfl, trivial, h92⟩
        ·intro q4 w Γx Ωx h
         refine OpS.callP h Try.func42 rfl rfl rfl rfl (vs := [(q4 2)]) rfl (ref01_Copy_ok e19) (.cons (f := false) (V.at .z) .nil) ?_
         rintro u w35 _ _ _ ⟨_, rfl, rfl, rfl, rfl⟩ h93
         have h94 := h93 rfl rfl
         simp only [List.cons_append, List.nil_append] at h94
         exact ⟨u, rfl, trivial, h94⟩
        ·intro q4 w Γx Ωx h
         have h : St e w ([(false, .val (Rep.slice (Rep.int .u8)) u27 a1.Data), (false, .val (Rep.slice (Rep.int .u8)) u26 x2.Whole.Data)] ++ Γx) ([(false, .box 44 Packet_.rep u1 a1), (false, .box 49 (Rep.iso (fun s : ref22_Assembler => (s.Own, s.Items, ())) (Rep.prod (Rep.int .u8) (Rep.prod (Rep.raw (α := List ref22_Item) v0_0) Rep.unit))) v0 a0), (true, .box 51 Whole_.rep u2 Whole_.z), (true, .box 51 Whole_.rep u4 Whole_.z), (false, .slice 53 ref22_Item.rep v0_0 a0.Items)] ++ Ωx) := h
         refine OpS.fbox (o3 := 7) h .z PA.z fa44_7 rfl rfl rfl rfl ?_
         exact ⟨undef, rfl, trivial, h⟩
        ·intro q4 w Γx Ωx h
         have h : St e w ([(false, .val (Rep.slice (Rep.int .u8)) u27 a1.Data), (false, .val (Rep.slice (Rep.int .u8)) u26 x2.Whole.Data)] ++ Γx) ([(false, .box 44 Packet_.rep u1 a1), (false, .box 49 (Rep.iso (fun s : ref22_Assembler => (s.Own, s.Items, ())) (Rep.prod (Rep.int .u8) (Rep.prod (Rep.raw (α := List ref22_Item) v0_0) Rep.unit))) v0 a0), (true, .box 51 Whole_.rep u2 Whole_.z), (true, .box 51 Whole_.rep u4 Whole_.z), (false, .slice 53 ref22_Item.rep v0_0 a0.Items)] ++ Ωx) := h
         refine OpS.loadB h .z PA.a (Get.fld Packet_.f7) ty22 rfl rfl rfl (fun u h95 => ?_)
         exact ⟨u, rfl, trivial, h95⟩
        ·intro q4 w Γx Ωx h
         have h : St e w ([(false, .val (Rep.slice (Rep.int .u8)) (q4 5) a1.Data), (false, .val (Rep.slice (Rep.int .u8)) u27 a1.Data), (false, .val (Rep.slice (Rep.int .u8)) u26 x2.Whole.Data)] ++ Γx) ([(true, .slice 5 (Rep.int .u8) (q4 3) y8), (false, .box 49 (Rep.iso (fun s : ref22_Assembler => (s.Own, s.Items, ())) (Rep.prod (Rep.int .u8) (Rep.prod (Rep.raw (α := List ref22_Item) v0_0) Rep.unit))) v0 a0), (true, .box 51 Whole_.rep u2 Whole_.z), (true, .box 51 Whole_.rep u4 Whole_.z), (false, .slice 53 ref22_Item.rep v0_0 a0.Items)] ++ Ωx) := h
         refine OpS.app (f' := false) h .z Try.underlying22 ti5 rfl rfl rfl rfl rfl rfl rfl (V.at .z) (.inr Pure.int) e20 (fun u w36 h96 => ?_)
         exact ⟨u, rfl, trivial, h96⟩
        have h97 : St e w [(false, .val (Rep.slice (Rep.int .u8)) (q4 2) x2.Whole.Data), (false, .val (Rep.slice (Rep.int .u8)) (q4 5) a1.Data), (false, .val (Rep.slice (Rep.int .u8)) u27 a1.Data), (false, .val (Rep.slice (Rep.int .u8)) u26 x2.Whole.Data)] [(false, .box 44 Packet_.rep u1 a1), (false, .box 53 ref22_Item.rep u22 x2), (true, .slice 5 (Rep.int .u8) (q4 6) x3), (false, .box 49 (Rep.iso (fun s : ref22_Assembler => (s.Own, s.Items, ())) (Rep.prod (Rep.int .u8) (Rep.prod (Rep.raw (α := List ref22_Item) v0_0) Rep.unit))) v0 a0), (true, .box 51 Whole_.rep u2 Whole_.z), (true, .box 51 Whole_.rep u4 Whole_.z), (false, .slice 53 ref22_Item.rep v0_0 a0.Items)] := h
        refine op (OpS.fbox (o3 := 0) h97 (.s .z) PA.z fa53_0 rfl rfl rfl rfl ?_)
        refine op (OpS.fbox (o3 := 3) h97 (.s .z) PA.a fa51_3 rfl rfl rfl rfl ?_)
        refine op (OpS.storeC (f' := false) (fr := (Rep.raw (q4 6))) (r' := (Rep.iso (fun s : ref22_Item => (s.Whole, s.Size, s.Next, ())) (Rep.prod (Rep.iso (fun s : Whole_ => (s.From, s.Owner, s.Tag, s.Data, ())) (Rep.prod (Rep.int .u8) (Rep.prod Rep.bool (Rep.prod (Rep.int .i64) (Rep.prod (Rep.raw (α := List Int) (q4 6)) Rep.unit))))) (Rep.prod (Rep.int .i64) (Rep.prod (Rep.int .i64) Rep.unit))))) (x' := x2) h97 (.s .z) PA.a (Chg.iso _ (Chg.here (Chg.iso _ (Chg.there (Chg.there (Chg.there (Chg.here (Chg.id (by rfl))))))))) (Ty.like ty22 (by rfl) (by rfl)) rfl rfl rfl (V.raw (f := false) (St.own1 h97 (.s (.s .z))) x2.Whole.Data) (.inr rfl) (fun w37 h98 => ?_))
        refine RunL.nil ?_
        refine Run.slim [(0, v0), (3, u1), (4, u2), (7, u4), (8, .int .i64 y2), (10, u22)] ⟨rfl, rfl, rfl, rfl, rfl, rfl, trivial⟩ ?_
        refine Run.seq ?_
        refine Run.reg ?_
        refine op (OpS.fbox (o3 := 5) h98 .z PA.z fa53_2 rfl rfl rfl rfl ?_)
        refine op (OpS.loadBi h98 .z PA.a (GetS.ok (GetS.iso _ (GetS.there (GetS.there (GetS.here GetS.id))))) ty3 rfl rfl rfl ?_)
        refine op (OpS.bin rfl rfl rfl rfl rfl ?_)
        refine op (OpS.rem rfl rfl rfl rfl (by decide) ?_)
        refine op (OpS.fbox (o3 := 5) h98 .z PA.z fa53_2 rfl rfl rfl rfl ?_)
        obtain ⟨d1, e21, hF⟩ := letP_use hF
        refine op (OpS.storeC (f' := true) (fr := (Rep.int .i64)) (r' := (Rep.iso (fun s : ref22_Item => (s.Whole, s.Size, s.Next, ())) (Rep.prod (Rep.iso (fun s : Whole_ => (s.From, s.Owner, s.Tag, s.Data, ())) (Rep.prod (Rep.int .u8) (Rep.prod Rep.bool (Rep.prod (Rep.int .i64) (Rep.prod (Rep.raw (α := List Int) (q4 6)) Rep.unit))))) (Rep.prod (Rep.int .i64) (Rep.prod (Rep.int .i64) Rep.unit))))) (x' := d1) h98 .z PA.a (Chg.of (x' := { x2 with Next := (Int.tmod (IntKind.i64.wrap (x2.Next + 1)) 4) }) (Chg.iso _ (Chg.there (Chg.there (Chg.here (Chg.id (by rfl)))))) e21) ty3 rfl rfl rfl V.int (.inr rfl) (fun w38 h99 => ?_))
        refine RunL.nil ?_
        refine Run.slim [(0, v0), (3, u1), (4, u2), (7, u4), (8, .int .i64 y2), (10, u22)] ⟨rfl, rfl, rfl, rfl, rfl, rfl, trivial⟩ ?_
        refine Run.seq ?_
        refine Run.seq ?_
        refine Run.reg ?_
        refine op (OpS.fbox (o3 := 3) h99 (.s .z) PA.z fa44_3 rfl rfl rfl rfl ?_)
        refine op (OpS.loadBb h99 (.s .z) PA.a (Get.fld Packet_.f3) ty4 rfl rfl rfl ?_)
        refine RunL.nil ?_
        refine Run.slim [(142, .bool a1.End), (0, v0), (4, u2), (7, u4), (8, .int .i64 y2), (10, u22)] ⟨rfl, rfl, rfl, rfl, rfl, rfl, trivial⟩ ?_
        refine Run.ite rfl hF (fun e22 hF => ?_) (fun e22 hF => ?_)
        ·
         refine Run.seq ?_
         refine Run.reg ?_
         refine op (OpS.mv rfl rfl rfl ?_)
         refine op (OpS.mv rfl rfl rfl ?_)
         obtain ⟨y9, e23, hF⟩ := bindP_use hF
         have h100 := h99.front (.cons (.s (.s (.s .z))) (.cons (.s (.s (.s (.s (.s .z))))) .nil))
         refine op (OpS.callO h100 Try.func48 rfl rfl rfl rfl (vs := [v0, .int .i64 y2]) rfl (ref22_Assembler_drop_ok e23) rfl .nil ?_)
         rintro _ w39 _ _ _ ⟨u31, rfl, rfl, rfl, rfl⟩ h101
         have h102 := h101
         simp only [List.cons_append, List.nil_append] at h102
         refine RunL.nil ?_
         refine Run.slim [(4, u2), (10, u22)] ⟨rfl, rfl, trivial⟩ ?_
         refine Run.seq ?_
         refine Run.reg ?_
         refine op (OpS.fbox (o3 := 0) h102 (.s (.s .z)) PA.z fa53_0 rfl rfl rfl rfl ?_)
         refine op (OpS.loadB (fr := (Rep.iso (fun s : Whole_ => (s.From, s.Owner, s.Tag, s.Data, ())) (Rep.prod (Rep.int .u8) (Rep.prod Rep.bool (Rep.prod (Rep.int .i64) (Rep.prod (Rep.raw (α := List Int) (q4 6)) Rep.unit)))))) h102 (.s (.s .z)) PA.a (GetS.ok (GetS.iso _ (GetS.here GetS.id))) (Ty.like ty51 (by rfl) (by rfl)) rfl rfl rfl (fun u32 h103 => ?_))
         refine op (OpS.storeC (f' := true) (fr := (Rep.iso (fun s : Whole_ => (s.From, s.Owner, s.Tag, s.Data, ())) (Rep.prod (Rep.int .u8) (Rep.prod Rep.bool (Rep.prod (Rep.int .i64) (Rep.prod (Rep.raw (α := List Int) (q4 6)) Rep.unit)))))) (r' := (Rep.iso (fun s : Whole_ => (s.From, s.Owner, s.Tag, s.Data, ())) (Rep.prod (Rep.int .u8) (Rep.prod Rep.bool (Rep.prod (Rep.int .i64) (Rep.prod (Rep.raw (α := List Int) (q4 6)) Rep.unit)))))) (x' := d1.Whole) h103 (.s (.s (.s (.s (.s .z))))) PA.z (Chg.id (by rfl)) (Ty.like ty51 (by rfl) (by rfl)) rfl rfl rfl (V.pure (V.at .z) (Pure.iso (Pure.prod Pure.int (Pure.prod Pure.bool (Pure.prod Pure.int (Pure.prod Pure.raw Pure.unit)))))) (.inl rfl) (fun w40 h104 => ?_))
         refine op (OpS.as rfl rfl rfl ?_)
         refine op (OpS.as rfl rfl rfl ?_)
         refine RunL.nil ?_
         refine Run.slim [(6, .int .i64 0), (5, .bool true), (4, u2)] ⟨rfl, rfl, rfl, trivial⟩ ?_
         obtain ⟨u33, hu8, h105⟩ := res_box h104 .z (Ty.like ty51 (by rfl) (by rfl))
         have h106 := (h105.pick (.s (.s (.s (.s (.s .z)))))).freeze
         have h107 := h106.pick .z
         have h108 := St.boxJ (r' := Whole_.rep) (x' := { d1.Whole with Data := x3 }) h107 (fun _ _ hs_ => (Jn.iso _ (Jn.prod Jn.refl (Jn.prod Jn.refl (Jn.prod Jn.refl (Jn.prod (Jn.raw ((V.at .z) _ _ hs_) rfl) Jn.refl))))))
         have h109 := h108.pick (.s (.s (.s .z)))
         have h110 := St.boxJ (r' := ref22_Item.rep) (x' := { d1 with Whole := { d1.Whole with Data := x3 } }) h109 (fun _ _ hs_ => (Jn.iso _ (Jn.prod (Jn.iso _ (Jn.prod Jn.refl (Jn.prod Jn.refl (Jn.prod Jn.refl (Jn.prod (Jn.raw ((V.weak (V.at .z)) _ _ hs_) rfl) Jn.refl))))) Jn.refl)))
         have h111 := St.addV (f := true) (r := Whole_.rep) (x := { d1.Whole with Data := x3 }) h110 (V.jn (r := (Rep.iso (fun s : Whole_ => (s.From, s.Owner, s.Tag, s.Data, ())) (Rep.prod (Rep.int .u8) (Rep.prod Rep.bool (Rep.prod (Rep.int .i64) (Rep.prod (Rep.raw (α := List Int) (q4 6)) Rep.unit)))))) (x := d1.Whole) (V.at (.s .z)) rfl (fun _ _ hs_ => (Jn.iso _ (Jn.prod Jn.refl (Jn.prod Jn.refl (Jn.prod Jn.refl (Jn.prod (Jn.raw ((V.at .z) _ _ hs_) rfl) Jn.refl)))))))
         refine Run.retP rfl (.cell rfl hu8 (.tmp rfl (.tmp rfl .nil))) ?_
         cases hF
         exact Post.mk' ⟨u33, u31, rfl, rfl, rfl, rfl⟩ (h111.picks (.cons (.s (.s .z)) (.cons (.s (.s .z)) .nil))) (.val (V.at .z) .nil)
        ·
         refine Run.skip ?_
         refine Run.seq ?_
         have h112 := (h99.pick (.s (.s .z))).freeze
         have h113 := h112.pick .z
         have h114 := St.boxJ (r' := ref22_Item.rep) (x' := { d1 with Whole := { d1.Whole with Data := x3 } }) h113 (fun _ _ hs_ => (Jn.iso _ (Jn.prod (Jn.iso _ (Jn.prod Jn.refl (Jn.prod Jn.refl (Jn.prod Jn.refl (Jn.prod (Jn.raw ((V.weak (V.at .z)) _ _ hs_) rfl) Jn.refl))))) Jn.refl)))
         have h115 := h114.picks (.cons .z (.cons (.s .z) (.cons .z (.cons .z (.cons .z (.cons .z .nil))))))
         refine Run.drawV (Ωs := [(false, .box 44 Packet_.rep u1 a1), (true, .box 51 Whole_.rep u2 Whole_.z), (true, .box 51 Whole_.rep u4 Whole_.z), (false, .slice 53 ref22_Item.rep v0_0 a0.Items)]) [⟨some 148, some (v0), fun _ => [], fun ds_ u_ => [], [], [], none⟩, ⟨some 149, some (v0), fun _ => [], fun ds_ u_ => [], [], [(1, [])], none⟩, ⟨some 150, some ((padd v0 1)), fun _ => [], fun ds_ u_ => [], [], [(1, [])], none⟩, ⟨some 151, some (v0_0), fun _ => [], fun ds_ u_ => [], [], [(1, [])], none⟩, ⟨some 152, some (.int .i64 y2), fun _ => [], fun ds_ u_ => [], [], [], none⟩, ⟨some 153, none, fun u_ => [(false, .val ref22_Item.rep u_ ({ d1 with Whole := { d1.Whole with Data := x3 } }))], fun ds_ u_ => [], [], [(0, [])], none⟩] [[], [0], [1], [2], [], []] [[(false, .box 53 ref22_Item.rep u22 ({ d1 with Whole := { d1.Whole with Data := x3 } }))], [(false, .box 49 (Rep.iso (fun s : ref22_Assembler => (s.Own, s.Items, ())) (Rep.prod (Rep.int .u8) (Rep.prod (Rep.raw (α := List ref22_Item) v0_0) Rep.unit))) v0 a0)]] [0, 1, 2, 3, 4, 5, 6, 7] Try_mixed rfl rfl rfl h115 (.cons ?_ (.cons ?_ (.cons ?_ (.cons ?_ (.cons ?_ (.cons ?_ .nil)))))) (fun q5 w hq5 h => ?_)
         ·intro q5 w Γx Ωx h
          refine OpS.mv rfl rfl rfl ?_
          exact ⟨undef, rfl, trivial, h⟩
         ·intro q5 w Γx Ωx h
          have h : St e w ([(true, .val (Rep.slice (Rep.int .u8)) (q4 6) x3), (false, .val (Rep.slice (Rep.int .u8)) (q4 2) x2.Whole.Data), (false, .val (Rep.slice (Rep.int .u8)) (q4 5) a1.Data), (false, .val (Rep.slice (Rep.int .u8)) u27 a1.Data), (false, .val (Rep.slice (Rep.int .u8)) u26 x2.Whole.Data)] ++ Γx) ([(false, .box 49 (Rep.iso (fun s : ref22_Assembler => (s.Own, s.Items, ())) (Rep.prod (Rep.int .u8) (Rep.prod (Rep.raw (α := List ref22_Item) v0_0) Rep.unit))) v0 a0), (false, .box 44 Packet_.rep u1 a1), (true, .box 51 Whole_.rep u2 Whole_.z), (true, .box 51 Whole_.rep u4 Whole_.z), (false, .slice 53 ref22_Item.rep v0_0 a0.Items)] ++ Ωx) := h
          refine OpS.nchk h .z rfl rfl rfl ?_
          exact ⟨undef, rfl, trivial, h⟩
         ·intro q5 w Γx Ωx h
          have h : St e w ([(true, .val (Rep.slice (Rep.int .u8)) (q4 6) x3), (false, .val (Rep.slice (Rep.int .u8)) (q4 2) x2.Whole.Data), (false, .val (Rep.slice (Rep.int .u8)) (q4 5) a1.Data), (false, .val (Rep.slice (Rep.int .u8)) u27 a1.Data), (false, .val (Rep.slice (Rep.int .u8)) u26 x2.Whole.Data)] ++ Γx) ([(false, .box 49 (Rep.iso (fun s : ref22_Assembler => (s.Own, s.Items, ())) (Rep.prod (Rep.int .u8) (Rep.prod (Rep.raw (α := List ref22_Item) v0_0) Rep.unit))) v0 a0), (false, .box 44 Packet_.rep u1 a1), (true, .box 51 Whole_.rep u2 Whole_.z), (true, .box 51 Whole_.rep u4 Whole_.z), (false, .slice 53 ref22_Item.rep v0_0 a0.Items)] ++ Ωx) := h
          refine OpS.fbox (o3 := 1) h .z PA.z fa49_1 rfl rfl rfl rfl ?_
          exact ⟨undef, rfl, trivial, h⟩
         ·intro q5 w Γx Ωx h
          have h : St e w ([(true, .val (Rep.slice (Rep.int .u8)) (q4 6) x3), (false, .val (Rep.slice (Rep.int .u8)) (q4 2) x2.Whole.Data), (false, .val (Rep.slice (Rep.int .u8)) (q4 5) a1.Data), (false, .val (Rep.slice (Rep.int .u8)) u27 a1.Data), (false, .val (Rep.slice (Rep.int .u8)) u26 x2.Whole.Data)] ++ Γx) ([(false, .box 49 (Rep.iso (fun s : ref22_Assembler => (s.Own, s.Items, ())) (Rep.prod (Rep.int .u8) (Rep.prod (Rep.raw (α := List ref22_Item) v0_0) Rep.unit))) v0 a0), (false, .box 44 Packet_.rep u1 a1), (true, .box 51 Whole_.rep u2 Whole_.z), (true, .box 51 Whole_.rep u4 Whole_.z), (false, .slice 53 ref22_Item.rep v0_0 a0.Items)] ++ Ωx) := h
          refine OpS.loadR h .z PA.a (GetS.ok (GetS.iso _ (GetS.there (GetS.here GetS.id)))) ty47 rfl rfl rfl rfl rfl ?_
          exact ⟨undef, rfl, trivial, h⟩
         ·intro q5 w Γx Ωx h
          refine OpS.mv rfl rfl rfl ?_
          exact ⟨undef, rfl, trivial, h⟩
         ·intro q5 w Γx Ωx h
          have h : St e w ([(true, .val (Rep.slice (Rep.int .u8)) (q4 6) x3), (false, .val (Rep.slice (Rep.int .u8)) (q4 2) x2.Whole.Data), (false, .val (Rep.slice (Rep.int .u8)) (q4 5) a1.Data), (false, .val (Rep.slice (Rep.int .u8)) u27 a1.Data), (false, .val (Rep.slice (Rep.int .u8)) u26 x2.Whole.Data)] ++ Γx) ([(false, .box 53 ref22_Item.rep u22 ({ d1 with Whole := { d1.Whole with Data := x3 } })), (false, .box 44 Packet_.rep u1 a1), (true, .box 51 Whole_.rep u2 Whole_.z), (true, .box 51 Whole_.rep u4 Whole_.z), (false, .slice 53 ref22_Item.rep v0_0 a0.Items)] ++ Ωx) := h
          refine OpS.loadB h .z PA.z Get.id ty53 rfl rfl rfl (fun u h117 => ?_)
          exact ⟨u, rfl, trivial, h117⟩
         have h118 : St e w [(false, .val ref22_Item.rep (q5 5) ({ d1 with Whole := { d1.Whole with Data := x3 } })), (true, .val (Rep.slice (Rep.int .u8)) (q4 6) x3), (false, .val (Rep.slice (Rep.int .u8)) (q4 2) x2.Whole.Data), (false, .val (Rep.slice (Rep.int .u8)) (q4 5) a1.Data), (false, .val (Rep.slice (Rep.int .u8)) u27 a1.Data), (false, .val (Rep.slice (Rep.int .u8)) u26 x2.Whole.Data)] [(false, .box 53 ref22_Item.rep u22 ({ d1 with Whole := { d1.Whole with Data := x3 } })), (false, .box 49 (Rep.iso (fun s : ref22_Assembler => (s.Own, s.Items, ())) (Rep.prod (Rep.int .u8) (Rep.prod (Rep.raw (α := List ref22_Item) v0_0) Rep.unit))) v0 a0), (false, .box 44 Packet_.rep u1 a1), (true, .box 51 Whole_.rep u2 Whole_.z), (true, .box 51 Whole_.rep u4 Whole_.z), (false, .slice 53 ref22_Item.rep v0_0 a0.Items)] := h
         obtain ⟨x4, e24, hF⟩ := bindP_use hF
         refine op (OpS.iown h118 (.s (.s (.s (.s (.s .z))))) Try.underlying47 ty53 rfl rfl rfl rfl e24 ?_)
         obtain ⟨d2, e25, hF⟩ := letP_use hF
         refine op (OpS.storeO (f' := false) h118 (.s (.s (.s (.s (.s .z))))) (idx_ne e24) PA.a (Put.of (Put.arr e24) e25) ty53 rfl rfl rfl (V.at .z) (.inr rfl) (fun w41 h119 => ?_))
         refine RunL.nil ?_
         refine Run.slim [(4, u2), (7, u4)] ⟨rfl, rfl, trivial⟩ ?_
         refine Run.seq ?_
         refine Run.reg ?_
         refine op (OpS.loadB h119 (.s (.s (.s (.s (.s .z))))) PA.z Get.id ty51 rfl rfl rfl (fun u34 h120 => ?_))
         refine op (OpS.storeB (f' := true) h120 (.s (.s (.s (.s .z)))) PA.z Put.id ty51 rfl rfl rfl (V.at .z) (.inl rfl) (fun w42 h121 => ?_))
         refine op (OpS.as rfl rfl rfl ?_)
         refine op (OpS.as rfl rfl rfl ?_)
         refine RunL.nil ?_
         refine Run.slim [(6, .int .i64 0), (5, .bool false), (4, u2)] ⟨rfl, rfl, rfl, trivial⟩ ?_
         obtain ⟨u35, hu9, h122⟩ := res_box h121 .z ty51
         have h123 := St.boxJ (r' := (Rep.iso (fun s : ref22_Assembler => (s.Own, s.Items, ())) (Rep.prod (Rep.int .u8) (Rep.prod (Rep.raw (α := List ref22_Item) v0_0) Rep.unit)))) (x' := { a0 with Items := d2 }) (h122.pick (.s (.s (.s .z)))) (fun _ _ hs_ => (Jn.iso _ (Jn.prod Jn.refl (Jn.prod Jn.same Jn.refl))))
         refine Run.retP rfl (.cell rfl hu9 (.tmp rfl (.tmp rfl .nil))) ?_
         cases hF
         exact Post.mk' ⟨u35, v0_0, rfl, rfl, rfl, rfl⟩ (h123.picks (.cons .z (.cons (.s .z) .nil))) (.val (V.at .z) .nil)
     ·
      refine RunL.caseb hF (fun e26 hF => ?_) (fun e26 hF => ?_)
      ·
       refine op (OpS.pass rfl rfl rfl ?_)
       refine op (OpS.pass rfl rfl rfl ?_)
       refine op (OpS.pass rfl rfl rfl ?_)
       refine op (OpS.pass rfl rfl rfl ?_)
       refine op (OpS.pass rfl rfl rfl ?_)
       refine op (OpS.pass rfl rfl rfl ?_)
       refine op (OpS.pick rfl rfl rfl rfl ?_)
       refine op (OpS.mv rfl rfl rfl ?_)
       refine op (OpS.pass rfl rfl rfl ?_)
       refine op (OpS.pass rfl rfl rfl ?_)
       refine op (OpS.pass rfl rfl rfl ?_)
       refine op (OpS.pass rfl rfl rfl ?_)
       refine op (OpS.pass rfl rfl rfl ?_)
       refine op (OpS.pass rfl rfl rfl ?_)
       refine op (OpS.pass rfl rfl rfl ?_)
       refine op (OpS.pass rfl rfl rfl ?_)
       refine op (OpS.pass rfl rfl rfl ?_)
       refine op (OpS.pass rfl rfl rfl ?_)
       refine op (OpS.pass rfl rfl rfl ?_)
       refine op (OpS.pick rfl rfl rfl rfl ?_)
       refine RunL.nil ?_
       refine Run.slim [(109, .bool true), (10, u22), (8, .int .i64 y2), (7, u4), (4, u2), (3, u1), (0, v0)] ⟨rfl, rfl, rfl, rfl, rfl, rfl, rfl, trivial⟩ ?_
       refine Run.slim [(0, v0), (3, u1), (4, u2), (7, u4), (8, .int .i64 y2), (10, u22), (109, .bool true)] ⟨rfl, rfl, rfl, rfl, rfl, rfl, rfl, trivial⟩ ?_
       exact hj3 (true) _ _ ⟨rfl, (h70.facts .nil).picks (.cons (.s .z) (.cons (.s (.s .z)) (.cons (.s (.s (.s .z))) (.cons (.s (.s .z)) (.cons .z (.cons .z .nil))))))⟩ hF
      ·
       refine op (OpS.fbox (o3 := 7) h70 (.s (.s (.s .z))) PA.z fa44_7 rfl rfl rfl rfl ?_)
       refine op (OpS.loadB h70 (.s (.s (.s .z))) PA.a (Get.fld Packet_.f7) ty22 rfl rfl rfl (fun u36 h124 => ?_))
       refine op (OpS.len h124 Try.underlying22 rfl rfl rfl (V.at .z) ?_)
       refine op (OpS.fbox (o3 := 4) h124 .z PA.z fa53_1 rfl rfl rfl rfl ?_)
       refine op (OpS.loadBi h124 .z PA.a (Get.fld ref22_Item.f1) ty3 rfl rfl rfl ?_)
       refine op (OpS.bin rfl rfl rfl rfl rfl ?_)
       refine op (OpS.pick rfl rfl rfl rfl ?_)
       refine op (OpS.mv rfl rfl rfl ?_)
       refine RunL.caseb hF (fun e27 hF => ?_) (fun e27 hF => ?_)
       ·
        refine op (OpS.pass rfl rfl rfl ?_)
        refine op (OpS.pass rfl rfl rfl ?_)
        refine op (OpS.pass rfl rfl rfl ?_)
        refine op (OpS.pass rfl rfl rfl ?_)
        refine op (OpS.pass rfl rfl rfl ?_)
        refine op (OpS.pass rfl rfl rfl ?_)
        refine op (OpS.pass rfl rfl rfl ?_)
        refine op (OpS.pass rfl rfl rfl ?_)
        refine op (OpS.pass rfl rfl rfl ?_)
        refine op (OpS.pass rfl rfl rfl ?_)
        refine op (OpS.pass rfl rfl rfl ?_)
        refine op (OpS.pick rfl rfl rfl rfl ?_)
        refine RunL.nil ?_
        refine Run.slim [(109, .bool true), (10, u22), (8, .int .i64 y2), (7, u4), (4, u2), (3, u1), (0, v0)] ⟨rfl, rfl, rfl, rfl, rfl, rfl, rfl, trivial⟩ ?_
        refine Run.slim [(0, v0), (3, u1), (4, u2), (7, u4), (8, .int .i64 y2), (10, u22), (109, .bool true)] ⟨rfl, rfl, rfl, rfl, rfl, rfl, rfl, trivial⟩ ?_
        exact hj3 (true) _ _ ⟨rfl, (h124.facts .nil).picks (.cons (.s .z) (.cons (.s (.s .z)) (.cons (.s (.s (.s .z))) (.cons (.s (.s .z)) (.cons .z (.cons .z .nil))))))⟩ hF
       ·
        refine op (OpS.fbox (o3 := 7) h124 (.s (.s (.s .z))) PA.z fa44_7 rfl rfl rfl rfl ?_)
        refine op (OpS.loadB h124 (.s (.s (.s .z))) PA.a (Get.fld Packet_.f7) ty22 rfl rfl rfl (fun u37 h125 => ?_))
        refine op (OpS.len h125 Try.underlying22 rfl rfl rfl (V.at .z) ?_)
        refine op (OpS.fbox (o3 := 4) h125 .z PA.z fa53_1 rfl rfl rfl rfl ?_)
        refine op (OpS.loadBi h125 .z PA.a (Get.fld ref22_Item.f1) ty3 rfl rfl rfl ?_)
        refine op (OpS.bin rfl rfl rfl rfl rfl ?_)
        refine op (OpS.mv rfl rfl rfl ?_)
        refine RunL.caseb hF (fun e28 hF => ?_) (fun e28 hF => ?_)
        ·
         refine op (OpS.fbox (o3 := 3) h125 (.s (.s (.s .z))) PA.z fa44_3 rfl rfl rfl rfl ?_)
         refine op (OpS.loadBb h125 (.s (.s (.s .z))) PA.a (Get.fld Packet_.f3) ty4 rfl rfl rfl ?_)
         refine op (OpS.not rfl rfl rfl ?_)
         refine op (OpS.pick rfl rfl rfl rfl ?_)
         refine op (OpS.pick rfl rfl rfl rfl ?_)
         refine RunL.nil ?_
         refine Run.slim [(109, .bool (!a1.End)), (10, u22), (8, .int .i64 y2), (7, u4), (4, u2), (3, u1), (0, v0)] ⟨rfl, rfl, rfl, rfl, rfl, rfl, rfl, trivial⟩ ?_
         refine Run.slim [(0, v0), (3, u1), (4, u2), (7, u4), (8, .int .i64 y2), (10, u22), (109, .bool (!a1.End))] ⟨rfl, rfl, rfl, rfl, rfl, rfl, rfl, trivial⟩ ?_
         exact hj3 (!a1.End) _ _ ⟨rfl, (h125.facts .nil).picks (.cons (.s .z) (.cons (.s (.s .z)) (.cons (.s (.s (.s .z))) (.cons (.s (.s .z)) (.cons .z (.cons .z .nil))))))⟩ hF
        ·
         refine op (OpS.pass rfl rfl rfl ?_)
         refine op (OpS.pass rfl rfl rfl ?_)
         refine op (OpS.pass rfl rfl rfl ?_)
         refine op (OpS.pick rfl rfl rfl rfl ?_)
         refine op (OpS.pick rfl rfl rfl rfl ?_)
         refine RunL.nil ?_
         refine Run.slim [(109, .bool false), (10, u22), (8, .int .i64 y2), (7, u4), (4, u2), (3, u1), (0, v0)] ⟨rfl, rfl, rfl, rfl, rfl, rfl, rfl, trivial⟩ ?_
         refine Run.slim [(0, v0), (3, u1), (4, u2), (7, u4), (8, .int .i64 y2), (10, u22), (109, .bool false)] ⟨rfl, rfl, rfl, rfl, rfl, rfl, rfl, trivial⟩ ?_
         exact hj3 (false) _ _ ⟨rfl, (h125.facts .nil).picks (.cons (.s .z) (.cons (.s (.s .z)) (.cons (.s (.s (.s .z))) (.cons (.s (.s .z)) (.cons .z (.cons .z .nil))))))⟩ hF
theorem ref22_SameWhole_ok {fuel : Nat} {a0 : Whole_} {a1 : Whole_} {y : Bool} (hF : ref22_SameWhole fuel a0 a1 = some y) {w : World} {v0 v1 : Value} :
  Spec Try.prog 26 [v0, v1].toArray w [(false, .val Whole_.rep v0 a0), (false, .val Whole_.rep v1 a1)] [] (fun v Γr Ωr Ωo => v = .bool y ∧ Γr = [] ∧ Ωr = [] ∧ Ωo = []) := by
 refine Spec.of (L := [(0, v0), (1, v1)]) Try.func26 rfl ⟨rfl, rfl, trivial⟩ rfl (fun e h => ?_)
 unfold ref22_SameWhole at hF
 refine Run.seq ?_
 refine Run.reg ?_
 refine op (OpS.boxF h rfl rfl rfl (V.at .z) (fun u1 w1 h1 => ?_))
 refine op (OpS.boxF h1 rfl rfl rfl (V.at (.s .z)) (fun u2 w2 h2 => ?_))
 refine op (OpS.as rfl rfl rfl ?_)
 refine RunL.nil ?_
 refine Run.slim [(3, u2), (2, u1)] ⟨rfl, rfl, trivial⟩ ?_
 refine Run.seq ?_
 refine Run.reg ?_
 refine op (OpS.fbox (o3 := 0) h2 (.s .z) PA.z fa51_0 rfl rfl rfl rfl ?_)
 refine op (OpS.loadBi h2 (.s .z) PA.a (Get.fld Whole_.f0) ty5 rfl rfl rfl ?_)
 refine op (OpS.fbox (o3 := 0) h2 .z PA.z fa51_0 rfl rfl rfl rfl ?_)
 refine op (OpS.loadBi h2 .z PA.a (Get.fld Whole_.f0) ty5 rfl rfl rfl ?_)
 refine op (OpS.bin rfl rfl rfl rfl rfl ?_)
 refine op (OpS.mv rfl rfl rfl ?_)
 refine RunL.caseb hF (fun e1 hF => ?_) (fun e1 hF => ?_)
 ·
  refine op (OpS.fbox (o3 := 1) h2 (.s .z) PA.z fa51_1 rfl rfl rfl rfl ?_)
  refine op (OpS.loadBb h2 (.s .z) PA.a (Get.fld Whole_.f1) ty4 rfl rfl rfl ?_)
  refine op (OpS.fbox (o3 := 1) h2 .z PA.z fa51_1 rfl rfl rfl rfl ?_)
  refine op (OpS.loadBb h2 .z PA.a (Get.fld Whole_.f1) ty4 rfl rfl rfl ?_)
  refine op (OpS.eqb Try.underlying4 rfl rfl rfl rfl ?_)
  refine op (OpS.pick rfl rfl rfl rfl ?_)
  refine op (OpS.mv rfl rfl rfl ?_)
  refine RunL.caseb hF (fun e2 hF => ?_) (fun e2 hF => ?_)
  ·
   refine op (OpS.fbox (o3 := 2) h2 (.s .z) PA.z fa51_2 rfl rfl rfl rfl ?_)
   refine op (OpS.loadBi h2 (.s .z) PA.a (Get.fld Whole_.f2) ty3 rfl rfl rfl ?_)
   refine op (OpS.fbox (o3 := 2) h2 .z PA.z fa51_2 rfl rfl rfl rfl ?_)
   refine op (OpS.loadBi h2 .z PA.a (Get.fld Whole_.f2) ty3 rfl rfl rfl ?_)
   refine op (OpS.bin rfl rfl rfl rfl rfl ?_)
   refine op (OpS.pick rfl rfl rfl rfl ?_)
   refine op (OpS.mv rfl rfl rfl ?_)
   refine RunL.caseb hF (fun e3 hF => ?_) (fun e3 hF => ?_)
   ·
    refine op (OpS.fbox (o3 := 3) h2 (.s .z) PA.z fa51_3 rfl rfl rfl rfl ?_)
    refine op (OpS.loadB h2 (.s .z) PA.a (Get.fld Whole_.f3) ty22 rfl rfl rfl (fun u3 h3 => ?_))
    refine op (OpS.fbox (o3 := 3) h3 .z PA.z fa51_3 rfl rfl rfl rfl ?_)
    refine op (OpS.loadB h3 .z PA.a (Get.fld Whole_.f3) ty22 rfl rfl rfl (fun u4 h4 => ?_))
    obtain ⟨y1, e4, hF⟩ := bindP_use hF
    refine op (OpS.callP h4 Try.func29 rfl rfl rfl rfl (vs := [u3, u4]) rfl (ref01_Same_ok e4) (.cons (f := false) (V.at (.s .z)) (.cons (f := false) (V.at .z) .nil)) ?_)
    rintro _ w3 _ _ _ ⟨rfl, rfl, rfl, rfl⟩ h5
    have h6 := h5 rfl rfl
    simp only [List.cons_append, List.nil_append] at h6
    refine op (OpS.pick rfl rfl rfl rfl ?_)
    refine op (OpS.as rfl rfl rfl ?_)
    refine RunL.nil ?_
    refine Run.slim [(4, .bool y1)] ⟨rfl, trivial⟩ ?_
    refine Run.retP rfl (.tmp rfl .nil) ?_
    cases hF
    exact Post.mk' ⟨rfl, rfl, rfl, rfl⟩ (h6.picks .nil) .nil
   ·
    refine op (OpS.pass rfl rfl rfl ?_)
    refine op (OpS.pass rfl rfl rfl ?_)
    refine op (OpS.pass rfl rfl rfl ?_)
    refine op (OpS.pass rfl rfl rfl ?_)
    refine op (OpS.pass rfl rfl rfl ?_)
    refine op (OpS.pick rfl rfl rfl rfl ?_)
    refine op (OpS.as rfl rfl rfl ?_)
    refine RunL.nil ?_
    refine Run.slim [(4, .bool false)] ⟨rfl, trivial⟩ ?_
    refine Run.retP rfl (.tmp rfl .nil) ?_
    cases hF
    exact Post.mk' ⟨rfl, rfl, rfl, rfl⟩ (h2.picks .nil) .nil
  ·
   refine op (OpS.pass rfl rfl rfl ?_)
   refine op (OpS.pass rfl rfl rfl ?_)
   refine op (OpS.pass rfl rfl rfl ?_)
   refine op (OpS.pass rfl rfl rfl ?_)
   refine op (OpS.pass rfl rfl rfl ?_)
   refine op (OpS.pick rfl rfl rfl rfl ?_)
   refine op (OpS.mv rfl rfl rfl ?_)
   refine op (OpS.pass rfl rfl rfl ?_)
   refine op (OpS.pass rfl rfl rfl ?_)
   refine op (OpS.pass rfl rfl rfl ?_)
   refine op (OpS.pass rfl rfl rfl ?_)
   refine op (OpS.pass rfl rfl rfl ?_)
   refine op (OpS.pick rfl rfl rfl rfl ?_)
   refine op (OpS.as rfl rfl rfl ?_)
   refine RunL.nil ?_
   refine Run.slim [(4, .bool false)] ⟨rfl, trivial⟩ ?_
   refine Run.retP rfl (.tmp rfl .nil) ?_
   cases hF
   exact Post.mk' ⟨rfl, rfl, rfl, rfl⟩ (h2.picks .nil) .nil
 ·
  refine op (OpS.pass rfl rfl rfl ?_)
  refine op (OpS.pass rfl rfl rfl ?_)
  refine op (OpS.pass rfl rfl rfl ?_)
  refine op (OpS.pass rfl rfl rfl ?_)
  refine op (OpS.pass rfl rfl rfl ?_)
  refine op (OpS.pick rfl rfl rfl rfl ?_)
  refine op (OpS.mv rfl rfl rfl ?_)
  refine op (OpS.pass rfl rfl rfl ?_)
  refine op (OpS.pass rfl rfl rfl ?_)
  refine op (OpS.pass rfl rfl rfl ?_)
  refine op (OpS.pass rfl rfl rfl ?_)
  refine op (OpS.pass rfl rfl rfl ?_)
  refine op (OpS.pick rfl rfl rfl rfl ?_)
  refine op (OpS.mv rfl rfl rfl ?_)
  refine op (OpS.pass rfl rfl rfl ?_)
  refine op (OpS.pass rfl rfl rfl ?_)
  refine op (OpS.pass rfl rfl rfl ?_)
  refine op (OpS.pass rfl rfl rfl ?_)
  refine op (OpS.pass rfl rfl rfl ?_)
  refine op (OpS.pick rfl rfl rfl rfl ?_)
  refine op (OpS.as rfl rfl rfl ?_)
  refine RunL.nil ?_
  refine Run.slim [(4, .bool false)] ⟨rfl, trivial⟩ ?_
  refine Run.retP rfl (.tmp rfl .nil) ?_
  cases hF
  exact Post.mk' ⟨rfl, rfl, rfl, rfl⟩ (h2.picks .nil) .nil
end Lift
