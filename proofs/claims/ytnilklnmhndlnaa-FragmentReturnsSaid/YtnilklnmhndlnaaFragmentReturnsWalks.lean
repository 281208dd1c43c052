/- Each Go function computes its plain function. Written by lift.py. -/
import Derived.Test.YtnilklnmhndlnaaFragmentReturnsWalksA
set_option linter.unusedVariables false
set_option linter.unusedSimpArgs false
namespace Lift
open Go Go.Proofs
open RunL (op)
set_option maxHeartbeats 8000000 in
theorem law22_awake_ok {fuel : Nat}  {y : Bool} (hF : law22_awake fuel  = some y) {w : World} :
  Spec Try.prog 11 [].toArray w [] [] (fun v Γr Ωr Ωo => v = .bool y ∧ Γr = [] ∧ Ωr = [] ∧ Ωo = []) := by
 refine Spec.of (L := []) Try.func11 rfl trivial rfl (fun e h => ?_)
 unfold law22_awake at hF
 refine Run.seq ?_
 refine Run.reg ?_
 refine op (OpS.as rfl rfl rfl ?_)
 refine RunL.nil ?_
 refine Run.slim [] trivial ?_
 refine Run.seq ?_
 refine Run.reg ?_
 refine op (OpS.lit (r := (Rep.int .u8)) (f := true) h Try.underlying22 ti5 rfl rfl rfl rfl rfl (.cons rfl V.int (.cons rfl V.int (.cons rfl V.int (.cons rfl V.int (.cons rfl V.int .nil))))) rfl rfl (fun u1 w1 h1 => ?_))
 obtain ⟨y1, e1, hF⟩ := bindP_use hF
 have h2 := h1.front .nil
 refine op (OpS.callO h2 Try.func13 rfl rfl rfl rfl (vs := [.int .u8 9, .int .u8 10, .bool true, .int .i64 1, .int .i64 2, u1]) rfl (fragment_Split_ok e1) rfl (.cons (f := true) (V.at .z) .nil) ?_)
 rintro _ w2 _ _ _ ⟨u2, rfl, rfl, rfl, rfl⟩ h3
 have h4 := h3
 simp only [List.cons_append, List.nil_append] at h4
 refine op (OpS.mv rfl rfl rfl ?_)
 refine op (OpS.ext rfl rfl rfl rfl ?_)
 refine op (OpS.ext rfl rfl rfl rfl ?_)
 refine op (OpS.as rfl rfl rfl ?_)
 have h5 := (h4.pick .z).freeze
 refine op (OpS.as rfl rfl rfl ?_)
 refine RunL.nil ?_
 refine Run.slim [(2, .int .i64 y1.2), (1, u2)] ⟨rfl, rfl, trivial⟩ ?_
 refine Run.seq ?_
 refine Run.reg ?_
 obtain ⟨y2, e2, hF⟩ := bindP_use hF
 refine op (OpS.callP h5 Try.func17 rfl rfl rfl rfl (vs := [.int .u8 9]) rfl (fragment_New_ok e2) .nil ?_)
 rintro _ w3 _ _ _ ⟨u3, rfl, rfl, rfl, rfl⟩ h6
 have h7 := h6 rfl rfl
 simp only [List.cons_append, List.nil_append] at h7
 refine op (OpS.mv rfl rfl rfl ?_)
 refine op (OpS.ext rfl rfl rfl rfl ?_)
 refine op (OpS.ext rfl rfl rfl rfl ?_)
 refine op (OpS.as rfl rfl rfl ?_)
 refine op (OpS.as rfl rfl rfl ?_)
 refine RunL.nil ?_
 refine Run.slim [(4, .int .i64 y2.2), (3, u3), (2, .int .i64 y1.2), (1, u2)] ⟨rfl, rfl, rfl, rfl, trivial⟩ ?_
 refine Run.seq ?_
 refine Run.seq ?_
 refine Run.reg ?_
 refine op (OpS.mv rfl rfl rfl ?_)
 refine op (OpS.bin rfl rfl rfl rfl rfl ?_)
 refine op (OpS.mv rfl rfl rfl ?_)
 refine RunL.join (σ := Bool) (fun s_ L_ w_ => L_ = [(1, u2), (3, u3), (49, .bool s_)] ∧ St e w_ [(false, .val (Rep.slice Packet_.rep) u2 y1.1)] [(true, .opt (fun x_ => .ex fun v_ => .sep (.box 83 (Rep.iso (fun s : fragment_Assembler => (s.own, s.open_, ())) (Rep.prod (Rep.int .u8) (Rep.prod (Rep.raw (α := List fragment_open) v_) Rep.unit))) u3 x_) (.oval (oslice 92 6 (fun _ => fragment_open.orep)) v_ x_.open_)) u3 y2.1)]) hF (fun s1 _ w4 hI hF => ?_) (fun j1 hj1 hF => ?_)
 ·
  obtain ⟨rfl, h8⟩ := hI
  refine Run.ite rfl hF (fun e3 hF => ?_) (fun e3 hF => ?_)
  ·
   refine Run.seq ?_
   refine Run.reg ?_
   refine op (OpS.as rfl rfl rfl ?_)
   refine RunL.nil ?_
   refine Run.slim [(0, .bool false)] ⟨rfl, trivial⟩ ?_
   refine Run.retP rfl (.tmp rfl .nil) ?_
   cases hF
   exact Post.mk' ⟨rfl, rfl, rfl, rfl⟩ (h8.picks .nil) .nil
  ·
   refine Run.skip ?_
   refine Run.seq ?_
   refine Run.reg ?_
   refine op (OpS.mv rfl rfl rfl ?_)
   refine op (OpS.mv rfl rfl rfl ?_)
   obtain ⟨x1, e4, hF⟩ := bindP_use hF
   refine op (OpS.iptr h8 Try.underlying27 ty44 rfl rfl rfl rfl (V.at .z) e4 (fun u4 h9 => ?_))
   refine op (OpS.load h9 ty44 rfl rfl rfl .z (fun u5 h10 => ?_))
   obtain ⟨x2, e5, hF⟩ := bindP_use hF
   have h11 := St.unopt (h10.pick .z) e5
   obtain ⟨u6, h12⟩ := h11.unex
   have h13 := h12.unsep
   obtain ⟨y3, e6, hF⟩ := bindP_use hF
   have h14 := (h13.pick .z).weak
   have h15 := (h14.pick (.s .z)).weak
   have h16 := h15.front (.cons (.s .z) (.cons .z .nil))
   refine op (OpS.callO h16 Try.func24 rfl rfl rfl rfl (vs := [u3, u5]) rfl (fragment_Assembler_Accept_ok e6) rfl (.cons (f := false) (V.at .z) .nil) ?_)
   rintro _ w5 _ _ _ ⟨u7, u8, rfl, rfl, rfl, rfl⟩ h17
   have h18 := h17
   simp only [List.cons_append, List.nil_append] at h18
   refine op (OpS.mv rfl rfl rfl ?_)
   refine op (OpS.ext rfl rfl rfl rfl ?_)
   refine op (OpS.ext rfl rfl rfl rfl ?_)
   refine op (OpS.ext rfl rfl rfl rfl ?_)
   refine op (OpS.alloc h18 ti51 Whole_.zr rfl rfl (fun u9 w6 h19 => ?_))
   have h20 := (h19.pick .z).weak
   refine op (OpS.storeB (f' := false) h20 .z PA.z Put.id ty51 rfl rfl rfl (V.at .z) (.inr rfl) (fun w7 h21 => ?_))
   refine op (OpS.as rfl rfl rfl ?_)
   refine op (OpS.as rfl rfl rfl ?_)
   refine RunL.nil ?_
   refine Run.slim [(7, .int .i64 y3.2.2.1), (6, .bool y3.2.1), (1, u2), (3, u3)] ⟨rfl, rfl, rfl, rfl, trivial⟩ ?_
   refine Run.seq ?_
   refine Run.reg ?_
   refine op (OpS.mv rfl rfl rfl ?_)
   refine op (OpS.mv rfl rfl rfl ?_)
   obtain ⟨x3, e7, hF⟩ := bindP_use hF
   refine op (OpS.iptr h21 Try.underlying27 ty44 rfl rfl rfl rfl (V.at (.s (.s (.s .z)))) e7 (fun u10 h22 => ?_))
   refine op (OpS.load h22 ty44 rfl rfl rfl .z (fun u11 h23 => ?_))
   obtain ⟨y4, e8, hF⟩ := bindP_use hF
   have h24 := h23.front (.cons (.s .z) (.cons (.s .z) .nil))
   refine op (OpS.callO h24 Try.func24 rfl rfl rfl rfl (vs := [u3, u11]) rfl (fragment_Assembler_Accept_ok e8) rfl (.cons (f := false) (V.at .z) .nil) ?_)
   rintro _ w8 _ _ _ ⟨u12, u13, rfl, rfl, rfl, rfl⟩ h25
   have h26 := h25
   simp only [List.cons_append, List.nil_append] at h26
   refine op (OpS.mv rfl rfl rfl ?_)
   refine op (OpS.ext rfl rfl rfl rfl ?_)
   refine op (OpS.ext rfl rfl rfl rfl ?_)
   refine op (OpS.ext rfl rfl rfl rfl ?_)
   refine op (OpS.alloc h26 ti51 Whole_.zr rfl rfl (fun u14 w9 h27 => ?_))
   have h28 := (h27.pick .z).weak
   refine op (OpS.storeB (f' := false) h28 .z PA.z Put.id ty51 rfl rfl rfl (V.at .z) (.inr rfl) (fun w10 h29 => ?_))
   refine op (OpS.as rfl rfl rfl ?_)
   refine op (OpS.as rfl rfl rfl ?_)
   refine RunL.nil ?_
   refine Run.slim [(10, .int .i64 y4.2.2.1), (9, .bool y4.2.1), (7, .int .i64 y3.2.2.1), (6, .bool y3.2.1), (3, u3)] ⟨rfl, rfl, rfl, rfl, rfl, trivial⟩ ?_
   refine Run.seq ?_
   refine Run.reg ?_
   refine op (OpS.mv rfl rfl rfl ?_)
   refine op (OpS.bin rfl rfl rfl rfl rfl ?_)
   refine op (OpS.mv rfl rfl rfl ?_)
   refine RunL.caseb hF (fun e9 hF => ?_) (fun e9 hF => ?_)
   ·
    refine op (OpS.mv rfl rfl rfl ?_)
    refine op (OpS.not rfl rfl rfl ?_)
    refine op (OpS.pick rfl rfl rfl rfl ?_)
    refine op (OpS.mv rfl rfl rfl ?_)
    refine RunL.caseb hF (fun e10 hF => ?_) (fun e10 hF => ?_)
    ·
     refine op (OpS.mv rfl rfl rfl ?_)
     refine op (OpS.bin rfl rfl rfl rfl rfl ?_)
     refine op (OpS.pick rfl rfl rfl rfl ?_)
     refine op (OpS.mv rfl rfl rfl ?_)
     refine RunL.caseb hF (fun e11 hF => ?_) (fun e11 hF => ?_)
     ·
      refine op (OpS.mv rfl rfl rfl ?_)
      refine op (OpS.not rfl rfl rfl ?_)
      refine op (OpS.pick rfl rfl rfl rfl ?_)
      refine op (OpS.mv rfl rfl rfl ?_)
      refine RunL.caseb hF (fun e12 hF => ?_) (fun e12 hF => ?_)
      ·
       refine op (OpS.mv rfl rfl rfl ?_)
       obtain ⟨y5, e13, hF⟩ := bindP_use hF
       have h30 := h29.front (.cons (.s .z) (.cons (.s .z) .nil))
       refine op (OpS.callO h30 Try.func27 rfl rfl rfl rfl (vs := [u3]) rfl (fragment_Assembler_Open_ok e13) rfl .nil ?_)
       rintro _ w11 _ _ _ ⟨rfl, rfl, rfl, rfl⟩ h31
       have h32 := h31
       simp only [List.cons_append, List.nil_append] at h32
       refine op (OpS.bin rfl rfl rfl rfl rfl ?_)
       refine op (OpS.pick rfl rfl rfl rfl ?_)
       refine op (OpS.as rfl rfl rfl ?_)
       obtain ⟨x4, e14, hF⟩ := letP_use hF
       refine RunL.nameb e14 ?_
       refine RunL.nil ?_
       refine Run.slim [(0, .bool x4)] ⟨rfl, trivial⟩ ?_
       refine Run.retP rfl (.tmp rfl .nil) ?_
       cases hF
       exact Post.mk' ⟨rfl, rfl, rfl, rfl⟩ (h32.picks .nil) .nil
      ·
       refine op (OpS.pass rfl rfl rfl ?_)
       refine op (OpS.pass rfl rfl rfl ?_)
       refine op (OpS.pass rfl rfl rfl ?_)
       refine op (OpS.pick rfl rfl rfl rfl ?_)
       refine op (OpS.as rfl rfl rfl ?_)
       refine RunL.nil ?_
       refine Run.slim [(0, .bool false)] ⟨rfl, trivial⟩ ?_
       refine Run.retP rfl (.tmp rfl .nil) ?_
       cases hF
       exact Post.mk' ⟨rfl, rfl, rfl, rfl⟩ (h29.picks .nil) .nil
     ·
      refine op (OpS.pass rfl rfl rfl ?_)
      refine op (OpS.pass rfl rfl rfl ?_)
      refine op (OpS.pick rfl rfl rfl rfl ?_)
      refine op (OpS.mv rfl rfl rfl ?_)
      refine op (OpS.pass rfl rfl rfl ?_)
      refine op (OpS.pass rfl rfl rfl ?_)
      refine op (OpS.pass rfl rfl rfl ?_)
      refine op (OpS.pick rfl rfl rfl rfl ?_)
      refine op (OpS.as rfl rfl rfl ?_)
      refine RunL.nil ?_
      refine Run.slim [(0, .bool false)] ⟨rfl, trivial⟩ ?_
      refine Run.retP rfl (.tmp rfl .nil) ?_
      cases hF
      exact Post.mk' ⟨rfl, rfl, rfl, rfl⟩ (h29.picks .nil) .nil
    ·
     refine op (OpS.pass rfl rfl rfl ?_)
     refine op (OpS.pass rfl rfl rfl ?_)
     refine op (OpS.pick rfl rfl rfl rfl ?_)
     refine op (OpS.mv rfl rfl rfl ?_)
     refine op (OpS.pass rfl rfl rfl ?_)
     refine op (OpS.pass rfl rfl rfl ?_)
     refine op (OpS.pick rfl rfl rfl rfl ?_)
     refine op (OpS.mv rfl rfl rfl ?_)
     refine op (OpS.pass rfl rfl rfl ?_)
     refine op (OpS.pass rfl rfl rfl ?_)
     refine op (OpS.pass rfl rfl rfl ?_)
     refine op (OpS.pick rfl rfl rfl rfl ?_)
     refine op (OpS.as rfl rfl rfl ?_)
     refine RunL.nil ?_
     refine Run.slim [(0, .bool false)] ⟨rfl, trivial⟩ ?_
     refine Run.retP rfl (.tmp rfl .nil) ?_
     cases hF
     exact Post.mk' ⟨rfl, rfl, rfl, rfl⟩ (h29.picks .nil) .nil
   ·
    refine op (OpS.pass rfl rfl rfl ?_)
    refine op (OpS.pass rfl rfl rfl ?_)
    refine op (OpS.pick rfl rfl rfl rfl ?_)
    refine op (OpS.mv rfl rfl rfl ?_)
    refine op (OpS.pass rfl rfl rfl ?_)
    refine op (OpS.pass rfl rfl rfl ?_)
    refine op (OpS.pick rfl rfl rfl rfl ?_)
    refine op (OpS.mv rfl rfl rfl ?_)
    refine op (OpS.pass rfl rfl rfl ?_)
    refine op (OpS.pass rfl rfl rfl ?_)
    refine op (OpS.pick rfl rfl rfl rfl ?_)
    refine op (OpS.mv rfl rfl rfl ?_)
    refine op (OpS.pass rfl rfl rfl ?_)
    refine op (OpS.pass rfl rfl rfl ?_)
    refine op (OpS.pass rfl rfl rfl ?_)
    refine op (OpS.pick rfl rfl rfl rfl ?_)
    refine op (OpS.as rfl rfl rfl ?_)
    refine RunL.nil ?_
    refine Run.slim [(0, .bool false)] ⟨rfl, trivial⟩ ?_
    refine Run.retP rfl (.tmp rfl .nil) ?_
    cases hF
    exact Post.mk' ⟨rfl, rfl, rfl, rfl⟩ (h29.picks .nil) .nil
 ·
  refine RunL.caseb hF (fun e15 hF => ?_) (fun e15 hF => ?_)
  ·
   refine op (OpS.pass rfl rfl rfl ?_)
   refine op (OpS.pass rfl rfl rfl ?_)
   refine op (OpS.pick rfl rfl rfl rfl ?_)
   refine op (OpS.mv rfl rfl rfl ?_)
   refine op (OpS.pass rfl rfl rfl ?_)
   refine op (OpS.pass rfl rfl rfl ?_)
   refine op (OpS.pick rfl rfl rfl rfl ?_)
   refine op (OpS.mv rfl rfl rfl ?_)
   refine op (OpS.pass rfl rfl rfl ?_)
   refine op (OpS.pass rfl rfl rfl ?_)
   refine op (OpS.pass rfl rfl rfl ?_)
   refine op (OpS.pick rfl rfl rfl rfl ?_)
   refine op (OpS.mv rfl rfl rfl ?_)
   refine op (OpS.pass rfl rfl rfl ?_)
   refine op (OpS.pass rfl rfl rfl ?_)
   refine op (OpS.pass rfl rfl rfl ?_)
   refine op (OpS.pass rfl rfl rfl ?_)
   refine op (OpS.pass rfl rfl rfl ?_)
   refine op (OpS.pass rfl rfl rfl ?_)
   refine op (OpS.pick rfl rfl rfl rfl ?_)
   refine op (OpS.mv rfl rfl rfl ?_)
   refine op (OpS.pass rfl rfl rfl ?_)
   refine op (OpS.pass rfl rfl rfl ?_)
   refine op (OpS.pass rfl rfl rfl ?_)
   refine op (OpS.pass rfl rfl rfl ?_)
   refine op (OpS.pass rfl rfl rfl ?_)
   refine op (OpS.pick rfl rfl rfl rfl ?_)
   refine RunL.nil ?_
   refine Run.slim [(49, .bool true), (3, u3), (1, u2)] ⟨rfl, rfl, rfl, trivial⟩ ?_
   refine Run.slim [(1, u2), (3, u3), (49, .bool true)] ⟨rfl, rfl, rfl, trivial⟩ ?_
   exact hj1 (true) _ _ ⟨rfl, (h7.facts (.atm .z .nil)).picks (.cons .z .nil)⟩ hF
  ·
   refine op (OpS.mv rfl rfl rfl ?_)
   refine op (OpS.bin rfl rfl rfl rfl rfl ?_)
   refine op (OpS.pick rfl rfl rfl rfl ?_)
   refine op (OpS.mv rfl rfl rfl ?_)
   refine RunL.caseb hF (fun e16 hF => ?_) (fun e16 hF => ?_)
   ·
    refine op (OpS.pass rfl rfl rfl ?_)
    refine op (OpS.pass rfl rfl rfl ?_)
    refine op (OpS.pick rfl rfl rfl rfl ?_)
    refine op (OpS.mv rfl rfl rfl ?_)
    refine op (OpS.pass rfl rfl rfl ?_)
    refine op (OpS.pass rfl rfl rfl ?_)
    refine op (OpS.pass rfl rfl rfl ?_)
    refine op (OpS.pick rfl rfl rfl rfl ?_)
    refine op (OpS.mv rfl rfl rfl ?_)
    refine op (OpS.pass rfl rfl rfl ?_)
    refine op (OpS.pass rfl rfl rfl ?_)
    refine op (OpS.pass rfl rfl rfl ?_)
    refine op (OpS.pass rfl rfl rfl ?_)
    refine op (OpS.pass rfl rfl rfl ?_)
    refine op (OpS.pass rfl rfl rfl ?_)
    refine op (OpS.pick rfl rfl rfl rfl ?_)
    refine op (OpS.mv rfl rfl rfl ?_)
    refine op (OpS.pass rfl rfl rfl ?_)
    refine op (OpS.pass rfl rfl rfl ?_)
    refine op (OpS.pass rfl rfl rfl ?_)
    refine op (OpS.pass rfl rfl rfl ?_)
    refine op (OpS.pass rfl rfl rfl ?_)
    refine op (OpS.pick rfl rfl rfl rfl ?_)
    refine RunL.nil ?_
    refine Run.slim [(49, .bool true), (3, u3), (1, u2)] ⟨rfl, rfl, rfl, trivial⟩ ?_
    refine Run.slim [(1, u2), (3, u3), (49, .bool true)] ⟨rfl, rfl, rfl, trivial⟩ ?_
    exact hj1 (true) _ _ ⟨rfl, (h7.facts (.atm .z .nil)).picks (.cons .z .nil)⟩ hF
   ·
    refine op (OpS.mv rfl rfl rfl ?_)
    refine op (OpS.onilE h7 .z (fun _ G_ S_ w_ h_ => ptr_one1 G_ S_ w_ h_) Try.underlying35 rfl rfl rfl rfl ?_)
    refine op (OpS.pick rfl rfl rfl rfl ?_)
    refine op (OpS.mv rfl rfl rfl ?_)
    refine RunL.caseb hF (fun e17 hF => ?_) (fun e17 hF => ?_)
    ·
     refine op (OpS.pass rfl rfl rfl ?_)
     refine op (OpS.pass rfl rfl rfl ?_)
     refine op (OpS.pass rfl rfl rfl ?_)
     refine op (OpS.pick rfl rfl rfl rfl ?_)
     refine op (OpS.mv rfl rfl rfl ?_)
     refine op (OpS.pass rfl rfl rfl ?_)
     refine op (OpS.pass rfl rfl rfl ?_)
     refine op (OpS.pass rfl rfl rfl ?_)
     refine op (OpS.pass rfl rfl rfl ?_)
     refine op (OpS.pass rfl rfl rfl ?_)
     refine op (OpS.pass rfl rfl rfl ?_)
     refine op (OpS.pick rfl rfl rfl rfl ?_)
     refine op (OpS.mv rfl rfl rfl ?_)
     refine op (OpS.pass rfl rfl rfl ?_)
     refine op (OpS.pass rfl rfl rfl ?_)
     refine op (OpS.pass rfl rfl rfl ?_)
     refine op (OpS.pass rfl rfl rfl ?_)
     refine op (OpS.pass rfl rfl rfl ?_)
     refine op (OpS.pick rfl rfl rfl rfl ?_)
     refine RunL.nil ?_
     refine Run.slim [(49, .bool true), (3, u3), (1, u2)] ⟨rfl, rfl, rfl, trivial⟩ ?_
     refine Run.slim [(1, u2), (3, u3), (49, .bool true)] ⟨rfl, rfl, rfl, trivial⟩ ?_
     exact hj1 (true) _ _ ⟨rfl, (h7.facts (.atm .z .nil)).picks (.cons .z .nil)⟩ hF
    ·
     refine op (OpS.mv rfl rfl rfl ?_)
     refine op (OpS.len h7 Try.underlying27 rfl rfl rfl (V.at .z) ?_)
     refine op (OpS.bin rfl rfl rfl rfl rfl ?_)
     refine op (OpS.pick rfl rfl rfl rfl ?_)
     refine op (OpS.mv rfl rfl rfl ?_)
     refine RunL.caseb hF (fun e18 hF => ?_) (fun e18 hF => ?_)
     ·
      refine op (OpS.pass rfl rfl rfl ?_)
      refine op (OpS.pass rfl rfl rfl ?_)
      refine op (OpS.pass rfl rfl rfl ?_)
      refine op (OpS.pass rfl rfl rfl ?_)
      refine op (OpS.pass rfl rfl rfl ?_)
      refine op (OpS.pass rfl rfl rfl ?_)
      refine op (OpS.pick rfl rfl rfl rfl ?_)
      refine op (OpS.mv rfl rfl rfl ?_)
      refine op (OpS.pass rfl rfl rfl ?_)
      refine op (OpS.pass rfl rfl rfl ?_)
      refine op (OpS.pass rfl rfl rfl ?_)
      refine op (OpS.pass rfl rfl rfl ?_)
      refine op (OpS.pass rfl rfl rfl ?_)
      refine op (OpS.pick rfl rfl rfl rfl ?_)
      refine RunL.nil ?_
      refine Run.slim [(49, .bool true), (3, u3), (1, u2)] ⟨rfl, rfl, rfl, trivial⟩ ?_
      refine Run.slim [(1, u2), (3, u3), (49, .bool true)] ⟨rfl, rfl, rfl, trivial⟩ ?_
      exact hj1 (true) _ _ ⟨rfl, (h7.facts (.atm .z .nil)).picks (.cons .z .nil)⟩ hF
     ·
      refine op (OpS.mv rfl rfl rfl ?_)
      obtain ⟨x5, e19, hF⟩ := bindP_use hF
      refine op (OpS.iptr h7 Try.underlying27 ty44 rfl rfl rfl rfl (V.at .z) e19 (fun u15 h33 => ?_))
      refine op (OpS.fptr h33 fa44_7 Packet_.f7 rfl rfl rfl .z (fun u16 h34 => ?_))
      refine op (OpS.load h34 ty22 rfl rfl rfl .z (fun u17 h35 => ?_))
      refine op (OpS.len h35 Try.underlying22 rfl rfl rfl (V.at .z) ?_)
      refine op (OpS.bin rfl rfl rfl rfl rfl ?_)
      refine op (OpS.pick rfl rfl rfl rfl ?_)
      refine op (OpS.mv rfl rfl rfl ?_)
      refine RunL.caseb hF (fun e20 hF => ?_) (fun e20 hF => ?_)
      ·
       refine op (OpS.pass rfl rfl rfl ?_)
       refine op (OpS.pass rfl rfl rfl ?_)
       refine op (OpS.pass rfl rfl rfl ?_)
       refine op (OpS.pass rfl rfl rfl ?_)
       refine op (OpS.pass rfl rfl rfl ?_)
       refine op (OpS.pick rfl rfl rfl rfl ?_)
       refine RunL.nil ?_
       refine Run.slim [(49, .bool true), (3, u3), (1, u2)] ⟨rfl, rfl, rfl, trivial⟩ ?_
       refine Run.slim [(1, u2), (3, u3), (49, .bool true)] ⟨rfl, rfl, rfl, trivial⟩ ?_
       exact hj1 (true) _ _ ⟨rfl, (h35.facts (.atm (.s (.s (.s .z))) .nil)).picks (.cons .z .nil)⟩ hF
      ·
       refine op (OpS.mv rfl rfl rfl ?_)
       obtain ⟨x6, e21, hF⟩ := bindP_use hF
       refine op (OpS.iptr h35 Try.underlying27 ty44 rfl rfl rfl rfl (V.at (.s (.s (.s .z)))) e21 (fun u18 h36 => ?_))
       refine op (OpS.fptr h36 fa44_4 Packet_.f4 rfl rfl rfl .z (fun u19 h37 => ?_))
       refine op (OpS.loadi h37 ty3 rfl rfl rfl .z ?_)
       refine op (OpS.bin rfl rfl rfl rfl rfl ?_)
       refine op (OpS.pick rfl rfl rfl rfl ?_)
       refine RunL.nil ?_
       refine Run.slim [(49, .bool (x6.Sequence != 2)), (3, u3), (1, u2)] ⟨rfl, rfl, rfl, trivial⟩ ?_
       refine Run.slim [(1, u2), (3, u3), (49, .bool (x6.Sequence != 2))] ⟨rfl, rfl, rfl, trivial⟩ ?_
       exact hj1 (x6.Sequence != 2) _ _ ⟨rfl, (h37.facts (.atm (.s (.s (.s (.s (.s .z))))) .nil)).picks (.cons .z .nil)⟩ hF
theorem made_Mod_ok {fuel : Nat} {a0 : Int} {a1 : Int} {y : Int} (hF : made_Mod fuel a0 a1 = some y) {w : World} :
  Spec Try.prog 12 [.int .i64 a0, .int .i64 a1].toArray w [] [] (fun v Γr Ωr Ωo => v = .int .i64 y ∧ Γr = [] ∧ Ωr = [] ∧ Ωo = []) := by
 refine Spec.of (L := [(0, .int .i64 a0), (1, .int .i64 a1)]) Try.func12 rfl ⟨rfl, rfl, trivial⟩ rfl (fun e h => ?_)
 unfold made_Mod at hF
 refine Run.seq ?_
 refine Run.reg ?_
 refine op (OpS.as rfl rfl rfl ?_)
 refine RunL.nil ?_
 refine Run.slim [(0, .int .i64 a0), (1, .int .i64 a1)] ⟨rfl, rfl, trivial⟩ ?_
 refine Run.seq ?_
 refine Run.reg ?_
 refine op (OpS.mv rfl rfl rfl ?_)
 refine op (OpS.mv rfl rfl rfl ?_)
 obtain ⟨e1, hF⟩ := chk_use hF
 refine op (OpS.rem rfl rfl rfl rfl e1 ?_)
 refine op (OpS.as rfl rfl rfl ?_)
 refine RunL.nil ?_
 refine Run.slim [(0, .int .i64 (Int.tmod a0 a1)), (1, .int .i64 a1)] ⟨rfl, rfl, trivial⟩ ?_
 refine Run.seq ?_
 refine Run.seq ?_
 refine Run.reg ?_
 refine op (OpS.mv rfl rfl rfl ?_)
 refine op (OpS.bin rfl rfl rfl rfl rfl ?_)
 refine RunL.nil ?_
 refine Run.slim [(9, .bool (decide ((Int.tmod a0 a1) < 0))), (0, .int .i64 (Int.tmod a0 a1)), (1, .int .i64 a1)] ⟨rfl, rfl, rfl, trivial⟩ ?_
 refine Run.ite rfl hF (fun e2 hF => ?_) (fun e2 hF => ?_)
 ·
  refine Run.reg ?_
  refine op (OpS.mv rfl rfl rfl ?_)
  refine op (OpS.mv rfl rfl rfl ?_)
  refine op (OpS.bin rfl rfl rfl rfl rfl ?_)
  refine op (OpS.as rfl rfl rfl ?_)
  obtain ⟨x1, e3, hF⟩ := letP_use hF
  refine RunL.name e3 ?_
  refine RunL.nil ?_
  refine Run.slim [(0, .int .i64 x1)] ⟨rfl, trivial⟩ ?_
  refine Run.seq ?_
  refine Run.reg ?_
  refine op (OpS.mv rfl rfl rfl ?_)
  refine op (OpS.as rfl rfl rfl ?_)
  refine RunL.nil ?_
  refine Run.slim [(4, .int .i64 x1)] ⟨rfl, trivial⟩ ?_
  refine Run.retP rfl (.tmp rfl .nil) ?_
  cases hF
  exact Post.mk' ⟨rfl, rfl, rfl, rfl⟩ (h.picks .nil) .nil
 ·
  refine Run.skip ?_
  refine Run.seq ?_
  refine Run.reg ?_
  refine op (OpS.mv rfl rfl rfl ?_)
  refine op (OpS.as rfl rfl rfl ?_)
  refine RunL.nil ?_
  refine Run.slim [(4, .int .i64 (Int.tmod a0 a1))] ⟨rfl, trivial⟩ ?_
  refine Run.retP rfl (.tmp rfl .nil) ?_
  cases hF
  exact Post.mk' ⟨rfl, rfl, rfl, rfl⟩ (h.picks .nil) .nil
theorem ref01_Same_ok {fuel : Nat} {a0 : List Int} {a1 : List Int} {y : Bool} (hF : ref01_Same fuel a0 a1 = some y) {w : World} {v0 v1 : Value} :
  Spec Try.prog 29 [v0, v1].toArray w [(false, .val (Rep.slice (Rep.int .u8)) v0 a0), (false, .val (Rep.slice (Rep.int .u8)) v1 a1)] [] (fun v Γr Ωr Ωo => v = .bool y ∧ Γr = [] ∧ Ωr = [] ∧ Ωo = []) := by
 refine Spec.of (L := [(0, v0), (1, v1)]) Try.func29 rfl ⟨rfl, rfl, trivial⟩ rfl (fun e h => ?_)
 unfold ref01_Same at hF
 refine Run.seq ?_
 refine Run.reg ?_
 refine op (OpS.as rfl rfl rfl ?_)
 refine RunL.nil ?_
 refine Run.slim [(0, v0), (1, v1)] ⟨rfl, rfl, trivial⟩ ?_
 refine Run.seq ?_
 refine Run.seq ?_
 refine Run.reg ?_
 refine op (OpS.mv rfl rfl rfl ?_)
 refine op (OpS.len h Try.underlying22 rfl rfl rfl (V.at .z) ?_)
 refine op (OpS.mv rfl rfl rfl ?_)
 refine op (OpS.len h Try.underlying22 rfl rfl rfl (V.at (.s .z)) ?_)
 refine op (OpS.bin rfl rfl rfl rfl rfl ?_)
 refine RunL.nil ?_
 refine Run.slim [(10, .bool ((a0.length : Int) != (a1.length : Int))), (0, v0), (1, v1)] ⟨rfl, rfl, rfl, trivial⟩ ?_
 refine Run.ite rfl hF (fun e1 hF => ?_) (fun e1 hF => ?_)
 ·
  refine Run.seq ?_
  refine Run.reg ?_
  refine op (OpS.as rfl rfl rfl ?_)
  refine RunL.nil ?_
  refine Run.slim [(4, .bool false)] ⟨rfl, trivial⟩ ?_
  refine Run.retP rfl (.tmp rfl .nil) ?_
  cases hF
  exact Post.mk' ⟨rfl, rfl, rfl, rfl⟩ (h.picks .nil) .nil
 ·
  refine Run.skip ?_
  refine Run.seq ?_
  refine Run.seq ?_
  refine Run.reg ?_
  refine op (OpS.as rfl rfl rfl ?_)
  refine RunL.nil ?_
  refine Run.slim [(5, .int .i64 0), (0, v0), (1, v1)] ⟨rfl, rfl, rfl, trivial⟩ ?_
  refine Run.block ?_
  refine Run.slim [(0, v0), (1, v1), (5, .int .i64 0)] ⟨rfl, rfl, rfl, trivial⟩ ?_
  refine Run.loopP (σ := Int) (fun s_ L_ w_ => L_ = [(0, v0), (1, v1), (5, .int .i64 s_)] ∧ St e w_ [(false, .val (Rep.slice (Rep.int .u8)) v0 a0), (false, .val (Rep.slice (Rep.int .u8)) v1 a1)] []) hF ⟨rfl, (h.facts (.atm .z (.atm (.s .z) .nil))).picks .nil⟩ (fun k1 hk1 s1 _ w1 hI hF => ?_)
  obtain ⟨rfl, h1⟩ := hI
  refine Run.seq ?_
  refine Run.seq ?_
  refine Run.reg ?_
  refine op (OpS.mv rfl rfl rfl ?_)
  refine op (OpS.mv rfl rfl rfl ?_)
  refine op (OpS.len h1 Try.underlying22 rfl rfl rfl (V.at .z) ?_)
  refine op (OpS.bin rfl rfl rfl rfl rfl ?_)
  refine RunL.nil ?_
  refine Run.slim [(14, .bool (decide (s1 < (a0.length : Int)))), (0, v0), (1, v1), (5, .int .i64 s1)] ⟨rfl, rfl, rfl, rfl, trivial⟩ ?_
  refine Run.ite rfl hF (fun e2 hF => ?_) (fun e2 hF => ?_)
  ·
   refine Run.skip ?_
   refine Run.seq ?_
   refine Run.block ?_
   refine Run.seq ?_
   obtain ⟨x1, e3, hF⟩ := bindP_use hF
   obtain ⟨x2, e4, hF⟩ := bindP_use hF
   refine Run.drawV (Ωs := []) [⟨some 17, some (v0), fun _ => [], fun ds_ u_ => [], [], [], none⟩, ⟨some 18, some (.int .i64 s1), fun _ => [], fun ds_ u_ => [], [], [], none⟩, ⟨some 19, none, fun u_ => [(false, .ptr (Rep.int .u8) u_ x1)], fun ds_ u_ => [], [], [], none⟩, ⟨some 20, some (.int .u8 x1), fun _ => [], fun ds_ u_ => [], [], [], none⟩, ⟨some 21, some (v1), fun _ => [], fun ds_ u_ => [], [], [], none⟩, ⟨some 22, some (.int .i64 s1), fun _ => [], fun ds_ u_ => [], [], [], none⟩, ⟨some 23, none, fun u_ => [(false, .ptr (Rep.int .u8) u_ x2)], fun ds_ u_ => [], [], [], none⟩, ⟨some 24, some (.int .u8 x2), fun _ => [], fun ds_ u_ => [], [], [], none⟩, ⟨some 25, some (.bool (x1 != x2)), fun _ => [], fun ds_ u_ => [], [], [], none⟩] [[], [], [0, 1], [2], [], [], [4, 5], [6], [3, 7]] [] [0, 1, 2, 3, 4, 5, 6, 7, 8] Try_mixed rfl rfl rfl h1 (.cons ?_ (.cons ?_ (.cons ?_ (.cons ?_ (.cons ?_ (.cons ?_ (.cons ?_ (.cons ?_ (.cons ?_ .nil))))))))) (fun q1 w hq1 h => ?_)
   ·intro q1 w Γx Ωx h
    refine OpS.mv rfl rfl rfl ?_
    exact ⟨undef, rfl, trivial, h⟩
   ·intro q1 w Γx Ωx h
    refine OpS.mv rfl rfl rfl ?_
    exact ⟨undef, rfl, trivial, h⟩
   ·intro q1 w Γx Ωx h
    refine OpS.iptr h Try.underlying22 ty5 rfl rfl rfl rfl (V.at .z) e3 (fun u h4 => ?_)
    exact ⟨u, rfl, trivial, h4⟩
   ·intro q1 w Γx Ωx h
    refine OpS.loadi h ty5 rfl rfl rfl .z ?_
    exact ⟨undef, rfl, trivial, h⟩
   ·intro q1 w Γx Ωx h
    refine OpS.mv rfl rfl rfl ?_
    exact ⟨undef, rfl, trivial, h⟩
   ·intro q1 w Γx Ωx h
    refine OpS.mv rfl rfl rfl ?_
    exact ⟨undef, rfl, trivial, h⟩
   ·intro q1 w Γx Ωx h
    refine OpS.iptr h Try.underlying22 ty5 rfl rfl rfl rfl (V.at (.s .z)) e4 (fun u h5 => ?_)
    exact ⟨u, rfl, trivial, h5⟩
   ·intro q1 w Γx Ωx h
    refine OpS.loadi h ty5 rfl rfl rfl .z ?_
    exact ⟨undef, rfl, trivial, h⟩
   ·intro q1 w Γx Ωx h
    refine OpS.bin rfl rfl rfl rfl rfl ?_
    exact ⟨undef, rfl, trivial, h⟩
   have h6 : St e w [(false, .ptr (Rep.int .u8) (q1 2) x1), (false, .ptr (Rep.int .u8) (q1 6) x2), (false, .val (Rep.slice (Rep.int .u8)) v0 a0), (false, .val (Rep.slice (Rep.int .u8)) v1 a1)] [] := h
   refine RunL.nil ?_
   refine Run.slim [(25, .bool (x1 != x2)), (0, v0), (1, v1), (5, .int .i64 s1)] ⟨rfl, rfl, rfl, rfl, trivial⟩ ?_
   refine Run.ite rfl hF (fun e5 hF => ?_) (fun e5 hF => ?_)
   ·
    refine Run.seq ?_
    refine Run.reg ?_
    refine op (OpS.as rfl rfl rfl ?_)
    refine RunL.nil ?_
    refine Run.slim [(4, .bool false)] ⟨rfl, trivial⟩ ?_
    refine Run.retP rfl (.tmp rfl .nil) ?_
    cases hF
    exact Post.mk' ⟨rfl, rfl, rfl, rfl⟩ (h6.picks .nil) .nil
   ·
    refine Run.skip ?_
    refine Run.endBlock ?_
    refine Run.reg ?_
    refine op (OpS.mv rfl rfl rfl ?_)
    refine op (OpS.bin rfl rfl rfl rfl rfl ?_)
    refine op (OpS.as rfl rfl rfl ?_)
    obtain ⟨x3, e6, hF⟩ := letP_use hF
    refine RunL.name e6 ?_
    refine RunL.nil ?_
    refine Run.slim [(5, .int .i64 x3), (0, v0), (1, v1)] ⟨rfl, rfl, rfl, trivial⟩ ?_
    refine Run.slim [(0, v0), (1, v1), (5, .int .i64 x3)] ⟨rfl, rfl, rfl, trivial⟩ ?_
    exact hk1 (x3) _ _ ⟨rfl, (h6.facts (.atm (.s (.s .z)) (.atm (.s (.s (.s .z))) .nil))).picks .nil⟩ hF
  ·
   refine Run.exit rfl ?_
   refine Run.seq ?_
   refine Run.reg ?_
   refine op (OpS.as rfl rfl rfl ?_)
   refine RunL.nil ?_
   refine Run.slim [(4, .bool true)] ⟨rfl, trivial⟩ ?_
   refine Run.retP rfl (.tmp rfl .nil) ?_
   cases hF
   exact Post.mk' ⟨rfl, rfl, rfl, rfl⟩ (h1.picks .nil) .nil
set_option maxHeartbeats 8000000 in
theorem ref22_Same_ok {fuel : Nat} {a0 : Packet_} {a1 : Packet_} {y : Bool} (hF : ref22_Same fuel a0 a1 = some y) {w : World} {v0 v1 : Value} :
  Spec Try.prog 37 [v0, v1].toArray w [(false, .val Packet_.rep v0 a0), (false, .val Packet_.rep v1 a1)] [] (fun v Γr Ωr Ωo => v = .bool y ∧ Γr = [] ∧ Ωr = [] ∧ Ωo = []) := by
 refine Spec.of (L := [(0, v0), (1, v1)]) Try.func37 rfl ⟨rfl, rfl, trivial⟩ rfl (fun e h => ?_)
 unfold ref22_Same at hF
 refine Run.seq ?_
 refine Run.reg ?_
 refine op (OpS.boxF h rfl rfl rfl (V.at .z) (fun u1 w1 h1 => ?_))
 refine op (OpS.boxF h1 rfl rfl rfl (V.at (.s .z)) (fun u2 w2 h2 => ?_))
 refine op (OpS.as rfl rfl rfl ?_)
 refine RunL.nil ?_
 refine Run.slim [(3, u2), (2, u1)] ⟨rfl, rfl, trivial⟩ ?_
 refine Run.seq ?_
 refine Run.reg ?_
 refine op (OpS.fbox (o3 := 0) h2 (.s .z) PA.z fa44_0 rfl rfl rfl rfl ?_)
 refine op (OpS.loadBi h2 (.s .z) PA.a (Get.fld Packet_.f0) ty5 rfl rfl rfl ?_)
 refine op (OpS.fbox (o3 := 0) h2 .z PA.z fa44_0 rfl rfl rfl rfl ?_)
 refine op (OpS.loadBi h2 .z PA.a (Get.fld Packet_.f0) ty5 rfl rfl rfl ?_)
 refine op (OpS.bin rfl rfl rfl rfl rfl ?_)
 refine op (OpS.mv rfl rfl rfl ?_)
 refine RunL.caseb hF (fun e1 hF => ?_) (fun e1 hF => ?_)
 ·
  refine op (OpS.fbox (o3 := 1) h2 (.s .z) PA.z fa44_1 rfl rfl rfl rfl ?_)
  refine op (OpS.loadBi h2 (.s .z) PA.a (Get.fld Packet_.f1) ty5 rfl rfl rfl ?_)
  refine op (OpS.fbox (o3 := 1) h2 .z PA.z fa44_1 rfl rfl rfl rfl ?_)
  refine op (OpS.loadBi h2 .z PA.a (Get.fld Packet_.f1) ty5 rfl rfl rfl ?_)
  refine op (OpS.bin rfl rfl rfl rfl rfl ?_)
  refine op (OpS.pick rfl rfl rfl rfl ?_)
  refine op (OpS.mv rfl rfl rfl ?_)
  refine RunL.caseb hF (fun e2 hF => ?_) (fun e2 hF => ?_)
  ·
   refine op (OpS.fbox (o3 := 2) h2 (.s .z) PA.z fa44_2 rfl rfl rfl rfl ?_)
   refine op (OpS.loadBb h2 (.s .z) PA.a (Get.fld Packet_.f2) ty4 rfl rfl rfl ?_)
   refine op (OpS.fbox (o3 := 2) h2 .z PA.z fa44_2 rfl rfl rfl rfl ?_)
   refine op (OpS.loadBb h2 .z PA.a (Get.fld Packet_.f2) ty4 rfl rfl rfl ?_)
   refine op (OpS.eqb Try.underlying4 rfl rfl rfl rfl ?_)
   refine op (OpS.pick rfl rfl rfl rfl ?_)
   refine op (OpS.mv rfl rfl rfl ?_)
   refine RunL.caseb hF (fun e3 hF => ?_) (fun e3 hF => ?_)
   ·
    refine op (OpS.fbox (o3 := 3) h2 (.s .z) PA.z fa44_3 rfl rfl rfl rfl ?_)
    refine op (OpS.loadBb h2 (.s .z) PA.a (Get.fld Packet_.f3) ty4 rfl rfl rfl ?_)
    refine op (OpS.fbox (o3 := 3) h2 .z PA.z fa44_3 rfl rfl rfl rfl ?_)
    refine op (OpS.loadBb h2 .z PA.a (Get.fld Packet_.f3) ty4 rfl rfl rfl ?_)
    refine op (OpS.eqb Try.underlying4 rfl rfl rfl rfl ?_)
    refine op (OpS.pick rfl rfl rfl rfl ?_)
    refine op (OpS.mv rfl rfl rfl ?_)
    refine RunL.caseb hF (fun e4 hF => ?_) (fun e4 hF => ?_)
    ·
     refine op (OpS.fbox (o3 := 4) h2 (.s .z) PA.z fa44_4 rfl rfl rfl rfl ?_)
     refine op (OpS.loadBi h2 (.s .z) PA.a (Get.fld Packet_.f4) ty3 rfl rfl rfl ?_)
     refine op (OpS.fbox (o3 := 4) h2 .z PA.z fa44_4 rfl rfl rfl rfl ?_)
     refine op (OpS.loadBi h2 .z PA.a (Get.fld Packet_.f4) ty3 rfl rfl rfl ?_)
     refine op (OpS.bin rfl rfl rfl rfl rfl ?_)
     refine op (OpS.pick rfl rfl rfl rfl ?_)
     refine op (OpS.mv rfl rfl rfl ?_)
     refine RunL.caseb hF (fun e5 hF => ?_) (fun e5 hF => ?_)
     ·
      refine op (OpS.fbox (o3 := 5) h2 (.s .z) PA.z fa44_5 rfl rfl rfl rfl ?_)
      refine op (OpS.loadBb h2 (.s .z) PA.a (Get.fld Packet_.f5) ty4 rfl rfl rfl ?_)
      refine op (OpS.fbox (o3 := 5) h2 .z PA.z fa44_5 rfl rfl rfl rfl ?_)
      refine op (OpS.loadBb h2 .z PA.a (Get.fld Packet_.f5) ty4 rfl rfl rfl ?_)
      refine op (OpS.eqb Try.underlying4 rfl rfl rfl rfl ?_)
      refine op (OpS.pick rfl rfl rfl rfl ?_)
      refine op (OpS.mv rfl rfl rfl ?_)
      refine RunL.caseb hF (fun e6 hF => ?_) (fun e6 hF => ?_)
      ·
       refine op (OpS.fbox (o3 := 6) h2 (.s .z) PA.z fa44_6 rfl rfl rfl rfl ?_)
       refine op (OpS.loadBi h2 (.s .z) PA.a (Get.fld Packet_.f6) ty3 rfl rfl rfl ?_)
       refine op (OpS.fbox (o3 := 6) h2 .z PA.z fa44_6 rfl rfl rfl rfl ?_)
       refine op (OpS.loadBi h2 .z PA.a (Get.fld Packet_.f6) ty3 rfl rfl rfl ?_)
       refine op (OpS.bin rfl rfl rfl rfl rfl ?_)
       refine op (OpS.pick rfl rfl rfl rfl ?_)
       refine op (OpS.mv rfl rfl rfl ?_)
       refine RunL.caseb hF (fun e7 hF => ?_) (fun e7 hF => ?_)
       ·
        refine op (OpS.fbox (o3 := 7) h2 (.s .z) PA.z fa44_7 rfl rfl rfl rfl ?_)
        refine op (OpS.loadB h2 (.s .z) PA.a (Get.fld Packet_.f7) ty22 rfl rfl rfl (fun u3 h3 => ?_))
        refine op (OpS.fbox (o3 := 7) h3 .z PA.z fa44_7 rfl rfl rfl rfl ?_)
        refine op (OpS.loadB h3 .z PA.a (Get.fld Packet_.f7) ty22 rfl rfl rfl (fun u4 h4 => ?_))
        obtain ⟨y1, e8, hF⟩ := bindP_use hF
        refine op (OpS.callP h4 Try.func29 rfl rfl rfl rfl (vs := [u3, u4]) rfl (ref01_Same_ok e8) (.cons (f := false) (V.at (.s .z)) (.cons (f := false) (V.at .z) .nil)) ?_)
        rintro _ w3 _ _ _ ⟨rfl, rfl, rfl, rfl⟩ h5
        have h6 := h5 rfl rfl
        simp only [List.cons_append, List.nil_append] at h6
        refine op (OpS.pick rfl rfl rfl rfl ?_)
        refine op (OpS.as rfl rfl rfl ?_)
        refine RunL.nil ?_
        refine Run.slim [(4, .bool y1)] ⟨rfl, trivial⟩ ?_
        refine Run.retP rfl (.tmp rfl .nil) ?_
        cases hF
        exact Post.mk' ⟨rfl, rfl, rfl, rfl⟩ (h6.picks .nil) .nil
       ·
        refine op (OpS.pass rfl rfl rfl ?_)
        refine op (OpS.pass rfl rfl rfl ?_)
        refine op (OpS.pass rfl rfl rfl ?_)
        refine op (OpS.pass rfl rfl rfl ?_)
        refine op (OpS.pass rfl rfl rfl ?_)
        refine op (OpS.pick rfl rfl rfl rfl ?_)
        refine op (OpS.as rfl rfl rfl ?_)
        refine RunL.nil ?_
        refine Run.slim [(4, .bool false)] ⟨rfl, trivial⟩ ?_
        refine Run.retP rfl (.tmp rfl .nil) ?_
        cases hF
        exact Post.mk' ⟨rfl, rfl, rfl, rfl⟩ (h2.picks .nil) .nil
      ·
       refine op (OpS.pass rfl rfl rfl ?_)
       refine op (OpS.pass rfl rfl rfl ?_)
       refine op (OpS.pass rfl rfl rfl ?_)
       refine op (OpS.pass rfl rfl rfl ?_)
       refine op (OpS.pass rfl rfl rfl ?_)
       refine op (OpS.pick rfl rfl rfl rfl ?_)
       refine op (OpS.mv rfl rfl rfl ?_)
       refine op (OpS.pass rfl rfl rfl ?_)
       refine op (OpS.pass rfl rfl rfl ?_)
       refine op (OpS.pass rfl rfl rfl ?_)
       refine op (OpS.pass rfl rfl rfl ?_)
       refine op (OpS.pass rfl rfl rfl ?_)
       refine op (OpS.pick rfl rfl rfl rfl ?_)
       refine op (OpS.as rfl rfl rfl ?_)
       refine RunL.nil ?_
       refine Run.slim [(4, .bool false)] ⟨rfl, trivial⟩ ?_
       refine Run.retP rfl (.tmp rfl .nil) ?_
       cases hF
       exact Post.mk' ⟨rfl, rfl, rfl, rfl⟩ (h2.picks .nil) .nil
     ·
      refine op (OpS.pass rfl rfl rfl ?_)
      refine op (OpS.pass rfl rfl rfl ?_)
      refine op (OpS.pass rfl rfl rfl ?_)
      refine op (OpS.pass rfl rfl rfl ?_)
      refine op (OpS.pass rfl rfl rfl ?_)
      refine op (OpS.pick rfl rfl rfl rfl ?_)
      refine op (OpS.mv rfl rfl rfl ?_)
      refine op (OpS.pass rfl rfl rfl ?_)
      refine op (OpS.pass rfl rfl rfl ?_)
      refine op (OpS.pass rfl rfl rfl ?_)
      refine op (OpS.pass rfl rfl rfl ?_)
      refine op (OpS.pass rfl rfl rfl ?_)
      refine op (OpS.pick rfl rfl rfl rfl ?_)
      refine op (OpS.mv rfl rfl rfl ?_)
      refine op (OpS.pass rfl rfl rfl ?_)
      refine op (OpS.pass rfl rfl rfl ?_)
      refine op (OpS.pass rfl rfl rfl ?_)
      refine op (OpS.pass rfl rfl rfl ?_)
      refine op (OpS.pass rfl rfl rfl ?_)
      refine op (OpS.pick rfl rfl rfl rfl ?_)
      refine op (OpS.as rfl rfl rfl ?_)
      refine RunL.nil ?_
      refine Run.slim [(4, .bool false)] ⟨rfl, trivial⟩ ?_
      refine Run.retP rfl (.tmp rfl .nil) ?_
      cases hF
      exact Post.mk' ⟨rfl, rfl, rfl, rfl⟩ (h2.picks .nil) .nil
    ·
     refine op (OpS.pass rfl rfl rfl ?_)
     refine op (OpS.pass rfl rfl rfl ?_)
     refine op (OpS.pass rfl rfl rfl ?_)
     refine op (OpS.pass rfl rfl rfl ?_)
     refine op (OpS.pass rfl rfl rfl ?_)
     refine op (OpS.pick rfl rfl rfl rfl ?_)
     refine op (OpS.mv rfl rfl rfl ?_)
     refine op (OpS.pass rfl rfl rfl ?_)
     refine op (OpS.pass rfl rfl rfl ?_)
     refine op (OpS.pass rfl rfl rfl ?_)
     refine op (OpS.pass rfl rfl rfl ?_)
     refine op (OpS.pass rfl rfl rfl ?_)
     refine op (OpS.pick rfl rfl rfl rfl ?_)
     refine op (OpS.mv rfl rfl rfl ?_)
     refine op (OpS.pass rfl rfl rfl ?_)
     refine op (OpS.pass rfl rfl rfl ?_)
     refine op (OpS.pass rfl rfl rfl ?_)
     refine op (OpS.pass rfl rfl rfl ?_)
     refine op (OpS.pass rfl rfl rfl ?_)
     refine op (OpS.pick rfl rfl rfl rfl ?_)
     refine op (OpS.mv rfl rfl rfl ?_)
     refine op (OpS.pass rfl rfl rfl ?_)
     refine op (OpS.pass rfl rfl rfl ?_)
     refine op (OpS.pass rfl rfl rfl ?_)
     refine op (OpS.pass rfl rfl rfl ?_)
     refine op (OpS.pass rfl rfl rfl ?_)
     refine op (OpS.pick rfl rfl rfl rfl ?_)
     refine op (OpS.as rfl rfl rfl ?_)
     refine RunL.nil ?_
     refine Run.slim [(4, .bool false)] ⟨rfl, trivial⟩ ?_
     refine Run.retP rfl (.tmp rfl .nil) ?_
     cases hF
     exact Post.mk' ⟨rfl, rfl, rfl, rfl⟩ (h2.picks .nil) .nil
   ·
    refine op (OpS.pass rfl rfl rfl ?_)
    refine op (OpS.pass rfl rfl rfl ?_)
    refine op (OpS.pass rfl rfl rfl ?_)
    refine op (OpS.pass rfl rfl rfl ?_)
    refine op (OpS.pass rfl rfl rfl ?_)
    refine op (OpS.pick rfl rfl rfl rfl ?_)
    refine op (OpS.mv rfl rfl rfl ?_)
    refine op (OpS.pass rfl rfl rfl ?_)
    refine op (OpS.pass rfl rfl rfl ?_)
    refine op (OpS.pass rfl rfl rfl ?_)
    refine op (OpS.pass rfl rfl rfl ?_)
    refine op (OpS.pass rfl rfl rfl ?_)
    refine op (OpS.pick rfl rfl rfl rfl ?_)
    refine op (OpS.mv rfl rfl rfl ?_)
    refine op (OpS.pass rfl rfl rfl ?_)
    refine op (OpS.pass rfl rfl rfl ?_)
    refine op (OpS.pass rfl rfl rfl ?_)
    refine op (OpS.pass rfl rfl rfl ?_)
    refine op (OpS.pass rfl rfl rfl ?_)
    refine op (OpS.pick rfl rfl rfl rfl ?_)
    refine op (OpS.mv rfl rfl rfl ?_)
    refine op (OpS.pass rfl rfl rfl ?_)
    refine op (OpS.pass rfl rfl rfl ?_)
    refine op (OpS.pass rfl rfl rfl ?_)
    refine op (OpS.pass rfl rfl rfl ?_)
    refine op (OpS.pass rfl rfl rfl ?_)
    refine op (OpS.pick rfl rfl rfl rfl ?_)
    refine op (OpS.mv rfl rfl rfl ?_)
    refine op (OpS.pass rfl rfl rfl ?_)
    refine op (OpS.pass rfl rfl rfl ?_)
    refine op (OpS.pass rfl rfl rfl ?_)
    refine op (OpS.pass rfl rfl rfl ?_)
    refine op (OpS.pass rfl rfl rfl ?_)
    refine op (OpS.pick rfl rfl rfl rfl ?_)
    refine op (OpS.as rfl rfl rfl ?_)
    refine RunL.nil ?_
    refine Run.slim [(4, .bool false)] ⟨rfl, trivial⟩ ?_
    refine Run.retP rfl (.tmp rfl .nil) ?_
    cases hF
    exact Post.mk' ⟨rfl, rfl, rfl, rfl⟩ (h2.picks .nil) .nil
  ·
   refine op (OpS.pass rfl rfl rfl ?_)
   refine op (OpS.pass rfl rfl rfl ?_)
   refine op (OpS.pass rfl rfl rfl ?_)
   refine op (OpS.pass rfl rfl rfl ?_)
   refine op (OpS.pass rfl rfl rfl ?_)
   refine op (OpS.pick rfl rfl rfl rfl ?_)
   refine op (OpS.mv rfl rfl rfl ?_)
   refine op (OpS.pass rfl rfl rfl ?_)
   refine op (OpS.pass rfl rfl rfl ?_)
   refine op (OpS.pass rfl rfl rfl ?_)
   refine op (OpS.pass rfl rfl rfl ?_)
   refine op (OpS.pass rfl rfl rfl ?_)
   refine op (OpS.pick rfl rfl rfl rfl ?_)
   refine op (OpS.mv rfl rfl rfl ?_)
   refine op (OpS.pass rfl rfl rfl ?_)
   refine op (OpS.pass rfl rfl rfl ?_)
   refine op (OpS.pass rfl rfl rfl ?_)
   refine op (OpS.pass rfl rfl rfl ?_)
   refine op (OpS.pass rfl rfl rfl ?_)
   refine op (OpS.pick rfl rfl rfl rfl ?_)
   refine op (OpS.mv rfl rfl rfl ?_)
   refine op (OpS.pass rfl rfl rfl ?_)
   refine op (OpS.pass rfl rfl rfl ?_)
   refine op (OpS.pass rfl rfl rfl ?_)
   refine op (OpS.pass rfl rfl rfl ?_)
   refine op (OpS.pass rfl rfl rfl ?_)
   refine op (OpS.pick rfl rfl rfl rfl ?_)
   refine op (OpS.mv rfl rfl rfl ?_)
   refine op (OpS.pass rfl rfl rfl ?_)
   refine op (OpS.pass rfl rfl rfl ?_)
   refine op (OpS.pass rfl rfl rfl ?_)
   refine op (OpS.pass rfl rfl rfl ?_)
   refine op (OpS.pass rfl rfl rfl ?_)
   refine op (OpS.pick rfl rfl rfl rfl ?_)
   refine op (OpS.mv rfl rfl rfl ?_)
   refine op (OpS.pass rfl rfl rfl ?_)
   refine op (OpS.pass rfl rfl rfl ?_)
   refine op (OpS.pass rfl rfl rfl ?_)
   refine op (OpS.pass rfl rfl rfl ?_)
   refine op (OpS.pass rfl rfl rfl ?_)
   refine op (OpS.pick rfl rfl rfl rfl ?_)
   refine op (OpS.as rfl rfl rfl ?_)
   refine RunL.nil ?_
   refine Run.slim [(4, .bool false)] ⟨rfl, trivial⟩ ?_
   refine Run.retP rfl (.tmp rfl .nil) ?_
   cases hF
   exact Post.mk' ⟨rfl, rfl, rfl, rfl⟩ (h2.picks .nil) .nil
 ·
  refine op (OpS.pass rfl rfl rfl ?_)
  refine op (OpS.pass rfl rfl rfl ?_)
  refine op (OpS.pass rfl rfl rfl ?_)
  refine op (OpS.pass rfl rfl rfl ?_)
  refine op (OpS.pass rfl rfl rfl ?_)
  refine op (OpS.pick rfl rfl rfl rfl ?_)
  refine op (OpS.mv rfl rfl rfl ?_)
  refine op (OpS.pass rfl rfl rfl ?_)
  refine op (OpS.pass rfl rfl rfl ?_)
  refine op (OpS.pass rfl rfl rfl ?_)
  refine op (OpS.pass rfl rfl rfl ?_)
  refine op (OpS.pass rfl rfl rfl ?_)
  refine op (OpS.pick rfl rfl rfl rfl ?_)
  refine op (OpS.mv rfl rfl rfl ?_)
  refine op (OpS.pass rfl rfl rfl ?_)
  refine op (OpS.pass rfl rfl rfl ?_)
  refine op (OpS.pass rfl rfl rfl ?_)
  refine op (OpS.pass rfl rfl rfl ?_)
  refine op (OpS.pass rfl rfl rfl ?_)
  refine op (OpS.pick rfl rfl rfl rfl ?_)
  refine op (OpS.mv rfl rfl rfl ?_)
  refine op (OpS.pass rfl rfl rfl ?_)
  refine op (OpS.pass rfl rfl rfl ?_)
  refine op (OpS.pass rfl rfl rfl ?_)
  refine op (OpS.pass rfl rfl rfl ?_)
  refine op (OpS.pass rfl rfl rfl ?_)
  refine op (OpS.pick rfl rfl rfl rfl ?_)
  refine op (OpS.mv rfl rfl rfl ?_)
  refine op (OpS.pass rfl rfl rfl ?_)
  refine op (OpS.pass rfl rfl rfl ?_)
  refine op (OpS.pass rfl rfl rfl ?_)
  refine op (OpS.pass rfl rfl rfl ?_)
  refine op (OpS.pass rfl rfl rfl ?_)
  refine op (OpS.pick rfl rfl rfl rfl ?_)
  refine op (OpS.mv rfl rfl rfl ?_)
  refine op (OpS.pass rfl rfl rfl ?_)
  refine op (OpS.pass rfl rfl rfl ?_)
  refine op (OpS.pass rfl rfl rfl ?_)
  refine op (OpS.pass rfl rfl rfl ?_)
  refine op (OpS.pass rfl rfl rfl ?_)
  refine op (OpS.pick rfl rfl rfl rfl ?_)
  refine op (OpS.mv rfl rfl rfl ?_)
  refine op (OpS.pass rfl rfl rfl ?_)
  refine op (OpS.pass rfl rfl rfl ?_)
  refine op (OpS.pass rfl rfl rfl ?_)
  refine op (OpS.pass rfl rfl rfl ?_)
  refine op (OpS.pass rfl rfl rfl ?_)
  refine op (OpS.pick rfl rfl rfl rfl ?_)
  refine op (OpS.as rfl rfl rfl ?_)
  refine RunL.nil ?_
  refine Run.slim [(4, .bool false)] ⟨rfl, trivial⟩ ?_
  refine Run.retP rfl (.tmp rfl .nil) ?_
  cases hF
  exact Post.mk' ⟨rfl, rfl, rfl, rfl⟩ (h2.picks .nil) .nil
theorem made_Light_ok {fuel : Nat} {a0 : List Int} {y : Bool} (hF : made_Light fuel a0 = some y) {w : World} {v0 : Value} :
  Spec Try.prog 16 [v0].toArray w [(false, .val (Rep.slice (Rep.int .i64)) v0 a0)] [] (fun v Γr Ωr Ωo => v = .bool y ∧ Γr = [] ∧ Ωr = [] ∧ Ωo = []) := by
 refine Spec.of (L := [(0, v0)]) Try.func16 rfl ⟨rfl, trivial⟩ rfl (fun e h => ?_)
 unfold made_Light at hF
 refine Run.seq ?_
 refine Run.reg ?_
 refine op (OpS.as rfl rfl rfl ?_)
 refine RunL.nil ?_
 refine Run.slim [(0, v0)] ⟨rfl, trivial⟩ ?_
 refine Run.seq ?_
 refine Run.reg ?_
 refine op (OpS.mv rfl rfl rfl ?_)
 refine op (OpS.len h Try.underlying33 rfl rfl rfl (V.at .z) ?_)
 refine op (OpS.bin rfl rfl rfl rfl rfl ?_)
 refine op (OpS.as rfl rfl rfl ?_)
 obtain ⟨x1, e1, hF⟩ := letP_use hF
 refine RunL.nameb e1 ?_
 refine RunL.nil ?_
 refine Run.slim [(2, .bool x1)] ⟨rfl, trivial⟩ ?_
 refine Run.retP rfl (.tmp rfl .nil) ?_
 cases hF
 exact Post.mk' ⟨rfl, rfl, rfl, rfl⟩ (h.picks .nil) .nil
theorem made_Roll_ok {fuel : Nat} {a0 : List Int} {y : made_Dice} (hF : made_Roll fuel a0 = some y) {w : World} {v0 : Value} :
  Spec Try.prog 19 [v0].toArray w [(false, .val (Rep.slice (Rep.int .i64)) v0 a0)] [] (fun v Γr Ωr Ωo => ∃ u0 : Value, v = u0 ∧ Γr = [] ∧ Ωr = [(false, .box 85 made_Dice.rep u0 y)] ∧ Ωo = []) := by
 refine Spec.of (L := [(0, v0)]) Try.func19 rfl ⟨rfl, trivial⟩ rfl (fun e h => ?_)
 unfold made_Roll at hF
 refine Run.seq ?_
 refine Run.reg ?_
 refine op (OpS.as rfl rfl rfl ?_)
 refine RunL.nil ?_
 refine Run.slim [(0, v0)] ⟨rfl, trivial⟩ ?_
 refine Run.seq ?_
 refine Run.reg ?_
 refine op (OpS.mv rfl rfl rfl ?_)
 refine op (OpS.build (f := false) (x' := (⟨a0, 0⟩ : made_Dice)) h pl85 ti85 made_Dice.zr rfl rfl rfl (.cons rfl made_Dice.f0 rfl (V.at .z) .nil) (fun u1 h1 => ?_))
 refine op (OpS.boxF h1 rfl rfl rfl (V.at .z) (fun u2 w1 h2 => ?_))
 refine op (OpS.as rfl rfl rfl ?_)
 refine RunL.nil ?_
 refine Run.slim [(2, u2)] ⟨rfl, trivial⟩ ?_
 refine Run.retP rfl (.tmp rfl .nil) ?_
 cases hF
 exact Post.mk' ⟨u2, rfl, rfl, rfl, rfl⟩ (h2.picks (.cons .z .nil)) .nil
theorem made_Dice_Next_ok {fuel : Nat} {a0 : made_Dice} {a1 : Int} {y : Int × made_Dice} (hF : made_Dice_Next fuel a0 a1 = some y) {w : World} {v0 : Value} :
  Spec Try.prog 23 [v0, .int .i64 a1].toArray w [] [(false, .box 85 made_Dice.rep v0 a0)] (fun v Γr Ωr Ωo => v = .int .i64 y.1 ∧ Γr = [] ∧ Ωr = [] ∧ Ωo = [(false, .box 85 made_Dice.rep v0 y.2)]) := by
 refine Spec.of (L := [(0, v0), (1, .int .i64 a1)]) Try.func23 rfl ⟨rfl, rfl, trivial⟩ rfl (fun e h => ?_)
 unfold made_Dice_Next at hF
 refine Run.seq ?_
 refine Run.reg ?_
 refine op (OpS.as rfl rfl rfl ?_)
 refine RunL.nil ?_
 refine Run.slim [(0, v0), (1, .int .i64 a1)] ⟨rfl, rfl, trivial⟩ ?_
 refine Run.seq ?_
 refine Run.seq ?_
 refine Run.drawV (Ωs := []) [⟨some 5, some (v0), fun _ => [], fun ds_ u_ => [], [], [], none⟩, ⟨some 6, some (v0), fun _ => [], fun ds_ u_ => [], [], [(0, [])], none⟩, ⟨some 7, some ((padd v0 1)), fun _ => [], fun ds_ u_ => [], [], [(0, [])], none⟩, ⟨some 8, some (.int .i64 a0.At), fun _ => [], fun ds_ u_ => [], [], [(0, [])], none⟩, ⟨some 9, some (v0), fun _ => [], fun ds_ u_ => [], [], [], none⟩, ⟨some 10, some (v0), fun _ => [], fun ds_ u_ => [], [], [(0, [])], none⟩, ⟨some 11, some ((padd v0 0)), fun _ => [], fun ds_ u_ => [], [], [(0, [])], none⟩, ⟨some 12, none, fun u_ => [(false, .val (Rep.slice (Rep.int .i64)) u_ a0.L)], fun ds_ u_ => [], [], [(0, [])], none⟩, ⟨some 13, some (.int .i64 (a0.L.length : Int)), fun _ => [], fun ds_ u_ => [], [], [], none⟩, ⟨some 14, some (.bool (decide (a0.At ≥ (a0.L.length : Int)))), fun _ => [], fun ds_ u_ => [], [], [], none⟩] [[], [0], [1], [2], [], [4], [5], [6], [7], [3, 8]] [[(false, .box 85 made_Dice.rep v0 a0)]] [0, 1, 2, 3, 4, 5, 6, 7, 8, 9, 10] Try_mixed rfl rfl rfl h (.cons ?_ (.cons ?_ (.cons ?_ (.cons ?_ (.cons ?_ (.cons ?_ (.cons ?_ (.cons ?_ (.cons ?_ (.cons ?_ .nil)))))))))) (fun q1 w hq1 h => ?_)
 ·intro q1 w Γx Ωx h
  refine OpS.mv rfl rfl rfl ?_
  exact ⟨undef, rfl, trivial, h⟩
 ·intro q1 w Γx Ωx h
  have h : St e w ([] ++ Γx) ([(false, .box 85 made_Dice.rep v0 a0)] ++ Ωx) := h
  refine OpS.nchk h .z rfl rfl rfl ?_
  exact ⟨undef, rfl, trivial, h⟩
 ·intro q1 w Γx Ωx h
  have h : St e w ([] ++ Γx) ([(false, .box 85 made_Dice.rep v0 a0)] ++ Ωx) := h
  refine OpS.fbox (o3 := 1) h .z PA.z fa85_1 rfl rfl rfl rfl ?_
  exact ⟨undef, rfl, trivial, h⟩
 ·intro q1 w Γx Ωx h
  have h : St e w ([] ++ Γx) ([(false, .box 85 made_Dice.rep v0 a0)] ++ Ωx) := h
  refine OpS.loadBi h .z PA.a (Get.fld made_Dice.f1) ty3 rfl rfl rfl ?_
  exact ⟨undef, rfl, trivial, h⟩
 ·intro q1 w Γx Ωx h
  refine OpS.mv rfl rfl rfl ?_
  exact ⟨undef, rfl, trivial, h⟩
 ·intro q1 w Γx Ωx h
  have h : St e w ([] ++ Γx) ([(false, .box 85 made_Dice.rep v0 a0)] ++ Ωx) := h
  refine OpS.nchk h .z rfl rfl rfl ?_
  exact ⟨undef, rfl, trivial, h⟩
 ·intro q1 w Γx Ωx h
  have h : St e w ([] ++ Γx) ([(false, .box 85 made_Dice.rep v0 a0)] ++ Ωx) := h
  refine OpS.fbox (o3 := 0) h .z PA.z fa85_0 rfl rfl rfl rfl ?_
  exact ⟨undef, rfl, trivial, h⟩
 ·intro q1 w Γx Ωx h
  have h : St e w ([] ++ Γx) ([(false, .box 85 made_Dice.rep v0 a0)] ++ Ωx) := h
  refine OpS.loadB h .z PA.a (Get.fld made_Dice.f0) ty33 rfl rfl rfl (fun u h2 => ?_)
  exact ⟨u, rfl, trivial, h2⟩
 ·intro q1 w Γx Ωx h
  refine OpS.len h Try.underlying33 rfl rfl rfl (V.at .z) ?_
  exact ⟨undef, rfl, trivial, h⟩
 ·intro q1 w Γx Ωx h
  refine OpS.bin rfl rfl rfl rfl rfl ?_
  exact ⟨undef, rfl, trivial, h⟩
 have h3 : St e w [(false, .val (Rep.slice (Rep.int .i64)) (q1 7) a0.L)] [(false, .box 85 made_Dice.rep v0 a0)] := h
 refine RunL.nil ?_
 refine Run.slim [(14, .bool (decide (a0.At ≥ (a0.L.length : Int)))), (0, v0), (1, .int .i64 a1)] ⟨rfl, rfl, rfl, trivial⟩ ?_
 refine Run.ite rfl hF (fun e1 hF => ?_) (fun e1 hF => ?_)
 ·
  refine Run.seq ?_
  refine Run.reg ?_
  refine op (OpS.as rfl rfl rfl ?_)
  refine RunL.nil ?_
  refine Run.slim [(4, .int .i64 0)] ⟨rfl, trivial⟩ ?_
  refine Run.retP rfl (.tmp rfl .nil) ?_
  cases hF
  exact Post.mk' ⟨rfl, rfl, rfl, rfl⟩ (h3.picks (.cons .z .nil)) .nil
 ·
  refine Run.skip ?_
  refine Run.seq ?_
  refine Run.reg ?_
  refine op (OpS.mv rfl rfl rfl ?_)
  refine op (OpS.nchk h3 .z rfl rfl rfl ?_)
  refine op (OpS.fbox (o3 := 1) h3 .z PA.z fa85_1 rfl rfl rfl rfl ?_)
  refine op (OpS.loadBi h3 .z PA.a (Get.fld made_Dice.f1) ty3 rfl rfl rfl ?_)
  refine op (OpS.bin rfl rfl rfl rfl rfl ?_)
  refine op (OpS.nchk h3 .z rfl rfl rfl ?_)
  refine op (OpS.fbox (o3 := 1) h3 .z PA.z fa85_1 rfl rfl rfl rfl ?_)
  obtain ⟨d1, e2, hF⟩ := letP_use hF
  refine op (OpS.storeB (f' := true) h3 .z PA.a (Put.of (Put.fld made_Dice.f1) e2) ty3 rfl rfl rfl V.int (.inr rfl) (fun w1 h4 => ?_))
  refine RunL.nil ?_
  refine Run.slim [(0, v0), (1, .int .i64 a1)] ⟨rfl, rfl, trivial⟩ ?_
  refine Run.seq ?_
  obtain ⟨x1, e3, hF⟩ := bindP_use hF
  obtain ⟨y1, e4, hF⟩ := bindP_use hF
  refine Run.drawV (Ωs := []) [⟨some 22, some (v0), fun _ => [], fun ds_ u_ => [], [], [], none⟩, ⟨some 23, some (v0), fun _ => [], fun ds_ u_ => [], [], [(0, [])], none⟩, ⟨some 24, some ((padd v0 0)), fun _ => [], fun ds_ u_ => [], [], [(0, [])], none⟩, ⟨some 25, none, fun u_ => [(false, .val (Rep.slice (Rep.int .i64)) u_ d1.L)], fun ds_ u_ => [], [], [(0, [])], none⟩, ⟨some 26, some (v0), fun _ => [], fun ds_ u_ => [], [], [], none⟩, ⟨some 27, some (v0), fun _ => [], fun ds_ u_ => [], [], [(0, [])], none⟩, ⟨some 28, some ((padd v0 1)), fun _ => [], fun ds_ u_ => [], [], [(0, [])], none⟩, ⟨some 29, some (.int .i64 d1.At), fun _ => [], fun ds_ u_ => [], [], [(0, [])], none⟩, ⟨some 30, some (.int .i64 (IntKind.i64.wrap (d1.At - 1))), fun _ => [], fun ds_ u_ => [], [], [], none⟩, ⟨some 31, none, fun u_ => [(false, .ptr (Rep.int .i64) u_ x1)], fun ds_ u_ => [], [], [], none⟩, ⟨some 32, some (.int .i64 x1), fun _ => [], fun ds_ u_ => [], [], [], none⟩, ⟨some 33, some (.int .i64 a1), fun _ => [], fun ds_ u_ => [], [], [], none⟩, ⟨some 34, some (.int .i64 y1), fun _ => [], fun ds_ u_ => [], [], [], none⟩] [[], [0], [1], [2], [], [4], [5], [6], [7], [3, 8], [9], [], [10, 11]] [[(false, .box 85 made_Dice.rep v0 d1)]] [0, 1, 2, 3, 4, 5, 6, 7, 8, 9, 10, 11, 12, 13] Try_mixed rfl rfl rfl h4 (.cons ?_ (.cons ?_ (.cons ?_ (.cons ?_ (.cons ?_ (.cons ?_ (.cons ?_ (.cons ?_ (.cons ?_ (.cons ?_ (.cons ?_ (.cons ?_ (.cons ?_ .nil))))))))))))) (fun q2 w hq2 h => ?_)
  ·intro q2 w Γx Ωx h
   refine OpS.mv rfl rfl rfl ?_
   exact ⟨undef, rfl, trivial, h⟩
  ·intro q2 w Γx Ωx h
   have h : St e w ([(false, .val (Rep.slice (Rep.int .i64)) (q1 7) a0.L)] ++ Γx) ([(false, .box 85 made_Dice.rep v0 d1)] ++ Ωx) := h
   refine OpS.nchk h .z rfl rfl rfl ?_
   exact ⟨undef, rfl, trivial, h⟩
  ·intro q2 w Γx Ωx h
   have h : St e w ([(false, .val (Rep.slice (Rep.int .i64)) (q1 7) a0.L)] ++ Γx) ([(false, .box 85 made_Dice.rep v0 d1)] ++ Ωx) := h
   refine OpS.fbox (o3 := 0) h .z PA.z fa85_0 rfl rfl rfl rfl ?_
   exact ⟨undef, rfl, trivial, h⟩
  ·intro q2 w Γx Ωx h
   have h : St e w ([(false, .val (Rep.slice (Rep.int .i64)) (q1 7) a0.L)] ++ Γx) ([(false, .box 85 made_Dice.rep v0 d1)] ++ Ωx) := h
   refine OpS.loadB h .z PA.a (Get.fld made_Dice.f0) ty33 rfl rfl rfl (fun u h9 => ?_)
   exact ⟨u, rfl, trivial, h9⟩
  ·intro q2 w Γx Ωx h
   refine OpS.mv rfl rfl rfl ?_
   exact ⟨undef, rfl, trivial, h⟩
  ·intro q2 w Γx Ωx h
   have h : St e w ([(false, .val (Rep.slice (Rep.int .i64)) (q1 7) a0.L)] ++ Γx) ([(false, .box 85 made_Dice.rep v0 d1)] ++ Ωx) := h
   refine OpS.nchk h .z rfl rfl rfl ?_
   exact ⟨undef, rfl, trivial, h⟩
  ·intro q2 w Γx Ωx h
   have h : St e w ([(false, .val (Rep.slice (Rep.int .i64)) (q1 7) a0.L)] ++ Γx) ([(false, .box 85 made_Dice.rep v0 d1)] ++ Ωx) := h
   refine OpS.fbox (o3 := 1) h .z PA.z fa85_1 rfl rfl rfl rfl ?_
   exact ⟨undef, rfl, trivial, h⟩
  ·intro q2 w Γx Ωx h
   have h : St e w ([(false, .val (Rep.slice (Rep.int .i64)) (q1 7) a0.L)] ++ Γx) ([(false, .box 85 made_Dice.rep v0 d1)] ++ Ωx) := h
   refine OpS.loadBi h .z PA.a (Get.fld made_Dice.f1) ty3 rfl rfl rfl ?_
   exact ⟨undef, rfl, trivial, h⟩
  ·intro q2 w Γx Ωx h
   refine OpS.bin rfl rfl rfl rfl rfl ?_
   exact ⟨undef, rfl, trivial, h⟩
  ·intro q2 w Γx Ωx h
   refine OpS.iptr h Try.underlying33 ty3 rfl rfl rfl rfl (V.at .z) e3 (fun u h10 => ?_)
   exact ⟨u, rfl, trivial, h10⟩
  ·intro q2 w Γx Ωx h
   refine OpS.loadi h ty3 rfl rfl rfl .z ?_
   exact ⟨undef, rfl, trivial, h⟩
  ·intro q2 w Γx Ωx h
   refine OpS.mv rfl rfl rfl ?_
   exact ⟨undef, rfl, trivial, h⟩
  ·intro q2 w Γx Ωx h
   refine OpS.callP h Try.func12 rfl rfl rfl rfl (vs := [.int .i64 x1, .int .i64 a1]) rfl (made_Mod_ok e4) .nil ?_
   rintro _ w3 _ _ _ ⟨rfl, rfl, rfl, rfl⟩ h11
   have h12 := h11 rfl rfl
   simp only [List.cons_append, List.nil_append] at h12
   exact ⟨undef, rfl, trivial, h12⟩
  have h13 : St e w [(false, .val (Rep.slice (Rep.int .i64)) (q2 3) d1.L), (false, .ptr (Rep.int .i64) (q2 9) x1), (false, .val (Rep.slice (Rep.int .i64)) (q1 7) a0.L)] [(false, .box 85 made_Dice.rep v0 d1)] := h
  refine op (OpS.as rfl rfl rfl ?_)
  refine RunL.nil ?_
  refine Run.slim [(4, .int .i64 y1)] ⟨rfl, trivial⟩ ?_
  refine Run.retP rfl (.tmp rfl .nil) ?_
  cases hF
  exact Post.mk' ⟨rfl, rfl, rfl, rfl⟩ (h13.picks (.cons .z .nil)) .nil
theorem made_Dice_Bool_ok {fuel : Nat} {a0 : made_Dice} {a1 : Int} {y : Bool × made_Dice} (hF : made_Dice_Bool fuel a0 a1 = some y) {w : World} {v0 : Value} :
  Spec Try.prog 22 [v0, .int .i64 a1].toArray w [] [(false, .box 85 made_Dice.rep v0 a0)] (fun v Γr Ωr Ωo => v = .bool y.1 ∧ Γr = [] ∧ Ωr = [] ∧ Ωo = [(false, .box 85 made_Dice.rep v0 y.2)]) := by
 refine Spec.of (L := [(0, v0), (1, .int .i64 a1)]) Try.func22 rfl ⟨rfl, rfl, trivial⟩ rfl (fun e h => ?_)
 unfold made_Dice_Bool at hF
 refine Run.seq ?_
 refine Run.reg ?_
 refine op (OpS.as rfl rfl rfl ?_)
 refine RunL.nil ?_
 refine Run.slim [(0, v0), (1, .int .i64 a1)] ⟨rfl, rfl, trivial⟩ ?_
 refine Run.seq ?_
 refine Run.reg ?_
 refine op (OpS.mv rfl rfl rfl ?_)
 refine op (OpS.mv rfl rfl rfl ?_)
 obtain ⟨y1, e1, hF⟩ := bindP_use hF
 have h1 := h.front (.cons .z .nil)
 refine op (OpS.callO h1 Try.func23 rfl rfl rfl rfl (vs := [v0, .int .i64 a1]) rfl (made_Dice_Next_ok e1) rfl .nil ?_)
 rintro _ w1 _ _ _ ⟨rfl, rfl, rfl, rfl⟩ h2
 have h3 := h2
 simp only [List.cons_append, List.nil_append] at h3
 refine op (OpS.mv rfl rfl rfl ?_)
 refine op (OpS.bin rfl rfl rfl rfl rfl ?_)
 refine op (OpS.bin rfl rfl rfl rfl rfl ?_)
 refine op (OpS.as rfl rfl rfl ?_)
 obtain ⟨x1, e2, hF⟩ := letP_use hF
 refine RunL.nameb e2 ?_
 refine RunL.nil ?_
 refine Run.slim [(4, .bool x1)] ⟨rfl, trivial⟩ ?_
 refine Run.retP rfl (.tmp rfl .nil) ?_
 cases hF
 exact Post.mk' ⟨rfl, rfl, rfl, rfl⟩ (h3.picks (.cons .z .nil)) .nil
theorem made_Dice_Byte_ok {fuel : Nat} {a0 : made_Dice} {y : Int × made_Dice} (hF : made_Dice_Byte fuel a0 = some y) {w : World} {v0 : Value} :
  Spec Try.prog 34 [v0].toArray w [] [(false, .box 85 made_Dice.rep v0 a0)] (fun v Γr Ωr Ωo => v = .int .u8 y.1 ∧ Γr = [] ∧ Ωr = [] ∧ Ωo = [(false, .box 85 made_Dice.rep v0 y.2)]) := by
 refine Spec.of (L := [(0, v0)]) Try.func34 rfl ⟨rfl, trivial⟩ rfl (fun e h => ?_)
 unfold made_Dice_Byte at hF
 refine Run.seq ?_
 refine Run.reg ?_
 refine op (OpS.as rfl rfl rfl ?_)
 refine RunL.nil ?_
 refine Run.slim [(0, v0)] ⟨rfl, trivial⟩ ?_
 refine Run.seq ?_
 refine Run.reg ?_
 refine op (OpS.buildA (f := true) (r := (Rep.int .u8)) h Try.underlying96 ti5 rfl ti96 rfl rfl rfl (.cons rfl V.int (.cons rfl V.int (.cons rfl V.int (.cons rfl V.int (.cons rfl V.int (.cons rfl V.int (.cons rfl V.int (.cons rfl V.int .nil)))))))) rfl (fun u1 h1 => ?_))
 refine op (OpS.alloc h1 ti96 (Zr.of (Zr.arr (Zr.int .u8 0) 8) rfl) rfl rfl (fun u2 w1 h2 => ?_))
 obtain ⟨d1, e1, hF⟩ := letP_use hF
 refine op (OpS.storeB (f' := true) h2 .z PA.z (Put.of Put.id e1) ty96 rfl rfl rfl (V.at .z) (.inl rfl) (fun w2 h3 => ?_))
 refine RunL.nil ?_
 refine Run.slim [(3, u2), (0, v0)] ⟨rfl, rfl, trivial⟩ ?_
 refine Run.seq ?_
 refine Run.seq ?_
 refine Run.reg ?_
 refine op (OpS.mv rfl rfl rfl ?_)
 obtain ⟨y1, e2, hF⟩ := bindP_use hF
 have h4 := h3.front (.cons (.s .z) .nil)
 refine op (OpS.callO h4 Try.func22 rfl rfl rfl rfl (vs := [v0, .int .i64 3]) rfl (made_Dice_Bool_ok e2) rfl .nil ?_)
 rintro _ w3 _ _ _ ⟨rfl, rfl, rfl, rfl⟩ h5
 have h6 := h5
 simp only [List.cons_append, List.nil_append] at h6
 refine RunL.nil ?_
 refine Run.slim [(6, .bool y1.1), (3, u2), (0, v0)] ⟨rfl, rfl, rfl, trivial⟩ ?_
 refine Run.ite rfl hF (fun e3 hF => ?_) (fun e3 hF => ?_)
 ·
  refine Run.seq ?_
  refine Run.reg ?_
  refine op (OpS.mv rfl rfl rfl ?_)
  obtain ⟨y2, e4, hF⟩ := bindP_use hF
  have h7 := h6.front (.cons .z .nil)
  refine op (OpS.callO h7 Try.func23 rfl rfl rfl rfl (vs := [v0, .int .i64 8]) rfl (made_Dice_Next_ok e4) rfl .nil ?_)
  rintro _ w4 _ _ _ ⟨rfl, rfl, rfl, rfl⟩ h8
  have h9 := h8
  simp only [List.cons_append, List.nil_append] at h9
  obtain ⟨x1, e5, hF⟩ := bindP_use hF
  obtain ⟨e6, hF⟩ := chk_use hF
  refine op (OpS.ibox h9 (.s .z) PA.z Try.underlying96 ty5 (Nat.eq_of_beq_eq_true e6) rfl rfl rfl rfl e5 ?_)
  refine op (OpS.loadBi h9 (.s .z) PA.a (Get.comp Get.id (Get.arr e5)) ty5 rfl rfl rfl ?_)
  refine op (OpS.as rfl rfl rfl ?_)
  refine RunL.nil ?_
  refine Run.slim [(2, .int .u8 x1)] ⟨rfl, trivial⟩ ?_
  refine Run.retP rfl (.tmp rfl .nil) ?_
  cases hF
  exact Post.mk' ⟨rfl, rfl, rfl, rfl⟩ (h9.picks (.cons .z .nil)) .nil
 ·
  refine Run.skip ?_
  refine Run.seq ?_
  refine Run.reg ?_
  refine op (OpS.mv rfl rfl rfl ?_)
  obtain ⟨y3, e7, hF⟩ := bindP_use hF
  have h10 := h6.front (.cons .z .nil)
  refine op (OpS.callO h10 Try.func23 rfl rfl rfl rfl (vs := [v0, .int .i64 256]) rfl (made_Dice_Next_ok e7) rfl .nil ?_)
  rintro _ w5 _ _ _ ⟨rfl, rfl, rfl, rfl⟩ h11
  have h12 := h11
  simp only [List.cons_append, List.nil_append] at h12
  refine op (OpS.conv Try.underlying3 Try.underlying5 rfl rfl rfl ?_)
  refine op (OpS.as rfl rfl rfl ?_)
  refine RunL.nil ?_
  refine Run.slim [(2, .int .u8 (IntKind.u8.wrap y3.1))] ⟨rfl, trivial⟩ ?_
  refine Run.retP rfl (.tmp rfl .nil) ?_
  cases hF
  exact Post.mk' ⟨rfl, rfl, rfl, rfl⟩ (h12.picks (.cons .z .nil)) .nil
theorem made_Dice_Bytes_ok {fuel : Nat} {a0 : made_Dice} {a1 : Int} {y : (List Int) × made_Dice} (hF : made_Dice_Bytes fuel a0 a1 = some y) {w : World} {v0 : Value} :
  Spec Try.prog 43 [v0, .int .i64 a1].toArray w [] [(false, .box 85 made_Dice.rep v0 a0)] (fun v Γr Ωr Ωo => ∃ u0 : Value, v = u0 ∧ Γr = [] ∧ Ωr = [(true, (.slice 5 (Rep.int .u8) u0 y.1))] ∧ Ωo = [(false, .box 85 made_Dice.rep v0 y.2)]) := by
 refine Spec.of (L := [(0, v0), (1, .int .i64 a1)]) Try.func43 rfl ⟨rfl, rfl, trivial⟩ rfl (fun e h => ?_)
 unfold made_Dice_Bytes at hF
 refine Run.seq ?_
 refine Run.reg ?_
 refine op (OpS.as rfl rfl rfl ?_)
 refine RunL.nil ?_
 refine Run.slim [(0, v0), (1, .int .i64 a1)] ⟨rfl, rfl, trivial⟩ ?_
 refine Run.seq ?_
 refine Run.reg ?_
 refine op (OpS.as rfl rfl rfl ?_)
 refine RunL.nil ?_
 refine Run.seq ?_
 refine Run.seq ?_
 refine Run.reg ?_
 refine op (OpS.mv rfl rfl rfl ?_)
 refine op (OpS.mv rfl rfl rfl ?_)
 refine op (OpS.bin rfl rfl rfl rfl rfl ?_)
 obtain ⟨y1, e1, hF⟩ := bindP_use hF
 have h1 := h.front (.cons .z .nil)
 refine op (OpS.callO h1 Try.func23 rfl rfl rfl rfl (vs := [v0, .int .i64 (IntKind.i64.wrap (a1 + 1))]) rfl (made_Dice_Next_ok e1) rfl .nil ?_)
 rintro _ w1 _ _ _ ⟨rfl, rfl, rfl, rfl⟩ h2
 have h3 := h2
 simp only [List.cons_append, List.nil_append] at h3
 refine op (OpS.as rfl rfl rfl ?_)
 refine RunL.nil ?_
 refine Run.slim [(6, .int .i64 y1.1), (5, .slice none 0 0), (0, v0)] ⟨rfl, rfl, rfl, trivial⟩ ?_
 refine Run.block ?_
 have h4 := St.nil 5 (Rep.int .u8) h3
 refine Run.slim [(0, v0), (5, (.slice none 0 0)), (6, .int .i64 y1.1)] ⟨rfl, rfl, rfl, trivial⟩ ?_
 refine Run.loopP (σ := (Int × made_Dice × (List Int))) (fun s_ L_ w_ => ∃ u0_ : Value, L_ = [(0, v0), (5, u0_), (6, .int .i64 s_.1)] ∧ St e w_ [] [(false, .box 85 made_Dice.rep v0 s_.2.1), (true, .slice 5 (Rep.int .u8) u0_ s_.2.2)]) hF ⟨(.slice none 0 0), rfl, (h4.facts .nil).picks (.cons (.s .z) (.cons .z .nil))⟩ (fun k1 hk1 s1 _ w2 hI hF => ?_)
 obtain ⟨u1, rfl, h5⟩ := hI
 refine Run.seq ?_
 refine Run.seq ?_
 refine Run.reg ?_
 refine op (OpS.mv rfl rfl rfl ?_)
 refine op (OpS.bin rfl rfl rfl rfl rfl ?_)
 refine RunL.nil ?_
 refine Run.slim [(12, .bool (decide (s1.1 > 0))), (0, v0), (5, u1), (6, .int .i64 s1.1)] ⟨rfl, rfl, rfl, rfl, trivial⟩ ?_
 refine Run.ite rfl hF (fun e2 hF => ?_) (fun e2 hF => ?_)
 ·
  refine Run.skip ?_
  refine Run.seq ?_
  refine Run.block ?_
  refine Run.reg ?_
  refine op (OpS.mv rfl rfl rfl ?_)
  refine op (OpS.mv rfl rfl rfl ?_)
  obtain ⟨y2, e3, hF⟩ := bindP_use hF
  have h6 := h5.front (.cons .z .nil)
  refine op (OpS.callO h6 Try.func34 rfl rfl rfl rfl (vs := [v0]) rfl (made_Dice_Byte_ok e3) rfl .nil ?_)
  rintro _ w3 _ _ _ ⟨rfl, rfl, rfl, rfl⟩ h7
  have h8 := h7
  simp only [List.cons_append, List.nil_append] at h8
  refine op (OpS.lit (r := (Rep.int .u8)) (f := true) h8 Try.underlying22 ti5 rfl rfl rfl rfl rfl (.cons rfl V.int .nil) rfl rfl (fun u2 w4 h9 => ?_))
  obtain ⟨x1, e4, hF⟩ := bindP_use hF
  refine op (OpS.app (f' := true) h9 (.s .z) Try.underlying22 ti5 rfl rfl rfl rfl rfl rfl rfl (V.at .z) (.inr Pure.int) e4 (fun u3 w5 h10 => ?_))
  refine op (OpS.as rfl rfl rfl ?_)
  refine RunL.nil ?_
  refine Run.slim [(5, u3), (0, v0), (6, .int .i64 s1.1)] ⟨rfl, rfl, rfl, trivial⟩ ?_
  refine Run.endBlock ?_
  refine Run.reg ?_
  refine op (OpS.mv rfl rfl rfl ?_)
  refine op (OpS.bin rfl rfl rfl rfl rfl ?_)
  refine op (OpS.as rfl rfl rfl ?_)
  obtain ⟨x2, e5, hF⟩ := letP_use hF
  refine RunL.name e5 ?_
  refine RunL.nil ?_
  refine Run.slim [(6, .int .i64 x2), (5, u3), (0, v0)] ⟨rfl, rfl, rfl, trivial⟩ ?_
  refine Run.slim [(0, v0), (5, u3), (6, .int .i64 x2)] ⟨rfl, rfl, rfl, trivial⟩ ?_
  exact hk1 (x2, y2.2, x1) _ _ ⟨u3, rfl, (h10.facts .nil).picks (.cons (.s .z) (.cons .z .nil))⟩ hF
 ·
  refine Run.exit rfl ?_
  refine Run.seq ?_
  refine Run.reg ?_
  refine op (OpS.mv rfl rfl rfl ?_)
  refine op (OpS.as rfl rfl rfl ?_)
  refine RunL.nil ?_
  refine Run.slim [(4, u1)] ⟨rfl, trivial⟩ ?_
  refine Run.retP rfl (.tmp rfl .nil) ?_
  cases hF
  exact Post.mk' ⟨u1, rfl, rfl, rfl, rfl⟩ (h5.picks (.cons (.s .z) (.cons .z .nil))) .nil
set_option maxHeartbeats 8000000 in
theorem made_Dice_Packet_ok {fuel : Nat} {a0 : made_Dice} {y : Packet_ × made_Dice} (hF : made_Dice_Packet fuel a0 = some y) {w : World} {v0 : Value} :
  Spec Try.prog 21 [v0].toArray w [] [(false, .box 85 made_Dice.rep v0 a0)] (fun v Γr Ωr Ωo => ∃ u0 : Value, v = u0 ∧ Γr = [(true, .val Packet_.rep u0 y.1)] ∧ Ωr = [] ∧ Ωo = [(false, .box 85 made_Dice.rep v0 y.2)]) := by
 refine Spec.of (L := [(0, v0)]) Try.func21 rfl ⟨rfl, trivial⟩ rfl (fun e h => ?_)
 unfold made_Dice_Packet at hF
 refine Run.seq ?_
 refine Run.reg ?_
 refine op (OpS.alloc h ti44 Packet_.zr rfl rfl (fun u1 w1 h1 => ?_))
 refine RunL.nil ?_
 refine Run.seq ?_
 refine Run.reg ?_
 refine op (OpS.mv rfl rfl rfl ?_)
 obtain ⟨y1, e1, hF⟩ := bindP_use hF
 have h2 := h1.front (.cons (.s .z) .nil)
 refine op (OpS.callO h2 Try.func23 rfl rfl rfl rfl (vs := [v0, .int .i64 3]) rfl (made_Dice_Next_ok e1) rfl .nil ?_)
 rintro _ w2 _ _ _ ⟨rfl, rfl, rfl, rfl⟩ h3
 have h4 := h3
 simp only [List.cons_append, List.nil_append] at h4
 refine op (OpS.bin rfl rfl rfl rfl rfl ?_)
 refine op (OpS.conv Try.underlying3 Try.underlying5 rfl rfl rfl ?_)
 refine op (OpS.mv rfl rfl rfl ?_)
 obtain ⟨y2, e2, hF⟩ := bindP_use hF
 have h5 := h4.front (.cons .z .nil)
 refine op (OpS.callO h5 Try.func22 rfl rfl rfl rfl (vs := [v0, .int .i64 2]) rfl (made_Dice_Bool_ok e2) rfl .nil ?_)
 rintro _ w3 _ _ _ ⟨rfl, rfl, rfl, rfl⟩ h6
 have h7 := h6
 simp only [List.cons_append, List.nil_append] at h7
 refine op (OpS.mv rfl rfl rfl ?_)
 obtain ⟨y3, e3, hF⟩ := bindP_use hF
 have h8 := h7.front (.cons .z .nil)
 refine op (OpS.callO h8 Try.func22 rfl rfl rfl rfl (vs := [v0, .int .i64 3]) rfl (made_Dice_Bool_ok e3) rfl .nil ?_)
 rintro _ w4 _ _ _ ⟨rfl, rfl, rfl, rfl⟩ h9
 have h10 := h9
 simp only [List.cons_append, List.nil_append] at h10
 refine op (OpS.mv rfl rfl rfl ?_)
 obtain ⟨y4, e4, hF⟩ := bindP_use hF
 have h11 := h10.front (.cons .z .nil)
 refine op (OpS.callO h11 Try.func23 rfl rfl rfl rfl (vs := [v0, .int .i64 4]) rfl (made_Dice_Next_ok e4) rfl .nil ?_)
 rintro _ w5 _ _ _ ⟨rfl, rfl, rfl, rfl⟩ h12
 have h13 := h12
 simp only [List.cons_append, List.nil_append] at h13
 refine op (OpS.mv rfl rfl rfl ?_)
 obtain ⟨y5, e5, hF⟩ := bindP_use hF
 have h14 := h13.front (.cons .z .nil)
 refine op (OpS.callO h14 Try.func22 rfl rfl rfl rfl (vs := [v0, .int .i64 2]) rfl (made_Dice_Bool_ok e5) rfl .nil ?_)
 rintro _ w6 _ _ _ ⟨rfl, rfl, rfl, rfl⟩ h15
 have h16 := h15
 simp only [List.cons_append, List.nil_append] at h16
 refine op (OpS.mv rfl rfl rfl ?_)
 obtain ⟨y6, e6, hF⟩ := bindP_use hF
 have h17 := h16.front (.cons .z .nil)
 refine op (OpS.callO h17 Try.func23 rfl rfl rfl rfl (vs := [v0, .int .i64 3]) rfl (made_Dice_Next_ok e6) rfl .nil ?_)
 rintro _ w7 _ _ _ ⟨rfl, rfl, rfl, rfl⟩ h18
 have h19 := h18
 simp only [List.cons_append, List.nil_append] at h19
 refine op (OpS.mv rfl rfl rfl ?_)
 obtain ⟨y7, e7, hF⟩ := bindP_use hF
 have h20 := h19.front (.cons .z .nil)
 refine op (OpS.callO h20 Try.func43 rfl rfl rfl rfl (vs := [v0, .int .i64 3]) rfl (made_Dice_Bytes_ok e7) rfl .nil ?_)
 rintro u2 w8 _ _ _ ⟨_, rfl, rfl, rfl, rfl⟩ h21
 have h22 := h21
 simp only [List.cons_append, List.nil_append] at h22
 refine op (OpS.lit (r := (Rep.int .u8)) (f := true) h22 Try.underlying22 ti5 rfl rfl rfl rfl rfl (.cons rfl V.int .nil) rfl rfl (fun u3 w9 h23 => ?_))
 obtain ⟨x1, e8, hF⟩ := bindP_use hF
 refine op (OpS.app (f' := true) h23 .z Try.underlying22 ti5 rfl rfl rfl rfl rfl rfl rfl (V.at .z) (.inr Pure.int) e8 (fun u4 w10 h24 => ?_))
 have h25 := (h24.pick .z).freeze
 refine op (OpS.build (f := true) (x' := (⟨9, (IntKind.u8.wrap (IntKind.i64.wrap (10 + y1.1))), y2.1, y3.1, y4.1, y5.1, y6.1, x1⟩ : Packet_)) h25 pl44 ti44 Packet_.zr rfl rfl rfl (.cons rfl Packet_.f0 rfl V.int (.cons rfl Packet_.f1 rfl V.int (.cons rfl Packet_.f2 rfl V.bool (.cons rfl Packet_.f3 rfl V.bool (.cons rfl Packet_.f4 rfl V.int (.cons rfl Packet_.f5 rfl V.bool (.cons rfl Packet_.f6 rfl V.int (.cons rfl Packet_.f7 rfl (V.at .z) .nil)))))))) (fun u5 h26 => ?_))
 refine op (OpS.alloc h26 ti44 Packet_.zr rfl rfl (fun u6 w11 h27 => ?_))
 refine op (OpS.storeB (f' := true) h27 .z PA.z Put.id ty44 rfl rfl rfl (V.at .z) (.inl rfl) (fun w12 h28 => ?_))
 refine RunL.nil ?_
 refine Run.slim [(3, u6), (2, u1), (0, v0)] ⟨rfl, rfl, rfl, trivial⟩ ?_
 refine Run.seq ?_
 refine Run.seq ?_
 refine Run.reg ?_
 refine op (OpS.mv rfl rfl rfl ?_)
 obtain ⟨y8, e9, hF⟩ := bindP_use hF
 have h29 := h28.front (.cons (.s .z) .nil)
 refine op (OpS.callO h29 Try.func23 rfl rfl rfl rfl (vs := [v0, .int .i64 30]) rfl (made_Dice_Next_ok e9) rfl .nil ?_)
 rintro _ w13 _ _ _ ⟨rfl, rfl, rfl, rfl⟩ h30
 have h31 := h30
 simp only [List.cons_append, List.nil_append] at h31
 refine RunL.nil ?_
 refine Run.slim [(24, .int .i64 y8.1), (3, u6), (2, u1), (0, v0)] ⟨rfl, rfl, rfl, rfl, trivial⟩ ?_
 refine Run.block ?_
 refine Run.seq ?_
 refine Run.reg ?_
 refine op (OpS.bin rfl rfl rfl rfl rfl ?_)
 refine op (OpS.as rfl rfl rfl ?_)
 obtain ⟨x2, e10, hF⟩ := letP_use hF
 refine RunL.nameb e10 ?_
 refine RunL.nil ?_
 refine Run.slim [(25, .bool x2), (24, .int .i64 y8.1), (3, u6), (2, u1), (0, v0)] ⟨rfl, rfl, rfl, rfl, rfl, trivial⟩ ?_
 refine Run.ite rfl hF (fun e11 hF => ?_) (fun e11 hF => ?_)
 ·
  refine Run.reg ?_
  refine op (OpS.fbox (o3 := 7) h31 (.s .z) PA.z fa44_7 rfl rfl rfl rfl ?_)
  obtain ⟨d1, e12, hF⟩ := letP_use hF
  refine op (OpS.storeB (f' := true) h31 (.s .z) PA.a (Put.of (Put.fld Packet_.f7) e12) ty22 rfl rfl rfl V.nil (.inl rfl) (fun w14 h32 => ?_))
  refine RunL.nil ?_
  refine Run.slim [(3, u6), (2, u1)] ⟨rfl, rfl, trivial⟩ ?_
  refine Run.endBlock ?_
  refine Run.seq ?_
  refine Run.reg ?_
  refine op (OpS.loadB h32 .z PA.z Get.id ty44 rfl rfl rfl (fun u7 h33 => ?_))
  refine op (OpS.storeB (f' := true) h33 (.s (.s .z)) PA.z Put.id ty44 rfl rfl rfl (V.at .z) (.inl rfl) (fun w15 h34 => ?_))
  refine RunL.nil ?_
  refine Run.slim [(2, u1)] ⟨rfl, trivial⟩ ?_
  obtain ⟨u8, hu1, h35⟩ := res_box h34 .z ty44
  refine Run.retP rfl (.cell rfl hu1 .nil) ?_
  cases hF
  exact Post.mk' ⟨u8, rfl, rfl, rfl, rfl⟩ (h35.picks (.cons (.s (.s .z)) .nil)) (.val (V.at .z) .nil)
 ·
  refine Run.seq ?_
  refine Run.reg ?_
  refine op (OpS.bin rfl rfl rfl rfl rfl ?_)
  refine op (OpS.as rfl rfl rfl ?_)
  obtain ⟨x3, e13, hF⟩ := letP_use hF
  refine RunL.nameb e13 ?_
  refine RunL.nil ?_
  refine Run.slim [(28, .bool x3), (24, .int .i64 y8.1), (3, u6), (2, u1), (0, v0)] ⟨rfl, rfl, rfl, rfl, rfl, trivial⟩ ?_
  refine Run.ite rfl hF (fun e14 hF => ?_) (fun e14 hF => ?_)
  ·
   refine Run.reg ?_
   refine op (OpS.mv rfl rfl rfl ?_)
   obtain ⟨y9, e15, hF⟩ := bindP_use hF
   have h36 := h31.front (.cons .z .nil)
   refine op (OpS.callO h36 Try.func34 rfl rfl rfl rfl (vs := [v0]) rfl (made_Dice_Byte_ok e15) rfl .nil ?_)
   rintro _ w16 _ _ _ ⟨rfl, rfl, rfl, rfl⟩ h37
   have h38 := h37
   simp only [List.cons_append, List.nil_append] at h38
   refine op (OpS.fbox (o3 := 0) h38 (.s .z) PA.z fa44_0 rfl rfl rfl rfl ?_)
   obtain ⟨d2, e16, hF⟩ := letP_use hF
   refine op (OpS.storeB (f' := true) h38 (.s .z) PA.a (Put.of (Put.fld Packet_.f0) e16) ty5 rfl rfl rfl V.int (.inl rfl) (fun w17 h39 => ?_))
   refine RunL.nil ?_
   refine Run.slim [(3, u6), (2, u1)] ⟨rfl, rfl, trivial⟩ ?_
   refine Run.endBlock ?_
   refine Run.seq ?_
   refine Run.reg ?_
   refine op (OpS.loadB h39 .z PA.z Get.id ty44 rfl rfl rfl (fun u9 h40 => ?_))
   refine op (OpS.storeB (f' := true) h40 (.s (.s .z)) PA.z Put.id ty44 rfl rfl rfl (V.at .z) (.inl rfl) (fun w18 h41 => ?_))
   refine RunL.nil ?_
   refine Run.slim [(2, u1)] ⟨rfl, trivial⟩ ?_
   obtain ⟨u10, hu2, h42⟩ := res_box h41 .z ty44
   refine Run.retP rfl (.cell rfl hu2 .nil) ?_
   cases hF
   exact Post.mk' ⟨u10, rfl, rfl, rfl, rfl⟩ (h42.picks (.cons (.s (.s .z)) .nil)) (.val (V.at .z) .nil)
  ·
   refine Run.seq ?_
   refine Run.reg ?_
   refine op (OpS.bin rfl rfl rfl rfl rfl ?_)
   refine op (OpS.as rfl rfl rfl ?_)
   obtain ⟨x4, e17, hF⟩ := letP_use hF
   refine RunL.nameb e17 ?_
   refine RunL.nil ?_
   refine Run.slim [(33, .bool x4), (24, .int .i64 y8.1), (3, u6), (2, u1), (0, v0)] ⟨rfl, rfl, rfl, rfl, rfl, trivial⟩ ?_
   refine Run.ite rfl hF (fun e18 hF => ?_) (fun e18 hF => ?_)
   ·
    refine Run.reg ?_
    refine op (OpS.fbox (o3 := 6) h31 (.s .z) PA.z fa44_6 rfl rfl rfl rfl ?_)
    obtain ⟨d3, e19, hF⟩ := letP_use hF
    refine op (OpS.storeB (f' := true) h31 (.s .z) PA.a (Put.of (Put.fld Packet_.f6) e19) ty3 rfl rfl rfl V.int (.inl rfl) (fun w19 h43 => ?_))
    refine RunL.nil ?_
    refine Run.slim [(3, u6), (2, u1)] ⟨rfl, rfl, trivial⟩ ?_
    refine Run.endBlock ?_
    refine Run.seq ?_
    refine Run.reg ?_
    refine op (OpS.loadB h43 .z PA.z Get.id ty44 rfl rfl rfl (fun u11 h44 => ?_))
    refine op (OpS.storeB (f' := true) h44 (.s (.s .z)) PA.z Put.id ty44 rfl rfl rfl (V.at .z) (.inl rfl) (fun w20 h45 => ?_))
    refine RunL.nil ?_
    refine Run.slim [(2, u1)] ⟨rfl, trivial⟩ ?_
    obtain ⟨u12, hu3, h46⟩ := res_box h45 .z ty44
    refine Run.retP rfl (.cell rfl hu3 .nil) ?_
    cases hF
    exact Post.mk' ⟨u12, rfl, rfl, rfl, rfl⟩ (h46.picks (.cons (.s (.s .z)) .nil)) (.val (V.at .z) .nil)
   ·
    refine Run.seq ?_
    refine Run.reg ?_
    refine op (OpS.bin rfl rfl rfl rfl rfl ?_)
    refine op (OpS.as rfl rfl rfl ?_)
    obtain ⟨x5, e20, hF⟩ := letP_use hF
    refine RunL.nameb e20 ?_
    refine RunL.nil ?_
    refine Run.slim [(36, .bool x5), (3, u6), (2, u1), (0, v0)] ⟨rfl, rfl, rfl, rfl, trivial⟩ ?_
    refine Run.ite rfl hF (fun e21 hF => ?_) (fun e21 hF => ?_)
    ·
     refine Run.reg ?_
     refine op (OpS.mv rfl rfl rfl ?_)
     obtain ⟨y10, e22, hF⟩ := bindP_use hF
     have h47 := h31.front (.cons .z .nil)
     refine op (OpS.callO h47 Try.func23 rfl rfl rfl rfl (vs := [v0, .int .i64 2]) rfl (made_Dice_Next_ok e22) rfl .nil ?_)
     rintro _ w21 _ _ _ ⟨rfl, rfl, rfl, rfl⟩ h48
     have h49 := h48
     simp only [List.cons_append, List.nil_append] at h49
     refine op (OpS.bin rfl rfl rfl rfl rfl ?_)
     obtain ⟨x6, e23, hF⟩ := bindP_use hF
     refine op (OpS.make h49 Try.underlying22 ti5 rfl rfl (Zr.int .u8 0) rfl rfl rfl rfl e23 (by simp) (mk_fits e23) rfl (fun u13 w22 h50 => ?_))
     refine op (OpS.fbox (o3 := 7) h50 (.s (.s .z)) PA.z fa44_7 rfl rfl rfl rfl ?_)
     refine op (OpS.storeC (f' := true) (fr := (Rep.raw u13)) (r' := (Rep.iso (fun s : Packet_ => (s.To, s.From, s.Start, s.End, s.Sequence, s.Owner, s.Tag, s.Data, ())) (Rep.prod (Rep.int .u8) (Rep.prod (Rep.int .u8) (Rep.prod Rep.bool (Rep.prod Rep.bool (Rep.prod (Rep.int .i64) (Rep.prod Rep.bool (Rep.prod (Rep.int .i64) (Rep.prod (Rep.raw (α := List Int) u13) Rep.unit)))))))))) (x' := (⟨9, (IntKind.u8.wrap (IntKind.i64.wrap (10 + y1.1))), y2.1, y3.1, y4.1, y5.1, y6.1, x1⟩ : Packet_)) h50 (.s (.s .z)) PA.a (Chg.iso _ (Chg.there (Chg.there (Chg.there (Chg.there (Chg.there (Chg.there (Chg.there (Chg.here (Chg.id (by rfl))))))))))) (Ty.like ty22 (by rfl) (by rfl)) rfl rfl rfl (V.raw (f := true) (St.own1 h50 .z) ((⟨9, (IntKind.u8.wrap (IntKind.i64.wrap (10 + y1.1))), y2.1, y3.1, y4.1, y5.1, y6.1, x1⟩ : Packet_).Data)) (.inl rfl) (fun w23 h51 => ?_))
     refine RunL.nil ?_
     refine Run.slim [(3, u6), (2, u1)] ⟨rfl, rfl, trivial⟩ ?_
     refine Run.endBlock ?_
     refine Run.seq ?_
     refine Run.reg ?_
     refine op (OpS.loadB (fr := (Rep.iso (fun s : Packet_ => (s.To, s.From, s.Start, s.End, s.Sequence, s.Owner, s.Tag, s.Data, ())) (Rep.prod (Rep.int .u8) (Rep.prod (Rep.int .u8) (Rep.prod Rep.bool (Rep.prod Rep.bool (Rep.prod (Rep.int .i64) (Rep.prod Rep.bool (Rep.prod (Rep.int .i64) (Rep.prod (Rep.raw (α := List Int) u13) Rep.unit)))))))))) h51 .z PA.z (GetS.ok GetS.id) (Ty.like ty44 (by rfl) (by rfl)) rfl rfl rfl (fun u14 h52 => ?_))
     refine op (OpS.storeC (f' := true) (fr := (Rep.iso (fun s : Packet_ => (s.To, s.From, s.Start, s.End, s.Sequence, s.Owner, s.Tag, s.Data, ())) (Rep.prod (Rep.int .u8) (Rep.prod (Rep.int .u8) (Rep.prod Rep.bool (Rep.prod Rep.bool (Rep.prod (Rep.int .i64) (Rep.prod Rep.bool (Rep.prod (Rep.int .i64) (Rep.prod (Rep.raw (α := List Int) u13) Rep.unit)))))))))) (r' := (Rep.iso (fun s : Packet_ => (s.To, s.From, s.Start, s.End, s.Sequence, s.Owner, s.Tag, s.Data, ())) (Rep.prod (Rep.int .u8) (Rep.prod (Rep.int .u8) (Rep.prod Rep.bool (Rep.prod Rep.bool (Rep.prod (Rep.int .i64) (Rep.prod Rep.bool (Rep.prod (Rep.int .i64) (Rep.prod (Rep.raw (α := List Int) u13) Rep.unit)))))))))) (x' := (⟨9, (IntKind.u8.wrap (IntKind.i64.wrap (10 + y1.1))), y2.1, y3.1, y4.1, y5.1, y6.1, x1⟩ : Packet_)) h52 (.s (.s (.s .z))) PA.z (Chg.id (by rfl)) (Ty.like ty44 (by rfl) (by rfl)) rfl rfl rfl (V.at .z) (.inl rfl) (fun w24 h53 => ?_))
     refine RunL.nil ?_
     refine Run.slim [(2, u1)] ⟨rfl, trivial⟩ ?_
     obtain ⟨u15, hu4, h54⟩ := res_box h53 .z (Ty.like ty44 (by rfl) (by rfl))
     have h55 := (h54.pick (.s (.s .z))).freeze
     have h56 := h55.pick .z
     have h57 := St.boxJ (r' := Packet_.rep) (x' := { (⟨9, (IntKind.u8.wrap (IntKind.i64.wrap (10 + y1.1))), y2.1, y3.1, y4.1, y5.1, y6.1, x1⟩ : Packet_) with Data := x6 }) h56 (fun _ _ hs_ => (Jn.iso _ (Jn.prod Jn.refl (Jn.prod Jn.refl (Jn.prod Jn.refl (Jn.prod Jn.refl (Jn.prod Jn.refl (Jn.prod Jn.refl (Jn.prod Jn.refl (Jn.prod (Jn.raw ((V.at .z) _ _ hs_) rfl) Jn.refl))))))))))
     have h58 := h57.pick (.s .z)
     have h59 := St.boxJ (r' := Packet_.rep) (x' := { (⟨9, (IntKind.u8.wrap (IntKind.i64.wrap (10 + y1.1))), y2.1, y3.1, y4.1, y5.1, y6.1, x1⟩ : Packet_) with Data := x6 }) h58 (fun _ _ hs_ => (Jn.iso _ (Jn.prod Jn.refl (Jn.prod Jn.refl (Jn.prod Jn.refl (Jn.prod Jn.refl (Jn.prod Jn.refl (Jn.prod Jn.refl (Jn.prod Jn.refl (Jn.prod (Jn.raw ((V.at .z) _ _ hs_) rfl) Jn.refl))))))))))
     have h60 := St.addV (f := true) (r := Packet_.rep) (x := { (⟨9, (IntKind.u8.wrap (IntKind.i64.wrap (10 + y1.1))), y2.1, y3.1, y4.1, y5.1, y6.1, x1⟩ : Packet_) with Data := x6 }) h59 (V.jn (r := (Rep.iso (fun s : Packet_ => (s.To, s.From, s.Start, s.End, s.Sequence, s.Owner, s.Tag, s.Data, ())) (Rep.prod (Rep.int .u8) (Rep.prod (Rep.int .u8) (Rep.prod Rep.bool (Rep.prod Rep.bool (Rep.prod (Rep.int .i64) (Rep.prod Rep.bool (Rep.prod (Rep.int .i64) (Rep.prod (Rep.raw (α := List Int) u13) Rep.unit)))))))))) (x := (⟨9, (IntKind.u8.wrap (IntKind.i64.wrap (10 + y1.1))), y2.1, y3.1, y4.1, y5.1, y6.1, x1⟩ : Packet_)) (V.at (.s .z)) rfl (fun _ _ hs_ => (Jn.iso _ (Jn.prod Jn.refl (Jn.prod Jn.refl (Jn.prod Jn.refl (Jn.prod Jn.refl (Jn.prod Jn.refl (Jn.prod Jn.refl (Jn.prod Jn.refl (Jn.prod (Jn.raw ((V.at .z) _ _ hs_) rfl) Jn.refl)))))))))))
     refine Run.retP rfl (.cell rfl hu4 .nil) ?_
     cases hF
     exact Post.mk' ⟨u15, rfl, rfl, rfl, rfl⟩ (h60.picks (.cons (.s (.s .z)) .nil)) (.val (V.at .z) .nil)
    ·
     refine Run.skip ?_
     refine Run.endBlock ?_
     refine Run.seq ?_
     refine Run.reg ?_
     refine op (OpS.loadB h31 (.s .z) PA.z Get.id ty44 rfl rfl rfl (fun u16 h61 => ?_))
     refine op (OpS.storeB (f' := true) h61 (.s (.s .z)) PA.z Put.id ty44 rfl rfl rfl (V.at .z) (.inl rfl) (fun w25 h62 => ?_))
     refine RunL.nil ?_
     refine Run.slim [(2, u1)] ⟨rfl, trivial⟩ ?_
     obtain ⟨u17, hu5, h63⟩ := res_box h62 .z ty44
     refine Run.retP rfl (.cell rfl hu5 .nil) ?_
     cases hF
     exact Post.mk' ⟨u17, rfl, rfl, rfl, rfl⟩ (h63.picks (.cons (.s .z) .nil)) (.val (V.at .z) .nil)
theorem fragment_Encode_ok {fuel : Nat} {a0 : Packet_} {y : (List Int) × Int} (hF : fragment_Encode fuel a0 = some y) {w : World} {v0 : Value} :
  Spec Try.prog 31 [v0].toArray w [(false, .val Packet_.rep v0 a0)] [] (fun v Γr Ωr Ωo => ∃ u0 : Value, v = .tuple #[u0, .int .i64 y.2] ∧ Γr = [] ∧ Ωr = [(true, (.slice 5 (Rep.int .u8) u0 y.1))] ∧ Ωo = []) := by
 refine Spec.of (L := [(0, v0)]) Try.func31 rfl ⟨rfl, trivial⟩ rfl (fun e h => ?_)
 unfold fragment_Encode at hF
 refine Run.seq ?_
 refine Run.reg ?_
 refine op (OpS.boxF h rfl rfl rfl (V.at .z) (fun u1 w1 h1 => ?_))
 refine op (OpS.as rfl rfl rfl ?_)
 refine op (OpS.as rfl rfl rfl ?_)
 refine RunL.nil ?_
 refine Run.slim [(1, u1)] ⟨rfl, trivial⟩ ?_
 refine Run.seq ?_
 refine Run.seq ?_
 refine Run.reg ?_
 refine op (OpS.loadB h1 .z PA.z Get.id ty44 rfl rfl rfl (fun u2 h2 => ?_))
 obtain ⟨y1, e1, hF⟩ := bindP_use hF
 refine op (OpS.callP h2 Try.func30 rfl rfl rfl rfl (vs := [u2]) rfl (fragment_Valid_ok e1) (.cons (f := false) (V.at .z) .nil) ?_)
 rintro _ w2 _ _ _ ⟨rfl, rfl, rfl, rfl⟩ h3
 have h4 := h3 rfl rfl
 simp only [List.cons_append, List.nil_append] at h4
 refine op (OpS.not rfl rfl rfl ?_)
 refine RunL.nil ?_
 refine Run.slim [(9, .bool (!y1)), (1, u1)] ⟨rfl, rfl, trivial⟩ ?_
 refine Run.ite rfl hF (fun e2 hF => ?_) (fun e2 hF => ?_)
 ·
  refine Run.seq ?_
  refine Run.reg ?_
  refine op (OpS.as rfl rfl rfl ?_)
  refine op (OpS.as rfl rfl rfl ?_)
  refine RunL.nil ?_
  refine Run.slim [(3, .int .i64 1), (2, .slice none 0 0)] ⟨rfl, rfl, trivial⟩ ?_
  have h5 := St.nil 5 (Rep.int .u8) h4
  refine Run.retP rfl (.tmp rfl (.tmp rfl .nil)) ?_
  cases hF
  exact Post.mk' ⟨(.slice none 0 0), rfl, rfl, rfl, rfl⟩ (h5.picks (.cons .z .nil)) .nil
 ·
  refine Run.skip ?_
  refine Run.seq ?_
  refine Run.reg ?_
  refine op (OpS.fbox (o3 := 4) h4 .z PA.z fa44_4 rfl rfl rfl rfl ?_)
  refine op (OpS.loadBi h4 .z PA.a (Get.fld Packet_.f4) ty3 rfl rfl rfl ?_)
  refine op (OpS.bin rfl rfl rfl rfl rfl ?_)
  refine op (OpS.fbox (o3 := 6) h4 .z PA.z fa44_6 rfl rfl rfl rfl ?_)
  refine op (OpS.loadBi h4 .z PA.a (Get.fld Packet_.f6) ty3 rfl rfl rfl ?_)
  refine op (OpS.bin rfl rfl rfl rfl rfl ?_)
  refine op (OpS.conv Try.underlying3 Try.underlying5 rfl rfl rfl ?_)
  refine op (OpS.as rfl rfl rfl ?_)
  obtain ⟨x1, e3, hF⟩ := letP_use hF
  refine RunL.name e3 ?_
  refine RunL.nil ?_
  refine Run.slim [(4, .int .u8 x1), (1, u1)] ⟨rfl, rfl, trivial⟩ ?_
  refine Run.seq ?_
  refine Run.seq ?_
  refine Run.reg ?_
  refine op (OpS.fbox (o3 := 2) h4 .z PA.z fa44_2 rfl rfl rfl rfl ?_)
  refine op (OpS.loadBb h4 .z PA.a (Get.fld Packet_.f2) ty4 rfl rfl rfl ?_)
  refine op (OpS.build (f := true) (x' := (⟨a0.Start, 128⟩ : Anon_af38c4)) h4 pl94 ti94 Anon_af38c4.zr rfl rfl rfl (.cons rfl Anon_af38c4.f0 rfl V.bool (.cons rfl Anon_af38c4.f1 rfl V.int .nil)) (fun u3 h6 => ?_))
  refine op (OpS.fbox (o3 := 3) h6 .z PA.z fa44_3 rfl rfl rfl rfl ?_)
  refine op (OpS.loadBb h6 .z PA.a (Get.fld Packet_.f3) ty4 rfl rfl rfl ?_)
  refine op (OpS.build (f := true) (x' := (⟨a0.End, 64⟩ : Anon_af38c4)) h6 pl94 ti94 Anon_af38c4.zr rfl rfl rfl (.cons rfl Anon_af38c4.f0 rfl V.bool (.cons rfl Anon_af38c4.f1 rfl V.int .nil)) (fun u4 h7 => ?_))
  refine op (OpS.fbox (o3 := 5) h7 .z PA.z fa44_5 rfl rfl rfl rfl ?_)
  refine op (OpS.loadBb h7 .z PA.a (Get.fld Packet_.f5) ty4 rfl rfl rfl ?_)
  refine op (OpS.build (f := true) (x' := (⟨a0.Owner, 8⟩ : Anon_af38c4)) h7 pl94 ti94 Anon_af38c4.zr rfl rfl rfl (.cons rfl Anon_af38c4.f0 rfl V.bool (.cons rfl Anon_af38c4.f1 rfl V.int .nil)) (fun u5 h8 => ?_))
  refine op (OpS.lit (r := Anon_af38c4.rep) (f := true) h8 Try.underlying95 ti94 rfl rfl rfl rfl rfl (.cons rfl (V.at (.s (.s .z))) (.cons rfl (V.at (.s .z)) (.cons rfl (V.at .z) .nil))) rfl rfl (fun u6 w3 h9 => ?_))
  refine op (OpS.len h9 Try.underlying95 rfl rfl rfl (V.at .z) ?_)
  refine op (OpS.mv rfl rfl rfl ?_)
  refine RunL.nil ?_
  refine Run.slim [(28, .int .i64 0), (27, .int .i64 (([(⟨a0.Start, 128⟩ : Anon_af38c4), (⟨a0.End, 64⟩ : Anon_af38c4), (⟨a0.Owner, 8⟩ : Anon_af38c4)]).length : Int)), (26, u6), (4, .int .u8 x1), (1, u1)] ⟨rfl, rfl, rfl, rfl, rfl, trivial⟩ ?_
  refine Run.block ?_
  refine Run.slim [(1, u1), (4, .int .u8 x1), (26, u6), (27, .int .i64 (([(⟨a0.Start, 128⟩ : Anon_af38c4), (⟨a0.End, 64⟩ : Anon_af38c4), (⟨a0.Owner, 8⟩ : Anon_af38c4)]).length : Int)), (28, .int .i64 0)] ⟨rfl, rfl, rfl, rfl, rfl, trivial⟩ ?_
  refine Run.loopP (σ := (Int × Int)) (fun s_ L_ w_ => L_ = [(1, u1), (4, .int .u8 s_.1), (26, u6), (27, .int .i64 (([(⟨a0.Start, 128⟩ : Anon_af38c4), (⟨a0.End, 64⟩ : Anon_af38c4), (⟨a0.Owner, 8⟩ : Anon_af38c4)]).length : Int)), (28, .int .i64 s_.2)] ∧ St e w_ [(true, .val (Rep.slice Anon_af38c4.rep) u6 ([(⟨a0.Start, 128⟩ : Anon_af38c4), (⟨a0.End, 64⟩ : Anon_af38c4), (⟨a0.Owner, 8⟩ : Anon_af38c4)]))] [(false, .box 44 Packet_.rep u1 a0)]) hF ⟨rfl, (h9.facts (.atm .z .nil)).picks (.cons .z .nil)⟩ (fun k1 hk1 s1 _ w4 hI hF => ?_)
  obtain ⟨rfl, h10⟩ := hI
  refine Run.seq ?_
  refine Run.reg ?_
  refine op (OpS.bin rfl rfl rfl rfl rfl ?_)
  refine RunL.nil ?_
  refine Run.seq ?_
  refine Run.ite rfl hF (fun e4 hF => ?_) (fun e4 hF => ?_)
  ·
   refine Run.skip ?_
   refine Run.seq ?_
   refine Run.block ?_
   refine Run.seq ?_
   refine Run.reg ?_
   obtain ⟨x2, e5, hF⟩ := bindP_use hF
   refine op (OpS.iptr h10 Try.underlying95 ty94 rfl rfl rfl rfl (V.at .z) e5 (fun u7 h11 => ?_))
   refine op (OpS.load h11 ty94 rfl rfl rfl .z (fun u8 h12 => ?_))
   refine op (OpS.alloc h12 ti94 Anon_af38c4.zr rfl rfl (fun u9 w5 h13 => ?_))
   refine op (OpS.storeB (f' := true) h13 .z PA.z Put.id ty94 rfl rfl rfl (V.at .z) (.inl rfl) (fun w6 h14 => ?_))
   refine RunL.nil ?_
   refine Run.slim [(6, u9), (1, u1), (4, .int .u8 s1.1), (26, u6), (27, .int .i64 (([(⟨a0.Start, 128⟩ : Anon_af38c4), (⟨a0.End, 64⟩ : Anon_af38c4), (⟨a0.Owner, 8⟩ : Anon_af38c4)]).length : Int)), (28, .int .i64 s1.2)] ⟨rfl, rfl, rfl, rfl, rfl, rfl, trivial⟩ ?_
   refine Run.seq ?_
   refine Run.reg ?_
   refine op (OpS.fbox (o3 := 0) h14 .z PA.z fa94_0 rfl rfl rfl rfl ?_)
   refine op (OpS.loadBb h14 .z PA.a (Get.fld Anon_af38c4.f0) ty4 rfl rfl rfl ?_)
   refine RunL.nil ?_
   refine Run.slim [(33, .bool x2.on), (6, u9), (1, u1), (4, .int .u8 s1.1), (26, u6), (27, .int .i64 (([(⟨a0.Start, 128⟩ : Anon_af38c4), (⟨a0.End, 64⟩ : Anon_af38c4), (⟨a0.Owner, 8⟩ : Anon_af38c4)]).length : Int)), (28, .int .i64 s1.2)] ⟨rfl, rfl, rfl, rfl, rfl, rfl, rfl, trivial⟩ ?_
   refine Run.ite rfl hF (fun e6 hF => ?_) (fun e6 hF => ?_)
   ·
    refine Run.reg ?_
    refine op (OpS.mv rfl rfl rfl ?_)
    refine op (OpS.fbox (o3 := 1) h14 .z PA.z fa94_1 rfl rfl rfl rfl ?_)
    refine op (OpS.loadBi h14 .z PA.a (Get.fld Anon_af38c4.f1) ty5 rfl rfl rfl ?_)
    refine op (OpS.bin rfl rfl rfl rfl rfl ?_)
    refine op (OpS.as rfl rfl rfl ?_)
    refine RunL.nil ?_
    refine Run.slim [(4, .int .u8 (bOr .u8 s1.1 x2.bit)), (1, u1), (26, u6), (27, .int .i64 (([(⟨a0.Start, 128⟩ : Anon_af38c4), (⟨a0.End, 64⟩ : Anon_af38c4), (⟨a0.Owner, 8⟩ : Anon_af38c4)]).length : Int)), (28, .int .i64 s1.2)] ⟨rfl, rfl, rfl, rfl, rfl, trivial⟩ ?_
    refine Run.endBlock ?_
    refine Run.reg ?_
    refine op (OpS.bin rfl rfl rfl rfl rfl ?_)
    refine op (OpS.mv rfl rfl rfl ?_)
    refine RunL.nil ?_
    refine Run.slim [(28, .int .i64 (IntKind.i64.wrap (s1.2 + 1))), (4, .int .u8 (bOr .u8 s1.1 x2.bit)), (1, u1), (26, u6), (27, .int .i64 (([(⟨a0.Start, 128⟩ : Anon_af38c4), (⟨a0.End, 64⟩ : Anon_af38c4), (⟨a0.Owner, 8⟩ : Anon_af38c4)]).length : Int))] ⟨rfl, rfl, rfl, rfl, rfl, trivial⟩ ?_
    refine Run.slim [(1, u1), (4, .int .u8 (bOr .u8 s1.1 x2.bit)), (26, u6), (27, .int .i64 (([(⟨a0.Start, 128⟩ : Anon_af38c4), (⟨a0.End, 64⟩ : Anon_af38c4), (⟨a0.Owner, 8⟩ : Anon_af38c4)]).length : Int)), (28, .int .i64 (IntKind.i64.wrap (s1.2 + 1)))] ⟨rfl, rfl, rfl, rfl, rfl, trivial⟩ ?_
    exact hk1 ((bOr .u8 s1.1 x2.bit), (IntKind.i64.wrap (s1.2 + 1))) _ _ ⟨rfl, (h14.facts (.atm (.s (.s .z)) .nil)).picks (.cons (.s .z) .nil)⟩ hF
   ·
    refine Run.skip ?_
    refine Run.endBlock ?_
    refine Run.reg ?_
    refine op (OpS.bin rfl rfl rfl rfl rfl ?_)
    refine op (OpS.mv rfl rfl rfl ?_)
    refine RunL.nil ?_
    refine Run.slim [(28, .int .i64 (IntKind.i64.wrap (s1.2 + 1))), (1, u1), (4, .int .u8 s1.1), (26, u6), (27, .int .i64 (([(⟨a0.Start, 128⟩ : Anon_af38c4), (⟨a0.End, 64⟩ : Anon_af38c4), (⟨a0.Owner, 8⟩ : Anon_af38c4)]).length : Int))] ⟨rfl, rfl, rfl, rfl, rfl, trivial⟩ ?_
    refine Run.slim [(1, u1), (4, .int .u8 s1.1), (26, u6), (27, .int .i64 (([(⟨a0.Start, 128⟩ : Anon_af38c4), (⟨a0.End, 64⟩ : Anon_af38c4), (⟨a0.Owner, 8⟩ : Anon_af38c4)]).length : Int)), (28, .int .i64 (IntKind.i64.wrap (s1.2 + 1)))] ⟨rfl, rfl, rfl, rfl, rfl, trivial⟩ ?_
    exact hk1 (s1.1, (IntKind.i64.wrap (s1.2 + 1))) _ _ ⟨rfl, (h14.facts (.atm (.s (.s .z)) .nil)).picks (.cons (.s .z) .nil)⟩ hF
  ·
   refine Run.exit rfl ?_
   refine Run.seq ?_
   refine Run.reg ?_
   refine op (OpS.fbox (o3 := 0) h10 .z PA.z fa44_0 rfl rfl rfl rfl ?_)
   refine op (OpS.loadBi h10 .z PA.a (Get.fld Packet_.f0) ty5 rfl rfl rfl ?_)
   refine op (OpS.fbox (o3 := 1) h10 .z PA.z fa44_1 rfl rfl rfl rfl ?_)
   refine op (OpS.loadBi h10 .z PA.a (Get.fld Packet_.f1) ty5 rfl rfl rfl ?_)
   refine op (OpS.mv rfl rfl rfl ?_)
   refine op (OpS.litO (r := (Rep.int .u8)) (f := true) h10 Try.underlying22 ti5 rfl rfl rfl rfl rfl (.cons rfl V.int (.cons rfl V.int (.cons rfl V.int (.cons rfl V.int .nil)))) rfl rfl (fun u10 w7 h15 => ?_))
   refine op (OpS.fbox (o3 := 7) h15 (.s .z) PA.z fa44_7 rfl rfl rfl rfl ?_)
   refine op (OpS.loadB h15 (.s .z) PA.a (Get.fld Packet_.f7) ty22 rfl rfl rfl (fun u11 h16 => ?_))
   obtain ⟨x3, e7, hF⟩ := bindP_use hF
   refine op (OpS.app (f' := false) h16 .z Try.underlying22 ti5 rfl rfl rfl rfl rfl rfl rfl (V.at .z) (.inr Pure.int) e7 (fun u12 w8 h17 => ?_))
   refine op (OpS.as rfl rfl rfl ?_)
   refine op (OpS.as rfl rfl rfl ?_)
   refine RunL.nil ?_
   refine Run.slim [(3, .int .i64 0), (2, u12)] ⟨rfl, rfl, trivial⟩ ?_
   refine Run.retP rfl (.tmp rfl (.tmp rfl .nil)) ?_
   cases hF
   exact Post.mk' ⟨u12, rfl, rfl, rfl, rfl⟩ (h17.picks (.cons .z .nil)) .nil
set_option maxHeartbeats 8000000 in
theorem fragment_Decode_ok {fuel : Nat} {a0 : List Int} {y : Packet_ × Int} (hF : fragment_Decode fuel a0 = some y) {w : World} {v0 : Value} :
  Spec Try.prog 35 [v0].toArray w [(false, .val (Rep.slice (Rep.int .u8)) v0 a0)] [] (fun v Γr Ωr Ωo => ∃ u0 : Value, v = .tuple #[u0, .int .i64 y.2] ∧ Γr = [(true, .val Packet_.rep u0 y.1)] ∧ Ωr = [] ∧ Ωo = []) := by
 refine Spec.of (L := [(0, v0)]) Try.func35 rfl ⟨rfl, trivial⟩ rfl (fun e h => ?_)
 unfold fragment_Decode at hF
 refine Run.seq ?_
 refine Run.reg ?_
 refine op (OpS.alloc h ti44 Packet_.zr rfl rfl (fun u1 w1 h1 => ?_))
 refine op (OpS.as rfl rfl rfl ?_)
 refine RunL.nil ?_
 refine Run.slim [(2, u1), (0, v0)] ⟨rfl, rfl, trivial⟩ ?_
 refine Run.seq ?_
 refine Run.block ?_
 refine Run.seq ?_
 refine Run.reg ?_
 refine op (OpS.mv rfl rfl rfl ?_)
 refine op (OpS.len h1 Try.underlying22 rfl rfl rfl (V.at .z) ?_)
 refine op (OpS.bin rfl rfl rfl rfl rfl ?_)
 refine op (OpS.as rfl rfl rfl ?_)
 obtain ⟨x1, e1, hF⟩ := letP_use hF
 refine RunL.nameb e1 ?_
 refine RunL.nil ?_
 refine Run.slim [(5, .bool x1), (2, u1), (0, v0)] ⟨rfl, rfl, rfl, trivial⟩ ?_
 refine Run.ite rfl hF (fun e2 hF => ?_) (fun e2 hF => ?_)
 ·
  refine Run.seq ?_
  refine Run.reg ?_
  refine op (OpS.build (f := true) (x' := Packet_.z) h1 pl44 ti44 Packet_.zr rfl rfl rfl .nil (fun u2 h2 => ?_))
  refine op (OpS.storeB (f' := true) h2 .z PA.z Put.id ty44 rfl rfl rfl (V.at .z) (.inl rfl) (fun w2 h3 => ?_))
  refine op (OpS.as rfl rfl rfl ?_)
  refine RunL.nil ?_
  refine Run.slim [(3, .int .i64 4), (2, u1)] ⟨rfl, rfl, trivial⟩ ?_
  obtain ⟨u3, hu1, h4⟩ := res_box h3 .z ty44
  refine Run.retP rfl (.cell rfl hu1 (.tmp rfl .nil)) ?_
  cases hF
  exact Post.mk' ⟨u3, rfl, rfl, rfl, rfl⟩ (h4.picks .nil) (.val (V.at .z) .nil)
 ·
  refine Run.seq ?_
  refine Run.reg ?_
  refine op (OpS.mv rfl rfl rfl ?_)
  obtain ⟨x2, e3, hF⟩ := bindP_use hF
  refine op (OpS.iptr h1 Try.underlying22 ty5 rfl rfl rfl rfl (V.at .z) e3 (fun u4 h5 => ?_))
  refine op (OpS.loadi h5 ty5 rfl rfl rfl .z ?_)
  refine op (OpS.bin rfl rfl rfl rfl rfl ?_)
  refine op (OpS.as rfl rfl rfl ?_)
  obtain ⟨x3, e4, hF⟩ := letP_use hF
  refine RunL.nameb e4 ?_
  refine RunL.nil ?_
  refine Run.slim [(10, .bool x3), (2, u1), (0, v0)] ⟨rfl, rfl, rfl, trivial⟩ ?_
  refine Run.ite rfl hF (fun e5 hF => ?_) (fun e5 hF => ?_)
  ·
   refine Run.seq ?_
   refine Run.reg ?_
   refine op (OpS.build (f := true) (x' := Packet_.z) h5 pl44 ti44 Packet_.zr rfl rfl rfl .nil (fun u5 h6 => ?_))
   refine op (OpS.storeB (f' := true) h6 .z PA.z Put.id ty44 rfl rfl rfl (V.at .z) (.inl rfl) (fun w3 h7 => ?_))
   refine op (OpS.as rfl rfl rfl ?_)
   refine RunL.nil ?_
   refine Run.slim [(3, .int .i64 6), (2, u1)] ⟨rfl, rfl, trivial⟩ ?_
   obtain ⟨u6, hu2, h8⟩ := res_box h7 .z ty44
   refine Run.retP rfl (.cell rfl hu2 (.tmp rfl .nil)) ?_
   cases hF
   exact Post.mk' ⟨u6, rfl, rfl, rfl, rfl⟩ (h8.picks .nil) (.val (V.at .z) .nil)
  ·
   refine Run.seq ?_
   refine Run.reg ?_
   refine op (OpS.mv rfl rfl rfl ?_)
   obtain ⟨x4, e6, hF⟩ := bindP_use hF
   refine op (OpS.iptr h5 Try.underlying22 ty5 rfl rfl rfl rfl (V.at (.s .z)) e6 (fun u7 h9 => ?_))
   refine op (OpS.loadi h9 ty5 rfl rfl rfl .z ?_)
   obtain ⟨y1, e7, hF⟩ := bindP_use hF
   refine op (OpS.callP h9 Try.func38 rfl rfl rfl rfl (vs := [.int .u8 x4]) rfl (fragment_endpoint_ok e7) .nil ?_)
   rintro _ w4 _ _ _ ⟨rfl, rfl, rfl, rfl⟩ h10
   have h11 := h10 rfl rfl
   simp only [List.cons_append, List.nil_append] at h11
   refine op (OpS.not rfl rfl rfl ?_)
   refine op (OpS.mv rfl rfl rfl ?_)
   refine RunL.join (σ := Bool) (fun s_ L_ w_ => L_ = [(0, v0), (2, u1), (16, .bool s_)] ∧ St e w_ [(false, .val (Rep.slice (Rep.int .u8)) v0 a0)] [(true, .box 44 Packet_.rep u1 Packet_.z)]) hF (fun s1 _ w5 hI hF => ?_) (fun j1 hj1 hF => ?_)
   ·
    obtain ⟨rfl, h12⟩ := hI
    refine Run.ite rfl hF (fun e8 hF => ?_) (fun e8 hF => ?_)
    ·
     refine Run.seq ?_
     refine Run.reg ?_
     refine op (OpS.build (f := true) (x' := Packet_.z) h12 pl44 ti44 Packet_.zr rfl rfl rfl .nil (fun u8 h13 => ?_))
     refine op (OpS.storeB (f' := true) h13 .z PA.z Put.id ty44 rfl rfl rfl (V.at .z) (.inl rfl) (fun w6 h14 => ?_))
     refine op (OpS.as rfl rfl rfl ?_)
     refine RunL.nil ?_
     refine Run.slim [(3, .int .i64 13), (2, u1)] ⟨rfl, rfl, trivial⟩ ?_
     obtain ⟨u9, hu3, h15⟩ := res_box h14 .z ty44
     refine Run.retP rfl (.cell rfl hu3 (.tmp rfl .nil)) ?_
     cases hF
     exact Post.mk' ⟨u9, rfl, rfl, rfl, rfl⟩ (h15.picks .nil) (.val (V.at .z) .nil)
    ·
     refine Run.seq ?_
     refine Run.reg ?_
     refine op (OpS.mv rfl rfl rfl ?_)
     refine op (OpS.len h12 Try.underlying22 rfl rfl rfl (V.at .z) ?_)
     refine op (OpS.bin rfl rfl rfl rfl rfl ?_)
     refine op (OpS.bin rfl rfl rfl rfl rfl ?_)
     refine op (OpS.as rfl rfl rfl ?_)
     obtain ⟨x5, e9, hF⟩ := letP_use hF
     refine RunL.nameb e9 ?_
     refine RunL.nil ?_
     refine Run.slim [(30, .bool x5), (0, v0), (2, u1)] ⟨rfl, rfl, rfl, trivial⟩ ?_
     refine Run.ite rfl hF (fun e10 hF => ?_) (fun e10 hF => ?_)
     ·
      refine Run.seq ?_
      refine Run.reg ?_
      refine op (OpS.build (f := true) (x' := Packet_.z) h12 pl44 ti44 Packet_.zr rfl rfl rfl .nil (fun u10 h16 => ?_))
      refine op (OpS.storeB (f' := true) h16 .z PA.z Put.id ty44 rfl rfl rfl (V.at .z) (.inl rfl) (fun w7 h17 => ?_))
      refine op (OpS.as rfl rfl rfl ?_)
      refine RunL.nil ?_
      refine Run.slim [(3, .int .i64 3), (2, u1)] ⟨rfl, rfl, trivial⟩ ?_
      obtain ⟨u11, hu4, h18⟩ := res_box h17 .z ty44
      refine Run.retP rfl (.cell rfl hu4 (.tmp rfl .nil)) ?_
      cases hF
      exact Post.mk' ⟨u11, rfl, rfl, rfl, rfl⟩ (h18.picks .nil) (.val (V.at .z) .nil)
     ·
      refine Run.skip ?_
      refine Run.endBlock ?_
      refine Run.seq ?_
      refine Run.reg ?_
      refine op (OpS.mv rfl rfl rfl ?_)
      obtain ⟨x6, e11, hF⟩ := bindP_use hF
      refine op (OpS.iptr h12 Try.underlying22 ty5 rfl rfl rfl rfl (V.at .z) e11 (fun u12 h19 => ?_))
      refine op (OpS.loadi h19 ty5 rfl rfl rfl .z ?_)
      refine op (OpS.as rfl rfl rfl ?_)
      refine RunL.nil ?_
      refine Run.slim [(4, .int .u8 x6), (0, v0), (2, u1)] ⟨rfl, rfl, rfl, trivial⟩ ?_
      refine Run.seq ?_
      obtain ⟨x7, e12, hF⟩ := bindP_use hF
      obtain ⟨x8, e13, hF⟩ := bindP_use hF
      obtain ⟨x9, e14, hF⟩ := bindP_use hF
      obtain ⟨y2, e15, hF⟩ := bindP_use hF
      refine Run.drawV (Ωs := [(true, .box 44 Packet_.rep u1 Packet_.z)]) [⟨some 39, some (v0), fun _ => [], fun ds_ u_ => [], [], [], none⟩, ⟨some 40, none, fun u_ => [(false, .ptr (Rep.int .u8) u_ x7)], fun ds_ u_ => [], [], [], none⟩, ⟨some 41, some (.int .u8 x7), fun _ => [], fun ds_ u_ => [], [], [], none⟩, ⟨some 42, some (v0), fun _ => [], fun ds_ u_ => [], [], [], none⟩, ⟨some 43, none, fun u_ => [(false, .ptr (Rep.int .u8) u_ x8)], fun ds_ u_ => [], [], [], none⟩, ⟨some 44, some (.int .u8 x8), fun _ => [], fun ds_ u_ => [], [], [], none⟩, ⟨some 45, some (.int .u8 x6), fun _ => [], fun ds_ u_ => [], [], [], none⟩, ⟨some 46, some (.int .u8 (bAnd .u8 x6 128)), fun _ => [], fun ds_ u_ => [], [], [], none⟩, ⟨some 47, some (.bool ((bAnd .u8 x6 128) != 0)), fun _ => [], fun ds_ u_ => [], [], [], none⟩, ⟨some 48, some (.int .u8 x6), fun _ => [], fun ds_ u_ => [], [], [], none⟩, ⟨some 49, some (.int .u8 (bAnd .u8 x6 64)), fun _ => [], fun ds_ u_ => [], [], [], none⟩, ⟨some 50, some (.bool ((bAnd .u8 x6 64) != 0)), fun _ => [], fun ds_ u_ => [], [], [], none⟩, ⟨some 51, some (.int .u8 x6), fun _ => [], fun ds_ u_ => [], [], [], none⟩, ⟨some 52, some (.int .u8 (IntKind.u8.wrap (Int.tdiv x6 16))), fun _ => [], fun ds_ u_ => [], [], [], none⟩, ⟨some 53, some (.int .u8 (Int.tmod (IntKind.u8.wrap (Int.tdiv x6 16)) 4)), fun _ => [], fun ds_ u_ => [], [], [], none⟩, ⟨some 54, some (.int .i64 (IntKind.i64.wrap (Int.tmod (IntKind.u8.wrap (Int.tdiv x6 16)) 4))), fun _ => [], fun ds_ u_ => [], [], [], none⟩, ⟨some 55, some (.int .u8 x6), fun _ => [], fun ds_ u_ => [], [], [], none⟩, ⟨some 56, some (.int .u8 (bAnd .u8 x6 8)), fun _ => [], fun ds_ u_ => [], [], [], none⟩, ⟨some 57, some (.bool ((bAnd .u8 x6 8) != 0)), fun _ => [], fun ds_ u_ => [], [], [], none⟩, ⟨some 58, some (.int .u8 x6), fun _ => [], fun ds_ u_ => [], [], [], none⟩, ⟨some 59, some (.int .u8 (Int.tmod x6 8)), fun _ => [], fun ds_ u_ => [], [], [], none⟩, ⟨some 60, some (.int .i64 (IntKind.i64.wrap (Int.tmod x6 8))), fun _ => [], fun ds_ u_ => [], [], [], none⟩, ⟨some 61, some (v0), fun _ => [], fun ds_ u_ => [], [], [], none⟩, ⟨some 62, none, fun u_ => [(false, .val (Rep.slice (Rep.int .u8)) u_ x9)], fun ds_ u_ => [], [], [], none⟩, ⟨some 63, none, fun u_ => [(true, .val (Rep.slice (Rep.int .u8)) u_ y2)], fun ds_ u_ => [], [], [], none⟩, ⟨some 64, none, fun u_ => [(true, .val Packet_.rep u_ (⟨x7, x8, (bAnd .u8 x6 128) != 0, (bAnd .u8 x6 64) != 0, (IntKind.i64.wrap (Int.tmod (IntKind.u8.wrap (Int.tdiv x6 16)) 4)), (bAnd .u8 x6 8) != 0, (IntKind.i64.wrap (Int.tmod x6 8)), y2⟩ : Packet_))], fun ds_ u_ => [], [], [], none⟩] [[], [0], [1], [], [3], [4], [], [6], [7], [], [9], [10], [], [12], [13], [14], [], [16], [17], [], [19], [20], [], [22], [23], [2, 5, 8, 11, 15, 18, 21, 24]] [] [0, 1, 2, 3, 4, 5, 6, 7, 8, 9, 10, 11, 12, 13, 14, 15, 16, 17, 18, 19, 20, 21, 22, 23, 24, 25] Try_mixed rfl rfl rfl h19 (.cons ?_ (.cons ?_ (.cons ?_ (.cons ?_ (.cons ?_ (.cons ?_ (.cons ?_ (.cons ?_ (.cons ?_ (.cons ?_ (.cons ?_ (.cons ?_ (.cons ?_ (.cons ?_ (.cons ?_ (.cons ?_ (.cons ?_ (.cons ?_ (.cons ?_ (.cons ?_ (.cons ?_ (.cons ?_ (.cons ?_ (.cons ?_ (.cons ?_ (.cons ?_ .nil)))))))))))))))))))))))))) (fun q1 w hq1 h => ?_)
      ·intro q1 w Γx Ωx h
       refine OpS.mv rfl rfl rfl ?_
       exact ⟨undef, rfl, trivial, h⟩
      ·intro q1 w Γx Ωx h
       refine OpS.iptr h Try.underlying22 ty5 rfl rfl rfl rfl (V.at (.s .z)) e12 (fun u h27 => ?_)
       exact ⟨u, rfl, trivial, h27⟩
      ·intro q1 w Γx Ωx h
       refine OpS.loadi h ty5 rfl rfl rfl .z ?_
       exact ⟨undef, rfl, trivial, h⟩
      ·intro q1 w Γx Ωx h
       refine OpS.mv rfl rfl rfl ?_
       exact ⟨undef, rfl, trivial, h⟩
      ·intro q1 w Γx Ωx h
       refine OpS.iptr h Try.underlying22 ty5 rfl rfl rfl rfl (V.at (.s .z)) e13 (fun u h28 => ?_)
       exact ⟨u, rfl, trivial, h28⟩
      ·intro q1 w Γx Ωx h
       refine OpS.loadi h ty5 rfl rfl rfl .z ?_
       exact ⟨undef, rfl, trivial, h⟩
      ·intro q1 w Γx Ωx h
       refine OpS.mv rfl rfl rfl ?_
       exact ⟨undef, rfl, trivial, h⟩
      ·intro q1 w Γx Ωx h
       refine OpS.bin rfl rfl rfl rfl rfl ?_
       exact ⟨undef, rfl, trivial, h⟩
      ·intro q1 w Γx Ωx h
       refine OpS.bin rfl rfl rfl rfl rfl ?_
       exact ⟨undef, rfl, trivial, h⟩
      ·intro q1 w Γx Ωx h
       refine OpS.mv rfl rfl rfl ?_
       exact ⟨undef, rfl, trivial, h⟩
      ·intro q1 w Γx Ωx h
       refine OpS.bin rfl rfl rfl rfl rfl ?_
       exact ⟨undef, rfl, trivial, h⟩
      ·intro q1 w Γx Ωx h
       refine OpS.bin rfl rfl rfl rfl rfl ?_
       exact ⟨undef, rfl, trivial, h⟩
      ·intro q1 w Γx Ωx h
       refine OpS.mv rfl rfl rfl ?_
       exact ⟨undef, rfl, trivial, h⟩
      ·intro q1 w Γx Ωx h
       refine OpS.quo rfl rfl rfl rfl (by decide) ?_
       exact ⟨undef, rfl, trivial, h⟩
      ·intro q1 w Γx Ωx h
       refine OpS.rem rfl rfl rfl rfl (by decide) ?_
       exact ⟨undef, rfl, trivial, h⟩
      ·intro q1 w Γx Ωx h
       refine OpS.conv Try.underlying5 Try.underlying3 rfl rfl rfl ?_
       exact ⟨undef, rfl, trivial, h⟩
      ·intro q1 w Γx Ωx h
       refine OpS.mv rfl rfl rfl ?_
       exact ⟨undef, rfl, trivial, h⟩
      ·intro q1 w Γx Ωx h
       refine OpS.bin rfl rfl rfl rfl rfl ?_
       exact ⟨undef, rfl, trivial, h⟩
      ·intro q1 w Γx Ωx h
       refine OpS.bin rfl rfl rfl rfl rfl ?_
       exact ⟨undef, rfl, trivial, h⟩
      ·intro q1 w Γx Ωx h
       refine OpS.mv rfl rfl rfl ?_
       exact ⟨undef, rfl, trivial, h⟩
      ·intro q1 w Γx Ωx h
       refine OpS.rem rfl rfl rfl rfl (by decide) ?_
       exact ⟨undef, rfl, trivial, h⟩
      ·intro q1 w Γx Ωx h
       refine OpS.conv Try.underlying5 Try.underlying3 rfl rfl rfl ?_
       exact ⟨undef, rfl, trivial, h⟩
      ·intro q1 w Γx Ωx h
       refine OpS.mv rfl rfl rfl ?_
       exact ⟨undef, rfl, trivial, h⟩
      ·intro q1 w Γx Ωx h
       refine OpS.sub h Try.underlying22 ty5 rfl rfl rfl rfl rfl (V.at (.s .z)) e14 (fun u h29 => ?_)
       exact ⟨u, rfl, trivial, h29⟩
      ·intro q1 w Γx Ωx h
       refine OpS.callP h Try.func40 rfl rfl rfl rfl (vs := [(q1 23)]) rfl (slices_Clone_byte_byte_ok e15) (.cons (f := false) (V.at .z) .nil) ?_
       rintro u w9 _ _ _ ⟨_, rfl, rfl, rfl, rfl⟩ h30
       have h31 := h30 rfl rfl
       simp only [List.cons_append, List.nil_append] at h31
       have h32 := h31.freeze
       exact ⟨u, rfl, trivial, h32⟩
      ·intro q1 w Γx Ωx h
       refine OpS.build (f := true) (x' := (⟨x7, x8, (bAnd .u8 x6 128) != 0, (bAnd .u8 x6 64) != 0, (IntKind.i64.wrap (Int.tmod (IntKind.u8.wrap (Int.tdiv x6 16)) 4)), (bAnd .u8 x6 8) != 0, (IntKind.i64.wrap (Int.tmod x6 8)), y2⟩ : Packet_)) h pl44 ti44 Packet_.zr rfl rfl rfl (.cons rfl Packet_.f0 rfl V.int (.cons rfl Packet_.f1 rfl V.int (.cons rfl Packet_.f2 rfl V.bool (.cons rfl Packet_.f3 rfl V.bool (.cons rfl Packet_.f4 rfl V.int (.cons rfl Packet_.f5 rfl V.bool (.cons rfl Packet_.f6 rfl V.int (.cons rfl Packet_.f7 rfl (V.at .z) .nil)))))))) (fun u h33 => ?_)
       exact ⟨u, rfl, trivial, h33⟩
      have h34 : St e w [(false, .ptr (Rep.int .u8) (q1 1) x7), (false, .ptr (Rep.int .u8) (q1 4) x8), (false, .val (Rep.slice (Rep.int .u8)) (q1 23) x9), (true, .val (Rep.slice (Rep.int .u8)) (q1 24) y2), (true, .val Packet_.rep (q1 25) (⟨x7, x8, (bAnd .u8 x6 128) != 0, (bAnd .u8 x6 64) != 0, (IntKind.i64.wrap (Int.tmod (IntKind.u8.wrap (Int.tdiv x6 16)) 4)), (bAnd .u8 x6 8) != 0, (IntKind.i64.wrap (Int.tmod x6 8)), y2⟩ : Packet_)), (false, .ptr (Rep.int .u8) u12 x6), (false, .val (Rep.slice (Rep.int .u8)) v0 a0)] [(true, .box 44 Packet_.rep u1 Packet_.z)] := h
      refine op (OpS.storeB (f' := true) h34 .z PA.z Put.id ty44 rfl rfl rfl (V.at (.s (.s (.s (.s .z))))) (.inl rfl) (fun w10 h35 => ?_))
      refine op (OpS.as rfl rfl rfl ?_)
      refine RunL.nil ?_
      refine Run.slim [(3, .int .i64 0), (2, u1)] ⟨rfl, rfl, trivial⟩ ?_
      obtain ⟨u13, hu5, h36⟩ := res_box h35 .z ty44
      refine Run.retP rfl (.cell rfl hu5 (.tmp rfl .nil)) ?_
      cases hF
      exact Post.mk' ⟨u13, rfl, rfl, rfl, rfl⟩ (h36.picks .nil) (.val (V.at .z) .nil)
   ·
    refine RunL.caseb hF (fun e16 hF => ?_) (fun e16 hF => ?_)
    ·
     refine op (OpS.pass rfl rfl rfl ?_)
     refine op (OpS.pass rfl rfl rfl ?_)
     refine op (OpS.pass rfl rfl rfl ?_)
     refine op (OpS.pass rfl rfl rfl ?_)
     refine op (OpS.pass rfl rfl rfl ?_)
     refine op (OpS.pick rfl rfl rfl rfl ?_)
     refine op (OpS.as rfl rfl rfl ?_)
     refine RunL.nil ?_
     refine Run.slim [(16, .bool true), (2, u1), (0, v0)] ⟨rfl, rfl, rfl, trivial⟩ ?_
     refine Run.slim [(0, v0), (2, u1), (16, .bool true)] ⟨rfl, rfl, rfl, trivial⟩ ?_
     exact hj1 (true) _ _ ⟨rfl, (h11.facts (.atm (.s (.s .z)) .nil)).picks (.cons .z .nil)⟩ hF
    ·
     refine op (OpS.mv rfl rfl rfl ?_)
     obtain ⟨x10, e17, hF⟩ := bindP_use hF
     refine op (OpS.iptr h11 Try.underlying22 ty5 rfl rfl rfl rfl (V.at (.s (.s .z))) e17 (fun u14 h37 => ?_))
     refine op (OpS.loadi h37 ty5 rfl rfl rfl .z ?_)
     obtain ⟨y3, e18, hF⟩ := bindP_use hF
     refine op (OpS.callP h37 Try.func38 rfl rfl rfl rfl (vs := [.int .u8 x10]) rfl (fragment_endpoint_ok e18) .nil ?_)
     rintro _ w11 _ _ _ ⟨rfl, rfl, rfl, rfl⟩ h38
     have h39 := h38 rfl rfl
     simp only [List.cons_append, List.nil_append] at h39
     refine op (OpS.not rfl rfl rfl ?_)
     refine op (OpS.pick rfl rfl rfl rfl ?_)
     refine op (OpS.as rfl rfl rfl ?_)
     obtain ⟨x11, e19, hF⟩ := letP_use hF
     refine RunL.nameb e19 ?_
     refine RunL.nil ?_
     refine Run.slim [(16, .bool x11), (2, u1), (0, v0)] ⟨rfl, rfl, rfl, trivial⟩ ?_
     refine Run.slim [(0, v0), (2, u1), (16, .bool x11)] ⟨rfl, rfl, rfl, trivial⟩ ?_
     exact hj1 (x11) _ _ ⟨rfl, (h39.facts (.atm (.s (.s (.s .z))) .nil)).picks (.cons .z .nil)⟩ hF
set_option maxHeartbeats 8000000 in
theorem law22_FragmentReturns_ok {fuel : Nat} {a0 : List Int} {a1 : List Int} {y : Bool} (hF : law22_FragmentReturns fuel a0 a1 = some y) {w : World} {v0 v1 : Value} :
  Spec Try.prog 9 [v0, v1].toArray w [(false, .val (Rep.slice (Rep.int .i64)) v0 a0), (false, .val (Rep.slice (Rep.int .u8)) v1 a1)] [] (fun v Γr Ωr Ωo => v = .bool y ∧ Γr = [] ∧ Ωr = [] ∧ Ωo = []) := by
 refine Spec.of (L := [(0, v0), (1, v1)]) Try.func9 rfl ⟨rfl, rfl, trivial⟩ rfl (fun e h => ?_)
 unfold law22_FragmentReturns at hF
 refine Run.seq ?_
 refine Run.reg ?_
 refine op (OpS.as rfl rfl rfl ?_)
 refine RunL.nil ?_
 refine Run.slim [(0, v0), (1, v1)] ⟨rfl, rfl, trivial⟩ ?_
 refine Run.seq ?_
 refine Run.seq ?_
 refine Run.reg ?_
 refine op (OpS.mv rfl rfl rfl ?_)
 obtain ⟨y1, e1, hF⟩ := bindP_use hF
 refine op (OpS.callP h Try.func16 rfl rfl rfl rfl (vs := [v0]) rfl (made_Light_ok e1) (.cons (f := false) (V.at .z) .nil) ?_)
 rintro _ w1 _ _ _ ⟨rfl, rfl, rfl, rfl⟩ h1
 have h2 := h1 rfl rfl
 simp only [List.cons_append, List.nil_append] at h2
 refine op (OpS.not rfl rfl rfl ?_)
 refine op (OpS.mv rfl rfl rfl ?_)
 refine RunL.join (σ := Bool) (fun s_ L_ w_ => L_ = [(0, v0), (1, v1), (23, .bool s_)] ∧ St e w_ [(false, .val (Rep.slice (Rep.int .i64)) v0 a0), (false, .val (Rep.slice (Rep.int .u8)) v1 a1)] []) hF (fun s1 _ w2 hI hF => ?_) (fun j1 hj1 hF => ?_)
 ·
  obtain ⟨rfl, h3⟩ := hI
  refine Run.ite rfl hF (fun e2 hF => ?_) (fun e2 hF => ?_)
  ·
   refine Run.seq ?_
   refine Run.reg ?_
   obtain ⟨y2, e3, hF⟩ := bindP_use hF
   refine op (OpS.callP h3 Try.func11 rfl rfl rfl rfl (vs := []) rfl (law22_awake_ok e3) .nil ?_)
   rintro _ w3 _ _ _ ⟨rfl, rfl, rfl, rfl⟩ h4
   have h5 := h4 rfl rfl
   simp only [List.cons_append, List.nil_append] at h5
   refine op (OpS.as rfl rfl rfl ?_)
   refine RunL.nil ?_
   refine Run.slim [(4, .bool y2)] ⟨rfl, trivial⟩ ?_
   refine Run.retP rfl (.tmp rfl .nil) ?_
   cases hF
   exact Post.mk' ⟨rfl, rfl, rfl, rfl⟩ (h5.picks .nil) .nil
  ·
   refine Run.skip ?_
   refine Run.seq ?_
   refine Run.reg ?_
   refine op (OpS.mv rfl rfl rfl ?_)
   obtain ⟨y3, e4, hF⟩ := bindP_use hF
   have h6 := h3.front .nil
   refine op (OpS.callO h6 Try.func19 rfl rfl rfl rfl (vs := [v0]) rfl (made_Roll_ok e4) rfl (.cons (f := false) (V.at .z) .nil) ?_)
   rintro u1 w4 _ _ _ ⟨_, rfl, rfl, rfl, rfl⟩ h7
   have h8 := h7
   simp only [List.cons_append, List.nil_append] at h8
   obtain ⟨y4, e5, hF⟩ := bindP_use hF
   have h9 := h8.front (.cons .z .nil)
   refine op (OpS.callO h9 Try.func21 rfl rfl rfl rfl (vs := [u1]) rfl (made_Dice_Packet_ok e5) rfl .nil ?_)
   rintro u2 w5 _ _ _ ⟨_, rfl, rfl, rfl, rfl⟩ h10
   have h11 := h10
   simp only [List.cons_append, List.nil_append] at h11
   refine op (OpS.alloc h11 ti44 Packet_.zr rfl rfl (fun u3 w6 h12 => ?_))
   refine op (OpS.storeB (f' := true) h12 .z PA.z Put.id ty44 rfl rfl rfl (V.at .z) (.inl rfl) (fun w7 h13 => ?_))
   refine RunL.nil ?_
   refine Run.slim [(5, u3), (1, v1)] ⟨rfl, rfl, trivial⟩ ?_
   refine Run.seq ?_
   refine Run.reg ?_
   refine op (OpS.loadB h13 .z PA.z Get.id ty44 rfl rfl rfl (fun u4 h14 => ?_))
   obtain ⟨y5, e6, hF⟩ := bindP_use hF
   refine op (OpS.callP h14 Try.func31 rfl rfl rfl rfl (vs := [u4]) rfl (fragment_Encode_ok e6) (.cons (f := true) (V.at .z) .nil) ?_)
   rintro _ w8 _ _ _ ⟨u5, rfl, rfl, rfl, rfl⟩ h15
   have h16 := h15 rfl rfl
   simp only [List.cons_append, List.nil_append] at h16
   refine op (OpS.mv rfl rfl rfl ?_)
   refine op (OpS.ext rfl rfl rfl rfl ?_)
   refine op (OpS.ext rfl rfl rfl rfl ?_)
   refine op (OpS.as rfl rfl rfl ?_)
   have h17 := (h16.pick .z).freeze
   refine op (OpS.as rfl rfl rfl ?_)
   refine RunL.nil ?_
   refine Run.slim [(7, .int .i64 y5.2), (6, u5), (5, u3), (1, v1)] ⟨rfl, rfl, rfl, rfl, trivial⟩ ?_
   refine Run.seq ?_
   refine Run.seq ?_
   refine Run.reg ?_
   refine op (OpS.loadB h17 .z PA.z Get.id ty44 rfl rfl rfl (fun u6 h18 => ?_))
   obtain ⟨y6, e7, hF⟩ := bindP_use hF
   refine op (OpS.callP h18 Try.func30 rfl rfl rfl rfl (vs := [u6]) rfl (fragment_Valid_ok e7) (.cons (f := true) (V.at .z) .nil) ?_)
   rintro _ w9 _ _ _ ⟨rfl, rfl, rfl, rfl⟩ h19
   have h20 := h19 rfl rfl
   simp only [List.cons_append, List.nil_append] at h20
   refine op (OpS.mv rfl rfl rfl ?_)
   refine op (OpS.bin rfl rfl rfl rfl rfl ?_)
   refine op (OpS.neb Try.underlying4 rfl rfl rfl rfl ?_)
   refine RunL.nil ?_
   refine Run.slim [(37, .bool (y6 != (y5.2 == 0))), (7, .int .i64 y5.2), (6, u5), (5, u3), (1, v1)] ⟨rfl, rfl, rfl, rfl, rfl, trivial⟩ ?_
   refine Run.ite rfl hF (fun e8 hF => ?_) (fun e8 hF => ?_)
   ·
    refine Run.seq ?_
    refine Run.reg ?_
    refine op (OpS.as rfl rfl rfl ?_)
    refine RunL.nil ?_
    refine Run.slim [(4, .bool false)] ⟨rfl, trivial⟩ ?_
    refine Run.retP rfl (.tmp rfl .nil) ?_
    cases hF
    exact Post.mk' ⟨rfl, rfl, rfl, rfl⟩ (h20.picks .nil) .nil
   ·
    refine Run.skip ?_
    refine Run.seq ?_
    refine Run.seq ?_
    refine Run.reg ?_
    refine op (OpS.mv rfl rfl rfl ?_)
    refine op (OpS.bin rfl rfl rfl rfl rfl ?_)
    refine RunL.nil ?_
    refine Run.slim [(39, .bool (y5.2 == 0)), (6, u5), (5, u3), (1, v1)] ⟨rfl, rfl, rfl, rfl, trivial⟩ ?_
    refine Run.join (σ := Unit) (fun s_ L_ w_ => L_ = [(1, v1)] ∧ St e w_ [(false, .val (Rep.slice (Rep.int .u8)) v1 a1)] []) hF (fun s2 _ w10 hI hF => ?_) (fun j2 hj2 hF => ?_)
    ·
     obtain ⟨rfl, h21⟩ := hI
     refine Run.seq ?_
     refine Run.seq ?_
     refine Run.reg ?_
     refine op (OpS.mv rfl rfl rfl ?_)
     refine op (OpS.litO (r := (Rep.int .u8)) (f := true) h21 Try.underlying22 ti5 rfl rfl rfl rfl rfl (.cons rfl V.int (.cons rfl V.int (.cons rfl V.int .nil))) rfl rfl (fun u7 w11 h22 => ?_))
     refine op (OpS.mv rfl rfl rfl ?_)
     obtain ⟨x1, e9, hF⟩ := bindP_use hF
     refine op (OpS.app (f' := false) h22 .z Try.underlying22 ti5 rfl rfl rfl rfl rfl rfl rfl (V.at .z) (.inr Pure.int) e9 (fun u8 w12 h23 => ?_))
     have h24 := (h23.pick .z).freeze
     refine op (OpS.lit (r := (Rep.slice (Rep.int .u8))) (f := false) h24 Try.underlying69 ti22 rfl rfl rfl rfl rfl (.cons rfl (V.at (.s .z)) (.cons rfl (V.weak (V.at .z)) .nil)) rfl rfl (fun u9 w13 h25 => ?_))
     refine op (OpS.len h25 Try.underlying69 rfl rfl rfl (V.at .z) ?_)
     refine op (OpS.mv rfl rfl rfl ?_)
     refine RunL.nil ?_
     refine Run.slim [(59, .int .i64 0), (58, .int .i64 (([a1, x1]).length : Int)), (57, u9)] ⟨rfl, rfl, rfl, trivial⟩ ?_
     refine Run.block ?_
     refine Run.slim [(57, u9), (58, .int .i64 (([a1, x1]).length : Int)), (59, .int .i64 0)] ⟨rfl, rfl, rfl, trivial⟩ ?_
     refine Run.loopP (σ := Int) (fun s_ L_ w_ => L_ = [(57, u9), (58, .int .i64 (([a1, x1]).length : Int)), (59, .int .i64 s_)] ∧ St e w_ [(false, .val (Rep.slice (Rep.slice (Rep.int .u8))) u9 ([a1, x1]))] []) hF ⟨rfl, (h25.facts (.atm .z .nil)).picks .nil⟩ (fun k1 hk1 s3 _ w14 hI hF => ?_)
     obtain ⟨rfl, h26⟩ := hI
     refine Run.seq ?_
     refine Run.reg ?_
     refine op (OpS.bin rfl rfl rfl rfl rfl ?_)
     refine RunL.nil ?_
     refine Run.seq ?_
     refine Run.ite rfl hF (fun e10 hF => ?_) (fun e10 hF => ?_)
     ·
      refine Run.skip ?_
      refine Run.seq ?_
      refine Run.block ?_
      refine Run.seq ?_
      refine Run.reg ?_
      obtain ⟨x2, e11, hF⟩ := bindP_use hF
      refine op (OpS.iptr h26 Try.underlying69 ty22 rfl rfl rfl rfl (V.at .z) e11 (fun u10 h27 => ?_))
      refine op (OpS.load h27 ty22 rfl rfl rfl .z (fun u11 h28 => ?_))
      refine op (OpS.as rfl rfl rfl ?_)
      refine RunL.nil ?_
      refine Run.slim [(11, u11), (57, u9), (58, .int .i64 (([a1, x1]).length : Int)), (59, .int .i64 s3)] ⟨rfl, rfl, rfl, rfl, trivial⟩ ?_
      refine Run.seq ?_
      refine Run.reg ?_
      refine op (OpS.mv rfl rfl rfl ?_)
      obtain ⟨y7, e12, hF⟩ := bindP_use hF
      refine op (OpS.callP h28 Try.func35 rfl rfl rfl rfl (vs := [u11]) rfl (fragment_Decode_ok e12) (.cons (f := false) (V.at .z) .nil) ?_)
      rintro _ w15 _ _ _ ⟨u12, rfl, rfl, rfl, rfl⟩ h29
      have h30 := h29 rfl rfl
      simp only [List.cons_append, List.nil_append] at h30
      refine op (OpS.mv rfl rfl rfl ?_)
      refine op (OpS.ext rfl rfl rfl rfl ?_)
      refine op (OpS.ext rfl rfl rfl rfl ?_)
      refine op (OpS.alloc h30 ti44 Packet_.zr rfl rfl (fun u13 w16 h31 => ?_))
      refine op (OpS.storeB (f' := true) h31 .z PA.z Put.id ty44 rfl rfl rfl (V.at .z) (.inl rfl) (fun w17 h32 => ?_))
      refine op (OpS.as rfl rfl rfl ?_)
      refine RunL.nil ?_
      refine Run.slim [(13, .int .i64 y7.2), (12, u13), (11, u11), (57, u9), (58, .int .i64 (([a1, x1]).length : Int)), (59, .int .i64 s3)] ⟨rfl, rfl, rfl, rfl, rfl, rfl, trivial⟩ ?_
      refine Run.seq ?_
      refine Run.seq ?_
      refine Run.reg ?_
      refine op (OpS.mv rfl rfl rfl ?_)
      refine op (OpS.bin rfl rfl rfl rfl rfl ?_)
      refine RunL.nil ?_
      refine Run.slim [(69, .bool (y7.2 != 0)), (12, u13), (11, u11), (57, u9), (58, .int .i64 (([a1, x1]).length : Int)), (59, .int .i64 s3)] ⟨rfl, rfl, rfl, rfl, rfl, rfl, trivial⟩ ?_
      refine Run.ite rfl hF (fun e13 hF => ?_) (fun e13 hF => ?_)
      ·
       refine Run.exit rfl ?_
       refine Run.reg ?_
       refine op (OpS.bin rfl rfl rfl rfl rfl ?_)
       refine op (OpS.mv rfl rfl rfl ?_)
       refine RunL.nil ?_
       refine Run.slim [(59, .int .i64 (IntKind.i64.wrap (s3 + 1))), (57, u9), (58, .int .i64 (([a1, x1]).length : Int))] ⟨rfl, rfl, rfl, trivial⟩ ?_
       refine Run.slim [(57, u9), (58, .int .i64 (([a1, x1]).length : Int)), (59, .int .i64 (IntKind.i64.wrap (s3 + 1)))] ⟨rfl, rfl, rfl, trivial⟩ ?_
       exact hk1 ((IntKind.i64.wrap (s3 + 1))) _ _ ⟨rfl, (h32.facts (.atm (.s (.s (.s .z))) .nil)).picks .nil⟩ hF
      ·
       refine Run.skip ?_
       refine Run.seq ?_
       refine Run.reg ?_
       refine op (OpS.loadB h32 .z PA.z Get.id ty44 rfl rfl rfl (fun u14 h33 => ?_))
       obtain ⟨y8, e14, hF⟩ := bindP_use hF
       refine op (OpS.callP h33 Try.func31 rfl rfl rfl rfl (vs := [u14]) rfl (fragment_Encode_ok e14) (.cons (f := true) (V.at .z) .nil) ?_)
       rintro _ w18 _ _ _ ⟨u15, rfl, rfl, rfl, rfl⟩ h34
       have h35 := h34 rfl rfl
       simp only [List.cons_append, List.nil_append] at h35
       refine op (OpS.mv rfl rfl rfl ?_)
       refine op (OpS.ext rfl rfl rfl rfl ?_)
       refine op (OpS.ext rfl rfl rfl rfl ?_)
       refine op (OpS.as rfl rfl rfl ?_)
       have h36 := (h35.pick .z).freeze
       refine op (OpS.as rfl rfl rfl ?_)
       refine RunL.nil ?_
       refine Run.slim [(15, .int .i64 y8.2), (14, u15), (11, u11), (57, u9), (58, .int .i64 (([a1, x1]).length : Int)), (59, .int .i64 s3)] ⟨rfl, rfl, rfl, rfl, rfl, rfl, trivial⟩ ?_
       refine Run.seq ?_
       refine Run.reg ?_
       refine op (OpS.mv rfl rfl rfl ?_)
       refine op (OpS.bin rfl rfl rfl rfl rfl ?_)
       refine op (OpS.mv rfl rfl rfl ?_)
       refine RunL.join (σ := Bool) (fun s_ L_ w_ => L_ = [(57, u9), (58, .int .i64 (([a1, x1]).length : Int)), (59, .int .i64 s3), (82, .bool s_)] ∧ St e w_ [(false, .val (Rep.slice (Rep.slice (Rep.int .u8))) u9 ([a1, x1]))] []) hF (fun s4 _ w19 hI hF => ?_) (fun j3 hj3 hF => ?_)
       ·
        obtain ⟨rfl, h37⟩ := hI
        refine Run.ite rfl hF (fun e15 hF => ?_) (fun e15 hF => ?_)
        ·
         refine Run.seq ?_
         refine Run.reg ?_
         refine op (OpS.as rfl rfl rfl ?_)
         refine RunL.nil ?_
         refine Run.slim [(4, .bool false)] ⟨rfl, trivial⟩ ?_
         refine Run.retP rfl (.tmp rfl .nil) ?_
         cases hF
         exact Post.mk' ⟨rfl, rfl, rfl, rfl⟩ (h37.picks .nil) .nil
        ·
         refine Run.skip ?_
         refine Run.endBlock ?_
         refine Run.reg ?_
         refine op (OpS.bin rfl rfl rfl rfl rfl ?_)
         refine op (OpS.mv rfl rfl rfl ?_)
         refine RunL.nil ?_
         refine Run.slim [(59, .int .i64 (IntKind.i64.wrap (s3 + 1))), (57, u9), (58, .int .i64 (([a1, x1]).length : Int))] ⟨rfl, rfl, rfl, trivial⟩ ?_
         refine Run.slim [(57, u9), (58, .int .i64 (([a1, x1]).length : Int)), (59, .int .i64 (IntKind.i64.wrap (s3 + 1)))] ⟨rfl, rfl, rfl, trivial⟩ ?_
         exact hk1 ((IntKind.i64.wrap (s3 + 1))) _ _ ⟨rfl, (h37.facts (.atm .z .nil)).picks .nil⟩ hF
       ·
        refine RunL.caseb hF (fun e16 hF => ?_) (fun e16 hF => ?_)
        ·
         refine op (OpS.pass rfl rfl rfl ?_)
         refine op (OpS.pass rfl rfl rfl ?_)
         refine op (OpS.pass rfl rfl rfl ?_)
         refine op (OpS.pass rfl rfl rfl ?_)
         refine op (OpS.pick rfl rfl rfl rfl ?_)
         refine RunL.nil ?_
         refine Run.slim [(82, .bool true), (57, u9), (58, .int .i64 (([a1, x1]).length : Int)), (59, .int .i64 s3)] ⟨rfl, rfl, rfl, rfl, trivial⟩ ?_
         refine Run.slim [(57, u9), (58, .int .i64 (([a1, x1]).length : Int)), (59, .int .i64 s3), (82, .bool true)] ⟨rfl, rfl, rfl, rfl, trivial⟩ ?_
         exact hj3 (true) _ _ ⟨rfl, (h36.facts (.atm (.s (.s (.s (.s (.s .z))))) .nil)).picks .nil⟩ hF
        ·
         refine op (OpS.mv rfl rfl rfl ?_)
         refine op (OpS.mv rfl rfl rfl ?_)
         obtain ⟨y9, e17, hF⟩ := bindP_use hF
         refine op (OpS.callP h36 Try.func29 rfl rfl rfl rfl (vs := [u15, u11]) rfl (ref01_Same_ok e17) (.cons (f := true) (V.at .z) (.cons (f := false) (V.at (.s (.s (.s .z)))) .nil)) ?_)
         rintro _ w20 _ _ _ ⟨rfl, rfl, rfl, rfl⟩ h38
         have h39 := h38 rfl rfl
         simp only [List.cons_append, List.nil_append] at h39
         refine op (OpS.not rfl rfl rfl ?_)
         refine op (OpS.pick rfl rfl rfl rfl ?_)
         refine RunL.nil ?_
         refine Run.slim [(82, .bool (!y9)), (57, u9), (58, .int .i64 (([a1, x1]).length : Int)), (59, .int .i64 s3)] ⟨rfl, rfl, rfl, rfl, trivial⟩ ?_
         refine Run.slim [(57, u9), (58, .int .i64 (([a1, x1]).length : Int)), (59, .int .i64 s3), (82, .bool (!y9))] ⟨rfl, rfl, rfl, rfl, trivial⟩ ?_
         exact hj3 (!y9) _ _ ⟨rfl, (h39.facts (.atm (.s (.s (.s (.s (.s .z))))) .nil)).picks .nil⟩ hF
     ·
      refine Run.exit rfl ?_
      refine Run.seq ?_
      refine Run.reg ?_
      obtain ⟨y10, e18, hF⟩ := bindP_use hF
      refine op (OpS.callP h26 Try.func11 rfl rfl rfl rfl (vs := []) rfl (law22_awake_ok e18) .nil ?_)
      rintro _ w21 _ _ _ ⟨rfl, rfl, rfl, rfl⟩ h40
      have h41 := h40 rfl rfl
      simp only [List.cons_append, List.nil_append] at h41
      refine op (OpS.as rfl rfl rfl ?_)
      refine RunL.nil ?_
      refine Run.slim [(4, .bool y10)] ⟨rfl, trivial⟩ ?_
      refine Run.retP rfl (.tmp rfl .nil) ?_
      cases hF
      exact Post.mk' ⟨rfl, rfl, rfl, rfl⟩ (h41.picks .nil) .nil
    ·
     refine Run.ite rfl hF (fun e19 hF => ?_) (fun e19 hF => ?_)
     ·
      refine Run.seq ?_
      refine Run.reg ?_
      refine op (OpS.mv rfl rfl rfl ?_)
      obtain ⟨y11, e20, hF⟩ := bindP_use hF
      refine op (OpS.callP h20 Try.func35 rfl rfl rfl rfl (vs := [u5]) rfl (fragment_Decode_ok e20) (.cons (f := true) (V.at (.s .z)) .nil) ?_)
      rintro _ w22 _ _ _ ⟨u16, rfl, rfl, rfl, rfl⟩ h42
      have h43 := h42 rfl rfl
      simp only [List.cons_append, List.nil_append] at h43
      refine op (OpS.mv rfl rfl rfl ?_)
      refine op (OpS.ext rfl rfl rfl rfl ?_)
      refine op (OpS.ext rfl rfl rfl rfl ?_)
      refine op (OpS.alloc h43 ti44 Packet_.zr rfl rfl (fun u17 w23 h44 => ?_))
      refine op (OpS.storeB (f' := true) h44 .z PA.z Put.id ty44 rfl rfl rfl (V.at .z) (.inl rfl) (fun w24 h45 => ?_))
      refine op (OpS.as rfl rfl rfl ?_)
      refine RunL.nil ?_
      refine Run.slim [(9, .int .i64 y11.2), (8, u17), (5, u3), (1, v1)] ⟨rfl, rfl, rfl, rfl, trivial⟩ ?_
      refine Run.seq ?_
      refine Run.reg ?_
      refine op (OpS.mv rfl rfl rfl ?_)
      refine op (OpS.bin rfl rfl rfl rfl rfl ?_)
      refine op (OpS.mv rfl rfl rfl ?_)
      refine RunL.join (σ := Bool) (fun s_ L_ w_ => L_ = [(1, v1), (52, .bool s_)] ∧ St e w_ [(false, .val (Rep.slice (Rep.int .u8)) v1 a1)] []) hF (fun s5 _ w25 hI hF => ?_) (fun j4 hj4 hF => ?_)
      ·
       obtain ⟨rfl, h46⟩ := hI
       refine Run.ite rfl hF (fun e21 hF => ?_) (fun e21 hF => ?_)
       ·
        refine Run.seq ?_
        refine Run.reg ?_
        refine op (OpS.as rfl rfl rfl ?_)
        refine RunL.nil ?_
        refine Run.slim [(4, .bool false)] ⟨rfl, trivial⟩ ?_
        refine Run.retP rfl (.tmp rfl .nil) ?_
        cases hF
        exact Post.mk' ⟨rfl, rfl, rfl, rfl⟩ (h46.picks .nil) .nil
       ·
        refine Run.skip ?_
        refine Run.slim [(1, v1)] ⟨rfl, trivial⟩ ?_
        exact hj2 () _ _ ⟨rfl, (h46.facts (.atm .z .nil)).picks .nil⟩ hF
      ·
       refine RunL.caseb hF (fun e22 hF => ?_) (fun e22 hF => ?_)
       ·
        refine op (OpS.pass rfl rfl rfl ?_)
        refine op (OpS.pass rfl rfl rfl ?_)
        refine op (OpS.pass rfl rfl rfl ?_)
        refine op (OpS.pass rfl rfl rfl ?_)
        refine op (OpS.pick rfl rfl rfl rfl ?_)
        refine RunL.nil ?_
        refine Run.slim [(52, .bool true), (1, v1)] ⟨rfl, rfl, trivial⟩ ?_
        refine Run.slim [(1, v1), (52, .bool true)] ⟨rfl, rfl, trivial⟩ ?_
        exact hj4 (true) _ _ ⟨rfl, (h45.facts (.atm (.s (.s (.s (.s (.s (.s .z)))))) .nil)).picks .nil⟩ hF
       ·
        refine op (OpS.loadB h45 (.s .z) PA.z Get.id ty44 rfl rfl rfl (fun u18 h47 => ?_))
        refine op (OpS.loadB h47 .z PA.z Get.id ty44 rfl rfl rfl (fun u19 h48 => ?_))
        obtain ⟨y12, e23, hF⟩ := bindP_use hF
        refine op (OpS.callP h48 Try.func37 rfl rfl rfl rfl (vs := [u18, u19]) rfl (ref22_Same_ok e23) (.cons (f := true) (V.at (.s .z)) (.cons (f := true) (V.at .z) .nil)) ?_)
        rintro _ w26 _ _ _ ⟨rfl, rfl, rfl, rfl⟩ h49
        have h50 := h49 rfl rfl
        simp only [List.cons_append, List.nil_append] at h50
        refine op (OpS.not rfl rfl rfl ?_)
        refine op (OpS.pick rfl rfl rfl rfl ?_)
        refine RunL.nil ?_
        refine Run.slim [(52, .bool (!y12)), (1, v1)] ⟨rfl, rfl, trivial⟩ ?_
        refine Run.slim [(1, v1), (52, .bool (!y12))] ⟨rfl, rfl, trivial⟩ ?_
        exact hj4 (!y12) _ _ ⟨rfl, (h50.facts (.atm (.s (.s (.s (.s (.s (.s (.s (.s .z)))))))) .nil)).picks .nil⟩ hF
     ·
      refine Run.skip ?_
      refine Run.slim [(1, v1)] ⟨rfl, trivial⟩ ?_
      exact hj2 () _ _ ⟨rfl, (h20.facts (.atm (.s (.s (.s (.s (.s .z))))) .nil)).picks .nil⟩ hF
 ·
  refine RunL.caseb hF (fun e24 hF => ?_) (fun e24 hF => ?_)
  ·
   refine op (OpS.pass rfl rfl rfl ?_)
   refine op (OpS.pass rfl rfl rfl ?_)
   refine op (OpS.pass rfl rfl rfl ?_)
   refine op (OpS.pick rfl rfl rfl rfl ?_)
   refine RunL.nil ?_
   refine Run.slim [(23, .bool true), (0, v0), (1, v1)] ⟨rfl, rfl, rfl, trivial⟩ ?_
   refine Run.slim [(0, v0), (1, v1), (23, .bool true)] ⟨rfl, rfl, rfl, trivial⟩ ?_
   exact hj1 (true) _ _ ⟨rfl, (h2.facts (.atm .z (.atm (.s .z) .nil))).picks .nil⟩ hF
  ·
   refine op (OpS.mv rfl rfl rfl ?_)
   refine op (OpS.len h2 Try.underlying22 rfl rfl rfl (V.at (.s .z)) ?_)
   refine op (OpS.bin rfl rfl rfl rfl rfl ?_)
   refine op (OpS.pick rfl rfl rfl rfl ?_)
   refine RunL.nil ?_
   refine Run.slim [(23, .bool (decide ((a1.length : Int) > 100))), (0, v0), (1, v1)] ⟨rfl, rfl, rfl, trivial⟩ ?_
   refine Run.slim [(0, v0), (1, v1), (23, .bool (decide ((a1.length : Int) > 100)))] ⟨rfl, rfl, rfl, trivial⟩ ?_
   exact hj1 (decide ((a1.length : Int) > 100)) _ _ ⟨rfl, (h2.facts (.atm .z (.atm (.s .z) .nil))).picks .nil⟩ hF
end Lift
