/- Each Go function computes its plain function. Written by lift.py. -/
import Derived.Test.YtnilklnmhndlnaaFragmentWholeWalksA
set_option linter.unusedVariables false
set_option linter.unusedSimpArgs false
namespace Lift
open Go Go.Proofs
open RunL (op)
set_option maxHeartbeats 8000000 in
theorem law22_awake_ok {fuel : Nat}  {y : Bool} (hF : law22_awake fuel  = some y) {w : World} :
  Spec Try.prog 11 [].toArray w [] [] (fun v Γr Ωr Ωo => v = .bool y ∧ Γr = [] ∧ Ωr = [] ∧ Ωo = []) := by
 refine Spec.of (L := []) Try.func11 rfl trivial rfl (fun e h => ?_)
 unfold law22_awake at hF
 refine Run.seq ?_
 refine Run.reg ?_
 refine op (OpS.as rfl rfl rfl ?_)
 refine RunL.nil ?_
 refine Run.slim [] trivial ?_
 refine Run.seq ?_
 refine Run.reg ?_
 refine op (OpS.lit (r := (Rep.int .u8)) (f := true) h Try.underlying22 ti5 rfl rfl rfl rfl rfl (.cons rfl V.int (.cons rfl V.int (.cons rfl V.int (.cons rfl V.int (.cons rfl V.int .nil))))) rfl rfl (fun u1 w1 h1 => ?_))
 obtain ⟨y1, e1, hF⟩ := bindP_use hF
 have h2 := h1.front .nil
 refine op (OpS.callO h2 Try.func13 rfl rfl rfl rfl (vs := [.int .u8 9, .int .u8 10, .bool true, .int .i64 1, .int .i64 2, u1]) rfl (fragment_Split_ok e1) rfl (.cons (f := true) (V.at .z) .nil) ?_)
 rintro _ w2 _ _ _ ⟨u2, rfl, rfl, rfl, rfl⟩ h3
 have h4 := h3
 simp only [List.cons_append, List.nil_append] at h4
 refine op (OpS.mv rfl rfl rfl ?_)
 refine op (OpS.ext rfl rfl rfl rfl ?_)
 refine op (OpS.ext rfl rfl rfl rfl ?_)
 refine op (OpS.as rfl rfl rfl ?_)
 have h5 := (h4.pick .z).freeze
 refine op (OpS.as rfl rfl rfl ?_)
 refine RunL.nil ?_
 refine Run.slim [(2, .int .i64 y1.2), (1, u2)] ⟨rfl, rfl, trivial⟩ ?_
 refine Run.seq ?_
 refine Run.reg ?_
 obtain ⟨y2, e2, hF⟩ := bindP_use hF
 refine op (OpS.callP h5 Try.func17 rfl rfl rfl rfl (vs := [.int .u8 9]) rfl (fragment_New_ok e2) .nil ?_)
 rintro _ w3 _ _ _ ⟨u3, rfl, rfl, rfl, rfl⟩ h6
 have h7 := h6 rfl rfl
 simp only [List.cons_append, List.nil_append] at h7
 refine op (OpS.mv rfl rfl rfl ?_)
 refine op (OpS.ext rfl rfl rfl rfl ?_)
 refine op (OpS.ext rfl rfl rfl rfl ?_)
 refine op (OpS.as rfl rfl rfl ?_)
 refine op (OpS.as rfl rfl rfl ?_)
 refine RunL.nil ?_
 refine Run.slim [(4, .int .i64 y2.2), (3, u3), (2, .int .i64 y1.2), (1, u2)] ⟨rfl, rfl, rfl, rfl, trivial⟩ ?_
 refine Run.seq ?_
 refine Run.seq ?_
 refine Run.reg ?_
 refine op (OpS.mv rfl rfl rfl ?_)
 refine op (OpS.bin rfl rfl rfl rfl rfl ?_)
 refine op (OpS.mv rfl rfl rfl ?_)
 refine RunL.join (σ := Bool) (fun s_ L_ w_ => L_ = [(1, u2), (3, u3), (49, .bool s_)] ∧ St e w_ [(false, .val (Rep.slice Packet_.rep) u2 y1.1)] [(true, .opt (fun x_ => .ex fun v_ => .sep (.box 83 (Rep.iso (fun s : fragment_Assembler => (s.own, s.open_, ())) (Rep.prod (Rep.int .u8) (Rep.prod (Rep.raw (α := List fragment_open) v_) Rep.unit))) u3 x_) (.oval (oslice 92 6 (fun _ => fragment_open.orep)) v_ x_.open_)) u3 y2.1)]) hF (fun s1 _ w4 hI hF => ?_) (fun j1 hj1 hF => ?_)
 ·
  obtain ⟨rfl, h8⟩ := hI
  refine Run.ite rfl hF (fun e3 hF => ?_) (fun e3 hF => ?_)
  ·
   refine Run.seq ?_
   refine Run.reg ?_
   refine op (OpS.as rfl rfl rfl ?_)
   refine RunL.nil ?_
   refine Run.slim [(0, .bool false)] ⟨rfl, trivial⟩ ?_
   refine Run.retP rfl (.tmp rfl .nil) ?_
   cases hF
   exact Post.mk' ⟨rfl, rfl, rfl, rfl⟩ (h8.picks .nil) .nil
  ·
   refine Run.skip ?_
   refine Run.seq ?_
   refine Run.reg ?_
   refine op (OpS.mv rfl rfl rfl ?_)
   refine op (OpS.mv rfl rfl rfl ?_)
   obtain ⟨x1, e4, hF⟩ := bindP_use hF
   refine op (OpS.iptr h8 Try.underlying27 ty44 rfl rfl rfl rfl (V.at .z) e4 (fun u4 h9 => ?_))
   refine op (OpS.load h9 ty44 rfl rfl rfl .z (fun u5 h10 => ?_))
   obtain ⟨x2, e5, hF⟩ := bindP_use hF
   have h11 := St.unopt (h10.pick .z) e5
   obtain ⟨u6, h12⟩ := h11.unex
   have h13 := h12.unsep
   obtain ⟨y3, e6, hF⟩ := bindP_use hF
   have h14 := (h13.pick .z).weak
   have h15 := (h14.pick (.s .z)).weak
   have h16 := h15.front (.cons (.s .z) (.cons .z .nil))
   refine op (OpS.callO h16 Try.func24 rfl rfl rfl rfl (vs := [u3, u5]) rfl (fragment_Assembler_Accept_ok e6) rfl (.cons (f := false) (V.at .z) .nil) ?_)
   rintro _ w5 _ _ _ ⟨u7, u8, rfl, rfl, rfl, rfl⟩ h17
   have h18 := h17
   simp only [List.cons_append, List.nil_append] at h18
   refine op (OpS.mv rfl rfl rfl ?_)
   refine op (OpS.ext rfl rfl rfl rfl ?_)
   refine op (OpS.ext rfl rfl rfl rfl ?_)
   refine op (OpS.ext rfl rfl rfl rfl ?_)
   refine op (OpS.alloc h18 ti51 Whole_.zr rfl rfl (fun u9 w6 h19 => ?_))
   have h20 := (h19.pick .z).weak
   refine op (OpS.storeB (f' := false) h20 .z PA.z Put.id ty51 rfl rfl rfl (V.at .z) (.inr rfl) (fun w7 h21 => ?_))
   refine op (OpS.as rfl rfl rfl ?_)
   refine op (OpS.as rfl rfl rfl ?_)
   refine RunL.nil ?_
   refine Run.slim [(7, .int .i64 y3.2.2.1), (6, .bool y3.2.1), (1, u2), (3, u3)] ⟨rfl, rfl, rfl, rfl, trivial⟩ ?_
   refine Run.seq ?_
   refine Run.reg ?_
   refine op (OpS.mv rfl rfl rfl ?_)
   refine op (OpS.mv rfl rfl rfl ?_)
   obtain ⟨x3, e7, hF⟩ := bindP_use hF
   refine op (OpS.iptr h21 Try.underlying27 ty44 rfl rfl rfl rfl (V.at (.s (.s (.s .z)))) e7 (fun u10 h22 => ?_))
   refine op (OpS.load h22 ty44 rfl rfl rfl .z (fun u11 h23 => ?_))
   obtain ⟨y4, e8, hF⟩ := bindP_use hF
   have h24 := h23.front (.cons (.s .z) (.cons (.s .z) .nil))
   refine op (OpS.callO h24 Try.func24 rfl rfl rfl rfl (vs := [u3, u11]) rfl (fragment_Assembler_Accept_ok e8) rfl (.cons (f := false) (V.at .z) .nil) ?_)
   rintro _ w8 _ _ _ ⟨u12, u13, rfl, rfl, rfl, rfl⟩ h25
   have h26 := h25
   simp only [List.cons_append, List.nil_append] at h26
   refine op (OpS.mv rfl rfl rfl ?_)
   refine op (OpS.ext rfl rfl rfl rfl ?_)
   refine op (OpS.ext rfl rfl rfl rfl ?_)
   refine op (OpS.ext rfl rfl rfl rfl ?_)
   refine op (OpS.alloc h26 ti51 Whole_.zr rfl rfl (fun u14 w9 h27 => ?_))
   have h28 := (h27.pick .z).weak
   refine op (OpS.storeB (f' := false) h28 .z PA.z Put.id ty51 rfl rfl rfl (V.at .z) (.inr rfl) (fun w10 h29 => ?_))
   refine op (OpS.as rfl rfl rfl ?_)
   refine op (OpS.as rfl rfl rfl ?_)
   refine RunL.nil ?_
   refine Run.slim [(10, .int .i64 y4.2.2.1), (9, .bool y4.2.1), (7, .int .i64 y3.2.2.1), (6, .bool y3.2.1), (3, u3)] ⟨rfl, rfl, rfl, rfl, rfl, trivial⟩ ?_
   refine Run.seq ?_
   refine Run.reg ?_
   refine op (OpS.mv rfl rfl rfl ?_)
   refine op (OpS.bin rfl rfl rfl rfl rfl ?_)
   refine op (OpS.mv rfl rfl rfl ?_)
   refine RunL.caseb hF (fun e9 hF => ?_) (fun e9 hF => ?_)
   ·
    refine op (OpS.mv rfl rfl rfl ?_)
    refine op (OpS.not rfl rfl rfl ?_)
    refine op (OpS.pick rfl rfl rfl rfl ?_)
    refine op (OpS.mv rfl rfl rfl ?_)
    refine RunL.caseb hF (fun e10 hF => ?_) (fun e10 hF => ?_)
    ·
     refine op (OpS.mv rfl rfl rfl ?_)
     refine op (OpS.bin rfl rfl rfl rfl rfl ?_)
     refine op (OpS.pick rfl rfl rfl rfl ?_)
     refine op (OpS.mv rfl rfl rfl ?_)
     refine RunL.caseb hF (fun e11 hF => ?_) (fun e11 hF => ?_)
     ·
      refine op (OpS.mv rfl rfl rfl ?_)
      refine op (OpS.not rfl rfl rfl ?_)
      refine op (OpS.pick rfl rfl rfl rfl ?_)
      refine op (OpS.mv rfl rfl rfl ?_)
      refine RunL.caseb hF (fun e12 hF => ?_) (fun e12 hF => ?_)
      ·
       refine op (OpS.mv rfl rfl rfl ?_)
       obtain ⟨y5, e13, hF⟩ := bindP_use hF
       have h30 := h29.front (.cons (.s .z) (.cons (.s .z) .nil))
       refine op (OpS.callO h30 Try.func27 rfl rfl rfl rfl (vs := [u3]) rfl (fragment_Assembler_Open_ok e13) rfl .nil ?_)
       rintro _ w11 _ _ _ ⟨rfl, rfl, rfl, rfl⟩ h31
       have h32 := h31
       simp only [List.cons_append, List.nil_append] at h32
       refine op (OpS.bin rfl rfl rfl rfl rfl ?_)
       refine op (OpS.pick rfl rfl rfl rfl ?_)
       refine op (OpS.as rfl rfl rfl ?_)
       obtain ⟨x4, e14, hF⟩ := letP_use hF
       refine RunL.nameb e14 ?_
       refine RunL.nil ?_
       refine Run.slim [(0, .bool x4)] ⟨rfl, trivial⟩ ?_
       refine Run.retP rfl (.tmp rfl .nil) ?_
       cases hF
       exact Post.mk' ⟨rfl, rfl, rfl, rfl⟩ (h32.picks .nil) .nil
      ·
       refine op (OpS.pass rfl rfl rfl ?_)
       refine op (OpS.pass rfl rfl rfl ?_)
       refine op (OpS.pass rfl rfl rfl ?_)
       refine op (OpS.pick rfl rfl rfl rfl ?_)
       refine op (OpS.as rfl rfl rfl ?_)
       refine RunL.nil ?_
       refine Run.slim [(0, .bool false)] ⟨rfl, trivial⟩ ?_
       refine Run.retP rfl (.tmp rfl .nil) ?_
       cases hF
       exact Post.mk' ⟨rfl, rfl, rfl, rfl⟩ (h29.picks .nil) .nil
     ·
      refine op (OpS.pass rfl rfl rfl ?_)
      refine op (OpS.pass rfl rfl rfl ?_)
      refine op (OpS.pick rfl rfl rfl rfl ?_)
      refine op (OpS.mv rfl rfl rfl ?_)
      refine op (OpS.pass rfl rfl rfl ?_)
      refine op (OpS.pass rfl rfl rfl ?_)
      refine op (OpS.pass rfl rfl rfl ?_)
      refine op (OpS.pick rfl rfl rfl rfl ?_)
      refine op (OpS.as rfl rfl rfl ?_)
      refine RunL.nil ?_
      refine Run.slim [(0, .bool false)] ⟨rfl, trivial⟩ ?_
      refine Run.retP rfl (.tmp rfl .nil) ?_
      cases hF
      exact Post.mk' ⟨rfl, rfl, rfl, rfl⟩ (h29.picks .nil) .nil
    ·
     refine op (OpS.pass rfl rfl rfl ?_)
     refine op (OpS.pass rfl rfl rfl ?_)
     refine op (OpS.pick rfl rfl rfl rfl ?_)
     refine op (OpS.mv rfl rfl rfl ?_)
     refine op (OpS.pass rfl rfl rfl ?_)
     refine op (OpS.pass rfl rfl rfl ?_)
     refine op (OpS.pick rfl rfl rfl rfl ?_)
     refine op (OpS.mv rfl rfl rfl ?_)
     refine op (OpS.pass rfl rfl rfl ?_)
     refine op (OpS.pass rfl rfl rfl ?_)
     refine op (OpS.pass rfl rfl rfl ?_)
     refine op (OpS.pick rfl rfl rfl rfl ?_)
     refine op (OpS.as rfl rfl rfl ?_)
     refine RunL.nil ?_
     refine Run.slim [(0, .bool false)] ⟨rfl, trivial⟩ ?_
     refine Run.retP rfl (.tmp rfl .nil) ?_
     cases hF
     exact Post.mk' ⟨rfl, rfl, rfl, rfl⟩ (h29.picks .nil) .nil
   ·
    refine op (OpS.pass rfl rfl rfl ?_)
    refine op (OpS.pass rfl rfl rfl ?_)
    refine op (OpS.pick rfl rfl rfl rfl ?_)
    refine op (OpS.mv rfl rfl rfl ?_)
    refine op (OpS.pass rfl rfl rfl ?_)
    refine op (OpS.pass rfl rfl rfl ?_)
    refine op (OpS.pick rfl rfl rfl rfl ?_)
    refine op (OpS.mv rfl rfl rfl ?_)
    refine op (OpS.pass rfl rfl rfl ?_)
    refine op (OpS.pass rfl rfl rfl ?_)
    refine op (OpS.pick rfl rfl rfl rfl ?_)
    refine op (OpS.mv rfl rfl rfl ?_)
    refine op (OpS.pass rfl rfl rfl ?_)
    refine op (OpS.pass rfl rfl rfl ?_)
    refine op (OpS.pass rfl rfl rfl ?_)
    refine op (OpS.pick rfl rfl rfl rfl ?_)
    refine op (OpS.as rfl rfl rfl ?_)
    refine RunL.nil ?_
    refine Run.slim [(0, .bool false)] ⟨rfl, trivial⟩ ?_
    refine Run.retP rfl (.tmp rfl .nil) ?_
    cases hF
    exact Post.mk' ⟨rfl, rfl, rfl, rfl⟩ (h29.picks .nil) .nil
 ·
  refine RunL.caseb hF (fun e15 hF => ?_) (fun e15 hF => ?_)
  ·
   refine op (OpS.pass rfl rfl rfl ?_)
   refine op (OpS.pass rfl rfl rfl ?_)
   refine op (OpS.pick rfl rfl rfl rfl ?_)
   refine op (OpS.mv rfl rfl rfl ?_)
   refine op (OpS.pass rfl rfl rfl ?_)
   refine op (OpS.pass rfl rfl rfl ?_)
   refine op (OpS.pick rfl rfl rfl rfl ?_)
   refine op (OpS.mv rfl rfl rfl ?_)
   refine op (OpS.pass rfl rfl rfl ?_)
   refine op (OpS.pass rfl rfl rfl ?_)
   refine op (OpS.pass rfl rfl rfl ?_)
   refine op (OpS.pick rfl rfl rfl rfl ?_)
   refine op (OpS.mv rfl rfl rfl ?_)
   refine op (OpS.pass rfl rfl rfl ?_)
   refine op (OpS.pass rfl rfl rfl ?_)
   refine op (OpS.pass rfl rfl rfl ?_)
   refine op (OpS.pass rfl rfl rfl ?_)
   refine op (OpS.pass rfl rfl rfl ?_)
   refine op (OpS.pass rfl rfl rfl ?_)
   refine op (OpS.pick rfl rfl rfl rfl ?_)
   refine op (OpS.mv rfl rfl rfl ?_)
   refine op (OpS.pass rfl rfl rfl ?_)
   refine op (OpS.pass rfl rfl rfl ?_)
   refine op (OpS.pass rfl rfl rfl ?_)
   refine op (OpS.pass rfl rfl rfl ?_)
   refine op (OpS.pass rfl rfl rfl ?_)
   refine op (OpS.pick rfl rfl rfl rfl ?_)
   refine RunL.nil ?_
   refine Run.slim [(49, .bool true), (3, u3), (1, u2)] ⟨rfl, rfl, rfl, trivial⟩ ?_
   refine Run.slim [(1, u2), (3, u3), (49, .bool true)] ⟨rfl, rfl, rfl, trivial⟩ ?_
   exact hj1 (true) _ _ ⟨rfl, (h7.facts (.atm .z .nil)).picks (.cons .z .nil)⟩ hF
  ·
   refine op (OpS.mv rfl rfl rfl ?_)
   refine op (OpS.bin rfl rfl rfl rfl rfl ?_)
   refine op (OpS.pick rfl rfl rfl rfl ?_)
   refine op (OpS.mv rfl rfl rfl ?_)
   refine RunL.caseb hF (fun e16 hF => ?_) (fun e16 hF => ?_)
   ·
    refine op (OpS.pass rfl rfl rfl ?_)
    refine op (OpS.pass rfl rfl rfl ?_)
    refine op (OpS.pick rfl rfl rfl rfl ?_)
    refine op (OpS.mv rfl rfl rfl ?_)
    refine op (OpS.pass rfl rfl rfl ?_)
    refine op (OpS.pass rfl rfl rfl ?_)
    refine op (OpS.pass rfl rfl rfl ?_)
    refine op (OpS.pick rfl rfl rfl rfl ?_)
    refine op (OpS.mv rfl rfl rfl ?_)
    refine op (OpS.pass rfl rfl rfl ?_)
    refine op (OpS.pass rfl rfl rfl ?_)
    refine op (OpS.pass rfl rfl rfl ?_)
    refine op (OpS.pass rfl rfl rfl ?_)
    refine op (OpS.pass rfl rfl rfl ?_)
    refine op (OpS.pass rfl rfl rfl ?_)
    refine op (OpS.pick rfl rfl rfl rfl ?_)
    refine op (OpS.mv rfl rfl rfl ?_)
    refine op (OpS.pass rfl rfl rfl ?_)
    refine op (OpS.pass rfl rfl rfl ?_)
    refine op (OpS.pass rfl rfl rfl ?_)
    refine op (OpS.pass rfl rfl rfl ?_)
    refine op (OpS.pass rfl rfl rfl ?_)
    refine op (OpS.pick rfl rfl rfl rfl ?_)
    refine RunL.nil ?_
    refine Run.slim [(49, .bool true), (3, u3), (1, u2)] ⟨rfl, rfl, rfl, trivial⟩ ?_
    refine Run.slim [(1, u2), (3, u3), (49, .bool true)] ⟨rfl, rfl, rfl, trivial⟩ ?_
    exact hj1 (true) _ _ ⟨rfl, (h7.facts (.atm .z .nil)).picks (.cons .z .nil)⟩ hF
   ·
    refine op (OpS.mv rfl rfl rfl ?_)
    refine op (OpS.onilE h7 .z (fun _ G_ S_ w_ h_ => ptr_one1 G_ S_ w_ h_) Try.underlying35 rfl rfl rfl rfl ?_)
    refine op (OpS.pick rfl rfl rfl rfl ?_)
    refine op (OpS.mv rfl rfl rfl ?_)
    refine RunL.caseb hF (fun e17 hF => ?_) (fun e17 hF => ?_)
    ·
     refine op (OpS.pass rfl rfl rfl ?_)
     refine op (OpS.pass rfl rfl rfl ?_)
     refine op (OpS.pass rfl rfl rfl ?_)
     refine op (OpS.pick rfl rfl rfl rfl ?_)
     refine op (OpS.mv rfl rfl rfl ?_)
     refine op (OpS.pass rfl rfl rfl ?_)
     refine op (OpS.pass rfl rfl rfl ?_)
     refine op (OpS.pass rfl rfl rfl ?_)
     refine op (OpS.pass rfl rfl rfl ?_)
     refine op (OpS.pass rfl rfl rfl ?_)
     refine op (OpS.pass rfl rfl rfl ?_)
     refine op (OpS.pick rfl rfl rfl rfl ?_)
     refine op (OpS.mv rfl rfl rfl ?_)
     refine op (OpS.pass rfl rfl rfl ?_)
     refine op (OpS.pass rfl rfl rfl ?_)
     refine op (OpS.pass rfl rfl rfl ?_)
     refine op (OpS.pass rfl rfl rfl ?_)
     refine op (OpS.pass rfl rfl rfl ?_)
     refine op (OpS.pick rfl rfl rfl rfl ?_)
     refine RunL.nil ?_
     refine Run.slim [(49, .bool true), (3, u3), (1, u2)] ⟨rfl, rfl, rfl, trivial⟩ ?_
     refine Run.slim [(1, u2), (3, u3), (49, .bool true)] ⟨rfl, rfl, rfl, trivial⟩ ?_
     exact hj1 (true) _ _ ⟨rfl, (h7.facts (.atm .z .nil)).picks (.cons .z .nil)⟩ hF
    ·
     refine op (OpS.mv rfl rfl rfl ?_)
     refine op (OpS.len h7 Try.underlying27 rfl rfl rfl (V.at .z) ?_)
     refine op (OpS.bin rfl rfl rfl rfl rfl ?_)
     refine op (OpS.pick rfl rfl rfl rfl ?_)
     refine op (OpS.mv rfl rfl rfl ?_)
     refine RunL.caseb hF (fun e18 hF => ?_) (fun e18 hF => ?_)
     ·
      refine op (OpS.pass rfl rfl rfl ?_)
      refine op (OpS.pass rfl rfl rfl ?_)
      refine op (OpS.pass rfl rfl rfl ?_)
      refine op (OpS.pass rfl rfl rfl ?_)
      refine op (OpS.pass rfl rfl rfl ?_)
      refine op (OpS.pass rfl rfl rfl ?_)
      refine op (OpS.pick rfl rfl rfl rfl ?_)
      refine op (OpS.mv rfl rfl rfl ?_)
      refine op (OpS.pass rfl rfl rfl ?_)
      refine op (OpS.pass rfl rfl rfl ?_)
      refine op (OpS.pass rfl rfl rfl ?_)
      refine op (OpS.pass rfl rfl rfl ?_)
      refine op (OpS.pass rfl rfl rfl ?_)
      refine op (OpS.pick rfl rfl rfl rfl ?_)
      refine RunL.nil ?_
      refine Run.slim [(49, .bool true), (3, u3), (1, u2)] ⟨rfl, rfl, rfl, trivial⟩ ?_
      refine Run.slim [(1, u2), (3, u3), (49, .bool true)] ⟨rfl, rfl, rfl, trivial⟩ ?_
      exact hj1 (true) _ _ ⟨rfl, (h7.facts (.atm .z .nil)).picks (.cons .z .nil)⟩ hF
     ·
      refine op (OpS.mv rfl rfl rfl ?_)
      obtain ⟨x5, e19, hF⟩ := bindP_use hF
      refine op (OpS.iptr h7 Try.underlying27 ty44 rfl rfl rfl rfl (V.at .z) e19 (fun u15 h33 => ?_))
      refine op (OpS.fptr h33 fa44_7 Packet_.f7 rfl rfl rfl .z (fun u16 h34 => ?_))
      refine op (OpS.load h34 ty22 rfl rfl rfl .z (fun u17 h35 => ?_))
      refine op (OpS.len h35 Try.underlying22 rfl rfl rfl (V.at .z) ?_)
      refine op (OpS.bin rfl rfl rfl rfl rfl ?_)
      refine op (OpS.pick rfl rfl rfl rfl ?_)
      refine op (OpS.mv rfl rfl rfl ?_)
      refine RunL.caseb hF (fun e20 hF => ?_) (fun e20 hF => ?_)
      ·
       refine op (OpS.pass rfl rfl rfl ?_)
       refine op (OpS.pass rfl rfl rfl ?_)
       refine op (OpS.pass rfl rfl rfl ?_)
       refine op (OpS.pass rfl rfl rfl ?_)
       refine op (OpS.pass rfl rfl rfl ?_)
       refine op (OpS.pick rfl rfl rfl rfl ?_)
       refine RunL.nil ?_
       refine Run.slim [(49, .bool true), (3, u3), (1, u2)] ⟨rfl, rfl, rfl, trivial⟩ ?_
       refine Run.slim [(1, u2), (3, u3), (49, .bool true)] ⟨rfl, rfl, rfl, trivial⟩ ?_
       exact hj1 (true) _ _ ⟨rfl, (h35.facts (.atm (.s (.s (.s .z))) .nil)).picks (.cons .z .nil)⟩ hF
      ·
       refine op (OpS.mv rfl rfl rfl ?_)
       obtain ⟨x6, e21, hF⟩ := bindP_use hF
       refine op (OpS.iptr h35 Try.underlying27 ty44 rfl rfl rfl rfl (V.at (.s (.s (.s .z)))) e21 (fun u18 h36 => ?_))
       refine op (OpS.fptr h36 fa44_4 Packet_.f4 rfl rfl rfl .z (fun u19 h37 => ?_))
       refine op (OpS.loadi h37 ty3 rfl rfl rfl .z ?_)
       refine op (OpS.bin rfl rfl rfl rfl rfl ?_)
       refine op (OpS.pick rfl rfl rfl rfl ?_)
       refine RunL.nil ?_
       refine Run.slim [(49, .bool (x6.Sequence != 2)), (3, u3), (1, u2)] ⟨rfl, rfl, rfl, trivial⟩ ?_
       refine Run.slim [(1, u2), (3, u3), (49, .bool (x6.Sequence != 2))] ⟨rfl, rfl, rfl, trivial⟩ ?_
       exact hj1 (x6.Sequence != 2) _ _ ⟨rfl, (h37.facts (.atm (.s (.s (.s (.s (.s .z))))) .nil)).picks (.cons .z .nil)⟩ hF
theorem made_Mod_ok {fuel : Nat} {a0 : Int} {a1 : Int} {y : Int} (hF : made_Mod fuel a0 a1 = some y) {w : World} :
  Spec Try.prog 12 [.int .i64 a0, .int .i64 a1].toArray w [] [] (fun v Γr Ωr Ωo => v = .int .i64 y ∧ Γr = [] ∧ Ωr = [] ∧ Ωo = []) := by
 refine Spec.of (L := [(0, .int .i64 a0), (1, .int .i64 a1)]) Try.func12 rfl ⟨rfl, rfl, trivial⟩ rfl (fun e h => ?_)
 unfold made_Mod at hF
 refine Run.seq ?_
 refine Run.reg ?_
 refine op (OpS.as rfl rfl rfl ?_)
 refine RunL.nil ?_
 refine Run.slim [(0, .int .i64 a0), (1, .int .i64 a1)] ⟨rfl, rfl, trivial⟩ ?_
 refine Run.seq ?_
 refine Run.reg ?_
 refine op (OpS.mv rfl rfl rfl ?_)
 refine op (OpS.mv rfl rfl rfl ?_)
 obtain ⟨e1, hF⟩ := chk_use hF
 refine op (OpS.rem rfl rfl rfl rfl e1 ?_)
 refine op (OpS.as rfl rfl rfl ?_)
 refine RunL.nil ?_
 refine Run.slim [(0, .int .i64 (Int.tmod a0 a1)), (1, .int .i64 a1)] ⟨rfl, rfl, trivial⟩ ?_
 refine Run.seq ?_
 refine Run.seq ?_
 refine Run.reg ?_
 refine op (OpS.mv rfl rfl rfl ?_)
 refine op (OpS.bin rfl rfl rfl rfl rfl ?_)
 refine RunL.nil ?_
 refine Run.slim [(9, .bool (decide ((Int.tmod a0 a1) < 0))), (0, .int .i64 (Int.tmod a0 a1)), (1, .int .i64 a1)] ⟨rfl, rfl, rfl, trivial⟩ ?_
 refine Run.ite rfl hF (fun e2 hF => ?_) (fun e2 hF => ?_)
 ·
  refine Run.reg ?_
  refine op (OpS.mv rfl rfl rfl ?_)
  refine op (OpS.mv rfl rfl rfl ?_)
  refine op (OpS.bin rfl rfl rfl rfl rfl ?_)
  refine op (OpS.as rfl rfl rfl ?_)
  obtain ⟨x1, e3, hF⟩ := letP_use hF
  refine RunL.name e3 ?_
  refine RunL.nil ?_
  refine Run.slim [(0, .int .i64 x1)] ⟨rfl, trivial⟩ ?_
  refine Run.seq ?_
  refine Run.reg ?_
  refine op (OpS.mv rfl rfl rfl ?_)
  refine op (OpS.as rfl rfl rfl ?_)
  refine RunL.nil ?_
  refine Run.slim [(4, .int .i64 x1)] ⟨rfl, trivial⟩ ?_
  refine Run.retP rfl (.tmp rfl .nil) ?_
  cases hF
  exact Post.mk' ⟨rfl, rfl, rfl, rfl⟩ (h.picks .nil) .nil
 ·
  refine Run.skip ?_
  refine Run.seq ?_
  refine Run.reg ?_
  refine op (OpS.mv rfl rfl rfl ?_)
  refine op (OpS.as rfl rfl rfl ?_)
  refine RunL.nil ?_
  refine Run.slim [(4, .int .i64 (Int.tmod a0 a1))] ⟨rfl, trivial⟩ ?_
  refine Run.retP rfl (.tmp rfl .nil) ?_
  cases hF
  exact Post.mk' ⟨rfl, rfl, rfl, rfl⟩ (h.picks .nil) .nil
theorem ref01_Same_ok {fuel : Nat} {a0 : List Int} {a1 : List Int} {y : Bool} (hF : ref01_Same fuel a0 a1 = some y) {w : World} {v0 v1 : Value} :
  Spec Try.prog 29 [v0, v1].toArray w [(false, .val (Rep.slice (Rep.int .u8)) v0 a0), (false, .val (Rep.slice (Rep.int .u8)) v1 a1)] [] (fun v Γr Ωr Ωo => v = .bool y ∧ Γr = [] ∧ Ωr = [] ∧ Ωo = []) := by
 refine Spec.of (L := [(0, v0), (1, v1)]) Try.func29 rfl ⟨rfl, rfl, trivial⟩ rfl (fun e h => ?_)
 unfold ref01_Same at hF
 refine Run.seq ?_
 refine Run.reg ?_
 refine op (OpS.as rfl rfl rfl ?_)
 refine RunL.nil ?_
 refine Run.slim [(0, v0), (1, v1)] ⟨rfl, rfl, trivial⟩ ?_
 refine Run.seq ?_
 refine Run.seq ?_
 refine Run.reg ?_
 refine op (OpS.mv rfl rfl rfl ?_)
 refine op (OpS.len h Try.underlying22 rfl rfl rfl (V.at .z) ?_)
 refine op (OpS.mv rfl rfl rfl ?_)
 refine op (OpS.len h Try.underlying22 rfl rfl rfl (V.at (.s .z)) ?_)
 refine op (OpS.bin rfl rfl rfl rfl rfl ?_)
 refine RunL.nil ?_
 refine Run.slim [(10, .bool ((a0.length : Int) != (a1.length : Int))), (0, v0), (1, v1)] ⟨rfl, rfl, rfl, trivial⟩ ?_
 refine Run.ite rfl hF (fun e1 hF => ?_) (fun e1 hF => ?_)
 ·
  refine Run.seq ?_
  refine Run.reg ?_
  refine op (OpS.as rfl rfl rfl ?_)
  refine RunL.nil ?_
  refine Run.slim [(4, .bool false)] ⟨rfl, trivial⟩ ?_
  refine Run.retP rfl (.tmp rfl .nil) ?_
  cases hF
  exact Post.mk' ⟨rfl, rfl, rfl, rfl⟩ (h.picks .nil) .nil
 ·
  refine Run.skip ?_
  refine Run.seq ?_
  refine Run.seq ?_
  refine Run.reg ?_
  refine op (OpS.as rfl rfl rfl ?_)
  refine RunL.nil ?_
  refine Run.slim [(5, .int .i64 0), (0, v0), (1, v1)] ⟨rfl, rfl, rfl, trivial⟩ ?_
  refine Run.block ?_
  refine Run.slim [(0, v0), (1, v1), (5, .int .i64 0)] ⟨rfl, rfl, rfl, trivial⟩ ?_
  refine Run.loopP (σ := Int) (fun s_ L_ w_ => L_ = [(0, v0), (1, v1), (5, .int .i64 s_)] ∧ St e w_ [(false, .val (Rep.slice (Rep.int .u8)) v0 a0), (false, .val (Rep.slice (Rep.int .u8)) v1 a1)] []) hF ⟨rfl, (h.facts (.atm .z (.atm (.s .z) .nil))).picks .nil⟩ (fun k1 hk1 s1 _ w1 hI hF => ?_)
  obtain ⟨rfl, h1⟩ := hI
  refine Run.seq ?_
  refine Run.seq ?_
  refine Run.reg ?_
  refine op (OpS.mv rfl rfl rfl ?_)
  refine op (OpS.mv rfl rfl rfl ?_)
  refine op (OpS.len h1 Try.underlying22 rfl rfl rfl (V.at .z) ?_)
  refine op (OpS.bin rfl rfl rfl rfl rfl ?_)
  refine RunL.nil ?_
  refine Run.slim [(14, .bool (decide (s1 < (a0.length : Int)))), (0, v0), (1, v1), (5, .int .i64 s1)] ⟨rfl, rfl, rfl, rfl, trivial⟩ ?_
  refine Run.ite rfl hF (fun e2 hF => ?_) (fun e2 hF => ?_)
  ·
   refine Run.skip ?_
   refine Run.seq ?_
   refine Run.block ?_
   refine Run.seq ?_
   obtain ⟨x1, e3, hF⟩ := bindP_use hF
   obtain ⟨x2, e4, hF⟩ := bindP_use hF
   refine Run.drawV (Ωs := []) [⟨some 17, some (v0), fun _ => [], fun ds_ u_ => [], [], [], none⟩, ⟨some 18, some (.int .i64 s1), fun _ => [], fun ds_ u_ => [], [], [], none⟩, ⟨some 19, none, fun u_ => [(false, .ptr (Rep.int .u8) u_ x1)], fun ds_ u_ => [], [], [], none⟩, ⟨some 20, some (.int .u8 x1), fun _ => [], fun ds_ u_ => [], [], [], none⟩, ⟨some 21, some (v1), fun _ => [], fun ds_ u_ => [], [], [], none⟩, ⟨some 22, some (.int .i64 s1), fun _ => [], fun ds_ u_ => [], [], [], none⟩, ⟨some 23, none, fun u_ => [(false, .ptr (Rep.int .u8) u_ x2)], fun ds_ u_ => [], [], [], none⟩, ⟨some 24, some (.int .u8 x2), fun _ => [], fun ds_ u_ => [], [], [], none⟩, ⟨some 25, some (.bool (x1 != x2)), fun _ => [], fun ds_ u_ => [], [], [], none⟩] [[], [], [0, 1], [2], [], [], [4, 5], [6], [3, 7]] [] [0, 1, 2, 3, 4, 5, 6, 7, 8] Try_mixed rfl rfl rfl h1 (.cons ?_ (.cons ?_ (.cons ?_ (.cons ?_ (.cons ?_ (.cons ?_ (.cons ?_ (.cons ?_ (.cons ?_ .nil))))))))) (fun q1 w hq1 h => ?_)
   ·intro q1 w Γx Ωx h
    refine OpS.mv rfl rfl rfl ?_
    exact ⟨undef, rfl, trivial, h⟩
   ·intro q1 w Γx Ωx h
    refine OpS.mv rfl rfl rfl ?_
    exact ⟨undef, rfl, trivial, h⟩
   ·intro q1 w Γx Ωx h
    refine OpS.iptr h Try.underlying22 ty5 rfl rfl rfl rfl (V.at .z) e3 (fun u h4 => ?_)
    exact ⟨u, rfl, trivial, h4⟩
   ·intro q1 w Γx Ωx h
    refine OpS.loadi h ty5 rfl rfl rfl .z ?_
    exact ⟨undef, rfl, trivial, h⟩
   ·intro q1 w Γx Ωx h
    refine OpS.mv rfl rfl rfl ?_
    exact ⟨undef, rfl, trivial, h⟩
   ·intro q1 w Γx Ωx h
    refine OpS.mv rfl rfl rfl ?_
    exact ⟨undef, rfl, trivial, h⟩
   ·intro q1 w Γx Ωx h
    refine OpS.iptr h Try.underlying22 ty5 rfl rfl rfl rfl (V.at (.s .z)) e4 (fun u h5 => ?_)
    exact ⟨u, rfl, trivial, h5⟩
   ·intro q1 w Γx Ωx h
    refine OpS.loadi h ty5 rfl rfl rfl .z ?_
    exact ⟨undef, rfl, trivial, h⟩
   ·intro q1 w Γx Ωx h
    refine OpS.bin rfl rfl rfl rfl rfl ?_
    exact ⟨undef, rfl, trivial, h⟩
   have h6 : St e w [(false, .ptr (Rep.int .u8) (q1 2) x1), (false, .ptr (Rep.int .u8) (q1 6) x2), (false, .val (Rep.slice (Rep.int .u8)) v0 a0), (false, .val (Rep.slice (Rep.int .u8)) v1 a1)] [] := h
   refine RunL.nil ?_
   refine Run.slim [(25, .bool (x1 != x2)), (0, v0), (1, v1), (5, .int .i64 s1)] ⟨rfl, rfl, rfl, rfl, trivial⟩ ?_
   refine Run.ite rfl hF (fun e5 hF => ?_) (fun e5 hF => ?_)
   ·
    refine Run.seq ?_
    refine Run.reg ?_
    refine op (OpS.as rfl rfl rfl ?_)
    refine RunL.nil ?_
    refine Run.slim [(4, .bool false)] ⟨rfl, trivial⟩ ?_
    refine Run.retP rfl (.tmp rfl .nil) ?_
    cases hF
    exact Post.mk' ⟨rfl, rfl, rfl, rfl⟩ (h6.picks .nil) .nil
   ·
    refine Run.skip ?_
    refine Run.endBlock ?_
    refine Run.reg ?_
    refine op (OpS.mv rfl rfl rfl ?_)
    refine op (OpS.bin rfl rfl rfl rfl rfl ?_)
    refine op (OpS.as rfl rfl rfl ?_)
    obtain ⟨x3, e6, hF⟩ := letP_use hF
    refine RunL.name e6 ?_
    refine RunL.nil ?_
    refine Run.slim [(5, .int .i64 x3), (0, v0), (1, v1)] ⟨rfl, rfl, rfl, trivial⟩ ?_
    refine Run.slim [(0, v0), (1, v1), (5, .int .i64 x3)] ⟨rfl, rfl, rfl, trivial⟩ ?_
    exact hk1 (x3) _ _ ⟨rfl, (h6.facts (.atm (.s (.s .z)) (.atm (.s (.s (.s .z))) .nil))).picks .nil⟩ hF
  ·
   refine Run.exit rfl ?_
   refine Run.seq ?_
   refine Run.reg ?_
   refine op (OpS.as rfl rfl rfl ?_)
   refine RunL.nil ?_
   refine Run.slim [(4, .bool true)] ⟨rfl, trivial⟩ ?_
   refine Run.retP rfl (.tmp rfl .nil) ?_
   cases hF
   exact Post.mk' ⟨rfl, rfl, rfl, rfl⟩ (h1.picks .nil) .nil
theorem made_Light_ok {fuel : Nat} {a0 : List Int} {y : Bool} (hF : made_Light fuel a0 = some y) {w : World} {v0 : Value} :
  Spec Try.prog 16 [v0].toArray w [(false, .val (Rep.slice (Rep.int .i64)) v0 a0)] [] (fun v Γr Ωr Ωo => v = .bool y ∧ Γr = [] ∧ Ωr = [] ∧ Ωo = []) := by
 refine Spec.of (L := [(0, v0)]) Try.func16 rfl ⟨rfl, trivial⟩ rfl (fun e h => ?_)
 unfold made_Light at hF
 refine Run.seq ?_
 refine Run.reg ?_
 refine op (OpS.as rfl rfl rfl ?_)
 refine RunL.nil ?_
 refine Run.slim [(0, v0)] ⟨rfl, trivial⟩ ?_
 refine Run.seq ?_
 refine Run.reg ?_
 refine op (OpS.mv rfl rfl rfl ?_)
 refine op (OpS.len h Try.underlying33 rfl rfl rfl (V.at .z) ?_)
 refine op (OpS.bin rfl rfl rfl rfl rfl ?_)
 refine op (OpS.as rfl rfl rfl ?_)
 obtain ⟨x1, e1, hF⟩ := letP_use hF
 refine RunL.nameb e1 ?_
 refine RunL.nil ?_
 refine Run.slim [(2, .bool x1)] ⟨rfl, trivial⟩ ?_
 refine Run.retP rfl (.tmp rfl .nil) ?_
 cases hF
 exact Post.mk' ⟨rfl, rfl, rfl, rfl⟩ (h.picks .nil) .nil
theorem made_Roll_ok {fuel : Nat} {a0 : List Int} {y : made_Dice} (hF : made_Roll fuel a0 = some y) {w : World} {v0 : Value} :
  Spec Try.prog 19 [v0].toArray w [(false, .val (Rep.slice (Rep.int .i64)) v0 a0)] [] (fun v Γr Ωr Ωo => ∃ u0 : Value, v = u0 ∧ Γr = [] ∧ Ωr = [(false, .box 85 made_Dice.rep u0 y)] ∧ Ωo = []) := by
 refine Spec.of (L := [(0, v0)]) Try.func19 rfl ⟨rfl, trivial⟩ rfl (fun e h => ?_)
 unfold made_Roll at hF
 refine Run.seq ?_
 refine Run.reg ?_
 refine op (OpS.as rfl rfl rfl ?_)
 refine RunL.nil ?_
 refine Run.slim [(0, v0)] ⟨rfl, trivial⟩ ?_
 refine Run.seq ?_
 refine Run.reg ?_
 refine op (OpS.mv rfl rfl rfl ?_)
 refine op (OpS.build (f := false) (x' := (⟨a0, 0⟩ : made_Dice)) h pl85 ti85 made_Dice.zr rfl rfl rfl (.cons rfl made_Dice.f0 rfl (V.at .z) .nil) (fun u1 h1 => ?_))
 refine op (OpS.boxF h1 rfl rfl rfl (V.at .z) (fun u2 w1 h2 => ?_))
 refine op (OpS.as rfl rfl rfl ?_)
 refine RunL.nil ?_
 refine Run.slim [(2, u2)] ⟨rfl, trivial⟩ ?_
 refine Run.retP rfl (.tmp rfl .nil) ?_
 cases hF
 exact Post.mk' ⟨u2, rfl, rfl, rfl, rfl⟩ (h2.picks (.cons .z .nil)) .nil
theorem made_Dice_Next_ok {fuel : Nat} {a0 : made_Dice} {a1 : Int} {y : Int × made_Dice} (hF : made_Dice_Next fuel a0 a1 = some y) {w : World} {v0 : Value} :
  Spec Try.prog 23 [v0, .int .i64 a1].toArray w [] [(false, .box 85 made_Dice.rep v0 a0)] (fun v Γr Ωr Ωo => v = .int .i64 y.1 ∧ Γr = [] ∧ Ωr = [] ∧ Ωo = [(false, .box 85 made_Dice.rep v0 y.2)]) := by
 refine Spec.of (L := [(0, v0), (1, .int .i64 a1)]) Try.func23 rfl ⟨rfl, rfl, trivial⟩ rfl (fun e h => ?_)
 unfold made_Dice_Next at hF
 refine Run.seq ?_
 refine Run.reg ?_
 refine op (OpS.as rfl rfl rfl ?_)
 refine RunL.nil ?_
 refine Run.slim [(0, v0), (1, .int .i64 a1)] ⟨rfl, rfl, trivial⟩ ?_
 refine Run.seq ?_
 refine Run.seq ?_
 refine Run.drawV (Ωs := []) [⟨some 5, some (v0), fun _ => [], fun ds_ u_ => [], [], [], none⟩, ⟨some 6, some (v0), fun _ => [], fun ds_ u_ => [], [], [(0, [])], none⟩, ⟨some 7, some ((padd v0 1)), fun _ => [], fun ds_ u_ => [], [], [(0, [])], none⟩, ⟨some 8, some (.int .i64 a0.At), fun _ => [], fun ds_ u_ => [], [], [(0, [])], none⟩, ⟨some 9, some (v0), fun _ => [], fun ds_ u_ => [], [], [], none⟩, ⟨some 10, some (v0), fun _ => [], fun ds_ u_ => [], [], [(0, [])], none⟩, ⟨some 11, some ((padd v0 0)), fun _ => [], fun ds_ u_ => [], [], [(0, [])], none⟩, ⟨some 12, none, fun u_ => [(false, .val (Rep.slice (Rep.int .i64)) u_ a0.L)], fun ds_ u_ => [], [], [(0, [])], none⟩, ⟨some 13, some (.int .i64 (a0.L.length : Int)), fun _ => [], fun ds_ u_ => [], [], [], none⟩, ⟨some 14, some (.bool (decide (a0.At ≥ (a0.L.length : Int)))), fun _ => [], fun ds_ u_ => [], [], [], none⟩] [[], [0], [1], [2], [], [4], [5], [6], [7], [3, 8]] [[(false, .box 85 made_Dice.rep v0 a0)]] [0, 1, 2, 3, 4, 5, 6, 7, 8, 9, 10] Try_mixed rfl rfl rfl h (.cons ?_ (.cons ?_ (.cons ?_ (.cons ?_ (.cons ?_ (.cons ?_ (.cons ?_ (.cons ?_ (.cons ?_ (.cons ?_ .nil)))))))))) (fun q1 w hq1 h => ?_)
 ·intro q1 w Γx Ωx h
  refine OpS.mv rfl rfl rfl ?_
  exact ⟨undef, rfl, trivial, h⟩
 ·intro q1 w Γx Ωx h
  have h : St e w ([] ++ Γx) ([(false, .box 85 made_Dice.rep v0 a0)] ++ Ωx) := h
  refine OpS.nchk h .z rfl rfl rfl ?_
  exact ⟨undef, rfl, trivial, h⟩
 ·intro q1 w Γx Ωx h
  have h : St e w ([] ++ Γx) ([(false, .box 85 made_Dice.rep v0 a0)] ++ Ωx) := h
  refine OpS.fbox (o3 := 1) h .z PA.z fa85_1 rfl rfl rfl rfl ?_
  exact ⟨undef, rfl, trivial, h⟩
 ·intro q1 w Γx Ωx h
  have h : St e w ([] ++ Γx) ([(false, .box 85 made_Dice.rep v0 a0)] ++ Ωx) := h
  refine OpS.loadBi h .z PA.a (Get.fld made_Dice.f1) ty3 rfl rfl rfl ?_
  exact ⟨undef, rfl, trivial, h⟩
 ·intro q1 w Γx Ωx h
  refine OpS.mv rfl rfl rfl ?_
  exact ⟨undef, rfl, trivial, h⟩
 ·intro q1 w Γx Ωx h
  have h : St e w ([] ++ Γx) ([(false, .box 85 made_Dice.rep v0 a0)] ++ Ωx) := h
  refine OpS.nchk h .z rfl rfl rfl ?_
  exact ⟨undef, rfl, trivial, h⟩
 ·intro q1 w Γx Ωx h
  have h : St e w ([] ++ Γx) ([(false, .box 85 made_Dice.rep v0 a0)] ++ Ωx) := h
  refine OpS.fbox (o3 := 0) h .z PA.z fa85_0 rfl rfl rfl rfl ?_
  exact ⟨undef, rfl, trivial, h⟩
 ·intro q1 w Γx Ωx h
  have h : St e w ([] ++ Γx) ([(false, .box 85 made_Dice.rep v0 a0)] ++ Ωx) := h
  refine OpS.loadB h .z PA.a (Get.fld made_Dice.f0) ty33 rfl rfl rfl (fun u h2 => ?_)
  exact ⟨u, rfl, trivial, h2⟩
 ·intro q1 w Γx Ωx h
  refine OpS.len h Try.underlying33 rfl rfl rfl (V.at .z) ?_
  exact ⟨undef, rfl, trivial, h⟩
 ·intro q1 w Γx Ωx h
  refine OpS.bin rfl rfl rfl rfl rfl ?_
  exact ⟨undef, rfl, trivial, h⟩
 have h3 : St e w [(false, .val (Rep.slice (Rep.int .i64)) (q1 7) a0.L)] [(false, .box 85 made_Dice.rep v0 a0)] := h
 refine RunL.nil ?_
 refine Run.slim [(14, .bool (decide (a0.At ≥ (a0.L.length : Int)))), (0, v0), (1, .int .i64 a1)] ⟨rfl, rfl, rfl, trivial⟩ ?_
 refine Run.ite rfl hF (fun e1 hF => ?_) (fun e1 hF => ?_)
 ·
  refine Run.seq ?_
  refine Run.reg ?_
  refine op (OpS.as rfl rfl rfl ?_)
  refine RunL.nil ?_
  refine Run.slim [(4, .int .i64 0)] ⟨rfl, trivial⟩ ?_
  refine Run.retP rfl (.tmp rfl .nil) ?_
  cases hF
  exact Post.mk' ⟨rfl, rfl, rfl, rfl⟩ (h3.picks (.cons .z .nil)) .nil
 ·
  refine Run.skip ?_
  refine Run.seq ?_
  refine Run.reg ?_
  refine op (OpS.mv rfl rfl rfl ?_)
  refine op (OpS.nchk h3 .z rfl rfl rfl ?_)
  refine op (OpS.fbox (o3 := 1) h3 .z PA.z fa85_1 rfl rfl rfl rfl ?_)
  refine op (OpS.loadBi h3 .z PA.a (Get.fld made_Dice.f1) ty3 rfl rfl rfl ?_)
  refine op (OpS.bin rfl rfl rfl rfl rfl ?_)
  refine op (OpS.nchk h3 .z rfl rfl rfl ?_)
  refine op (OpS.fbox (o3 := 1) h3 .z PA.z fa85_1 rfl rfl rfl rfl ?_)
  obtain ⟨d1, e2, hF⟩ := letP_use hF
  refine op (OpS.storeB (f' := true) h3 .z PA.a (Put.of (Put.fld made_Dice.f1) e2) ty3 rfl rfl rfl V.int (.inr rfl) (fun w1 h4 => ?_))
  refine RunL.nil ?_
  refine Run.slim [(0, v0), (1, .int .i64 a1)] ⟨rfl, rfl, trivial⟩ ?_
  refine Run.seq ?_
  obtain ⟨x1, e3, hF⟩ := bindP_use hF
  obtain ⟨y1, e4, hF⟩ := bindP_use hF
  refine Run.drawV (Ωs := []) [⟨some 22, some (v0), fun _ => [], fun ds_ u_ => [], [], [], none⟩, ⟨some 23, some (v0), fun _ => [], fun ds_ u_ => [], [], [(0, [])], none⟩, ⟨some 24, some ((padd v0 0)), fun _ => [], fun ds_ u_ => [], [], [(0, [])], none⟩, ⟨some 25, none, fun u_ => [(false, .val (Rep.slice (Rep.int .i64)) u_ d1.L)], fun ds_ u_ => [], [], [(0, [])], none⟩, ⟨some 26, some (v0), fun _ => [], fun ds_ u_ => [], [], [], none⟩, ⟨some 27, some (v0), fun _ => [], fun ds_ u_ => [], [], [(0, [])], none⟩, ⟨some 28, some ((padd v0 1)), fun _ => [], fun ds_ u_ => [], [], [(0, [])], none⟩, ⟨some 29, some (.int .i64 d1.At), fun _ => [], fun ds_ u_ => [], [], [(0, [])], none⟩, ⟨some 30, some (.int .i64 (IntKind.i64.wrap (d1.At - 1))), fun _ => [], fun ds_ u_ => [], [], [], none⟩, ⟨some 31, none, fun u_ => [(false, .ptr (Rep.int .i64) u_ x1)], fun ds_ u_ => [], [], [], none⟩, ⟨some 32, some (.int .i64 x1), fun _ => [], fun ds_ u_ => [], [], [], none⟩, ⟨some 33, some (.int .i64 a1), fun _ => [], fun ds_ u_ => [], [], [], none⟩, ⟨some 34, some (.int .i64 y1), fun _ => [], fun ds_ u_ => [], [], [], none⟩] [[], [0], [1], [2], [], [4], [5], [6], [7], [3, 8], [9], [], [10, 11]] [[(false, .box 85 made_Dice.rep v0 d1)]] [0, 1, 2, 3, 4, 5, 6, 7, 8, 9, 10, 11, 12, 13] Try_mixed rfl rfl rfl h4 (.cons ?_ (.cons ?_ (.cons ?_ (.cons ?_ (.cons ?_ (.cons ?_ (.cons ?_ (.cons ?_ (.cons ?_ (.cons ?_ (.cons ?_ (.cons ?_ (.cons ?_ .nil))))))))))))) (fun q2 w hq2 h => ?_)
  ·intro q2 w Γx Ωx h
   refine OpS.mv rfl rfl rfl ?_
   exact ⟨undef, rfl, trivial, h⟩
  ·intro q2 w Γx Ωx h
   have h : St e w ([(false, .val (Rep.slice (Rep.int .i64)) (q1 7) a0.L)] ++ Γx) ([(false, .box 85 made_Dice.rep v0 d1)] ++ Ωx) := h
   refine OpS.nchk h .z rfl rfl rfl ?_
   exact ⟨undef, rfl, trivial, h⟩
  ·intro q2 w Γx Ωx h
   have h : St e w ([(false, .val (Rep.slice (Rep.int .i64)) (q1 7) a0.L)] ++ Γx) ([(false, .box 85 made_Dice.rep v0 d1)] ++ Ωx) := h
   refine OpS.fbox (o3 := 0) h .z PA.z fa85_0 rfl rfl rfl rfl ?_
   exact ⟨undef, rfl, trivial, h⟩
  ·intro q2 w Γx Ωx h
   have h : St e w ([(false, .val (Rep.slice (Rep.int .i64)) (q1 7) a0.L)] ++ Γx) ([(false, .box 85 made_Dice.rep v0 d1)] ++ Ωx) := h
   refine OpS.loadB h .z PA.a (Get.fld made_Dice.f0) ty33 rfl rfl rfl (fun u h9 => ?_)
   exact ⟨u, rfl, trivial, h9⟩
  ·intro q2 w Γx Ωx h
   refine OpS.mv rfl rfl rfl ?_
   exact ⟨undef, rfl, trivial, h⟩
  ·intro q2 w Γx Ωx h
   have h : St e w ([(false, .val (Rep.slice (Rep.int .i64)) (q1 7) a0.L)] ++ Γx) ([(false, .box 85 made_Dice.rep v0 d1)] ++ Ωx) := h
   refine OpS.nchk h .z rfl rfl rfl ?_
   exact ⟨undef, rfl, trivial, h⟩
  ·intro q2 w Γx Ωx h
   have h : St e w ([(false, .val (Rep.slice (Rep.int .i64)) (q1 7) a0.L)] ++ Γx) ([(false, .box 85 made_Dice.rep v0 d1)] ++ Ωx) := h
   refine OpS.fbox (o3 := 1) h .z PA.z fa85_1 rfl rfl rfl rfl ?_
   exact ⟨undef, rfl, trivial, h⟩
  ·intro q2 w Γx Ωx h
   have h : St e w ([(false, .val (Rep.slice (Rep.int .i64)) (q1 7) a0.L)] ++ Γx) ([(false, .box 85 made_Dice.rep v0 d1)] ++ Ωx) := h
   refine OpS.loadBi h .z PA.a (Get.fld made_Dice.f1) ty3 rfl rfl rfl ?_
   exact ⟨undef, rfl, trivial, h⟩
  ·intro q2 w Γx Ωx h
   refine OpS.bin rfl rfl rfl rfl rfl ?_
   exact ⟨undef, rfl, trivial, h⟩
  ·intro q2 w Γx Ωx h
   refine OpS.iptr h Try.underlying33 ty3 rfl rfl rfl rfl (V.at .z) e3 (fun u h10 => ?_)
   exact ⟨u, rfl, trivial, h10⟩
  ·intro q2 w Γx Ωx h
   refine OpS.loadi h ty3 rfl rfl rfl .z ?_
   exact ⟨undef, rfl, trivial, h⟩
  ·intro q2 w Γx Ωx h
   refine OpS.mv rfl rfl rfl ?_
   exact ⟨undef, rfl, trivial, h⟩
  ·intro q2 w Γx Ωx h
   refine OpS.callP h Try.func12 rfl rfl rfl rfl (vs := [.int .i64 x1, .int .i64 a1]) rfl (made_Mod_ok e4) .nil ?_
   rintro _ w3 _ _ _ ⟨rfl, rfl, rfl, rfl⟩ h11
   have h12 := h11 rfl rfl
   simp only [List.cons_append, List.nil_append] at h12
   exact ⟨undef, rfl, trivial, h12⟩
  have h13 : St e w [(false, .val (Rep.slice (Rep.int .i64)) (q2 3) d1.L), (false, .ptr (Rep.int .i64) (q2 9) x1), (false, .val (Rep.slice (Rep.int .i64)) (q1 7) a0.L)] [(false, .box 85 made_Dice.rep v0 d1)] := h
  refine op (OpS.as rfl rfl rfl ?_)
  refine RunL.nil ?_
  refine Run.slim [(4, .int .i64 y1)] ⟨rfl, trivial⟩ ?_
  refine Run.retP rfl (.tmp rfl .nil) ?_
  cases hF
  exact Post.mk' ⟨rfl, rfl, rfl, rfl⟩ (h13.picks (.cons .z .nil)) .nil
theorem made_Dice_Bool_ok {fuel : Nat} {a0 : made_Dice} {a1 : Int} {y : Bool × made_Dice} (hF : made_Dice_Bool fuel a0 a1 = some y) {w : World} {v0 : Value} :
  Spec Try.prog 22 [v0, .int .i64 a1].toArray w [] [(false, .box 85 made_Dice.rep v0 a0)] (fun v Γr Ωr Ωo => v = .bool y.1 ∧ Γr = [] ∧ Ωr = [] ∧ Ωo = [(false, .box 85 made_Dice.rep v0 y.2)]) := by
 refine Spec.of (L := [(0, v0), (1, .int .i64 a1)]) Try.func22 rfl ⟨rfl, rfl, trivial⟩ rfl (fun e h => ?_)
 unfold made_Dice_Bool at hF
 refine Run.seq ?_
 refine Run.reg ?_
 refine op (OpS.as rfl rfl rfl ?_)
 refine RunL.nil ?_
 refine Run.slim [(0, v0), (1, .int .i64 a1)] ⟨rfl, rfl, trivial⟩ ?_
 refine Run.seq ?_
 refine Run.reg ?_
 refine op (OpS.mv rfl rfl rfl ?_)
 refine op (OpS.mv rfl rfl rfl ?_)
 obtain ⟨y1, e1, hF⟩ := bindP_use hF
 have h1 := h.front (.cons .z .nil)
 refine op (OpS.callO h1 Try.func23 rfl rfl rfl rfl (vs := [v0, .int .i64 a1]) rfl (made_Dice_Next_ok e1) rfl .nil ?_)
 rintro _ w1 _ _ _ ⟨rfl, rfl, rfl, rfl⟩ h2
 have h3 := h2
 simp only [List.cons_append, List.nil_append] at h3
 refine op (OpS.mv rfl rfl rfl ?_)
 refine op (OpS.bin rfl rfl rfl rfl rfl ?_)
 refine op (OpS.bin rfl rfl rfl rfl rfl ?_)
 refine op (OpS.as rfl rfl rfl ?_)
 obtain ⟨x1, e2, hF⟩ := letP_use hF
 refine RunL.nameb e2 ?_
 refine RunL.nil ?_
 refine Run.slim [(4, .bool x1)] ⟨rfl, trivial⟩ ?_
 refine Run.retP rfl (.tmp rfl .nil) ?_
 cases hF
 exact Post.mk' ⟨rfl, rfl, rfl, rfl⟩ (h3.picks (.cons .z .nil)) .nil
theorem made_Dice_Byte_ok {fuel : Nat} {a0 : made_Dice} {y : Int × made_Dice} (hF : made_Dice_Byte fuel a0 = some y) {w : World} {v0 : Value} :
  Spec Try.prog 34 [v0].toArray w [] [(false, .box 85 made_Dice.rep v0 a0)] (fun v Γr Ωr Ωo => v = .int .u8 y.1 ∧ Γr = [] ∧ Ωr = [] ∧ Ωo = [(false, .box 85 made_Dice.rep v0 y.2)]) := by
 refine Spec.of (L := [(0, v0)]) Try.func34 rfl ⟨rfl, trivial⟩ rfl (fun e h => ?_)
 unfold made_Dice_Byte at hF
 refine Run.seq ?_
 refine Run.reg ?_
 refine op (OpS.as rfl rfl rfl ?_)
 refine RunL.nil ?_
 refine Run.slim [(0, v0)] ⟨rfl, trivial⟩ ?_
 refine Run.seq ?_
 refine Run.reg ?_
 refine op (OpS.buildA (f := true) (r := (Rep.int .u8)) h Try.underlying96 ti5 rfl ti96 rfl rfl rfl (.cons rfl V.int (.cons rfl V.int (.cons rfl V.int (.cons rfl V.int (.cons rfl V.int (.cons rfl V.int (.cons rfl V.int (.cons rfl V.int .nil)))))))) rfl (fun u1 h1 => ?_))
 refine op (OpS.alloc h1 ti96 (Zr.of (Zr.arr (Zr.int .u8 0) 8) rfl) rfl rfl (fun u2 w1 h2 => ?_))
 obtain ⟨d1, e1, hF⟩ := letP_use hF
 refine op (OpS.storeB (f' := true) h2 .z PA.z (Put.of Put.id e1) ty96 rfl rfl rfl (V.at .z) (.inl rfl) (fun w2 h3 => ?_))
 refine RunL.nil ?_
 refine Run.slim [(3, u2), (0, v0)] ⟨rfl, rfl, trivial⟩ ?_
 refine Run.seq ?_
 refine Run.seq ?_
 refine Run.reg ?_
 refine op (OpS.mv rfl rfl rfl ?_)
 obtain ⟨y1, e2, hF⟩ := bindP_use hF
 have h4 := h3.front (.cons (.s .z) .nil)
 refine op (OpS.callO h4 Try.func22 rfl rfl rfl rfl (vs := [v0, .int .i64 3]) rfl (made_Dice_Bool_ok e2) rfl .nil ?_)
 rintro _ w3 _ _ _ ⟨rfl, rfl, rfl, rfl⟩ h5
 have h6 := h5
 simp only [List.cons_append, List.nil_append] at h6
 refine RunL.nil ?_
 refine Run.slim [(6, .bool y1.1), (3, u2), (0, v0)] ⟨rfl, rfl, rfl, trivial⟩ ?_
 refine Run.ite rfl hF (fun e3 hF => ?_) (fun e3 hF => ?_)
 ·
  refine Run.seq ?_
  refine Run.reg ?_
  refine op (OpS.mv rfl rfl rfl ?_)
  obtain ⟨y2, e4, hF⟩ := bindP_use hF
  have h7 := h6.front (.cons .z .nil)
  refine op (OpS.callO h7 Try.func23 rfl rfl rfl rfl (vs := [v0, .int .i64 8]) rfl (made_Dice_Next_ok e4) rfl .nil ?_)
  rintro _ w4 _ _ _ ⟨rfl, rfl, rfl, rfl⟩ h8
  have h9 := h8
  simp only [List.cons_append, List.nil_append] at h9
  obtain ⟨x1, e5, hF⟩ := bindP_use hF
  obtain ⟨e6, hF⟩ := chk_use hF
  refine op (OpS.ibox h9 (.s .z) PA.z Try.underlying96 ty5 (Nat.eq_of_beq_eq_true e6) rfl rfl rfl rfl e5 ?_)
  refine op (OpS.loadBi h9 (.s .z) PA.a (Get.comp Get.id (Get.arr e5)) ty5 rfl rfl rfl ?_)
  refine op (OpS.as rfl rfl rfl ?_)
  refine RunL.nil ?_
  refine Run.slim [(2, .int .u8 x1)] ⟨rfl, trivial⟩ ?_
  refine Run.retP rfl (.tmp rfl .nil) ?_
  cases hF
  exact Post.mk' ⟨rfl, rfl, rfl, rfl⟩ (h9.picks (.cons .z .nil)) .nil
 ·
  refine Run.skip ?_
  refine Run.seq ?_
  refine Run.reg ?_
  refine op (OpS.mv rfl rfl rfl ?_)
  obtain ⟨y3, e7, hF⟩ := bindP_use hF
  have h10 := h6.front (.cons .z .nil)
  refine op (OpS.callO h10 Try.func23 rfl rfl rfl rfl (vs := [v0, .int .i64 256]) rfl (made_Dice_Next_ok e7) rfl .nil ?_)
  rintro _ w5 _ _ _ ⟨rfl, rfl, rfl, rfl⟩ h11
  have h12 := h11
  simp only [List.cons_append, List.nil_append] at h12
  refine op (OpS.conv Try.underlying3 Try.underlying5 rfl rfl rfl ?_)
  refine op (OpS.as rfl rfl rfl ?_)
  refine RunL.nil ?_
  refine Run.slim [(2, .int .u8 (IntKind.u8.wrap y3.1))] ⟨rfl, trivial⟩ ?_
  refine Run.retP rfl (.tmp rfl .nil) ?_
  cases hF
  exact Post.mk' ⟨rfl, rfl, rfl, rfl⟩ (h12.picks (.cons .z .nil)) .nil
theorem law22_message_ok {fuel : Nat} {a0 : made_Dice} {a1 : Int} {y : (List Int) × made_Dice} (hF : law22_message fuel a0 a1 = some y) {w : World} {v0 : Value} :
  Spec Try.prog 28 [v0, .int .i64 a1].toArray w [] [(false, .box 85 made_Dice.rep v0 a0)] (fun v Γr Ωr Ωo => ∃ u0 : Value, v = u0 ∧ Γr = [] ∧ Ωr = [(true, (.slice 5 (Rep.int .u8) u0 y.1))] ∧ Ωo = [(false, .box 85 made_Dice.rep v0 y.2)]) := by
 refine Spec.of (L := [(0, v0), (1, .int .i64 a1)]) Try.func28 rfl ⟨rfl, rfl, trivial⟩ rfl (fun e h => ?_)
 unfold law22_message at hF
 refine Run.seq ?_
 refine Run.reg ?_
 refine op (OpS.as rfl rfl rfl ?_)
 refine RunL.nil ?_
 refine Run.slim [(0, v0), (1, .int .i64 a1)] ⟨rfl, rfl, trivial⟩ ?_
 refine Run.seq ?_
 refine Run.reg ?_
 refine op (OpS.mv rfl rfl rfl ?_)
 obtain ⟨y1, e1, hF⟩ := bindP_use hF
 have h1 := h.front (.cons .z .nil)
 refine op (OpS.callO h1 Try.func34 rfl rfl rfl rfl (vs := [v0]) rfl (made_Dice_Byte_ok e1) rfl .nil ?_)
 rintro _ w1 _ _ _ ⟨rfl, rfl, rfl, rfl⟩ h2
 have h3 := h2
 simp only [List.cons_append, List.nil_append] at h3
 refine op (OpS.litO (r := (Rep.int .u8)) (f := true) h3 Try.underlying22 ti5 rfl rfl rfl rfl rfl (.cons rfl V.int .nil) rfl rfl (fun u1 w2 h4 => ?_))
 refine op (OpS.as rfl rfl rfl ?_)
 refine RunL.nil ?_
 refine Run.slim [(5, u1), (0, v0), (1, .int .i64 a1)] ⟨rfl, rfl, rfl, trivial⟩ ?_
 refine Run.seq ?_
 refine Run.seq ?_
 refine Run.reg ?_
 refine op (OpS.mv rfl rfl rfl ?_)
 refine op (OpS.mv rfl rfl rfl ?_)
 obtain ⟨y2, e2, hF⟩ := bindP_use hF
 have h5 := h4.front (.cons (.s .z) .nil)
 refine op (OpS.callO h5 Try.func23 rfl rfl rfl rfl (vs := [v0, .int .i64 a1]) rfl (made_Dice_Next_ok e2) rfl .nil ?_)
 rintro _ w3 _ _ _ ⟨rfl, rfl, rfl, rfl⟩ h6
 have h7 := h6
 simp only [List.cons_append, List.nil_append] at h7
 refine op (OpS.as rfl rfl rfl ?_)
 refine RunL.nil ?_
 refine Run.slim [(6, .int .i64 y2.1), (5, u1), (0, v0)] ⟨rfl, rfl, rfl, trivial⟩ ?_
 refine Run.block ?_
 refine Run.slim [(0, v0), (5, u1), (6, .int .i64 y2.1)] ⟨rfl, rfl, rfl, trivial⟩ ?_
 refine Run.loopP (σ := (Int × made_Dice × (List Int))) (fun s_ L_ w_ => ∃ u0_ : Value, L_ = [(0, v0), (5, u0_), (6, .int .i64 s_.1)] ∧ St e w_ [] [(false, .box 85 made_Dice.rep v0 s_.2.1), (true, .slice 5 (Rep.int .u8) u0_ s_.2.2)]) hF ⟨u1, rfl, (h7.facts .nil).picks (.cons .z (.cons .z .nil))⟩ (fun k1 hk1 s1 _ w4 hI hF => ?_)
 obtain ⟨u2, rfl, h8⟩ := hI
 refine Run.seq ?_
 refine Run.seq ?_
 refine Run.reg ?_
 refine op (OpS.mv rfl rfl rfl ?_)
 refine op (OpS.bin rfl rfl rfl rfl rfl ?_)
 refine RunL.nil ?_
 refine Run.slim [(14, .bool (decide (s1.1 > 0))), (0, v0), (5, u2), (6, .int .i64 s1.1)] ⟨rfl, rfl, rfl, rfl, trivial⟩ ?_
 refine Run.ite rfl hF (fun e3 hF => ?_) (fun e3 hF => ?_)
 ·
  refine Run.skip ?_
  refine Run.seq ?_
  refine Run.block ?_
  refine Run.reg ?_
  refine op (OpS.mv rfl rfl rfl ?_)
  refine op (OpS.mv rfl rfl rfl ?_)
  refine op (OpS.bin rfl rfl rfl rfl rfl ?_)
  refine op (OpS.conv Try.underlying3 Try.underlying5 rfl rfl rfl ?_)
  refine op (OpS.mv rfl rfl rfl ?_)
  obtain ⟨y3, e4, hF⟩ := bindP_use hF
  have h9 := h8.front (.cons .z .nil)
  refine op (OpS.callO h9 Try.func34 rfl rfl rfl rfl (vs := [v0]) rfl (made_Dice_Byte_ok e4) rfl .nil ?_)
  rintro _ w5 _ _ _ ⟨rfl, rfl, rfl, rfl⟩ h10
  have h11 := h10
  simp only [List.cons_append, List.nil_append] at h11
  refine op (OpS.bin rfl rfl rfl rfl rfl ?_)
  refine op (OpS.lit (r := (Rep.int .u8)) (f := true) h11 Try.underlying22 ti5 rfl rfl rfl rfl rfl (.cons rfl V.int .nil) rfl rfl (fun u3 w6 h12 => ?_))
  obtain ⟨x1, e5, hF⟩ := bindP_use hF
  refine op (OpS.app (f' := true) h12 (.s .z) Try.underlying22 ti5 rfl rfl rfl rfl rfl rfl rfl (V.at .z) (.inr Pure.int) e5 (fun u4 w7 h13 => ?_))
  refine op (OpS.as rfl rfl rfl ?_)
  refine RunL.nil ?_
  refine Run.slim [(5, u4), (0, v0), (6, .int .i64 s1.1)] ⟨rfl, rfl, rfl, trivial⟩ ?_
  refine Run.endBlock ?_
  refine Run.reg ?_
  refine op (OpS.mv rfl rfl rfl ?_)
  refine op (OpS.bin rfl rfl rfl rfl rfl ?_)
  refine op (OpS.as rfl rfl rfl ?_)
  obtain ⟨x2, e6, hF⟩ := letP_use hF
  refine RunL.name e6 ?_
  refine RunL.nil ?_
  refine Run.slim [(6, .int .i64 x2), (5, u4), (0, v0)] ⟨rfl, rfl, rfl, trivial⟩ ?_
  refine Run.slim [(0, v0), (5, u4), (6, .int .i64 x2)] ⟨rfl, rfl, rfl, trivial⟩ ?_
  exact hk1 (x2, y3.2, x1) _ _ ⟨u4, rfl, (h13.facts .nil).picks (.cons (.s .z) (.cons .z .nil))⟩ hF
 ·
  refine Run.exit rfl ?_
  refine Run.seq ?_
  refine Run.reg ?_
  refine op (OpS.mv rfl rfl rfl ?_)
  refine op (OpS.as rfl rfl rfl ?_)
  refine RunL.nil ?_
  refine Run.slim [(4, u2)] ⟨rfl, trivial⟩ ?_
  refine Run.retP rfl (.tmp rfl .nil) ?_
  cases hF
  exact Post.mk' ⟨u2, rfl, rfl, rfl, rfl⟩ (h8.picks (.cons (.s .z) (.cons .z .nil))) .nil
theorem fragment_Encode_ok {fuel : Nat} {a0 : Packet_} {y : (List Int) × Int} (hF : fragment_Encode fuel a0 = some y) {w : World} {v0 : Value} :
  Spec Try.prog 31 [v0].toArray w [(false, .val Packet_.rep v0 a0)] [] (fun v Γr Ωr Ωo => ∃ u0 : Value, v = .tuple #[u0, .int .i64 y.2] ∧ Γr = [] ∧ Ωr = [(true, (.slice 5 (Rep.int .u8) u0 y.1))] ∧ Ωo = []) := by
 refine Spec.of (L := [(0, v0)]) Try.func31 rfl ⟨rfl, trivial⟩ rfl (fun e h => ?_)
 unfold fragment_Encode at hF
 refine Run.seq ?_
 refine Run.reg ?_
 refine op (OpS.boxF h rfl rfl rfl (V.at .z) (fun u1 w1 h1 => ?_))
 refine op (OpS.as rfl rfl rfl ?_)
 refine op (OpS.as rfl rfl rfl ?_)
 refine RunL.nil ?_
 refine Run.slim [(1, u1)] ⟨rfl, trivial⟩ ?_
 refine Run.seq ?_
 refine Run.seq ?_
 refine Run.reg ?_
 refine op (OpS.loadB h1 .z PA.z Get.id ty44 rfl rfl rfl (fun u2 h2 => ?_))
 obtain ⟨y1, e1, hF⟩ := bindP_use hF
 refine op (OpS.callP h2 Try.func30 rfl rfl rfl rfl (vs := [u2]) rfl (fragment_Valid_ok e1) (.cons (f := false) (V.at .z) .nil) ?_)
 rintro _ w2 _ _ _ ⟨rfl, rfl, rfl, rfl⟩ h3
 have h4 := h3 rfl rfl
 simp only [List.cons_append, List.nil_append] at h4
 refine op (OpS.not rfl rfl rfl ?_)
 refine RunL.nil ?_
 refine Run.slim [(9, .bool (!y1)), (1, u1)] ⟨rfl, rfl, trivial⟩ ?_
 refine Run.ite rfl hF (fun e2 hF => ?_) (fun e2 hF => ?_)
 ·
  refine Run.seq ?_
  refine Run.reg ?_
  refine op (OpS.as rfl rfl rfl ?_)
  refine op (OpS.as rfl rfl rfl ?_)
  refine RunL.nil ?_
  refine Run.slim [(3, .int .i64 1), (2, .slice none 0 0)] ⟨rfl, rfl, trivial⟩ ?_
  have h5 := St.nil 5 (Rep.int .u8) h4
  refine Run.retP rfl (.tmp rfl (.tmp rfl .nil)) ?_
  cases hF
  exact Post.mk' ⟨(.slice none 0 0), rfl, rfl, rfl, rfl⟩ (h5.picks (.cons .z .nil)) .nil
 ·
  refine Run.skip ?_
  refine Run.seq ?_
  refine Run.reg ?_
  refine op (OpS.fbox (o3 := 4) h4 .z PA.z fa44_4 rfl rfl rfl rfl ?_)
  refine op (OpS.loadBi h4 .z PA.a (Get.fld Packet_.f4) ty3 rfl rfl rfl ?_)
  refine op (OpS.bin rfl rfl rfl rfl rfl ?_)
  refine op (OpS.fbox (o3 := 6) h4 .z PA.z fa44_6 rfl rfl rfl rfl ?_)
  refine op (OpS.loadBi h4 .z PA.a (Get.fld Packet_.f6) ty3 rfl rfl rfl ?_)
  refine op (OpS.bin rfl rfl rfl rfl rfl ?_)
  refine op (OpS.conv Try.underlying3 Try.underlying5 rfl rfl rfl ?_)
  refine op (OpS.as rfl rfl rfl ?_)
  obtain ⟨x1, e3, hF⟩ := letP_use hF
  refine RunL.name e3 ?_
  refine RunL.nil ?_
  refine Run.slim [(4, .int .u8 x1), (1, u1)] ⟨rfl, rfl, trivial⟩ ?_
  refine Run.seq ?_
  refine Run.seq ?_
  refine Run.reg ?_
  refine op (OpS.fbox (o3 := 2) h4 .z PA.z fa44_2 rfl rfl rfl rfl ?_)
  refine op (OpS.loadBb h4 .z PA.a (Get.fld Packet_.f2) ty4 rfl rfl rfl ?_)
  refine op (OpS.build (f := true) (x' := (⟨a0.Start, 128⟩ : Anon_af38c4)) h4 pl94 ti94 Anon_af38c4.zr rfl rfl rfl (.cons rfl Anon_af38c4.f0 rfl V.bool (.cons rfl Anon_af38c4.f1 rfl V.int .nil)) (fun u3 h6 => ?_))
  refine op (OpS.fbox (o3 := 3) h6 .z PA.z fa44_3 rfl rfl rfl rfl ?_)
  refine op (OpS.loadBb h6 .z PA.a (Get.fld Packet_.f3) ty4 rfl rfl rfl ?_)
  refine op (OpS.build (f := true) (x' := (⟨a0.End, 64⟩ : Anon_af38c4)) h6 pl94 ti94 Anon_af38c4.zr rfl rfl rfl (.cons rfl Anon_af38c4.f0 rfl V.bool (.cons rfl Anon_af38c4.f1 rfl V.int .nil)) (fun u4 h7 => ?_))
  refine op (OpS.fbox (o3 := 5) h7 .z PA.z fa44_5 rfl rfl rfl rfl ?_)
  refine op (OpS.loadBb h7 .z PA.a (Get.fld Packet_.f5) ty4 rfl rfl rfl ?_)
  refine op (OpS.build (f := true) (x' := (⟨a0.Owner, 8⟩ : Anon_af38c4)) h7 pl94 ti94 Anon_af38c4.zr rfl rfl rfl (.cons rfl Anon_af38c4.f0 rfl V.bool (.cons rfl Anon_af38c4.f1 rfl V.int .nil)) (fun u5 h8 => ?_))
  refine op (OpS.lit (r := Anon_af38c4.rep) (f := true) h8 Try.underlying95 ti94 rfl rfl rfl rfl rfl (.cons rfl (V.at (.s (.s .z))) (.cons rfl (V.at (.s .z)) (.cons rfl (V.at .z) .nil))) rfl rfl (fun u6 w3 h9 => ?_))
  refine op (OpS.len h9 Try.underlying95 rfl rfl rfl (V.at .z) ?_)
  refine op (OpS.mv rfl rfl rfl ?_)
  refine RunL.nil ?_
  refine Run.slim [(28, .int .i64 0), (27, .int .i64 (([(⟨a0.Start, 128⟩ : Anon_af38c4), (⟨a0.End, 64⟩ : Anon_af38c4), (⟨a0.Owner, 8⟩ : Anon_af38c4)]).length : Int)), (26, u6), (4, .int .u8 x1), (1, u1)] ⟨rfl, rfl, rfl, rfl, rfl, trivial⟩ ?_
  refine Run.block ?_
  refine Run.slim [(1, u1), (4, .int .u8 x1), (26, u6), (27, .int .i64 (([(⟨a0.Start, 128⟩ : Anon_af38c4), (⟨a0.End, 64⟩ : Anon_af38c4), (⟨a0.Owner, 8⟩ : Anon_af38c4)]).length : Int)), (28, .int .i64 0)] ⟨rfl, rfl, rfl, rfl, rfl, trivial⟩ ?_
  refine Run.loopP (σ := (Int × Int)) (fun s_ L_ w_ => L_ = [(1, u1), (4, .int .u8 s_.1), (26, u6), (27, .int .i64 (([(⟨a0.Start, 128⟩ : Anon_af38c4), (⟨a0.End, 64⟩ : Anon_af38c4), (⟨a0.Owner, 8⟩ : Anon_af38c4)]).length : Int)), (28, .int .i64 s_.2)] ∧ St e w_ [(true, .val (Rep.slice Anon_af38c4.rep) u6 ([(⟨a0.Start, 128⟩ : Anon_af38c4), (⟨a0.End, 64⟩ : Anon_af38c4), (⟨a0.Owner, 8⟩ : Anon_af38c4)]))] [(false, .box 44 Packet_.rep u1 a0)]) hF ⟨rfl, (h9.facts (.atm .z .nil)).picks (.cons .z .nil)⟩ (fun k1 hk1 s1 _ w4 hI hF => ?_)
  obtain ⟨rfl, h10⟩ := hI
  refine Run.seq ?_
  refine Run.reg ?_
  refine op (OpS.bin rfl rfl rfl rfl rfl ?_)
  refine RunL.nil ?_
  refine Run.seq ?_
  refine Run.ite rfl hF (fun e4 hF => ?_) (fun e4 hF => ?_)
  ·
   refine Run.skip ?_
   refine Run.seq ?_
   refine Run.block ?_
   refine Run.seq ?_
   refine Run.reg ?_
   obtain ⟨x2, e5, hF⟩ := bindP_use hF
   refine op (OpS.iptr h10 Try.underlying95 ty94 rfl rfl rfl rfl (V.at .z) e5 (fun u7 h11 => ?_))
   refine op (OpS.load h11 ty94 rfl rfl rfl .z (fun u8 h12 => ?_))
   refine op (OpS.alloc h12 ti94 Anon_af38c4.zr rfl rfl (fun u9 w5 h13 => ?_))
   refine op (OpS.storeB (f' := true) h13 .z PA.z Put.id ty94 rfl rfl rfl (V.at .z) (.inl rfl) (fun w6 h14 => ?_))
   refine RunL.nil ?_
   refine Run.slim [(6, u9), (1, u1), (4, .int .u8 s1.1), (26, u6), (27, .int .i64 (([(⟨a0.Start, 128⟩ : Anon_af38c4), (⟨a0.End, 64⟩ : Anon_af38c4), (⟨a0.Owner, 8⟩ : Anon_af38c4)]).length : Int)), (28, .int .i64 s1.2)] ⟨rfl, rfl, rfl, rfl, rfl, rfl, trivial⟩ ?_
   refine Run.seq ?_
   refine Run.reg ?_
   refine op (OpS.fbox (o3 := 0) h14 .z PA.z fa94_0 rfl rfl rfl rfl ?_)
   refine op (OpS.loadBb h14 .z PA.a (Get.fld Anon_af38c4.f0) ty4 rfl rfl rfl ?_)
   refine RunL.nil ?_
   refine Run.slim [(33, .bool x2.on), (6, u9), (1, u1), (4, .int .u8 s1.1), (26, u6), (27, .int .i64 (([(⟨a0.Start, 128⟩ : Anon_af38c4), (⟨a0.End, 64⟩ : Anon_af38c4), (⟨a0.Owner, 8⟩ : Anon_af38c4)]).length : Int)), (28, .int .i64 s1.2)] ⟨rfl, rfl, rfl, rfl, rfl, rfl, rfl, trivial⟩ ?_
   refine Run.ite rfl hF (fun e6 hF => ?_) (fun e6 hF => ?_)
   ·
    refine Run.reg ?_
    refine op (OpS.mv rfl rfl rfl ?_)
    refine op (OpS.fbox (o3 := 1) h14 .z PA.z fa94_1 rfl rfl rfl rfl ?_)
    refine op (OpS.loadBi h14 .z PA.a (Get.fld Anon_af38c4.f1) ty5 rfl rfl rfl ?_)
    refine op (OpS.bin rfl rfl rfl rfl rfl ?_)
    refine op (OpS.as rfl rfl rfl ?_)
    refine RunL.nil ?_
    refine Run.slim [(4, .int .u8 (bOr .u8 s1.1 x2.bit)), (1, u1), (26, u6), (27, .int .i64 (([(⟨a0.Start, 128⟩ : Anon_af38c4), (⟨a0.End, 64⟩ : Anon_af38c4), (⟨a0.Owner, 8⟩ : Anon_af38c4)]).length : Int)), (28, .int .i64 s1.2)] ⟨rfl, rfl, rfl, rfl, rfl, trivial⟩ ?_
    refine Run.endBlock ?_
    refine Run.reg ?_
    refine op (OpS.bin rfl rfl rfl rfl rfl ?_)
    refine op (OpS.mv rfl rfl rfl ?_)
    refine RunL.nil ?_
    refine Run.slim [(28, .int .i64 (IntKind.i64.wrap (s1.2 + 1))), (4, .int .u8 (bOr .u8 s1.1 x2.bit)), (1, u1), (26, u6), (27, .int .i64 (([(⟨a0.Start, 128⟩ : Anon_af38c4), (⟨a0.End, 64⟩ : Anon_af38c4), (⟨a0.Owner, 8⟩ : Anon_af38c4)]).length : Int))] ⟨rfl, rfl, rfl, rfl, rfl, trivial⟩ ?_
    refine Run.slim [(1, u1), (4, .int .u8 (bOr .u8 s1.1 x2.bit)), (26, u6), (27, .int .i64 (([(⟨a0.Start, 128⟩ : Anon_af38c4), (⟨a0.End, 64⟩ : Anon_af38c4), (⟨a0.Owner, 8⟩ : Anon_af38c4)]).length : Int)), (28, .int .i64 (IntKind.i64.wrap (s1.2 + 1)))] ⟨rfl, rfl, rfl, rfl, rfl, trivial⟩ ?_
    exact hk1 ((bOr .u8 s1.1 x2.bit), (IntKind.i64.wrap (s1.2 + 1))) _ _ ⟨rfl, (h14.facts (.atm (.s (.s .z)) .nil)).picks (.cons (.s .z) .nil)⟩ hF
   ·
    refine Run.skip ?_
    refine Run.endBlock ?_
    refine Run.reg ?_
    refine op (OpS.bin rfl rfl rfl rfl rfl ?_)
    refine op (OpS.mv rfl rfl rfl ?_)
    refine RunL.nil ?_
    refine Run.slim [(28, .int .i64 (IntKind.i64.wrap (s1.2 + 1))), (1, u1), (4, .int .u8 s1.1), (26, u6), (27, .int .i64 (([(⟨a0.Start, 128⟩ : Anon_af38c4), (⟨a0.End, 64⟩ : Anon_af38c4), (⟨a0.Owner, 8⟩ : Anon_af38c4)]).length : Int))] ⟨rfl, rfl, rfl, rfl, rfl, trivial⟩ ?_
    refine Run.slim [(1, u1), (4, .int .u8 s1.1), (26, u6), (27, .int .i64 (([(⟨a0.Start, 128⟩ : Anon_af38c4), (⟨a0.End, 64⟩ : Anon_af38c4), (⟨a0.Owner, 8⟩ : Anon_af38c4)]).length : Int)), (28, .int .i64 (IntKind.i64.wrap (s1.2 + 1)))] ⟨rfl, rfl, rfl, rfl, rfl, trivial⟩ ?_
    exact hk1 (s1.1, (IntKind.i64.wrap (s1.2 + 1))) _ _ ⟨rfl, (h14.facts (.atm (.s (.s .z)) .nil)).picks (.cons (.s .z) .nil)⟩ hF
  ·
   refine Run.exit rfl ?_
   refine Run.seq ?_
   refine Run.reg ?_
   refine op (OpS.fbox (o3 := 0) h10 .z PA.z fa44_0 rfl rfl rfl rfl ?_)
   refine op (OpS.loadBi h10 .z PA.a (Get.fld Packet_.f0) ty5 rfl rfl rfl ?_)
   refine op (OpS.fbox (o3 := 1) h10 .z PA.z fa44_1 rfl rfl rfl rfl ?_)
   refine op (OpS.loadBi h10 .z PA.a (Get.fld Packet_.f1) ty5 rfl rfl rfl ?_)
   refine op (OpS.mv rfl rfl rfl ?_)
   refine op (OpS.litO (r := (Rep.int .u8)) (f := true) h10 Try.underlying22 ti5 rfl rfl rfl rfl rfl (.cons rfl V.int (.cons rfl V.int (.cons rfl V.int (.cons rfl V.int .nil)))) rfl rfl (fun u10 w7 h15 => ?_))
   refine op (OpS.fbox (o3 := 7) h15 (.s .z) PA.z fa44_7 rfl rfl rfl rfl ?_)
   refine op (OpS.loadB h15 (.s .z) PA.a (Get.fld Packet_.f7) ty22 rfl rfl rfl (fun u11 h16 => ?_))
   obtain ⟨x3, e7, hF⟩ := bindP_use hF
   refine op (OpS.app (f' := false) h16 .z Try.underlying22 ti5 rfl rfl rfl rfl rfl rfl rfl (V.at .z) (.inr Pure.int) e7 (fun u12 w8 h17 => ?_))
   refine op (OpS.as rfl rfl rfl ?_)
   refine op (OpS.as rfl rfl rfl ?_)
   refine RunL.nil ?_
   refine Run.slim [(3, .int .i64 0), (2, u12)] ⟨rfl, rfl, trivial⟩ ?_
   refine Run.retP rfl (.tmp rfl (.tmp rfl .nil)) ?_
   cases hF
   exact Post.mk' ⟨u12, rfl, rfl, rfl, rfl⟩ (h17.picks (.cons .z .nil)) .nil
set_option maxHeartbeats 8000000 in
theorem fragment_Decode_ok {fuel : Nat} {a0 : List Int} {y : Packet_ × Int} (hF : fragment_Decode fuel a0 = some y) {w : World} {v0 : Value} :
  Spec Try.prog 35 [v0].toArray w [(false, .val (Rep.slice (Rep.int .u8)) v0 a0)] [] (fun v Γr Ωr Ωo => ∃ u0 : Value, v = .tuple #[u0, .int .i64 y.2] ∧ Γr = [(true, .val Packet_.rep u0 y.1)] ∧ Ωr = [] ∧ Ωo = []) := by
 refine Spec.of (L := [(0, v0)]) Try.func35 rfl ⟨rfl, trivial⟩ rfl (fun e h => ?_)
 unfold fragment_Decode at hF
 refine Run.seq ?_
 refine Run.reg ?_
 refine op (OpS.alloc h ti44 Packet_.zr rfl rfl (fun u1 w1 h1 => ?_))
 refine op (OpS.as rfl rfl rfl ?_)
 refine RunL.nil ?_
 refine Run.slim [(2, u1), (0, v0)] ⟨rfl, rfl, trivial⟩ ?_
 refine Run.seq ?_
 refine Run.block ?_
 refine Run.seq ?_
 refine Run.reg ?_
 refine op (OpS.mv rfl rfl rfl ?_)
 refine op (OpS.len h1 Try.underlying22 rfl rfl rfl (V.at .z) ?_)
 refine op (OpS.bin rfl rfl rfl rfl rfl ?_)
 refine op (OpS.as rfl rfl rfl ?_)
 obtain ⟨x1, e1, hF⟩ := letP_use hF
 refine RunL.nameb e1 ?_
 refine RunL.nil ?_
 refine Run.slim [(5, .bool x1), (2, u1), (0, v0)] ⟨rfl, rfl, rfl, trivial⟩ ?_
 refine Run.ite rfl hF (fun e2 hF => ?_) (fun e2 hF => ?_)
 ·
  refine Run.seq ?_
  refine Run.reg ?_
  refine op (OpS.build (f := true) (x' := Packet_.z) h1 pl44 ti44 Packet_.zr rfl rfl rfl .nil (fun u2 h2 => ?_))
  refine op (OpS.storeB (f' := true) h2 .z PA.z Put.id ty44 rfl rfl rfl (V.at .z) (.inl rfl) (fun w2 h3 => ?_))
  refine op (OpS.as rfl rfl rfl ?_)
  refine RunL.nil ?_
  refine Run.slim [(3, .int .i64 4), (2, u1)] ⟨rfl, rfl, trivial⟩ ?_
  obtain ⟨u3, hu1, h4⟩ := res_box h3 .z ty44
  refine Run.retP rfl (.cell rfl hu1 (.tmp rfl .nil)) ?_
  cases hF
  exact Post.mk' ⟨u3, rfl, rfl, rfl, rfl⟩ (h4.picks .nil) (.val (V.at .z) .nil)
 ·
  refine Run.seq ?_
  refine Run.reg ?_
  refine op (OpS.mv rfl rfl rfl ?_)
  obtain ⟨x2, e3, hF⟩ := bindP_use hF
  refine op (OpS.iptr h1 Try.underlying22 ty5 rfl rfl rfl rfl (V.at .z) e3 (fun u4 h5 => ?_))
  refine op (OpS.loadi h5 ty5 rfl rfl rfl .z ?_)
  refine op (OpS.bin rfl rfl rfl rfl rfl ?_)
  refine op (OpS.as rfl rfl rfl ?_)
  obtain ⟨x3, e4, hF⟩ := letP_use hF
  refine RunL.nameb e4 ?_
  refine RunL.nil ?_
  refine Run.slim [(10, .bool x3), (2, u1), (0, v0)] ⟨rfl, rfl, rfl, trivial⟩ ?_
  refine Run.ite rfl hF (fun e5 hF => ?_) (fun e5 hF => ?_)
  ·
   refine Run.seq ?_
   refine Run.reg ?_
   refine op (OpS.build (f := true) (x' := Packet_.z) h5 pl44 ti44 Packet_.zr rfl rfl rfl .nil (fun u5 h6 => ?_))
   refine op (OpS.storeB (f' := true) h6 .z PA.z Put.id ty44 rfl rfl rfl (V.at .z) (.inl rfl) (fun w3 h7 => ?_))
   refine op (OpS.as rfl rfl rfl ?_)
   refine RunL.nil ?_
   refine Run.slim [(3, .int .i64 6), (2, u1)] ⟨rfl, rfl, trivial⟩ ?_
   obtain ⟨u6, hu2, h8⟩ := res_box h7 .z ty44
   refine Run.retP rfl (.cell rfl hu2 (.tmp rfl .nil)) ?_
   cases hF
   exact Post.mk' ⟨u6, rfl, rfl, rfl, rfl⟩ (h8.picks .nil) (.val (V.at .z) .nil)
  ·
   refine Run.seq ?_
   refine Run.reg ?_
   refine op (OpS.mv rfl rfl rfl ?_)
   obtain ⟨x4, e6, hF⟩ := bindP_use hF
   refine op (OpS.iptr h5 Try.underlying22 ty5 rfl rfl rfl rfl (V.at (.s .z)) e6 (fun u7 h9 => ?_))
   refine op (OpS.loadi h9 ty5 rfl rfl rfl .z ?_)
   obtain ⟨y1, e7, hF⟩ := bindP_use hF
   refine op (OpS.callP h9 Try.func38 rfl rfl rfl rfl (vs := [.int .u8 x4]) rfl (fragment_endpoint_ok e7) .nil ?_)
   rintro _ w4 _ _ _ ⟨rfl, rfl, rfl, rfl⟩ h10
   have h11 := h10 rfl rfl
   simp only [List.cons_append, List.nil_append] at h11
   refine op (OpS.not rfl rfl rfl ?_)
   refine op (OpS.mv rfl rfl rfl ?_)
   refine RunL.join (σ := Bool) (fun s_ L_ w_ => L_ = [(0, v0), (2, u1), (16, .bool s_)] ∧ St e w_ [(false, .val (Rep.slice (Rep.int .u8)) v0 a0)] [(true, .box 44 Packet_.rep u1 Packet_.z)]) hF (fun s1 _ w5 hI hF => ?_) (fun j1 hj1 hF => ?_)
   ·
    obtain ⟨rfl, h12⟩ := hI
    refine Run.ite rfl hF (fun e8 hF => ?_) (fun e8 hF => ?_)
    ·
     refine Run.seq ?_
     refine Run.reg ?_
     refine op (OpS.build (f := true) (x' := Packet_.z) h12 pl44 ti44 Packet_.zr rfl rfl rfl .nil (fun u8 h13 => ?_))
     refine op (OpS.storeB (f' := true) h13 .z PA.z Put.id ty44 rfl rfl rfl (V.at .z) (.inl rfl) (fun w6 h14 => ?_))
     refine op (OpS.as rfl rfl rfl ?_)
     refine RunL.nil ?_
     refine Run.slim [(3, .int .i64 13), (2, u1)] ⟨rfl, rfl, trivial⟩ ?_
     obtain ⟨u9, hu3, h15⟩ := res_box h14 .z ty44
     refine Run.retP rfl (.cell rfl hu3 (.tmp rfl .nil)) ?_
     cases hF
     exact Post.mk' ⟨u9, rfl, rfl, rfl, rfl⟩ (h15.picks .nil) (.val (V.at .z) .nil)
    ·
     refine Run.seq ?_
     refine Run.reg ?_
     refine op (OpS.mv rfl rfl rfl ?_)
     refine op (OpS.len h12 Try.underlying22 rfl rfl rfl (V.at .z) ?_)
     refine op (OpS.bin rfl rfl rfl rfl rfl ?_)
     refine op (OpS.bin rfl rfl rfl rfl rfl ?_)
     refine op (OpS.as rfl rfl rfl ?_)
     obtain ⟨x5, e9, hF⟩ := letP_use hF
     refine RunL.nameb e9 ?_
     refine RunL.nil ?_
     refine Run.slim [(30, .bool x5), (0, v0), (2, u1)] ⟨rfl, rfl, rfl, trivial⟩ ?_
     refine Run.ite rfl hF (fun e10 hF => ?_) (fun e10 hF => ?_)
     ·
      refine Run.seq ?_
      refine Run.reg ?_
      refine op (OpS.build (f := true) (x' := Packet_.z) h12 pl44 ti44 Packet_.zr rfl rfl rfl .nil (fun u10 h16 => ?_))
      refine op (OpS.storeB (f' := true) h16 .z PA.z Put.id ty44 rfl rfl rfl (V.at .z) (.inl rfl) (fun w7 h17 => ?_))
      refine op (OpS.as rfl rfl rfl ?_)
      refine RunL.nil ?_
      refine Run.slim [(3, .int .i64 3), (2, u1)] ⟨rfl, rfl, trivial⟩ ?_
      obtain ⟨u11, hu4, h18⟩ := res_box h17 .z ty44
      refine Run.retP rfl (.cell rfl hu4 (.tmp rfl .nil)) ?_
      cases hF
      exact Post.mk' ⟨u11, rfl, rfl, rfl, rfl⟩ (h18.picks .nil) (.val (V.at .z) .nil)
     ·
      refine Run.skip ?_
      refine Run.endBlock ?_
      refine Run.seq ?_
      refine Run.reg ?_
      refine op (OpS.mv rfl rfl rfl ?_)
      obtain ⟨x6, e11, hF⟩ := bindP_use hF
      refine op (OpS.iptr h12 Try.underlying22 ty5 rfl rfl rfl rfl (V.at .z) e11 (fun u12 h19 => ?_))
      refine op (OpS.loadi h19 ty5 rfl rfl rfl .z ?_)
      refine op (OpS.as rfl rfl rfl ?_)
      refine RunL.nil ?_
      refine Run.slim [(4, .int .u8 x6), (0, v0), (2, u1)] ⟨rfl, rfl, rfl, trivial⟩ ?_
      refine Run.seq ?_
      obtain ⟨x7, e12, hF⟩ := bindP_use hF
      obtain ⟨x8, e13, hF⟩ := bindP_use hF
      obtain ⟨x9, e14, hF⟩ := bindP_use hF
      obtain ⟨y2, e15, hF⟩ := bindP_use hF
      refine Run.drawV (Ωs := [(true, .box 44 Packet_.rep u1 Packet_.z)]) [⟨some 39, some (v0), fun _ => [], fun ds_ u_ => [], [], [], none⟩, ⟨some 40, none, fun u_ => [(false, .ptr (Rep.int .u8) u_ x7)], fun ds_ u_ => [], [], [], none⟩, ⟨some 41, some (.int .u8 x7), fun _ => [], fun ds_ u_ => [], [], [], none⟩, ⟨some 42, some (v0), fun _ => [], fun ds_ u_ => [], [], [], none⟩, ⟨some 43, none, fun u_ => [(false, .ptr (Rep.int .u8) u_ x8)], fun ds_ u_ => [], [], [], none⟩, ⟨some 44, some (.int .u8 x8), fun _ => [], fun ds_ u_ => [], [], [], none⟩, ⟨some 45, some (.int .u8 x6), fun _ => [], fun ds_ u_ => [], [], [], none⟩, ⟨some 46, some (.int .u8 (bAnd .u8 x6 128)), fun _ => [], fun ds_ u_ => [], [], [], none⟩, ⟨some 47, some (.bool ((bAnd .u8 x6 128) != 0)), fun _ => [], fun ds_ u_ => [], [], [], none⟩, ⟨some 48, some (.int .u8 x6), fun _ => [], fun ds_ u_ => [], [], [], none⟩, ⟨some 49, some (.int .u8 (bAnd .u8 x6 64)), fun _ => [], fun ds_ u_ => [], [], [], none⟩, ⟨some 50, some (.bool ((bAnd .u8 x6 64) != 0)), fun _ => [], fun ds_ u_ => [], [], [], none⟩, ⟨some 51, some (.int .u8 x6), fun _ => [], fun ds_ u_ => [], [], [], none⟩, ⟨some 52, some (.int .u8 (IntKind.u8.wrap (Int.tdiv x6 16))), fun _ => [], fun ds_ u_ => [], [], [], none⟩, ⟨some 53, some (.int .u8 (Int.tmod (IntKind.u8.wrap (Int.tdiv x6 16)) 4)), fun _ => [], fun ds_ u_ => [], [], [], none⟩, ⟨some 54, some (.int .i64 (IntKind.i64.wrap (Int.tmod (IntKind.u8.wrap (Int.tdiv x6 16)) 4))), fun _ => [], fun ds_ u_ => [], [], [], none⟩, ⟨some 55, some (.int .u8 x6), fun _ => [], fun ds_ u_ => [], [], [], none⟩, ⟨some 56, some (.int .u8 (bAnd .u8 x6 8)), fun _ => [], fun ds_ u_ => [], [], [], none⟩, ⟨some 57, some (.bool ((bAnd .u8 x6 8) != 0)), fun _ => [], fun ds_ u_ => [], [], [], none⟩, ⟨some 58, some (.int .u8 x6), fun _ => [], fun ds_ u_ => [], [], [], none⟩, ⟨some 59, some (.int .u8 (Int.tmod x6 8)), fun _ => [], fun ds_ u_ => [], [], [], none⟩, ⟨some 60, some (.int .i64 (IntKind.i64.wrap (Int.tmod x6 8))), fun _ => [], fun ds_ u_ => [], [], [], none⟩, ⟨some 61, some (v0), fun _ => [], fun ds_ u_ => [], [], [], none⟩, ⟨some 62, none, fun u_ => [(false, .val (Rep.slice (Rep.int .u8)) u_ x9)], fun ds_ u_ => [], [], [], none⟩, ⟨some 63, none, fun u_ => [(true, .val (Rep.slice (Rep.int .u8)) u_ y2)], fun ds_ u_ => [], [], [], none⟩, ⟨some 64, none, fun u_ => [(true, .val Packet_.rep u_ (⟨x7, x8, (bAnd .u8 x6 128) != 0, (bAnd .u8 x6 64) != 0, (IntKind.i64.wrap (Int.tmod (IntKind.u8.wrap (Int.tdiv x6 16)) 4)), (bAnd .u8 x6 8) != 0, (IntKind.i64.wrap (Int.tmod x6 8)), y2⟩ : Packet_))], fun ds_ u_ => [], [], [], none⟩] [[], [0], [1], [], [3], [4], [], [6], [7], [], [9], [10], [], [12], [13], [14], [], [16], [17], [], [19], [20], [], [22], [23], [2, 5, 8, 11, 15, 18, 21, 24]] [] [0, 1, 2, 3, 4, 5, 6, 7, 8, 9, 10, 11, 12, 13, 14, 15, 16, 17, 18, 19, 20, 21, 22, 23, 24, 25] Try_mixed rfl rfl rfl h19 (.cons ?_ (.cons ?_ (.cons ?_ (.cons ?_ (.cons ?_ (.cons ?_ (.cons ?_ (.cons ?_ (.cons ?_ (.cons ?_ (.cons ?_ (.cons ?_ (.cons ?_ (.cons ?_ (.cons ?_ (.cons ?_ (.cons ?_ (.cons ?_ (.cons ?_ (.cons ?_ (.cons ?_ (.cons ?_ (.cons ?_ (.cons ?_ (.cons ?_ (.cons ?_ .nil)))))))))))))))))))))))))) (fun q1 w hq1 h => ?_)
      ·intro q1 w Γx Ωx h
       refine OpS.mv rfl rfl rfl ?_
       exact ⟨undef, rfl, trivial, h⟩
      ·intro q1 w Γx Ωx h
       refine OpS.iptr h Try.underlying22 ty5 rfl rfl rfl rfl (V.at (.s .z)) e12 (fun u h27 => ?_)
       exact ⟨u, rfl, trivial, h27⟩
      ·intro q1 w Γx Ωx h
       refine OpS.loadi h ty5 rfl rfl rfl .z ?_
       exact ⟨undef, rfl, trivial, h⟩
      ·intro q1 w Γx Ωx h
       refine OpS.mv rfl rfl rfl ?_
       exact ⟨undef, rfl, trivial, h⟩
      ·intro q1 w Γx Ωx h
       refine OpS.iptr h Try.underlying22 ty5 rfl rfl rfl rfl (V.at (.s .z)) e13 (fun u h28 => ?_)
       exact ⟨u, rfl, trivial, h28⟩
      ·intro q1 w Γx Ωx h
       refine OpS.loadi h ty5 rfl rfl rfl .z ?_
       exact ⟨undef, rfl, trivial, h⟩
      ·intro q1 w Γx Ωx h
       refine OpS.mv rfl rfl rfl ?_
       exact ⟨undef, rfl, trivial, h⟩
      ·intro q1 w Γx Ωx h
       refine OpS.bin rfl rfl rfl rfl rfl ?_
       exact ⟨undef, rfl, trivial, h⟩
      ·intro q1 w Γx Ωx h
       refine OpS.bin rfl rfl rfl rfl rfl ?_
       exact ⟨undef, rfl, trivial, h⟩
      ·intro q1 w Γx Ωx h
       refine OpS.mv rfl rfl rfl ?_
       exact ⟨undef, rfl, trivial, h⟩
      ·intro q1 w Γx Ωx h
       refine OpS.bin rfl rfl rfl rfl rfl ?_
       exact ⟨undef, rfl, trivial, h⟩
      ·intro q1 w Γx Ωx h
       refine OpS.bin rfl rfl rfl rfl rfl ?_
       exact ⟨undef, rfl, trivial, h⟩
      ·intro q1 w Γx Ωx h
       refine OpS.mv rfl rfl rfl ?_
       exact ⟨undef, rfl, trivial, h⟩
      ·intro q1 w Γx Ωx h
       refine OpS.quo rfl rfl rfl rfl (by decide) ?_
       exact ⟨undef, rfl, trivial, h⟩
      ·intro q1 w Γx Ωx h
       refine OpS.rem rfl rfl rfl rfl (by decide) ?_
       exact ⟨undef, rfl, trivial, h⟩
      ·intro q1 w Γx Ωx h
       refine OpS.conv Try.underlying5 Try.underlying3 rfl rfl rfl ?_
       exact ⟨undef, rfl, trivial, h⟩
      ·intro q1 w Γx Ωx h
       refine OpS.mv rfl rfl rfl ?_
       exact ⟨undef, rfl, trivial, h⟩
      ·intro q1 w Γx Ωx h
       refine OpS.bin rfl rfl rfl rfl rfl ?_
       exact ⟨undef, rfl, trivial, h⟩
      ·intro q1 w Γx Ωx h
       refine OpS.bin rfl rfl rfl rfl rfl ?_
       exact ⟨undef, rfl, trivial, h⟩
      ·intro q1 w Γx Ωx h
       refine OpS.mv rfl rfl rfl ?_
       exact ⟨undef, rfl, trivial, h⟩
      ·intro q1 w Γx Ωx h
       refine OpS.rem rfl rfl rfl rfl (by decide) ?_
       exact ⟨undef, rfl, trivial, h⟩
      ·intro q1 w Γx Ωx h
       refine OpS.conv Try.underlying5 Try.underlying3 rfl rfl rfl ?_
       exact ⟨undef, rfl, trivial, h⟩
      ·intro q1 w Γx Ωx h
       refine OpS.mv rfl rfl rfl ?_
       exact ⟨undef, rfl, trivial, h⟩
      ·intro q1 w Γx Ωx h
       refine OpS.sub h Try.underlying22 ty5 rfl rfl rfl rfl rfl (V.at (.s .z)) e14 (fun u h29 => ?_)
       exact ⟨u, rfl, trivial, h29⟩
      ·intro q1 w Γx Ωx h
       refine OpS.callP h Try.func40 rfl rfl rfl rfl (vs := [(q1 23)]) rfl (slices_Clone_byte_byte_ok e15) (.cons (f := false) (V.at .z) .nil) ?_
       rintro u w9 _ _ _ ⟨_, rfl, rfl, rfl, rfl⟩ h30
       have h31 := h30 rfl rfl
       simp only [List.cons_append, List.nil_append] at h31
       have h32 := h31.freeze
       exact ⟨u, rfl, trivial, h32⟩
      ·intro q1 w Γx Ωx h
       refine OpS.build (f := true) (x' := (⟨x7, x8, (bAnd .u8 x6 128) != 0, (bAnd .u8 x6 64) != 0, (IntKind.i64.wrap (Int.tmod (IntKind.u8.wrap (Int.tdiv x6 16)) 4)), (bAnd .u8 x6 8) != 0, (IntKind.i64.wrap (Int.tmod x6 8)), y2⟩ : Packet_)) h pl44 ti44 Packet_.zr rfl rfl rfl (.cons rfl Packet_.f0 rfl V.int (.cons rfl Packet_.f1 rfl V.int (.cons rfl Packet_.f2 rfl V.bool (.cons rfl Packet_.f3 rfl V.bool (.cons rfl Packet_.f4 rfl V.int (.cons rfl Packet_.f5 rfl V.bool (.cons rfl Packet_.f6 rfl V.int (.cons rfl Packet_.f7 rfl (V.at .z) .nil)))))))) (fun u h33 => ?_)
       exact ⟨u, rfl, trivial, h33⟩
      have h34 : St e w [(false, .ptr (Rep.int .u8) (q1 1) x7), (false, .ptr (Rep.int .u8) (q1 4) x8), (false, .val (Rep.slice (Rep.int .u8)) (q1 23) x9), (true, .val (Rep.slice (Rep.int .u8)) (q1 24) y2), (true, .val Packet_.rep (q1 25) (⟨x7, x8, (bAnd .u8 x6 128) != 0, (bAnd .u8 x6 64) != 0, (IntKind.i64.wrap (Int.tmod (IntKind.u8.wrap (Int.tdiv x6 16)) 4)), (bAnd .u8 x6 8) != 0, (IntKind.i64.wrap (Int.tmod x6 8)), y2⟩ : Packet_)), (false, .ptr (Rep.int .u8) u12 x6), (false, .val (Rep.slice (Rep.int .u8)) v0 a0)] [(true, .box 44 Packet_.rep u1 Packet_.z)] := h
      refine op (OpS.storeB (f' := true) h34 .z PA.z Put.id ty44 rfl rfl rfl (V.at (.s (.s (.s (.s .z))))) (.inl rfl) (fun w10 h35 => ?_))
      refine op (OpS.as rfl rfl rfl ?_)
      refine RunL.nil ?_
      refine Run.slim [(3, .int .i64 0), (2, u1)] ⟨rfl, rfl, trivial⟩ ?_
      obtain ⟨u13, hu5, h36⟩ := res_box h35 .z ty44
      refine Run.retP rfl (.cell rfl hu5 (.tmp rfl .nil)) ?_
      cases hF
      exact Post.mk' ⟨u13, rfl, rfl, rfl, rfl⟩ (h36.picks .nil) (.val (V.at .z) .nil)
   ·
    refine RunL.caseb hF (fun e16 hF => ?_) (fun e16 hF => ?_)
    ·
     refine op (OpS.pass rfl rfl rfl ?_)
     refine op (OpS.pass rfl rfl rfl ?_)
     refine op (OpS.pass rfl rfl rfl ?_)
     refine op (OpS.pass rfl rfl rfl ?_)
     refine op (OpS.pass rfl rfl rfl ?_)
     refine op (OpS.pick rfl rfl rfl rfl ?_)
     refine op (OpS.as rfl rfl rfl ?_)
     refine RunL.nil ?_
     refine Run.slim [(16, .bool true), (2, u1), (0, v0)] ⟨rfl, rfl, rfl, trivial⟩ ?_
     refine Run.slim [(0, v0), (2, u1), (16, .bool true)] ⟨rfl, rfl, rfl, trivial⟩ ?_
     exact hj1 (true) _ _ ⟨rfl, (h11.facts (.atm (.s (.s .z)) .nil)).picks (.cons .z .nil)⟩ hF
    ·
     refine op (OpS.mv rfl rfl rfl ?_)
     obtain ⟨x10, e17, hF⟩ := bindP_use hF
     refine op (OpS.iptr h11 Try.underlying22 ty5 rfl rfl rfl rfl (V.at (.s (.s .z))) e17 (fun u14 h37 => ?_))
     refine op (OpS.loadi h37 ty5 rfl rfl rfl .z ?_)
     obtain ⟨y3, e18, hF⟩ := bindP_use hF
     refine op (OpS.callP h37 Try.func38 rfl rfl rfl rfl (vs := [.int .u8 x10]) rfl (fragment_endpoint_ok e18) .nil ?_)
     rintro _ w11 _ _ _ ⟨rfl, rfl, rfl, rfl⟩ h38
     have h39 := h38 rfl rfl
     simp only [List.cons_append, List.nil_append] at h39
     refine op (OpS.not rfl rfl rfl ?_)
     refine op (OpS.pick rfl rfl rfl rfl ?_)
     refine op (OpS.as rfl rfl rfl ?_)
     obtain ⟨x11, e19, hF⟩ := letP_use hF
     refine RunL.nameb e19 ?_
     refine RunL.nil ?_
     refine Run.slim [(16, .bool x11), (2, u1), (0, v0)] ⟨rfl, rfl, rfl, trivial⟩ ?_
     refine Run.slim [(0, v0), (2, u1), (16, .bool x11)] ⟨rfl, rfl, rfl, trivial⟩ ?_
     exact hj1 (x11) _ _ ⟨rfl, (h39.facts (.atm (.s (.s (.s .z))) .nil)).picks (.cons .z .nil)⟩ hF
set_option maxHeartbeats 8000000 in
theorem law22_FragmentWhole_ok {fuel : Nat} {a0 : List Int} {a1 : List Int} {y : Bool} (hF : law22_FragmentWhole fuel a0 a1 = some y) {w : World} {v0 v1 : Value} :
  Spec Try.prog 10 [v0, v1].toArray w [(false, .val (Rep.slice (Rep.int .i64)) v0 a0), (false, .val (Rep.slice (Rep.int .i64)) v1 a1)] [] (fun v Γr Ωr Ωo => v = .bool y ∧ Γr = [] ∧ Ωr = [] ∧ Ωo = []) := by
 refine Spec.of (L := [(0, v0), (1, v1)]) Try.func10 rfl ⟨rfl, rfl, trivial⟩ rfl (fun e h => ?_)
 unfold law22_FragmentWhole at hF
 refine Run.seq ?_
 refine Run.reg ?_
 refine op (OpS.as rfl rfl rfl ?_)
 refine RunL.nil ?_
 refine Run.slim [(0, v0), (1, v1)] ⟨rfl, rfl, trivial⟩ ?_
 refine Run.seq ?_
 refine Run.seq ?_
 refine Run.reg ?_
 refine op (OpS.mv rfl rfl rfl ?_)
 obtain ⟨y1, e1, hF⟩ := bindP_use hF
 refine op (OpS.callP h Try.func16 rfl rfl rfl rfl (vs := [v0]) rfl (made_Light_ok e1) (.cons (f := false) (V.at .z) .nil) ?_)
 rintro _ w1 _ _ _ ⟨rfl, rfl, rfl, rfl⟩ h1
 have h2 := h1 rfl rfl
 simp only [List.cons_append, List.nil_append] at h2
 refine op (OpS.not rfl rfl rfl ?_)
 refine op (OpS.mv rfl rfl rfl ?_)
 refine RunL.join (σ := Bool) (fun s_ L_ w_ => L_ = [(0, v0), (1, v1), (33, .bool s_)] ∧ St e w_ [(false, .val (Rep.slice (Rep.int .i64)) v0 a0), (false, .val (Rep.slice (Rep.int .i64)) v1 a1)] []) hF (fun s1 _ w2 hI hF => ?_) (fun j1 hj1 hF => ?_)
 ·
  obtain ⟨rfl, h3⟩ := hI
  refine Run.ite rfl hF (fun e2 hF => ?_) (fun e2 hF => ?_)
  ·
   refine Run.seq ?_
   refine Run.reg ?_
   obtain ⟨y2, e3, hF⟩ := bindP_use hF
   refine op (OpS.callP h3 Try.func11 rfl rfl rfl rfl (vs := []) rfl (law22_awake_ok e3) .nil ?_)
   rintro _ w3 _ _ _ ⟨rfl, rfl, rfl, rfl⟩ h4
   have h5 := h4 rfl rfl
   simp only [List.cons_append, List.nil_append] at h5
   refine op (OpS.as rfl rfl rfl ?_)
   refine RunL.nil ?_
   refine Run.slim [(4, .bool y2)] ⟨rfl, trivial⟩ ?_
   refine Run.retP rfl (.tmp rfl .nil) ?_
   cases hF
   exact Post.mk' ⟨rfl, rfl, rfl, rfl⟩ (h5.picks .nil) .nil
  ·
   refine Run.skip ?_
   refine Run.seq ?_
   refine Run.reg ?_
   refine op (OpS.mv rfl rfl rfl ?_)
   obtain ⟨y3, e4, hF⟩ := bindP_use hF
   have h6 := h3.front .nil
   refine op (OpS.callO h6 Try.func19 rfl rfl rfl rfl (vs := [v0]) rfl (made_Roll_ok e4) rfl (.cons (f := false) (V.at .z) .nil) ?_)
   rintro u1 w4 _ _ _ ⟨_, rfl, rfl, rfl, rfl⟩ h7
   have h8 := h7
   simp only [List.cons_append, List.nil_append] at h8
   refine op (OpS.as rfl rfl rfl ?_)
   refine RunL.nil ?_
   refine Run.slim [(5, u1), (1, v1)] ⟨rfl, rfl, trivial⟩ ?_
   refine Run.seq ?_
   refine Run.reg ?_
   obtain ⟨y4, e5, hF⟩ := bindP_use hF
   refine op (OpS.callP h8 Try.func17 rfl rfl rfl rfl (vs := [.int .u8 9]) rfl (fragment_New_ok e5) .nil ?_)
   rintro _ w5 _ _ _ ⟨u2, rfl, rfl, rfl, rfl⟩ h9
   have h10 := h9 rfl rfl
   simp only [List.cons_append, List.nil_append] at h10
   refine op (OpS.mv rfl rfl rfl ?_)
   refine op (OpS.ext rfl rfl rfl rfl ?_)
   refine op (OpS.ext rfl rfl rfl rfl ?_)
   refine op (OpS.as rfl rfl rfl ?_)
   refine op (OpS.as rfl rfl rfl ?_)
   refine RunL.nil ?_
   refine Run.slim [(7, .int .i64 y4.2), (6, u2), (5, u1), (1, v1)] ⟨rfl, rfl, rfl, rfl, trivial⟩ ?_
   refine Run.seq ?_
   refine Run.seq ?_
   refine Run.reg ?_
   refine op (OpS.mv rfl rfl rfl ?_)
   refine op (OpS.onilE h10 .z (fun _ G_ S_ w_ h_ => ptr_one1 G_ S_ w_ h_) Try.underlying35 rfl rfl rfl rfl ?_)
   refine op (OpS.mv rfl rfl rfl ?_)
   refine RunL.join (σ := Bool) (fun s_ L_ w_ => L_ = [(1, v1), (5, u1), (6, u2), (46, .bool s_)] ∧ St e w_ [(false, .val (Rep.slice (Rep.int .i64)) v1 a1)] [(false, .box 85 made_Dice.rep u1 y3), (true, .opt (fun x_ => .ex fun v_ => .sep (.box 83 (Rep.iso (fun s : fragment_Assembler => (s.own, s.open_, ())) (Rep.prod (Rep.int .u8) (Rep.prod (Rep.raw (α := List fragment_open) v_) Rep.unit))) u2 x_) (.oval (oslice 92 6 (fun _ => fragment_open.orep)) v_ x_.open_)) u2 y4.1)]) hF (fun s2 _ w6 hI hF => ?_) (fun j2 hj2 hF => ?_)
   ·
    obtain ⟨rfl, h11⟩ := hI
    refine Run.ite rfl hF (fun e6 hF => ?_) (fun e6 hF => ?_)
    ·
     refine Run.seq ?_
     refine Run.reg ?_
     refine op (OpS.as rfl rfl rfl ?_)
     refine RunL.nil ?_
     refine Run.slim [(4, .bool false)] ⟨rfl, trivial⟩ ?_
     refine Run.retP rfl (.tmp rfl .nil) ?_
     cases hF
     exact Post.mk' ⟨rfl, rfl, rfl, rfl⟩ (h11.picks .nil) .nil
    ·
     refine Run.skip ?_
     refine Run.seq ?_
     refine Run.reg ?_
     refine op (OpS.mv rfl rfl rfl ?_)
     obtain ⟨y5, e7, hF⟩ := bindP_use hF
     have h12 := h11.front (.cons .z .nil)
     refine op (OpS.callO h12 Try.func23 rfl rfl rfl rfl (vs := [u1, .int .i64 8]) rfl (made_Dice_Next_ok e7) rfl .nil ?_)
     rintro _ w7 _ _ _ ⟨rfl, rfl, rfl, rfl⟩ h13
     have h14 := h13
     simp only [List.cons_append, List.nil_append] at h14
     refine op (OpS.bin rfl rfl rfl rfl rfl ?_)
     refine op (OpS.as rfl rfl rfl ?_)
     obtain ⟨x1, e8, hF⟩ := letP_use hF
     refine RunL.name e8 ?_
     refine RunL.nil ?_
     refine Run.slim [(8, .int .i64 x1), (1, v1), (5, u1), (6, u2)] ⟨rfl, rfl, rfl, rfl, trivial⟩ ?_
     refine Run.seq ?_
     refine Run.reg ?_
     refine op (OpS.as rfl rfl rfl ?_)
     refine RunL.nil ?_
     refine Run.seq ?_
     refine Run.reg ?_
     refine op (OpS.as rfl rfl rfl ?_)
     refine RunL.nil ?_
     refine Run.seq ?_
     refine Run.reg ?_
     refine op (OpS.as rfl rfl rfl ?_)
     refine RunL.nil ?_
     refine Run.seq ?_
     refine Run.seq ?_
     refine Run.reg ?_
     refine op (OpS.as rfl rfl rfl ?_)
     refine RunL.nil ?_
     refine Run.block ?_
     have h15 := St.nil 22 (Rep.slice (Rep.int .u8)) h14
     have h16 := St.nil 27 (Rep.slice Packet_.rep) h15
     have h17 := (h16.pick .z).weak
     refine Run.slim [(1, v1), (5, u1), (6, u2), (8, .int .i64 x1), (9, (.slice none 0 0)), (10, (.slice none 0 0)), (11, .int .i64 0), (12, .int .i64 0)] ⟨rfl, rfl, rfl, rfl, rfl, rfl, rfl, rfl, trivial⟩ ?_
     refine Run.loopP (σ := (Int × Int × made_Dice × (List (List Int)) × (List (List Packet_)))) (fun s_ L_ w_ => ∃ u0_ u1_ : Value, L_ = [(1, v1), (5, u1), (6, u2), (8, .int .i64 x1), (9, u0_), (10, u1_), (11, .int .i64 s_.1), (12, .int .i64 s_.2.1)] ∧ St e w_ [(false, .val (Rep.slice (Rep.int .i64)) v1 a1)] [(false, .box 85 made_Dice.rep u1 s_.2.2.1), (true, .opt (fun x_ => .ex fun v_ => .sep (.box 83 (Rep.iso (fun s : fragment_Assembler => (s.own, s.open_, ())) (Rep.prod (Rep.int .u8) (Rep.prod (Rep.raw (α := List fragment_open) v_) Rep.unit))) u2 x_) (.oval (oslice 92 6 (fun _ => fragment_open.orep)) v_ x_.open_)) u2 y4.1), (true, .slice 22 (Rep.slice (Rep.int .u8)) u0_ s_.2.2.2.1), (false, .slice 27 (Rep.slice Packet_.rep) u1_ s_.2.2.2.2)]) hF ⟨(.slice none 0 0), (.slice none 0 0), rfl, (h17.facts (.atm .z .nil)).picks (.cons (.s (.s .z)) (.cons (.s (.s .z)) (.cons (.s .z) (.cons .z .nil))))⟩ (fun k1 hk1 s3 _ w8 hI hF => ?_)
     obtain ⟨u3, u4, rfl, h18⟩ := hI
     refine Run.seq ?_
     refine Run.seq ?_
     refine Run.reg ?_
     refine op (OpS.mv rfl rfl rfl ?_)
     refine op (OpS.mv rfl rfl rfl ?_)
     refine op (OpS.bin rfl rfl rfl rfl rfl ?_)
     refine RunL.nil ?_
     refine Run.slim [(52, .bool (decide (s3.2.1 < x1))), (1, v1), (5, u1), (6, u2), (8, .int .i64 x1), (9, u3), (10, u4), (11, .int .i64 s3.1), (12, .int .i64 s3.2.1)] ⟨rfl, rfl, rfl, rfl, rfl, rfl, rfl, rfl, rfl, trivial⟩ ?_
     refine Run.ite rfl hF (fun e9 hF => ?_) (fun e9 hF => ?_)
     ·
      refine Run.skip ?_
      refine Run.seq ?_
      refine Run.block ?_
      refine Run.seq ?_
      refine Run.reg ?_
      refine op (OpS.mv rfl rfl rfl ?_)
      obtain ⟨y6, e10, hF⟩ := bindP_use hF
      have h19 := h18.front (.cons .z .nil)
      refine op (OpS.callO h19 Try.func28 rfl rfl rfl rfl (vs := [u1, .int .i64 40]) rfl (law22_message_ok e10) rfl .nil ?_)
      rintro u5 w9 _ _ _ ⟨_, rfl, rfl, rfl, rfl⟩ h20
      have h21 := h20
      simp only [List.cons_append, List.nil_append] at h21
      refine op (OpS.as rfl rfl rfl ?_)
      have h22 := (h21.pick .z).freeze
      refine RunL.nil ?_
      refine Run.slim [(13, u5), (1, v1), (5, u1), (6, u2), (8, .int .i64 x1), (9, u3), (10, u4), (11, .int .i64 s3.1), (12, .int .i64 s3.2.1)] ⟨rfl, rfl, rfl, rfl, rfl, rfl, rfl, rfl, rfl, trivial⟩ ?_
      refine Run.seq ?_
      refine Run.reg ?_
      refine op (OpS.mv rfl rfl rfl ?_)
      refine op (OpS.quo rfl rfl rfl rfl (by decide) ?_)
      refine op (OpS.bin rfl rfl rfl rfl rfl ?_)
      refine op (OpS.conv Try.underlying3 Try.underlying5 rfl rfl rfl ?_)
      refine op (OpS.mv rfl rfl rfl ?_)
      refine op (OpS.rem rfl rfl rfl rfl (by decide) ?_)
      refine op (OpS.bin rfl rfl rfl rfl rfl ?_)
      refine op (OpS.mv rfl rfl rfl ?_)
      obtain ⟨y7, e11, hF⟩ := bindP_use hF
      have h23 := h22.front (.cons .z .nil)
      refine op (OpS.callO h23 Try.func23 rfl rfl rfl rfl (vs := [u1, .int .i64 8]) rfl (made_Dice_Next_ok e11) rfl .nil ?_)
      rintro _ w10 _ _ _ ⟨rfl, rfl, rfl, rfl⟩ h24
      have h25 := h24
      simp only [List.cons_append, List.nil_append] at h25
      refine op (OpS.mv rfl rfl rfl ?_)
      obtain ⟨y8, e12, hF⟩ := bindP_use hF
      have h26 := h25.front (.cons .z .nil)
      refine op (OpS.callO h26 Try.func23 rfl rfl rfl rfl (vs := [u1, .int .i64 9]) rfl (made_Dice_Next_ok e12) rfl .nil ?_)
      rintro _ w11 _ _ _ ⟨rfl, rfl, rfl, rfl⟩ h27
      have h28 := h27
      simp only [List.cons_append, List.nil_append] at h28
      refine op (OpS.bin rfl rfl rfl rfl rfl ?_)
      refine op (OpS.mv rfl rfl rfl ?_)
      obtain ⟨y9, e13, hF⟩ := bindP_use hF
      have h29 := h28.front .nil
      refine op (OpS.callO h29 Try.func13 rfl rfl rfl rfl (vs := [.int .u8 9, .int .u8 (IntKind.u8.wrap (IntKind.i64.wrap (10 + (IntKind.i64.wrap (Int.tdiv s3.2.1 2))))), .bool ((Int.tmod s3.2.1 2) == 0), .int .i64 y7.1, .int .i64 (IntKind.i64.wrap (1 + y8.1)), u5]) rfl (fragment_Split_ok e13) rfl (.cons (f := true) (V.at .z) .nil) ?_)
      rintro _ w12 _ _ _ ⟨u6, rfl, rfl, rfl, rfl⟩ h30
      have h31 := h30
      simp only [List.cons_append, List.nil_append] at h31
      refine op (OpS.mv rfl rfl rfl ?_)
      refine op (OpS.ext rfl rfl rfl rfl ?_)
      refine op (OpS.ext rfl rfl rfl rfl ?_)
      refine op (OpS.as rfl rfl rfl ?_)
      have h32 := (h31.pick .z).freeze
      refine op (OpS.as rfl rfl rfl ?_)
      refine RunL.nil ?_
      refine Run.slim [(15, .int .i64 y9.2), (14, u6), (13, u5), (1, v1), (5, u1), (6, u2), (8, .int .i64 x1), (9, u3), (10, u4), (11, .int .i64 s3.1), (12, .int .i64 s3.2.1)] ⟨rfl, rfl, rfl, rfl, rfl, rfl, rfl, rfl, rfl, rfl, rfl, trivial⟩ ?_
      refine Run.seq ?_
      refine Run.seq ?_
      refine Run.reg ?_
      refine op (OpS.mv rfl rfl rfl ?_)
      refine op (OpS.bin rfl rfl rfl rfl rfl ?_)
      refine RunL.nil ?_
      refine Run.slim [(75, .bool (y9.2 != 0)), (14, u6), (13, u5), (1, v1), (5, u1), (6, u2), (8, .int .i64 x1), (9, u3), (10, u4), (11, .int .i64 s3.1), (12, .int .i64 s3.2.1)] ⟨rfl, rfl, rfl, rfl, rfl, rfl, rfl, rfl, rfl, rfl, rfl, trivial⟩ ?_
      refine Run.ite rfl hF (fun e14 hF => ?_) (fun e14 hF => ?_)
      ·
       refine Run.seq ?_
       refine Run.reg ?_
       refine op (OpS.as rfl rfl rfl ?_)
       refine RunL.nil ?_
       refine Run.slim [(4, .bool false)] ⟨rfl, trivial⟩ ?_
       refine Run.retP rfl (.tmp rfl .nil) ?_
       cases hF
       exact Post.mk' ⟨rfl, rfl, rfl, rfl⟩ (h32.picks .nil) .nil
      ·
       refine Run.skip ?_
       refine Run.seq ?_
       refine Run.reg ?_
       refine op (OpS.mv rfl rfl rfl ?_)
       refine op (OpS.mv rfl rfl rfl ?_)
       refine op (OpS.lit (r := (Rep.slice (Rep.int .u8))) (f := true) h32 Try.underlying69 ti22 rfl rfl rfl rfl rfl (.cons rfl (V.at (.s .z)) .nil) rfl rfl (fun u7 w13 h33 => ?_))
       obtain ⟨x2, e15, hF⟩ := bindP_use hF
       refine op (OpS.app (f' := true) h33 (.s (.s .z)) Try.underlying69 ti22 rfl rfl rfl rfl rfl rfl rfl (V.at .z) (.inl (.inl rfl)) e15 (fun u8 w14 h34 => ?_))
       refine op (OpS.as rfl rfl rfl ?_)
       refine RunL.nil ?_
       refine Run.slim [(9, u8), (14, u6), (1, v1), (5, u1), (6, u2), (8, .int .i64 x1), (10, u4), (11, .int .i64 s3.1), (12, .int .i64 s3.2.1)] ⟨rfl, rfl, rfl, rfl, rfl, rfl, rfl, rfl, rfl, trivial⟩ ?_
       refine Run.seq ?_
       refine Run.reg ?_
       refine op (OpS.mv rfl rfl rfl ?_)
       refine op (OpS.mv rfl rfl rfl ?_)
       refine op (OpS.lit (r := (Rep.slice Packet_.rep)) (f := false) h34 Try.underlying75 ti27 rfl rfl rfl rfl rfl (.cons rfl (V.at (.s .z)) .nil) rfl rfl (fun u9 w15 h35 => ?_))
       obtain ⟨x3, e16, hF⟩ := bindP_use hF
       refine op (OpS.app (f' := false) h35 (.s (.s (.s .z))) Try.underlying75 ti27 rfl rfl rfl rfl rfl rfl rfl (V.at .z) (.inl (.inr rfl)) e16 (fun u10 w16 h36 => ?_))
       refine op (OpS.as rfl rfl rfl ?_)
       refine RunL.nil ?_
       refine Run.slim [(10, u10), (9, u8), (14, u6), (1, v1), (5, u1), (6, u2), (8, .int .i64 x1), (11, .int .i64 s3.1), (12, .int .i64 s3.2.1)] ⟨rfl, rfl, rfl, rfl, rfl, rfl, rfl, rfl, rfl, trivial⟩ ?_
       refine Run.reg ?_
       refine op (OpS.mv rfl rfl rfl ?_)
       refine op (OpS.mv rfl rfl rfl ?_)
       refine op (OpS.len h36 Try.underlying27 rfl rfl rfl (V.at (.s (.s .z))) ?_)
       refine op (OpS.bin rfl rfl rfl rfl rfl ?_)
       refine op (OpS.as rfl rfl rfl ?_)
       obtain ⟨x4, e17, hF⟩ := letP_use hF
       refine RunL.name e17 ?_
       refine RunL.nil ?_
       refine Run.slim [(11, .int .i64 x4), (10, u10), (9, u8), (1, v1), (5, u1), (6, u2), (8, .int .i64 x1), (12, .int .i64 s3.2.1)] ⟨rfl, rfl, rfl, rfl, rfl, rfl, rfl, rfl, trivial⟩ ?_
       refine Run.endBlock ?_
       refine Run.reg ?_
       refine op (OpS.mv rfl rfl rfl ?_)
       refine op (OpS.bin rfl rfl rfl rfl rfl ?_)
       refine op (OpS.as rfl rfl rfl ?_)
       obtain ⟨x5, e18, hF⟩ := letP_use hF
       refine RunL.name e18 ?_
       refine RunL.nil ?_
       refine Run.slim [(12, .int .i64 x5), (11, .int .i64 x4), (10, u10), (9, u8), (1, v1), (5, u1), (6, u2), (8, .int .i64 x1)] ⟨rfl, rfl, rfl, rfl, rfl, rfl, rfl, rfl, trivial⟩ ?_
       refine Run.slim [(1, v1), (5, u1), (6, u2), (8, .int .i64 x1), (9, u8), (10, u10), (11, .int .i64 x4), (12, .int .i64 x5)] ⟨rfl, rfl, rfl, rfl, rfl, rfl, rfl, rfl, trivial⟩ ?_
       exact hk1 (x4, x5, y8.2, x2, x3) _ _ ⟨u8, u10, rfl, (h36.facts (.atm (.s (.s (.s (.s .z)))) .nil)).picks (.cons (.s (.s .z)) (.cons (.s (.s .z)) (.cons (.s .z) (.cons .z .nil))))⟩ hF
     ·
      refine Run.exit rfl ?_
      refine Run.seq ?_
      refine Run.reg ?_
      refine op (OpS.mv rfl rfl rfl ?_)
      obtain ⟨x6, e19, hF⟩ := bindP_use hF
      refine op (OpS.make h18 Try.underlying33 ti3 rfl rfl (Zr.int .i64 0) rfl rfl rfl rfl e19 (by simp) (mk_fits e19) rfl (fun u11 w17 h37 => ?_))
      refine op (OpS.as rfl rfl rfl ?_)
      refine RunL.nil ?_
      refine Run.slim [(16, u11), (1, v1), (6, u2), (8, .int .i64 x1), (9, u3), (10, u4), (11, .int .i64 s3.1)] ⟨rfl, rfl, rfl, rfl, rfl, rfl, rfl, trivial⟩ ?_
      refine Run.seq ?_
      refine Run.seq ?_
      refine Run.reg ?_
      refine op (OpS.as rfl rfl rfl ?_)
      refine RunL.nil ?_
      refine Run.block ?_
      have h38 := (h37.pick (.s (.s (.s .z)))).freeze
      have h39 := (h38.pick (.s (.s (.s .z)))).freeze
      have h40 := (h39.pick (.s (.s .z))).weak
      refine Run.slim [(1, v1), (6, u2), (8, .int .i64 x1), (9, u3), (10, u4), (11, .int .i64 s3.1), (16, u11), (17, .int .i64 0)] ⟨rfl, rfl, rfl, rfl, rfl, rfl, rfl, rfl, trivial⟩ ?_
      refine Run.loopP (σ := ((List (List Int)) × (List (List Packet_)) × Int × Int × (List Int) × (Option fragment_Assembler))) (fun s_ L_ w_ => ∃ u0_ u1_ u2_ : Value, L_ = [(1, v1), (6, u2_), (8, .int .i64 x1), (9, u0_), (10, u1_), (11, .int .i64 s_.2.2.1), (16, u11), (17, .int .i64 s_.2.2.2.1)] ∧ St e w_ [(false, .val (Rep.slice (Rep.int .i64)) v1 a1), (true, .val (Rep.slice (Rep.slice (Rep.int .u8))) u0_ s_.1), (false, .val (Rep.slice (Rep.slice Packet_.rep)) u1_ s_.2.1)] [(true, .slice 3 (Rep.int .i64) u11 s_.2.2.2.2.1), (false, .opt (fun x_ => .ex fun v_ => .sep (.box 83 (Rep.iso (fun s : fragment_Assembler => (s.own, s.open_, ())) (Rep.prod (Rep.int .u8) (Rep.prod (Rep.raw (α := List fragment_open) v_) Rep.unit))) u2_ x_) (.oval (oslice 92 6 (fun _ => fragment_open.orep)) v_ x_.open_)) u2_ s_.2.2.2.2.2)]) hF ⟨u3, u4, u2, rfl, (h40.facts (.atm (.s (.s .z)) (.val (V.at (.s .z)) (.val (V.at .z) .nil)))).picks (.cons (.s .z) (.cons .z .nil))⟩ (fun k2 hk2 s4 _ w18 hI hF => ?_)
      obtain ⟨u12, u13, u14, rfl, h41⟩ := hI
      refine Run.seq ?_
      refine Run.seq ?_
      refine Run.reg ?_
      refine op (OpS.mv rfl rfl rfl ?_)
      refine op (OpS.bin rfl rfl rfl rfl rfl ?_)
      refine RunL.nil ?_
      refine Run.slim [(91, .bool (decide (s4.2.2.1 > 0))), (1, v1), (6, u14), (8, .int .i64 x1), (9, u12), (10, u13), (11, .int .i64 s4.2.2.1), (16, u11), (17, .int .i64 s4.2.2.2.1)] ⟨rfl, rfl, rfl, rfl, rfl, rfl, rfl, rfl, rfl, trivial⟩ ?_
      refine Run.ite rfl hF (fun e20 hF => ?_) (fun e20 hF => ?_)
      ·
       refine Run.skip ?_
       refine Run.seq ?_
       refine Run.block ?_
       refine Run.seq ?_
       refine Run.reg ?_
       refine op (OpS.as rfl rfl rfl ?_)
       refine RunL.nil ?_
       refine Run.slim [(18, .int .i64 0), (1, v1), (6, u14), (8, .int .i64 x1), (9, u12), (10, u13), (11, .int .i64 s4.2.2.1), (16, u11), (17, .int .i64 s4.2.2.2.1)] ⟨rfl, rfl, rfl, rfl, rfl, rfl, rfl, rfl, rfl, trivial⟩ ?_
       refine Run.seq ?_
       refine Run.seq ?_
       refine Run.reg ?_
       refine op (OpS.mv rfl rfl rfl ?_)
       refine op (OpS.mv rfl rfl rfl ?_)
       refine op (OpS.len h41 Try.underlying33 rfl rfl rfl (V.at .z) ?_)
       refine op (OpS.bin rfl rfl rfl rfl rfl ?_)
       refine RunL.nil ?_
       refine Run.slim [(97, .bool (decide (s4.2.2.2.1 < (a1.length : Int)))), (18, .int .i64 0), (1, v1), (6, u14), (8, .int .i64 x1), (9, u12), (10, u13), (11, .int .i64 s4.2.2.1), (16, u11), (17, .int .i64 s4.2.2.2.1)] ⟨rfl, rfl, rfl, rfl, rfl, rfl, rfl, rfl, rfl, rfl, trivial⟩ ?_
       refine Run.join (σ := Int) (fun s_ L_ w_ => L_ = [(1, v1), (6, u14), (8, .int .i64 x1), (9, u12), (10, u13), (11, .int .i64 s4.2.2.1), (16, u11), (17, .int .i64 s4.2.2.2.1), (18, .int .i64 s_)] ∧ St e w_ [(false, .val (Rep.slice (Rep.int .i64)) v1 a1), (true, .val (Rep.slice (Rep.slice (Rep.int .u8))) u12 s4.1), (false, .val (Rep.slice (Rep.slice Packet_.rep)) u13 s4.2.1)] [(false, .opt (fun x_ => .ex fun v_ => .sep (.box 83 (Rep.iso (fun s : fragment_Assembler => (s.own, s.open_, ())) (Rep.prod (Rep.int .u8) (Rep.prod (Rep.raw (α := List fragment_open) v_) Rep.unit))) u14 x_) (.oval (oslice 92 6 (fun _ => fragment_open.orep)) v_ x_.open_)) u14 s4.2.2.2.2.2), (true, .slice 3 (Rep.int .i64) u11 s4.2.2.2.2.1)]) hF (fun s5 _ w19 hI hF => ?_) (fun j3 hj3 hF => ?_)
       ·
        obtain ⟨rfl, h42⟩ := hI
        refine Run.seq ?_
        refine Run.block ?_
        refine Run.slim [(1, v1), (6, u14), (8, .int .i64 x1), (9, u12), (10, u13), (11, .int .i64 s4.2.2.1), (16, u11), (17, .int .i64 s4.2.2.2.1), (18, .int .i64 s5)] ⟨rfl, rfl, rfl, rfl, rfl, rfl, rfl, rfl, rfl, trivial⟩ ?_
        refine Run.loopP (σ := Int) (fun s_ L_ w_ => L_ = [(1, v1), (6, u14), (8, .int .i64 x1), (9, u12), (10, u13), (11, .int .i64 s4.2.2.1), (16, u11), (17, .int .i64 s4.2.2.2.1), (18, .int .i64 s_)] ∧ St e w_ [(false, .val (Rep.slice (Rep.int .i64)) v1 a1), (true, .val (Rep.slice (Rep.slice (Rep.int .u8))) u12 s4.1), (false, .val (Rep.slice (Rep.slice Packet_.rep)) u13 s4.2.1)] [(false, .opt (fun x_ => .ex fun v_ => .sep (.box 83 (Rep.iso (fun s : fragment_Assembler => (s.own, s.open_, ())) (Rep.prod (Rep.int .u8) (Rep.prod (Rep.raw (α := List fragment_open) v_) Rep.unit))) u14 x_) (.oval (oslice 92 6 (fun _ => fragment_open.orep)) v_ x_.open_)) u14 s4.2.2.2.2.2), (true, .slice 3 (Rep.int .i64) u11 s4.2.2.2.2.1)]) hF ⟨rfl, (h42.facts (.atm .z (.atm (.s .z) (.atm (.s (.s .z)) .nil)))).picks (.cons .z (.cons .z .nil))⟩ (fun k3 hk3 s6 _ w20 hI hF => ?_)
        obtain ⟨rfl, h43⟩ := hI
        refine Run.seq ?_
        refine Run.seq ?_
        have h44 := h43.picks (.cons (.s .z) (.cons .z .nil))
        obtain ⟨x7, e21, hF⟩ := bindP_use hF
        obtain ⟨x8, e22, hF⟩ := bindP_use hF
        refine Run.drawV (Ωs := [(false, .opt (fun x_ => .ex fun v_ => .sep (.box 83 (Rep.iso (fun s : fragment_Assembler => (s.own, s.open_, ())) (Rep.prod (Rep.int .u8) (Rep.prod (Rep.raw (α := List fragment_open) v_) Rep.unit))) u14 x_) (.oval (oslice 92 6 (fun _ => fragment_open.orep)) v_ x_.open_)) u14 s4.2.2.2.2.2)]) [⟨some 104, some (u11), fun _ => [], fun ds_ u_ => [], [], [], none⟩, ⟨some 105, some (.int .i64 s6), fun _ => [], fun ds_ u_ => [], [], [], none⟩, ⟨some 106, some ((padd (sp u11) ((s6 : Int).toNat * (Rep.int .i64).n))), fun _ => [], fun ds_ u_ => [], [], [(0, [])], none⟩, ⟨some 107, some (.int .i64 x7), fun _ => [], fun ds_ u_ => [], [], [(0, [])], none⟩, ⟨some 108, some (u13), fun _ => [], fun ds_ u_ => [], [], [], none⟩, ⟨some 109, some (.int .i64 s6), fun _ => [], fun ds_ u_ => [], [], [], none⟩, ⟨some 110, none, fun u_ => [(false, .ptr (Rep.slice Packet_.rep) u_ x8)], fun ds_ u_ => [], [], [], none⟩, ⟨some 111, none, fun u_ => [(false, .val (Rep.slice Packet_.rep) u_ x8)], fun ds_ u_ => [], [], [], none⟩, ⟨some 112, some (.int .i64 (x8.length : Int)), fun _ => [], fun ds_ u_ => [], [], [], none⟩, ⟨some 113, some (.bool (decide (x7 ≥ (x8.length : Int)))), fun _ => [], fun ds_ u_ => [], [], [], none⟩] [[], [], [0, 1], [2], [], [], [4, 5], [6], [7], [3, 8]] [[(true, .slice 3 (Rep.int .i64) u11 s4.2.2.2.2.1)]] [0, 1, 2, 3, 4, 5, 6, 7, 8, 9, 10] Try_mixed rfl rfl rfl h44 (.cons ?_ (.cons ?_ (.cons ?_ (.cons ?_ (.cons ?_ (.cons ?_ (.cons ?_ (.cons ?_ (.cons ?_ (.cons ?_ .nil)))))))))) (fun q1 w hq1 h => ?_)
        ·intro q1 w Γx Ωx h
         refine OpS.mv rfl rfl rfl ?_
         exact ⟨undef, rfl, trivial, h⟩
        ·intro q1 w Γx Ωx h
         refine OpS.mv rfl rfl rfl ?_
         exact ⟨undef, rfl, trivial, h⟩
        ·intro q1 w Γx Ωx h
         have h : St e w ([(false, .val (Rep.slice (Rep.int .i64)) v1 a1), (true, .val (Rep.slice (Rep.slice (Rep.int .u8))) u12 s4.1), (false, .val (Rep.slice (Rep.slice Packet_.rep)) u13 s4.2.1)] ++ Γx) ([(true, .slice 3 (Rep.int .i64) u11 s4.2.2.2.2.1), (false, .opt (fun x_ => .ex fun v_ => .sep (.box 83 (Rep.iso (fun s : fragment_Assembler => (s.own, s.open_, ())) (Rep.prod (Rep.int .u8) (Rep.prod (Rep.raw (α := List fragment_open) v_) Rep.unit))) u14 x_) (.oval (oslice 92 6 (fun _ => fragment_open.orep)) v_ x_.open_)) u14 s4.2.2.2.2.2)] ++ Ωx) := h
         refine OpS.iown h .z Try.underlying33 ty3 rfl rfl rfl rfl e21 ?_
         exact ⟨undef, rfl, trivial, h⟩
        ·intro q1 w Γx Ωx h
         have h : St e w ([(false, .val (Rep.slice (Rep.int .i64)) v1 a1), (true, .val (Rep.slice (Rep.slice (Rep.int .u8))) u12 s4.1), (false, .val (Rep.slice (Rep.slice Packet_.rep)) u13 s4.2.1)] ++ Γx) ([(true, .slice 3 (Rep.int .i64) u11 s4.2.2.2.2.1), (false, .opt (fun x_ => .ex fun v_ => .sep (.box 83 (Rep.iso (fun s : fragment_Assembler => (s.own, s.open_, ())) (Rep.prod (Rep.int .u8) (Rep.prod (Rep.raw (α := List fragment_open) v_) Rep.unit))) u14 x_) (.oval (oslice 92 6 (fun _ => fragment_open.orep)) v_ x_.open_)) u14 s4.2.2.2.2.2)] ++ Ωx) := h
         refine OpS.loadOi h .z (idx_ne e21) PA.a (Get.arr e21) ty3 rfl rfl rfl ?_
         exact ⟨undef, rfl, trivial, h⟩
        ·intro q1 w Γx Ωx h
         refine OpS.mv rfl rfl rfl ?_
         exact ⟨undef, rfl, trivial, h⟩
        ·intro q1 w Γx Ωx h
         refine OpS.mv rfl rfl rfl ?_
         exact ⟨undef, rfl, trivial, h⟩
        ·intro q1 w Γx Ωx h
         refine OpS.iptr h Try.underlying75 ty27 rfl rfl rfl rfl (V.at (.s (.s .z))) e22 (fun u h47 => ?_)
         exact ⟨u, rfl, trivial, h47⟩
        ·intro q1 w Γx Ωx h
         refine OpS.load h ty27 rfl rfl rfl .z (fun u h48 => ?_)
         exact ⟨u, rfl, trivial, h48⟩
        ·intro q1 w Γx Ωx h
         refine OpS.len h Try.underlying27 rfl rfl rfl (V.at .z) ?_
         exact ⟨undef, rfl, trivial, h⟩
        ·intro q1 w Γx Ωx h
         refine OpS.bin rfl rfl rfl rfl rfl ?_
         exact ⟨undef, rfl, trivial, h⟩
        have h49 : St e w [(false, .ptr (Rep.slice Packet_.rep) (q1 6) x8), (false, .val (Rep.slice Packet_.rep) (q1 7) x8), (false, .val (Rep.slice (Rep.int .i64)) v1 a1), (true, .val (Rep.slice (Rep.slice (Rep.int .u8))) u12 s4.1), (false, .val (Rep.slice (Rep.slice Packet_.rep)) u13 s4.2.1)] [(true, .slice 3 (Rep.int .i64) u11 s4.2.2.2.2.1), (false, .opt (fun x_ => .ex fun v_ => .sep (.box 83 (Rep.iso (fun s : fragment_Assembler => (s.own, s.open_, ())) (Rep.prod (Rep.int .u8) (Rep.prod (Rep.raw (α := List fragment_open) v_) Rep.unit))) u14 x_) (.oval (oslice 92 6 (fun _ => fragment_open.orep)) v_ x_.open_)) u14 s4.2.2.2.2.2)] := h
        refine RunL.nil ?_
        refine Run.slim [(113, .bool (decide (x7 ≥ (x8.length : Int)))), (1, v1), (6, u14), (8, .int .i64 x1), (9, u12), (10, u13), (11, .int .i64 s4.2.2.1), (16, u11), (17, .int .i64 s4.2.2.2.1), (18, .int .i64 s6)] ⟨rfl, rfl, rfl, rfl, rfl, rfl, rfl, rfl, rfl, rfl, trivial⟩ ?_
        refine Run.ite rfl hF (fun e23 hF => ?_) (fun e23 hF => ?_)
        ·
         refine Run.skip ?_
         refine Run.block ?_
         refine Run.reg ?_
         refine op (OpS.mv rfl rfl rfl ?_)
         refine op (OpS.bin rfl rfl rfl rfl rfl ?_)
         refine op (OpS.mv rfl rfl rfl ?_)
         obtain ⟨e24, hF⟩ := chk_use hF
         refine op (OpS.rem rfl rfl rfl rfl e24 ?_)
         refine op (OpS.as rfl rfl rfl ?_)
         obtain ⟨x9, e25, hF⟩ := letP_use hF
         refine RunL.name e25 ?_
         refine RunL.nil ?_
         refine Run.slim [(18, .int .i64 x9), (1, v1), (6, u14), (8, .int .i64 x1), (9, u12), (10, u13), (11, .int .i64 s4.2.2.1), (16, u11), (17, .int .i64 s4.2.2.2.1)] ⟨rfl, rfl, rfl, rfl, rfl, rfl, rfl, rfl, rfl, trivial⟩ ?_
         refine Run.endBlock ?_
         refine Run.slim [(1, v1), (6, u14), (8, .int .i64 x1), (9, u12), (10, u13), (11, .int .i64 s4.2.2.1), (16, u11), (17, .int .i64 s4.2.2.2.1), (18, .int .i64 x9)] ⟨rfl, rfl, rfl, rfl, rfl, rfl, rfl, rfl, rfl, trivial⟩ ?_
         exact hk3 (x9) _ _ ⟨rfl, (h49.facts (.atm (.s (.s .z)) (.atm (.s (.s (.s .z))) (.atm (.s (.s (.s (.s .z)))) .nil)))).picks (.cons (.s .z) (.cons .z .nil))⟩ hF
        ·
         refine Run.exit rfl ?_
         refine Run.seq ?_
         obtain ⟨x10, e26, hF⟩ := bindP_use hF
         obtain ⟨x11, e27, hF⟩ := bindP_use hF
         obtain ⟨x12, e28, hF⟩ := bindP_use hF
         obtain ⟨y10, e29, hF⟩ := bindP_use hF
         refine Run.drawV (Ωs := [(false, .opt (fun x_ => .ex fun v_ => .sep (.box 83 (Rep.iso (fun s : fragment_Assembler => (s.own, s.open_, ())) (Rep.prod (Rep.int .u8) (Rep.prod (Rep.raw (α := List fragment_open) v_) Rep.unit))) u14 x_) (.oval (oslice 92 6 (fun _ => fragment_open.orep)) v_ x_.open_)) u14 s4.2.2.2.2.2)]) [⟨some 119, some (u13), fun _ => [], fun ds_ u_ => [], [], [], none⟩, ⟨some 120, some (.int .i64 s6), fun _ => [], fun ds_ u_ => [], [], [], none⟩, ⟨some 121, none, fun u_ => [(false, .ptr (Rep.slice Packet_.rep) u_ x10)], fun ds_ u_ => [], [], [], none⟩, ⟨some 122, none, fun u_ => [(false, .val (Rep.slice Packet_.rep) u_ x10)], fun ds_ u_ => [], [], [], none⟩, ⟨some 123, some (u11), fun _ => [], fun ds_ u_ => [], [], [], none⟩, ⟨some 124, some (.int .i64 s6), fun _ => [], fun ds_ u_ => [], [], [], none⟩, ⟨some 125, some ((padd (sp u11) ((s6 : Int).toNat * (Rep.int .i64).n))), fun _ => [], fun ds_ u_ => [], [], [(0, [])], none⟩, ⟨some 126, some (.int .i64 x11), fun _ => [], fun ds_ u_ => [], [], [(0, [])], none⟩, ⟨some 127, none, fun u_ => [(false, .ptr Packet_.rep u_ x12)], fun ds_ u_ => [], [], [], none⟩, ⟨some 128, none, fun u_ => [(false, .val Packet_.rep u_ x12)], fun ds_ u_ => [], [], [], none⟩, ⟨some 129, none, fun u_ => [(true, .eqv u_ (.tuple #[(tcomp u_ 0), .int .i64 y10.2])), (true, .val (Rep.slice (Rep.int .u8)) (tcomp u_ 0) y10.1)], fun ds_ u_ => [], [], [], none⟩, ⟨some 118, none, fun u_ => [(true, .eqv u_ (.tuple #[(tcomp u_ 0), .int .i64 y10.2])), (true, .val (Rep.slice (Rep.int .u8)) (tcomp u_ 0) y10.1)], fun ds_ u_ => [], [], [], none⟩, ⟨some 130, none, fun u_ => [(true, .val (Rep.slice (Rep.int .u8)) u_ y10.1)], fun ds_ u_ => [], [], [], none⟩, ⟨some 131, some (.int .i64 y10.2), fun _ => [], fun ds_ u_ => [], [], [], none⟩, ⟨some 19, none, fun u_ => [(true, .val (Rep.slice (Rep.int .u8)) u_ y10.1)], fun ds_ u_ => [], [], [], none⟩] [[], [], [0, 1], [2], [], [], [4, 5], [6], [3, 7], [8], [9], [10], [11], [11], [12]] [[(true, .slice 3 (Rep.int .i64) u11 s4.2.2.2.2.1)]] [0, 1, 2, 3, 4, 5, 6, 7, 8, 9, 10, 11, 12, 13, 14, 15] Try_mixed rfl rfl rfl h49 (.cons ?_ (.cons ?_ (.cons ?_ (.cons ?_ (.cons ?_ (.cons ?_ (.cons ?_ (.cons ?_ (.cons ?_ (.cons ?_ (.cons ?_ (.cons ?_ (.cons ?_ (.cons ?_ (.cons ?_ .nil))))))))))))))) (fun q2 w hq2 h => ?_)
         ·intro q2 w Γx Ωx h
          refine OpS.mv rfl rfl rfl ?_
          exact ⟨undef, rfl, trivial, h⟩
         ·intro q2 w Γx Ωx h
          refine OpS.mv rfl rfl rfl ?_
          exact ⟨undef, rfl, trivial, h⟩
         ·intro q2 w Γx Ωx h
          refine OpS.iptr h Try.underlying75 ty27 rfl rfl rfl rfl (V.at (.s (.s (.s (.s .z))))) e26 (fun u h57 => ?_)
          exact ⟨u, rfl, trivial, h57⟩
         ·intro q2 w Γx Ωx h
          refine OpS.load h ty27 rfl rfl rfl .z (fun u h58 => ?_)
          exact ⟨u, rfl, trivial, h58⟩
         ·intro q2 w Γx Ωx h
          refine OpS.mv rfl rfl rfl ?_
          exact ⟨undef, rfl, trivial, h⟩
         ·intro q2 w Γx Ωx h
          refine OpS.mv rfl rfl rfl ?_
          exact ⟨undef, rfl, trivial, h⟩
         ·intro q2 w Γx Ωx h
          have h : St e w ([(false, .ptr (Rep.slice Packet_.rep) (q1 6) x8), (false, .val (Rep.slice Packet_.rep) (q1 7) x8), (false, .val (Rep.slice (Rep.int .i64)) v1 a1), (true, .val (Rep.slice (Rep.slice (Rep.int .u8))) u12 s4.1), (false, .val (Rep.slice (Rep.slice Packet_.rep)) u13 s4.2.1)] ++ Γx) ([(true, .slice 3 (Rep.int .i64) u11 s4.2.2.2.2.1), (false, .opt (fun x_ => .ex fun v_ => .sep (.box 83 (Rep.iso (fun s : fragment_Assembler => (s.own, s.open_, ())) (Rep.prod (Rep.int .u8) (Rep.prod (Rep.raw (α := List fragment_open) v_) Rep.unit))) u14 x_) (.oval (oslice 92 6 (fun _ => fragment_open.orep)) v_ x_.open_)) u14 s4.2.2.2.2.2)] ++ Ωx) := h
          refine OpS.iown h .z Try.underlying33 ty3 rfl rfl rfl rfl e27 ?_
          exact ⟨undef, rfl, trivial, h⟩
         ·intro q2 w Γx Ωx h
          have h : St e w ([(false, .ptr (Rep.slice Packet_.rep) (q1 6) x8), (false, .val (Rep.slice Packet_.rep) (q1 7) x8), (false, .val (Rep.slice (Rep.int .i64)) v1 a1), (true, .val (Rep.slice (Rep.slice (Rep.int .u8))) u12 s4.1), (false, .val (Rep.slice (Rep.slice Packet_.rep)) u13 s4.2.1)] ++ Γx) ([(true, .slice 3 (Rep.int .i64) u11 s4.2.2.2.2.1), (false, .opt (fun x_ => .ex fun v_ => .sep (.box 83 (Rep.iso (fun s : fragment_Assembler => (s.own, s.open_, ())) (Rep.prod (Rep.int .u8) (Rep.prod (Rep.raw (α := List fragment_open) v_) Rep.unit))) u14 x_) (.oval (oslice 92 6 (fun _ => fragment_open.orep)) v_ x_.open_)) u14 s4.2.2.2.2.2)] ++ Ωx) := h
          refine OpS.loadOi h .z (idx_ne e27) PA.a (Get.arr e27) ty3 rfl rfl rfl ?_
          exact ⟨undef, rfl, trivial, h⟩
         ·intro q2 w Γx Ωx h
          refine OpS.iptr h Try.underlying27 ty44 rfl rfl rfl rfl (V.at .z) e28 (fun u h59 => ?_)
          exact ⟨u, rfl, trivial, h59⟩
         ·intro q2 w Γx Ωx h
          refine OpS.load h ty44 rfl rfl rfl .z (fun u h60 => ?_)
          exact ⟨u, rfl, trivial, h60⟩
         ·intro q2 w Γx Ωx h
          refine OpS.callP h Try.func31 rfl rfl rfl rfl (vs := [(q2 9)]) rfl (fragment_Encode_ok e29) (.cons (f := false) (V.at .z) .nil) ?_
          rintro _ w22 _ _ _ ⟨u16, rfl, rfl, rfl, rfl⟩ h61
          have h62 := h61 rfl rfl
          simp only [List.cons_append, List.nil_append] at h62
          have h63 := h62.freeze
          exact ⟨_, rfl, trivial, St.eqv rfl h63⟩
         ·intro q2 w Γx Ωx h
          refine OpS.mv rfl rfl rfl ?_
          exact ⟨_, rfl, trivial, ((h.dup (.s .z)).dup (.s .z))⟩
         ·intro q2 w Γx Ωx h
          refine OpS.extT h .z rfl rfl rfl rfl ?_
          exact ⟨_, rfl, trivial, (h.dup (.s .z))⟩
         ·intro q2 w Γx Ωx h
          refine OpS.extT h .z rfl rfl rfl rfl ?_
          exact ⟨undef, rfl, trivial, h⟩
         ·intro q2 w Γx Ωx h
          refine OpS.as rfl rfl rfl ?_
          exact ⟨_, rfl, trivial, (h.dup .z)⟩
         have h64 : St e w [(false, .ptr (Rep.slice Packet_.rep) (q2 2) x10), (false, .val (Rep.slice Packet_.rep) (q2 3) x10), (false, .ptr Packet_.rep (q2 8) x12), (false, .val Packet_.rep (q2 9) x12), (true, .eqv (q2 10) (.tuple #[(tcomp (q2 10) 0), .int .i64 y10.2])), (true, .val (Rep.slice (Rep.int .u8)) (tcomp (q2 10) 0) y10.1), (true, .eqv (q2 11) (.tuple #[(tcomp (q2 11) 0), .int .i64 y10.2])), (true, .val (Rep.slice (Rep.int .u8)) (tcomp (q2 11) 0) y10.1), (true, .val (Rep.slice (Rep.int .u8)) (q2 12) y10.1), (true, .val (Rep.slice (Rep.int .u8)) (q2 14) y10.1), (false, .ptr (Rep.slice Packet_.rep) (q1 6) x8), (false, .val (Rep.slice Packet_.rep) (q1 7) x8), (false, .val (Rep.slice (Rep.int .i64)) v1 a1), (true, .val (Rep.slice (Rep.slice (Rep.int .u8))) u12 s4.1), (false, .val (Rep.slice (Rep.slice Packet_.rep)) u13 s4.2.1)] [(true, .slice 3 (Rep.int .i64) u11 s4.2.2.2.2.1), (false, .opt (fun x_ => .ex fun v_ => .sep (.box 83 (Rep.iso (fun s : fragment_Assembler => (s.own, s.open_, ())) (Rep.prod (Rep.int .u8) (Rep.prod (Rep.raw (α := List fragment_open) v_) Rep.unit))) u14 x_) (.oval (oslice 92 6 (fun _ => fragment_open.orep)) v_ x_.open_)) u14 s4.2.2.2.2.2)] := h
         refine op (OpS.as rfl rfl rfl ?_)
         refine RunL.nil ?_
         refine Run.slim [(20, .int .i64 y10.2), (19, (q2 14)), (1, v1), (6, u14), (8, .int .i64 x1), (9, u12), (10, u13), (11, .int .i64 s4.2.2.1), (16, u11), (17, .int .i64 s4.2.2.2.1), (18, .int .i64 s6)] ⟨rfl, rfl, rfl, rfl, rfl, rfl, rfl, rfl, rfl, rfl, rfl, trivial⟩ ?_
         refine Run.seq ?_
         refine Run.reg ?_
         refine op (OpS.mv rfl rfl rfl ?_)
         obtain ⟨y11, e30, hF⟩ := bindP_use hF
         refine op (OpS.callP h64 Try.func35 rfl rfl rfl rfl (vs := [(q2 14)]) rfl (fragment_Decode_ok e30) (.cons (f := true) (V.at (.s (.s (.s (.s (.s (.s (.s (.s (.s .z)))))))))) .nil) ?_)
         rintro _ w23 _ _ _ ⟨u17, rfl, rfl, rfl, rfl⟩ h65
         have h66 := h65 rfl rfl
         simp only [List.cons_append, List.nil_append] at h66
         refine op (OpS.mv rfl rfl rfl ?_)
         refine op (OpS.ext rfl rfl rfl rfl ?_)
         refine op (OpS.ext rfl rfl rfl rfl ?_)
         refine op (OpS.alloc h66 ti44 Packet_.zr rfl rfl (fun u18 w24 h67 => ?_))
         refine op (OpS.storeB (f' := true) h67 .z PA.z Put.id ty44 rfl rfl rfl (V.at .z) (.inl rfl) (fun w25 h68 => ?_))
         refine op (OpS.as rfl rfl rfl ?_)
         refine RunL.nil ?_
         refine Run.slim [(22, .int .i64 y11.2), (21, u18), (20, .int .i64 y10.2), (1, v1), (6, u14), (8, .int .i64 x1), (9, u12), (10, u13), (11, .int .i64 s4.2.2.1), (16, u11), (17, .int .i64 s4.2.2.2.1), (18, .int .i64 s6)] ⟨rfl, rfl, rfl, rfl, rfl, rfl, rfl, rfl, rfl, rfl, rfl, rfl, trivial⟩ ?_
         refine Run.seq ?_
         refine Run.reg ?_
         refine op (OpS.mv rfl rfl rfl ?_)
         refine op (OpS.loadB h68 .z PA.z Get.id ty44 rfl rfl rfl (fun u19 h69 => ?_))
         obtain ⟨x13, e31, hF⟩ := bindP_use hF
         have h70 := St.unopt (h69.pick (.s (.s .z))) e31
         obtain ⟨u20, h71⟩ := h70.unex
         have h72 := h71.unsep
         obtain ⟨y12, e32, hF⟩ := bindP_use hF
         have h73 := h72.front (.cons .z (.cons .z .nil))
         refine op (OpS.callO h73 Try.func24 rfl rfl rfl rfl (vs := [u14, u19]) rfl (fragment_Assembler_Accept_ok e32) rfl (.cons (f := true) (V.at .z) .nil) ?_)
         rintro _ w26 _ _ _ ⟨u21, u22, rfl, rfl, rfl, rfl⟩ h74
         have h75 := h74
         simp only [List.cons_append, List.nil_append] at h75
         refine op (OpS.mv rfl rfl rfl ?_)
         refine op (OpS.ext rfl rfl rfl rfl ?_)
         refine op (OpS.ext rfl rfl rfl rfl ?_)
         refine op (OpS.ext rfl rfl rfl rfl ?_)
         refine op (OpS.alloc h75 ti51 Whole_.zr rfl rfl (fun u23 w27 h76 => ?_))
         have h77 := (h76.pick .z).weak
         refine op (OpS.storeB (f' := false) h77 .z PA.z Put.id ty51 rfl rfl rfl (V.at .z) (.inr rfl) (fun w28 h78 => ?_))
         refine op (OpS.as rfl rfl rfl ?_)
         refine op (OpS.as rfl rfl rfl ?_)
         refine RunL.nil ?_
         refine Run.slim [(25, .int .i64 y12.2.2.1), (24, .bool y12.2.1), (23, u23), (22, .int .i64 y11.2), (20, .int .i64 y10.2), (1, v1), (6, u14), (8, .int .i64 x1), (9, u12), (10, u13), (11, .int .i64 s4.2.2.1), (16, u11), (17, .int .i64 s4.2.2.2.1), (18, .int .i64 s6)] ⟨rfl, rfl, rfl, rfl, rfl, rfl, rfl, rfl, rfl, rfl, rfl, rfl, rfl, rfl, trivial⟩ ?_
         refine Run.seq ?_
         refine Run.reg ?_
         refine op (OpS.mv rfl rfl rfl ?_)
         refine op (OpS.mv rfl rfl rfl ?_)
         obtain ⟨x14, e33, hF⟩ := bindP_use hF
         refine op (OpS.iown h78 (.s (.s (.s (.s .z)))) Try.underlying33 ty3 rfl rfl rfl rfl e33 ?_)
         refine op (OpS.loadOi h78 (.s (.s (.s (.s .z)))) (idx_ne e33) PA.a (Get.arr e33) ty3 rfl rfl rfl ?_)
         refine op (OpS.bin rfl rfl rfl rfl rfl ?_)
         obtain ⟨x15, e34, hF⟩ := bindP_use hF
         refine op (OpS.iown h78 (.s (.s (.s (.s .z)))) Try.underlying33 ty3 rfl rfl rfl rfl e34 ?_)
         obtain ⟨d1, e35, hF⟩ := letP_use hF
         refine op (OpS.storeO (f' := true) h78 (.s (.s (.s (.s .z)))) (idx_ne e34) PA.a (Put.of (Put.arr e34) e35) ty3 rfl rfl rfl V.int (.inl rfl) (fun w29 h79 => ?_))
         refine RunL.nil ?_
         refine Run.slim [(25, .int .i64 y12.2.2.1), (24, .bool y12.2.1), (23, u23), (22, .int .i64 y11.2), (20, .int .i64 y10.2), (1, v1), (6, u14), (8, .int .i64 x1), (9, u12), (10, u13), (11, .int .i64 s4.2.2.1), (16, u11), (17, .int .i64 s4.2.2.2.1), (18, .int .i64 s6)] ⟨rfl, rfl, rfl, rfl, rfl, rfl, rfl, rfl, rfl, rfl, rfl, rfl, rfl, rfl, trivial⟩ ?_
         refine Run.seq ?_
         refine Run.reg ?_
         refine op (OpS.mv rfl rfl rfl ?_)
         refine op (OpS.bin rfl rfl rfl rfl rfl ?_)
         refine op (OpS.as rfl rfl rfl ?_)
         obtain ⟨x16, e36, hF⟩ := letP_use hF
         refine RunL.name e36 ?_
         refine RunL.nil ?_
         refine Run.slim [(11, .int .i64 x16), (25, .int .i64 y12.2.2.1), (24, .bool y12.2.1), (23, u23), (22, .int .i64 y11.2), (20, .int .i64 y10.2), (1, v1), (6, u14), (8, .int .i64 x1), (9, u12), (10, u13), (16, u11), (17, .int .i64 s4.2.2.2.1), (18, .int .i64 s6)] ⟨rfl, rfl, rfl, rfl, rfl, rfl, rfl, rfl, rfl, rfl, rfl, rfl, rfl, rfl, trivial⟩ ?_
         refine Run.seq ?_
         refine Run.seq ?_
         refine Run.join (σ := Bool) (fun s_ L_ w_ => L_ = [(1, v1), (6, u14), (8, .int .i64 x1), (9, u12), (10, u13), (11, .int .i64 x16), (16, u11), (17, .int .i64 s4.2.2.2.1), (18, .int .i64 s6), (23, u23), (24, .bool y12.2.1), (175, .bool s_)] ∧ St e w_ [(false, .val (Rep.slice (Rep.int .i64)) v1 a1), (true, .val (Rep.slice (Rep.slice (Rep.int .u8))) u12 s4.1), (false, .val (Rep.slice (Rep.slice Packet_.rep)) u13 s4.2.1)] [(false, .box 83 (Rep.iso (fun s : fragment_Assembler => (s.own, s.open_, ())) (Rep.prod (Rep.int .u8) (Rep.prod (Rep.raw (α := List fragment_open) u22) Rep.unit))) u14 y12.2.2.2), (false, .box 51 Whole_.rep u23 y12.1), (true, .slice 3 (Rep.int .i64) u11 d1), (false, .oval (oslice 92 6 (fun _ => fragment_open.orep)) u22 y12.2.2.2.open_)]) hF (fun s7 _ w30 hI hF => ?_) (fun j4 hj4 hF => ?_)
         ·
          obtain ⟨rfl, h80⟩ := hI
          refine Run.ite rfl hF (fun e37 hF => ?_) (fun e37 hF => ?_)
          ·
           refine Run.seq ?_
           refine Run.reg ?_
           refine op (OpS.as rfl rfl rfl ?_)
           refine RunL.nil ?_
           refine Run.slim [(4, .bool false)] ⟨rfl, trivial⟩ ?_
           refine Run.retP rfl (.tmp rfl .nil) ?_
           cases hF
           exact Post.mk' ⟨rfl, rfl, rfl, rfl⟩ (h80.picks .nil) .nil
          ·
           refine Run.skip ?_
           refine Run.seq ?_
           refine Run.join (σ := Bool) (fun s_ L_ w_ => L_ = [(1, v1), (6, u14), (8, .int .i64 x1), (9, u12), (10, u13), (11, .int .i64 x16), (16, u11), (17, .int .i64 s4.2.2.2.1), (203, .bool s_)] ∧ St e w_ [(false, .val (Rep.slice (Rep.int .i64)) v1 a1), (true, .val (Rep.slice (Rep.slice (Rep.int .u8))) u12 s4.1), (false, .val (Rep.slice (Rep.slice Packet_.rep)) u13 s4.2.1)] [(false, .box 83 (Rep.iso (fun s : fragment_Assembler => (s.own, s.open_, ())) (Rep.prod (Rep.int .u8) (Rep.prod (Rep.raw (α := List fragment_open) u22) Rep.unit))) u14 y12.2.2.2), (true, .slice 3 (Rep.int .i64) u11 d1), (false, .oval (oslice 92 6 (fun _ => fragment_open.orep)) u22 y12.2.2.2.open_)]) hF (fun s8 _ w31 hI hF => ?_) (fun j5 hj5 hF => ?_)
           ·
            obtain ⟨rfl, h81⟩ := hI
            refine Run.ite rfl hF (fun e38 hF => ?_) (fun e38 hF => ?_)
            ·
             refine Run.seq ?_
             refine Run.reg ?_
             refine op (OpS.as rfl rfl rfl ?_)
             refine RunL.nil ?_
             refine Run.slim [(4, .bool false)] ⟨rfl, trivial⟩ ?_
             refine Run.retP rfl (.tmp rfl .nil) ?_
             cases hF
             exact Post.mk' ⟨rfl, rfl, rfl, rfl⟩ (h81.picks .nil) .nil
            ·
             refine Run.skip ?_
             refine Run.endBlock ?_
             refine Run.reg ?_
             refine op (OpS.mv rfl rfl rfl ?_)
             refine op (OpS.bin rfl rfl rfl rfl rfl ?_)
             refine op (OpS.as rfl rfl rfl ?_)
             obtain ⟨x17, e39, hF⟩ := letP_use hF
             refine RunL.name e39 ?_
             refine RunL.nil ?_
             refine Run.slim [(17, .int .i64 x17), (1, v1), (6, u14), (8, .int .i64 x1), (9, u12), (10, u13), (11, .int .i64 x16), (16, u11)] ⟨rfl, rfl, rfl, rfl, rfl, rfl, rfl, rfl, trivial⟩ ?_
             have h82 := h81.front (.cons .z (.cons (.s .z) .nil))
             have h83 := St.some (H := (fun x_ => .ex fun v_ => .sep (.box 83 (Rep.iso (fun s : fragment_Assembler => (s.own, s.open_, ())) (Rep.prod (Rep.int .u8) (Rep.prod (Rep.raw (α := List fragment_open) v_) Rep.unit))) u14 x_) (.oval (oslice 92 6 (fun _ => fragment_open.orep)) v_ x_.open_))) (q := u14) (x := y12.2.2.2) (St.ex (H := fun v_ => .sep (.box 83 (Rep.iso (fun s : fragment_Assembler => (s.own, s.open_, ())) (Rep.prod (Rep.int .u8) (Rep.prod (Rep.raw (α := List fragment_open) v_) Rep.unit))) u14 y12.2.2.2) (.oval (oslice 92 6 (fun _ => fragment_open.orep)) v_ y12.2.2.2.open_)) u22 (St.sep h82))
             refine Run.slim [(1, v1), (6, u14), (8, .int .i64 x1), (9, u12), (10, u13), (11, .int .i64 x16), (16, u11), (17, .int .i64 x17)] ⟨rfl, rfl, rfl, rfl, rfl, rfl, rfl, rfl, trivial⟩ ?_
             exact hk2 (s4.1, s4.2.1, x16, x17, d1, (some y12.2.2.2)) _ _ ⟨u12, u13, u14, rfl, (h83.facts (.atm .z (.val (V.at (.s .z)) (.val (V.at (.s (.s .z))) .nil)))).picks (.cons (.s .z) (.cons .z .nil))⟩ hF
           ·
            have h84 := h80.picks (.cons (.s .z) (.cons .z (.cons .z (.cons .z .nil))))
            obtain ⟨x18, e40, hF⟩ := letP_use hF
            refine iteP_use hF (fun e41 hF => ?_) (fun e41 hF => ?_)
            ·
             have hG := hF
             subst e41
             have hF := hG
             obtain ⟨x19, e42, hF⟩ := bindP_use hF
             obtain ⟨y13, e43, hF⟩ := bindP_use hF
             obtain ⟨x20, e44, hF⟩ := letP_use hF
             refine iteP_use hF (fun e45 hF => ?_) (fun e45 hF => ?_)
             ·
              have hG := hF
              subst e45
              have hF := hG
              refine Run.drawV (Ωs := [(false, .box 83 (Rep.iso (fun s : fragment_Assembler => (s.own, s.open_, ())) (Rep.prod (Rep.int .u8) (Rep.prod (Rep.raw (α := List fragment_open) u22) Rep.unit))) u14 y12.2.2.2), (true, .slice 3 (Rep.int .i64) u11 d1), (false, .oval (oslice 92 6 (fun _ => fragment_open.orep)) u22 y12.2.2.2.open_)]) [⟨some 176, some (.bool y12.2.1), fun _ => [], fun ds_ u_ => [], [], [], none⟩, ⟨some 177, some (.bool true), fun _ => [], fun ds_ u_ => [], [], [], none⟩, ⟨some 178, some ((padd u23 3)), fun _ => [], fun ds_ u_ => [], [], [(0, [])], none⟩, ⟨some 179, none, fun u_ => [(false, .val (Rep.slice (Rep.int .u8)) u_ y12.1.Data)], fun ds_ u_ => [], [], [(0, [])], none⟩, ⟨some 180, some (u12), fun _ => [], fun ds_ u_ => [], [], [], none⟩, ⟨some 181, some (.int .i64 s6), fun _ => [], fun ds_ u_ => [], [], [], none⟩, ⟨some 182, none, fun u_ => [(true, .ptr (Rep.slice (Rep.int .u8)) u_ x19)], fun ds_ u_ => [], [], [], none⟩, ⟨some 183, none, fun u_ => [(true, .val (Rep.slice (Rep.int .u8)) u_ x19)], fun ds_ u_ => [], [], [], none⟩, ⟨some 184, some (.bool y13), fun _ => [], fun ds_ u_ => [], [], [], none⟩, ⟨some 185, some (.bool (!y13)), fun _ => [], fun ds_ u_ => [], [], [], none⟩, ⟨some 186, some (.bool true), fun _ => [], fun ds_ u_ => [], [], [], none⟩, ⟨some 187, some undef, fun _ => [], fun _ _ => [], [], [], none⟩, ⟨some 188, some undef, fun _ => [], fun _ _ => [], [], [], none⟩, ⟨some 189, some undef, fun _ => [], fun _ _ => [], [], [], none⟩, ⟨some 190, some undef, fun _ => [], fun _ _ => [], [], [], none⟩, ⟨some 191, some undef, fun _ => [], fun _ _ => [], [], [], none⟩, ⟨some 192, some undef, fun _ => [], fun _ _ => [], [], [], none⟩, ⟨some 193, some undef, fun _ => [], fun _ _ => [], [], [], none⟩, ⟨some 194, some (.bool true), fun _ => [], fun ds_ u_ => [], [], [], none⟩, ⟨some 195, some (.bool true), fun _ => [], fun ds_ u_ => [], [], [], none⟩, ⟨some 196, some undef, fun _ => [], fun _ _ => [], [], [], none⟩, ⟨some 197, some undef, fun _ => [], fun _ _ => [], [], [], none⟩, ⟨some 198, some undef, fun _ => [], fun _ _ => [], [], [], none⟩, ⟨some 199, some undef, fun _ => [], fun _ _ => [], [], [], none⟩, ⟨some 200, some undef, fun _ => [], fun _ _ => [], [], [], none⟩, ⟨some 201, some undef, fun _ => [], fun _ _ => [], [], [], none⟩, ⟨some 202, some (.bool true), fun _ => [], fun ds_ u_ => [], [], [], none⟩, ⟨some 203, some (.bool true), fun _ => [], fun ds_ u_ => [], [], [], none⟩] [[], [0], [1], [2, 1], [1], [1], [4, 5, 1], [6, 1], [3, 7, 1], [8, 1], [9, 1], [10], [10], [10], [10], [10], [10], [10], [10, 17, 1], [18, 1], [19], [19], [19], [19], [19], [19], [19, 25, 1], [1, 26]] [[(false, .box 51 Whole_.rep u23 y12.1)]] [0, 1, 2, 3, 4, 5, 6, 7, 8, 9, 10, 11, 12, 13, 14, 15, 16, 17, 18, 19, 20, 21, 22, 23, 24, 25, 26, 27, 28] Try_mixed rfl rfl rfl h84 (.cons ?_ (.cons ?_ (.cons ?_ (.cons ?_ (.cons ?_ (.cons ?_ (.cons ?_ (.cons ?_ (.cons ?_ (.cons ?_ (.cons ?_ (.cons ?_ (.cons ?_ (.cons ?_ (.cons ?_ (.cons ?_ (.cons ?_ (.cons ?_ (.cons ?_ (.cons ?_ (.cons ?_ (.cons ?_ (.cons ?_ (.cons ?_ (.cons ?_ (.cons ?_ (.cons ?_ (.cons ?_ .nil)))))))))))))))))))))))))))) (fun q3 w hq3 h => ?_)
              ·intro q3 w Γx Ωx h
               refine OpS.mv rfl rfl rfl ?_
               exact ⟨undef, rfl, trivial, h⟩
              ·intro q3 w Γx Ωx h
               refine OpS.mv rfl rfl rfl ?_
               exact ⟨undef, (congrArg (fun z_ => some (Value.bool z_)) e40), trivial, h⟩
              ·intro q3 w Γx Ωx h
               have h : St e w ([(false, .val (Rep.slice (Rep.int .i64)) v1 a1), (true, .val (Rep.slice (Rep.slice (Rep.int .u8))) u12 s4.1), (false, .val (Rep.slice (Rep.slice Packet_.rep)) u13 s4.2.1)] ++ Γx) ([(false, .box 51 Whole_.rep u23 y12.1), (false, .box 83 (Rep.iso (fun s : fragment_Assembler => (s.own, s.open_, ())) (Rep.prod (Rep.int .u8) (Rep.prod (Rep.raw (α := List fragment_open) u22) Rep.unit))) u14 y12.2.2.2), (true, .slice 3 (Rep.int .i64) u11 d1), (false, .oval (oslice 92 6 (fun _ => fragment_open.orep)) u22 y12.2.2.2.open_)] ++ Ωx) := h
               refine OpS.fbox (o3 := 3) h .z PA.z fa51_3 rfl rfl rfl rfl ?_
               exact ⟨undef, rfl, trivial, h⟩
              ·intro q3 w Γx Ωx h
               have h : St e w ([(false, .val (Rep.slice (Rep.int .i64)) v1 a1), (true, .val (Rep.slice (Rep.slice (Rep.int .u8))) u12 s4.1), (false, .val (Rep.slice (Rep.slice Packet_.rep)) u13 s4.2.1)] ++ Γx) ([(false, .box 51 Whole_.rep u23 y12.1), (false, .box 83 (Rep.iso (fun s : fragment_Assembler => (s.own, s.open_, ())) (Rep.prod (Rep.int .u8) (Rep.prod (Rep.raw (α := List fragment_open) u22) Rep.unit))) u14 y12.2.2.2), (true, .slice 3 (Rep.int .i64) u11 d1), (false, .oval (oslice 92 6 (fun _ => fragment_open.orep)) u22 y12.2.2.2.open_)] ++ Ωx) := h
               refine OpS.loadB h .z PA.a (Get.fld Whole_.f3) ty22 rfl rfl rfl (fun u h90 => ?_)
               exact ⟨u, rfl, trivial, h90⟩
              ·intro q3 w Γx Ωx h
               refine OpS.mv rfl rfl rfl ?_
               exact ⟨undef, rfl, trivial, h⟩
              ·intro q3 w Γx Ωx h
               refine OpS.mv rfl rfl rfl ?_
               exact ⟨undef, rfl, trivial, h⟩
              ·intro q3 w Γx Ωx h
               refine OpS.iptr h Try.underlying69 ty22 rfl rfl rfl rfl (V.at (.s .z)) e42 (fun u h91 => ?_)
               exact ⟨u, rfl, trivial, h91⟩
              ·intro q3 w Γx Ωx h
               refine OpS.load h ty22 rfl rfl rfl .z (fun u h92 => ?_)
               exact ⟨u, rfl, trivial, h92⟩
              ·intro q3 w Γx Ωx h
               refine OpS.callP h Try.func29 rfl rfl rfl rfl (vs := [(q3 3), (q3 7)]) rfl (ref01_Same_ok e43) (.cons (f := false) (V.at .z) (.cons (f := true) (V.at (.s .z)) .nil)) ?_
               rintro _ w33 _ _ _ ⟨rfl, rfl, rfl, rfl⟩ h93
               have h94 := h93 rfl rfl
               simp only [List.cons_append, List.nil_append] at h94
               exact ⟨undef, rfl, trivial, h94⟩
              ·intro q3 w Γx Ωx h
               refine OpS.not rfl rfl rfl ?_
               exact ⟨undef, rfl, trivial, h⟩
              ·intro q3 w Γx Ωx h
               refine OpS.mv rfl rfl rfl ?_
               exact ⟨undef, (congrArg (fun z_ => some (Value.bool z_)) e44), trivial, h⟩
              ·intro q3 w Γx Ωx h
               exact OpS.pass rfl rfl rfl ⟨undef, rfl, trivial, h⟩
              ·intro q3 w Γx Ωx h
               exact OpS.pass rfl rfl rfl ⟨undef, rfl, trivial, h⟩
              ·intro q3 w Γx Ωx h
               exact OpS.pass rfl rfl rfl ⟨undef, rfl, trivial, h⟩
              ·intro q3 w Γx Ωx h
               exact OpS.pass rfl rfl rfl ⟨undef, rfl, trivial, h⟩
              ·intro q3 w Γx Ωx h
               exact OpS.pass rfl rfl rfl ⟨undef, rfl, trivial, h⟩
              ·intro q3 w Γx Ωx h
               exact OpS.pass rfl rfl rfl ⟨undef, rfl, trivial, h⟩
              ·intro q3 w Γx Ωx h
               exact OpS.pass rfl rfl rfl ⟨undef, rfl, trivial, h⟩
              ·intro q3 w Γx Ωx h
               refine OpS.pick rfl rfl rfl rfl ?_
               exact ⟨undef, rfl, trivial, h⟩
              ·intro q3 w Γx Ωx h
               refine OpS.mv rfl rfl rfl ?_
               exact ⟨undef, rfl, trivial, h⟩
              ·intro q3 w Γx Ωx h
               exact OpS.pass rfl rfl rfl ⟨undef, rfl, trivial, h⟩
              ·intro q3 w Γx Ωx h
               exact OpS.pass rfl rfl rfl ⟨undef, rfl, trivial, h⟩
              ·intro q3 w Γx Ωx h
               exact OpS.pass rfl rfl rfl ⟨undef, rfl, trivial, h⟩
              ·intro q3 w Γx Ωx h
               exact OpS.pass rfl rfl rfl ⟨undef, rfl, trivial, h⟩
              ·intro q3 w Γx Ωx h
               exact OpS.pass rfl rfl rfl ⟨undef, rfl, trivial, h⟩
              ·intro q3 w Γx Ωx h
               exact OpS.pass rfl rfl rfl ⟨undef, rfl, trivial, h⟩
              ·intro q3 w Γx Ωx h
               refine OpS.pick rfl rfl rfl rfl ?_
               exact ⟨undef, rfl, trivial, h⟩
              ·intro q3 w Γx Ωx h
               refine OpS.pick rfl rfl rfl rfl ?_
               exact ⟨undef, rfl, trivial, h⟩
              have h95 : St e w [(false, .val (Rep.slice (Rep.int .u8)) (q3 3) y12.1.Data), (true, .ptr (Rep.slice (Rep.int .u8)) (q3 6) x19), (true, .val (Rep.slice (Rep.int .u8)) (q3 7) x19), (false, .val (Rep.slice (Rep.int .i64)) v1 a1), (true, .val (Rep.slice (Rep.slice (Rep.int .u8))) u12 s4.1), (false, .val (Rep.slice (Rep.slice Packet_.rep)) u13 s4.2.1)] [(false, .box 51 Whole_.rep u23 y12.1), (false, .box 83 (Rep.iso (fun s : fragment_Assembler => (s.own, s.open_, ())) (Rep.prod (Rep.int .u8) (Rep.prod (Rep.raw (α := List fragment_open) u22) Rep.unit))) u14 y12.2.2.2), (true, .slice 3 (Rep.int .i64) u11 d1), (false, .oval (oslice 92 6 (fun _ => fragment_open.orep)) u22 y12.2.2.2.open_)] := h
              refine RunL.nil ?_
              refine Run.slim [(203, .bool true), (1, v1), (6, u14), (8, .int .i64 x1), (9, u12), (10, u13), (11, .int .i64 x16), (16, u11), (17, .int .i64 s4.2.2.2.1)] ⟨rfl, rfl, rfl, rfl, rfl, rfl, rfl, rfl, rfl, trivial⟩ ?_
              refine Run.slim [(1, v1), (6, u14), (8, .int .i64 x1), (9, u12), (10, u13), (11, .int .i64 x16), (16, u11), (17, .int .i64 s4.2.2.2.1), (203, .bool true)] ⟨rfl, rfl, rfl, rfl, rfl, rfl, rfl, rfl, rfl, trivial⟩ ?_
              exact hj5 (true) _ _ ⟨rfl, (h95.facts (.atm (.s (.s (.s .z))) (.atm (.s (.s (.s (.s .z)))) (.atm (.s (.s (.s (.s (.s .z))))) .nil)))).picks (.cons (.s .z) (.cons (.s .z) (.cons (.s .z) .nil)))⟩ hF
             ·
              have hG := hF
              subst e45
              have hF := hG
              obtain ⟨x21, e46, hF⟩ := letP_use hF
              refine iteP_use hF (fun e47 hF => ?_) (fun e47 hF => ?_)
              ·
               have hG := hF
               subst e47
               have hF := hG
               refine Run.drawV (Ωs := [(false, .box 83 (Rep.iso (fun s : fragment_Assembler => (s.own, s.open_, ())) (Rep.prod (Rep.int .u8) (Rep.prod (Rep.raw (α := List fragment_open) u22) Rep.unit))) u14 y12.2.2.2), (true, .slice 3 (Rep.int .i64) u11 d1), (false, .oval (oslice 92 6 (fun _ => fragment_open.orep)) u22 y12.2.2.2.open_)]) [⟨some 176, some (.bool y12.2.1), fun _ => [], fun ds_ u_ => [], [], [], none⟩, ⟨some 177, some (.bool true), fun _ => [], fun ds_ u_ => [], [], [], none⟩, ⟨some 178, some ((padd u23 3)), fun _ => [], fun ds_ u_ => [], [], [(0, [])], none⟩, ⟨some 179, none, fun u_ => [(false, .val (Rep.slice (Rep.int .u8)) u_ y12.1.Data)], fun ds_ u_ => [], [], [(0, [])], none⟩, ⟨some 180, some (u12), fun _ => [], fun ds_ u_ => [], [], [], none⟩, ⟨some 181, some (.int .i64 s6), fun _ => [], fun ds_ u_ => [], [], [], none⟩, ⟨some 182, none, fun u_ => [(true, .ptr (Rep.slice (Rep.int .u8)) u_ x19)], fun ds_ u_ => [], [], [], none⟩, ⟨some 183, none, fun u_ => [(true, .val (Rep.slice (Rep.int .u8)) u_ x19)], fun ds_ u_ => [], [], [], none⟩, ⟨some 184, some (.bool y13), fun _ => [], fun ds_ u_ => [], [], [], none⟩, ⟨some 185, some (.bool (!y13)), fun _ => [], fun ds_ u_ => [], [], [], none⟩, ⟨some 186, some (.bool false), fun _ => [], fun ds_ u_ => [], [], [], none⟩, ⟨some 187, some ((padd u23 0)), fun _ => [], fun ds_ u_ => [], [], [(0, [])], none⟩, ⟨some 188, some (.int .u8 y12.1.From), fun _ => [], fun ds_ u_ => [], [], [(0, [])], none⟩, ⟨some 189, some (.int .i64 s6), fun _ => [], fun ds_ u_ => [], [], [], none⟩, ⟨some 190, some (.int .i64 (IntKind.i64.wrap (Int.tdiv s6 2))), fun _ => [], fun ds_ u_ => [], [], [], none⟩, ⟨some 191, some (.int .i64 (IntKind.i64.wrap (10 + (IntKind.i64.wrap (Int.tdiv s6 2))))), fun _ => [], fun ds_ u_ => [], [], [], none⟩, ⟨some 192, some (.int .u8 (IntKind.u8.wrap (IntKind.i64.wrap (10 + (IntKind.i64.wrap (Int.tdiv s6 2)))))), fun _ => [], fun ds_ u_ => [], [], [], none⟩, ⟨some 193, some (.bool (y12.1.From != (IntKind.u8.wrap (IntKind.i64.wrap (10 + (IntKind.i64.wrap (Int.tdiv s6 2))))))), fun _ => [], fun ds_ u_ => [], [], [], none⟩, ⟨some 194, some (.bool (y12.1.From != (IntKind.u8.wrap (IntKind.i64.wrap (10 + (IntKind.i64.wrap (Int.tdiv s6 2))))))), fun _ => [], fun ds_ u_ => [], [], [], none⟩, ⟨some 195, some (.bool true), fun _ => [], fun ds_ u_ => [], [], [], none⟩, ⟨some 196, some undef, fun _ => [], fun _ _ => [], [], [], none⟩, ⟨some 197, some undef, fun _ => [], fun _ _ => [], [], [], none⟩, ⟨some 198, some undef, fun _ => [], fun _ _ => [], [], [], none⟩, ⟨some 199, some undef, fun _ => [], fun _ _ => [], [], [], none⟩, ⟨some 200, some undef, fun _ => [], fun _ _ => [], [], [], none⟩, ⟨some 201, some undef, fun _ => [], fun _ _ => [], [], [], none⟩, ⟨some 202, some (.bool true), fun _ => [], fun ds_ u_ => [], [], [], none⟩, ⟨some 203, some (.bool true), fun _ => [], fun ds_ u_ => [], [], [], none⟩] [[], [0], [1], [2, 1], [1], [1], [4, 5, 1], [6, 1], [3, 7, 1], [8, 1], [9, 1], [10], [11, 10], [10], [13, 10], [14, 10], [15, 10], [12, 16, 10], [10, 17, 1], [18, 1], [19], [19], [19], [19], [19], [19], [19, 25, 1], [1, 26]] [[(false, .box 51 Whole_.rep u23 y12.1)]] [0, 1, 2, 3, 4, 5, 6, 7, 8, 9, 10, 11, 12, 13, 14, 15, 16, 17, 18, 19, 20, 21, 22, 23, 24, 25, 26, 27, 28] Try_mixed rfl rfl rfl h84 (.cons ?_ (.cons ?_ (.cons ?_ (.cons ?_ (.cons ?_ (.cons ?_ (.cons ?_ (.cons ?_ (.cons ?_ (.cons ?_ (.cons ?_ (.cons ?_ (.cons ?_ (.cons ?_ (.cons ?_ (.cons ?_ (.cons ?_ (.cons ?_ (.cons ?_ (.cons ?_ (.cons ?_ (.cons ?_ (.cons ?_ (.cons ?_ (.cons ?_ (.cons ?_ (.cons ?_ (.cons ?_ .nil)))))))))))))))))))))))))))) (fun q3 w hq4 h => ?_)
               ·intro q3 w Γx Ωx h
                refine OpS.mv rfl rfl rfl ?_
                exact ⟨undef, rfl, trivial, h⟩
               ·intro q3 w Γx Ωx h
                refine OpS.mv rfl rfl rfl ?_
                exact ⟨undef, (congrArg (fun z_ => some (Value.bool z_)) e40), trivial, h⟩
               ·intro q3 w Γx Ωx h
                have h : St e w ([(false, .val (Rep.slice (Rep.int .i64)) v1 a1), (true, .val (Rep.slice (Rep.slice (Rep.int .u8))) u12 s4.1), (false, .val (Rep.slice (Rep.slice Packet_.rep)) u13 s4.2.1)] ++ Γx) ([(false, .box 51 Whole_.rep u23 y12.1), (false, .box 83 (Rep.iso (fun s : fragment_Assembler => (s.own, s.open_, ())) (Rep.prod (Rep.int .u8) (Rep.prod (Rep.raw (α := List fragment_open) u22) Rep.unit))) u14 y12.2.2.2), (true, .slice 3 (Rep.int .i64) u11 d1), (false, .oval (oslice 92 6 (fun _ => fragment_open.orep)) u22 y12.2.2.2.open_)] ++ Ωx) := h
                refine OpS.fbox (o3 := 3) h .z PA.z fa51_3 rfl rfl rfl rfl ?_
                exact ⟨undef, rfl, trivial, h⟩
               ·intro q3 w Γx Ωx h
                have h : St e w ([(false, .val (Rep.slice (Rep.int .i64)) v1 a1), (true, .val (Rep.slice (Rep.slice (Rep.int .u8))) u12 s4.1), (false, .val (Rep.slice (Rep.slice Packet_.rep)) u13 s4.2.1)] ++ Γx) ([(false, .box 51 Whole_.rep u23 y12.1), (false, .box 83 (Rep.iso (fun s : fragment_Assembler => (s.own, s.open_, ())) (Rep.prod (Rep.int .u8) (Rep.prod (Rep.raw (α := List fragment_open) u22) Rep.unit))) u14 y12.2.2.2), (true, .slice 3 (Rep.int .i64) u11 d1), (false, .oval (oslice 92 6 (fun _ => fragment_open.orep)) u22 y12.2.2.2.open_)] ++ Ωx) := h
                refine OpS.loadB h .z PA.a (Get.fld Whole_.f3) ty22 rfl rfl rfl (fun u h96 => ?_)
                exact ⟨u, rfl, trivial, h96⟩
               ·intro q3 w Γx Ωx h
                refine OpS.mv rfl rfl rfl ?_
                exact ⟨undef, rfl, trivial, h⟩
               ·intro q3 w Γx Ωx h
                refine OpS.mv rfl rfl rfl ?_
                exact ⟨undef, rfl, trivial, h⟩
               ·intro q3 w Γx Ωx h
                refine OpS.iptr h Try.underlying69 ty22 rfl rfl rfl rfl (V.at (.s .z)) e42 (fun u h97 => ?_)
                exact ⟨u, rfl, trivial, h97⟩
               ·intro q3 w Γx Ωx h
                refine OpS.load h ty22 rfl rfl rfl .z (fun u h98 => ?_)
                exact ⟨u, rfl, trivial, h98⟩
               ·intro q3 w Γx Ωx h
                refine OpS.callP h Try.func29 rfl rfl rfl rfl (vs := [(q3 3), (q3 7)]) rfl (ref01_Same_ok e43) (.cons (f := false) (V.at .z) (.cons (f := true) (V.at (.s .z)) .nil)) ?_
                rintro _ w34 _ _ _ ⟨rfl, rfl, rfl, rfl⟩ h99
                have h100 := h99 rfl rfl
                simp only [List.cons_append, List.nil_append] at h100
                exact ⟨undef, rfl, trivial, h100⟩
               ·intro q3 w Γx Ωx h
                refine OpS.not rfl rfl rfl ?_
                exact ⟨undef, rfl, trivial, h⟩
               ·intro q3 w Γx Ωx h
                refine OpS.mv rfl rfl rfl ?_
                exact ⟨undef, (congrArg (fun z_ => some (Value.bool z_)) e44), trivial, h⟩
               ·intro q3 w Γx Ωx h
                have h : St e w ([(false, .val (Rep.slice (Rep.int .i64)) v1 a1), (true, .val (Rep.slice (Rep.slice (Rep.int .u8))) u12 s4.1), (false, .val (Rep.slice (Rep.slice Packet_.rep)) u13 s4.2.1)] ++ Γx) ([(false, .box 51 Whole_.rep u23 y12.1), (false, .box 83 (Rep.iso (fun s : fragment_Assembler => (s.own, s.open_, ())) (Rep.prod (Rep.int .u8) (Rep.prod (Rep.raw (α := List fragment_open) u22) Rep.unit))) u14 y12.2.2.2), (true, .slice 3 (Rep.int .i64) u11 d1), (false, .oval (oslice 92 6 (fun _ => fragment_open.orep)) u22 y12.2.2.2.open_)] ++ Ωx) := h
                refine OpS.fbox (o3 := 0) h .z PA.z fa51_0 rfl rfl rfl rfl ?_
                exact ⟨undef, rfl, trivial, h⟩
               ·intro q3 w Γx Ωx h
                have h : St e w ([(false, .val (Rep.slice (Rep.int .i64)) v1 a1), (true, .val (Rep.slice (Rep.slice (Rep.int .u8))) u12 s4.1), (false, .val (Rep.slice (Rep.slice Packet_.rep)) u13 s4.2.1)] ++ Γx) ([(false, .box 51 Whole_.rep u23 y12.1), (false, .box 83 (Rep.iso (fun s : fragment_Assembler => (s.own, s.open_, ())) (Rep.prod (Rep.int .u8) (Rep.prod (Rep.raw (α := List fragment_open) u22) Rep.unit))) u14 y12.2.2.2), (true, .slice 3 (Rep.int .i64) u11 d1), (false, .oval (oslice 92 6 (fun _ => fragment_open.orep)) u22 y12.2.2.2.open_)] ++ Ωx) := h
                refine OpS.loadBi h .z PA.a (Get.fld Whole_.f0) ty5 rfl rfl rfl ?_
                exact ⟨undef, rfl, trivial, h⟩
               ·intro q3 w Γx Ωx h
                refine OpS.mv rfl rfl rfl ?_
                exact ⟨undef, rfl, trivial, h⟩
               ·intro q3 w Γx Ωx h
                refine OpS.quo rfl rfl rfl rfl (by decide) ?_
                exact ⟨undef, rfl, trivial, h⟩
               ·intro q3 w Γx Ωx h
                refine OpS.bin rfl rfl rfl rfl rfl ?_
                exact ⟨undef, rfl, trivial, h⟩
               ·intro q3 w Γx Ωx h
                refine OpS.conv Try.underlying3 Try.underlying5 rfl rfl rfl ?_
                exact ⟨undef, rfl, trivial, h⟩
               ·intro q3 w Γx Ωx h
                refine OpS.bin rfl rfl rfl rfl rfl ?_
                exact ⟨undef, rfl, trivial, h⟩
               ·intro q3 w Γx Ωx h
                refine OpS.pick rfl rfl rfl rfl ?_
                exact ⟨undef, rfl, trivial, h⟩
               ·intro q3 w Γx Ωx h
                refine OpS.mv rfl rfl rfl ?_
                exact ⟨undef, (congrArg (fun z_ => some (Value.bool z_)) e46), trivial, h⟩
               ·intro q3 w Γx Ωx h
                exact OpS.pass rfl rfl rfl ⟨undef, rfl, trivial, h⟩
               ·intro q3 w Γx Ωx h
                exact OpS.pass rfl rfl rfl ⟨undef, rfl, trivial, h⟩
               ·intro q3 w Γx Ωx h
                exact OpS.pass rfl rfl rfl ⟨undef, rfl, trivial, h⟩
               ·intro q3 w Γx Ωx h
                exact OpS.pass rfl rfl rfl ⟨undef, rfl, trivial, h⟩
               ·intro q3 w Γx Ωx h
                exact OpS.pass rfl rfl rfl ⟨undef, rfl, trivial, h⟩
               ·intro q3 w Γx Ωx h
                exact OpS.pass rfl rfl rfl ⟨undef, rfl, trivial, h⟩
               ·intro q3 w Γx Ωx h
                refine OpS.pick rfl rfl rfl rfl ?_
                exact ⟨undef, rfl, trivial, h⟩
               ·intro q3 w Γx Ωx h
                refine OpS.pick rfl rfl rfl rfl ?_
                exact ⟨undef, rfl, trivial, h⟩
               have h101 : St e w [(false, .val (Rep.slice (Rep.int .u8)) (q3 3) y12.1.Data), (true, .ptr (Rep.slice (Rep.int .u8)) (q3 6) x19), (true, .val (Rep.slice (Rep.int .u8)) (q3 7) x19), (false, .val (Rep.slice (Rep.int .i64)) v1 a1), (true, .val (Rep.slice (Rep.slice (Rep.int .u8))) u12 s4.1), (false, .val (Rep.slice (Rep.slice Packet_.rep)) u13 s4.2.1)] [(false, .box 51 Whole_.rep u23 y12.1), (false, .box 83 (Rep.iso (fun s : fragment_Assembler => (s.own, s.open_, ())) (Rep.prod (Rep.int .u8) (Rep.prod (Rep.raw (α := List fragment_open) u22) Rep.unit))) u14 y12.2.2.2), (true, .slice 3 (Rep.int .i64) u11 d1), (false, .oval (oslice 92 6 (fun _ => fragment_open.orep)) u22 y12.2.2.2.open_)] := h
               refine RunL.nil ?_
               refine Run.slim [(203, .bool true), (1, v1), (6, u14), (8, .int .i64 x1), (9, u12), (10, u13), (11, .int .i64 x16), (16, u11), (17, .int .i64 s4.2.2.2.1)] ⟨rfl, rfl, rfl, rfl, rfl, rfl, rfl, rfl, rfl, trivial⟩ ?_
               refine Run.slim [(1, v1), (6, u14), (8, .int .i64 x1), (9, u12), (10, u13), (11, .int .i64 x16), (16, u11), (17, .int .i64 s4.2.2.2.1), (203, .bool true)] ⟨rfl, rfl, rfl, rfl, rfl, rfl, rfl, rfl, rfl, trivial⟩ ?_
               exact hj5 (true) _ _ ⟨rfl, (h101.facts (.atm (.s (.s (.s .z))) (.atm (.s (.s (.s (.s .z)))) (.atm (.s (.s (.s (.s (.s .z))))) .nil)))).picks (.cons (.s .z) (.cons (.s .z) (.cons (.s .z) .nil)))⟩ hF
              ·
               have hG := hF
               subst e47
               have hF := hG
               refine Run.drawV (Ωs := [(false, .box 83 (Rep.iso (fun s : fragment_Assembler => (s.own, s.open_, ())) (Rep.prod (Rep.int .u8) (Rep.prod (Rep.raw (α := List fragment_open) u22) Rep.unit))) u14 y12.2.2.2), (true, .slice 3 (Rep.int .i64) u11 d1), (false, .oval (oslice 92 6 (fun _ => fragment_open.orep)) u22 y12.2.2.2.open_)]) [⟨some 176, some (.bool y12.2.1), fun _ => [], fun ds_ u_ => [], [], [], none⟩, ⟨some 177, some (.bool true), fun _ => [], fun ds_ u_ => [], [], [], none⟩, ⟨some 178, some ((padd u23 3)), fun _ => [], fun ds_ u_ => [], [], [(0, [])], none⟩, ⟨some 179, none, fun u_ => [(false, .val (Rep.slice (Rep.int .u8)) u_ y12.1.Data)], fun ds_ u_ => [], [], [(0, [])], none⟩, ⟨some 180, some (u12), fun _ => [], fun ds_ u_ => [], [], [], none⟩, ⟨some 181, some (.int .i64 s6), fun _ => [], fun ds_ u_ => [], [], [], none⟩, ⟨some 182, none, fun u_ => [(true, .ptr (Rep.slice (Rep.int .u8)) u_ x19)], fun ds_ u_ => [], [], [], none⟩, ⟨some 183, none, fun u_ => [(true, .val (Rep.slice (Rep.int .u8)) u_ x19)], fun ds_ u_ => [], [], [], none⟩, ⟨some 184, some (.bool y13), fun _ => [], fun ds_ u_ => [], [], [], none⟩, ⟨some 185, some (.bool (!y13)), fun _ => [], fun ds_ u_ => [], [], [], none⟩, ⟨some 186, some (.bool false), fun _ => [], fun ds_ u_ => [], [], [], none⟩, ⟨some 187, some ((padd u23 0)), fun _ => [], fun ds_ u_ => [], [], [(0, [])], none⟩, ⟨some 188, some (.int .u8 y12.1.From), fun _ => [], fun ds_ u_ => [], [], [(0, [])], none⟩, ⟨some 189, some (.int .i64 s6), fun _ => [], fun ds_ u_ => [], [], [], none⟩, ⟨some 190, some (.int .i64 (IntKind.i64.wrap (Int.tdiv s6 2))), fun _ => [], fun ds_ u_ => [], [], [], none⟩, ⟨some 191, some (.int .i64 (IntKind.i64.wrap (10 + (IntKind.i64.wrap (Int.tdiv s6 2))))), fun _ => [], fun ds_ u_ => [], [], [], none⟩, ⟨some 192, some (.int .u8 (IntKind.u8.wrap (IntKind.i64.wrap (10 + (IntKind.i64.wrap (Int.tdiv s6 2)))))), fun _ => [], fun ds_ u_ => [], [], [], none⟩, ⟨some 193, some (.bool (y12.1.From != (IntKind.u8.wrap (IntKind.i64.wrap (10 + (IntKind.i64.wrap (Int.tdiv s6 2))))))), fun _ => [], fun ds_ u_ => [], [], [], none⟩, ⟨some 194, some (.bool (y12.1.From != (IntKind.u8.wrap (IntKind.i64.wrap (10 + (IntKind.i64.wrap (Int.tdiv s6 2))))))), fun _ => [], fun ds_ u_ => [], [], [], none⟩, ⟨some 195, some (.bool false), fun _ => [], fun ds_ u_ => [], [], [], none⟩, ⟨some 196, some ((padd u23 1)), fun _ => [], fun ds_ u_ => [], [], [(0, [])], none⟩, ⟨some 197, some (.bool y12.1.Owner), fun _ => [], fun ds_ u_ => [], [], [(0, [])], none⟩, ⟨some 198, some (.int .i64 s6), fun _ => [], fun ds_ u_ => [], [], [], none⟩, ⟨some 199, some (.int .i64 (Int.tmod s6 2)), fun _ => [], fun ds_ u_ => [], [], [], none⟩, ⟨some 200, some (.bool ((Int.tmod s6 2) == 0)), fun _ => [], fun ds_ u_ => [], [], [], none⟩, ⟨some 201, some (.bool (y12.1.Owner != ((Int.tmod s6 2) == 0))), fun _ => [], fun ds_ u_ => [], [], [], none⟩, ⟨some 202, some (.bool (y12.1.Owner != ((Int.tmod s6 2) == 0))), fun _ => [], fun ds_ u_ => [], [], [], none⟩, ⟨some 203, some (.bool (y12.1.Owner != ((Int.tmod s6 2) == 0))), fun _ => [], fun ds_ u_ => [], [], [], none⟩] [[], [0], [1], [2, 1], [1], [1], [4, 5, 1], [6, 1], [3, 7, 1], [8, 1], [9, 1], [10], [11, 10], [10], [13, 10], [14, 10], [15, 10], [12, 16, 10], [10, 17, 1], [18, 1], [19], [20, 19], [19], [22, 19], [23, 19], [21, 24, 19], [19, 25, 1], [1, 26]] [[(false, .box 51 Whole_.rep u23 y12.1)]] [0, 1, 2, 3, 4, 5, 6, 7, 8, 9, 10, 11, 12, 13, 14, 15, 16, 17, 18, 19, 20, 21, 22, 23, 24, 25, 26, 27, 28] Try_mixed rfl rfl rfl h84 (.cons ?_ (.cons ?_ (.cons ?_ (.cons ?_ (.cons ?_ (.cons ?_ (.cons ?_ (.cons ?_ (.cons ?_ (.cons ?_ (.cons ?_ (.cons ?_ (.cons ?_ (.cons ?_ (.cons ?_ (.cons ?_ (.cons ?_ (.cons ?_ (.cons ?_ (.cons ?_ (.cons ?_ (.cons ?_ (.cons ?_ (.cons ?_ (.cons ?_ (.cons ?_ (.cons ?_ (.cons ?_ .nil)))))))))))))))))))))))))))) (fun q3 w hq5 h => ?_)
               ·intro q3 w Γx Ωx h
                refine OpS.mv rfl rfl rfl ?_
                exact ⟨undef, rfl, trivial, h⟩
               ·intro q3 w Γx Ωx h
                refine OpS.mv rfl rfl rfl ?_
                exact ⟨undef, (congrArg (fun z_ => some (Value.bool z_)) e40), trivial, h⟩
               ·intro q3 w Γx Ωx h
                have h : St e w ([(false, .val (Rep.slice (Rep.int .i64)) v1 a1), (true, .val (Rep.slice (Rep.slice (Rep.int .u8))) u12 s4.1), (false, .val (Rep.slice (Rep.slice Packet_.rep)) u13 s4.2.1)] ++ Γx) ([(false, .box 51 Whole_.rep u23 y12.1), (false, .box 83 (Rep.iso (fun s : fragment_Assembler => (s.own, s.open_, ())) (Rep.prod (Rep.int .u8) (Rep.prod (Rep.raw (α := List fragment_open) u22) Rep.unit))) u14 y12.2.2.2), (true, .slice 3 (Rep.int .i64) u11 d1), (false, .oval (oslice 92 6 (fun _ => fragment_open.orep)) u22 y12.2.2.2.open_)] ++ Ωx) := h
                refine OpS.fbox (o3 := 3) h .z PA.z fa51_3 rfl rfl rfl rfl ?_
                exact ⟨undef, rfl, trivial, h⟩
               ·intro q3 w Γx Ωx h
                have h : St e w ([(false, .val (Rep.slice (Rep.int .i64)) v1 a1), (true, .val (Rep.slice (Rep.slice (Rep.int .u8))) u12 s4.1), (false, .val (Rep.slice (Rep.slice Packet_.rep)) u13 s4.2.1)] ++ Γx) ([(false, .box 51 Whole_.rep u23 y12.1), (false, .box 83 (Rep.iso (fun s : fragment_Assembler => (s.own, s.open_, ())) (Rep.prod (Rep.int .u8) (Rep.prod (Rep.raw (α := List fragment_open) u22) Rep.unit))) u14 y12.2.2.2), (true, .slice 3 (Rep.int .i64) u11 d1), (false, .oval (oslice 92 6 (fun _ => fragment_open.orep)) u22 y12.2.2.2.open_)] ++ Ωx) := h
                refine OpS.loadB h .z PA.a (Get.fld Whole_.f3) ty22 rfl rfl rfl (fun u h102 => ?_)
                exact ⟨u, rfl, trivial, h102⟩
               ·intro q3 w Γx Ωx h
                refine OpS.mv rfl rfl rfl ?_
                exact ⟨undef, rfl, trivial, h⟩
               ·intro q3 w Γx Ωx h
                refine OpS.mv rfl rfl rfl ?_
                exact ⟨undef, rfl, trivial, h⟩
               ·intro q3 w Γx Ωx h
                refine OpS.iptr h Try.underlying69 ty22 rfl rfl rfl rfl (V.at (.s .z)) e42 (fun u h103 => ?_)
                exact ⟨u, rfl, trivial, h103⟩
               ·intro q3 w Γx Ωx h
                refine OpS.load h ty22 rfl rfl rfl .z (fun u h104 => ?_)
                exact ⟨u, rfl, trivial, h104⟩
               ·intro q3 w Γx Ωx h
                refine OpS.callP h Try.func29 rfl rfl rfl rfl (vs := [(q3 3), (q3 7)]) rfl (ref01_Same_ok e43) (.cons (f := false) (V.at .z) (.cons (f := true) (V.at (.s .z)) .nil)) ?_
                rintro _ w35 _ _ _ ⟨rfl, rfl, rfl, rfl⟩ h105
                have h106 := h105 rfl rfl
                simp only [List.cons_append, List.nil_append] at h106
                exact ⟨undef, rfl, trivial, h106⟩
               ·intro q3 w Γx Ωx h
                refine OpS.not rfl rfl rfl ?_
                exact ⟨undef, rfl, trivial, h⟩
               ·intro q3 w Γx Ωx h
                refine OpS.mv rfl rfl rfl ?_
                exact ⟨undef, (congrArg (fun z_ => some (Value.bool z_)) e44), trivial, h⟩
               ·intro q3 w Γx Ωx h
                have h : St e w ([(false, .val (Rep.slice (Rep.int .i64)) v1 a1), (true, .val (Rep.slice (Rep.slice (Rep.int .u8))) u12 s4.1), (false, .val (Rep.slice (Rep.slice Packet_.rep)) u13 s4.2.1)] ++ Γx) ([(false, .box 51 Whole_.rep u23 y12.1), (false, .box 83 (Rep.iso (fun s : fragment_Assembler => (s.own, s.open_, ())) (Rep.prod (Rep.int .u8) (Rep.prod (Rep.raw (α := List fragment_open) u22) Rep.unit))) u14 y12.2.2.2), (true, .slice 3 (Rep.int .i64) u11 d1), (false, .oval (oslice 92 6 (fun _ => fragment_open.orep)) u22 y12.2.2.2.open_)] ++ Ωx) := h
                refine OpS.fbox (o3 := 0) h .z PA.z fa51_0 rfl rfl rfl rfl ?_
                exact ⟨undef, rfl, trivial, h⟩
               ·intro q3 w Γx Ωx h
                have h : St e w ([(false, .val (Rep.slice (Rep.int .i64)) v1 a1), (true, .val (Rep.slice (Rep.slice (Rep.int .u8))) u12 s4.1), (false, .val (Rep.slice (Rep.slice Packet_.rep)) u13 s4.2.1)] ++ Γx) ([(false, .box 51 Whole_.rep u23 y12.1), (false, .box 83 (Rep.iso (fun s : fragment_Assembler => (s.own, s.open_, ())) (Rep.prod (Rep.int .u8) (Rep.prod (Rep.raw (α := List fragment_open) u22) Rep.unit))) u14 y12.2.2.2), (true, .slice 3 (Rep.int .i64) u11 d1), (false, .oval (oslice 92 6 (fun _ => fragment_open.orep)) u22 y12.2.2.2.open_)] ++ Ωx) := h
                refine OpS.loadBi h .z PA.a (Get.fld Whole_.f0) ty5 rfl rfl rfl ?_
                exact ⟨undef, rfl, trivial, h⟩
               ·intro q3 w Γx Ωx h
                refine OpS.mv rfl rfl rfl ?_
                exact ⟨undef, rfl, trivial, h⟩
               ·intro q3 w Γx Ωx h
                refine OpS.quo rfl rfl rfl rfl (by decide) ?_
                exact ⟨undef, rfl, trivial, h⟩
               ·intro q3 w Γx Ωx h
                refine OpS.bin rfl rfl rfl rfl rfl ?_
                exact ⟨undef, rfl, trivial, h⟩
               ·intro q3 w Γx Ωx h
                refine OpS.conv Try.underlying3 Try.underlying5 rfl rfl rfl ?_
                exact ⟨undef, rfl, trivial, h⟩
               ·intro q3 w Γx Ωx h
                refine OpS.bin rfl rfl rfl rfl rfl ?_
                exact ⟨undef, rfl, trivial, h⟩
               ·intro q3 w Γx Ωx h
                refine OpS.pick rfl rfl rfl rfl ?_
                exact ⟨undef, rfl, trivial, h⟩
               ·intro q3 w Γx Ωx h
                refine OpS.mv rfl rfl rfl ?_
                exact ⟨undef, (congrArg (fun z_ => some (Value.bool z_)) e46), trivial, h⟩
               ·intro q3 w Γx Ωx h
                have h : St e w ([(false, .val (Rep.slice (Rep.int .i64)) v1 a1), (true, .val (Rep.slice (Rep.slice (Rep.int .u8))) u12 s4.1), (false, .val (Rep.slice (Rep.slice Packet_.rep)) u13 s4.2.1)] ++ Γx) ([(false, .box 51 Whole_.rep u23 y12.1), (false, .box 83 (Rep.iso (fun s : fragment_Assembler => (s.own, s.open_, ())) (Rep.prod (Rep.int .u8) (Rep.prod (Rep.raw (α := List fragment_open) u22) Rep.unit))) u14 y12.2.2.2), (true, .slice 3 (Rep.int .i64) u11 d1), (false, .oval (oslice 92 6 (fun _ => fragment_open.orep)) u22 y12.2.2.2.open_)] ++ Ωx) := h
                refine OpS.fbox (o3 := 1) h .z PA.z fa51_1 rfl rfl rfl rfl ?_
                exact ⟨undef, rfl, trivial, h⟩
               ·intro q3 w Γx Ωx h
                have h : St e w ([(false, .val (Rep.slice (Rep.int .i64)) v1 a1), (true, .val (Rep.slice (Rep.slice (Rep.int .u8))) u12 s4.1), (false, .val (Rep.slice (Rep.slice Packet_.rep)) u13 s4.2.1)] ++ Γx) ([(false, .box 51 Whole_.rep u23 y12.1), (false, .box 83 (Rep.iso (fun s : fragment_Assembler => (s.own, s.open_, ())) (Rep.prod (Rep.int .u8) (Rep.prod (Rep.raw (α := List fragment_open) u22) Rep.unit))) u14 y12.2.2.2), (true, .slice 3 (Rep.int .i64) u11 d1), (false, .oval (oslice 92 6 (fun _ => fragment_open.orep)) u22 y12.2.2.2.open_)] ++ Ωx) := h
                refine OpS.loadBb h .z PA.a (Get.fld Whole_.f1) ty4 rfl rfl rfl ?_
                exact ⟨undef, rfl, trivial, h⟩
               ·intro q3 w Γx Ωx h
                refine OpS.mv rfl rfl rfl ?_
                exact ⟨undef, rfl, trivial, h⟩
               ·intro q3 w Γx Ωx h
                refine OpS.rem rfl rfl rfl rfl (by decide) ?_
                exact ⟨undef, rfl, trivial, h⟩
               ·intro q3 w Γx Ωx h
                refine OpS.bin rfl rfl rfl rfl rfl ?_
                exact ⟨undef, rfl, trivial, h⟩
               ·intro q3 w Γx Ωx h
                refine OpS.neb Try.underlying4 rfl rfl rfl rfl ?_
                exact ⟨undef, rfl, trivial, h⟩
               ·intro q3 w Γx Ωx h
                refine OpS.pick rfl rfl rfl rfl ?_
                exact ⟨undef, rfl, trivial, h⟩
               ·intro q3 w Γx Ωx h
                refine OpS.pick rfl rfl rfl rfl ?_
                exact ⟨undef, rfl, trivial, h⟩
               have h107 : St e w [(false, .val (Rep.slice (Rep.int .u8)) (q3 3) y12.1.Data), (true, .ptr (Rep.slice (Rep.int .u8)) (q3 6) x19), (true, .val (Rep.slice (Rep.int .u8)) (q3 7) x19), (false, .val (Rep.slice (Rep.int .i64)) v1 a1), (true, .val (Rep.slice (Rep.slice (Rep.int .u8))) u12 s4.1), (false, .val (Rep.slice (Rep.slice Packet_.rep)) u13 s4.2.1)] [(false, .box 51 Whole_.rep u23 y12.1), (false, .box 83 (Rep.iso (fun s : fragment_Assembler => (s.own, s.open_, ())) (Rep.prod (Rep.int .u8) (Rep.prod (Rep.raw (α := List fragment_open) u22) Rep.unit))) u14 y12.2.2.2), (true, .slice 3 (Rep.int .i64) u11 d1), (false, .oval (oslice 92 6 (fun _ => fragment_open.orep)) u22 y12.2.2.2.open_)] := h
               refine RunL.nil ?_
               refine Run.slim [(203, .bool (y12.1.Owner != ((Int.tmod s6 2) == 0))), (1, v1), (6, u14), (8, .int .i64 x1), (9, u12), (10, u13), (11, .int .i64 x16), (16, u11), (17, .int .i64 s4.2.2.2.1)] ⟨rfl, rfl, rfl, rfl, rfl, rfl, rfl, rfl, rfl, trivial⟩ ?_
               refine Run.slim [(1, v1), (6, u14), (8, .int .i64 x1), (9, u12), (10, u13), (11, .int .i64 x16), (16, u11), (17, .int .i64 s4.2.2.2.1), (203, .bool (y12.1.Owner != ((Int.tmod s6 2) == 0)))] ⟨rfl, rfl, rfl, rfl, rfl, rfl, rfl, rfl, rfl, trivial⟩ ?_
               exact hj5 (y12.1.Owner != ((Int.tmod s6 2) == 0)) _ _ ⟨rfl, (h107.facts (.atm (.s (.s (.s .z))) (.atm (.s (.s (.s (.s .z)))) (.atm (.s (.s (.s (.s (.s .z))))) .nil)))).picks (.cons (.s .z) (.cons (.s .z) (.cons (.s .z) .nil)))⟩ hF
            ·
             have hG := hF
             subst e41
             have hF := hG
             refine Run.drawV (Ωs := [(false, .box 83 (Rep.iso (fun s : fragment_Assembler => (s.own, s.open_, ())) (Rep.prod (Rep.int .u8) (Rep.prod (Rep.raw (α := List fragment_open) u22) Rep.unit))) u14 y12.2.2.2), (true, .slice 3 (Rep.int .i64) u11 d1), (false, .oval (oslice 92 6 (fun _ => fragment_open.orep)) u22 y12.2.2.2.open_)]) [⟨some 176, some (.bool y12.2.1), fun _ => [], fun ds_ u_ => [], [], [], none⟩, ⟨some 177, some (.bool false), fun _ => [], fun ds_ u_ => [], [], [], none⟩, ⟨some 178, some undef, fun _ => [], fun _ _ => [], [], [], none⟩, ⟨some 179, some undef, fun _ => [], fun _ _ => [], [], [], none⟩, ⟨some 180, some undef, fun _ => [], fun _ _ => [], [], [], none⟩, ⟨some 181, some undef, fun _ => [], fun _ _ => [], [], [], none⟩, ⟨some 182, some undef, fun _ => [], fun _ _ => [], [], [], none⟩, ⟨some 183, some undef, fun _ => [], fun _ _ => [], [], [], none⟩, ⟨some 184, some undef, fun _ => [], fun _ _ => [], [], [], none⟩, ⟨some 185, some undef, fun _ => [], fun _ _ => [], [], [], none⟩, ⟨some 186, some undef, fun _ => [], fun _ _ => [], [], [], none⟩, ⟨some 187, some undef, fun _ => [], fun _ _ => [], [], [], none⟩, ⟨some 188, some undef, fun _ => [], fun _ _ => [], [], [], none⟩, ⟨some 189, some undef, fun _ => [], fun _ _ => [], [], [], none⟩, ⟨some 190, some undef, fun _ => [], fun _ _ => [], [], [], none⟩, ⟨some 191, some undef, fun _ => [], fun _ _ => [], [], [], none⟩, ⟨some 192, some undef, fun _ => [], fun _ _ => [], [], [], none⟩, ⟨some 193, some undef, fun _ => [], fun _ _ => [], [], [], none⟩, ⟨some 194, some undef, fun _ => [], fun _ _ => [], [], [], none⟩, ⟨some 195, some undef, fun _ => [], fun _ _ => [], [], [], none⟩, ⟨some 196, some undef, fun _ => [], fun _ _ => [], [], [], none⟩, ⟨some 197, some undef, fun _ => [], fun _ _ => [], [], [], none⟩, ⟨some 198, some undef, fun _ => [], fun _ _ => [], [], [], none⟩, ⟨some 199, some undef, fun _ => [], fun _ _ => [], [], [], none⟩, ⟨some 200, some undef, fun _ => [], fun _ _ => [], [], [], none⟩, ⟨some 201, some undef, fun _ => [], fun _ _ => [], [], [], none⟩, ⟨some 202, some undef, fun _ => [], fun _ _ => [], [], [], none⟩, ⟨some 203, some (.bool false), fun _ => [], fun ds_ u_ => [], [], [], none⟩] [[], [0], [1], [1], [1], [1], [1], [1], [1], [1], [1], [10], [10], [10], [10], [10], [10], [10], [1], [1], [19], [19], [19], [19], [19], [19], [1], [1, 26]] [[(false, .box 51 Whole_.rep u23 y12.1)]] [0, 1, 2, 3, 4, 5, 6, 7, 8, 9, 10, 11, 12, 13, 14, 15, 16, 17, 18, 19, 20, 21, 22, 23, 24, 25, 26, 27, 28] Try_mixed rfl rfl rfl h84 (.cons ?_ (.cons ?_ (.cons ?_ (.cons ?_ (.cons ?_ (.cons ?_ (.cons ?_ (.cons ?_ (.cons ?_ (.cons ?_ (.cons ?_ (.cons ?_ (.cons ?_ (.cons ?_ (.cons ?_ (.cons ?_ (.cons ?_ (.cons ?_ (.cons ?_ (.cons ?_ (.cons ?_ (.cons ?_ (.cons ?_ (.cons ?_ (.cons ?_ (.cons ?_ (.cons ?_ (.cons ?_ .nil)))))))))))))))))))))))))))) (fun q3 w hq6 h => ?_)
             ·intro q3 w Γx Ωx h
              refine OpS.mv rfl rfl rfl ?_
              exact ⟨undef, rfl, trivial, h⟩
             ·intro q3 w Γx Ωx h
              refine OpS.mv rfl rfl rfl ?_
              exact ⟨undef, (congrArg (fun z_ => some (Value.bool z_)) e40), trivial, h⟩
             ·intro q3 w Γx Ωx h
              exact OpS.pass rfl rfl rfl ⟨undef, rfl, trivial, h⟩
             ·intro q3 w Γx Ωx h
              exact OpS.pass rfl rfl rfl ⟨undef, rfl, trivial, h⟩
             ·intro q3 w Γx Ωx h
              exact OpS.pass rfl rfl rfl ⟨undef, rfl, trivial, h⟩
             ·intro q3 w Γx Ωx h
              exact OpS.pass rfl rfl rfl ⟨undef, rfl, trivial, h⟩
             ·intro q3 w Γx Ωx h
              exact OpS.pass rfl rfl rfl ⟨undef, rfl, trivial, h⟩
             ·intro q3 w Γx Ωx h
              exact OpS.pass rfl rfl rfl ⟨undef, rfl, trivial, h⟩
             ·intro q3 w Γx Ωx h
              exact OpS.pass rfl rfl rfl ⟨undef, rfl, trivial, h⟩
             ·intro q3 w Γx Ωx h
              exact OpS.pass rfl rfl rfl ⟨undef, rfl, trivial, h⟩
             ·intro q3 w Γx Ωx h
              exact OpS.pass rfl rfl rfl ⟨undef, rfl, trivial, h⟩
             ·intro q3 w Γx Ωx h
              exact OpS.pass rfl rfl rfl ⟨undef, rfl, trivial, h⟩
             ·intro q3 w Γx Ωx h
              exact OpS.pass rfl rfl rfl ⟨undef, rfl, trivial, h⟩
             ·intro q3 w Γx Ωx h
              exact OpS.pass rfl rfl rfl ⟨undef, rfl, trivial, h⟩
             ·intro q3 w Γx Ωx h
              exact OpS.pass rfl rfl rfl ⟨undef, rfl, trivial, h⟩
             ·intro q3 w Γx Ωx h
              exact OpS.pass rfl rfl rfl ⟨undef, rfl, trivial, h⟩
             ·intro q3 w Γx Ωx h
              exact OpS.pass rfl rfl rfl ⟨undef, rfl, trivial, h⟩
             ·intro q3 w Γx Ωx h
              exact OpS.pass rfl rfl rfl ⟨undef, rfl, trivial, h⟩
             ·intro q3 w Γx Ωx h
              exact OpS.pass rfl rfl rfl ⟨undef, rfl, trivial, h⟩
             ·intro q3 w Γx Ωx h
              exact OpS.pass rfl rfl rfl ⟨undef, rfl, trivial, h⟩
             ·intro q3 w Γx Ωx h
              exact OpS.pass rfl rfl rfl ⟨undef, rfl, trivial, h⟩
             ·intro q3 w Γx Ωx h
              exact OpS.pass rfl rfl rfl ⟨undef, rfl, trivial, h⟩
             ·intro q3 w Γx Ωx h
              exact OpS.pass rfl rfl rfl ⟨undef, rfl, trivial, h⟩
             ·intro q3 w Γx Ωx h
              exact OpS.pass rfl rfl rfl ⟨undef, rfl, trivial, h⟩
             ·intro q3 w Γx Ωx h
              exact OpS.pass rfl rfl rfl ⟨undef, rfl, trivial, h⟩
             ·intro q3 w Γx Ωx h
              exact OpS.pass rfl rfl rfl ⟨undef, rfl, trivial, h⟩
             ·intro q3 w Γx Ωx h
              exact OpS.pass rfl rfl rfl ⟨undef, rfl, trivial, h⟩
             ·intro q3 w Γx Ωx h
              refine OpS.pick rfl rfl rfl rfl ?_
              exact ⟨undef, rfl, trivial, h⟩
             have h108 : St e w [(false, .val (Rep.slice (Rep.int .i64)) v1 a1), (true, .val (Rep.slice (Rep.slice (Rep.int .u8))) u12 s4.1), (false, .val (Rep.slice (Rep.slice Packet_.rep)) u13 s4.2.1)] [(false, .box 51 Whole_.rep u23 y12.1), (false, .box 83 (Rep.iso (fun s : fragment_Assembler => (s.own, s.open_, ())) (Rep.prod (Rep.int .u8) (Rep.prod (Rep.raw (α := List fragment_open) u22) Rep.unit))) u14 y12.2.2.2), (true, .slice 3 (Rep.int .i64) u11 d1), (false, .oval (oslice 92 6 (fun _ => fragment_open.orep)) u22 y12.2.2.2.open_)] := h
             refine RunL.nil ?_
             refine Run.slim [(203, .bool false), (1, v1), (6, u14), (8, .int .i64 x1), (9, u12), (10, u13), (11, .int .i64 x16), (16, u11), (17, .int .i64 s4.2.2.2.1)] ⟨rfl, rfl, rfl, rfl, rfl, rfl, rfl, rfl, rfl, trivial⟩ ?_
             refine Run.slim [(1, v1), (6, u14), (8, .int .i64 x1), (9, u12), (10, u13), (11, .int .i64 x16), (16, u11), (17, .int .i64 s4.2.2.2.1), (203, .bool false)] ⟨rfl, rfl, rfl, rfl, rfl, rfl, rfl, rfl, rfl, trivial⟩ ?_
             exact hj5 (false) _ _ ⟨rfl, (h108.facts (.atm .z (.atm (.s .z) (.atm (.s (.s .z)) .nil)))).picks (.cons (.s .z) (.cons (.s .z) (.cons (.s .z) .nil)))⟩ hF
         ·
          obtain ⟨x22, e48, hF⟩ := letP_use hF
          refine iteP_use hF (fun e49 hF => ?_) (fun e49 hF => ?_)
          ·
           have hG := hF
           subst e49
           have hF := hG
           refine Run.drawV (Ωs := [(false, .box 51 Whole_.rep u23 y12.1), (false, .box 83 (Rep.iso (fun s : fragment_Assembler => (s.own, s.open_, ())) (Rep.prod (Rep.int .u8) (Rep.prod (Rep.raw (α := List fragment_open) u22) Rep.unit))) u14 y12.2.2.2), (false, .oval (oslice 92 6 (fun _ => fragment_open.orep)) u22 y12.2.2.2.open_), (true, .box 44 Packet_.rep u18 y11.1)]) [⟨some 152, some (.int .i64 y10.2), fun _ => [], fun ds_ u_ => [], [], [], none⟩, ⟨some 153, some (.bool (y10.2 != 0)), fun _ => [], fun ds_ u_ => [], [], [], none⟩, ⟨some 154, some (.bool true), fun _ => [], fun ds_ u_ => [], [], [], none⟩, ⟨some 155, some undef, fun _ => [], fun _ _ => [], [], [], none⟩, ⟨some 156, some undef, fun _ => [], fun _ _ => [], [], [], none⟩, ⟨some 157, some (.bool true), fun _ => [], fun ds_ u_ => [], [], [], none⟩, ⟨some 158, some (.bool true), fun _ => [], fun ds_ u_ => [], [], [], none⟩, ⟨some 159, some undef, fun _ => [], fun _ _ => [], [], [], none⟩, ⟨some 160, some undef, fun _ => [], fun _ _ => [], [], [], none⟩, ⟨some 161, some (.bool true), fun _ => [], fun ds_ u_ => [], [], [], none⟩, ⟨some 162, some (.bool true), fun _ => [], fun ds_ u_ => [], [], [], none⟩, ⟨some 163, some undef, fun _ => [], fun _ _ => [], [], [], none⟩, ⟨some 164, some undef, fun _ => [], fun _ _ => [], [], [], none⟩, ⟨some 165, some undef, fun _ => [], fun _ _ => [], [], [], none⟩, ⟨some 166, some undef, fun _ => [], fun _ _ => [], [], [], none⟩, ⟨some 167, some undef, fun _ => [], fun _ _ => [], [], [], none⟩, ⟨some 168, some undef, fun _ => [], fun _ _ => [], [], [], none⟩, ⟨some 169, some undef, fun _ => [], fun _ _ => [], [], [], none⟩, ⟨some 170, some undef, fun _ => [], fun _ _ => [], [], [], none⟩, ⟨some 171, some undef, fun _ => [], fun _ _ => [], [], [], none⟩, ⟨some 172, some undef, fun _ => [], fun _ _ => [], [], [], none⟩, ⟨some 173, some undef, fun _ => [], fun _ _ => [], [], [], none⟩, ⟨some 174, some undef, fun _ => [], fun _ _ => [], [], [], none⟩, ⟨some 175, some (.bool true), fun _ => [], fun ds_ u_ => [], [], [], none⟩] [[], [0], [1], [2], [2], [2, 4], [5], [6], [6], [6, 8], [9], [10], [10], [10], [10], [10], [10], [10], [10], [10], [10], [10], [10], [10, 22]] [[(true, .slice 3 (Rep.int .i64) u11 d1)]] [0, 1, 2, 3, 4, 5, 6, 7, 8, 9, 10, 11, 12, 13, 14, 15, 16, 17, 18, 19, 20, 21, 22, 23, 24] Try_mixed rfl rfl rfl h79 (.cons ?_ (.cons ?_ (.cons ?_ (.cons ?_ (.cons ?_ (.cons ?_ (.cons ?_ (.cons ?_ (.cons ?_ (.cons ?_ (.cons ?_ (.cons ?_ (.cons ?_ (.cons ?_ (.cons ?_ (.cons ?_ (.cons ?_ (.cons ?_ (.cons ?_ (.cons ?_ (.cons ?_ (.cons ?_ (.cons ?_ (.cons ?_ .nil)))))))))))))))))))))))) (fun q4 w hq7 h => ?_)
           ·intro q4 w Γx Ωx h
            refine OpS.mv rfl rfl rfl ?_
            exact ⟨undef, rfl, trivial, h⟩
           ·intro q4 w Γx Ωx h
            refine OpS.bin rfl rfl rfl rfl rfl ?_
            exact ⟨undef, rfl, trivial, h⟩
           ·intro q4 w Γx Ωx h
            refine OpS.mv rfl rfl rfl ?_
            exact ⟨undef, (congrArg (fun z_ => some (Value.bool z_)) e48), trivial, h⟩
           ·intro q4 w Γx Ωx h
            exact OpS.pass rfl rfl rfl ⟨undef, rfl, trivial, h⟩
           ·intro q4 w Γx Ωx h
            exact OpS.pass rfl rfl rfl ⟨undef, rfl, trivial, h⟩
           ·intro q4 w Γx Ωx h
            refine OpS.pick rfl rfl rfl rfl ?_
            exact ⟨undef, rfl, trivial, h⟩
           ·intro q4 w Γx Ωx h
            refine OpS.mv rfl rfl rfl ?_
            exact ⟨undef, rfl, trivial, h⟩
           ·intro q4 w Γx Ωx h
            exact OpS.pass rfl rfl rfl ⟨undef, rfl, trivial, h⟩
           ·intro q4 w Γx Ωx h
            exact OpS.pass rfl rfl rfl ⟨undef, rfl, trivial, h⟩
           ·intro q4 w Γx Ωx h
            refine OpS.pick rfl rfl rfl rfl ?_
            exact ⟨undef, rfl, trivial, h⟩
           ·intro q4 w Γx Ωx h
            refine OpS.mv rfl rfl rfl ?_
            exact ⟨undef, rfl, trivial, h⟩
           ·intro q4 w Γx Ωx h
            exact OpS.pass rfl rfl rfl ⟨undef, rfl, trivial, h⟩
           ·intro q4 w Γx Ωx h
            exact OpS.pass rfl rfl rfl ⟨undef, rfl, trivial, h⟩
           ·intro q4 w Γx Ωx h
            exact OpS.pass rfl rfl rfl ⟨undef, rfl, trivial, h⟩
           ·intro q4 w Γx Ωx h
            exact OpS.pass rfl rfl rfl ⟨undef, rfl, trivial, h⟩
           ·intro q4 w Γx Ωx h
            exact OpS.pass rfl rfl rfl ⟨undef, rfl, trivial, h⟩
           ·intro q4 w Γx Ωx h
            exact OpS.pass rfl rfl rfl ⟨undef, rfl, trivial, h⟩
           ·intro q4 w Γx Ωx h
            exact OpS.pass rfl rfl rfl ⟨undef, rfl, trivial, h⟩
           ·intro q4 w Γx Ωx h
            exact OpS.pass rfl rfl rfl ⟨undef, rfl, trivial, h⟩
           ·intro q4 w Γx Ωx h
            exact OpS.pass rfl rfl rfl ⟨undef, rfl, trivial, h⟩
           ·intro q4 w Γx Ωx h
            exact OpS.pass rfl rfl rfl ⟨undef, rfl, trivial, h⟩
           ·intro q4 w Γx Ωx h
            exact OpS.pass rfl rfl rfl ⟨undef, rfl, trivial, h⟩
           ·intro q4 w Γx Ωx h
            exact OpS.pass rfl rfl rfl ⟨undef, rfl, trivial, h⟩
           ·intro q4 w Γx Ωx h
            refine OpS.pick rfl rfl rfl rfl ?_
            exact ⟨undef, rfl, trivial, h⟩
           have h109 : St e w [(false, .val Whole_.rep u21 y12.1), (true, .val Packet_.rep u19 y11.1), (true, .val Packet_.rep u17 y11.1), (false, .ptr (Rep.slice Packet_.rep) (q2 2) x10), (false, .val (Rep.slice Packet_.rep) (q2 3) x10), (false, .ptr Packet_.rep (q2 8) x12), (false, .val Packet_.rep (q2 9) x12), (true, .eqv (q2 10) (.tuple #[(tcomp (q2 10) 0), .int .i64 y10.2])), (true, .val (Rep.slice (Rep.int .u8)) (tcomp (q2 10) 0) y10.1), (true, .eqv (q2 11) (.tuple #[(tcomp (q2 11) 0), .int .i64 y10.2])), (true, .val (Rep.slice (Rep.int .u8)) (tcomp (q2 11) 0) y10.1), (true, .val (Rep.slice (Rep.int .u8)) (q2 12) y10.1), (true, .val (Rep.slice (Rep.int .u8)) (q2 14) y10.1), (false, .ptr (Rep.slice Packet_.rep) (q1 6) x8), (false, .val (Rep.slice Packet_.rep) (q1 7) x8), (false, .val (Rep.slice (Rep.int .i64)) v1 a1), (true, .val (Rep.slice (Rep.slice (Rep.int .u8))) u12 s4.1), (false, .val (Rep.slice (Rep.slice Packet_.rep)) u13 s4.2.1)] [(true, .slice 3 (Rep.int .i64) u11 d1), (false, .box 51 Whole_.rep u23 y12.1), (false, .box 83 (Rep.iso (fun s : fragment_Assembler => (s.own, s.open_, ())) (Rep.prod (Rep.int .u8) (Rep.prod (Rep.raw (α := List fragment_open) u22) Rep.unit))) u14 y12.2.2.2), (false, .oval (oslice 92 6 (fun _ => fragment_open.orep)) u22 y12.2.2.2.open_), (true, .box 44 Packet_.rep u18 y11.1)] := h
           refine RunL.nil ?_
           refine Run.slim [(175, .bool true), (11, .int .i64 x16), (24, .bool y12.2.1), (23, u23), (1, v1), (6, u14), (8, .int .i64 x1), (9, u12), (10, u13), (16, u11), (17, .int .i64 s4.2.2.2.1), (18, .int .i64 s6)] ⟨rfl, rfl, rfl, rfl, rfl, rfl, rfl, rfl, rfl, rfl, rfl, rfl, trivial⟩ ?_
           refine Run.slim [(1, v1), (6, u14), (8, .int .i64 x1), (9, u12), (10, u13), (11, .int .i64 x16), (16, u11), (17, .int .i64 s4.2.2.2.1), (18, .int .i64 s6), (23, u23), (24, .bool y12.2.1), (175, .bool true)] ⟨rfl, rfl, rfl, rfl, rfl, rfl, rfl, rfl, rfl, rfl, rfl, rfl, trivial⟩ ?_
           exact hj4 (true) _ _ ⟨rfl, (h109.facts (.atm (.s (.s (.s (.s (.s (.s (.s (.s (.s (.s (.s (.s (.s (.s (.s .z))))))))))))))) (.atm (.s (.s (.s (.s (.s (.s (.s (.s (.s (.s (.s (.s (.s (.s (.s (.s .z)))))))))))))))) (.atm (.s (.s (.s (.s (.s (.s (.s (.s (.s (.s (.s (.s (.s (.s (.s (.s (.s .z))))))))))))))))) .nil)))).picks (.cons (.s (.s .z)) (.cons (.s .z) (.cons .z (.cons .z .nil))))⟩ hF
          ·
           have hG := hF
           subst e49
           have hF := hG
           obtain ⟨x23, e50, hF⟩ := letP_use hF
           refine iteP_use hF (fun e51 hF => ?_) (fun e51 hF => ?_)
           ·
            have hG := hF
            subst e51
            have hF := hG
            refine Run.drawV (Ωs := [(false, .box 51 Whole_.rep u23 y12.1), (false, .box 83 (Rep.iso (fun s : fragment_Assembler => (s.own, s.open_, ())) (Rep.prod (Rep.int .u8) (Rep.prod (Rep.raw (α := List fragment_open) u22) Rep.unit))) u14 y12.2.2.2), (false, .oval (oslice 92 6 (fun _ => fragment_open.orep)) u22 y12.2.2.2.open_), (true, .box 44 Packet_.rep u18 y11.1)]) [⟨some 152, some (.int .i64 y10.2), fun _ => [], fun ds_ u_ => [], [], [], none⟩, ⟨some 153, some (.bool (y10.2 != 0)), fun _ => [], fun ds_ u_ => [], [], [], none⟩, ⟨some 154, some (.bool false), fun _ => [], fun ds_ u_ => [], [], [], none⟩, ⟨some 155, some (.int .i64 y11.2), fun _ => [], fun ds_ u_ => [], [], [], none⟩, ⟨some 156, some (.bool (y11.2 != 0)), fun _ => [], fun ds_ u_ => [], [], [], none⟩, ⟨some 157, some (.bool (y11.2 != 0)), fun _ => [], fun ds_ u_ => [], [], [], none⟩, ⟨some 158, some (.bool true), fun _ => [], fun ds_ u_ => [], [], [], none⟩, ⟨some 159, some undef, fun _ => [], fun _ _ => [], [], [], none⟩, ⟨some 160, some undef, fun _ => [], fun _ _ => [], [], [], none⟩, ⟨some 161, some (.bool true), fun _ => [], fun ds_ u_ => [], [], [], none⟩, ⟨some 162, some (.bool true), fun _ => [], fun ds_ u_ => [], [], [], none⟩, ⟨some 163, some undef, fun _ => [], fun _ _ => [], [], [], none⟩, ⟨some 164, some undef, fun _ => [], fun _ _ => [], [], [], none⟩, ⟨some 165, some undef, fun _ => [], fun _ _ => [], [], [], none⟩, ⟨some 166, some undef, fun _ => [], fun _ _ => [], [], [], none⟩, ⟨some 167, some undef, fun _ => [], fun _ _ => [], [], [], none⟩, ⟨some 168, some undef, fun _ => [], fun _ _ => [], [], [], none⟩, ⟨some 169, some undef, fun _ => [], fun _ _ => [], [], [], none⟩, ⟨some 170, some undef, fun _ => [], fun _ _ => [], [], [], none⟩, ⟨some 171, some undef, fun _ => [], fun _ _ => [], [], [], none⟩, ⟨some 172, some undef, fun _ => [], fun _ _ => [], [], [], none⟩, ⟨some 173, some undef, fun _ => [], fun _ _ => [], [], [], none⟩, ⟨some 174, some undef, fun _ => [], fun _ _ => [], [], [], none⟩, ⟨some 175, some (.bool true), fun _ => [], fun ds_ u_ => [], [], [], none⟩] [[], [0], [1], [2], [3, 2], [2, 4], [5], [6], [6], [6, 8], [9], [10], [10], [10], [10], [10], [10], [10], [10], [10], [10], [10], [10], [10, 22]] [[(true, .slice 3 (Rep.int .i64) u11 d1)]] [0, 1, 2, 3, 4, 5, 6, 7, 8, 9, 10, 11, 12, 13, 14, 15, 16, 17, 18, 19, 20, 21, 22, 23, 24] Try_mixed rfl rfl rfl h79 (.cons ?_ (.cons ?_ (.cons ?_ (.cons ?_ (.cons ?_ (.cons ?_ (.cons ?_ (.cons ?_ (.cons ?_ (.cons ?_ (.cons ?_ (.cons ?_ (.cons ?_ (.cons ?_ (.cons ?_ (.cons ?_ (.cons ?_ (.cons ?_ (.cons ?_ (.cons ?_ (.cons ?_ (.cons ?_ (.cons ?_ (.cons ?_ .nil)))))))))))))))))))))))) (fun q4 w hq8 h => ?_)
            ·intro q4 w Γx Ωx h
             refine OpS.mv rfl rfl rfl ?_
             exact ⟨undef, rfl, trivial, h⟩
            ·intro q4 w Γx Ωx h
             refine OpS.bin rfl rfl rfl rfl rfl ?_
             exact ⟨undef, rfl, trivial, h⟩
            ·intro q4 w Γx Ωx h
             refine OpS.mv rfl rfl rfl ?_
             exact ⟨undef, (congrArg (fun z_ => some (Value.bool z_)) e48), trivial, h⟩
            ·intro q4 w Γx Ωx h
             refine OpS.mv rfl rfl rfl ?_
             exact ⟨undef, rfl, trivial, h⟩
            ·intro q4 w Γx Ωx h
             refine OpS.bin rfl rfl rfl rfl rfl ?_
             exact ⟨undef, rfl, trivial, h⟩
            ·intro q4 w Γx Ωx h
             refine OpS.pick rfl rfl rfl rfl ?_
             exact ⟨undef, rfl, trivial, h⟩
            ·intro q4 w Γx Ωx h
             refine OpS.mv rfl rfl rfl ?_
             exact ⟨undef, (congrArg (fun z_ => some (Value.bool z_)) e50), trivial, h⟩
            ·intro q4 w Γx Ωx h
             exact OpS.pass rfl rfl rfl ⟨undef, rfl, trivial, h⟩
            ·intro q4 w Γx Ωx h
             exact OpS.pass rfl rfl rfl ⟨undef, rfl, trivial, h⟩
            ·intro q4 w Γx Ωx h
             refine OpS.pick rfl rfl rfl rfl ?_
             exact ⟨undef, rfl, trivial, h⟩
            ·intro q4 w Γx Ωx h
             refine OpS.mv rfl rfl rfl ?_
             exact ⟨undef, rfl, trivial, h⟩
            ·intro q4 w Γx Ωx h
             exact OpS.pass rfl rfl rfl ⟨undef, rfl, trivial, h⟩
            ·intro q4 w Γx Ωx h
             exact OpS.pass rfl rfl rfl ⟨undef, rfl, trivial, h⟩
            ·intro q4 w Γx Ωx h
             exact OpS.pass rfl rfl rfl ⟨undef, rfl, trivial, h⟩
            ·intro q4 w Γx Ωx h
             exact OpS.pass rfl rfl rfl ⟨undef, rfl, trivial, h⟩
            ·intro q4 w Γx Ωx h
             exact OpS.pass rfl rfl rfl ⟨undef, rfl, trivial, h⟩
            ·intro q4 w Γx Ωx h
             exact OpS.pass rfl rfl rfl ⟨undef, rfl, trivial, h⟩
            ·intro q4 w Γx Ωx h
             exact OpS.pass rfl rfl rfl ⟨undef, rfl, trivial, h⟩
            ·intro q4 w Γx Ωx h
             exact OpS.pass rfl rfl rfl ⟨undef, rfl, trivial, h⟩
            ·intro q4 w Γx Ωx h
             exact OpS.pass rfl rfl rfl ⟨undef, rfl, trivial, h⟩
            ·intro q4 w Γx Ωx h
             exact OpS.pass rfl rfl rfl ⟨undef, rfl, trivial, h⟩
            ·intro q4 w Γx Ωx h
             exact OpS.pass rfl rfl rfl ⟨undef, rfl, trivial, h⟩
            ·intro q4 w Γx Ωx h
             exact OpS.pass rfl rfl rfl ⟨undef, rfl, trivial, h⟩
            ·intro q4 w Γx Ωx h
             refine OpS.pick rfl rfl rfl rfl ?_
             exact ⟨undef, rfl, trivial, h⟩
            have h110 : St e w [(false, .val Whole_.rep u21 y12.1), (true, .val Packet_.rep u19 y11.1), (true, .val Packet_.rep u17 y11.1), (false, .ptr (Rep.slice Packet_.rep) (q2 2) x10), (false, .val (Rep.slice Packet_.rep) (q2 3) x10), (false, .ptr Packet_.rep (q2 8) x12), (false, .val Packet_.rep (q2 9) x12), (true, .eqv (q2 10) (.tuple #[(tcomp (q2 10) 0), .int .i64 y10.2])), (true, .val (Rep.slice (Rep.int .u8)) (tcomp (q2 10) 0) y10.1), (true, .eqv (q2 11) (.tuple #[(tcomp (q2 11) 0), .int .i64 y10.2])), (true, .val (Rep.slice (Rep.int .u8)) (tcomp (q2 11) 0) y10.1), (true, .val (Rep.slice (Rep.int .u8)) (q2 12) y10.1), (true, .val (Rep.slice (Rep.int .u8)) (q2 14) y10.1), (false, .ptr (Rep.slice Packet_.rep) (q1 6) x8), (false, .val (Rep.slice Packet_.rep) (q1 7) x8), (false, .val (Rep.slice (Rep.int .i64)) v1 a1), (true, .val (Rep.slice (Rep.slice (Rep.int .u8))) u12 s4.1), (false, .val (Rep.slice (Rep.slice Packet_.rep)) u13 s4.2.1)] [(true, .slice 3 (Rep.int .i64) u11 d1), (false, .box 51 Whole_.rep u23 y12.1), (false, .box 83 (Rep.iso (fun s : fragment_Assembler => (s.own, s.open_, ())) (Rep.prod (Rep.int .u8) (Rep.prod (Rep.raw (α := List fragment_open) u22) Rep.unit))) u14 y12.2.2.2), (false, .oval (oslice 92 6 (fun _ => fragment_open.orep)) u22 y12.2.2.2.open_), (true, .box 44 Packet_.rep u18 y11.1)] := h
            refine RunL.nil ?_
            refine Run.slim [(175, .bool true), (11, .int .i64 x16), (24, .bool y12.2.1), (23, u23), (1, v1), (6, u14), (8, .int .i64 x1), (9, u12), (10, u13), (16, u11), (17, .int .i64 s4.2.2.2.1), (18, .int .i64 s6)] ⟨rfl, rfl, rfl, rfl, rfl, rfl, rfl, rfl, rfl, rfl, rfl, rfl, trivial⟩ ?_
            refine Run.slim [(1, v1), (6, u14), (8, .int .i64 x1), (9, u12), (10, u13), (11, .int .i64 x16), (16, u11), (17, .int .i64 s4.2.2.2.1), (18, .int .i64 s6), (23, u23), (24, .bool y12.2.1), (175, .bool true)] ⟨rfl, rfl, rfl, rfl, rfl, rfl, rfl, rfl, rfl, rfl, rfl, rfl, trivial⟩ ?_
            exact hj4 (true) _ _ ⟨rfl, (h110.facts (.atm (.s (.s (.s (.s (.s (.s (.s (.s (.s (.s (.s (.s (.s (.s (.s .z))))))))))))))) (.atm (.s (.s (.s (.s (.s (.s (.s (.s (.s (.s (.s (.s (.s (.s (.s (.s .z)))))))))))))))) (.atm (.s (.s (.s (.s (.s (.s (.s (.s (.s (.s (.s (.s (.s (.s (.s (.s (.s .z))))))))))))))))) .nil)))).picks (.cons (.s (.s .z)) (.cons (.s .z) (.cons .z (.cons .z .nil))))⟩ hF
           ·
            have hG := hF
            subst e51
            have hF := hG
            obtain ⟨x24, e52, hF⟩ := letP_use hF
            refine iteP_use hF (fun e53 hF => ?_) (fun e53 hF => ?_)
            ·
             have hG := hF
             subst e53
             have hF := hG
             refine Run.drawV (Ωs := [(false, .box 51 Whole_.rep u23 y12.1), (false, .box 83 (Rep.iso (fun s : fragment_Assembler => (s.own, s.open_, ())) (Rep.prod (Rep.int .u8) (Rep.prod (Rep.raw (α := List fragment_open) u22) Rep.unit))) u14 y12.2.2.2), (false, .oval (oslice 92 6 (fun _ => fragment_open.orep)) u22 y12.2.2.2.open_), (true, .box 44 Packet_.rep u18 y11.1)]) [⟨some 152, some (.int .i64 y10.2), fun _ => [], fun ds_ u_ => [], [], [], none⟩, ⟨some 153, some (.bool (y10.2 != 0)), fun _ => [], fun ds_ u_ => [], [], [], none⟩, ⟨some 154, some (.bool false), fun _ => [], fun ds_ u_ => [], [], [], none⟩, ⟨some 155, some (.int .i64 y11.2), fun _ => [], fun ds_ u_ => [], [], [], none⟩, ⟨some 156, some (.bool (y11.2 != 0)), fun _ => [], fun ds_ u_ => [], [], [], none⟩, ⟨some 157, some (.bool (y11.2 != 0)), fun _ => [], fun ds_ u_ => [], [], [], none⟩, ⟨some 158, some (.bool false), fun _ => [], fun ds_ u_ => [], [], [], none⟩, ⟨some 159, some (.int .i64 y12.2.2.1), fun _ => [], fun ds_ u_ => [], [], [], none⟩, ⟨some 160, some (.bool (y12.2.2.1 != 0)), fun _ => [], fun ds_ u_ => [], [], [], none⟩, ⟨some 161, some (.bool (y12.2.2.1 != 0)), fun _ => [], fun ds_ u_ => [], [], [], none⟩, ⟨some 162, some (.bool true), fun _ => [], fun ds_ u_ => [], [], [], none⟩, ⟨some 163, some undef, fun _ => [], fun _ _ => [], [], [], none⟩, ⟨some 164, some undef, fun _ => [], fun _ _ => [], [], [], none⟩, ⟨some 165, some undef, fun _ => [], fun _ _ => [], [], [], none⟩, ⟨some 166, some undef, fun _ => [], fun _ _ => [], [], [], none⟩, ⟨some 167, some undef, fun _ => [], fun _ _ => [], [], [], none⟩, ⟨some 168, some undef, fun _ => [], fun _ _ => [], [], [], none⟩, ⟨some 169, some undef, fun _ => [], fun _ _ => [], [], [], none⟩, ⟨some 170, some undef, fun _ => [], fun _ _ => [], [], [], none⟩, ⟨some 171, some undef, fun _ => [], fun _ _ => [], [], [], none⟩, ⟨some 172, some undef, fun _ => [], fun _ _ => [], [], [], none⟩, ⟨some 173, some undef, fun _ => [], fun _ _ => [], [], [], none⟩, ⟨some 174, some undef, fun _ => [], fun _ _ => [], [], [], none⟩, ⟨some 175, some (.bool true), fun _ => [], fun ds_ u_ => [], [], [], none⟩] [[], [0], [1], [2], [3, 2], [2, 4], [5], [6], [7, 6], [6, 8], [9], [10], [10], [10], [10], [10], [10], [10], [10], [10], [10], [10], [10], [10, 22]] [[(true, .slice 3 (Rep.int .i64) u11 d1)]] [0, 1, 2, 3, 4, 5, 6, 7, 8, 9, 10, 11, 12, 13, 14, 15, 16, 17, 18, 19, 20, 21, 22, 23, 24] Try_mixed rfl rfl rfl h79 (.cons ?_ (.cons ?_ (.cons ?_ (.cons ?_ (.cons ?_ (.cons ?_ (.cons ?_ (.cons ?_ (.cons ?_ (.cons ?_ (.cons ?_ (.cons ?_ (.cons ?_ (.cons ?_ (.cons ?_ (.cons ?_ (.cons ?_ (.cons ?_ (.cons ?_ (.cons ?_ (.cons ?_ (.cons ?_ (.cons ?_ (.cons ?_ .nil)))))))))))))))))))))))) (fun q4 w hq9 h => ?_)
             ·intro q4 w Γx Ωx h
              refine OpS.mv rfl rfl rfl ?_
              exact ⟨undef, rfl, trivial, h⟩
             ·intro q4 w Γx Ωx h
              refine OpS.bin rfl rfl rfl rfl rfl ?_
              exact ⟨undef, rfl, trivial, h⟩
             ·intro q4 w Γx Ωx h
              refine OpS.mv rfl rfl rfl ?_
              exact ⟨undef, (congrArg (fun z_ => some (Value.bool z_)) e48), trivial, h⟩
             ·intro q4 w Γx Ωx h
              refine OpS.mv rfl rfl rfl ?_
              exact ⟨undef, rfl, trivial, h⟩
             ·intro q4 w Γx Ωx h
              refine OpS.bin rfl rfl rfl rfl rfl ?_
              exact ⟨undef, rfl, trivial, h⟩
             ·intro q4 w Γx Ωx h
              refine OpS.pick rfl rfl rfl rfl ?_
              exact ⟨undef, rfl, trivial, h⟩
             ·intro q4 w Γx Ωx h
              refine OpS.mv rfl rfl rfl ?_
              exact ⟨undef, (congrArg (fun z_ => some (Value.bool z_)) e50), trivial, h⟩
             ·intro q4 w Γx Ωx h
              refine OpS.mv rfl rfl rfl ?_
              exact ⟨undef, rfl, trivial, h⟩
             ·intro q4 w Γx Ωx h
              refine OpS.bin rfl rfl rfl rfl rfl ?_
              exact ⟨undef, rfl, trivial, h⟩
             ·intro q4 w Γx Ωx h
              refine OpS.pick rfl rfl rfl rfl ?_
              exact ⟨undef, rfl, trivial, h⟩
             ·intro q4 w Γx Ωx h
              refine OpS.mv rfl rfl rfl ?_
              exact ⟨undef, (congrArg (fun z_ => some (Value.bool z_)) e52), trivial, h⟩
             ·intro q4 w Γx Ωx h
              exact OpS.pass rfl rfl rfl ⟨undef, rfl, trivial, h⟩
             ·intro q4 w Γx Ωx h
              exact OpS.pass rfl rfl rfl ⟨undef, rfl, trivial, h⟩
             ·intro q4 w Γx Ωx h
              exact OpS.pass rfl rfl rfl ⟨undef, rfl, trivial, h⟩
             ·intro q4 w Γx Ωx h
              exact OpS.pass rfl rfl rfl ⟨undef, rfl, trivial, h⟩
             ·intro q4 w Γx Ωx h
              exact OpS.pass rfl rfl rfl ⟨undef, rfl, trivial, h⟩
             ·intro q4 w Γx Ωx h
              exact OpS.pass rfl rfl rfl ⟨undef, rfl, trivial, h⟩
             ·intro q4 w Γx Ωx h
              exact OpS.pass rfl rfl rfl ⟨undef, rfl, trivial, h⟩
             ·intro q4 w Γx Ωx h
              exact OpS.pass rfl rfl rfl ⟨undef, rfl, trivial, h⟩
             ·intro q4 w Γx Ωx h
              exact OpS.pass rfl rfl rfl ⟨undef, rfl, trivial, h⟩
             ·intro q4 w Γx Ωx h
              exact OpS.pass rfl rfl rfl ⟨undef, rfl, trivial, h⟩
             ·intro q4 w Γx Ωx h
              exact OpS.pass rfl rfl rfl ⟨undef, rfl, trivial, h⟩
             ·intro q4 w Γx Ωx h
              exact OpS.pass rfl rfl rfl ⟨undef, rfl, trivial, h⟩
             ·intro q4 w Γx Ωx h
              refine OpS.pick rfl rfl rfl rfl ?_
              exact ⟨undef, rfl, trivial, h⟩
             have h111 : St e w [(false, .val Whole_.rep u21 y12.1), (true, .val Packet_.rep u19 y11.1), (true, .val Packet_.rep u17 y11.1), (false, .ptr (Rep.slice Packet_.rep) (q2 2) x10), (false, .val (Rep.slice Packet_.rep) (q2 3) x10), (false, .ptr Packet_.rep (q2 8) x12), (false, .val Packet_.rep (q2 9) x12), (true, .eqv (q2 10) (.tuple #[(tcomp (q2 10) 0), .int .i64 y10.2])), (true, .val (Rep.slice (Rep.int .u8)) (tcomp (q2 10) 0) y10.1), (true, .eqv (q2 11) (.tuple #[(tcomp (q2 11) 0), .int .i64 y10.2])), (true, .val (Rep.slice (Rep.int .u8)) (tcomp (q2 11) 0) y10.1), (true, .val (Rep.slice (Rep.int .u8)) (q2 12) y10.1), (true, .val (Rep.slice (Rep.int .u8)) (q2 14) y10.1), (false, .ptr (Rep.slice Packet_.rep) (q1 6) x8), (false, .val (Rep.slice Packet_.rep) (q1 7) x8), (false, .val (Rep.slice (Rep.int .i64)) v1 a1), (true, .val (Rep.slice (Rep.slice (Rep.int .u8))) u12 s4.1), (false, .val (Rep.slice (Rep.slice Packet_.rep)) u13 s4.2.1)] [(true, .slice 3 (Rep.int .i64) u11 d1), (false, .box 51 Whole_.rep u23 y12.1), (false, .box 83 (Rep.iso (fun s : fragment_Assembler => (s.own, s.open_, ())) (Rep.prod (Rep.int .u8) (Rep.prod (Rep.raw (α := List fragment_open) u22) Rep.unit))) u14 y12.2.2.2), (false, .oval (oslice 92 6 (fun _ => fragment_open.orep)) u22 y12.2.2.2.open_), (true, .box 44 Packet_.rep u18 y11.1)] := h
             refine RunL.nil ?_
             refine Run.slim [(175, .bool true), (11, .int .i64 x16), (24, .bool y12.2.1), (23, u23), (1, v1), (6, u14), (8, .int .i64 x1), (9, u12), (10, u13), (16, u11), (17, .int .i64 s4.2.2.2.1), (18, .int .i64 s6)] ⟨rfl, rfl, rfl, rfl, rfl, rfl, rfl, rfl, rfl, rfl, rfl, rfl, trivial⟩ ?_
             refine Run.slim [(1, v1), (6, u14), (8, .int .i64 x1), (9, u12), (10, u13), (11, .int .i64 x16), (16, u11), (17, .int .i64 s4.2.2.2.1), (18, .int .i64 s6), (23, u23), (24, .bool y12.2.1), (175, .bool true)] ⟨rfl, rfl, rfl, rfl, rfl, rfl, rfl, rfl, rfl, rfl, rfl, rfl, trivial⟩ ?_
             exact hj4 (true) _ _ ⟨rfl, (h111.facts (.atm (.s (.s (.s (.s (.s (.s (.s (.s (.s (.s (.s (.s (.s (.s (.s .z))))))))))))))) (.atm (.s (.s (.s (.s (.s (.s (.s (.s (.s (.s (.s (.s (.s (.s (.s (.s .z)))))))))))))))) (.atm (.s (.s (.s (.s (.s (.s (.s (.s (.s (.s (.s (.s (.s (.s (.s (.s (.s .z))))))))))))))))) .nil)))).picks (.cons (.s (.s .z)) (.cons (.s .z) (.cons .z (.cons .z .nil))))⟩ hF
            ·
             have hG := hF
             subst e53
             have hF := hG
             obtain ⟨x25, e54, hF⟩ := bindP_use hF
             obtain ⟨x26, e55, hF⟩ := bindP_use hF
             refine Run.drawV (Ωs := [(false, .box 51 Whole_.rep u23 y12.1), (false, .box 83 (Rep.iso (fun s : fragment_Assembler => (s.own, s.open_, ())) (Rep.prod (Rep.int .u8) (Rep.prod (Rep.raw (α := List fragment_open) u22) Rep.unit))) u14 y12.2.2.2), (false, .oval (oslice 92 6 (fun _ => fragment_open.orep)) u22 y12.2.2.2.open_), (true, .box 44 Packet_.rep u18 y11.1)]) [⟨some 152, some (.int .i64 y10.2), fun _ => [], fun ds_ u_ => [], [], [], none⟩, ⟨some 153, some (.bool (y10.2 != 0)), fun _ => [], fun ds_ u_ => [], [], [], none⟩, ⟨some 154, some (.bool false), fun _ => [], fun ds_ u_ => [], [], [], none⟩, ⟨some 155, some (.int .i64 y11.2), fun _ => [], fun ds_ u_ => [], [], [], none⟩, ⟨some 156, some (.bool (y11.2 != 0)), fun _ => [], fun ds_ u_ => [], [], [], none⟩, ⟨some 157, some (.bool (y11.2 != 0)), fun _ => [], fun ds_ u_ => [], [], [], none⟩, ⟨some 158, some (.bool false), fun _ => [], fun ds_ u_ => [], [], [], none⟩, ⟨some 159, some (.int .i64 y12.2.2.1), fun _ => [], fun ds_ u_ => [], [], [], none⟩, ⟨some 160, some (.bool (y12.2.2.1 != 0)), fun _ => [], fun ds_ u_ => [], [], [], none⟩, ⟨some 161, some (.bool (y12.2.2.1 != 0)), fun _ => [], fun ds_ u_ => [], [], [], none⟩, ⟨some 162, some (.bool false), fun _ => [], fun ds_ u_ => [], [], [], none⟩, ⟨some 163, some (.bool y12.2.1), fun _ => [], fun ds_ u_ => [], [], [], none⟩, ⟨some 164, some (u11), fun _ => [], fun ds_ u_ => [], [], [], none⟩, ⟨some 165, some (.int .i64 s6), fun _ => [], fun ds_ u_ => [], [], [], none⟩, ⟨some 166, some ((padd (sp u11) ((s6 : Int).toNat * (Rep.int .i64).n))), fun _ => [], fun ds_ u_ => [], [], [(0, [])], none⟩, ⟨some 167, some (.int .i64 x25), fun _ => [], fun ds_ u_ => [], [], [(0, [])], none⟩, ⟨some 168, some (u13), fun _ => [], fun ds_ u_ => [], [], [], none⟩, ⟨some 169, some (.int .i64 s6), fun _ => [], fun ds_ u_ => [], [], [], none⟩, ⟨some 170, none, fun u_ => [(false, .ptr (Rep.slice Packet_.rep) u_ x26)], fun ds_ u_ => [], [], [], none⟩, ⟨some 171, none, fun u_ => [(false, .val (Rep.slice Packet_.rep) u_ x26)], fun ds_ u_ => [], [], [], none⟩, ⟨some 172, some (.int .i64 (x26.length : Int)), fun _ => [], fun ds_ u_ => [], [], [], none⟩, ⟨some 173, some (.bool (x25 == (x26.length : Int))), fun _ => [], fun ds_ u_ => [], [], [], none⟩, ⟨some 174, some (.bool (y12.2.1 != (x25 == (x26.length : Int)))), fun _ => [], fun ds_ u_ => [], [], [], none⟩, ⟨some 175, some (.bool (y12.2.1 != (x25 == (x26.length : Int)))), fun _ => [], fun ds_ u_ => [], [], [], none⟩] [[], [0], [1], [2], [3, 2], [2, 4], [5], [6], [7, 6], [6, 8], [9], [10], [10], [10], [12, 13, 10], [14, 10], [10], [10], [16, 17, 10], [18, 10], [19, 10], [15, 20, 10], [11, 21, 10], [10, 22]] [[(true, .slice 3 (Rep.int .i64) u11 d1)]] [0, 1, 2, 3, 4, 5, 6, 7, 8, 9, 10, 11, 12, 13, 14, 15, 16, 17, 18, 19, 20, 21, 22, 23, 24] Try_mixed rfl rfl rfl h79 (.cons ?_ (.cons ?_ (.cons ?_ (.cons ?_ (.cons ?_ (.cons ?_ (.cons ?_ (.cons ?_ (.cons ?_ (.cons ?_ (.cons ?_ (.cons ?_ (.cons ?_ (.cons ?_ (.cons ?_ (.cons ?_ (.cons ?_ (.cons ?_ (.cons ?_ (.cons ?_ (.cons ?_ (.cons ?_ (.cons ?_ (.cons ?_ .nil)))))))))))))))))))))))) (fun q4 w hq10 h => ?_)
             ·intro q4 w Γx Ωx h
              refine OpS.mv rfl rfl rfl ?_
              exact ⟨undef, rfl, trivial, h⟩
             ·intro q4 w Γx Ωx h
              refine OpS.bin rfl rfl rfl rfl rfl ?_
              exact ⟨undef, rfl, trivial, h⟩
             ·intro q4 w Γx Ωx h
              refine OpS.mv rfl rfl rfl ?_
              exact ⟨undef, (congrArg (fun z_ => some (Value.bool z_)) e48), trivial, h⟩
             ·intro q4 w Γx Ωx h
              refine OpS.mv rfl rfl rfl ?_
              exact ⟨undef, rfl, trivial, h⟩
             ·intro q4 w Γx Ωx h
              refine OpS.bin rfl rfl rfl rfl rfl ?_
              exact ⟨undef, rfl, trivial, h⟩
             ·intro q4 w Γx Ωx h
              refine OpS.pick rfl rfl rfl rfl ?_
              exact ⟨undef, rfl, trivial, h⟩
             ·intro q4 w Γx Ωx h
              refine OpS.mv rfl rfl rfl ?_
              exact ⟨undef, (congrArg (fun z_ => some (Value.bool z_)) e50), trivial, h⟩
             ·intro q4 w Γx Ωx h
              refine OpS.mv rfl rfl rfl ?_
              exact ⟨undef, rfl, trivial, h⟩
             ·intro q4 w Γx Ωx h
              refine OpS.bin rfl rfl rfl rfl rfl ?_
              exact ⟨undef, rfl, trivial, h⟩
             ·intro q4 w Γx Ωx h
              refine OpS.pick rfl rfl rfl rfl ?_
              exact ⟨undef, rfl, trivial, h⟩
             ·intro q4 w Γx Ωx h
              refine OpS.mv rfl rfl rfl ?_
              exact ⟨undef, (congrArg (fun z_ => some (Value.bool z_)) e52), trivial, h⟩
             ·intro q4 w Γx Ωx h
              refine OpS.mv rfl rfl rfl ?_
              exact ⟨undef, rfl, trivial, h⟩
             ·intro q4 w Γx Ωx h
              refine OpS.mv rfl rfl rfl ?_
              exact ⟨undef, rfl, trivial, h⟩
             ·intro q4 w Γx Ωx h
              refine OpS.mv rfl rfl rfl ?_
              exact ⟨undef, rfl, trivial, h⟩
             ·intro q4 w Γx Ωx h
              have h : St e w ([(false, .val Whole_.rep u21 y12.1), (true, .val Packet_.rep u19 y11.1), (true, .val Packet_.rep u17 y11.1), (false, .ptr (Rep.slice Packet_.rep) (q2 2) x10), (false, .val (Rep.slice Packet_.rep) (q2 3) x10), (false, .ptr Packet_.rep (q2 8) x12), (false, .val Packet_.rep (q2 9) x12), (true, .eqv (q2 10) (.tuple #[(tcomp (q2 10) 0), .int .i64 y10.2])), (true, .val (Rep.slice (Rep.int .u8)) (tcomp (q2 10) 0) y10.1), (true, .eqv (q2 11) (.tuple #[(tcomp (q2 11) 0), .int .i64 y10.2])), (true, .val (Rep.slice (Rep.int .u8)) (tcomp (q2 11) 0) y10.1), (true, .val (Rep.slice (Rep.int .u8)) (q2 12) y10.1), (true, .val (Rep.slice (Rep.int .u8)) (q2 14) y10.1), (false, .ptr (Rep.slice Packet_.rep) (q1 6) x8), (false, .val (Rep.slice Packet_.rep) (q1 7) x8), (false, .val (Rep.slice (Rep.int .i64)) v1 a1), (true, .val (Rep.slice (Rep.slice (Rep.int .u8))) u12 s4.1), (false, .val (Rep.slice (Rep.slice Packet_.rep)) u13 s4.2.1)] ++ Γx) ([(true, .slice 3 (Rep.int .i64) u11 d1), (false, .box 51 Whole_.rep u23 y12.1), (false, .box 83 (Rep.iso (fun s : fragment_Assembler => (s.own, s.open_, ())) (Rep.prod (Rep.int .u8) (Rep.prod (Rep.raw (α := List fragment_open) u22) Rep.unit))) u14 y12.2.2.2), (false, .oval (oslice 92 6 (fun _ => fragment_open.orep)) u22 y12.2.2.2.open_), (true, .box 44 Packet_.rep u18 y11.1)] ++ Ωx) := h
              refine OpS.iown h .z Try.underlying33 ty3 rfl rfl rfl rfl e54 ?_
              exact ⟨undef, rfl, trivial, h⟩
             ·intro q4 w Γx Ωx h
              have h : St e w ([(false, .val Whole_.rep u21 y12.1), (true, .val Packet_.rep u19 y11.1), (true, .val Packet_.rep u17 y11.1), (false, .ptr (Rep.slice Packet_.rep) (q2 2) x10), (false, .val (Rep.slice Packet_.rep) (q2 3) x10), (false, .ptr Packet_.rep (q2 8) x12), (false, .val Packet_.rep (q2 9) x12), (true, .eqv (q2 10) (.tuple #[(tcomp (q2 10) 0), .int .i64 y10.2])), (true, .val (Rep.slice (Rep.int .u8)) (tcomp (q2 10) 0) y10.1), (true, .eqv (q2 11) (.tuple #[(tcomp (q2 11) 0), .int .i64 y10.2])), (true, .val (Rep.slice (Rep.int .u8)) (tcomp (q2 11) 0) y10.1), (true, .val (Rep.slice (Rep.int .u8)) (q2 12) y10.1), (true, .val (Rep.slice (Rep.int .u8)) (q2 14) y10.1), (false, .ptr (Rep.slice Packet_.rep) (q1 6) x8), (false, .val (Rep.slice Packet_.rep) (q1 7) x8), (false, .val (Rep.slice (Rep.int .i64)) v1 a1), (true, .val (Rep.slice (Rep.slice (Rep.int .u8))) u12 s4.1), (false, .val (Rep.slice (Rep.slice Packet_.rep)) u13 s4.2.1)] ++ Γx) ([(true, .slice 3 (Rep.int .i64) u11 d1), (false, .box 51 Whole_.rep u23 y12.1), (false, .box 83 (Rep.iso (fun s : fragment_Assembler => (s.own, s.open_, ())) (Rep.prod (Rep.int .u8) (Rep.prod (Rep.raw (α := List fragment_open) u22) Rep.unit))) u14 y12.2.2.2), (false, .oval (oslice 92 6 (fun _ => fragment_open.orep)) u22 y12.2.2.2.open_), (true, .box 44 Packet_.rep u18 y11.1)] ++ Ωx) := h
              refine OpS.loadOi h .z (idx_ne e54) PA.a (Get.arr e54) ty3 rfl rfl rfl ?_
              exact ⟨undef, rfl, trivial, h⟩
             ·intro q4 w Γx Ωx h
              refine OpS.mv rfl rfl rfl ?_
              exact ⟨undef, rfl, trivial, h⟩
             ·intro q4 w Γx Ωx h
              refine OpS.mv rfl rfl rfl ?_
              exact ⟨undef, rfl, trivial, h⟩
             ·intro q4 w Γx Ωx h
              refine OpS.iptr h Try.underlying75 ty27 rfl rfl rfl rfl (V.at (.s (.s (.s (.s (.s (.s (.s (.s (.s (.s (.s (.s (.s (.s (.s (.s (.s .z)))))))))))))))))) e55 (fun u h114 => ?_)
              exact ⟨u, rfl, trivial, h114⟩
             ·intro q4 w Γx Ωx h
              refine OpS.load h ty27 rfl rfl rfl .z (fun u h115 => ?_)
              exact ⟨u, rfl, trivial, h115⟩
             ·intro q4 w Γx Ωx h
              refine OpS.len h Try.underlying27 rfl rfl rfl (V.at .z) ?_
              exact ⟨undef, rfl, trivial, h⟩
             ·intro q4 w Γx Ωx h
              refine OpS.bin rfl rfl rfl rfl rfl ?_
              exact ⟨undef, rfl, trivial, h⟩
             ·intro q4 w Γx Ωx h
              refine OpS.neb Try.underlying4 rfl rfl rfl rfl ?_
              exact ⟨undef, rfl, trivial, h⟩
             ·intro q4 w Γx Ωx h
              refine OpS.pick rfl rfl rfl rfl ?_
              exact ⟨undef, rfl, trivial, h⟩
             have h116 : St e w [(false, .ptr (Rep.slice Packet_.rep) (q4 18) x26), (false, .val (Rep.slice Packet_.rep) (q4 19) x26), (false, .val Whole_.rep u21 y12.1), (true, .val Packet_.rep u19 y11.1), (true, .val Packet_.rep u17 y11.1), (false, .ptr (Rep.slice Packet_.rep) (q2 2) x10), (false, .val (Rep.slice Packet_.rep) (q2 3) x10), (false, .ptr Packet_.rep (q2 8) x12), (false, .val Packet_.rep (q2 9) x12), (true, .eqv (q2 10) (.tuple #[(tcomp (q2 10) 0), .int .i64 y10.2])), (true, .val (Rep.slice (Rep.int .u8)) (tcomp (q2 10) 0) y10.1), (true, .eqv (q2 11) (.tuple #[(tcomp (q2 11) 0), .int .i64 y10.2])), (true, .val (Rep.slice (Rep.int .u8)) (tcomp (q2 11) 0) y10.1), (true, .val (Rep.slice (Rep.int .u8)) (q2 12) y10.1), (true, .val (Rep.slice (Rep.int .u8)) (q2 14) y10.1), (false, .ptr (Rep.slice Packet_.rep) (q1 6) x8), (false, .val (Rep.slice Packet_.rep) (q1 7) x8), (false, .val (Rep.slice (Rep.int .i64)) v1 a1), (true, .val (Rep.slice (Rep.slice (Rep.int .u8))) u12 s4.1), (false, .val (Rep.slice (Rep.slice Packet_.rep)) u13 s4.2.1)] [(true, .slice 3 (Rep.int .i64) u11 d1), (false, .box 51 Whole_.rep u23 y12.1), (false, .box 83 (Rep.iso (fun s : fragment_Assembler => (s.own, s.open_, ())) (Rep.prod (Rep.int .u8) (Rep.prod (Rep.raw (α := List fragment_open) u22) Rep.unit))) u14 y12.2.2.2), (false, .oval (oslice 92 6 (fun _ => fragment_open.orep)) u22 y12.2.2.2.open_), (true, .box 44 Packet_.rep u18 y11.1)] := h
             refine RunL.nil ?_
             refine Run.slim [(175, .bool (y12.2.1 != (x25 == (x26.length : Int)))), (11, .int .i64 x16), (24, .bool y12.2.1), (23, u23), (1, v1), (6, u14), (8, .int .i64 x1), (9, u12), (10, u13), (16, u11), (17, .int .i64 s4.2.2.2.1), (18, .int .i64 s6)] ⟨rfl, rfl, rfl, rfl, rfl, rfl, rfl, rfl, rfl, rfl, rfl, rfl, trivial⟩ ?_
             refine Run.slim [(1, v1), (6, u14), (8, .int .i64 x1), (9, u12), (10, u13), (11, .int .i64 x16), (16, u11), (17, .int .i64 s4.2.2.2.1), (18, .int .i64 s6), (23, u23), (24, .bool y12.2.1), (175, .bool (y12.2.1 != (x25 == (x26.length : Int))))] ⟨rfl, rfl, rfl, rfl, rfl, rfl, rfl, rfl, rfl, rfl, rfl, rfl, trivial⟩ ?_
             exact hj4 (y12.2.1 != (x25 == (x26.length : Int))) _ _ ⟨rfl, (h116.facts (.atm (.s (.s (.s (.s (.s (.s (.s (.s (.s (.s (.s (.s (.s (.s (.s (.s (.s .z))))))))))))))))) (.atm (.s (.s (.s (.s (.s (.s (.s (.s (.s (.s (.s (.s (.s (.s (.s (.s (.s (.s .z)))))))))))))))))) (.atm (.s (.s (.s (.s (.s (.s (.s (.s (.s (.s (.s (.s (.s (.s (.s (.s (.s (.s (.s .z))))))))))))))))))) .nil)))).picks (.cons (.s (.s .z)) (.cons (.s .z) (.cons .z (.cons .z .nil))))⟩ hF
       ·
        refine Run.ite rfl hF (fun e56 hF => ?_) (fun e56 hF => ?_)
        ·
         refine Run.reg ?_
         refine op (OpS.mv rfl rfl rfl ?_)
         refine op (OpS.mv rfl rfl rfl ?_)
         obtain ⟨x27, e57, hF⟩ := bindP_use hF
         refine op (OpS.iptr h41 Try.underlying33 ty3 rfl rfl rfl rfl (V.at .z) e57 (fun u24 h117 => ?_))
         refine op (OpS.loadi h117 ty3 rfl rfl rfl .z ?_)
         refine op (OpS.mv rfl rfl rfl ?_)
         obtain ⟨y14, e58, hF⟩ := bindP_use hF
         refine op (OpS.callP h117 Try.func12 rfl rfl rfl rfl (vs := [.int .i64 x27, .int .i64 x1]) rfl (made_Mod_ok e58) .nil ?_)
         rintro _ w36 _ _ _ ⟨rfl, rfl, rfl, rfl⟩ h118
         have h119 := h118 rfl rfl
         simp only [List.cons_append, List.nil_append] at h119
         refine op (OpS.as rfl rfl rfl ?_)
         refine RunL.nil ?_
         refine Run.slim [(18, .int .i64 y14), (1, v1), (6, u14), (8, .int .i64 x1), (9, u12), (10, u13), (11, .int .i64 s4.2.2.1), (16, u11), (17, .int .i64 s4.2.2.2.1)] ⟨rfl, rfl, rfl, rfl, rfl, rfl, rfl, rfl, rfl, trivial⟩ ?_
         refine Run.slim [(1, v1), (6, u14), (8, .int .i64 x1), (9, u12), (10, u13), (11, .int .i64 s4.2.2.1), (16, u11), (17, .int .i64 s4.2.2.2.1), (18, .int .i64 y14)] ⟨rfl, rfl, rfl, rfl, rfl, rfl, rfl, rfl, rfl, trivial⟩ ?_
         exact hj3 (y14) _ _ ⟨rfl, (h119.facts (.atm (.s .z) (.atm (.s (.s .z)) (.atm (.s (.s (.s .z))) .nil)))).picks (.cons (.s .z) (.cons .z .nil))⟩ hF
        ·
         refine Run.skip ?_
         refine Run.slim [(1, v1), (6, u14), (8, .int .i64 x1), (9, u12), (10, u13), (11, .int .i64 s4.2.2.1), (16, u11), (17, .int .i64 s4.2.2.2.1), (18, .int .i64 0)] ⟨rfl, rfl, rfl, rfl, rfl, rfl, rfl, rfl, rfl, trivial⟩ ?_
         exact hj3 (0) _ _ ⟨rfl, (h41.facts (.atm .z (.atm (.s .z) (.atm (.s (.s .z)) .nil)))).picks (.cons (.s .z) (.cons .z .nil))⟩ hF
      ·
       refine Run.exit rfl ?_
       refine Run.seq ?_
       refine Run.reg ?_
       refine op (OpS.mv rfl rfl rfl ?_)
       obtain ⟨x28, e59, hF⟩ := bindP_use hF
       have h120 := St.unopt (h41.pick (.s .z)) e59
       obtain ⟨u25, h121⟩ := h120.unex
       have h122 := h121.unsep
       obtain ⟨y15, e60, hF⟩ := bindP_use hF
       have h123 := h122.front (.cons .z (.cons .z .nil))
       refine op (OpS.callO h123 Try.func27 rfl rfl rfl rfl (vs := [u14]) rfl (fragment_Assembler_Open_ok e60) rfl .nil ?_)
       rintro _ w37 _ _ _ ⟨rfl, rfl, rfl, rfl⟩ h124
       have h125 := h124
       simp only [List.cons_append, List.nil_append] at h125
       refine op (OpS.bin rfl rfl rfl rfl rfl ?_)
       refine op (OpS.mv rfl rfl rfl ?_)
       refine RunL.caseb hF (fun e61 hF => ?_) (fun e61 hF => ?_)
       ·
        obtain ⟨y16, e62, hF⟩ := bindP_use hF
        refine op (OpS.callP h125 Try.func11 rfl rfl rfl rfl (vs := []) rfl (law22_awake_ok e62) .nil ?_)
        rintro _ w38 _ _ _ ⟨rfl, rfl, rfl, rfl⟩ h126
        have h127 := h126 rfl rfl
        simp only [List.cons_append, List.nil_append] at h127
        refine op (OpS.pick rfl rfl rfl rfl ?_)
        refine op (OpS.as rfl rfl rfl ?_)
        refine RunL.nil ?_
        refine Run.slim [(4, .bool y16)] ⟨rfl, trivial⟩ ?_
        refine Run.retP rfl (.tmp rfl .nil) ?_
        cases hF
        exact Post.mk' ⟨rfl, rfl, rfl, rfl⟩ (h127.picks .nil) .nil
       ·
        refine op (OpS.pass rfl rfl rfl ?_)
        refine op (OpS.pick rfl rfl rfl rfl ?_)
        refine op (OpS.as rfl rfl rfl ?_)
        refine RunL.nil ?_
        refine Run.slim [(4, .bool false)] ⟨rfl, trivial⟩ ?_
        refine Run.retP rfl (.tmp rfl .nil) ?_
        cases hF
        exact Post.mk' ⟨rfl, rfl, rfl, rfl⟩ (h125.picks .nil) .nil
   ·
    refine RunL.caseb hF (fun e63 hF => ?_) (fun e63 hF => ?_)
    ·
     refine op (OpS.pass rfl rfl rfl ?_)
     refine op (OpS.pass rfl rfl rfl ?_)
     refine op (OpS.pick rfl rfl rfl rfl ?_)
     refine RunL.nil ?_
     refine Run.slim [(46, .bool true), (6, u2), (5, u1), (1, v1)] ⟨rfl, rfl, rfl, rfl, trivial⟩ ?_
     refine Run.slim [(1, v1), (5, u1), (6, u2), (46, .bool true)] ⟨rfl, rfl, rfl, rfl, trivial⟩ ?_
     exact hj2 (true) _ _ ⟨rfl, (h10.facts (.atm (.s .z) .nil)).picks (.cons (.s .z) (.cons .z .nil))⟩ hF
    ·
     refine op (OpS.mv rfl rfl rfl ?_)
     refine op (OpS.bin rfl rfl rfl rfl rfl ?_)
     refine op (OpS.pick rfl rfl rfl rfl ?_)
     refine RunL.nil ?_
     refine Run.slim [(46, .bool (y4.2 != 0)), (6, u2), (5, u1), (1, v1)] ⟨rfl, rfl, rfl, rfl, trivial⟩ ?_
     refine Run.slim [(1, v1), (5, u1), (6, u2), (46, .bool (y4.2 != 0))] ⟨rfl, rfl, rfl, rfl, trivial⟩ ?_
     exact hj2 (y4.2 != 0) _ _ ⟨rfl, (h10.facts (.atm (.s .z) .nil)).picks (.cons (.s .z) (.cons .z .nil))⟩ hF
 ·
  refine RunL.caseb hF (fun e64 hF => ?_) (fun e64 hF => ?_)
  ·
   refine op (OpS.pass rfl rfl rfl ?_)
   refine op (OpS.pass rfl rfl rfl ?_)
   refine op (OpS.pass rfl rfl rfl ?_)
   refine op (OpS.pick rfl rfl rfl rfl ?_)
   refine RunL.nil ?_
   refine Run.slim [(33, .bool true), (0, v0), (1, v1)] ⟨rfl, rfl, rfl, trivial⟩ ?_
   refine Run.slim [(0, v0), (1, v1), (33, .bool true)] ⟨rfl, rfl, rfl, trivial⟩ ?_
   exact hj1 (true) _ _ ⟨rfl, (h2.facts (.atm .z (.atm (.s .z) .nil))).picks .nil⟩ hF
  ·
   refine op (OpS.mv rfl rfl rfl ?_)
   refine op (OpS.len h2 Try.underlying33 rfl rfl rfl (V.at (.s .z)) ?_)
   refine op (OpS.bin rfl rfl rfl rfl rfl ?_)
   refine op (OpS.pick rfl rfl rfl rfl ?_)
   refine RunL.nil ?_
   refine Run.slim [(33, .bool (decide ((a1.length : Int) > 300))), (0, v0), (1, v1)] ⟨rfl, rfl, rfl, trivial⟩ ?_
   refine Run.slim [(0, v0), (1, v1), (33, .bool (decide ((a1.length : Int) > 300)))] ⟨rfl, rfl, rfl, trivial⟩ ?_
   exact hj1 (decide ((a1.length : Int) > 300)) _ _ ⟨rfl, (h2.facts (.atm .z (.atm (.s .z) .nil))).picks .nil⟩ hF
end Lift
