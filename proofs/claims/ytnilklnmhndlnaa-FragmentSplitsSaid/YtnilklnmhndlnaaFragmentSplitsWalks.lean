/- Each Go function computes its plain function. Written by lift.py. -/
import Derived.Test.YtnilklnmhndlnaaFragmentSplitsWalksA
set_option linter.unusedVariables false
set_option linter.unusedSimpArgs false
namespace Lift
open Go Go.Proofs
open RunL (op)
set_option maxHeartbeats 8000000 in
theorem law22_awake_ok {fuel : Nat}  {y : Bool} (hF : law22_awake fuel  = some y) {w : World} :
  Spec Try.prog 11 [].toArray w [] [] (fun v Γr Ωr Ωo => v = .bool y ∧ Γr = [] ∧ Ωr = [] ∧ Ωo = []) := by
 refine Spec.of (L := []) Try.func11 rfl trivial rfl (fun e h => ?_)
 unfold law22_awake at hF
 refine Run.seq ?_
 refine Run.reg ?_
 refine op (OpS.as rfl rfl rfl ?_)
 refine RunL.nil ?_
 refine Run.slim [] trivial ?_
 refine Run.seq ?_
 refine Run.reg ?_
 refine op (OpS.lit (r := (Rep.int .u8)) (f := true) h Try.underlying22 ti5 rfl rfl rfl rfl rfl (.cons rfl V.int (.cons rfl V.int (.cons rfl V.int (.cons rfl V.int (.cons rfl V.int .nil))))) rfl rfl (fun u1 w1 h1 => ?_))
 obtain ⟨y1, e1, hF⟩ := bindP_use hF
 have h2 := h1.front .nil
 refine op (OpS.callO h2 Try.func13 rfl rfl rfl rfl (vs := [.int .u8 9, .int .u8 10, .bool true, .int .i64 1, .int .i64 2, u1]) rfl (fragment_Split_ok e1) rfl (.cons (f := true) (V.at .z) .nil) ?_)
 rintro _ w2 _ _ _ ⟨u2, rfl, rfl, rfl, rfl⟩ h3
 have h4 := h3
 simp only [List.cons_append, List.nil_append] at h4
 refine op (OpS.mv rfl rfl rfl ?_)
 refine op (OpS.ext rfl rfl rfl rfl ?_)
 refine op (OpS.ext rfl rfl rfl rfl ?_)
 refine op (OpS.as rfl rfl rfl ?_)
 have h5 := (h4.pick .z).freeze
 refine op (OpS.as rfl rfl rfl ?_)
 refine RunL.nil ?_
 refine Run.slim [(2, .int .i64 y1.2), (1, u2)] ⟨rfl, rfl, trivial⟩ ?_
 refine Run.seq ?_
 refine Run.reg ?_
 obtain ⟨y2, e2, hF⟩ := bindP_use hF
 refine op (OpS.callP h5 Try.func17 rfl rfl rfl rfl (vs := [.int .u8 9]) rfl (fragment_New_ok e2) .nil ?_)
 rintro _ w3 _ _ _ ⟨u3, rfl, rfl, rfl, rfl⟩ h6
 have h7 := h6 rfl rfl
 simp only [List.cons_append, List.nil_append] at h7
 refine op (OpS.mv rfl rfl rfl ?_)
 refine op (OpS.ext rfl rfl rfl rfl ?_)
 refine op (OpS.ext rfl rfl rfl rfl ?_)
 refine op (OpS.as rfl rfl rfl ?_)
 refine op (OpS.as rfl rfl rfl ?_)
 refine RunL.nil ?_
 refine Run.slim [(4, .int .i64 y2.2), (3, u3), (2, .int .i64 y1.2), (1, u2)] ⟨rfl, rfl, rfl, rfl, trivial⟩ ?_
 refine Run.seq ?_
 refine Run.seq ?_
 refine Run.reg ?_
 refine op (OpS.mv rfl rfl rfl ?_)
 refine op (OpS.bin rfl rfl rfl rfl rfl ?_)
 refine op (OpS.mv rfl rfl rfl ?_)
 refine RunL.join (σ := Bool) (fun s_ L_ w_ => L_ = [(1, u2), (3, u3), (49, .bool s_)] ∧ St e w_ [(false, .val (Rep.slice Packet_.rep) u2 y1.1)] [(true, .opt (fun x_ => .ex fun v_ => .sep (.box 83 (Rep.iso (fun s : fragment_Assembler => (s.own, s.open_, ())) (Rep.prod (Rep.int .u8) (Rep.prod (Rep.raw (α := List fragment_open) v_) Rep.unit))) u3 x_) (.oval (oslice 92 6 (fun _ => fragment_open.orep)) v_ x_.open_)) u3 y2.1)]) hF (fun s1 _ w4 hI hF => ?_) (fun j1 hj1 hF => ?_)
 ·
  obtain ⟨rfl, h8⟩ := hI
  refine Run.ite rfl hF (fun e3 hF => ?_) (fun e3 hF => ?_)
  ·
   refine Run.seq ?_
   refine Run.reg ?_
   refine op (OpS.as rfl rfl rfl ?_)
   refine RunL.nil ?_
   refine Run.slim [(0, .bool false)] ⟨rfl, trivial⟩ ?_
   refine Run.retP rfl (.tmp rfl .nil) ?_
   cases hF
   exact Post.mk' ⟨rfl, rfl, rfl, rfl⟩ (h8.picks .nil) .nil
  ·
   refine Run.skip ?_
   refine Run.seq ?_
   refine Run.reg ?_
   refine op (OpS.mv rfl rfl rfl ?_)
   refine op (OpS.mv rfl rfl rfl ?_)
   obtain ⟨x1, e4, hF⟩ := bindP_use hF
   refine op (OpS.iptr h8 Try.underlying27 ty44 rfl rfl rfl rfl (V.at .z) e4 (fun u4 h9 => ?_))
   refine op (OpS.load h9 ty44 rfl rfl rfl .z (fun u5 h10 => ?_))
   obtain ⟨x2, e5, hF⟩ := bindP_use hF
   have h11 := St.unopt (h10.pick .z) e5
   obtain ⟨u6, h12⟩ := h11.unex
   have h13 := h12.unsep
   obtain ⟨y3, e6, hF⟩ := bindP_use hF
   have h14 := (h13.pick .z).weak
   have h15 := (h14.pick (.s .z)).weak
   have h16 := h15.front (.cons (.s .z) (.cons .z .nil))
   refine op (OpS.callO h16 Try.func24 rfl rfl rfl rfl (vs := [u3, u5]) rfl (fragment_Assembler_Accept_ok e6) rfl (.cons (f := false) (V.at .z) .nil) ?_)
   rintro _ w5 _ _ _ ⟨u7, u8, rfl, rfl, rfl, rfl⟩ h17
   have h18 := h17
   simp only [List.cons_append, List.nil_append] at h18
   refine op (OpS.mv rfl rfl rfl ?_)
   refine op (OpS.ext rfl rfl rfl rfl ?_)
   refine op (OpS.ext rfl rfl rfl rfl ?_)
   refine op (OpS.ext rfl rfl rfl rfl ?_)
   refine op (OpS.alloc h18 ti51 Whole_.zr rfl rfl (fun u9 w6 h19 => ?_))
   have h20 := (h19.pick .z).weak
   refine op (OpS.storeB (f' := false) h20 .z PA.z Put.id ty51 rfl rfl rfl (V.at .z) (.inr rfl) (fun w7 h21 => ?_))
   refine op (OpS.as rfl rfl rfl ?_)
   refine op (OpS.as rfl rfl rfl ?_)
   refine RunL.nil ?_
   refine Run.slim [(7, .int .i64 y3.2.2.1), (6, .bool y3.2.1), (1, u2), (3, u3)] ⟨rfl, rfl, rfl, rfl, trivial⟩ ?_
   refine Run.seq ?_
   refine Run.reg ?_
   refine op (OpS.mv rfl rfl rfl ?_)
   refine op (OpS.mv rfl rfl rfl ?_)
   obtain ⟨x3, e7, hF⟩ := bindP_use hF
   refine op (OpS.iptr h21 Try.underlying27 ty44 rfl rfl rfl rfl (V.at (.s (.s (.s .z)))) e7 (fun u10 h22 => ?_))
   refine op (OpS.load h22 ty44 rfl rfl rfl .z (fun u11 h23 => ?_))
   obtain ⟨y4, e8, hF⟩ := bindP_use hF
   have h24 := h23.front (.cons (.s .z) (.cons (.s .z) .nil))
   refine op (OpS.callO h24 Try.func24 rfl rfl rfl rfl (vs := [u3, u11]) rfl (fragment_Assembler_Accept_ok e8) rfl (.cons (f := false) (V.at .z) .nil) ?_)
   rintro _ w8 _ _ _ ⟨u12, u13, rfl, rfl, rfl, rfl⟩ h25
   have h26 := h25
   simp only [List.cons_append, List.nil_append] at h26
   refine op (OpS.mv rfl rfl rfl ?_)
   refine op (OpS.ext rfl rfl rfl rfl ?_)
   refine op (OpS.ext rfl rfl rfl rfl ?_)
   refine op (OpS.ext rfl rfl rfl rfl ?_)
   refine op (OpS.alloc h26 ti51 Whole_.zr rfl rfl (fun u14 w9 h27 => ?_))
   have h28 := (h27.pick .z).weak
   refine op (OpS.storeB (f' := false) h28 .z PA.z Put.id ty51 rfl rfl rfl (V.at .z) (.inr rfl) (fun w10 h29 => ?_))
   refine op (OpS.as rfl rfl rfl ?_)
   refine op (OpS.as rfl rfl rfl ?_)
   refine RunL.nil ?_
   refine Run.slim [(10, .int .i64 y4.2.2.1), (9, .bool y4.2.1), (7, .int .i64 y3.2.2.1), (6, .bool y3.2.1), (3, u3)] ⟨rfl, rfl, rfl, rfl, rfl, trivial⟩ ?_
   refine Run.seq ?_
   refine Run.reg ?_
   refine op (OpS.mv rfl rfl rfl ?_)
   refine op (OpS.bin rfl rfl rfl rfl rfl ?_)
   refine op (OpS.mv rfl rfl rfl ?_)
   refine RunL.caseb hF (fun e9 hF => ?_) (fun e9 hF => ?_)
   ·
    refine op (OpS.mv rfl rfl rfl ?_)
    refine op (OpS.not rfl rfl rfl ?_)
    refine op (OpS.pick rfl rfl rfl rfl ?_)
    refine op (OpS.mv rfl rfl rfl ?_)
    refine RunL.caseb hF (fun e10 hF => ?_) (fun e10 hF => ?_)
    ·
     refine op (OpS.mv rfl rfl rfl ?_)
     refine op (OpS.bin rfl rfl rfl rfl rfl ?_)
     refine op (OpS.pick rfl rfl rfl rfl ?_)
     refine op (OpS.mv rfl rfl rfl ?_)
     refine RunL.caseb hF (fun e11 hF => ?_) (fun e11 hF => ?_)
     ·
      refine op (OpS.mv rfl rfl rfl ?_)
      refine op (OpS.not rfl rfl rfl ?_)
      refine op (OpS.pick rfl rfl rfl rfl ?_)
      refine op (OpS.mv rfl rfl rfl ?_)
      refine RunL.caseb hF (fun e12 hF => ?_) (fun e12 hF => ?_)
      ·
       refine op (OpS.mv rfl rfl rfl ?_)
       obtain ⟨y5, e13, hF⟩ := bindP_use hF
       have h30 := h29.front (.cons (.s .z) (.cons (.s .z) .nil))
       refine op (OpS.callO h30 Try.func27 rfl rfl rfl rfl (vs := [u3]) rfl (fragment_Assembler_Open_ok e13) rfl .nil ?_)
       rintro _ w11 _ _ _ ⟨rfl, rfl, rfl, rfl⟩ h31
       have h32 := h31
       simp only [List.cons_append, List.nil_append] at h32
       refine op (OpS.bin rfl rfl rfl rfl rfl ?_)
       refine op (OpS.pick rfl rfl rfl rfl ?_)
       refine op (OpS.as rfl rfl rfl ?_)
       obtain ⟨x4, e14, hF⟩ := letP_use hF
       refine RunL.nameb e14 ?_
       refine RunL.nil ?_
       refine Run.slim [(0, .bool x4)] ⟨rfl, trivial⟩ ?_
       refine Run.retP rfl (.tmp rfl .nil) ?_
       cases hF
       exact Post.mk' ⟨rfl, rfl, rfl, rfl⟩ (h32.picks .nil) .nil
      ·
       refine op (OpS.pass rfl rfl rfl ?_)
       refine op (OpS.pass rfl rfl rfl ?_)
       refine op (OpS.pass rfl rfl rfl ?_)
       refine op (OpS.pick rfl rfl rfl rfl ?_)
       refine op (OpS.as rfl rfl rfl ?_)
       refine RunL.nil ?_
       refine Run.slim [(0, .bool false)] ⟨rfl, trivial⟩ ?_
       refine Run.retP rfl (.tmp rfl .nil) ?_
       cases hF
       exact Post.mk' ⟨rfl, rfl, rfl, rfl⟩ (h29.picks .nil) .nil
     ·
      refine op (OpS.pass rfl rfl rfl ?_)
      refine op (OpS.pass rfl rfl rfl ?_)
      refine op (OpS.pick rfl rfl rfl rfl ?_)
      refine op (OpS.mv rfl rfl rfl ?_)
      refine op (OpS.pass rfl rfl rfl ?_)
      refine op (OpS.pass rfl rfl rfl ?_)
      refine op (OpS.pass rfl rfl rfl ?_)
      refine op (OpS.pick rfl rfl rfl rfl ?_)
      refine op (OpS.as rfl rfl rfl ?_)
      refine RunL.nil ?_
      refine Run.slim [(0, .bool false)] ⟨rfl, trivial⟩ ?_
      refine Run.retP rfl (.tmp rfl .nil) ?_
      cases hF
      exact Post.mk' ⟨rfl, rfl, rfl, rfl⟩ (h29.picks .nil) .nil
    ·
     refine op (OpS.pass rfl rfl rfl ?_)
     refine op (OpS.pass rfl rfl rfl ?_)
     refine op (OpS.pick rfl rfl rfl rfl ?_)
     refine op (OpS.mv rfl rfl rfl ?_)
     refine op (OpS.pass rfl rfl rfl ?_)
     refine op (OpS.pass rfl rfl rfl ?_)
     refine op (OpS.pick rfl rfl rfl rfl ?_)
     refine op (OpS.mv rfl rfl rfl ?_)
     refine op (OpS.pass rfl rfl rfl ?_)
     refine op (OpS.pass rfl rfl rfl ?_)
     refine op (OpS.pass rfl rfl rfl ?_)
     refine op (OpS.pick rfl rfl rfl rfl ?_)
     refine op (OpS.as rfl rfl rfl ?_)
     refine RunL.nil ?_
     refine Run.slim [(0, .bool false)] ⟨rfl, trivial⟩ ?_
     refine Run.retP rfl (.tmp rfl .nil) ?_
     cases hF
     exact Post.mk' ⟨rfl, rfl, rfl, rfl⟩ (h29.picks .nil) .nil
   ·
    refine op (OpS.pass rfl rfl rfl ?_)
    refine op (OpS.pass rfl rfl rfl ?_)
    refine op (OpS.pick rfl rfl rfl rfl ?_)
    refine op (OpS.mv rfl rfl rfl ?_)
    refine op (OpS.pass rfl rfl rfl ?_)
    refine op (OpS.pass rfl rfl rfl ?_)
    refine op (OpS.pick rfl rfl rfl rfl ?_)
    refine op (OpS.mv rfl rfl rfl ?_)
    refine op (OpS.pass rfl rfl rfl ?_)
    refine op (OpS.pass rfl rfl rfl ?_)
    refine op (OpS.pick rfl rfl rfl rfl ?_)
    refine op (OpS.mv rfl rfl rfl ?_)
    refine op (OpS.pass rfl rfl rfl ?_)
    refine op (OpS.pass rfl rfl rfl ?_)
    refine op (OpS.pass rfl rfl rfl ?_)
    refine op (OpS.pick rfl rfl rfl rfl ?_)
    refine op (OpS.as rfl rfl rfl ?_)
    refine RunL.nil ?_
    refine Run.slim [(0, .bool false)] ⟨rfl, trivial⟩ ?_
    refine Run.retP rfl (.tmp rfl .nil) ?_
    cases hF
    exact Post.mk' ⟨rfl, rfl, rfl, rfl⟩ (h29.picks .nil) .nil
 ·
  refine RunL.caseb hF (fun e15 hF => ?_) (fun e15 hF => ?_)
  ·
   refine op (OpS.pass rfl rfl rfl ?_)
   refine op (OpS.pass rfl rfl rfl ?_)
   refine op (OpS.pick rfl rfl rfl rfl ?_)
   refine op (OpS.mv rfl rfl rfl ?_)
   refine op (OpS.pass rfl rfl rfl ?_)
   refine op (OpS.pass rfl rfl rfl ?_)
   refine op (OpS.pick rfl rfl rfl rfl ?_)
   refine op (OpS.mv rfl rfl rfl ?_)
   refine op (OpS.pass rfl rfl rfl ?_)
   refine op (OpS.pass rfl rfl rfl ?_)
   refine op (OpS.pass rfl rfl rfl ?_)
   refine op (OpS.pick rfl rfl rfl rfl ?_)
   refine op (OpS.mv rfl rfl rfl ?_)
   refine op (OpS.pass rfl rfl rfl ?_)
   refine op (OpS.pass rfl rfl rfl ?_)
   refine op (OpS.pass rfl rfl rfl ?_)
   refine op (OpS.pass rfl rfl rfl ?_)
   refine op (OpS.pass rfl rfl rfl ?_)
   refine op (OpS.pass rfl rfl rfl ?_)
   refine op (OpS.pick rfl rfl rfl rfl ?_)
   refine op (OpS.mv rfl rfl rfl ?_)
   refine op (OpS.pass rfl rfl rfl ?_)
   refine op (OpS.pass rfl rfl rfl ?_)
   refine op (OpS.pass rfl rfl rfl ?_)
   refine op (OpS.pass rfl rfl rfl ?_)
   refine op (OpS.pass rfl rfl rfl ?_)
   refine op (OpS.pick rfl rfl rfl rfl ?_)
   refine RunL.nil ?_
   refine Run.slim [(49, .bool true), (3, u3), (1, u2)] ⟨rfl, rfl, rfl, trivial⟩ ?_
   refine Run.slim [(1, u2), (3, u3), (49, .bool true)] ⟨rfl, rfl, rfl, trivial⟩ ?_
   exact hj1 (true) _ _ ⟨rfl, (h7.facts (.atm .z .nil)).picks (.cons .z .nil)⟩ hF
  ·
   refine op (OpS.mv rfl rfl rfl ?_)
   refine op (OpS.bin rfl rfl rfl rfl rfl ?_)
   refine op (OpS.pick rfl rfl rfl rfl ?_)
   refine op (OpS.mv rfl rfl rfl ?_)
   refine RunL.caseb hF (fun e16 hF => ?_) (fun e16 hF => ?_)
   ·
    refine op (OpS.pass rfl rfl rfl ?_)
    refine op (OpS.pass rfl rfl rfl ?_)
    refine op (OpS.pick rfl rfl rfl rfl ?_)
    refine op (OpS.mv rfl rfl rfl ?_)
    refine op (OpS.pass rfl rfl rfl ?_)
    refine op (OpS.pass rfl rfl rfl ?_)
    refine op (OpS.pass rfl rfl rfl ?_)
    refine op (OpS.pick rfl rfl rfl rfl ?_)
    refine op (OpS.mv rfl rfl rfl ?_)
    refine op (OpS.pass rfl rfl rfl ?_)
    refine op (OpS.pass rfl rfl rfl ?_)
    refine op (OpS.pass rfl rfl rfl ?_)
    refine op (OpS.pass rfl rfl rfl ?_)
    refine op (OpS.pass rfl rfl rfl ?_)
    refine op (OpS.pass rfl rfl rfl ?_)
    refine op (OpS.pick rfl rfl rfl rfl ?_)
    refine op (OpS.mv rfl rfl rfl ?_)
    refine op (OpS.pass rfl rfl rfl ?_)
    refine op (OpS.pass rfl rfl rfl ?_)
    refine op (OpS.pass rfl rfl rfl ?_)
    refine op (OpS.pass rfl rfl rfl ?_)
    refine op (OpS.pass rfl rfl rfl ?_)
    refine op (OpS.pick rfl rfl rfl rfl ?_)
    refine RunL.nil ?_
    refine Run.slim [(49, .bool true), (3, u3), (1, u2)] ⟨rfl, rfl, rfl, trivial⟩ ?_
    refine Run.slim [(1, u2), (3, u3), (49, .bool true)] ⟨rfl, rfl, rfl, trivial⟩ ?_
    exact hj1 (true) _ _ ⟨rfl, (h7.facts (.atm .z .nil)).picks (.cons .z .nil)⟩ hF
   ·
    refine op (OpS.mv rfl rfl rfl ?_)
    refine op (OpS.onilE h7 .z (fun _ G_ S_ w_ h_ => ptr_one1 G_ S_ w_ h_) Try.underlying35 rfl rfl rfl rfl ?_)
    refine op (OpS.pick rfl rfl rfl rfl ?_)
    refine op (OpS.mv rfl rfl rfl ?_)
    refine RunL.caseb hF (fun e17 hF => ?_) (fun e17 hF => ?_)
    ·
     refine op (OpS.pass rfl rfl rfl ?_)
     refine op (OpS.pass rfl rfl rfl ?_)
     refine op (OpS.pass rfl rfl rfl ?_)
     refine op (OpS.pick rfl rfl rfl rfl ?_)
     refine op (OpS.mv rfl rfl rfl ?_)
     refine op (OpS.pass rfl rfl rfl ?_)
     refine op (OpS.pass rfl rfl rfl ?_)
     refine op (OpS.pass rfl rfl rfl ?_)
     refine op (OpS.pass rfl rfl rfl ?_)
     refine op (OpS.pass rfl rfl rfl ?_)
     refine op (OpS.pass rfl rfl rfl ?_)
     refine op (OpS.pick rfl rfl rfl rfl ?_)
     refine op (OpS.mv rfl rfl rfl ?_)
     refine op (OpS.pass rfl rfl rfl ?_)
     refine op (OpS.pass rfl rfl rfl ?_)
     refine op (OpS.pass rfl rfl rfl ?_)
     refine op (OpS.pass rfl rfl rfl ?_)
     refine op (OpS.pass rfl rfl rfl ?_)
     refine op (OpS.pick rfl rfl rfl rfl ?_)
     refine RunL.nil ?_
     refine Run.slim [(49, .bool true), (3, u3), (1, u2)] ⟨rfl, rfl, rfl, trivial⟩ ?_
     refine Run.slim [(1, u2), (3, u3), (49, .bool true)] ⟨rfl, rfl, rfl, trivial⟩ ?_
     exact hj1 (true) _ _ ⟨rfl, (h7.facts (.atm .z .nil)).picks (.cons .z .nil)⟩ hF
    ·
     refine op (OpS.mv rfl rfl rfl ?_)
     refine op (OpS.len h7 Try.underlying27 rfl rfl rfl (V.at .z) ?_)
     refine op (OpS.bin rfl rfl rfl rfl rfl ?_)
     refine op (OpS.pick rfl rfl rfl rfl ?_)
     refine op (OpS.mv rfl rfl rfl ?_)
     refine RunL.caseb hF (fun e18 hF => ?_) (fun e18 hF => ?_)
     ·
      refine op (OpS.pass rfl rfl rfl ?_)
      refine op (OpS.pass rfl rfl rfl ?_)
      refine op (OpS.pass rfl rfl rfl ?_)
      refine op (OpS.pass rfl rfl rfl ?_)
      refine op (OpS.pass rfl rfl rfl ?_)
      refine op (OpS.pass rfl rfl rfl ?_)
      refine op (OpS.pick rfl rfl rfl rfl ?_)
      refine op (OpS.mv rfl rfl rfl ?_)
      refine op (OpS.pass rfl rfl rfl ?_)
      refine op (OpS.pass rfl rfl rfl ?_)
      refine op (OpS.pass rfl rfl rfl ?_)
      refine op (OpS.pass rfl rfl rfl ?_)
      refine op (OpS.pass rfl rfl rfl ?_)
      refine op (OpS.pick rfl rfl rfl rfl ?_)
      refine RunL.nil ?_
      refine Run.slim [(49, .bool true), (3, u3), (1, u2)] ⟨rfl, rfl, rfl, trivial⟩ ?_
      refine Run.slim [(1, u2), (3, u3), (49, .bool true)] ⟨rfl, rfl, rfl, trivial⟩ ?_
      exact hj1 (true) _ _ ⟨rfl, (h7.facts (.atm .z .nil)).picks (.cons .z .nil)⟩ hF
     ·
      refine op (OpS.mv rfl rfl rfl ?_)
      obtain ⟨x5, e19, hF⟩ := bindP_use hF
      refine op (OpS.iptr h7 Try.underlying27 ty44 rfl rfl rfl rfl (V.at .z) e19 (fun u15 h33 => ?_))
      refine op (OpS.fptr h33 fa44_7 Packet_.f7 rfl rfl rfl .z (fun u16 h34 => ?_))
      refine op (OpS.load h34 ty22 rfl rfl rfl .z (fun u17 h35 => ?_))
      refine op (OpS.len h35 Try.underlying22 rfl rfl rfl (V.at .z) ?_)
      refine op (OpS.bin rfl rfl rfl rfl rfl ?_)
      refine op (OpS.pick rfl rfl rfl rfl ?_)
      refine op (OpS.mv rfl rfl rfl ?_)
      refine RunL.caseb hF (fun e20 hF => ?_) (fun e20 hF => ?_)
      ·
       refine op (OpS.pass rfl rfl rfl ?_)
       refine op (OpS.pass rfl rfl rfl ?_)
       refine op (OpS.pass rfl rfl rfl ?_)
       refine op (OpS.pass rfl rfl rfl ?_)
       refine op (OpS.pass rfl rfl rfl ?_)
       refine op (OpS.pick rfl rfl rfl rfl ?_)
       refine RunL.nil ?_
       refine Run.slim [(49, .bool true), (3, u3), (1, u2)] ⟨rfl, rfl, rfl, trivial⟩ ?_
       refine Run.slim [(1, u2), (3, u3), (49, .bool true)] ⟨rfl, rfl, rfl, trivial⟩ ?_
       exact hj1 (true) _ _ ⟨rfl, (h35.facts (.atm (.s (.s (.s .z))) .nil)).picks (.cons .z .nil)⟩ hF
      ·
       refine op (OpS.mv rfl rfl rfl ?_)
       obtain ⟨x6, e21, hF⟩ := bindP_use hF
       refine op (OpS.iptr h35 Try.underlying27 ty44 rfl rfl rfl rfl (V.at (.s (.s (.s .z)))) e21 (fun u18 h36 => ?_))
       refine op (OpS.fptr h36 fa44_4 Packet_.f4 rfl rfl rfl .z (fun u19 h37 => ?_))
       refine op (OpS.loadi h37 ty3 rfl rfl rfl .z ?_)
       refine op (OpS.bin rfl rfl rfl rfl rfl ?_)
       refine op (OpS.pick rfl rfl rfl rfl ?_)
       refine RunL.nil ?_
       refine Run.slim [(49, .bool (x6.Sequence != 2)), (3, u3), (1, u2)] ⟨rfl, rfl, rfl, trivial⟩ ?_
       refine Run.slim [(1, u2), (3, u3), (49, .bool (x6.Sequence != 2))] ⟨rfl, rfl, rfl, trivial⟩ ?_
       exact hj1 (x6.Sequence != 2) _ _ ⟨rfl, (h37.facts (.atm (.s (.s (.s (.s (.s .z))))) .nil)).picks (.cons .z .nil)⟩ hF
theorem made_Mod_ok {fuel : Nat} {a0 : Int} {a1 : Int} {y : Int} (hF : made_Mod fuel a0 a1 = some y) {w : World} :
  Spec Try.prog 12 [.int .i64 a0, .int .i64 a1].toArray w [] [] (fun v Γr Ωr Ωo => v = .int .i64 y ∧ Γr = [] ∧ Ωr = [] ∧ Ωo = []) := by
 refine Spec.of (L := [(0, .int .i64 a0), (1, .int .i64 a1)]) Try.func12 rfl ⟨rfl, rfl, trivial⟩ rfl (fun e h => ?_)
 unfold made_Mod at hF
 refine Run.seq ?_
 refine Run.reg ?_
 refine op (OpS.as rfl rfl rfl ?_)
 refine RunL.nil ?_
 refine Run.slim [(0, .int .i64 a0), (1, .int .i64 a1)] ⟨rfl, rfl, trivial⟩ ?_
 refine Run.seq ?_
 refine Run.reg ?_
 refine op (OpS.mv rfl rfl rfl ?_)
 refine op (OpS.mv rfl rfl rfl ?_)
 obtain ⟨e1, hF⟩ := chk_use hF
 refine op (OpS.rem rfl rfl rfl rfl e1 ?_)
 refine op (OpS.as rfl rfl rfl ?_)
 refine RunL.nil ?_
 refine Run.slim [(0, .int .i64 (Int.tmod a0 a1)), (1, .int .i64 a1)] ⟨rfl, rfl, trivial⟩ ?_
 refine Run.seq ?_
 refine Run.seq ?_
 refine Run.reg ?_
 refine op (OpS.mv rfl rfl rfl ?_)
 refine op (OpS.bin rfl rfl rfl rfl rfl ?_)
 refine RunL.nil ?_
 refine Run.slim [(9, .bool (decide ((Int.tmod a0 a1) < 0))), (0, .int .i64 (Int.tmod a0 a1)), (1, .int .i64 a1)] ⟨rfl, rfl, rfl, trivial⟩ ?_
 refine Run.ite rfl hF (fun e2 hF => ?_) (fun e2 hF => ?_)
 ·
  refine Run.reg ?_
  refine op (OpS.mv rfl rfl rfl ?_)
  refine op (OpS.mv rfl rfl rfl ?_)
  refine op (OpS.bin rfl rfl rfl rfl rfl ?_)
  refine op (OpS.as rfl rfl rfl ?_)
  obtain ⟨x1, e3, hF⟩ := letP_use hF
  refine RunL.name e3 ?_
  refine RunL.nil ?_
  refine Run.slim [(0, .int .i64 x1)] ⟨rfl, trivial⟩ ?_
  refine Run.seq ?_
  refine Run.reg ?_
  refine op (OpS.mv rfl rfl rfl ?_)
  refine op (OpS.as rfl rfl rfl ?_)
  refine RunL.nil ?_
  refine Run.slim [(4, .int .i64 x1)] ⟨rfl, trivial⟩ ?_
  refine Run.retP rfl (.tmp rfl .nil) ?_
  cases hF
  exact Post.mk' ⟨rfl, rfl, rfl, rfl⟩ (h.picks .nil) .nil
 ·
  refine Run.skip ?_
  refine Run.seq ?_
  refine Run.reg ?_
  refine op (OpS.mv rfl rfl rfl ?_)
  refine op (OpS.as rfl rfl rfl ?_)
  refine RunL.nil ?_
  refine Run.slim [(4, .int .i64 (Int.tmod a0 a1))] ⟨rfl, trivial⟩ ?_
  refine Run.retP rfl (.tmp rfl .nil) ?_
  cases hF
  exact Post.mk' ⟨rfl, rfl, rfl, rfl⟩ (h.picks .nil) .nil
theorem ref22_Endpoint_ok {fuel : Nat} {a0 : Int} {y : Bool} (hF : ref22_Endpoint fuel a0 = some y) {w : World} :
  Spec Try.prog 41 [.int .u8 a0].toArray w [] [] (fun v Γr Ωr Ωo => v = .bool y ∧ Γr = [] ∧ Ωr = [] ∧ Ωo = []) := by
 refine Spec.of (L := [(0, .int .u8 a0)]) Try.func41 rfl ⟨rfl, trivial⟩ rfl (fun e h => ?_)
 unfold ref22_Endpoint at hF
 refine Run.seq ?_
 refine Run.reg ?_
 refine op (OpS.as rfl rfl rfl ?_)
 refine RunL.nil ?_
 refine Run.slim [(0, .int .u8 a0)] ⟨rfl, trivial⟩ ?_
 refine Run.seq ?_
 refine Run.reg ?_
 refine op (OpS.mv rfl rfl rfl ?_)
 refine op (OpS.bin rfl rfl rfl rfl rfl ?_)
 refine op (OpS.mv rfl rfl rfl ?_)
 refine RunL.caseb hF (fun e1 hF => ?_) (fun e1 hF => ?_)
 ·
  refine op (OpS.mv rfl rfl rfl ?_)
  refine op (OpS.bin rfl rfl rfl rfl rfl ?_)
  refine op (OpS.pick rfl rfl rfl rfl ?_)
  refine op (OpS.as rfl rfl rfl ?_)
  obtain ⟨x1, e2, hF⟩ := letP_use hF
  refine RunL.nameb e2 ?_
  refine RunL.nil ?_
  refine Run.slim [(2, .bool x1)] ⟨rfl, trivial⟩ ?_
  refine Run.retP rfl (.tmp rfl .nil) ?_
  cases hF
  exact Post.mk' ⟨rfl, rfl, rfl, rfl⟩ (h.picks .nil) .nil
 ·
  refine op (OpS.pass rfl rfl rfl ?_)
  refine op (OpS.pass rfl rfl rfl ?_)
  refine op (OpS.pick rfl rfl rfl rfl ?_)
  refine op (OpS.as rfl rfl rfl ?_)
  refine RunL.nil ?_
  refine Run.slim [(2, .bool false)] ⟨rfl, trivial⟩ ?_
  refine Run.retP rfl (.tmp rfl .nil) ?_
  cases hF
  exact Post.mk' ⟨rfl, rfl, rfl, rfl⟩ (h.picks .nil) .nil
theorem ref01_Copy_ok {fuel : Nat} {a0 : List Int} {y : (List Int)} (hF : ref01_Copy fuel a0 = some y) {w : World} {v0 : Value} :
  Spec Try.prog 42 [v0].toArray w [(false, .val (Rep.slice (Rep.int .u8)) v0 a0)] [] (fun v Γr Ωr Ωo => ∃ u0 : Value, v = u0 ∧ Γr = [] ∧ Ωr = [(true, (.slice 5 (Rep.int .u8) u0 y))] ∧ Ωo = []) := by
 refine Spec.of (L := [(0, v0)]) Try.func42 rfl ⟨rfl, trivial⟩ rfl (fun e h => ?_)
 unfold ref01_Copy at hF
 refine Run.seq ?_
 refine Run.reg ?_
 refine op (OpS.as rfl rfl rfl ?_)
 refine RunL.nil ?_
 refine Run.slim [(0, v0)] ⟨rfl, trivial⟩ ?_
 refine Run.seq ?_
 refine Run.reg ?_
 refine op (OpS.as rfl rfl rfl ?_)
 refine RunL.nil ?_
 refine Run.seq ?_
 refine Run.seq ?_
 refine Run.reg ?_
 refine op (OpS.as rfl rfl rfl ?_)
 refine RunL.nil ?_
 refine Run.block ?_
 have h1 := St.nil 5 (Rep.int .u8) h
 refine Run.slim [(0, v0), (3, (.slice none 0 0)), (4, .int .i64 0)] ⟨rfl, rfl, rfl, trivial⟩ ?_
 refine Run.loopP (σ := (Int × (List Int))) (fun s_ L_ w_ => ∃ u0_ : Value, L_ = [(0, v0), (3, u0_), (4, .int .i64 s_.1)] ∧ St e w_ [(false, .val (Rep.slice (Rep.int .u8)) v0 a0)] [(true, .slice 5 (Rep.int .u8) u0_ s_.2)]) hF ⟨(.slice none 0 0), rfl, (h1.facts (.atm .z .nil)).picks (.cons .z .nil)⟩ (fun k1 hk1 s1 _ w1 hI hF => ?_)
 obtain ⟨u1, rfl, h2⟩ := hI
 refine Run.seq ?_
 refine Run.seq ?_
 refine Run.reg ?_
 refine op (OpS.mv rfl rfl rfl ?_)
 refine op (OpS.mv rfl rfl rfl ?_)
 refine op (OpS.len h2 Try.underlying22 rfl rfl rfl (V.at .z) ?_)
 refine op (OpS.bin rfl rfl rfl rfl rfl ?_)
 refine RunL.nil ?_
 refine Run.slim [(8, .bool (decide (s1.1 < (a0.length : Int)))), (0, v0), (3, u1), (4, .int .i64 s1.1)] ⟨rfl, rfl, rfl, rfl, trivial⟩ ?_
 refine Run.ite rfl hF (fun e1 hF => ?_) (fun e1 hF => ?_)
 ·
  refine Run.skip ?_
  refine Run.seq ?_
  refine Run.block ?_
  refine Run.reg ?_
  refine op (OpS.mv rfl rfl rfl ?_)
  refine op (OpS.mv rfl rfl rfl ?_)
  refine op (OpS.mv rfl rfl rfl ?_)
  obtain ⟨x1, e2, hF⟩ := bindP_use hF
  refine op (OpS.iptr h2 Try.underlying22 ty5 rfl rfl rfl rfl (V.at .z) e2 (fun u2 h3 => ?_))
  refine op (OpS.loadi h3 ty5 rfl rfl rfl .z ?_)
  refine op (OpS.lit (r := (Rep.int .u8)) (f := true) h3 Try.underlying22 ti5 rfl rfl rfl rfl rfl (.cons rfl V.int .nil) rfl rfl (fun u3 w2 h4 => ?_))
  obtain ⟨x2, e3, hF⟩ := bindP_use hF
  refine op (OpS.app (f' := true) h4 .z Try.underlying22 ti5 rfl rfl rfl rfl rfl rfl rfl (V.at .z) (.inr Pure.int) e3 (fun u4 w3 h5 => ?_))
  refine op (OpS.as rfl rfl rfl ?_)
  refine RunL.nil ?_
  refine Run.slim [(3, u4), (0, v0), (4, .int .i64 s1.1)] ⟨rfl, rfl, rfl, trivial⟩ ?_
  refine Run.endBlock ?_
  refine Run.reg ?_
  refine op (OpS.mv rfl rfl rfl ?_)
  refine op (OpS.bin rfl rfl rfl rfl rfl ?_)
  refine op (OpS.as rfl rfl rfl ?_)
  obtain ⟨x3, e4, hF⟩ := letP_use hF
  refine RunL.name e4 ?_
  refine RunL.nil ?_
  refine Run.slim [(4, .int .i64 x3), (3, u4), (0, v0)] ⟨rfl, rfl, rfl, trivial⟩ ?_
  refine Run.slim [(0, v0), (3, u4), (4, .int .i64 x3)] ⟨rfl, rfl, rfl, trivial⟩ ?_
  exact hk1 (x3, x2) _ _ ⟨u4, rfl, (h5.facts (.atm (.s (.s .z)) .nil)).picks (.cons .z .nil)⟩ hF
 ·
  refine Run.exit rfl ?_
  refine Run.seq ?_
  refine Run.reg ?_
  refine op (OpS.mv rfl rfl rfl ?_)
  refine op (OpS.as rfl rfl rfl ?_)
  refine RunL.nil ?_
  refine Run.slim [(2, u1)] ⟨rfl, trivial⟩ ?_
  refine Run.retP rfl (.tmp rfl .nil) ?_
  cases hF
  exact Post.mk' ⟨u1, rfl, rfl, rfl, rfl⟩ (h2.picks (.cons .z .nil)) .nil
set_option maxHeartbeats 8000000 in
theorem ref22_Split_ok {fuel : Nat} {a0 : Int} {a1 : Int} {a2 : Bool} {a3 : Int} {a4 : Int} {a5 : List Int} {y : (List Packet_) × Int} (hF : ref22_Split fuel a0 a1 a2 a3 a4 a5 = some y) {w : World} {v5 : Value} :
  Spec Try.prog 14 [.int .u8 a0, .int .u8 a1, .bool a2, .int .i64 a3, .int .i64 a4, v5].toArray w [(false, .val (Rep.slice (Rep.int .u8)) v5 a5)] [] (fun v Γr Ωr Ωo => ∃ u0 : Value, v = .tuple #[u0, .int .i64 y.2] ∧ Γr = [] ∧ Ωr = [(true, (.slice 44 Packet_.rep u0 y.1))] ∧ Ωo = []) := by
 refine Spec.of (L := [(0, .int .u8 a0), (1, .int .u8 a1), (2, .bool a2), (3, .int .i64 a3), (4, .int .i64 a4), (5, v5)]) Try.func14 rfl ⟨rfl, rfl, rfl, rfl, rfl, rfl, trivial⟩ rfl (fun e h => ?_)
 unfold ref22_Split at hF
 refine Run.seq ?_
 refine Run.reg ?_
 refine op (OpS.as rfl rfl rfl ?_)
 refine op (OpS.as rfl rfl rfl ?_)
 refine RunL.nil ?_
 refine Run.slim [(0, .int .u8 a0), (1, .int .u8 a1), (2, .bool a2), (3, .int .i64 a3), (4, .int .i64 a4), (5, v5)] ⟨rfl, rfl, rfl, rfl, rfl, rfl, trivial⟩ ?_
 refine Run.seq ?_
 refine Run.seq ?_
 refine Run.reg ?_
 refine op (OpS.mv rfl rfl rfl ?_)
 obtain ⟨y1, e1, hF⟩ := bindP_use hF
 refine op (OpS.callP h Try.func41 rfl rfl rfl rfl (vs := [.int .u8 a0]) rfl (ref22_Endpoint_ok e1) .nil ?_)
 rintro _ w1 _ _ _ ⟨rfl, rfl, rfl, rfl⟩ h1
 have h2 := h1 rfl rfl
 simp only [List.cons_append, List.nil_append] at h2
 refine op (OpS.not rfl rfl rfl ?_)
 refine op (OpS.mv rfl rfl rfl ?_)
 refine RunL.join (σ := Bool) (fun s_ L_ w_ => L_ = [(0, .int .u8 a0), (1, .int .u8 a1), (2, .bool a2), (3, .int .i64 a3), (4, .int .i64 a4), (5, v5), (24, .bool s_)] ∧ St e w_ [(false, .val (Rep.slice (Rep.int .u8)) v5 a5)] []) hF (fun s1 _ w2 hI hF => ?_) (fun j1 hj1 hF => ?_)
 ·
  obtain ⟨rfl, h3⟩ := hI
  refine Run.ite rfl hF (fun e2 hF => ?_) (fun e2 hF => ?_)
  ·
   refine Run.seq ?_
   refine Run.reg ?_
   refine op (OpS.as rfl rfl rfl ?_)
   refine op (OpS.as rfl rfl rfl ?_)
   refine RunL.nil ?_
   refine Run.slim [(13, .int .i64 13), (12, .slice none 0 0)] ⟨rfl, rfl, trivial⟩ ?_
   have h4 := St.nil 44 Packet_.rep h3
   refine Run.retP rfl (.tmp rfl (.tmp rfl .nil)) ?_
   cases hF
   exact Post.mk' ⟨(.slice none 0 0), rfl, rfl, rfl, rfl⟩ (h4.picks (.cons .z .nil)) .nil
  ·
   refine Run.skip ?_
   refine Run.seq ?_
   refine Run.seq ?_
   refine Run.reg ?_
   refine op (OpS.mv rfl rfl rfl ?_)
   refine op (OpS.bin rfl rfl rfl rfl rfl ?_)
   refine op (OpS.mv rfl rfl rfl ?_)
   refine RunL.join (σ := Bool) (fun s_ L_ w_ => L_ = [(0, .int .u8 a0), (1, .int .u8 a1), (2, .bool a2), (3, .int .i64 a3), (4, .int .i64 a4), (5, v5), (38, .bool s_)] ∧ St e w_ [(false, .val (Rep.slice (Rep.int .u8)) v5 a5)] []) hF (fun s2 _ w3 hI hF => ?_) (fun j2 hj2 hF => ?_)
   ·
    obtain ⟨rfl, h5⟩ := hI
    refine Run.ite rfl hF (fun e3 hF => ?_) (fun e3 hF => ?_)
    ·
     refine Run.seq ?_
     refine Run.reg ?_
     refine op (OpS.as rfl rfl rfl ?_)
     refine op (OpS.as rfl rfl rfl ?_)
     refine RunL.nil ?_
     refine Run.slim [(13, .int .i64 2), (12, .slice none 0 0)] ⟨rfl, rfl, trivial⟩ ?_
     have h6 := St.nil 44 Packet_.rep h5
     refine Run.retP rfl (.tmp rfl (.tmp rfl .nil)) ?_
     cases hF
     exact Post.mk' ⟨(.slice none 0 0), rfl, rfl, rfl, rfl⟩ (h6.picks (.cons .z .nil)) .nil
    ·
     refine Run.skip ?_
     refine Run.seq ?_
     refine Run.seq ?_
     refine Run.reg ?_
     refine op (OpS.mv rfl rfl rfl ?_)
     refine op (OpS.len h5 Try.underlying22 rfl rfl rfl (V.at .z) ?_)
     refine op (OpS.bin rfl rfl rfl rfl rfl ?_)
     refine RunL.nil ?_
     refine Run.slim [(41, .bool ((a5.length : Int) == 0)), (0, .int .u8 a0), (1, .int .u8 a1), (2, .bool a2), (3, .int .i64 a3), (4, .int .i64 a4), (5, v5)] ⟨rfl, rfl, rfl, rfl, rfl, rfl, rfl, trivial⟩ ?_
     refine Run.ite rfl hF (fun e4 hF => ?_) (fun e4 hF => ?_)
     ·
      refine Run.seq ?_
      refine Run.reg ?_
      refine op (OpS.as rfl rfl rfl ?_)
      refine op (OpS.as rfl rfl rfl ?_)
      refine RunL.nil ?_
      refine Run.slim [(13, .int .i64 1), (12, .slice none 0 0)] ⟨rfl, rfl, trivial⟩ ?_
      have h7 := St.nil 44 Packet_.rep h5
      refine Run.retP rfl (.tmp rfl (.tmp rfl .nil)) ?_
      cases hF
      exact Post.mk' ⟨(.slice none 0 0), rfl, rfl, rfl, rfl⟩ (h7.picks (.cons .z .nil)) .nil
     ·
      refine Run.skip ?_
      refine Run.seq ?_
      refine Run.seq ?_
      refine Run.reg ?_
      refine op (OpS.mv rfl rfl rfl ?_)
      refine op (OpS.len h5 Try.underlying22 rfl rfl rfl (V.at .z) ?_)
      refine op (OpS.bin rfl rfl rfl rfl rfl ?_)
      refine RunL.nil ?_
      refine Run.slim [(44, .bool (decide ((a5.length : Int) > 512))), (0, .int .u8 a0), (1, .int .u8 a1), (2, .bool a2), (3, .int .i64 a3), (4, .int .i64 a4), (5, v5)] ⟨rfl, rfl, rfl, rfl, rfl, rfl, rfl, trivial⟩ ?_
      refine Run.ite rfl hF (fun e5 hF => ?_) (fun e5 hF => ?_)
      ·
       refine Run.seq ?_
       refine Run.reg ?_
       refine op (OpS.as rfl rfl rfl ?_)
       refine op (OpS.as rfl rfl rfl ?_)
       refine RunL.nil ?_
       refine Run.slim [(13, .int .i64 3), (12, .slice none 0 0)] ⟨rfl, rfl, trivial⟩ ?_
       have h8 := St.nil 44 Packet_.rep h5
       refine Run.retP rfl (.tmp rfl (.tmp rfl .nil)) ?_
       cases hF
       exact Post.mk' ⟨(.slice none 0 0), rfl, rfl, rfl, rfl⟩ (h8.picks (.cons .z .nil)) .nil
      ·
       refine Run.skip ?_
       refine Run.seq ?_
       refine Run.reg ?_
       refine op (OpS.as rfl rfl rfl ?_)
       refine RunL.nil ?_
       refine Run.slim [(14, .slice none 0 0), (0, .int .u8 a0), (1, .int .u8 a1), (2, .bool a2), (3, .int .i64 a3), (4, .int .i64 a4), (5, v5)] ⟨rfl, rfl, rfl, rfl, rfl, rfl, rfl, trivial⟩ ?_
       refine Run.seq ?_
       refine Run.seq ?_
       refine Run.reg ?_
       refine op (OpS.as rfl rfl rfl ?_)
       refine RunL.nil ?_
       refine Run.block ?_
       have h9 := St.nil 44 Packet_.rep h5
       refine Run.slim [(0, .int .u8 a0), (1, .int .u8 a1), (2, .bool a2), (3, .int .i64 a3), (4, .int .i64 a4), (5, v5), (14, (.slice none 0 0)), (15, .int .i64 0)] ⟨rfl, rfl, rfl, rfl, rfl, rfl, rfl, rfl, trivial⟩ ?_
       refine Run.loopP (σ := (Int × (List Packet_))) (fun s_ L_ w_ => ∃ u0_ : Value, L_ = [(0, .int .u8 a0), (1, .int .u8 a1), (2, .bool a2), (3, .int .i64 a3), (4, .int .i64 a4), (5, v5), (14, u0_), (15, .int .i64 s_.1)] ∧ St e w_ [(false, .val (Rep.slice (Rep.int .u8)) v5 a5)] [(true, .slice 44 Packet_.rep u0_ s_.2)]) hF ⟨(.slice none 0 0), rfl, (h9.facts (.atm .z .nil)).picks (.cons .z .nil)⟩ (fun k1 hk1 s3 _ w4 hI hF => ?_)
       obtain ⟨u1, rfl, h10⟩ := hI
       refine Run.seq ?_
       refine Run.seq ?_
       refine Run.reg ?_
       refine op (OpS.mv rfl rfl rfl ?_)
       refine op (OpS.mv rfl rfl rfl ?_)
       refine op (OpS.len h10 Try.underlying22 rfl rfl rfl (V.at .z) ?_)
       refine op (OpS.bin rfl rfl rfl rfl rfl ?_)
       refine RunL.nil ?_
       refine Run.slim [(48, .bool (decide (s3.1 < (a5.length : Int)))), (0, .int .u8 a0), (1, .int .u8 a1), (2, .bool a2), (3, .int .i64 a3), (4, .int .i64 a4), (5, v5), (14, u1), (15, .int .i64 s3.1)] ⟨rfl, rfl, rfl, rfl, rfl, rfl, rfl, rfl, rfl, trivial⟩ ?_
       refine Run.ite rfl hF (fun e6 hF => ?_) (fun e6 hF => ?_)
       ·
        refine Run.skip ?_
        refine Run.seq ?_
        refine Run.block ?_
        refine Run.seq ?_
        refine Run.reg ?_
        refine op (OpS.mv rfl rfl rfl ?_)
        refine op (OpS.mv rfl rfl rfl ?_)
        refine op (OpS.bin rfl rfl rfl rfl rfl ?_)
        refine op (OpS.mv rfl rfl rfl ?_)
        refine op (OpS.len h10 Try.underlying22 rfl rfl rfl (V.at .z) ?_)
        refine op (OpS.mini rfl rfl rfl rfl ?_)
        refine op (OpS.as rfl rfl rfl ?_)
        obtain ⟨x1, e7, hF⟩ := letP_use hF
        refine RunL.name e7 ?_
        refine RunL.nil ?_
        refine Run.slim [(16, .int .i64 x1), (0, .int .u8 a0), (1, .int .u8 a1), (2, .bool a2), (3, .int .i64 a3), (4, .int .i64 a4), (5, v5), (14, u1), (15, .int .i64 s3.1)] ⟨rfl, rfl, rfl, rfl, rfl, rfl, rfl, rfl, rfl, trivial⟩ ?_
        obtain ⟨e8, hF⟩ := chk_use hF
        obtain ⟨x2, e9, hF⟩ := bindP_use hF
        obtain ⟨y2, e10, hF⟩ := bindP_use hF
        obtain ⟨x3, e11, hF⟩ := bindP_use hF
        refine Run.drawV (Ωs := []) [⟨some 58, some (u1), fun _ => [], fun ds_ u_ => [], [], [], none⟩, ⟨some 59, some (.int .u8 a0), fun _ => [], fun ds_ u_ => [], [], [], none⟩, ⟨some 60, some (.int .u8 a1), fun _ => [], fun ds_ u_ => [], [], [], none⟩, ⟨some 61, some (.int .i64 s3.1), fun _ => [], fun ds_ u_ => [], [], [], none⟩, ⟨some 62, some (.bool (s3.1 == 0)), fun _ => [], fun ds_ u_ => [], [], [], none⟩, ⟨some 63, some (.int .i64 x1), fun _ => [], fun ds_ u_ => [], [], [], none⟩, ⟨some 64, some (v5), fun _ => [], fun ds_ u_ => [], [], [], none⟩, ⟨some 65, some (.int .i64 (a5.length : Int)), fun _ => [], fun ds_ u_ => [], [], [], none⟩, ⟨some 66, some (.bool (x1 == (a5.length : Int))), fun _ => [], fun ds_ u_ => [], [], [], none⟩, ⟨some 67, some (.int .i64 s3.1), fun _ => [], fun ds_ u_ => [], [], [], none⟩, ⟨some 68, some (.int .i64 a4), fun _ => [], fun ds_ u_ => [], [], [], none⟩, ⟨some 69, some (.int .i64 (IntKind.i64.wrap (Int.tdiv s3.1 a4))), fun _ => [], fun ds_ u_ => [], [], [], none⟩, ⟨some 70, some (.int .i64 (Int.tmod (IntKind.i64.wrap (Int.tdiv s3.1 a4)) 4)), fun _ => [], fun ds_ u_ => [], [], [], none⟩, ⟨some 71, some (.bool a2), fun _ => [], fun ds_ u_ => [], [], [], none⟩, ⟨some 72, some (.int .i64 a3), fun _ => [], fun ds_ u_ => [], [], [], none⟩, ⟨some 73, some (v5), fun _ => [], fun ds_ u_ => [], [], [], none⟩, ⟨some 74, some (.int .i64 s3.1), fun _ => [], fun ds_ u_ => [], [], [], none⟩, ⟨some 75, some (.int .i64 x1), fun _ => [], fun ds_ u_ => [], [], [], none⟩, ⟨some 76, none, fun u_ => [(false, .val (Rep.slice (Rep.int .u8)) u_ x2)], fun ds_ u_ => [], [], [], none⟩, ⟨some 77, none, fun u_ => [(true, .val (Rep.slice (Rep.int .u8)) u_ y2)], fun ds_ u_ => [], [], [], none⟩, ⟨some 78, none, fun u_ => [(true, .val Packet_.rep u_ (⟨a0, a1, s3.1 == 0, x1 == (a5.length : Int), (Int.tmod (IntKind.i64.wrap (Int.tdiv s3.1 a4)) 4), a2, a3, y2⟩ : Packet_))], fun ds_ u_ => [], [], [], none⟩, ⟨some 79, none, fun u_ => [(true, .val (Rep.slice Packet_.rep) u_ ([(⟨a0, a1, s3.1 == 0, x1 == (a5.length : Int), (Int.tmod (IntKind.i64.wrap (Int.tdiv s3.1 a4)) 4), a2, a3, y2⟩ : Packet_)]))], fun ds_ u_ => [], [], [], none⟩, ⟨some 80, none, fun u_ => [], fun ds_ u_ => [(true, .slice 44 Packet_.rep u_ x3)], [0], [], none⟩] [[], [], [], [], [3], [], [], [6], [5, 7], [], [], [9, 10], [11], [], [], [], [], [], [15, 16, 17], [18], [1, 2, 4, 8, 12, 13, 14, 19], [20], [0, 21]] [[(true, .slice 44 Packet_.rep u1 s3.2)]] [1, 2, 3, 4, 5, 6, 7, 8, 9, 10, 11, 12, 13, 14, 15, 16, 17, 18, 19, 20, 21, 22, 23] Try_mixed rfl rfl rfl h10 (.cons ?_ (.cons ?_ (.cons ?_ (.cons ?_ (.cons ?_ (.cons ?_ (.cons ?_ (.cons ?_ (.cons ?_ (.cons ?_ (.cons ?_ (.cons ?_ (.cons ?_ (.cons ?_ (.cons ?_ (.cons ?_ (.cons ?_ (.cons ?_ (.cons ?_ (.cons ?_ (.cons ?_ (.cons ?_ (.cons ?_ .nil))))))))))))))))))))))) (fun q1 w hq1 h => ?_)
        ·intro q1 w Γx Ωx h
         refine OpS.mv rfl rfl rfl ?_
         exact ⟨undef, rfl, trivial, h⟩
        ·intro q1 w Γx Ωx h
         refine OpS.mv rfl rfl rfl ?_
         exact ⟨undef, rfl, trivial, h⟩
        ·intro q1 w Γx Ωx h
         refine OpS.mv rfl rfl rfl ?_
         exact ⟨undef, rfl, trivial, h⟩
        ·intro q1 w Γx Ωx h
         refine OpS.mv rfl rfl rfl ?_
         exact ⟨undef, rfl, trivial, h⟩
        ·intro q1 w Γx Ωx h
         refine OpS.bin rfl rfl rfl rfl rfl ?_
         exact ⟨undef, rfl, trivial, h⟩
        ·intro q1 w Γx Ωx h
         refine OpS.mv rfl rfl rfl ?_
         exact ⟨undef, rfl, trivial, h⟩
        ·intro q1 w Γx Ωx h
         refine OpS.mv rfl rfl rfl ?_
         exact ⟨undef, rfl, trivial, h⟩
        ·intro q1 w Γx Ωx h
         refine OpS.len h Try.underlying22 rfl rfl rfl (V.at .z) ?_
         exact ⟨undef, rfl, trivial, h⟩
        ·intro q1 w Γx Ωx h
         refine OpS.bin rfl rfl rfl rfl rfl ?_
         exact ⟨undef, rfl, trivial, h⟩
        ·intro q1 w Γx Ωx h
         refine OpS.mv rfl rfl rfl ?_
         exact ⟨undef, rfl, trivial, h⟩
        ·intro q1 w Γx Ωx h
         refine OpS.mv rfl rfl rfl ?_
         exact ⟨undef, rfl, trivial, h⟩
        ·intro q1 w Γx Ωx h
         refine OpS.quo rfl rfl rfl rfl e8 ?_
         exact ⟨undef, rfl, trivial, h⟩
        ·intro q1 w Γx Ωx h
         refine OpS.rem rfl rfl rfl rfl (by decide) ?_
         exact ⟨undef, rfl, trivial, h⟩
        ·intro q1 w Γx Ωx h
         refine OpS.mv rfl rfl rfl ?_
         exact ⟨undef, rfl, trivial, h⟩
        ·intro q1 w Γx Ωx h
         refine OpS.mv rfl rfl rfl ?_
         exact ⟨undef, rfl, trivial, h⟩
        ·intro q1 w Γx Ωx h
         refine OpS.mv rfl rfl rfl ?_
         exact ⟨undef, rfl, trivial, h⟩
        ·intro q1 w Γx Ωx h
         refine OpS.mv rfl rfl rfl ?_
         exact ⟨undef, rfl, trivial, h⟩
        ·intro q1 w Γx Ωx h
         refine OpS.mv rfl rfl rfl ?_
         exact ⟨undef, rfl, trivial, h⟩
        ·intro q1 w Γx Ωx h
         refine OpS.sub h Try.underlying22 ty5 rfl rfl rfl rfl rfl (V.at .z) e9 (fun u h18 => ?_)
         exact ⟨u, rfl, trivial, h18⟩
        ·intro q1 w Γx Ωx h
         refine OpS.callP h Try.func42 rfl rfl rfl rfl (vs := [(q1 18)]) rfl (ref01_Copy_ok e10) (.cons (f := false) (V.at .z) .nil) ?_
         rintro u w8 _ _ _ ⟨_, rfl, rfl, rfl, rfl⟩ h19
         have h20 := h19 rfl rfl
         simp only [List.cons_append, List.nil_append] at h20
         have h21 := h20.freeze
         exact ⟨u, rfl, trivial, h21⟩
        ·intro q1 w Γx Ωx h
         refine OpS.build (f := true) (x' := (⟨a0, a1, s3.1 == 0, x1 == (a5.length : Int), (Int.tmod (IntKind.i64.wrap (Int.tdiv s3.1 a4)) 4), a2, a3, y2⟩ : Packet_)) h pl44 ti44 Packet_.zr rfl rfl rfl (.cons rfl Packet_.f0 rfl V.int (.cons rfl Packet_.f1 rfl V.int (.cons rfl Packet_.f2 rfl V.bool (.cons rfl Packet_.f3 rfl V.bool (.cons rfl Packet_.f4 rfl V.int (.cons rfl Packet_.f5 rfl V.bool (.cons rfl Packet_.f6 rfl V.int (.cons rfl Packet_.f7 rfl (V.at .z) .nil)))))))) (fun u h22 => ?_)
         exact ⟨u, rfl, trivial, h22⟩
        ·intro q1 w Γx Ωx h
         refine OpS.lit (r := Packet_.rep) (f := true) h Try.underlying27 ti44 rfl rfl rfl rfl rfl (.cons rfl (V.at .z) .nil) rfl rfl (fun u w9 h23 => ?_)
         exact ⟨u, rfl, trivial, h23⟩
        ·intro q1 w Γx Ωx h
         have h : St e w ([(true, .val (Rep.slice Packet_.rep) (q1 21) ([(⟨a0, a1, s3.1 == 0, x1 == (a5.length : Int), (Int.tmod (IntKind.i64.wrap (Int.tdiv s3.1 a4)) 4), a2, a3, y2⟩ : Packet_)])), (false, .val (Rep.slice (Rep.int .u8)) v5 a5)] ++ Γx) ([(true, .slice 44 Packet_.rep u1 s3.2)] ++ Ωx) := h
         refine OpS.app (f' := true) h .z Try.underlying27 ti44 rfl rfl rfl rfl rfl rfl rfl (V.at .z) (.inl (.inl rfl)) e11 (fun u w10 h24 => ?_)
         exact ⟨u, rfl, trivial, h24⟩
        have h25 : St e w [(false, .val (Rep.slice (Rep.int .u8)) (q1 18) x2), (true, .val (Rep.slice (Rep.int .u8)) (q1 19) y2), (true, .val Packet_.rep (q1 20) (⟨a0, a1, s3.1 == 0, x1 == (a5.length : Int), (Int.tmod (IntKind.i64.wrap (Int.tdiv s3.1 a4)) 4), a2, a3, y2⟩ : Packet_)), (true, .val (Rep.slice Packet_.rep) (q1 21) ([(⟨a0, a1, s3.1 == 0, x1 == (a5.length : Int), (Int.tmod (IntKind.i64.wrap (Int.tdiv s3.1 a4)) 4), a2, a3, y2⟩ : Packet_)])), (false, .val (Rep.slice (Rep.int .u8)) v5 a5)] [(true, .slice 44 Packet_.rep (q1 22) x3)] := h
        refine op (OpS.as rfl rfl rfl ?_)
        refine RunL.nil ?_
        refine Run.slim [(14, (q1 22)), (0, .int .u8 a0), (1, .int .u8 a1), (2, .bool a2), (3, .int .i64 a3), (4, .int .i64 a4), (5, v5), (15, .int .i64 s3.1)] ⟨rfl, rfl, rfl, rfl, rfl, rfl, rfl, rfl, trivial⟩ ?_
        refine Run.endBlock ?_
        refine Run.reg ?_
        refine op (OpS.mv rfl rfl rfl ?_)
        refine op (OpS.mv rfl rfl rfl ?_)
        refine op (OpS.bin rfl rfl rfl rfl rfl ?_)
        refine op (OpS.as rfl rfl rfl ?_)
        obtain ⟨x4, e12, hF⟩ := letP_use hF
        refine RunL.name e12 ?_
        refine RunL.nil ?_
        refine Run.slim [(15, .int .i64 x4), (14, (q1 22)), (0, .int .u8 a0), (1, .int .u8 a1), (2, .bool a2), (3, .int .i64 a3), (4, .int .i64 a4), (5, v5)] ⟨rfl, rfl, rfl, rfl, rfl, rfl, rfl, rfl, trivial⟩ ?_
        refine Run.slim [(0, .int .u8 a0), (1, .int .u8 a1), (2, .bool a2), (3, .int .i64 a3), (4, .int .i64 a4), (5, v5), (14, (q1 22)), (15, .int .i64 x4)] ⟨rfl, rfl, rfl, rfl, rfl, rfl, rfl, rfl, trivial⟩ ?_
        exact hk1 (x4, x3) _ _ ⟨(q1 22), rfl, (h25.facts (.atm (.s (.s (.s (.s .z)))) .nil)).picks (.cons .z .nil)⟩ hF
       ·
        refine Run.exit rfl ?_
        refine Run.seq ?_
        refine Run.reg ?_
        refine op (OpS.mv rfl rfl rfl ?_)
        refine op (OpS.as rfl rfl rfl ?_)
        refine op (OpS.as rfl rfl rfl ?_)
        refine RunL.nil ?_
        refine Run.slim [(13, .int .i64 0), (12, u1)] ⟨rfl, rfl, trivial⟩ ?_
        refine Run.retP rfl (.tmp rfl (.tmp rfl .nil)) ?_
        cases hF
        exact Post.mk' ⟨u1, rfl, rfl, rfl, rfl⟩ (h10.picks (.cons .z .nil)) .nil
   ·
    refine RunL.caseb hF (fun e13 hF => ?_) (fun e13 hF => ?_)
    ·
     refine op (OpS.pass rfl rfl rfl ?_)
     refine op (OpS.pass rfl rfl rfl ?_)
     refine op (OpS.pick rfl rfl rfl rfl ?_)
     refine op (OpS.mv rfl rfl rfl ?_)
     refine op (OpS.pass rfl rfl rfl ?_)
     refine op (OpS.pass rfl rfl rfl ?_)
     refine op (OpS.pick rfl rfl rfl rfl ?_)
     refine op (OpS.mv rfl rfl rfl ?_)
     refine op (OpS.pass rfl rfl rfl ?_)
     refine op (OpS.pass rfl rfl rfl ?_)
     refine op (OpS.pick rfl rfl rfl rfl ?_)
     refine RunL.nil ?_
     refine Run.slim [(38, .bool true), (0, .int .u8 a0), (1, .int .u8 a1), (2, .bool a2), (3, .int .i64 a3), (4, .int .i64 a4), (5, v5)] ⟨rfl, rfl, rfl, rfl, rfl, rfl, rfl, trivial⟩ ?_
     refine Run.slim [(0, .int .u8 a0), (1, .int .u8 a1), (2, .bool a2), (3, .int .i64 a3), (4, .int .i64 a4), (5, v5), (38, .bool true)] ⟨rfl, rfl, rfl, rfl, rfl, rfl, rfl, trivial⟩ ?_
     exact hj2 (true) _ _ ⟨rfl, (h3.facts (.atm .z .nil)).picks .nil⟩ hF
    ·
     refine op (OpS.mv rfl rfl rfl ?_)
     refine op (OpS.bin rfl rfl rfl rfl rfl ?_)
     refine op (OpS.pick rfl rfl rfl rfl ?_)
     refine op (OpS.mv rfl rfl rfl ?_)
     refine RunL.caseb hF (fun e14 hF => ?_) (fun e14 hF => ?_)
     ·
      refine op (OpS.pass rfl rfl rfl ?_)
      refine op (OpS.pass rfl rfl rfl ?_)
      refine op (OpS.pick rfl rfl rfl rfl ?_)
      refine op (OpS.mv rfl rfl rfl ?_)
      refine op (OpS.pass rfl rfl rfl ?_)
      refine op (OpS.pass rfl rfl rfl ?_)
      refine op (OpS.pick rfl rfl rfl rfl ?_)
      refine RunL.nil ?_
      refine Run.slim [(38, .bool true), (0, .int .u8 a0), (1, .int .u8 a1), (2, .bool a2), (3, .int .i64 a3), (4, .int .i64 a4), (5, v5)] ⟨rfl, rfl, rfl, rfl, rfl, rfl, rfl, trivial⟩ ?_
      refine Run.slim [(0, .int .u8 a0), (1, .int .u8 a1), (2, .bool a2), (3, .int .i64 a3), (4, .int .i64 a4), (5, v5), (38, .bool true)] ⟨rfl, rfl, rfl, rfl, rfl, rfl, rfl, trivial⟩ ?_
      exact hj2 (true) _ _ ⟨rfl, (h3.facts (.atm .z .nil)).picks .nil⟩ hF
     ·
      refine op (OpS.mv rfl rfl rfl ?_)
      refine op (OpS.bin rfl rfl rfl rfl rfl ?_)
      refine op (OpS.pick rfl rfl rfl rfl ?_)
      refine op (OpS.mv rfl rfl rfl ?_)
      refine RunL.caseb hF (fun e15 hF => ?_) (fun e15 hF => ?_)
      ·
       refine op (OpS.pass rfl rfl rfl ?_)
       refine op (OpS.pass rfl rfl rfl ?_)
       refine op (OpS.pick rfl rfl rfl rfl ?_)
       refine RunL.nil ?_
       refine Run.slim [(38, .bool true), (0, .int .u8 a0), (1, .int .u8 a1), (2, .bool a2), (3, .int .i64 a3), (4, .int .i64 a4), (5, v5)] ⟨rfl, rfl, rfl, rfl, rfl, rfl, rfl, trivial⟩ ?_
       refine Run.slim [(0, .int .u8 a0), (1, .int .u8 a1), (2, .bool a2), (3, .int .i64 a3), (4, .int .i64 a4), (5, v5), (38, .bool true)] ⟨rfl, rfl, rfl, rfl, rfl, rfl, rfl, trivial⟩ ?_
       exact hj2 (true) _ _ ⟨rfl, (h3.facts (.atm .z .nil)).picks .nil⟩ hF
      ·
       refine op (OpS.mv rfl rfl rfl ?_)
       refine op (OpS.bin rfl rfl rfl rfl rfl ?_)
       refine op (OpS.pick rfl rfl rfl rfl ?_)
       refine RunL.nil ?_
       refine Run.slim [(38, .bool (decide (a4 > 64))), (0, .int .u8 a0), (1, .int .u8 a1), (2, .bool a2), (3, .int .i64 a3), (4, .int .i64 a4), (5, v5)] ⟨rfl, rfl, rfl, rfl, rfl, rfl, rfl, trivial⟩ ?_
       refine Run.slim [(0, .int .u8 a0), (1, .int .u8 a1), (2, .bool a2), (3, .int .i64 a3), (4, .int .i64 a4), (5, v5), (38, .bool (decide (a4 > 64)))] ⟨rfl, rfl, rfl, rfl, rfl, rfl, rfl, trivial⟩ ?_
       exact hj2 (decide (a4 > 64)) _ _ ⟨rfl, (h3.facts (.atm .z .nil)).picks .nil⟩ hF
 ·
  refine RunL.caseb hF (fun e16 hF => ?_) (fun e16 hF => ?_)
  ·
   refine op (OpS.pass rfl rfl rfl ?_)
   refine op (OpS.pass rfl rfl rfl ?_)
   refine op (OpS.pass rfl rfl rfl ?_)
   refine op (OpS.pick rfl rfl rfl rfl ?_)
   refine RunL.nil ?_
   refine Run.slim [(24, .bool true), (0, .int .u8 a0), (1, .int .u8 a1), (2, .bool a2), (3, .int .i64 a3), (4, .int .i64 a4), (5, v5)] ⟨rfl, rfl, rfl, rfl, rfl, rfl, rfl, trivial⟩ ?_
   refine Run.slim [(0, .int .u8 a0), (1, .int .u8 a1), (2, .bool a2), (3, .int .i64 a3), (4, .int .i64 a4), (5, v5), (24, .bool true)] ⟨rfl, rfl, rfl, rfl, rfl, rfl, rfl, trivial⟩ ?_
   exact hj1 (true) _ _ ⟨rfl, (h2.facts (.atm .z .nil)).picks .nil⟩ hF
  ·
   refine op (OpS.mv rfl rfl rfl ?_)
   obtain ⟨y3, e17, hF⟩ := bindP_use hF
   refine op (OpS.callP h2 Try.func41 rfl rfl rfl rfl (vs := [.int .u8 a1]) rfl (ref22_Endpoint_ok e17) .nil ?_)
   rintro _ w11 _ _ _ ⟨rfl, rfl, rfl, rfl⟩ h26
   have h27 := h26 rfl rfl
   simp only [List.cons_append, List.nil_append] at h27
   refine op (OpS.not rfl rfl rfl ?_)
   refine op (OpS.pick rfl rfl rfl rfl ?_)
   refine RunL.nil ?_
   refine Run.slim [(24, .bool (!y3)), (0, .int .u8 a0), (1, .int .u8 a1), (2, .bool a2), (3, .int .i64 a3), (4, .int .i64 a4), (5, v5)] ⟨rfl, rfl, rfl, rfl, rfl, rfl, rfl, trivial⟩ ?_
   refine Run.slim [(0, .int .u8 a0), (1, .int .u8 a1), (2, .bool a2), (3, .int .i64 a3), (4, .int .i64 a4), (5, v5), (24, .bool (!y3))] ⟨rfl, rfl, rfl, rfl, rfl, rfl, rfl, trivial⟩ ?_
   exact hj1 (!y3) _ _ ⟨rfl, (h27.facts (.atm .z .nil)).picks .nil⟩ hF
theorem ref01_Same_ok {fuel : Nat} {a0 : List Int} {a1 : List Int} {y : Bool} (hF : ref01_Same fuel a0 a1 = some y) {w : World} {v0 v1 : Value} :
  Spec Try.prog 29 [v0, v1].toArray w [(false, .val (Rep.slice (Rep.int .u8)) v0 a0), (false, .val (Rep.slice (Rep.int .u8)) v1 a1)] [] (fun v Γr Ωr Ωo => v = .bool y ∧ Γr = [] ∧ Ωr = [] ∧ Ωo = []) := by
 refine Spec.of (L := [(0, v0), (1, v1)]) Try.func29 rfl ⟨rfl, rfl, trivial⟩ rfl (fun e h => ?_)
 unfold ref01_Same at hF
 refine Run.seq ?_
 refine Run.reg ?_
 refine op (OpS.as rfl rfl rfl ?_)
 refine RunL.nil ?_
 refine Run.slim [(0, v0), (1, v1)] ⟨rfl, rfl, trivial⟩ ?_
 refine Run.seq ?_
 refine Run.seq ?_
 refine Run.reg ?_
 refine op (OpS.mv rfl rfl rfl ?_)
 refine op (OpS.len h Try.underlying22 rfl rfl rfl (V.at .z) ?_)
 refine op (OpS.mv rfl rfl rfl ?_)
 refine op (OpS.len h Try.underlying22 rfl rfl rfl (V.at (.s .z)) ?_)
 refine op (OpS.bin rfl rfl rfl rfl rfl ?_)
 refine RunL.nil ?_
 refine Run.slim [(10, .bool ((a0.length : Int) != (a1.length : Int))), (0, v0), (1, v1)] ⟨rfl, rfl, rfl, trivial⟩ ?_
 refine Run.ite rfl hF (fun e1 hF => ?_) (fun e1 hF => ?_)
 ·
  refine Run.seq ?_
  refine Run.reg ?_
  refine op (OpS.as rfl rfl rfl ?_)
  refine RunL.nil ?_
  refine Run.slim [(4, .bool false)] ⟨rfl, trivial⟩ ?_
  refine Run.retP rfl (.tmp rfl .nil) ?_
  cases hF
  exact Post.mk' ⟨rfl, rfl, rfl, rfl⟩ (h.picks .nil) .nil
 ·
  refine Run.skip ?_
  refine Run.seq ?_
  refine Run.seq ?_
  refine Run.reg ?_
  refine op (OpS.as rfl rfl rfl ?_)
  refine RunL.nil ?_
  refine Run.slim [(5, .int .i64 0), (0, v0), (1, v1)] ⟨rfl, rfl, rfl, trivial⟩ ?_
  refine Run.block ?_
  refine Run.slim [(0, v0), (1, v1), (5, .int .i64 0)] ⟨rfl, rfl, rfl, trivial⟩ ?_
  refine Run.loopP (σ := Int) (fun s_ L_ w_ => L_ = [(0, v0), (1, v1), (5, .int .i64 s_)] ∧ St e w_ [(false, .val (Rep.slice (Rep.int .u8)) v0 a0), (false, .val (Rep.slice (Rep.int .u8)) v1 a1)] []) hF ⟨rfl, (h.facts (.atm .z (.atm (.s .z) .nil))).picks .nil⟩ (fun k1 hk1 s1 _ w1 hI hF => ?_)
  obtain ⟨rfl, h1⟩ := hI
  refine Run.seq ?_
  refine Run.seq ?_
  refine Run.reg ?_
  refine op (OpS.mv rfl rfl rfl ?_)
  refine op (OpS.mv rfl rfl rfl ?_)
  refine op (OpS.len h1 Try.underlying22 rfl rfl rfl (V.at .z) ?_)
  refine op (OpS.bin rfl rfl rfl rfl rfl ?_)
  refine RunL.nil ?_
  refine Run.slim [(14, .bool (decide (s1 < (a0.length : Int)))), (0, v0), (1, v1), (5, .int .i64 s1)] ⟨rfl, rfl, rfl, rfl, trivial⟩ ?_
  refine Run.ite rfl hF (fun e2 hF => ?_) (fun e2 hF => ?_)
  ·
   refine Run.skip ?_
   refine Run.seq ?_
   refine Run.block ?_
   refine Run.seq ?_
   obtain ⟨x1, e3, hF⟩ := bindP_use hF
   obtain ⟨x2, e4, hF⟩ := bindP_use hF
   refine Run.drawV (Ωs := []) [⟨some 17, some (v0), fun _ => [], fun ds_ u_ => [], [], [], none⟩, ⟨some 18, some (.int .i64 s1), fun _ => [], fun ds_ u_ => [], [], [], none⟩, ⟨some 19, none, fun u_ => [(false, .ptr (Rep.int .u8) u_ x1)], fun ds_ u_ => [], [], [], none⟩, ⟨some 20, some (.int .u8 x1), fun _ => [], fun ds_ u_ => [], [], [], none⟩, ⟨some 21, some (v1), fun _ => [], fun ds_ u_ => [], [], [], none⟩, ⟨some 22, some (.int .i64 s1), fun _ => [], fun ds_ u_ => [], [], [], none⟩, ⟨some 23, none, fun u_ => [(false, .ptr (Rep.int .u8) u_ x2)], fun ds_ u_ => [], [], [], none⟩, ⟨some 24, some (.int .u8 x2), fun _ => [], fun ds_ u_ => [], [], [], none⟩, ⟨some 25, some (.bool (x1 != x2)), fun _ => [], fun ds_ u_ => [], [], [], none⟩] [[], [], [0, 1], [2], [], [], [4, 5], [6], [3, 7]] [] [0, 1, 2, 3, 4, 5, 6, 7, 8] Try_mixed rfl rfl rfl h1 (.cons ?_ (.cons ?_ (.cons ?_ (.cons ?_ (.cons ?_ (.cons ?_ (.cons ?_ (.cons ?_ (.cons ?_ .nil))))))))) (fun q1 w hq1 h => ?_)
   ·intro q1 w Γx Ωx h
    refine OpS.mv rfl rfl rfl ?_
    exact ⟨undef, rfl, trivial, h⟩
   ·intro q1 w Γx Ωx h
    refine OpS.mv rfl rfl rfl ?_
    exact ⟨undef, rfl, trivial, h⟩
   ·intro q1 w Γx Ωx h
    refine OpS.iptr h Try.underlying22 ty5 rfl rfl rfl rfl (V.at .z) e3 (fun u h4 => ?_)
    exact ⟨u, rfl, trivial, h4⟩
   ·intro q1 w Γx Ωx h
    refine OpS.loadi h ty5 rfl rfl rfl .z ?_
    exact ⟨undef, rfl, trivial, h⟩
   ·intro q1 w Γx Ωx h
    refine OpS.mv rfl rfl rfl ?_
    exact ⟨undef, rfl, trivial, h⟩
   ·intro q1 w Γx Ωx h
    refine OpS.mv rfl rfl rfl ?_
    exact ⟨undef, rfl, trivial, h⟩
   ·intro q1 w Γx Ωx h
    refine OpS.iptr h Try.underlying22 ty5 rfl rfl rfl rfl (V.at (.s .z)) e4 (fun u h5 => ?_)
    exact ⟨u, rfl, trivial, h5⟩
   ·intro q1 w Γx Ωx h
    refine OpS.loadi h ty5 rfl rfl rfl .z ?_
    exact ⟨undef, rfl, trivial, h⟩
   ·intro q1 w Γx Ωx h
    refine OpS.bin rfl rfl rfl rfl rfl ?_
    exact ⟨undef, rfl, trivial, h⟩
   have h6 : St e w [(false, .ptr (Rep.int .u8) (q1 2) x1), (false, .ptr (Rep.int .u8) (q1 6) x2), (false, .val (Rep.slice (Rep.int .u8)) v0 a0), (false, .val (Rep.slice (Rep.int .u8)) v1 a1)] [] := h
   refine RunL.nil ?_
   refine Run.slim [(25, .bool (x1 != x2)), (0, v0), (1, v1), (5, .int .i64 s1)] ⟨rfl, rfl, rfl, rfl, trivial⟩ ?_
   refine Run.ite rfl hF (fun e5 hF => ?_) (fun e5 hF => ?_)
   ·
    refine Run.seq ?_
    refine Run.reg ?_
    refine op (OpS.as rfl rfl rfl ?_)
    refine RunL.nil ?_
    refine Run.slim [(4, .bool false)] ⟨rfl, trivial⟩ ?_
    refine Run.retP rfl (.tmp rfl .nil) ?_
    cases hF
    exact Post.mk' ⟨rfl, rfl, rfl, rfl⟩ (h6.picks .nil) .nil
   ·
    refine Run.skip ?_
    refine Run.endBlock ?_
    refine Run.reg ?_
    refine op (OpS.mv rfl rfl rfl ?_)
    refine op (OpS.bin rfl rfl rfl rfl rfl ?_)
    refine op (OpS.as rfl rfl rfl ?_)
    obtain ⟨x3, e6, hF⟩ := letP_use hF
    refine RunL.name e6 ?_
    refine RunL.nil ?_
    refine Run.slim [(5, .int .i64 x3), (0, v0), (1, v1)] ⟨rfl, rfl, rfl, trivial⟩ ?_
    refine Run.slim [(0, v0), (1, v1), (5, .int .i64 x3)] ⟨rfl, rfl, rfl, trivial⟩ ?_
    exact hk1 (x3) _ _ ⟨rfl, (h6.facts (.atm (.s (.s .z)) (.atm (.s (.s (.s .z))) .nil))).picks .nil⟩ hF
  ·
   refine Run.exit rfl ?_
   refine Run.seq ?_
   refine Run.reg ?_
   refine op (OpS.as rfl rfl rfl ?_)
   refine RunL.nil ?_
   refine Run.slim [(4, .bool true)] ⟨rfl, trivial⟩ ?_
   refine Run.retP rfl (.tmp rfl .nil) ?_
   cases hF
   exact Post.mk' ⟨rfl, rfl, rfl, rfl⟩ (h1.picks .nil) .nil
set_option maxHeartbeats 8000000 in
theorem ref22_Same_ok {fuel : Nat} {a0 : Packet_} {a1 : Packet_} {y : Bool} (hF : ref22_Same fuel a0 a1 = some y) {w : World} {v0 v1 : Value} :
  Spec Try.prog 37 [v0, v1].toArray w [(false, .val Packet_.rep v0 a0), (false, .val Packet_.rep v1 a1)] [] (fun v Γr Ωr Ωo => v = .bool y ∧ Γr = [] ∧ Ωr = [] ∧ Ωo = []) := by
 refine Spec.of (L := [(0, v0), (1, v1)]) Try.func37 rfl ⟨rfl, rfl, trivial⟩ rfl (fun e h => ?_)
 unfold ref22_Same at hF
 refine Run.seq ?_
 refine Run.reg ?_
 refine op (OpS.boxF h rfl rfl rfl (V.at .z) (fun u1 w1 h1 => ?_))
 refine op (OpS.boxF h1 rfl rfl rfl (V.at (.s .z)) (fun u2 w2 h2 => ?_))
 refine op (OpS.as rfl rfl rfl ?_)
 refine RunL.nil ?_
 refine Run.slim [(3, u2), (2, u1)] ⟨rfl, rfl, trivial⟩ ?_
 refine Run.seq ?_
 refine Run.reg ?_
 refine op (OpS.fbox (o3 := 0) h2 (.s .z) PA.z fa44_0 rfl rfl rfl rfl ?_)
 refine op (OpS.loadBi h2 (.s .z) PA.a (Get.fld Packet_.f0) ty5 rfl rfl rfl ?_)
 refine op (OpS.fbox (o3 := 0) h2 .z PA.z fa44_0 rfl rfl rfl rfl ?_)
 refine op (OpS.loadBi h2 .z PA.a (Get.fld Packet_.f0) ty5 rfl rfl rfl ?_)
 refine op (OpS.bin rfl rfl rfl rfl rfl ?_)
 refine op (OpS.mv rfl rfl rfl ?_)
 refine RunL.caseb hF (fun e1 hF => ?_) (fun e1 hF => ?_)
 ·
  refine op (OpS.fbox (o3 := 1) h2 (.s .z) PA.z fa44_1 rfl rfl rfl rfl ?_)
  refine op (OpS.loadBi h2 (.s .z) PA.a (Get.fld Packet_.f1) ty5 rfl rfl rfl ?_)
  refine op (OpS.fbox (o3 := 1) h2 .z PA.z fa44_1 rfl rfl rfl rfl ?_)
  refine op (OpS.loadBi h2 .z PA.a (Get.fld Packet_.f1) ty5 rfl rfl rfl ?_)
  refine op (OpS.bin rfl rfl rfl rfl rfl ?_)
  refine op (OpS.pick rfl rfl rfl rfl ?_)
  refine op (OpS.mv rfl rfl rfl ?_)
  refine RunL.caseb hF (fun e2 hF => ?_) (fun e2 hF => ?_)
  ·
   refine op (OpS.fbox (o3 := 2) h2 (.s .z) PA.z fa44_2 rfl rfl rfl rfl ?_)
   refine op (OpS.loadBb h2 (.s .z) PA.a (Get.fld Packet_.f2) ty4 rfl rfl rfl ?_)
   refine op (OpS.fbox (o3 := 2) h2 .z PA.z fa44_2 rfl rfl rfl rfl ?_)
   refine op (OpS.loadBb h2 .z PA.a (Get.fld Packet_.f2) ty4 rfl rfl rfl ?_)
   refine op (OpS.eqb Try.underlying4 rfl rfl rfl rfl ?_)
   refine op (OpS.pick rfl rfl rfl rfl ?_)
   refine op (OpS.mv rfl rfl rfl ?_)
   refine RunL.caseb hF (fun e3 hF => ?_) (fun e3 hF => ?_)
   ·
    refine op (OpS.fbox (o3 := 3) h2 (.s .z) PA.z fa44_3 rfl rfl rfl rfl ?_)
    refine op (OpS.loadBb h2 (.s .z) PA.a (Get.fld Packet_.f3) ty4 rfl rfl rfl ?_)
    refine op (OpS.fbox (o3 := 3) h2 .z PA.z fa44_3 rfl rfl rfl rfl ?_)
    refine op (OpS.loadBb h2 .z PA.a (Get.fld Packet_.f3) ty4 rfl rfl rfl ?_)
    refine op (OpS.eqb Try.underlying4 rfl rfl rfl rfl ?_)
    refine op (OpS.pick rfl rfl rfl rfl ?_)
    refine op (OpS.mv rfl rfl rfl ?_)
    refine RunL.caseb hF (fun e4 hF => ?_) (fun e4 hF => ?_)
    ·
     refine op (OpS.fbox (o3 := 4) h2 (.s .z) PA.z fa44_4 rfl rfl rfl rfl ?_)
     refine op (OpS.loadBi h2 (.s .z) PA.a (Get.fld Packet_.f4) ty3 rfl rfl rfl ?_)
     refine op (OpS.fbox (o3 := 4) h2 .z PA.z fa44_4 rfl rfl rfl rfl ?_)
     refine op (OpS.loadBi h2 .z PA.a (Get.fld Packet_.f4) ty3 rfl rfl rfl ?_)
     refine op (OpS.bin rfl rfl rfl rfl rfl ?_)
     refine op (OpS.pick rfl rfl rfl rfl ?_)
     refine op (OpS.mv rfl rfl rfl ?_)
     refine RunL.caseb hF (fun e5 hF => ?_) (fun e5 hF => ?_)
     ·
      refine op (OpS.fbox (o3 := 5) h2 (.s .z) PA.z fa44_5 rfl rfl rfl rfl ?_)
      refine op (OpS.loadBb h2 (.s .z) PA.a (Get.fld Packet_.f5) ty4 rfl rfl rfl ?_)
      refine op (OpS.fbox (o3 := 5) h2 .z PA.z fa44_5 rfl rfl rfl rfl ?_)
      refine op (OpS.loadBb h2 .z PA.a (Get.fld Packet_.f5) ty4 rfl rfl rfl ?_)
      refine op (OpS.eqb Try.underlying4 rfl rfl rfl rfl ?_)
      refine op (OpS.pick rfl rfl rfl rfl ?_)
      refine op (OpS.mv rfl rfl rfl ?_)
      refine RunL.caseb hF (fun e6 hF => ?_) (fun e6 hF => ?_)
      ·
       refine op (OpS.fbox (o3 := 6) h2 (.s .z) PA.z fa44_6 rfl rfl rfl rfl ?_)
       refine op (OpS.loadBi h2 (.s .z) PA.a (Get.fld Packet_.f6) ty3 rfl rfl rfl ?_)
       refine op (OpS.fbox (o3 := 6) h2 .z PA.z fa44_6 rfl rfl rfl rfl ?_)
       refine op (OpS.loadBi h2 .z PA.a (Get.fld Packet_.f6) ty3 rfl rfl rfl ?_)
       refine op (OpS.bin rfl rfl rfl rfl rfl ?_)
       refine op (OpS.pick rfl rfl rfl rfl ?_)
       refine op (OpS.mv rfl rfl rfl ?_)
       refine RunL.caseb hF (fun e7 hF => ?_) (fun e7 hF => ?_)
       ·
        refine op (OpS.fbox (o3 := 7) h2 (.s .z) PA.z fa44_7 rfl rfl rfl rfl ?_)
        refine op (OpS.loadB h2 (.s .z) PA.a (Get.fld Packet_.f7) ty22 rfl rfl rfl (fun u3 h3 => ?_))
        refine op (OpS.fbox (o3 := 7) h3 .z PA.z fa44_7 rfl rfl rfl rfl ?_)
        refine op (OpS.loadB h3 .z PA.a (Get.fld Packet_.f7) ty22 rfl rfl rfl (fun u4 h4 => ?_))
        obtain ⟨y1, e8, hF⟩ := bindP_use hF
        refine op (OpS.callP h4 Try.func29 rfl rfl rfl rfl (vs := [u3, u4]) rfl (ref01_Same_ok e8) (.cons (f := false) (V.at (.s .z)) (.cons (f := false) (V.at .z) .nil)) ?_)
        rintro _ w3 _ _ _ ⟨rfl, rfl, rfl, rfl⟩ h5
        have h6 := h5 rfl rfl
        simp only [List.cons_append, List.nil_append] at h6
        refine op (OpS.pick rfl rfl rfl rfl ?_)
        refine op (OpS.as rfl rfl rfl ?_)
        refine RunL.nil ?_
        refine Run.slim [(4, .bool y1)] ⟨rfl, trivial⟩ ?_
        refine Run.retP rfl (.tmp rfl .nil) ?_
        cases hF
        exact Post.mk' ⟨rfl, rfl, rfl, rfl⟩ (h6.picks .nil) .nil
       ·
        refine op (OpS.pass rfl rfl rfl ?_)
        refine op (OpS.pass rfl rfl rfl ?_)
        refine op (OpS.pass rfl rfl rfl ?_)
        refine op (OpS.pass rfl rfl rfl ?_)
        refine op (OpS.pass rfl rfl rfl ?_)
        refine op (OpS.pick rfl rfl rfl rfl ?_)
        refine op (OpS.as rfl rfl rfl ?_)
        refine RunL.nil ?_
        refine Run.slim [(4, .bool false)] ⟨rfl, trivial⟩ ?_
        refine Run.retP rfl (.tmp rfl .nil) ?_
        cases hF
        exact Post.mk' ⟨rfl, rfl, rfl, rfl⟩ (h2.picks .nil) .nil
      ·
       refine op (OpS.pass rfl rfl rfl ?_)
       refine op (OpS.pass rfl rfl rfl ?_)
       refine op (OpS.pass rfl rfl rfl ?_)
       refine op (OpS.pass rfl rfl rfl ?_)
       refine op (OpS.pass rfl rfl rfl ?_)
       refine op (OpS.pick rfl rfl rfl rfl ?_)
       refine op (OpS.mv rfl rfl rfl ?_)
       refine op (OpS.pass rfl rfl rfl ?_)
       refine op (OpS.pass rfl rfl rfl ?_)
       refine op (OpS.pass rfl rfl rfl ?_)
       refine op (OpS.pass rfl rfl rfl ?_)
       refine op (OpS.pass rfl rfl rfl ?_)
       refine op (OpS.pick rfl rfl rfl rfl ?_)
       refine op (OpS.as rfl rfl rfl ?_)
       refine RunL.nil ?_
       refine Run.slim [(4, .bool false)] ⟨rfl, trivial⟩ ?_
       refine Run.retP rfl (.tmp rfl .nil) ?_
       cases hF
       exact Post.mk' ⟨rfl, rfl, rfl, rfl⟩ (h2.picks .nil) .nil
     ·
      refine op (OpS.pass rfl rfl rfl ?_)
      refine op (OpS.pass rfl rfl rfl ?_)
      refine op (OpS.pass rfl rfl rfl ?_)
      refine op (OpS.pass rfl rfl rfl ?_)
      refine op (OpS.pass rfl rfl rfl ?_)
      refine op (OpS.pick rfl rfl rfl rfl ?_)
      refine op (OpS.mv rfl rfl rfl ?_)
      refine op (OpS.pass rfl rfl rfl ?_)
      refine op (OpS.pass rfl rfl rfl ?_)
      refine op (OpS.pass rfl rfl rfl ?_)
      refine op (OpS.pass rfl rfl rfl ?_)
      refine op (OpS.pass rfl rfl rfl ?_)
      refine op (OpS.pick rfl rfl rfl rfl ?_)
      refine op (OpS.mv rfl rfl rfl ?_)
      refine op (OpS.pass rfl rfl rfl ?_)
      refine op (OpS.pass rfl rfl rfl ?_)
      refine op (OpS.pass rfl rfl rfl ?_)
      refine op (OpS.pass rfl rfl rfl ?_)
      refine op (OpS.pass rfl rfl rfl ?_)
      refine op (OpS.pick rfl rfl rfl rfl ?_)
      refine op (OpS.as rfl rfl rfl ?_)
      refine RunL.nil ?_
      refine Run.slim [(4, .bool false)] ⟨rfl, trivial⟩ ?_
      refine Run.retP rfl (.tmp rfl .nil) ?_
      cases hF
      exact Post.mk' ⟨rfl, rfl, rfl, rfl⟩ (h2.picks .nil) .nil
    ·
     refine op (OpS.pass rfl rfl rfl ?_)
     refine op (OpS.pass rfl rfl rfl ?_)
     refine op (OpS.pass rfl rfl rfl ?_)
     refine op (OpS.pass rfl rfl rfl ?_)
     refine op (OpS.pass rfl rfl rfl ?_)
     refine op (OpS.pick rfl rfl rfl rfl ?_)
     refine op (OpS.mv rfl rfl rfl ?_)
     refine op (OpS.pass rfl rfl rfl ?_)
     refine op (OpS.pass rfl rfl rfl ?_)
     refine op (OpS.pass rfl rfl rfl ?_)
     refine op (OpS.pass rfl rfl rfl ?_)
     refine op (OpS.pass rfl rfl rfl ?_)
     refine op (OpS.pick rfl rfl rfl rfl ?_)
     refine op (OpS.mv rfl rfl rfl ?_)
     refine op (OpS.pass rfl rfl rfl ?_)
     refine op (OpS.pass rfl rfl rfl ?_)
     refine op (OpS.pass rfl rfl rfl ?_)
     refine op (OpS.pass rfl rfl rfl ?_)
     refine op (OpS.pass rfl rfl rfl ?_)
     refine op (OpS.pick rfl rfl rfl rfl ?_)
     refine op (OpS.mv rfl rfl rfl ?_)
     refine op (OpS.pass rfl rfl rfl ?_)
     refine op (OpS.pass rfl rfl rfl ?_)
     refine op (OpS.pass rfl rfl rfl ?_)
     refine op (OpS.pass rfl rfl rfl ?_)
     refine op (OpS.pass rfl rfl rfl ?_)
     refine op (OpS.pick rfl rfl rfl rfl ?_)
     refine op (OpS.as rfl rfl rfl ?_)
     refine RunL.nil ?_
     refine Run.slim [(4, .bool false)] ⟨rfl, trivial⟩ ?_
     refine Run.retP rfl (.tmp rfl .nil) ?_
     cases hF
     exact Post.mk' ⟨rfl, rfl, rfl, rfl⟩ (h2.picks .nil) .nil
   ·
    refine op (OpS.pass rfl rfl rfl ?_)
    refine op (OpS.pass rfl rfl rfl ?_)
    refine op (OpS.pass rfl rfl rfl ?_)
    refine op (OpS.pass rfl rfl rfl ?_)
    refine op (OpS.pass rfl rfl rfl ?_)
    refine op (OpS.pick rfl rfl rfl rfl ?_)
    refine op (OpS.mv rfl rfl rfl ?_)
    refine op (OpS.pass rfl rfl rfl ?_)
    refine op (OpS.pass rfl rfl rfl ?_)
    refine op (OpS.pass rfl rfl rfl ?_)
    refine op (OpS.pass rfl rfl rfl ?_)
    refine op (OpS.pass rfl rfl rfl ?_)
    refine op (OpS.pick rfl rfl rfl rfl ?_)
    refine op (OpS.mv rfl rfl rfl ?_)
    refine op (OpS.pass rfl rfl rfl ?_)
    refine op (OpS.pass rfl rfl rfl ?_)
    refine op (OpS.pass rfl rfl rfl ?_)
    refine op (OpS.pass rfl rfl rfl ?_)
    refine op (OpS.pass rfl rfl rfl ?_)
    refine op (OpS.pick rfl rfl rfl rfl ?_)
    refine op (OpS.mv rfl rfl rfl ?_)
    refine op (OpS.pass rfl rfl rfl ?_)
    refine op (OpS.pass rfl rfl rfl ?_)
    refine op (OpS.pass rfl rfl rfl ?_)
    refine op (OpS.pass rfl rfl rfl ?_)
    refine op (OpS.pass rfl rfl rfl ?_)
    refine op (OpS.pick rfl rfl rfl rfl ?_)
    refine op (OpS.mv rfl rfl rfl ?_)
    refine op (OpS.pass rfl rfl rfl ?_)
    refine op (OpS.pass rfl rfl rfl ?_)
    refine op (OpS.pass rfl rfl rfl ?_)
    refine op (OpS.pass rfl rfl rfl ?_)
    refine op (OpS.pass rfl rfl rfl ?_)
    refine op (OpS.pick rfl rfl rfl rfl ?_)
    refine op (OpS.as rfl rfl rfl ?_)
    refine RunL.nil ?_
    refine Run.slim [(4, .bool false)] ⟨rfl, trivial⟩ ?_
    refine Run.retP rfl (.tmp rfl .nil) ?_
    cases hF
    exact Post.mk' ⟨rfl, rfl, rfl, rfl⟩ (h2.picks .nil) .nil
  ·
   refine op (OpS.pass rfl rfl rfl ?_)
   refine op (OpS.pass rfl rfl rfl ?_)
   refine op (OpS.pass rfl rfl rfl ?_)
   refine op (OpS.pass rfl rfl rfl ?_)
   refine op (OpS.pass rfl rfl rfl ?_)
   refine op (OpS.pick rfl rfl rfl rfl ?_)
   refine op (OpS.mv rfl rfl rfl ?_)
   refine op (OpS.pass rfl rfl rfl ?_)
   refine op (OpS.pass rfl rfl rfl ?_)
   refine op (OpS.pass rfl rfl rfl ?_)
   refine op (OpS.pass rfl rfl rfl ?_)
   refine op (OpS.pass rfl rfl rfl ?_)
   refine op (OpS.pick rfl rfl rfl rfl ?_)
   refine op (OpS.mv rfl rfl rfl ?_)
   refine op (OpS.pass rfl rfl rfl ?_)
   refine op (OpS.pass rfl rfl rfl ?_)
   refine op (OpS.pass rfl rfl rfl ?_)
   refine op (OpS.pass rfl rfl rfl ?_)
   refine op (OpS.pass rfl rfl rfl ?_)
   refine op (OpS.pick rfl rfl rfl rfl ?_)
   refine op (OpS.mv rfl rfl rfl ?_)
   refine op (OpS.pass rfl rfl rfl ?_)
   refine op (OpS.pass rfl rfl rfl ?_)
   refine op (OpS.pass rfl rfl rfl ?_)
   refine op (OpS.pass rfl rfl rfl ?_)
   refine op (OpS.pass rfl rfl rfl ?_)
   refine op (OpS.pick rfl rfl rfl rfl ?_)
   refine op (OpS.mv rfl rfl rfl ?_)
   refine op (OpS.pass rfl rfl rfl ?_)
   refine op (OpS.pass rfl rfl rfl ?_)
   refine op (OpS.pass rfl rfl rfl ?_)
   refine op (OpS.pass rfl rfl rfl ?_)
   refine op (OpS.pass rfl rfl rfl ?_)
   refine op (OpS.pick rfl rfl rfl rfl ?_)
   refine op (OpS.mv rfl rfl rfl ?_)
   refine op (OpS.pass rfl rfl rfl ?_)
   refine op (OpS.pass rfl rfl rfl ?_)
   refine op (OpS.pass rfl rfl rfl ?_)
   refine op (OpS.pass rfl rfl rfl ?_)
   refine op (OpS.pass rfl rfl rfl ?_)
   refine op (OpS.pick rfl rfl rfl rfl ?_)
   refine op (OpS.as rfl rfl rfl ?_)
   refine RunL.nil ?_
   refine Run.slim [(4, .bool false)] ⟨rfl, trivial⟩ ?_
   refine Run.retP rfl (.tmp rfl .nil) ?_
   cases hF
   exact Post.mk' ⟨rfl, rfl, rfl, rfl⟩ (h2.picks .nil) .nil
 ·
  refine op (OpS.pass rfl rfl rfl ?_)
  refine op (OpS.pass rfl rfl rfl ?_)
  refine op (OpS.pass rfl rfl rfl ?_)
  refine op (OpS.pass rfl rfl rfl ?_)
  refine op (OpS.pass rfl rfl rfl ?_)
  refine op (OpS.pick rfl rfl rfl rfl ?_)
  refine op (OpS.mv rfl rfl rfl ?_)
  refine op (OpS.pass rfl rfl rfl ?_)
  refine op (OpS.pass rfl rfl rfl ?_)
  refine op (OpS.pass rfl rfl rfl ?_)
  refine op (OpS.pass rfl rfl rfl ?_)
  refine op (OpS.pass rfl rfl rfl ?_)
  refine op (OpS.pick rfl rfl rfl rfl ?_)
  refine op (OpS.mv rfl rfl rfl ?_)
  refine op (OpS.pass rfl rfl rfl ?_)
  refine op (OpS.pass rfl rfl rfl ?_)
  refine op (OpS.pass rfl rfl rfl ?_)
  refine op (OpS.pass rfl rfl rfl ?_)
  refine op (OpS.pass rfl rfl rfl ?_)
  refine op (OpS.pick rfl rfl rfl rfl ?_)
  refine op (OpS.mv rfl rfl rfl ?_)
  refine op (OpS.pass rfl rfl rfl ?_)
  refine op (OpS.pass rfl rfl rfl ?_)
  refine op (OpS.pass rfl rfl rfl ?_)
  refine op (OpS.pass rfl rfl rfl ?_)
  refine op (OpS.pass rfl rfl rfl ?_)
  refine op (OpS.pick rfl rfl rfl rfl ?_)
  refine op (OpS.mv rfl rfl rfl ?_)
  refine op (OpS.pass rfl rfl rfl ?_)
  refine op (OpS.pass rfl rfl rfl ?_)
  refine op (OpS.pass rfl rfl rfl ?_)
  refine op (OpS.pass rfl rfl rfl ?_)
  refine op (OpS.pass rfl rfl rfl ?_)
  refine op (OpS.pick rfl rfl rfl rfl ?_)
  refine op (OpS.mv rfl rfl rfl ?_)
  refine op (OpS.pass rfl rfl rfl ?_)
  refine op (OpS.pass rfl rfl rfl ?_)
  refine op (OpS.pass rfl rfl rfl ?_)
  refine op (OpS.pass rfl rfl rfl ?_)
  refine op (OpS.pass rfl rfl rfl ?_)
  refine op (OpS.pick rfl rfl rfl rfl ?_)
  refine op (OpS.mv rfl rfl rfl ?_)
  refine op (OpS.pass rfl rfl rfl ?_)
  refine op (OpS.pass rfl rfl rfl ?_)
  refine op (OpS.pass rfl rfl rfl ?_)
  refine op (OpS.pass rfl rfl rfl ?_)
  refine op (OpS.pass rfl rfl rfl ?_)
  refine op (OpS.pick rfl rfl rfl rfl ?_)
  refine op (OpS.as rfl rfl rfl ?_)
  refine RunL.nil ?_
  refine Run.slim [(4, .bool false)] ⟨rfl, trivial⟩ ?_
  refine Run.retP rfl (.tmp rfl .nil) ?_
  cases hF
  exact Post.mk' ⟨rfl, rfl, rfl, rfl⟩ (h2.picks .nil) .nil
theorem law22_samePackets_ok {fuel : Nat} {a0 : List Packet_} {a1 : List Packet_} {y : Bool} (hF : law22_samePackets fuel a0 a1 = some y) {w : World} {v0 v1 : Value} :
  Spec Try.prog 15 [v0, v1].toArray w [(false, .val (Rep.slice Packet_.rep) v0 a0), (false, .val (Rep.slice Packet_.rep) v1 a1)] [] (fun v Γr Ωr Ωo => v = .bool y ∧ Γr = [] ∧ Ωr = [] ∧ Ωo = []) := by
 refine Spec.of (L := [(0, v0), (1, v1)]) Try.func15 rfl ⟨rfl, rfl, trivial⟩ rfl (fun e h => ?_)
 unfold law22_samePackets at hF
 refine Run.seq ?_
 refine Run.reg ?_
 refine op (OpS.as rfl rfl rfl ?_)
 refine RunL.nil ?_
 refine Run.slim [(0, v0), (1, v1)] ⟨rfl, rfl, trivial⟩ ?_
 refine Run.seq ?_
 refine Run.seq ?_
 refine Run.reg ?_
 refine op (OpS.mv rfl rfl rfl ?_)
 refine op (OpS.len h Try.underlying27 rfl rfl rfl (V.at .z) ?_)
 refine op (OpS.mv rfl rfl rfl ?_)
 refine op (OpS.len h Try.underlying27 rfl rfl rfl (V.at (.s .z)) ?_)
 refine op (OpS.bin rfl rfl rfl rfl rfl ?_)
 refine RunL.nil ?_
 refine Run.slim [(10, .bool ((a0.length : Int) != (a1.length : Int))), (0, v0), (1, v1)] ⟨rfl, rfl, rfl, trivial⟩ ?_
 refine Run.ite rfl hF (fun e1 hF => ?_) (fun e1 hF => ?_)
 ·
  refine Run.seq ?_
  refine Run.reg ?_
  refine op (OpS.as rfl rfl rfl ?_)
  refine RunL.nil ?_
  refine Run.slim [(4, .bool false)] ⟨rfl, trivial⟩ ?_
  refine Run.retP rfl (.tmp rfl .nil) ?_
  cases hF
  exact Post.mk' ⟨rfl, rfl, rfl, rfl⟩ (h.picks .nil) .nil
 ·
  refine Run.skip ?_
  refine Run.seq ?_
  refine Run.seq ?_
  refine Run.reg ?_
  refine op (OpS.as rfl rfl rfl ?_)
  refine RunL.nil ?_
  refine Run.slim [(5, .int .i64 0), (0, v0), (1, v1)] ⟨rfl, rfl, rfl, trivial⟩ ?_
  refine Run.block ?_
  refine Run.slim [(0, v0), (1, v1), (5, .int .i64 0)] ⟨rfl, rfl, rfl, trivial⟩ ?_
  refine Run.loopP (σ := Int) (fun s_ L_ w_ => L_ = [(0, v0), (1, v1), (5, .int .i64 s_)] ∧ St e w_ [(false, .val (Rep.slice Packet_.rep) v0 a0), (false, .val (Rep.slice Packet_.rep) v1 a1)] []) hF ⟨rfl, (h.facts (.atm .z (.atm (.s .z) .nil))).picks .nil⟩ (fun k1 hk1 s1 _ w1 hI hF => ?_)
  obtain ⟨rfl, h1⟩ := hI
  refine Run.seq ?_
  refine Run.seq ?_
  refine Run.reg ?_
  refine op (OpS.mv rfl rfl rfl ?_)
  refine op (OpS.mv rfl rfl rfl ?_)
  refine op (OpS.len h1 Try.underlying27 rfl rfl rfl (V.at .z) ?_)
  refine op (OpS.bin rfl rfl rfl rfl rfl ?_)
  refine RunL.nil ?_
  refine Run.slim [(14, .bool (decide (s1 < (a0.length : Int)))), (0, v0), (1, v1), (5, .int .i64 s1)] ⟨rfl, rfl, rfl, rfl, trivial⟩ ?_
  refine Run.ite rfl hF (fun e2 hF => ?_) (fun e2 hF => ?_)
  ·
   refine Run.skip ?_
   refine Run.seq ?_
   refine Run.block ?_
   refine Run.seq ?_
   obtain ⟨x1, e3, hF⟩ := bindP_use hF
   obtain ⟨x2, e4, hF⟩ := bindP_use hF
   obtain ⟨y1, e5, hF⟩ := bindP_use hF
   refine Run.drawV (Ωs := []) [⟨some 17, some (v0), fun _ => [], fun ds_ u_ => [], [], [], none⟩, ⟨some 18, some (.int .i64 s1), fun _ => [], fun ds_ u_ => [], [], [], none⟩, ⟨some 19, none, fun u_ => [(false, .ptr Packet_.rep u_ x1)], fun ds_ u_ => [], [], [], none⟩, ⟨some 20, none, fun u_ => [(false, .val Packet_.rep u_ x1)], fun ds_ u_ => [], [], [], none⟩, ⟨some 21, some (v1), fun _ => [], fun ds_ u_ => [], [], [], none⟩, ⟨some 22, some (.int .i64 s1), fun _ => [], fun ds_ u_ => [], [], [], none⟩, ⟨some 23, none, fun u_ => [(false, .ptr Packet_.rep u_ x2)], fun ds_ u_ => [], [], [], none⟩, ⟨some 24, none, fun u_ => [(false, .val Packet_.rep u_ x2)], fun ds_ u_ => [], [], [], none⟩, ⟨some 25, some (.bool y1), fun _ => [], fun ds_ u_ => [], [], [], none⟩, ⟨some 26, some (.bool (!y1)), fun _ => [], fun ds_ u_ => [], [], [], none⟩] [[], [], [0, 1], [2], [], [], [4, 5], [6], [3, 7], [8]] [] [0, 1, 2, 3, 4, 5, 6, 7, 8, 9] Try_mixed rfl rfl rfl h1 (.cons ?_ (.cons ?_ (.cons ?_ (.cons ?_ (.cons ?_ (.cons ?_ (.cons ?_ (.cons ?_ (.cons ?_ (.cons ?_ .nil)))))))))) (fun q1 w hq1 h => ?_)
   ·intro q1 w Γx Ωx h
    refine OpS.mv rfl rfl rfl ?_
    exact ⟨undef, rfl, trivial, h⟩
   ·intro q1 w Γx Ωx h
    refine OpS.mv rfl rfl rfl ?_
    exact ⟨undef, rfl, trivial, h⟩
   ·intro q1 w Γx Ωx h
    refine OpS.iptr h Try.underlying27 ty44 rfl rfl rfl rfl (V.at .z) e3 (fun u h8 => ?_)
    exact ⟨u, rfl, trivial, h8⟩
   ·intro q1 w Γx Ωx h
    refine OpS.load h ty44 rfl rfl rfl .z (fun u h9 => ?_)
    exact ⟨u, rfl, trivial, h9⟩
   ·intro q1 w Γx Ωx h
    refine OpS.mv rfl rfl rfl ?_
    exact ⟨undef, rfl, trivial, h⟩
   ·intro q1 w Γx Ωx h
    refine OpS.mv rfl rfl rfl ?_
    exact ⟨undef, rfl, trivial, h⟩
   ·intro q1 w Γx Ωx h
    refine OpS.iptr h Try.underlying27 ty44 rfl rfl rfl rfl (V.at (.s .z)) e4 (fun u h10 => ?_)
    exact ⟨u, rfl, trivial, h10⟩
   ·intro q1 w Γx Ωx h
    refine OpS.load h ty44 rfl rfl rfl .z (fun u h11 => ?_)
    exact ⟨u, rfl, trivial, h11⟩
   ·intro q1 w Γx Ωx h
    refine OpS.callP h Try.func37 rfl rfl rfl rfl (vs := [(q1 3), (q1 7)]) rfl (ref22_Same_ok e5) (.cons (f := false) (V.at .z) (.cons (f := false) (V.at (.s .z)) .nil)) ?_
    rintro _ w3 _ _ _ ⟨rfl, rfl, rfl, rfl⟩ h12
    have h13 := h12 rfl rfl
    simp only [List.cons_append, List.nil_append] at h13
    exact ⟨undef, rfl, trivial, h13⟩
   ·intro q1 w Γx Ωx h
    refine OpS.not rfl rfl rfl ?_
    exact ⟨undef, rfl, trivial, h⟩
   have h14 : St e w [(false, .ptr Packet_.rep (q1 2) x1), (false, .val Packet_.rep (q1 3) x1), (false, .ptr Packet_.rep (q1 6) x2), (false, .val Packet_.rep (q1 7) x2), (false, .val (Rep.slice Packet_.rep) v0 a0), (false, .val (Rep.slice Packet_.rep) v1 a1)] [] := h
   refine RunL.nil ?_
   refine Run.slim [(26, .bool (!y1)), (0, v0), (1, v1), (5, .int .i64 s1)] ⟨rfl, rfl, rfl, rfl, trivial⟩ ?_
   refine Run.ite rfl hF (fun e6 hF => ?_) (fun e6 hF => ?_)
   ·
    refine Run.seq ?_
    refine Run.reg ?_
    refine op (OpS.as rfl rfl rfl ?_)
    refine RunL.nil ?_
    refine Run.slim [(4, .bool false)] ⟨rfl, trivial⟩ ?_
    refine Run.retP rfl (.tmp rfl .nil) ?_
    cases hF
    exact Post.mk' ⟨rfl, rfl, rfl, rfl⟩ (h14.picks .nil) .nil
   ·
    refine Run.skip ?_
    refine Run.endBlock ?_
    refine Run.reg ?_
    refine op (OpS.mv rfl rfl rfl ?_)
    refine op (OpS.bin rfl rfl rfl rfl rfl ?_)
    refine op (OpS.as rfl rfl rfl ?_)
    obtain ⟨x3, e7, hF⟩ := letP_use hF
    refine RunL.name e7 ?_
    refine RunL.nil ?_
    refine Run.slim [(5, .int .i64 x3), (0, v0), (1, v1)] ⟨rfl, rfl, rfl, trivial⟩ ?_
    refine Run.slim [(0, v0), (1, v1), (5, .int .i64 x3)] ⟨rfl, rfl, rfl, trivial⟩ ?_
    exact hk1 (x3) _ _ ⟨rfl, (h14.facts (.atm (.s (.s (.s (.s .z)))) (.atm (.s (.s (.s (.s (.s .z))))) .nil))).picks .nil⟩ hF
  ·
   refine Run.exit rfl ?_
   refine Run.seq ?_
   refine Run.reg ?_
   refine op (OpS.as rfl rfl rfl ?_)
   refine RunL.nil ?_
   refine Run.slim [(4, .bool true)] ⟨rfl, trivial⟩ ?_
   refine Run.retP rfl (.tmp rfl .nil) ?_
   cases hF
   exact Post.mk' ⟨rfl, rfl, rfl, rfl⟩ (h1.picks .nil) .nil
set_option maxHeartbeats 8000000 in
theorem law22_FragmentSplits_ok {fuel : Nat} {a0 : Int} {a1 : Int} {a2 : Bool} {a3 : Int} {a4 : Int} {a5 : List Int} {y : Bool} (hF : law22_FragmentSplits fuel a0 a1 a2 a3 a4 a5 = some y) {w : World} {v5 : Value} :
  Spec Try.prog 3 [.int .u8 a0, .int .u8 a1, .bool a2, .int .i64 a3, .int .i64 a4, v5].toArray w [(false, .val (Rep.slice (Rep.int .u8)) v5 a5)] [] (fun v Γr Ωr Ωo => v = .bool y ∧ Γr = [] ∧ Ωr = [] ∧ Ωo = []) := by
 refine Spec.of (L := [(0, .int .u8 a0), (1, .int .u8 a1), (2, .bool a2), (3, .int .i64 a3), (4, .int .i64 a4), (5, v5)]) Try.func3 rfl ⟨rfl, rfl, rfl, rfl, rfl, rfl, trivial⟩ rfl (fun e h => ?_)
 unfold law22_FragmentSplits at hF
 refine Run.seq ?_
 refine Run.reg ?_
 refine op (OpS.as rfl rfl rfl ?_)
 refine RunL.nil ?_
 refine Run.slim [(0, .int .u8 a0), (1, .int .u8 a1), (2, .bool a2), (3, .int .i64 a3), (4, .int .i64 a4), (5, v5)] ⟨rfl, rfl, rfl, rfl, rfl, rfl, trivial⟩ ?_
 refine Run.seq ?_
 refine Run.seq ?_
 refine Run.reg ?_
 refine op (OpS.mv rfl rfl rfl ?_)
 refine op (OpS.len h Try.underlying22 rfl rfl rfl (V.at .z) ?_)
 refine op (OpS.bin rfl rfl rfl rfl rfl ?_)
 refine RunL.nil ?_
 refine Run.slim [(25, .bool (decide ((a5.length : Int) > 700))), (0, .int .u8 a0), (1, .int .u8 a1), (2, .bool a2), (3, .int .i64 a3), (4, .int .i64 a4), (5, v5)] ⟨rfl, rfl, rfl, rfl, rfl, rfl, rfl, trivial⟩ ?_
 refine Run.ite rfl hF (fun e1 hF => ?_) (fun e1 hF => ?_)
 ·
  refine Run.seq ?_
  refine Run.reg ?_
  obtain ⟨y1, e2, hF⟩ := bindP_use hF
  refine op (OpS.callP h Try.func11 rfl rfl rfl rfl (vs := []) rfl (law22_awake_ok e2) .nil ?_)
  rintro _ w1 _ _ _ ⟨rfl, rfl, rfl, rfl⟩ h1
  have h2 := h1 rfl rfl
  simp only [List.cons_append, List.nil_append] at h2
  refine op (OpS.as rfl rfl rfl ?_)
  refine RunL.nil ?_
  refine Run.slim [(12, .bool y1)] ⟨rfl, trivial⟩ ?_
  refine Run.retP rfl (.tmp rfl .nil) ?_
  cases hF
  exact Post.mk' ⟨rfl, rfl, rfl, rfl⟩ (h2.picks .nil) .nil
 ·
  refine Run.skip ?_
  refine Run.seq ?_
  refine Run.seq ?_
  refine Run.reg ?_
  refine op (OpS.mv rfl rfl rfl ?_)
  refine op (OpS.mv rfl rfl rfl ?_)
  refine op (OpS.buildA (f := true) (r := (Rep.int .i64)) h Try.underlying24 ti3 rfl ti24 rfl rfl rfl (.cons rfl V.int (.cons rfl V.int .nil)) rfl (fun u1 h3 => ?_))
  refine op (OpS.mv rfl rfl rfl ?_)
  obtain ⟨y2, e3, hF⟩ := bindP_use hF
  refine op (OpS.callP h3 Try.func12 rfl rfl rfl rfl (vs := [.int .i64 a3, .int .i64 9]) rfl (made_Mod_ok e3) .nil ?_)
  rintro _ w2 _ _ _ ⟨rfl, rfl, rfl, rfl⟩ h4
  have h5 := h4 rfl rfl
  simp only [List.cons_append, List.nil_append] at h5
  refine op (OpS.mv rfl rfl rfl ?_)
  obtain ⟨y3, e4, hF⟩ := bindP_use hF
  refine op (OpS.callP h5 Try.func12 rfl rfl rfl rfl (vs := [.int .i64 a4, .int .i64 67]) rfl (made_Mod_ok e4) .nil ?_)
  rintro _ w3 _ _ _ ⟨rfl, rfl, rfl, rfl⟩ h6
  have h7 := h6 rfl rfl
  simp only [List.cons_append, List.nil_append] at h7
  refine op (OpS.buildA (f := true) (r := (Rep.int .i64)) h7 Try.underlying24 ti3 rfl ti24 rfl rfl rfl (.cons rfl V.int (.cons rfl V.int .nil)) rfl (fun u2 h8 => ?_))
  refine op (OpS.lit (r := (Rep.arr 2 (Rep.int .i64))) (f := true) h8 Try.underlying26 ti24 rfl rfl rfl rfl rfl (.cons rfl (V.at (.s .z)) (.cons rfl (V.at .z) .nil)) rfl rfl (fun u3 w4 h9 => ?_))
  refine op (OpS.len h9 Try.underlying26 rfl rfl rfl (V.at .z) ?_)
  refine op (OpS.mv rfl rfl rfl ?_)
  refine RunL.nil ?_
  refine Run.slim [(37, .int .i64 0), (36, .int .i64 (([[a3, a4], [y2, y3]]).length : Int)), (35, u3), (0, .int .u8 a0), (1, .int .u8 a1), (2, .bool a2), (5, v5)] ⟨rfl, rfl, rfl, rfl, rfl, rfl, rfl, trivial⟩ ?_
  refine Run.block ?_
  refine Run.slim [(0, .int .u8 a0), (1, .int .u8 a1), (2, .bool a2), (5, v5), (35, u3), (36, .int .i64 (([[a3, a4], [y2, y3]]).length : Int)), (37, .int .i64 0)] ⟨rfl, rfl, rfl, rfl, rfl, rfl, rfl, trivial⟩ ?_
  refine Run.loopP (σ := Int) (fun s_ L_ w_ => L_ = [(0, .int .u8 a0), (1, .int .u8 a1), (2, .bool a2), (5, v5), (35, u3), (36, .int .i64 (([[a3, a4], [y2, y3]]).length : Int)), (37, .int .i64 s_)] ∧ St e w_ [(false, .val (Rep.slice (Rep.int .u8)) v5 a5), (true, .val (Rep.slice (Rep.arr 2 (Rep.int .i64))) u3 ([[a3, a4], [y2, y3]]))] []) hF ⟨rfl, (h9.facts (.atm (.s (.s (.s .z))) (.atm .z .nil))).picks .nil⟩ (fun k1 hk1 s1 _ w5 hI hF => ?_)
  obtain ⟨rfl, h10⟩ := hI
  refine Run.seq ?_
  refine Run.reg ?_
  refine op (OpS.bin rfl rfl rfl rfl rfl ?_)
  refine RunL.nil ?_
  refine Run.seq ?_
  refine Run.ite rfl hF (fun e5 hF => ?_) (fun e5 hF => ?_)
  ·
   refine Run.skip ?_
   refine Run.seq ?_
   refine Run.block ?_
   refine Run.seq ?_
   refine Run.reg ?_
   obtain ⟨x1, e6, hF⟩ := bindP_use hF
   refine op (OpS.iptr h10 Try.underlying26 ty24 rfl rfl rfl rfl (V.at (.s .z)) e6 (fun u4 h11 => ?_))
   refine op (OpS.load h11 ty24 rfl rfl rfl .z (fun u5 h12 => ?_))
   refine op (OpS.alloc h12 ti24 (Zr.of (Zr.arr (Zr.int .i64 0) 2) rfl) rfl rfl (fun u6 w6 h13 => ?_))
   refine op (OpS.storeB (f' := true) h13 .z PA.z Put.id ty24 rfl rfl rfl (V.at .z) (.inl rfl) (fun w7 h14 => ?_))
   refine RunL.nil ?_
   refine Run.slim [(14, u6), (0, .int .u8 a0), (1, .int .u8 a1), (2, .bool a2), (5, v5), (35, u3), (36, .int .i64 (([[a3, a4], [y2, y3]]).length : Int)), (37, .int .i64 s1)] ⟨rfl, rfl, rfl, rfl, rfl, rfl, rfl, rfl, trivial⟩ ?_
   refine Run.seq ?_
   refine Run.reg ?_
   refine op (OpS.mv rfl rfl rfl ?_)
   refine op (OpS.mv rfl rfl rfl ?_)
   refine op (OpS.mv rfl rfl rfl ?_)
   obtain ⟨x2, e7, hF⟩ := bindP_use hF
   obtain ⟨e8, hF⟩ := chk_use hF
   refine op (OpS.ibox h14 .z PA.z Try.underlying24 ty3 (Nat.eq_of_beq_eq_true e8) rfl rfl rfl rfl e7 ?_)
   refine op (OpS.loadBi h14 .z PA.a (Get.comp Get.id (Get.arr e7)) ty3 rfl rfl rfl ?_)
   obtain ⟨x3, e9, hF⟩ := bindP_use hF
   obtain ⟨e10, hF⟩ := chk_use hF
   refine op (OpS.ibox h14 .z PA.z Try.underlying24 ty3 (Nat.eq_of_beq_eq_true e10) rfl rfl rfl rfl e9 ?_)
   refine op (OpS.loadBi h14 .z PA.a (Get.comp Get.id (Get.arr e9)) ty3 rfl rfl rfl ?_)
   refine op (OpS.mv rfl rfl rfl ?_)
   obtain ⟨y4, e11, hF⟩ := bindP_use hF
   have h15 := h14.front .nil
   refine op (OpS.callO h15 Try.func13 rfl rfl rfl rfl (vs := [.int .u8 a0, .int .u8 a1, .bool a2, .int .i64 x2, .int .i64 x3, v5]) rfl (fragment_Split_ok e11) rfl (.cons (f := false) (V.at (.s (.s .z))) .nil) ?_)
   rintro _ w8 _ _ _ ⟨u7, rfl, rfl, rfl, rfl⟩ h16
   have h17 := h16
   simp only [List.cons_append, List.nil_append] at h17
   refine op (OpS.mv rfl rfl rfl ?_)
   refine op (OpS.ext rfl rfl rfl rfl ?_)
   refine op (OpS.ext rfl rfl rfl rfl ?_)
   refine op (OpS.as rfl rfl rfl ?_)
   have h18 := (h17.pick .z).freeze
   refine op (OpS.as rfl rfl rfl ?_)
   refine RunL.nil ?_
   refine Run.slim [(16, .int .i64 y4.2), (15, u7), (14, u6), (0, .int .u8 a0), (1, .int .u8 a1), (2, .bool a2), (5, v5), (35, u3), (36, .int .i64 (([[a3, a4], [y2, y3]]).length : Int)), (37, .int .i64 s1)] ⟨rfl, rfl, rfl, rfl, rfl, rfl, rfl, rfl, rfl, rfl, trivial⟩ ?_
   refine Run.seq ?_
   refine Run.reg ?_
   refine op (OpS.mv rfl rfl rfl ?_)
   refine op (OpS.mv rfl rfl rfl ?_)
   refine op (OpS.mv rfl rfl rfl ?_)
   obtain ⟨x4, e12, hF⟩ := bindP_use hF
   obtain ⟨e13, hF⟩ := chk_use hF
   refine op (OpS.ibox h18 .z PA.z Try.underlying24 ty3 (Nat.eq_of_beq_eq_true e13) rfl rfl rfl rfl e12 ?_)
   refine op (OpS.loadBi h18 .z PA.a (Get.comp Get.id (Get.arr e12)) ty3 rfl rfl rfl ?_)
   obtain ⟨x5, e14, hF⟩ := bindP_use hF
   obtain ⟨e15, hF⟩ := chk_use hF
   refine op (OpS.ibox h18 .z PA.z Try.underlying24 ty3 (Nat.eq_of_beq_eq_true e15) rfl rfl rfl rfl e14 ?_)
   refine op (OpS.loadBi h18 .z PA.a (Get.comp Get.id (Get.arr e14)) ty3 rfl rfl rfl ?_)
   refine op (OpS.mv rfl rfl rfl ?_)
   obtain ⟨y5, e16, hF⟩ := bindP_use hF
   refine op (OpS.callP h18 Try.func14 rfl rfl rfl rfl (vs := [.int .u8 a0, .int .u8 a1, .bool a2, .int .i64 x4, .int .i64 x5, v5]) rfl (ref22_Split_ok e16) (.cons (f := false) (V.at (.s (.s (.s .z)))) .nil) ?_)
   rintro _ w9 _ _ _ ⟨u8, rfl, rfl, rfl, rfl⟩ h19
   have h20 := h19 rfl rfl
   simp only [List.cons_append, List.nil_append] at h20
   refine op (OpS.mv rfl rfl rfl ?_)
   refine op (OpS.ext rfl rfl rfl rfl ?_)
   refine op (OpS.ext rfl rfl rfl rfl ?_)
   refine op (OpS.as rfl rfl rfl ?_)
   have h21 := (h20.pick .z).freeze
   refine op (OpS.as rfl rfl rfl ?_)
   refine RunL.nil ?_
   refine Run.slim [(18, .int .i64 y5.2), (17, u8), (16, .int .i64 y4.2), (15, u7), (14, u6), (0, .int .u8 a0), (1, .int .u8 a1), (2, .bool a2), (5, v5), (35, u3), (36, .int .i64 (([[a3, a4], [y2, y3]]).length : Int)), (37, .int .i64 s1)] ⟨rfl, rfl, rfl, rfl, rfl, rfl, rfl, rfl, rfl, rfl, rfl, rfl, trivial⟩ ?_
   refine Run.seq ?_
   refine Run.reg ?_
   refine op (OpS.mv rfl rfl rfl ?_)
   obtain ⟨x6, e17, hF⟩ := bindP_use hF
   obtain ⟨e18, hF⟩ := chk_use hF
   refine op (OpS.ibox h21 .z PA.z Try.underlying24 ty3 (Nat.eq_of_beq_eq_true e18) rfl rfl rfl rfl e17 ?_)
   refine op (OpS.loadBi h21 .z PA.a (Get.comp Get.id (Get.arr e17)) ty3 rfl rfl rfl ?_)
   obtain ⟨x7, e19, hF⟩ := bindP_use hF
   obtain ⟨e20, hF⟩ := chk_use hF
   refine op (OpS.ibox h21 .z PA.z Try.underlying24 ty3 (Nat.eq_of_beq_eq_true e20) rfl rfl rfl rfl e19 ?_)
   refine op (OpS.loadBi h21 .z PA.a (Get.comp Get.id (Get.arr e19)) ty3 rfl rfl rfl ?_)
   refine op (OpS.mv rfl rfl rfl ?_)
   obtain ⟨y6, e21, hF⟩ := bindP_use hF
   have h22 := h21.front .nil
   refine op (OpS.callO h22 Try.func13 rfl rfl rfl rfl (vs := [.int .u8 9, .int .u8 10, .bool a2, .int .i64 x6, .int .i64 x7, v5]) rfl (fragment_Split_ok e21) rfl (.cons (f := false) (V.at (.s (.s (.s (.s .z))))) .nil) ?_)
   rintro _ w10 _ _ _ ⟨u9, rfl, rfl, rfl, rfl⟩ h23
   have h24 := h23
   simp only [List.cons_append, List.nil_append] at h24
   refine op (OpS.mv rfl rfl rfl ?_)
   refine op (OpS.ext rfl rfl rfl rfl ?_)
   refine op (OpS.ext rfl rfl rfl rfl ?_)
   refine op (OpS.as rfl rfl rfl ?_)
   have h25 := (h24.pick .z).freeze
   refine op (OpS.as rfl rfl rfl ?_)
   refine RunL.nil ?_
   refine Run.slim [(20, .int .i64 y6.2), (19, u9), (18, .int .i64 y5.2), (17, u8), (16, .int .i64 y4.2), (15, u7), (14, u6), (0, .int .u8 a0), (1, .int .u8 a1), (2, .bool a2), (5, v5), (35, u3), (36, .int .i64 (([[a3, a4], [y2, y3]]).length : Int)), (37, .int .i64 s1)] ⟨rfl, rfl, rfl, rfl, rfl, rfl, rfl, rfl, rfl, rfl, rfl, rfl, rfl, rfl, trivial⟩ ?_
   refine Run.seq ?_
   refine Run.reg ?_
   refine op (OpS.mv rfl rfl rfl ?_)
   obtain ⟨x8, e22, hF⟩ := bindP_use hF
   obtain ⟨e23, hF⟩ := chk_use hF
   refine op (OpS.ibox h25 .z PA.z Try.underlying24 ty3 (Nat.eq_of_beq_eq_true e23) rfl rfl rfl rfl e22 ?_)
   refine op (OpS.loadBi h25 .z PA.a (Get.comp Get.id (Get.arr e22)) ty3 rfl rfl rfl ?_)
   obtain ⟨x9, e24, hF⟩ := bindP_use hF
   obtain ⟨e25, hF⟩ := chk_use hF
   refine op (OpS.ibox h25 .z PA.z Try.underlying24 ty3 (Nat.eq_of_beq_eq_true e25) rfl rfl rfl rfl e24 ?_)
   refine op (OpS.loadBi h25 .z PA.a (Get.comp Get.id (Get.arr e24)) ty3 rfl rfl rfl ?_)
   refine op (OpS.mv rfl rfl rfl ?_)
   obtain ⟨y7, e26, hF⟩ := bindP_use hF
   refine op (OpS.callP h25 Try.func14 rfl rfl rfl rfl (vs := [.int .u8 9, .int .u8 10, .bool a2, .int .i64 x8, .int .i64 x9, v5]) rfl (ref22_Split_ok e26) (.cons (f := false) (V.at (.s (.s (.s (.s (.s .z)))))) .nil) ?_)
   rintro _ w11 _ _ _ ⟨u10, rfl, rfl, rfl, rfl⟩ h26
   have h27 := h26 rfl rfl
   simp only [List.cons_append, List.nil_append] at h27
   refine op (OpS.mv rfl rfl rfl ?_)
   refine op (OpS.ext rfl rfl rfl rfl ?_)
   refine op (OpS.ext rfl rfl rfl rfl ?_)
   refine op (OpS.as rfl rfl rfl ?_)
   have h28 := (h27.pick .z).freeze
   refine op (OpS.as rfl rfl rfl ?_)
   refine RunL.nil ?_
   refine Run.slim [(22, .int .i64 y7.2), (21, u10), (20, .int .i64 y6.2), (19, u9), (18, .int .i64 y5.2), (17, u8), (16, .int .i64 y4.2), (15, u7), (0, .int .u8 a0), (1, .int .u8 a1), (2, .bool a2), (5, v5), (35, u3), (36, .int .i64 (([[a3, a4], [y2, y3]]).length : Int)), (37, .int .i64 s1)] ⟨rfl, rfl, rfl, rfl, rfl, rfl, rfl, rfl, rfl, rfl, rfl, rfl, rfl, rfl, rfl, trivial⟩ ?_
   refine Run.seq ?_
   refine Run.reg ?_
   refine op (OpS.mv rfl rfl rfl ?_)
   refine op (OpS.mv rfl rfl rfl ?_)
   refine op (OpS.bin rfl rfl rfl rfl rfl ?_)
   refine op (OpS.mv rfl rfl rfl ?_)
   refine RunL.join (σ := Bool) (fun s_ L_ w_ => L_ = [(0, .int .u8 a0), (1, .int .u8 a1), (2, .bool a2), (5, v5), (35, u3), (36, .int .i64 (([[a3, a4], [y2, y3]]).length : Int)), (37, .int .i64 s1), (104, .bool s_)] ∧ St e w_ [(false, .val (Rep.slice (Rep.int .u8)) v5 a5), (true, .val (Rep.slice (Rep.arr 2 (Rep.int .i64))) u3 ([[a3, a4], [y2, y3]]))] []) hF (fun s2 _ w12 hI hF => ?_) (fun j1 hj1 hF => ?_)
   ·
    obtain ⟨rfl, h29⟩ := hI
    refine Run.ite rfl hF (fun e27 hF => ?_) (fun e27 hF => ?_)
    ·
     refine Run.seq ?_
     refine Run.reg ?_
     refine op (OpS.as rfl rfl rfl ?_)
     refine RunL.nil ?_
     refine Run.slim [(12, .bool false)] ⟨rfl, trivial⟩ ?_
     refine Run.retP rfl (.tmp rfl .nil) ?_
     cases hF
     exact Post.mk' ⟨rfl, rfl, rfl, rfl⟩ (h29.picks .nil) .nil
    ·
     refine Run.skip ?_
     refine Run.endBlock ?_
     refine Run.reg ?_
     refine op (OpS.bin rfl rfl rfl rfl rfl ?_)
     refine op (OpS.mv rfl rfl rfl ?_)
     refine RunL.nil ?_
     refine Run.slim [(37, .int .i64 (IntKind.i64.wrap (s1 + 1))), (0, .int .u8 a0), (1, .int .u8 a1), (2, .bool a2), (5, v5), (35, u3), (36, .int .i64 (([[a3, a4], [y2, y3]]).length : Int))] ⟨rfl, rfl, rfl, rfl, rfl, rfl, rfl, trivial⟩ ?_
     refine Run.slim [(0, .int .u8 a0), (1, .int .u8 a1), (2, .bool a2), (5, v5), (35, u3), (36, .int .i64 (([[a3, a4], [y2, y3]]).length : Int)), (37, .int .i64 (IntKind.i64.wrap (s1 + 1)))] ⟨rfl, rfl, rfl, rfl, rfl, rfl, rfl, trivial⟩ ?_
     exact hk1 ((IntKind.i64.wrap (s1 + 1))) _ _ ⟨rfl, (h29.facts (.atm .z (.atm (.s .z) .nil))).picks .nil⟩ hF
   ·
    refine RunL.caseb hF (fun e28 hF => ?_) (fun e28 hF => ?_)
    ·
     refine op (OpS.pass rfl rfl rfl ?_)
     refine op (OpS.pass rfl rfl rfl ?_)
     refine op (OpS.pass rfl rfl rfl ?_)
     refine op (OpS.pick rfl rfl rfl rfl ?_)
     refine op (OpS.mv rfl rfl rfl ?_)
     refine op (OpS.pass rfl rfl rfl ?_)
     refine op (OpS.pass rfl rfl rfl ?_)
     refine op (OpS.pass rfl rfl rfl ?_)
     refine op (OpS.pass rfl rfl rfl ?_)
     refine op (OpS.pick rfl rfl rfl rfl ?_)
     refine op (OpS.mv rfl rfl rfl ?_)
     refine op (OpS.pass rfl rfl rfl ?_)
     refine op (OpS.pass rfl rfl rfl ?_)
     refine op (OpS.pass rfl rfl rfl ?_)
     refine op (OpS.pass rfl rfl rfl ?_)
     refine op (OpS.pick rfl rfl rfl rfl ?_)
     refine RunL.nil ?_
     refine Run.slim [(104, .bool true), (0, .int .u8 a0), (1, .int .u8 a1), (2, .bool a2), (5, v5), (35, u3), (36, .int .i64 (([[a3, a4], [y2, y3]]).length : Int)), (37, .int .i64 s1)] ⟨rfl, rfl, rfl, rfl, rfl, rfl, rfl, rfl, trivial⟩ ?_
     refine Run.slim [(0, .int .u8 a0), (1, .int .u8 a1), (2, .bool a2), (5, v5), (35, u3), (36, .int .i64 (([[a3, a4], [y2, y3]]).length : Int)), (37, .int .i64 s1), (104, .bool true)] ⟨rfl, rfl, rfl, rfl, rfl, rfl, rfl, rfl, trivial⟩ ?_
     exact hj1 (true) _ _ ⟨rfl, (h28.facts (.atm (.s (.s (.s (.s (.s (.s .z)))))) (.atm (.s (.s (.s (.s (.s (.s (.s .z))))))) .nil))).picks .nil⟩ hF
    ·
     refine op (OpS.mv rfl rfl rfl ?_)
     refine op (OpS.mv rfl rfl rfl ?_)
     refine op (OpS.bin rfl rfl rfl rfl rfl ?_)
     refine op (OpS.pick rfl rfl rfl rfl ?_)
     refine op (OpS.mv rfl rfl rfl ?_)
     refine RunL.caseb hF (fun e29 hF => ?_) (fun e29 hF => ?_)
     ·
      refine op (OpS.pass rfl rfl rfl ?_)
      refine op (OpS.pass rfl rfl rfl ?_)
      refine op (OpS.pass rfl rfl rfl ?_)
      refine op (OpS.pass rfl rfl rfl ?_)
      refine op (OpS.pick rfl rfl rfl rfl ?_)
      refine op (OpS.mv rfl rfl rfl ?_)
      refine op (OpS.pass rfl rfl rfl ?_)
      refine op (OpS.pass rfl rfl rfl ?_)
      refine op (OpS.pass rfl rfl rfl ?_)
      refine op (OpS.pass rfl rfl rfl ?_)
      refine op (OpS.pick rfl rfl rfl rfl ?_)
      refine RunL.nil ?_
      refine Run.slim [(104, .bool true), (0, .int .u8 a0), (1, .int .u8 a1), (2, .bool a2), (5, v5), (35, u3), (36, .int .i64 (([[a3, a4], [y2, y3]]).length : Int)), (37, .int .i64 s1)] ⟨rfl, rfl, rfl, rfl, rfl, rfl, rfl, rfl, trivial⟩ ?_
      refine Run.slim [(0, .int .u8 a0), (1, .int .u8 a1), (2, .bool a2), (5, v5), (35, u3), (36, .int .i64 (([[a3, a4], [y2, y3]]).length : Int)), (37, .int .i64 s1), (104, .bool true)] ⟨rfl, rfl, rfl, rfl, rfl, rfl, rfl, rfl, trivial⟩ ?_
      exact hj1 (true) _ _ ⟨rfl, (h28.facts (.atm (.s (.s (.s (.s (.s (.s .z)))))) (.atm (.s (.s (.s (.s (.s (.s (.s .z))))))) .nil))).picks .nil⟩ hF
     ·
      refine op (OpS.mv rfl rfl rfl ?_)
      refine op (OpS.mv rfl rfl rfl ?_)
      obtain ⟨y8, e30, hF⟩ := bindP_use hF
      refine op (OpS.callP h28 Try.func15 rfl rfl rfl rfl (vs := [u7, u8]) rfl (law22_samePackets_ok e30) (.cons (f := false) (V.at (.s (.s (.s .z)))) (.cons (f := true) (V.at (.s (.s .z))) .nil)) ?_)
      rintro _ w13 _ _ _ ⟨rfl, rfl, rfl, rfl⟩ h30
      have h31 := h30 rfl rfl
      simp only [List.cons_append, List.nil_append] at h31
      refine op (OpS.not rfl rfl rfl ?_)
      refine op (OpS.pick rfl rfl rfl rfl ?_)
      refine op (OpS.mv rfl rfl rfl ?_)
      refine RunL.caseb hF (fun e31 hF => ?_) (fun e31 hF => ?_)
      ·
       refine op (OpS.pass rfl rfl rfl ?_)
       refine op (OpS.pass rfl rfl rfl ?_)
       refine op (OpS.pass rfl rfl rfl ?_)
       refine op (OpS.pass rfl rfl rfl ?_)
       refine op (OpS.pick rfl rfl rfl rfl ?_)
       refine RunL.nil ?_
       refine Run.slim [(104, .bool true), (0, .int .u8 a0), (1, .int .u8 a1), (2, .bool a2), (5, v5), (35, u3), (36, .int .i64 (([[a3, a4], [y2, y3]]).length : Int)), (37, .int .i64 s1)] ⟨rfl, rfl, rfl, rfl, rfl, rfl, rfl, rfl, trivial⟩ ?_
       refine Run.slim [(0, .int .u8 a0), (1, .int .u8 a1), (2, .bool a2), (5, v5), (35, u3), (36, .int .i64 (([[a3, a4], [y2, y3]]).length : Int)), (37, .int .i64 s1), (104, .bool true)] ⟨rfl, rfl, rfl, rfl, rfl, rfl, rfl, rfl, trivial⟩ ?_
       exact hj1 (true) _ _ ⟨rfl, (h31.facts (.atm (.s (.s (.s (.s (.s (.s .z)))))) (.atm (.s (.s (.s (.s (.s (.s (.s .z))))))) .nil))).picks .nil⟩ hF
      ·
       refine op (OpS.mv rfl rfl rfl ?_)
       refine op (OpS.mv rfl rfl rfl ?_)
       obtain ⟨y9, e32, hF⟩ := bindP_use hF
       refine op (OpS.callP h31 Try.func15 rfl rfl rfl rfl (vs := [u9, u10]) rfl (law22_samePackets_ok e32) (.cons (f := false) (V.at (.s .z)) (.cons (f := true) (V.at .z) .nil)) ?_)
       rintro _ w14 _ _ _ ⟨rfl, rfl, rfl, rfl⟩ h32
       have h33 := h32 rfl rfl
       simp only [List.cons_append, List.nil_append] at h33
       refine op (OpS.not rfl rfl rfl ?_)
       refine op (OpS.pick rfl rfl rfl rfl ?_)
       refine RunL.nil ?_
       refine Run.slim [(104, .bool (!y9)), (0, .int .u8 a0), (1, .int .u8 a1), (2, .bool a2), (5, v5), (35, u3), (36, .int .i64 (([[a3, a4], [y2, y3]]).length : Int)), (37, .int .i64 s1)] ⟨rfl, rfl, rfl, rfl, rfl, rfl, rfl, rfl, trivial⟩ ?_
       refine Run.slim [(0, .int .u8 a0), (1, .int .u8 a1), (2, .bool a2), (5, v5), (35, u3), (36, .int .i64 (([[a3, a4], [y2, y3]]).length : Int)), (37, .int .i64 s1), (104, .bool (!y9))] ⟨rfl, rfl, rfl, rfl, rfl, rfl, rfl, rfl, trivial⟩ ?_
       exact hj1 (!y9) _ _ ⟨rfl, (h33.facts (.atm (.s (.s (.s (.s (.s (.s .z)))))) (.atm (.s (.s (.s (.s (.s (.s (.s .z))))))) .nil))).picks .nil⟩ hF
  ·
   refine Run.exit rfl ?_
   refine Run.seq ?_
   refine Run.reg ?_
   obtain ⟨y10, e33, hF⟩ := bindP_use hF
   refine op (OpS.callP h10 Try.func11 rfl rfl rfl rfl (vs := []) rfl (law22_awake_ok e33) .nil ?_)
   rintro _ w15 _ _ _ ⟨rfl, rfl, rfl, rfl⟩ h34
   have h35 := h34 rfl rfl
   simp only [List.cons_append, List.nil_append] at h35
   refine op (OpS.as rfl rfl rfl ?_)
   refine RunL.nil ?_
   refine Run.slim [(12, .bool y10)] ⟨rfl, trivial⟩ ?_
   refine Run.retP rfl (.tmp rfl .nil) ?_
   cases hF
   exact Post.mk' ⟨rfl, rfl, rfl, rfl⟩ (h35.picks .nil) .nil
end Lift
