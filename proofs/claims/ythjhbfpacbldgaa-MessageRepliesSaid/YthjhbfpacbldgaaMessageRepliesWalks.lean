/- Each Go function computes its plain function. Written by lift.py. -/
import Derived.Test.YthjhbfpacbldgaaMessageRepliesWalksA
namespace Lift
open Go Go.Proofs
set_option maxHeartbeats 8000000 in
theorem law23_MessageReplies_ok {fuel : Nat} {a0 : Message_} {a1 : Message_} {a2 : List Int} {a3 : Int} {a4 : List Int} {y : Bool} (hF : law23_MessageReplies fuel a0 a1 a2 a3 a4 = some y) {w : World} {v0 v1 v2 v4 : Value} :
    Spec Try.prog 4 [v0, v1, v2, .int .u8 a3, v4].toArray w [(false, .val Message_.rep v0 a0), (false, .val Message_.rep v1 a1), (false, .val (Rep.slice (Rep.int .i64)) v2 a2), (false, .val (Rep.slice (Rep.int .u8)) v4 a4)] [] (fun v Γr Ωr Ωo => v = .bool y ∧ Γr = [] ∧ Ωr = [] ∧ Ωo = []) := by
  refine Spec.of (L := [(0, v0), (1, v1), (2, v2), (3, .int .u8 a3), (4, v4)]) Try.func4 rfl ⟨rfl, rfl, rfl, rfl, rfl, trivial⟩ rfl (fun e h => ?_)
  unfold law23_MessageReplies at hF
  refine Run.seq ?_
  refine Run.reg ?_
  refine RunL.op (OpS.boxF h rfl rfl rfl (V.at .z) (fun u1 w1 h1 => ?_))
  refine RunL.op (OpS.boxF h1 rfl rfl rfl (V.at (.s .z)) (fun u2 w2 h2 => ?_))
  refine RunL.op (OpS.as rfl rfl rfl ?_)
  refine RunL.nil ?_
  refine Run.slim [(6, u2), (5, u1), (2, v2), (3, .int .u8 a3), (4, v4)] ⟨rfl, rfl, rfl, rfl, rfl, trivial⟩ ?_
  refine Run.seq ?_
  refine Run.seq ?_
  refine Run.reg ?_
  refine RunL.op (OpS.fbox (o3 := 8) h2 (.s .z) PA.z fa24_8 rfl rfl rfl rfl ?_)
  refine RunL.op (OpS.loadB h2 (.s .z) PA.a (Get.fld Message_.f8) ty22 rfl rfl rfl (fun u3 h3 => ?_))
  refine RunL.op (OpS.len h3 Try.underlying22 rfl rfl rfl (V.at .z) ?_)
  refine RunL.op (OpS.bin rfl rfl rfl rfl rfl ?_)
  refine RunL.op (OpS.mv rfl rfl rfl ?_)
  refine RunL.join (σ := Bool) (fun s_ L_ w_ => L_ = [(2, v2), (3, .int .u8 a3), (4, v4), (5, u1), (6, u2), (41, .bool s_)] ∧ St e w_ [(false, .val (Rep.slice (Rep.int .i64)) v2 a2), (false, .val (Rep.slice (Rep.int .u8)) v4 a4)] [(false, .box 24 Message_.rep u1 a0), (false, .box 24 Message_.rep u2 a1)]) hF (fun s1 _ w3 hI hF => ?_) (fun j1 hj1 hF => ?_)
  ·
    obtain ⟨rfl, h4⟩ := hI
    refine Run.ite rfl hF (fun e1 hF => ?_) (fun e1 hF => ?_)
    ·
      refine Run.seq ?_
      refine Run.reg ?_
      obtain ⟨y1, e2, hF⟩ := bindP_use hF
      refine RunL.op (OpS.callP h4 Try.func10 rfl rfl rfl rfl (vs := []) rfl (law23_awake_ok e2) .nil ?_)
      rintro _ w4 _ _ _ ⟨rfl, rfl, rfl, rfl⟩ h5
      have h6 := h5 rfl rfl
      simp only [List.cons_append, List.nil_append] at h6
      refine RunL.op (OpS.as rfl rfl rfl ?_)
      refine RunL.nil ?_
      refine Run.slim [(10, .bool y1)] ⟨rfl, trivial⟩ ?_
      refine Run.retP rfl (.tmp rfl .nil) ?_
      cases hF
      exact Post.mk' ⟨rfl, rfl, rfl, rfl⟩ (h6.picks .nil) .nil
    ·
      refine Run.skip ?_
      refine Run.seq ?_
      refine Run.reg ?_
      refine RunL.op (OpS.mv rfl rfl rfl ?_)
      obtain ⟨y2, e3, hF⟩ := bindP_use hF
      have h7 := h4.front .nil
      refine RunL.op (OpS.callO h7 Try.func11 rfl rfl rfl rfl (vs := [v2]) rfl (made_Roll_ok e3) rfl (.cons (V.at .z) .nil) ?_)
      rintro u4 w5 _ _ _ ⟨_, rfl, rfl, rfl, rfl⟩ h8
      have h9 := h8
      simp only [List.cons_append, List.nil_append] at h9
      refine RunL.op (OpS.as rfl rfl rfl ?_)
      refine RunL.nil ?_
      refine Run.slim [(11, u4), (3, .int .u8 a3), (4, v4), (5, u1), (6, u2)] ⟨rfl, rfl, rfl, rfl, rfl, trivial⟩ ?_
      refine Run.seq ?_
      refine Run.reg ?_
      refine RunL.op (OpS.mv rfl rfl rfl ?_)
      refine RunL.op (OpS.mv rfl rfl rfl ?_)
      obtain ⟨y3, e4, hF⟩ := bindP_use hF
      have h10 := h9.front (.cons .z .nil)
      refine RunL.op (OpS.callO h10 Try.func13 rfl rfl rfl rfl (vs := [u4, .int .i64 8]) rfl (made_Dice_Bool_ok e4) rfl .nil ?_)
      rintro _ w6 _ _ _ ⟨rfl, rfl, rfl, rfl⟩ h11
      have h12 := h11
      simp only [List.cons_append, List.nil_append] at h12
      obtain ⟨y4, e5, hF⟩ := bindP_use hF
      have h13 := h12.front (.cons .z .nil)
      refine RunL.op (OpS.callO h13 Try.func12 rfl rfl rfl rfl (vs := [u4, .bool y3.1]) rfl (made_Dice_Message_ok e5) rfl .nil ?_)
      rintro u5 w7 _ _ _ ⟨_, rfl, rfl, rfl, rfl⟩ h14
      have h15 := h14
      simp only [List.cons_append, List.nil_append] at h15
      refine RunL.op (OpS.alloc h15 ti24 Message_.zr rfl rfl (fun u6 w8 h16 => ?_))
      refine RunL.op (OpS.storeB (f' := true) h16 .z PA.z Put.id ty24 rfl rfl rfl (V.at .z) (.inl rfl) (fun w9 h17 => ?_))
      refine RunL.nil ?_
      refine Run.slim [(12, u6), (11, u4), (3, .int .u8 a3), (4, v4), (5, u1), (6, u2)] ⟨rfl, rfl, rfl, rfl, rfl, rfl, trivial⟩ ?_
      refine Run.seq ?_
      obtain ⟨y5, e6, hF⟩ := bindP_use hF
      obtain ⟨y6, e7, hF⟩ := bindP_use hF
      refine Run.drawV (Ωs := [(false, .box 24 Message_.rep u1 a0), (false, .box 24 Message_.rep u2 a1)]) [⟨some 50, none, fun u_ => [(true, .val Message_.rep u_ y4.1)], fun ds_ u_ => [], [], [(0, [])], none⟩, ⟨some 51, some (.int .u8 a3), fun _ => [], fun ds_ u_ => [], [], [], none⟩, ⟨some 52, some (u4), fun _ => [], fun ds_ u_ => [], [], [], none⟩, ⟨some 53, none, fun u_ => [(true, .val (Rep.slice (Rep.int .u8)) u_ y5.1)], fun ds_ u_ => [(false, .box 77 made_Dice.rep u4 y5.2)], [1], [], none⟩, ⟨some 54, none, fun u_ => [(true, .eqv u_ (.tuple #[(tcomp u_ 0), .int .i64 y6.2])), (true, .val Message_.rep (tcomp u_ 0) y6.1)], fun ds_ u_ => [], [], [], none⟩, ⟨some 49, none, fun u_ => [(true, .eqv u_ (.tuple #[(tcomp u_ 0), .int .i64 y6.2])), (true, .val Message_.rep (tcomp u_ 0) y6.1)], fun ds_ u_ => [], [], [], none⟩, ⟨some 55, none, fun u_ => [(true, .val Message_.rep u_ y6.1)], fun ds_ u_ => [], [], [], none⟩, ⟨some 56, some (.int .i64 y6.2), fun _ => [], fun ds_ u_ => [], [], [], none⟩, ⟨some 13, none, fun u_ => [], fun ds_ u_ => [(true, .box 24 Message_.rep u_ Message_.z)], [], [], none⟩, ⟨none, some undef, fun _ => [], fun ds_ u_ => [(true, .box 24 Message_.rep (nth ds_ 0) y6.1)], [10], [], none⟩] [[], [], [], [2], [0, 1, 3], [4], [5], [5], [], [8, 6]] [[(true, .box 24 Message_.rep u6 y4.1)], [(false, .box 77 made_Dice.rep u4 y4.2)]] [0, 2, 3, 4, 5, 6, 7, 8, 9, 11] Try_mixed rfl rfl rfl h17 (.cons ?_ (.cons ?_ (.cons ?_ (.cons ?_ (.cons ?_ (.cons ?_ (.cons ?_ (.cons ?_ (.cons ?_ (.cons ?_ .nil)))))))))) (fun q1 w hq1 h => ?_)
      · intro q1 w Γx Ωx h
        have h : St e w ([(true, .val Message_.rep u5 y4.1), (false, .val (Rep.slice (Rep.int .i64)) v2 a2), (false, .val (Rep.slice (Rep.int .u8)) v4 a4)] ++ Γx) ([(true, .box 24 Message_.rep u6 y4.1), (false, .box 24 Message_.rep u1 a0), (false, .box 24 Message_.rep u2 a1)] ++ Ωx) := h
        refine OpS.loadB h .z PA.z Get.id ty24 rfl rfl rfl (fun u h27 => ?_)
        exact ⟨u, rfl, trivial, h27⟩
      · intro q1 w Γx Ωx h
        refine OpS.mv rfl rfl rfl ?_
        exact ⟨undef, rfl, trivial, h⟩
      · intro q1 w Γx Ωx h
        refine OpS.mv rfl rfl rfl ?_
        exact ⟨undef, rfl, trivial, h⟩
      · intro q1 w Γx Ωx h
        have h : St e w ([(true, .val Message_.rep u5 y4.1), (false, .val (Rep.slice (Rep.int .i64)) v2 a2), (false, .val (Rep.slice (Rep.int .u8)) v4 a4)] ++ Γx) ([(false, .box 77 made_Dice.rep u4 y4.2), (false, .box 24 Message_.rep u1 a0), (false, .box 24 Message_.rep u2 a1)] ++ Ωx) := h
        have h28 := h.front (.cons .z .nil)
        refine OpS.callO h28 Try.func24 rfl rfl rfl rfl (vs := [u4, .int .i64 5]) rfl (made_Dice_Bytes_ok e6) rfl .nil ?_
        rintro u w14 _ _ _ ⟨_, rfl, rfl, rfl, rfl⟩ h29
        have h30 := h29
        simp only [List.cons_append, List.nil_append] at h30
        have h31 := h30.freeze
        exact ⟨u, rfl, trivial, h31⟩
      · intro q1 w Γx Ωx h
        refine OpS.callP h Try.func23 rfl rfl rfl rfl (vs := [(q1 0), .int .u8 a3, (q1 3)]) rfl (ref23_Reply_ok e7) (.cons (V.at .z) (.cons (V.at (.s .z)) .nil)) ?_
        rintro _ w15 _ _ _ ⟨u8, rfl, rfl, rfl, rfl⟩ h32
        have h33 := h32 rfl rfl
        simp only [List.cons_append, List.nil_append] at h33
        exact ⟨_, rfl, trivial, St.eqv rfl h33⟩
      · intro q1 w Γx Ωx h
        refine OpS.mv rfl rfl rfl ?_
        exact ⟨_, rfl, trivial, ((h.dup (.s .z)).dup (.s .z))⟩
      · intro q1 w Γx Ωx h
        refine OpS.extT h .z rfl rfl rfl rfl ?_
        exact ⟨_, rfl, trivial, (h.dup (.s .z))⟩
      · intro q1 w Γx Ωx h
        refine OpS.extT h .z rfl rfl rfl rfl ?_
        exact ⟨undef, rfl, trivial, h⟩
      · intro q1 w Γx Ωx h
        refine OpS.alloc h ti24 Message_.zr rfl rfl (fun u w16 h34 => ?_)
        exact ⟨u, rfl, trivial, h34⟩
      · intro q1 w Γx Ωx h
        have h : St e w ([(true, .val Message_.rep (q1 6) y6.1), (true, .val Message_.rep u5 y4.1), (false, .val (Rep.slice (Rep.int .i64)) v2 a2), (false, .val (Rep.slice (Rep.int .u8)) v4 a4)] ++ Γx) ([(true, .box 24 Message_.rep (q1 8) Message_.z), (false, .box 24 Message_.rep u1 a0), (false, .box 24 Message_.rep u2 a1)] ++ Ωx) := h
        refine OpS.storeB (f' := true) h .z PA.z Put.id ty24 rfl rfl rfl (V.at .z) (.inl rfl) (fun w17 h35 => ?_)
        exact ⟨undef, trivial, trivial, h35⟩
      have h36 : St e w [(true, .val Message_.rep (q1 0) y4.1), (true, .val (Rep.slice (Rep.int .u8)) (q1 3) y5.1), (true, .eqv (q1 4) (.tuple #[(tcomp (q1 4) 0), .int .i64 y6.2])), (true, .val Message_.rep (tcomp (q1 4) 0) y6.1), (true, .eqv (q1 5) (.tuple #[(tcomp (q1 5) 0), .int .i64 y6.2])), (true, .val Message_.rep (tcomp (q1 5) 0) y6.1), (true, .val Message_.rep (q1 6) y6.1), (true, .val Message_.rep u5 y4.1), (false, .val (Rep.slice (Rep.int .i64)) v2 a2), (false, .val (Rep.slice (Rep.int .u8)) v4 a4)] [(true, .box 24 Message_.rep u6 y4.1), (false, .box 77 made_Dice.rep u4 y5.2), (true, .box 24 Message_.rep (q1 8) y6.1), (false, .box 24 Message_.rep u1 a0), (false, .box 24 Message_.rep u2 a1)] := h
      refine RunL.op (OpS.as rfl rfl rfl ?_)
      refine RunL.nil ?_
      refine Run.slim [(13, (q1 8)), (12, u6), (11, u4), (3, .int .u8 a3), (4, v4), (5, u1), (6, u2)] ⟨rfl, rfl, rfl, rfl, rfl, rfl, rfl, trivial⟩ ?_
      refine Run.seq ?_
      refine Run.reg ?_
      refine RunL.op (OpS.loadB h36 (.s (.s .z)) PA.z Get.id ty24 rfl rfl rfl (fun u9 h37 => ?_))
      refine RunL.op (OpS.alloc h37 ti24 Message_.zr rfl rfl (fun u10 w18 h38 => ?_))
      refine RunL.op (OpS.storeB (f' := true) h38 .z PA.z Put.id ty24 rfl rfl rfl (V.at .z) (.inl rfl) (fun w19 h39 => ?_))
      refine RunL.nil ?_
      refine Run.slim [(15, u10), (13, (q1 8)), (12, u6), (11, u4), (3, .int .u8 a3), (4, v4), (5, u1), (6, u2)] ⟨rfl, rfl, rfl, rfl, rfl, rfl, rfl, rfl, trivial⟩ ?_
      refine Run.seq ?_
      refine Run.seq ?_
      refine Run.reg ?_
      refine RunL.op (OpS.mv rfl rfl rfl ?_)
      obtain ⟨y7, e8, hF⟩ := bindP_use hF
      have h40 := h39.front (.cons (.s (.s .z)) .nil)
      refine RunL.op (OpS.callO h40 Try.func14 rfl rfl rfl rfl (vs := [u4, .int .i64 8]) rfl (made_Dice_Next_ok e8) rfl .nil ?_)
      rintro _ w20 _ _ _ ⟨rfl, rfl, rfl, rfl⟩ h41
      have h42 := h41
      simp only [List.cons_append, List.nil_append] at h42
      refine RunL.nil ?_
      refine Run.slim [(59, .int .i64 y7.1), (15, u10), (13, (q1 8)), (12, u6), (11, u4), (3, .int .u8 a3), (4, v4), (5, u1), (6, u2)] ⟨rfl, rfl, rfl, rfl, rfl, rfl, rfl, rfl, rfl, trivial⟩ ?_
      refine Run.block ?_
      refine Run.seq ?_
      refine Run.reg ?_
      refine RunL.op (OpS.bin rfl rfl rfl rfl rfl ?_)
      refine RunL.op (OpS.as rfl rfl rfl ?_)
      obtain ⟨x1, e9, hF⟩ := letP_use hF
      refine RunL.nameb e9 ?_
      refine RunL.nil ?_
      refine Run.slim [(60, .bool x1), (59, .int .i64 y7.1), (15, u10), (13, (q1 8)), (12, u6), (11, u4), (3, .int .u8 a3), (4, v4), (5, u1), (6, u2)] ⟨rfl, rfl, rfl, rfl, rfl, rfl, rfl, rfl, rfl, rfl, trivial⟩ ?_
      refine Run.join (σ := Message_) (fun s_ L_ w_ => L_ = [(3, .int .u8 a3), (4, v4), (5, u1), (6, u2), (12, u6), (13, (q1 8)), (15, u10)] ∧ St e w_ [(false, .val (Rep.slice (Rep.int .u8)) v4 a4)] [(false, .box 24 Message_.rep u1 a0), (false, .box 24 Message_.rep u2 a1), (true, .box 24 Message_.rep u6 y4.1), (true, .box 24 Message_.rep (q1 8) y6.1), (true, .box 24 Message_.rep u10 s_)]) hF (fun s2 _ w21 hI hF => ?_) (fun j2 hj2 hF => ?_)
      ·
        obtain ⟨rfl, h43⟩ := hI
        refine Run.endBlock ?_
        refine Run.seq ?_
        refine Run.seq ?_
        refine Run.reg ?_
        refine RunL.op (OpS.loadB h43 .z PA.z Get.id ty24 rfl rfl rfl (fun u11 h44 => ?_))
        refine RunL.op (OpS.loadB h44 (.s .z) PA.z Get.id ty24 rfl rfl rfl (fun u12 h45 => ?_))
        refine RunL.op (OpS.buildA (f := false) (r := Message_.rep) h45 Try.underlying44 ti24 rfl ti44 rfl rfl rfl (.cons rfl (V.at (.s .z)) (.cons rfl (V.at .z) .nil)) rfl (fun u13 h46 => ?_))
        refine RunL.op (OpS.loadB h46 (.s (.s .z)) PA.z Get.id ty24 rfl rfl rfl (fun u14 h47 => ?_))
        refine RunL.op (OpS.loadB h47 (.s (.s (.s .z))) PA.z Get.id ty24 rfl rfl rfl (fun u15 h48 => ?_))
        refine RunL.op (OpS.buildA (f := true) (r := Message_.rep) h48 Try.underlying44 ti24 rfl ti44 rfl rfl rfl (.cons rfl (V.at (.s .z)) (.cons rfl (V.at .z) .nil)) rfl (fun u16 h49 => ?_))
        refine RunL.op (OpS.loadB h49 (.s (.s .z)) PA.z Get.id ty24 rfl rfl rfl (fun u17 h50 => ?_))
        refine RunL.op (OpS.loadB h50 (.s (.s (.s (.s .z)))) PA.z Get.id ty24 rfl rfl rfl (fun u18 h51 => ?_))
        refine RunL.op (OpS.buildA (f := true) (r := Message_.rep) h51 Try.underlying44 ti24 rfl ti44 rfl rfl rfl (.cons rfl (V.at (.s .z)) (.cons rfl (V.at .z) .nil)) rfl (fun u19 h52 => ?_))
        refine RunL.op (OpS.loadB h52 .z PA.z Get.id ty24 rfl rfl rfl (fun u20 h53 => ?_))
        refine RunL.op (OpS.loadB h53 (.s (.s (.s .z))) PA.z Get.id ty24 rfl rfl rfl (fun u21 h54 => ?_))
        refine RunL.op (OpS.buildA (f := false) (r := Message_.rep) h54 Try.underlying44 ti24 rfl ti44 rfl rfl rfl (.cons rfl (V.at (.s .z)) (.cons rfl (V.weak (V.at .z)) .nil)) rfl (fun u22 h55 => ?_))
        refine RunL.op (OpS.lit (r := (Rep.arr 2 Message_.rep)) (f := false) h55 Try.underlying45 ti44 rfl rfl rfl rfl rfl (.cons rfl (V.at (.s (.s (.s (.s (.s (.s (.s (.s (.s .z)))))))))) (.cons rfl (V.weak (V.at (.s (.s (.s (.s (.s (.s .z)))))))) (.cons rfl (V.weak (V.at (.s (.s (.s .z))))) (.cons rfl (V.at .z) .nil)))) rfl rfl (fun u23 w22 h56 => ?_))
        refine RunL.op (OpS.len h56 Try.underlying45 rfl rfl rfl (V.at .z) ?_)
        refine RunL.op (OpS.mv rfl rfl rfl ?_)
        refine RunL.nil ?_
        refine Run.slim [(103, .int .i64 0), (102, .int .i64 (([[a0, a1], [y4.1, y6.1], [y4.1, s2], [a0, y6.1]]).length : Int)), (101, u23), (3, .int .u8 a3), (4, v4)] ⟨rfl, rfl, rfl, rfl, rfl, trivial⟩ ?_
        refine Run.block ?_
        refine Run.slim [(3, .int .u8 a3), (4, v4), (101, u23), (102, .int .i64 (([[a0, a1], [y4.1, y6.1], [y4.1, s2], [a0, y6.1]]).length : Int)), (103, .int .i64 0)] ⟨rfl, rfl, rfl, rfl, rfl, trivial⟩ ?_
        refine Run.loopP (σ := Int) (fun s_ L_ w_ => L_ = [(3, .int .u8 a3), (4, v4), (101, u23), (102, .int .i64 (([[a0, a1], [y4.1, y6.1], [y4.1, s2], [a0, y6.1]]).length : Int)), (103, .int .i64 s_)] ∧ St e w_ [(false, .val (Rep.slice (Rep.int .u8)) v4 a4), (false, .val (Rep.slice (Rep.arr 2 Message_.rep)) u23 ([[a0, a1], [y4.1, y6.1], [y4.1, s2], [a0, y6.1]]))] []) hF ⟨rfl, (h56.facts (.atm (.s (.s (.s (.s (.s (.s (.s (.s (.s (.s (.s (.s (.s .z))))))))))))) (.atm .z .nil))).picks .nil⟩ (fun k1 hk1 s3 _ w23 hI hF => ?_)
        obtain ⟨rfl, h57⟩ := hI
        refine Run.seq ?_
        refine Run.reg ?_
        refine RunL.op (OpS.bin rfl rfl rfl rfl rfl ?_)
        refine RunL.nil ?_
        refine Run.seq ?_
        refine Run.ite rfl hF (fun e10 hF => ?_) (fun e10 hF => ?_)
        ·
          refine Run.skip ?_
          refine Run.seq ?_
          refine Run.block ?_
          refine Run.seq ?_
          refine Run.reg ?_
          obtain ⟨x2, e11, hF⟩ := bindP_use hF
          refine RunL.op (OpS.iptr h57 Try.underlying45 ty44 rfl rfl rfl rfl (V.at (.s .z)) e11 (fun u24 h58 => ?_))
          refine RunL.op (OpS.load h58 ty44 rfl rfl rfl .z (fun u25 h59 => ?_))
          refine RunL.op (OpS.alloc h59 ti44 (Zr.of (Zr.arr Message_.zr 2) rfl) rfl rfl (fun u26 w24 h60 => ?_))
          have h61 := (h60.pick .z).weak
          refine RunL.op (OpS.storeB (f' := false) h61 .z PA.z Put.id ty44 rfl rfl rfl (V.at .z) (.inr rfl) (fun w25 h62 => ?_))
          refine RunL.nil ?_
          refine Run.slim [(17, u26), (3, .int .u8 a3), (4, v4), (101, u23), (102, .int .i64 (([[a0, a1], [y4.1, y6.1], [y4.1, s2], [a0, y6.1]]).length : Int)), (103, .int .i64 s3)] ⟨rfl, rfl, rfl, rfl, rfl, rfl, trivial⟩ ?_
          refine Run.seq ?_
          refine Run.reg ?_
          obtain ⟨x3, e12, hF⟩ := bindP_use hF
          obtain ⟨e13, hF⟩ := chk_use hF
          refine RunL.op (OpS.ibox h62 .z PA.z Try.underlying44 ty24 (Nat.eq_of_beq_eq_true e13) rfl rfl rfl rfl e12 ?_)
          refine RunL.op (OpS.loadB h62 .z PA.a (Get.comp Get.id (Get.arr e12)) ty24 rfl rfl rfl (fun u27 h63 => ?_))
          refine RunL.op (OpS.mv rfl rfl rfl ?_)
          refine RunL.op (OpS.mv rfl rfl rfl ?_)
          obtain ⟨y8, e14, hF⟩ := bindP_use hF
          refine RunL.op (OpS.callP h63 Try.func25 rfl rfl rfl rfl (vs := [u27, .int .u8 a3, v4]) rfl (message_Reply_ok e14) (.cons (V.at .z) (.cons (V.at (.s (.s (.s .z)))) .nil)) ?_)
          rintro _ w26 _ _ _ ⟨u28, rfl, rfl, rfl, rfl⟩ h64
          have h65 := h64 rfl rfl
          simp only [List.cons_append, List.nil_append] at h65
          refine RunL.op (OpS.mv rfl rfl rfl ?_)
          refine RunL.op (OpS.ext rfl rfl rfl rfl ?_)
          refine RunL.op (OpS.ext rfl rfl rfl rfl ?_)
          refine RunL.op (OpS.alloc h65 ti24 Message_.zr rfl rfl (fun u29 w27 h66 => ?_))
          refine RunL.op (OpS.storeB (f' := true) h66 .z PA.z Put.id ty24 rfl rfl rfl (V.at .z) (.inl rfl) (fun w28 h67 => ?_))
          refine RunL.op (OpS.as rfl rfl rfl ?_)
          refine RunL.nil ?_
          refine Run.slim [(19, .int .i64 y8.2), (18, u29), (17, u26), (3, .int .u8 a3), (4, v4), (101, u23), (102, .int .i64 (([[a0, a1], [y4.1, y6.1], [y4.1, s2], [a0, y6.1]]).length : Int)), (103, .int .i64 s3)] ⟨rfl, rfl, rfl, rfl, rfl, rfl, rfl, rfl, trivial⟩ ?_
          refine Run.seq ?_
          refine Run.reg ?_
          obtain ⟨x4, e15, hF⟩ := bindP_use hF
          obtain ⟨e16, hF⟩ := chk_use hF
          refine RunL.op (OpS.ibox h67 (.s .z) PA.z Try.underlying44 ty24 (Nat.eq_of_beq_eq_true e16) rfl rfl rfl rfl e15 ?_)
          refine RunL.op (OpS.loadB h67 (.s .z) PA.a (Get.comp Get.id (Get.arr e15)) ty24 rfl rfl rfl (fun u30 h68 => ?_))
          refine RunL.op (OpS.mv rfl rfl rfl ?_)
          refine RunL.op (OpS.mv rfl rfl rfl ?_)
          obtain ⟨y9, e17, hF⟩ := bindP_use hF
          refine RunL.op (OpS.callP h68 Try.func23 rfl rfl rfl rfl (vs := [u30, .int .u8 a3, v4]) rfl (ref23_Reply_ok e17) (.cons (V.at .z) (.cons (V.at (.s (.s (.s (.s (.s .z)))))) .nil)) ?_)
          rintro _ w29 _ _ _ ⟨u31, rfl, rfl, rfl, rfl⟩ h69
          have h70 := h69 rfl rfl
          simp only [List.cons_append, List.nil_append] at h70
          refine RunL.op (OpS.mv rfl rfl rfl ?_)
          refine RunL.op (OpS.ext rfl rfl rfl rfl ?_)
          refine RunL.op (OpS.ext rfl rfl rfl rfl ?_)
          refine RunL.op (OpS.alloc h70 ti24 Message_.zr rfl rfl (fun u32 w30 h71 => ?_))
          refine RunL.op (OpS.storeB (f' := true) h71 .z PA.z Put.id ty24 rfl rfl rfl (V.at .z) (.inl rfl) (fun w31 h72 => ?_))
          refine RunL.op (OpS.as rfl rfl rfl ?_)
          refine RunL.nil ?_
          refine Run.slim [(21, .int .i64 y9.2), (20, u32), (19, .int .i64 y8.2), (18, u29), (17, u26), (3, .int .u8 a3), (4, v4), (101, u23), (102, .int .i64 (([[a0, a1], [y4.1, y6.1], [y4.1, s2], [a0, y6.1]]).length : Int)), (103, .int .i64 s3)] ⟨rfl, rfl, rfl, rfl, rfl, rfl, rfl, rfl, rfl, rfl, trivial⟩ ?_
          refine Run.seq ?_
          refine Run.join (σ := Bool) (fun s_ L_ w_ => L_ = [(3, .int .u8 a3), (4, v4), (101, u23), (102, .int .i64 (([[a0, a1], [y4.1, y6.1], [y4.1, s2], [a0, y6.1]]).length : Int)), (103, .int .i64 s3), (144, .bool s_)] ∧ St e w_ [(false, .val (Rep.slice (Rep.int .u8)) v4 a4), (false, .val (Rep.slice (Rep.arr 2 Message_.rep)) u23 ([[a0, a1], [y4.1, y6.1], [y4.1, s2], [a0, y6.1]]))] []) hF (fun s4 _ w32 hI hF => ?_) (fun j3 hj3 hF => ?_)
          ·
            obtain ⟨rfl, h73⟩ := hI
            refine Run.ite rfl hF (fun e18 hF => ?_) (fun e18 hF => ?_)
            ·
              refine Run.seq ?_
              refine Run.reg ?_
              refine RunL.op (OpS.as rfl rfl rfl ?_)
              refine RunL.nil ?_
              refine Run.slim [(10, .bool false)] ⟨rfl, trivial⟩ ?_
              refine Run.retP rfl (.tmp rfl .nil) ?_
              cases hF
              exact Post.mk' ⟨rfl, rfl, rfl, rfl⟩ (h73.picks .nil) .nil
            ·
              refine Run.skip ?_
              refine Run.endBlock ?_
              refine Run.reg ?_
              refine RunL.op (OpS.bin rfl rfl rfl rfl rfl ?_)
              refine RunL.op (OpS.mv rfl rfl rfl ?_)
              refine RunL.nil ?_
              refine Run.slim [(103, .int .i64 (IntKind.i64.wrap (s3 + 1))), (3, .int .u8 a3), (4, v4), (101, u23), (102, .int .i64 (([[a0, a1], [y4.1, y6.1], [y4.1, s2], [a0, y6.1]]).length : Int))] ⟨rfl, rfl, rfl, rfl, rfl, trivial⟩ ?_
              refine Run.slim [(3, .int .u8 a3), (4, v4), (101, u23), (102, .int .i64 (([[a0, a1], [y4.1, y6.1], [y4.1, s2], [a0, y6.1]]).length : Int)), (103, .int .i64 (IntKind.i64.wrap (s3 + 1)))] ⟨rfl, rfl, rfl, rfl, rfl, trivial⟩ ?_
              exact hk1 ((IntKind.i64.wrap (s3 + 1))) _ _ ⟨rfl, (h73.facts (.atm .z (.atm (.s .z) .nil))).picks .nil⟩ hF
          ·
            obtain ⟨x5, e19, hF⟩ := letP_use hF
            refine iteP_use hF (fun e20 hF => ?_) (fun e20 hF => ?_)
            ·
              have hG := hF
              subst e20
              have hF := hG
              refine Run.drawV (Ωs := []) [⟨some 123, some (.int .i64 y8.2), fun _ => [], fun ds_ u_ => [], [], [], none⟩, ⟨some 124, some (.int .i64 y9.2), fun _ => [], fun ds_ u_ => [], [], [], none⟩, ⟨some 125, some (.bool (y8.2 != y9.2)), fun _ => [], fun ds_ u_ => [], [], [], none⟩, ⟨some 126, some (.bool true), fun _ => [], fun ds_ u_ => [], [], [], none⟩, ⟨some 127, some undef, fun _ => [], fun _ _ => [], [], [], none⟩, ⟨some 128, some undef, fun _ => [], fun _ _ => [], [], [], none⟩, ⟨some 129, some undef, fun _ => [], fun _ _ => [], [], [], none⟩, ⟨some 130, some undef, fun _ => [], fun _ _ => [], [], [], none⟩, ⟨some 131, some (.bool true), fun _ => [], fun ds_ u_ => [], [], [], none⟩, ⟨some 132, some (.bool true), fun _ => [], fun ds_ u_ => [], [], [], none⟩, ⟨some 133, some undef, fun _ => [], fun _ _ => [], [], [], none⟩, ⟨some 134, some undef, fun _ => [], fun _ _ => [], [], [], none⟩, ⟨some 135, some undef, fun _ => [], fun _ _ => [], [], [], none⟩, ⟨some 136, some undef, fun _ => [], fun _ _ => [], [], [], none⟩, ⟨some 137, some undef, fun _ => [], fun _ _ => [], [], [], none⟩, ⟨some 138, some undef, fun _ => [], fun _ _ => [], [], [], none⟩, ⟨some 139, some undef, fun _ => [], fun _ _ => [], [], [], none⟩, ⟨some 140, some undef, fun _ => [], fun _ _ => [], [], [], none⟩, ⟨some 141, some undef, fun _ => [], fun _ _ => [], [], [], none⟩, ⟨some 142, some undef, fun _ => [], fun _ _ => [], [], [], none⟩, ⟨some 143, some undef, fun _ => [], fun _ _ => [], [], [], none⟩, ⟨some 144, some (.bool true), fun _ => [], fun ds_ u_ => [], [], [], none⟩] [[], [], [0, 1], [2], [3], [3], [3], [3], [3, 7], [8], [9], [9], [9], [9], [9], [9], [9], [9], [9], [9], [9], [9, 20]] [[(true, .box 24 Message_.rep u32 y9.1)], [(true, .box 24 Message_.rep u29 y8.1)], [(false, .box 44 (Rep.arr 2 Message_.rep) u26 x2)]] [0, 1, 2, 3, 4, 5, 6, 7, 8, 9, 10, 11, 12, 13, 14, 15, 16, 17, 18, 19, 20, 21, 22, 23, 24] Try_mixed rfl rfl rfl h72 (.cons ?_ (.cons ?_ (.cons ?_ (.cons ?_ (.cons ?_ (.cons ?_ (.cons ?_ (.cons ?_ (.cons ?_ (.cons ?_ (.cons ?_ (.cons ?_ (.cons ?_ (.cons ?_ (.cons ?_ (.cons ?_ (.cons ?_ (.cons ?_ (.cons ?_ (.cons ?_ (.cons ?_ (.cons ?_ .nil)))))))))))))))))))))) (fun q2 w hq2 h => ?_)
              · intro q2 w Γx Ωx h
                refine OpS.mv rfl rfl rfl ?_
                exact ⟨undef, rfl, trivial, h⟩
              · intro q2 w Γx Ωx h
                refine OpS.mv rfl rfl rfl ?_
                exact ⟨undef, rfl, trivial, h⟩
              · intro q2 w Γx Ωx h
                refine OpS.bin rfl rfl rfl rfl rfl ?_
                exact ⟨undef, rfl, trivial, h⟩
              · intro q2 w Γx Ωx h
                refine OpS.mv rfl rfl rfl ?_
                exact ⟨undef, (congrArg (fun z_ => some (Value.bool z_)) e19), trivial, h⟩
              · intro q2 w Γx Ωx h
                exact OpS.pass rfl rfl rfl ⟨undef, rfl, trivial, h⟩
              · intro q2 w Γx Ωx h
                exact OpS.pass rfl rfl rfl ⟨undef, rfl, trivial, h⟩
              · intro q2 w Γx Ωx h
                exact OpS.pass rfl rfl rfl ⟨undef, rfl, trivial, h⟩
              · intro q2 w Γx Ωx h
                exact OpS.pass rfl rfl rfl ⟨undef, rfl, trivial, h⟩
              · intro q2 w Γx Ωx h
                refine OpS.pick rfl rfl rfl rfl ?_
                exact ⟨undef, rfl, trivial, h⟩
              · intro q2 w Γx Ωx h
                refine OpS.mv rfl rfl rfl ?_
                exact ⟨undef, rfl, trivial, h⟩
              · intro q2 w Γx Ωx h
                exact OpS.pass rfl rfl rfl ⟨undef, rfl, trivial, h⟩
              · intro q2 w Γx Ωx h
                exact OpS.pass rfl rfl rfl ⟨undef, rfl, trivial, h⟩
              · intro q2 w Γx Ωx h
                exact OpS.pass rfl rfl rfl ⟨undef, rfl, trivial, h⟩
              · intro q2 w Γx Ωx h
                exact OpS.pass rfl rfl rfl ⟨undef, rfl, trivial, h⟩
              · intro q2 w Γx Ωx h
                exact OpS.pass rfl rfl rfl ⟨undef, rfl, trivial, h⟩
              · intro q2 w Γx Ωx h
                exact OpS.pass rfl rfl rfl ⟨undef, rfl, trivial, h⟩
              · intro q2 w Γx Ωx h
                exact OpS.pass rfl rfl rfl ⟨undef, rfl, trivial, h⟩
              · intro q2 w Γx Ωx h
                exact OpS.pass rfl rfl rfl ⟨undef, rfl, trivial, h⟩
              · intro q2 w Γx Ωx h
                exact OpS.pass rfl rfl rfl ⟨undef, rfl, trivial, h⟩
              · intro q2 w Γx Ωx h
                exact OpS.pass rfl rfl rfl ⟨undef, rfl, trivial, h⟩
              · intro q2 w Γx Ωx h
                exact OpS.pass rfl rfl rfl ⟨undef, rfl, trivial, h⟩
              · intro q2 w Γx Ωx h
                refine OpS.pick rfl rfl rfl rfl ?_
                exact ⟨undef, rfl, trivial, h⟩
              have h74 : St e w [(true, .val Message_.rep u31 y9.1), (false, .val Message_.rep u30 x4), (true, .val Message_.rep u28 y8.1), (false, .val Message_.rep u27 x3), (false, .val (Rep.arr 2 Message_.rep) u25 x2), (false, .ptr (Rep.arr 2 Message_.rep) u24 x2), (false, .val (Rep.slice (Rep.int .u8)) v4 a4), (false, .val (Rep.slice (Rep.arr 2 Message_.rep)) u23 ([[a0, a1], [y4.1, y6.1], [y4.1, s2], [a0, y6.1]]))] [(true, .box 24 Message_.rep u32 y9.1), (true, .box 24 Message_.rep u29 y8.1), (false, .box 44 (Rep.arr 2 Message_.rep) u26 x2)] := h
              refine RunL.nil ?_
              refine Run.slim [(144, .bool true), (3, .int .u8 a3), (4, v4), (101, u23), (102, .int .i64 (([[a0, a1], [y4.1, y6.1], [y4.1, s2], [a0, y6.1]]).length : Int)), (103, .int .i64 s3)] ⟨rfl, rfl, rfl, rfl, rfl, rfl, trivial⟩ ?_
              refine Run.slim [(3, .int .u8 a3), (4, v4), (101, u23), (102, .int .i64 (([[a0, a1], [y4.1, y6.1], [y4.1, s2], [a0, y6.1]]).length : Int)), (103, .int .i64 s3), (144, .bool true)] ⟨rfl, rfl, rfl, rfl, rfl, rfl, trivial⟩ ?_
              exact hj3 (true) _ _ ⟨rfl, (h74.facts (.atm (.s (.s (.s (.s (.s (.s .z)))))) (.atm (.s (.s (.s (.s (.s (.s (.s .z))))))) .nil))).picks .nil⟩ hF
            ·
              have hG := hF
              subst e20
              have hF := hG
              obtain ⟨y10, e21, hF⟩ := bindP_use hF
              obtain ⟨x6, e22, hF⟩ := letP_use hF
              refine iteP_use hF (fun e23 hF => ?_) (fun e23 hF => ?_)
              ·
                have hG := hF
                subst e23
                have hF := hG
                refine Run.drawV (Ωs := []) [⟨some 123, some (.int .i64 y8.2), fun _ => [], fun ds_ u_ => [], [], [], none⟩, ⟨some 124, some (.int .i64 y9.2), fun _ => [], fun ds_ u_ => [], [], [], none⟩, ⟨some 125, some (.bool (y8.2 != y9.2)), fun _ => [], fun ds_ u_ => [], [], [], none⟩, ⟨some 126, some (.bool false), fun _ => [], fun ds_ u_ => [], [], [], none⟩, ⟨some 127, none, fun u_ => [(true, .val Message_.rep u_ y8.1)], fun ds_ u_ => [], [], [(1, [])], none⟩, ⟨some 128, none, fun u_ => [(true, .val Message_.rep u_ y9.1)], fun ds_ u_ => [], [], [(0, [])], none⟩, ⟨some 129, some (.bool y10), fun _ => [], fun ds_ u_ => [], [], [], none⟩, ⟨some 130, some (.bool (!y10)), fun _ => [], fun ds_ u_ => [], [], [], none⟩, ⟨some 131, some (.bool (!y10)), fun _ => [], fun ds_ u_ => [], [], [], none⟩, ⟨some 132, some (.bool true), fun _ => [], fun ds_ u_ => [], [], [], none⟩, ⟨some 133, some undef, fun _ => [], fun _ _ => [], [], [], none⟩, ⟨some 134, some undef, fun _ => [], fun _ _ => [], [], [], none⟩, ⟨some 135, some undef, fun _ => [], fun _ _ => [], [], [], none⟩, ⟨some 136, some undef, fun _ => [], fun _ _ => [], [], [], none⟩, ⟨some 137, some undef, fun _ => [], fun _ _ => [], [], [], none⟩, ⟨some 138, some undef, fun _ => [], fun _ _ => [], [], [], none⟩, ⟨some 139, some undef, fun _ => [], fun _ _ => [], [], [], none⟩, ⟨some 140, some undef, fun _ => [], fun _ _ => [], [], [], none⟩, ⟨some 141, some undef, fun _ => [], fun _ _ => [], [], [], none⟩, ⟨some 142, some undef, fun _ => [], fun _ _ => [], [], [], none⟩, ⟨some 143, some undef, fun _ => [], fun _ _ => [], [], [], none⟩, ⟨some 144, some (.bool true), fun _ => [], fun ds_ u_ => [], [], [], none⟩] [[], [], [0, 1], [2], [3], [3], [4, 5, 3], [6, 3], [3, 7], [8], [9], [9], [9], [9], [9], [9], [9], [9], [9], [9], [9], [9, 20]] [[(true, .box 24 Message_.rep u32 y9.1)], [(true, .box 24 Message_.rep u29 y8.1)], [(false, .box 44 (Rep.arr 2 Message_.rep) u26 x2)]] [0, 1, 2, 3, 4, 5, 6, 7, 8, 9, 10, 11, 12, 13, 14, 15, 16, 17, 18, 19, 20, 21, 22, 23, 24] Try_mixed rfl rfl rfl h72 (.cons ?_ (.cons ?_ (.cons ?_ (.cons ?_ (.cons ?_ (.cons ?_ (.cons ?_ (.cons ?_ (.cons ?_ (.cons ?_ (.cons ?_ (.cons ?_ (.cons ?_ (.cons ?_ (.cons ?_ (.cons ?_ (.cons ?_ (.cons ?_ (.cons ?_ (.cons ?_ (.cons ?_ (.cons ?_ .nil)))))))))))))))))))))) (fun q2 w hq3 h => ?_)
                · intro q2 w Γx Ωx h
                  refine OpS.mv rfl rfl rfl ?_
                  exact ⟨undef, rfl, trivial, h⟩
                · intro q2 w Γx Ωx h
                  refine OpS.mv rfl rfl rfl ?_
                  exact ⟨undef, rfl, trivial, h⟩
                · intro q2 w Γx Ωx h
                  refine OpS.bin rfl rfl rfl rfl rfl ?_
                  exact ⟨undef, rfl, trivial, h⟩
                · intro q2 w Γx Ωx h
                  refine OpS.mv rfl rfl rfl ?_
                  exact ⟨undef, (congrArg (fun z_ => some (Value.bool z_)) e19), trivial, h⟩
                · intro q2 w Γx Ωx h
                  have h : St e w ([(true, .val Message_.rep u31 y9.1), (false, .val Message_.rep u30 x4), (true, .val Message_.rep u28 y8.1), (false, .val Message_.rep u27 x3), (false, .val (Rep.arr 2 Message_.rep) u25 x2), (false, .ptr (Rep.arr 2 Message_.rep) u24 x2), (false, .val (Rep.slice (Rep.int .u8)) v4 a4), (false, .val (Rep.slice (Rep.arr 2 Message_.rep)) u23 ([[a0, a1], [y4.1, y6.1], [y4.1, s2], [a0, y6.1]]))] ++ Γx) ([(true, .box 24 Message_.rep u29 y8.1)] ++ Ωx) := h
                  refine OpS.loadB h .z PA.z Get.id ty24 rfl rfl rfl (fun u h79 => ?_)
                  exact ⟨u, rfl, trivial, h79⟩
                · intro q2 w Γx Ωx h
                  have h : St e w ([(true, .val Message_.rep u31 y9.1), (false, .val Message_.rep u30 x4), (true, .val Message_.rep u28 y8.1), (false, .val Message_.rep u27 x3), (false, .val (Rep.arr 2 Message_.rep) u25 x2), (false, .ptr (Rep.arr 2 Message_.rep) u24 x2), (false, .val (Rep.slice (Rep.int .u8)) v4 a4), (false, .val (Rep.slice (Rep.arr 2 Message_.rep)) u23 ([[a0, a1], [y4.1, y6.1], [y4.1, s2], [a0, y6.1]]))] ++ Γx) ([(true, .box 24 Message_.rep u32 y9.1)] ++ Ωx) := h
                  refine OpS.loadB h .z PA.z Get.id ty24 rfl rfl rfl (fun u h80 => ?_)
                  exact ⟨u, rfl, trivial, h80⟩
                · intro q2 w Γx Ωx h
                  refine OpS.callP h Try.func26 rfl rfl rfl rfl (vs := [(q2 4), (q2 5)]) rfl (ref23_Same_ok e21) (.cons (V.at .z) (.cons (V.at (.s .z)) .nil)) ?_
                  rintro _ w34 _ _ _ ⟨rfl, rfl, rfl, rfl⟩ h81
                  have h82 := h81 rfl rfl
                  simp only [List.cons_append, List.nil_append] at h82
                  exact ⟨undef, rfl, trivial, h82⟩
                · intro q2 w Γx Ωx h
                  refine OpS.not rfl rfl rfl ?_
                  exact ⟨undef, rfl, trivial, h⟩
                · intro q2 w Γx Ωx h
                  refine OpS.pick rfl rfl rfl rfl ?_
                  exact ⟨undef, rfl, trivial, h⟩
                · intro q2 w Γx Ωx h
                  refine OpS.mv rfl rfl rfl ?_
                  exact ⟨undef, (congrArg (fun z_ => some (Value.bool z_)) e22), trivial, h⟩
                · intro q2 w Γx Ωx h
                  exact OpS.pass rfl rfl rfl ⟨undef, rfl, trivial, h⟩
                · intro q2 w Γx Ωx h
                  exact OpS.pass rfl rfl rfl ⟨undef, rfl, trivial, h⟩
                · intro q2 w Γx Ωx h
                  exact OpS.pass rfl rfl rfl ⟨undef, rfl, trivial, h⟩
                · intro q2 w Γx Ωx h
                  exact OpS.pass rfl rfl rfl ⟨undef, rfl, trivial, h⟩
                · intro q2 w Γx Ωx h
                  exact OpS.pass rfl rfl rfl ⟨undef, rfl, trivial, h⟩
                · intro q2 w Γx Ωx h
                  exact OpS.pass rfl rfl rfl ⟨undef, rfl, trivial, h⟩
                · intro q2 w Γx Ωx h
                  exact OpS.pass rfl rfl rfl ⟨undef, rfl, trivial, h⟩
                · intro q2 w Γx Ωx h
                  exact OpS.pass rfl rfl rfl ⟨undef, rfl, trivial, h⟩
                · intro q2 w Γx Ωx h
                  exact OpS.pass rfl rfl rfl ⟨undef, rfl, trivial, h⟩
                · intro q2 w Γx Ωx h
                  exact OpS.pass rfl rfl rfl ⟨undef, rfl, trivial, h⟩
                · intro q2 w Γx Ωx h
                  exact OpS.pass rfl rfl rfl ⟨undef, rfl, trivial, h⟩
                · intro q2 w Γx Ωx h
                  refine OpS.pick rfl rfl rfl rfl ?_
                  exact ⟨undef, rfl, trivial, h⟩
                have h83 : St e w [(true, .val Message_.rep (q2 4) y8.1), (true, .val Message_.rep (q2 5) y9.1), (true, .val Message_.rep u31 y9.1), (false, .val Message_.rep u30 x4), (true, .val Message_.rep u28 y8.1), (false, .val Message_.rep u27 x3), (false, .val (Rep.arr 2 Message_.rep) u25 x2), (false, .ptr (Rep.arr 2 Message_.rep) u24 x2), (false, .val (Rep.slice (Rep.int .u8)) v4 a4), (false, .val (Rep.slice (Rep.arr 2 Message_.rep)) u23 ([[a0, a1], [y4.1, y6.1], [y4.1, s2], [a0, y6.1]]))] [(true, .box 24 Message_.rep u32 y9.1), (true, .box 24 Message_.rep u29 y8.1), (false, .box 44 (Rep.arr 2 Message_.rep) u26 x2)] := h
                refine RunL.nil ?_
                refine Run.slim [(144, .bool true), (3, .int .u8 a3), (4, v4), (101, u23), (102, .int .i64 (([[a0, a1], [y4.1, y6.1], [y4.1, s2], [a0, y6.1]]).length : Int)), (103, .int .i64 s3)] ⟨rfl, rfl, rfl, rfl, rfl, rfl, trivial⟩ ?_
                refine Run.slim [(3, .int .u8 a3), (4, v4), (101, u23), (102, .int .i64 (([[a0, a1], [y4.1, y6.1], [y4.1, s2], [a0, y6.1]]).length : Int)), (103, .int .i64 s3), (144, .bool true)] ⟨rfl, rfl, rfl, rfl, rfl, rfl, trivial⟩ ?_
                exact hj3 (true) _ _ ⟨rfl, (h83.facts (.atm (.s (.s (.s (.s (.s (.s (.s (.s .z)))))))) (.atm (.s (.s (.s (.s (.s (.s (.s (.s (.s .z))))))))) .nil))).picks .nil⟩ hF
              ·
                have hG := hF
                subst e23
                have hF := hG
                obtain ⟨x7, e24, hF⟩ := bindP_use hF
                obtain ⟨e25, hF⟩ := chk_use hF
                obtain ⟨x8, e26, hF⟩ := bindP_use hF
                obtain ⟨e27, hF⟩ := chk_use hF
                obtain ⟨y11, e28, hF⟩ := bindP_use hF
                obtain ⟨x9, e29, hF⟩ := bindP_use hF
                obtain ⟨e30, hF⟩ := chk_use hF
                obtain ⟨x10, e31, hF⟩ := bindP_use hF
                obtain ⟨e32, hF⟩ := chk_use hF
                obtain ⟨y12, e33, hF⟩ := bindP_use hF
                refine Run.drawV (Ωs := []) [⟨some 123, some (.int .i64 y8.2), fun _ => [], fun ds_ u_ => [], [], [], none⟩, ⟨some 124, some (.int .i64 y9.2), fun _ => [], fun ds_ u_ => [], [], [], none⟩, ⟨some 125, some (.bool (y8.2 != y9.2)), fun _ => [], fun ds_ u_ => [], [], [], none⟩, ⟨some 126, some (.bool false), fun _ => [], fun ds_ u_ => [], [], [], none⟩, ⟨some 127, none, fun u_ => [(true, .val Message_.rep u_ y8.1)], fun ds_ u_ => [], [], [(1, [])], none⟩, ⟨some 128, none, fun u_ => [(true, .val Message_.rep u_ y9.1)], fun ds_ u_ => [], [], [(0, [])], none⟩, ⟨some 129, some (.bool y10), fun _ => [], fun ds_ u_ => [], [], [], none⟩, ⟨some 130, some (.bool (!y10)), fun _ => [], fun ds_ u_ => [], [], [], none⟩, ⟨some 131, some (.bool (!y10)), fun _ => [], fun ds_ u_ => [], [], [], none⟩, ⟨some 132, some (.bool false), fun _ => [], fun ds_ u_ => [], [], [], none⟩, ⟨some 133, some ((padd u26 (0 + (0 : Int).toNat * Message_.rep.n))), fun _ => [], fun ds_ u_ => [], [], [(2, [])], none⟩, ⟨some 134, none, fun u_ => [(false, .val Message_.rep u_ x7)], fun ds_ u_ => [], [], [(2, [])], none⟩, ⟨some 135, some ((padd u26 (0 + (1 : Int).toNat * Message_.rep.n))), fun _ => [], fun ds_ u_ => [], [], [(2, [])], none⟩, ⟨some 136, none, fun u_ => [(false, .val Message_.rep u_ x8)], fun ds_ u_ => [], [], [(2, [])], none⟩, ⟨some 137, some (.bool y11), fun _ => [], fun ds_ u_ => [], [], [], none⟩, ⟨some 138, some ((padd u26 (0 + (0 : Int).toNat * Message_.rep.n))), fun _ => [], fun ds_ u_ => [], [], [(2, [])], none⟩, ⟨some 139, none, fun u_ => [(false, .val Message_.rep u_ x9)], fun ds_ u_ => [], [], [(2, [])], none⟩, ⟨some 140, some ((padd u26 (0 + (1 : Int).toNat * Message_.rep.n))), fun _ => [], fun ds_ u_ => [], [], [(2, [])], none⟩, ⟨some 141, none, fun u_ => [(false, .val Message_.rep u_ x10)], fun ds_ u_ => [], [], [(2, [])], none⟩, ⟨some 142, some (.bool y12), fun _ => [], fun ds_ u_ => [], [], [], none⟩, ⟨some 143, some (.bool (y11 != y12)), fun _ => [], fun ds_ u_ => [], [], [], none⟩, ⟨some 144, some (.bool (y11 != y12)), fun _ => [], fun ds_ u_ => [], [], [], none⟩] [[], [], [0, 1], [2], [3], [3], [4, 5, 3], [6, 3], [3, 7], [8], [9], [10, 9], [9], [12, 9], [11, 13, 9], [9], [15, 9], [9], [17, 9], [16, 18, 9], [14, 19, 9], [9, 20]] [[(true, .box 24 Message_.rep u32 y9.1)], [(true, .box 24 Message_.rep u29 y8.1)], [(false, .box 44 (Rep.arr 2 Message_.rep) u26 x2)]] [0, 1, 2, 3, 4, 5, 6, 7, 8, 9, 10, 11, 12, 13, 14, 15, 16, 17, 18, 19, 20, 21, 22, 23, 24] Try_mixed rfl rfl rfl h72 (.cons ?_ (.cons ?_ (.cons ?_ (.cons ?_ (.cons ?_ (.cons ?_ (.cons ?_ (.cons ?_ (.cons ?_ (.cons ?_ (.cons ?_ (.cons ?_ (.cons ?_ (.cons ?_ (.cons ?_ (.cons ?_ (.cons ?_ (.cons ?_ (.cons ?_ (.cons ?_ (.cons ?_ (.cons ?_ .nil)))))))))))))))))))))) (fun q2 w hq4 h => ?_)
                · intro q2 w Γx Ωx h
                  refine OpS.mv rfl rfl rfl ?_
                  exact ⟨undef, rfl, trivial, h⟩
                · intro q2 w Γx Ωx h
                  refine OpS.mv rfl rfl rfl ?_
                  exact ⟨undef, rfl, trivial, h⟩
                · intro q2 w Γx Ωx h
                  refine OpS.bin rfl rfl rfl rfl rfl ?_
                  exact ⟨undef, rfl, trivial, h⟩
                · intro q2 w Γx Ωx h
                  refine OpS.mv rfl rfl rfl ?_
                  exact ⟨undef, (congrArg (fun z_ => some (Value.bool z_)) e19), trivial, h⟩
                · intro q2 w Γx Ωx h
                  have h : St e w ([(true, .val Message_.rep u31 y9.1), (false, .val Message_.rep u30 x4), (true, .val Message_.rep u28 y8.1), (false, .val Message_.rep u27 x3), (false, .val (Rep.arr 2 Message_.rep) u25 x2), (false, .ptr (Rep.arr 2 Message_.rep) u24 x2), (false, .val (Rep.slice (Rep.int .u8)) v4 a4), (false, .val (Rep.slice (Rep.arr 2 Message_.rep)) u23 ([[a0, a1], [y4.1, y6.1], [y4.1, s2], [a0, y6.1]]))] ++ Γx) ([(true, .box 24 Message_.rep u29 y8.1)] ++ Ωx) := h
                  refine OpS.loadB h .z PA.z Get.id ty24 rfl rfl rfl (fun u h92 => ?_)
                  exact ⟨u, rfl, trivial, h92⟩
                · intro q2 w Γx Ωx h
                  have h : St e w ([(true, .val Message_.rep u31 y9.1), (false, .val Message_.rep u30 x4), (true, .val Message_.rep u28 y8.1), (false, .val Message_.rep u27 x3), (false, .val (Rep.arr 2 Message_.rep) u25 x2), (false, .ptr (Rep.arr 2 Message_.rep) u24 x2), (false, .val (Rep.slice (Rep.int .u8)) v4 a4), (false, .val (Rep.slice (Rep.arr 2 Message_.rep)) u23 ([[a0, a1], [y4.1, y6.1], [y4.1, s2], [a0, y6.1]]))] ++ Γx) ([(true, .box 24 Message_.rep u32 y9.1)] ++ Ωx) := h
                  refine OpS.loadB h .z PA.z Get.id ty24 rfl rfl rfl (fun u h93 => ?_)
                  exact ⟨u, rfl, trivial, h93⟩
                · intro q2 w Γx Ωx h
                  refine OpS.callP h Try.func26 rfl rfl rfl rfl (vs := [(q2 4), (q2 5)]) rfl (ref23_Same_ok e21) (.cons (V.at .z) (.cons (V.at (.s .z)) .nil)) ?_
                  rintro _ w37 _ _ _ ⟨rfl, rfl, rfl, rfl⟩ h94
                  have h95 := h94 rfl rfl
                  simp only [List.cons_append, List.nil_append] at h95
                  exact ⟨undef, rfl, trivial, h95⟩
                · intro q2 w Γx Ωx h
                  refine OpS.not rfl rfl rfl ?_
                  exact ⟨undef, rfl, trivial, h⟩
                · intro q2 w Γx Ωx h
                  refine OpS.pick rfl rfl rfl rfl ?_
                  exact ⟨undef, rfl, trivial, h⟩
                · intro q2 w Γx Ωx h
                  refine OpS.mv rfl rfl rfl ?_
                  exact ⟨undef, (congrArg (fun z_ => some (Value.bool z_)) e22), trivial, h⟩
                · intro q2 w Γx Ωx h
                  have h : St e w ([(true, .val Message_.rep u31 y9.1), (false, .val Message_.rep u30 x4), (true, .val Message_.rep u28 y8.1), (false, .val Message_.rep u27 x3), (false, .val (Rep.arr 2 Message_.rep) u25 x2), (false, .ptr (Rep.arr 2 Message_.rep) u24 x2), (false, .val (Rep.slice (Rep.int .u8)) v4 a4), (false, .val (Rep.slice (Rep.arr 2 Message_.rep)) u23 ([[a0, a1], [y4.1, y6.1], [y4.1, s2], [a0, y6.1]]))] ++ Γx) ([(false, .box 44 (Rep.arr 2 Message_.rep) u26 x2)] ++ Ωx) := h
                  refine OpS.ibox h .z PA.z Try.underlying44 ty24 (Nat.eq_of_beq_eq_true e25) rfl rfl rfl rfl e24 ?_
                  exact ⟨undef, rfl, trivial, h⟩
                · intro q2 w Γx Ωx h
                  have h : St e w ([(true, .val Message_.rep u31 y9.1), (false, .val Message_.rep u30 x4), (true, .val Message_.rep u28 y8.1), (false, .val Message_.rep u27 x3), (false, .val (Rep.arr 2 Message_.rep) u25 x2), (false, .ptr (Rep.arr 2 Message_.rep) u24 x2), (false, .val (Rep.slice (Rep.int .u8)) v4 a4), (false, .val (Rep.slice (Rep.arr 2 Message_.rep)) u23 ([[a0, a1], [y4.1, y6.1], [y4.1, s2], [a0, y6.1]]))] ++ Γx) ([(false, .box 44 (Rep.arr 2 Message_.rep) u26 x2)] ++ Ωx) := h
                  refine OpS.loadB h .z PA.a (Get.comp Get.id (Get.arr e24)) ty24 rfl rfl rfl (fun u h96 => ?_)
                  exact ⟨u, rfl, trivial, h96⟩
                · intro q2 w Γx Ωx h
                  have h : St e w ([(true, .val Message_.rep u31 y9.1), (false, .val Message_.rep u30 x4), (true, .val Message_.rep u28 y8.1), (false, .val Message_.rep u27 x3), (false, .val (Rep.arr 2 Message_.rep) u25 x2), (false, .ptr (Rep.arr 2 Message_.rep) u24 x2), (false, .val (Rep.slice (Rep.int .u8)) v4 a4), (false, .val (Rep.slice (Rep.arr 2 Message_.rep)) u23 ([[a0, a1], [y4.1, y6.1], [y4.1, s2], [a0, y6.1]]))] ++ Γx) ([(false, .box 44 (Rep.arr 2 Message_.rep) u26 x2)] ++ Ωx) := h
                  refine OpS.ibox h .z PA.z Try.underlying44 ty24 (Nat.eq_of_beq_eq_true e27) rfl rfl rfl rfl e26 ?_
                  exact ⟨undef, rfl, trivial, h⟩
                · intro q2 w Γx Ωx h
                  have h : St e w ([(true, .val Message_.rep u31 y9.1), (false, .val Message_.rep u30 x4), (true, .val Message_.rep u28 y8.1), (false, .val Message_.rep u27 x3), (false, .val (Rep.arr 2 Message_.rep) u25 x2), (false, .ptr (Rep.arr 2 Message_.rep) u24 x2), (false, .val (Rep.slice (Rep.int .u8)) v4 a4), (false, .val (Rep.slice (Rep.arr 2 Message_.rep)) u23 ([[a0, a1], [y4.1, y6.1], [y4.1, s2], [a0, y6.1]]))] ++ Γx) ([(false, .box 44 (Rep.arr 2 Message_.rep) u26 x2)] ++ Ωx) := h
                  refine OpS.loadB h .z PA.a (Get.comp Get.id (Get.arr e26)) ty24 rfl rfl rfl (fun u h97 => ?_)
                  exact ⟨u, rfl, trivial, h97⟩
                · intro q2 w Γx Ωx h
                  refine OpS.callP h Try.func27 rfl rfl rfl rfl (vs := [(q2 11), (q2 13)]) rfl (message_Matches_ok e28) (.cons (V.at .z) (.cons (V.at (.s .z)) .nil)) ?_
                  rintro _ w38 _ _ _ ⟨rfl, rfl, rfl, rfl⟩ h98
                  have h99 := h98 rfl rfl
                  simp only [List.cons_append, List.nil_append] at h99
                  exact ⟨undef, rfl, trivial, h99⟩
                · intro q2 w Γx Ωx h
                  have h : St e w ([(true, .val Message_.rep u31 y9.1), (false, .val Message_.rep u30 x4), (true, .val Message_.rep u28 y8.1), (false, .val Message_.rep u27 x3), (false, .val (Rep.arr 2 Message_.rep) u25 x2), (false, .ptr (Rep.arr 2 Message_.rep) u24 x2), (false, .val (Rep.slice (Rep.int .u8)) v4 a4), (false, .val (Rep.slice (Rep.arr 2 Message_.rep)) u23 ([[a0, a1], [y4.1, y6.1], [y4.1, s2], [a0, y6.1]]))] ++ Γx) ([(false, .box 44 (Rep.arr 2 Message_.rep) u26 x2)] ++ Ωx) := h
                  refine OpS.ibox h .z PA.z Try.underlying44 ty24 (Nat.eq_of_beq_eq_true e30) rfl rfl rfl rfl e29 ?_
                  exact ⟨undef, rfl, trivial, h⟩
                · intro q2 w Γx Ωx h
                  have h : St e w ([(true, .val Message_.rep u31 y9.1), (false, .val Message_.rep u30 x4), (true, .val Message_.rep u28 y8.1), (false, .val Message_.rep u27 x3), (false, .val (Rep.arr 2 Message_.rep) u25 x2), (false, .ptr (Rep.arr 2 Message_.rep) u24 x2), (false, .val (Rep.slice (Rep.int .u8)) v4 a4), (false, .val (Rep.slice (Rep.arr 2 Message_.rep)) u23 ([[a0, a1], [y4.1, y6.1], [y4.1, s2], [a0, y6.1]]))] ++ Γx) ([(false, .box 44 (Rep.arr 2 Message_.rep) u26 x2)] ++ Ωx) := h
                  refine OpS.loadB h .z PA.a (Get.comp Get.id (Get.arr e29)) ty24 rfl rfl rfl (fun u h100 => ?_)
                  exact ⟨u, rfl, trivial, h100⟩
                · intro q2 w Γx Ωx h
                  have h : St e w ([(true, .val Message_.rep u31 y9.1), (false, .val Message_.rep u30 x4), (true, .val Message_.rep u28 y8.1), (false, .val Message_.rep u27 x3), (false, .val (Rep.arr 2 Message_.rep) u25 x2), (false, .ptr (Rep.arr 2 Message_.rep) u24 x2), (false, .val (Rep.slice (Rep.int .u8)) v4 a4), (false, .val (Rep.slice (Rep.arr 2 Message_.rep)) u23 ([[a0, a1], [y4.1, y6.1], [y4.1, s2], [a0, y6.1]]))] ++ Γx) ([(false, .box 44 (Rep.arr 2 Message_.rep) u26 x2)] ++ Ωx) := h
                  refine OpS.ibox h .z PA.z Try.underlying44 ty24 (Nat.eq_of_beq_eq_true e32) rfl rfl rfl rfl e31 ?_
                  exact ⟨undef, rfl, trivial, h⟩
                · intro q2 w Γx Ωx h
                  have h : St e w ([(true, .val Message_.rep u31 y9.1), (false, .val Message_.rep u30 x4), (true, .val Message_.rep u28 y8.1), (false, .val Message_.rep u27 x3), (false, .val (Rep.arr 2 Message_.rep) u25 x2), (false, .ptr (Rep.arr 2 Message_.rep) u24 x2), (false, .val (Rep.slice (Rep.int .u8)) v4 a4), (false, .val (Rep.slice (Rep.arr 2 Message_.rep)) u23 ([[a0, a1], [y4.1, y6.1], [y4.1, s2], [a0, y6.1]]))] ++ Γx) ([(false, .box 44 (Rep.arr 2 Message_.rep) u26 x2)] ++ Ωx) := h
                  refine OpS.loadB h .z PA.a (Get.comp Get.id (Get.arr e31)) ty24 rfl rfl rfl (fun u h101 => ?_)
                  exact ⟨u, rfl, trivial, h101⟩
                · intro q2 w Γx Ωx h
                  refine OpS.callP h Try.func28 rfl rfl rfl rfl (vs := [(q2 16), (q2 18)]) rfl (ref23_Matches_ok e33) (.cons (V.at .z) (.cons (V.at (.s .z)) .nil)) ?_
                  rintro _ w39 _ _ _ ⟨rfl, rfl, rfl, rfl⟩ h102
                  have h103 := h102 rfl rfl
                  simp only [List.cons_append, List.nil_append] at h103
                  exact ⟨undef, rfl, trivial, h103⟩
                · intro q2 w Γx Ωx h
                  refine OpS.neb Try.underlying4 rfl rfl rfl rfl ?_
                  exact ⟨undef, rfl, trivial, h⟩
                · intro q2 w Γx Ωx h
                  refine OpS.pick rfl rfl rfl rfl ?_
                  exact ⟨undef, rfl, trivial, h⟩
                have h104 : St e w [(true, .val Message_.rep (q2 4) y8.1), (true, .val Message_.rep (q2 5) y9.1), (false, .val Message_.rep (q2 11) x7), (false, .val Message_.rep (q2 13) x8), (false, .val Message_.rep (q2 16) x9), (false, .val Message_.rep (q2 18) x10), (true, .val Message_.rep u31 y9.1), (false, .val Message_.rep u30 x4), (true, .val Message_.rep u28 y8.1), (false, .val Message_.rep u27 x3), (false, .val (Rep.arr 2 Message_.rep) u25 x2), (false, .ptr (Rep.arr 2 Message_.rep) u24 x2), (false, .val (Rep.slice (Rep.int .u8)) v4 a4), (false, .val (Rep.slice (Rep.arr 2 Message_.rep)) u23 ([[a0, a1], [y4.1, y6.1], [y4.1, s2], [a0, y6.1]]))] [(true, .box 24 Message_.rep u32 y9.1), (true, .box 24 Message_.rep u29 y8.1), (false, .box 44 (Rep.arr 2 Message_.rep) u26 x2)] := h
                refine RunL.nil ?_
                refine Run.slim [(144, .bool (y11 != y12)), (3, .int .u8 a3), (4, v4), (101, u23), (102, .int .i64 (([[a0, a1], [y4.1, y6.1], [y4.1, s2], [a0, y6.1]]).length : Int)), (103, .int .i64 s3)] ⟨rfl, rfl, rfl, rfl, rfl, rfl, trivial⟩ ?_
                refine Run.slim [(3, .int .u8 a3), (4, v4), (101, u23), (102, .int .i64 (([[a0, a1], [y4.1, y6.1], [y4.1, s2], [a0, y6.1]]).length : Int)), (103, .int .i64 s3), (144, .bool (y11 != y12))] ⟨rfl, rfl, rfl, rfl, rfl, rfl, trivial⟩ ?_
                exact hj3 (y11 != y12) _ _ ⟨rfl, (h104.facts (.atm (.s (.s (.s (.s (.s (.s (.s (.s (.s (.s (.s (.s .z)))))))))))) (.atm (.s (.s (.s (.s (.s (.s (.s (.s (.s (.s (.s (.s (.s .z))))))))))))) .nil))).picks .nil⟩ hF
        ·
          refine Run.exit rfl ?_
          refine Run.seq ?_
          refine Run.reg ?_
          obtain ⟨y13, e34, hF⟩ := bindP_use hF
          refine RunL.op (OpS.callP h57 Try.func10 rfl rfl rfl rfl (vs := []) rfl (law23_awake_ok e34) .nil ?_)
          rintro _ w40 _ _ _ ⟨rfl, rfl, rfl, rfl⟩ h105
          have h106 := h105 rfl rfl
          simp only [List.cons_append, List.nil_append] at h106
          refine RunL.op (OpS.as rfl rfl rfl ?_)
          refine RunL.nil ?_
          refine Run.slim [(10, .bool y13)] ⟨rfl, trivial⟩ ?_
          refine Run.retP rfl (.tmp rfl .nil) ?_
          cases hF
          exact Post.mk' ⟨rfl, rfl, rfl, rfl⟩ (h106.picks .nil) .nil
      ·
        refine Run.ite rfl hF (fun e35 hF => ?_) (fun e35 hF => ?_)
        ·
          refine Run.reg ?_
          refine RunL.op (OpS.mv rfl rfl rfl ?_)
          obtain ⟨y14, e36, hF⟩ := bindP_use hF
          have h107 := h42.front (.cons .z .nil)
          refine RunL.op (OpS.callO h107 Try.func14 rfl rfl rfl rfl (vs := [u4, .int .i64 64]) rfl (made_Dice_Next_ok e36) rfl .nil ?_)
          rintro _ w41 _ _ _ ⟨rfl, rfl, rfl, rfl⟩ h108
          have h109 := h108
          simp only [List.cons_append, List.nil_append] at h109
          refine RunL.op (OpS.fbox (o3 := 6) h109 (.s .z) PA.z fa24_6 rfl rfl rfl rfl ?_)
          obtain ⟨d1, e37, hF⟩ := letP_use hF
          refine RunL.op (OpS.storeB (f' := true) h109 (.s .z) PA.a (Put.of (Put.fld Message_.f6) e37) ty3 rfl rfl rfl V.int (.inl rfl) (fun w42 h110 => ?_))
          refine RunL.nil ?_
          refine Run.slim [(15, u10), (13, (q1 8)), (12, u6), (3, .int .u8 a3), (4, v4), (5, u1), (6, u2)] ⟨rfl, rfl, rfl, rfl, rfl, rfl, rfl, trivial⟩ ?_
          refine Run.slim [(3, .int .u8 a3), (4, v4), (5, u1), (6, u2), (12, u6), (13, (q1 8)), (15, u10)] ⟨rfl, rfl, rfl, rfl, rfl, rfl, rfl, trivial⟩ ?_
          exact hj2 (d1) _ _ ⟨rfl, (h110.facts (.atm (.s (.s (.s (.s (.s (.s (.s (.s (.s (.s .z)))))))))) .nil)).picks (.cons (.s (.s (.s (.s .z)))) (.cons (.s (.s (.s (.s .z)))) (.cons (.s (.s .z)) (.cons (.s (.s .z)) (.cons .z .nil)))))⟩ hF
        ·
          refine Run.seq ?_
          refine Run.reg ?_
          refine RunL.op (OpS.bin rfl rfl rfl rfl rfl ?_)
          refine RunL.op (OpS.as rfl rfl rfl ?_)
          obtain ⟨x11, e38, hF⟩ := letP_use hF
          refine RunL.nameb e38 ?_
          refine RunL.nil ?_
          refine Run.slim [(65, .bool x11), (59, .int .i64 y7.1), (15, u10), (13, (q1 8)), (12, u6), (11, u4), (3, .int .u8 a3), (4, v4), (5, u1), (6, u2)] ⟨rfl, rfl, rfl, rfl, rfl, rfl, rfl, rfl, rfl, rfl, trivial⟩ ?_
          refine Run.ite rfl hF (fun e39 hF => ?_) (fun e39 hF => ?_)
          ·
            refine Run.reg ?_
            refine RunL.op (OpS.mv rfl rfl rfl ?_)
            obtain ⟨y15, e40, hF⟩ := bindP_use hF
            have h111 := h42.front (.cons .z .nil)
            refine RunL.op (OpS.callO h111 Try.func15 rfl rfl rfl rfl (vs := [u4]) rfl (made_Dice_Byte_ok e40) rfl .nil ?_)
            rintro _ w43 _ _ _ ⟨rfl, rfl, rfl, rfl⟩ h112
            have h113 := h112
            simp only [List.cons_append, List.nil_append] at h113
            refine RunL.op (OpS.fbox (o3 := 3) h113 (.s .z) PA.z fa24_3 rfl rfl rfl rfl ?_)
            obtain ⟨d2, e41, hF⟩ := letP_use hF
            refine RunL.op (OpS.storeB (f' := true) h113 (.s .z) PA.a (Put.of (Put.fld Message_.f3) e41) ty5 rfl rfl rfl V.int (.inl rfl) (fun w44 h114 => ?_))
            refine RunL.nil ?_
            refine Run.slim [(15, u10), (13, (q1 8)), (12, u6), (3, .int .u8 a3), (4, v4), (5, u1), (6, u2)] ⟨rfl, rfl, rfl, rfl, rfl, rfl, rfl, trivial⟩ ?_
            refine Run.slim [(3, .int .u8 a3), (4, v4), (5, u1), (6, u2), (12, u6), (13, (q1 8)), (15, u10)] ⟨rfl, rfl, rfl, rfl, rfl, rfl, rfl, trivial⟩ ?_
            exact hj2 (d2) _ _ ⟨rfl, (h114.facts (.atm (.s (.s (.s (.s (.s (.s (.s (.s (.s (.s .z)))))))))) .nil)).picks (.cons (.s (.s (.s (.s .z)))) (.cons (.s (.s (.s (.s .z)))) (.cons (.s (.s .z)) (.cons (.s (.s .z)) (.cons .z .nil)))))⟩ hF
          ·
            refine Run.seq ?_
            refine Run.reg ?_
            refine RunL.op (OpS.bin rfl rfl rfl rfl rfl ?_)
            refine RunL.op (OpS.as rfl rfl rfl ?_)
            obtain ⟨x12, e42, hF⟩ := letP_use hF
            refine RunL.nameb e42 ?_
            refine RunL.nil ?_
            refine Run.slim [(70, .bool x12), (59, .int .i64 y7.1), (15, u10), (13, (q1 8)), (12, u6), (11, u4), (3, .int .u8 a3), (4, v4), (5, u1), (6, u2)] ⟨rfl, rfl, rfl, rfl, rfl, rfl, rfl, rfl, rfl, rfl, trivial⟩ ?_
            refine Run.ite rfl hF (fun e43 hF => ?_) (fun e43 hF => ?_)
            ·
              obtain ⟨y16, e44, hF⟩ := bindP_use hF
              refine Run.drawV (Ωs := [(true, .box 24 Message_.rep u6 y4.1), (true, .box 24 Message_.rep (q1 8) y6.1), (false, .box 24 Message_.rep u1 a0), (false, .box 24 Message_.rep u2 a1)]) [⟨some 72, some ((padd u10 2)), fun _ => [], fun ds_ u_ => [], [], [(1, [])], none⟩, ⟨some 73, some (.int .u8 y6.1.Function), fun _ => [], fun ds_ u_ => [], [], [(1, [])], none⟩, ⟨some 74, some (u4), fun _ => [], fun ds_ u_ => [], [], [], none⟩, ⟨some 75, some (.int .i64 y16.1), fun _ => [], fun ds_ u_ => [(false, .box 77 made_Dice.rep u4 y16.2)], [0], [], none⟩, ⟨some 76, some (.int .u8 (IntKind.u8.wrap y16.1)), fun _ => [], fun ds_ u_ => [], [], [], none⟩, ⟨some 77, some (.int .u8 (bXor .u8 y6.1.Function (IntKind.u8.wrap y16.1))), fun _ => [], fun ds_ u_ => [], [], [], none⟩] [[], [0], [], [2], [3], [1, 4]] [[(false, .box 77 made_Dice.rep u4 y7.2)], [(true, .box 24 Message_.rep u10 y6.1)]] [1, 2, 3, 4, 5, 6, 7] Try_mixed rfl rfl rfl h42 (.cons ?_ (.cons ?_ (.cons ?_ (.cons ?_ (.cons ?_ (.cons ?_ .nil)))))) (fun q3 w hq5 h => ?_)
              · intro q3 w Γx Ωx h
                have h : St e w ([(true, .val Message_.rep u9 y6.1), (true, .val Message_.rep (q1 0) y4.1), (true, .val (Rep.slice (Rep.int .u8)) (q1 3) y5.1), (true, .eqv (q1 4) (.tuple #[(tcomp (q1 4) 0), .int .i64 y6.2])), (true, .val Message_.rep (tcomp (q1 4) 0) y6.1), (true, .eqv (q1 5) (.tuple #[(tcomp (q1 5) 0), .int .i64 y6.2])), (true, .val Message_.rep (tcomp (q1 5) 0) y6.1), (true, .val Message_.rep (q1 6) y6.1), (true, .val Message_.rep u5 y4.1), (false, .val (Rep.slice (Rep.int .i64)) v2 a2), (false, .val (Rep.slice (Rep.int .u8)) v4 a4)] ++ Γx) ([(true, .box 24 Message_.rep u10 y6.1), (true, .box 24 Message_.rep u6 y4.1), (true, .box 24 Message_.rep (q1 8) y6.1), (false, .box 24 Message_.rep u1 a0), (false, .box 24 Message_.rep u2 a1)] ++ Ωx) := h
                refine OpS.fbox (o3 := 2) h .z PA.z fa24_2 rfl rfl rfl rfl ?_
                exact ⟨undef, rfl, trivial, h⟩
              · intro q3 w Γx Ωx h
                have h : St e w ([(true, .val Message_.rep u9 y6.1), (true, .val Message_.rep (q1 0) y4.1), (true, .val (Rep.slice (Rep.int .u8)) (q1 3) y5.1), (true, .eqv (q1 4) (.tuple #[(tcomp (q1 4) 0), .int .i64 y6.2])), (true, .val Message_.rep (tcomp (q1 4) 0) y6.1), (true, .eqv (q1 5) (.tuple #[(tcomp (q1 5) 0), .int .i64 y6.2])), (true, .val Message_.rep (tcomp (q1 5) 0) y6.1), (true, .val Message_.rep (q1 6) y6.1), (true, .val Message_.rep u5 y4.1), (false, .val (Rep.slice (Rep.int .i64)) v2 a2), (false, .val (Rep.slice (Rep.int .u8)) v4 a4)] ++ Γx) ([(true, .box 24 Message_.rep u10 y6.1), (true, .box 24 Message_.rep u6 y4.1), (true, .box 24 Message_.rep (q1 8) y6.1), (false, .box 24 Message_.rep u1 a0), (false, .box 24 Message_.rep u2 a1)] ++ Ωx) := h
                refine OpS.loadBi h .z PA.a (Get.fld Message_.f2) ty5 rfl rfl rfl ?_
                exact ⟨undef, rfl, trivial, h⟩
              · intro q3 w Γx Ωx h
                refine OpS.mv rfl rfl rfl ?_
                exact ⟨undef, rfl, trivial, h⟩
              · intro q3 w Γx Ωx h
                have h : St e w ([(true, .val Message_.rep u9 y6.1), (true, .val Message_.rep (q1 0) y4.1), (true, .val (Rep.slice (Rep.int .u8)) (q1 3) y5.1), (true, .eqv (q1 4) (.tuple #[(tcomp (q1 4) 0), .int .i64 y6.2])), (true, .val Message_.rep (tcomp (q1 4) 0) y6.1), (true, .eqv (q1 5) (.tuple #[(tcomp (q1 5) 0), .int .i64 y6.2])), (true, .val Message_.rep (tcomp (q1 5) 0) y6.1), (true, .val Message_.rep (q1 6) y6.1), (true, .val Message_.rep u5 y4.1), (false, .val (Rep.slice (Rep.int .i64)) v2 a2), (false, .val (Rep.slice (Rep.int .u8)) v4 a4)] ++ Γx) ([(false, .box 77 made_Dice.rep u4 y7.2), (true, .box 24 Message_.rep u6 y4.1), (true, .box 24 Message_.rep (q1 8) y6.1), (false, .box 24 Message_.rep u1 a0), (false, .box 24 Message_.rep u2 a1)] ++ Ωx) := h
                have h118 := h.front (.cons .z .nil)
                refine OpS.callO h118 Try.func14 rfl rfl rfl rfl (vs := [u4, .int .i64 4]) rfl (made_Dice_Next_ok e44) rfl .nil ?_
                rintro _ w46 _ _ _ ⟨rfl, rfl, rfl, rfl⟩ h119
                have h120 := h119
                simp only [List.cons_append, List.nil_append] at h120
                exact ⟨undef, rfl, trivial, h120⟩
              · intro q3 w Γx Ωx h
                refine OpS.conv Try.underlying3 Try.underlying5 rfl rfl rfl ?_
                exact ⟨undef, rfl, trivial, h⟩
              · intro q3 w Γx Ωx h
                refine OpS.bin rfl rfl rfl rfl rfl ?_
                exact ⟨undef, rfl, trivial, h⟩
              have h121 : St e w [(true, .val Message_.rep u9 y6.1), (true, .val Message_.rep (q1 0) y4.1), (true, .val (Rep.slice (Rep.int .u8)) (q1 3) y5.1), (true, .eqv (q1 4) (.tuple #[(tcomp (q1 4) 0), .int .i64 y6.2])), (true, .val Message_.rep (tcomp (q1 4) 0) y6.1), (true, .eqv (q1 5) (.tuple #[(tcomp (q1 5) 0), .int .i64 y6.2])), (true, .val Message_.rep (tcomp (q1 5) 0) y6.1), (true, .val Message_.rep (q1 6) y6.1), (true, .val Message_.rep u5 y4.1), (false, .val (Rep.slice (Rep.int .i64)) v2 a2), (false, .val (Rep.slice (Rep.int .u8)) v4 a4)] [(true, .box 24 Message_.rep u10 y6.1), (false, .box 77 made_Dice.rep u4 y16.2), (true, .box 24 Message_.rep u6 y4.1), (true, .box 24 Message_.rep (q1 8) y6.1), (false, .box 24 Message_.rep u1 a0), (false, .box 24 Message_.rep u2 a1)] := h
              refine RunL.op (OpS.fbox (o3 := 2) h121 .z PA.z fa24_2 rfl rfl rfl rfl ?_)
              obtain ⟨d3, e45, hF⟩ := letP_use hF
              refine RunL.op (OpS.storeB (f' := true) h121 .z PA.a (Put.of (Put.fld Message_.f2) e45) ty5 rfl rfl rfl V.int (.inl rfl) (fun w47 h122 => ?_))
              refine RunL.nil ?_
              refine Run.slim [(15, u10), (13, (q1 8)), (12, u6), (3, .int .u8 a3), (4, v4), (5, u1), (6, u2)] ⟨rfl, rfl, rfl, rfl, rfl, rfl, rfl, trivial⟩ ?_
              refine Run.slim [(3, .int .u8 a3), (4, v4), (5, u1), (6, u2), (12, u6), (13, (q1 8)), (15, u10)] ⟨rfl, rfl, rfl, rfl, rfl, rfl, rfl, trivial⟩ ?_
              exact hj2 (d3) _ _ ⟨rfl, (h122.facts (.atm (.s (.s (.s (.s (.s (.s (.s (.s (.s (.s .z)))))))))) .nil)).picks (.cons (.s (.s (.s (.s .z)))) (.cons (.s (.s (.s (.s .z)))) (.cons (.s (.s .z)) (.cons (.s (.s .z)) (.cons .z .nil)))))⟩ hF
            ·
              refine Run.seq ?_
              refine Run.reg ?_
              refine RunL.op (OpS.bin rfl rfl rfl rfl rfl ?_)
              refine RunL.op (OpS.as rfl rfl rfl ?_)
              obtain ⟨x13, e46, hF⟩ := letP_use hF
              refine RunL.nameb e46 ?_
              refine RunL.nil ?_
              refine Run.slim [(79, .bool x13), (59, .int .i64 y7.1), (15, u10), (13, (q1 8)), (12, u6), (11, u4), (3, .int .u8 a3), (4, v4), (5, u1), (6, u2)] ⟨rfl, rfl, rfl, rfl, rfl, rfl, rfl, rfl, rfl, rfl, trivial⟩ ?_
              refine Run.ite rfl hF (fun e47 hF => ?_) (fun e47 hF => ?_)
              ·
                refine Run.reg ?_
                refine RunL.op (OpS.mv rfl rfl rfl ?_)
                obtain ⟨y17, e48, hF⟩ := bindP_use hF
                have h123 := h42.front (.cons .z .nil)
                refine RunL.op (OpS.callO h123 Try.func15 rfl rfl rfl rfl (vs := [u4]) rfl (made_Dice_Byte_ok e48) rfl .nil ?_)
                rintro _ w48 _ _ _ ⟨rfl, rfl, rfl, rfl⟩ h124
                have h125 := h124
                simp only [List.cons_append, List.nil_append] at h125
                refine RunL.op (OpS.fbox (o3 := 1) h125 (.s .z) PA.z fa24_1 rfl rfl rfl rfl ?_)
                obtain ⟨d4, e49, hF⟩ := letP_use hF
                refine RunL.op (OpS.storeB (f' := true) h125 (.s .z) PA.a (Put.of (Put.fld Message_.f1) e49) ty5 rfl rfl rfl V.int (.inl rfl) (fun w49 h126 => ?_))
                refine RunL.nil ?_
                refine Run.slim [(15, u10), (13, (q1 8)), (12, u6), (3, .int .u8 a3), (4, v4), (5, u1), (6, u2)] ⟨rfl, rfl, rfl, rfl, rfl, rfl, rfl, trivial⟩ ?_
                refine Run.slim [(3, .int .u8 a3), (4, v4), (5, u1), (6, u2), (12, u6), (13, (q1 8)), (15, u10)] ⟨rfl, rfl, rfl, rfl, rfl, rfl, rfl, trivial⟩ ?_
                exact hj2 (d4) _ _ ⟨rfl, (h126.facts (.atm (.s (.s (.s (.s (.s (.s (.s (.s (.s (.s .z)))))))))) .nil)).picks (.cons (.s (.s (.s (.s .z)))) (.cons (.s (.s (.s (.s .z)))) (.cons (.s (.s .z)) (.cons (.s (.s .z)) (.cons .z .nil)))))⟩ hF
              ·
                refine Run.seq ?_
                refine Run.reg ?_
                refine RunL.op (OpS.bin rfl rfl rfl rfl rfl ?_)
                refine RunL.op (OpS.as rfl rfl rfl ?_)
                obtain ⟨x14, e50, hF⟩ := letP_use hF
                refine RunL.nameb e50 ?_
                refine RunL.nil ?_
                refine Run.slim [(84, .bool x14), (15, u10), (13, (q1 8)), (12, u6), (11, u4), (3, .int .u8 a3), (4, v4), (5, u1), (6, u2)] ⟨rfl, rfl, rfl, rfl, rfl, rfl, rfl, rfl, rfl, trivial⟩ ?_
                refine Run.ite rfl hF (fun e51 hF => ?_) (fun e51 hF => ?_)
                ·
                  refine Run.reg ?_
                  refine RunL.op (OpS.mv rfl rfl rfl ?_)
                  obtain ⟨y18, e52, hF⟩ := bindP_use hF
                  have h127 := h42.front (.cons .z .nil)
                  refine RunL.op (OpS.callO h127 Try.func14 rfl rfl rfl rfl (vs := [u4, .int .i64 4]) rfl (made_Dice_Next_ok e52) rfl .nil ?_)
                  rintro _ w50 _ _ _ ⟨rfl, rfl, rfl, rfl⟩ h128
                  have h129 := h128
                  simp only [List.cons_append, List.nil_append] at h129
                  refine RunL.op (OpS.fbox (o3 := 4) h129 (.s .z) PA.z fa24_4 rfl rfl rfl rfl ?_)
                  obtain ⟨d5, e53, hF⟩ := letP_use hF
                  refine RunL.op (OpS.storeB (f' := true) h129 (.s .z) PA.a (Put.of (Put.fld Message_.f4) e53) ty3 rfl rfl rfl V.int (.inl rfl) (fun w51 h130 => ?_))
                  refine RunL.nil ?_
                  refine Run.slim [(15, u10), (13, (q1 8)), (12, u6), (3, .int .u8 a3), (4, v4), (5, u1), (6, u2)] ⟨rfl, rfl, rfl, rfl, rfl, rfl, rfl, trivial⟩ ?_
                  refine Run.slim [(3, .int .u8 a3), (4, v4), (5, u1), (6, u2), (12, u6), (13, (q1 8)), (15, u10)] ⟨rfl, rfl, rfl, rfl, rfl, rfl, rfl, trivial⟩ ?_
                  exact hj2 (d5) _ _ ⟨rfl, (h130.facts (.atm (.s (.s (.s (.s (.s (.s (.s (.s (.s (.s .z)))))))))) .nil)).picks (.cons (.s (.s (.s (.s .z)))) (.cons (.s (.s (.s (.s .z)))) (.cons (.s (.s .z)) (.cons (.s (.s .z)) (.cons .z .nil)))))⟩ hF
                ·
                  refine Run.skip ?_
                  refine Run.slim [(3, .int .u8 a3), (4, v4), (5, u1), (6, u2), (12, u6), (13, (q1 8)), (15, u10)] ⟨rfl, rfl, rfl, rfl, rfl, rfl, rfl, trivial⟩ ?_
                  exact hj2 (y6.1) _ _ ⟨rfl, (h42.facts (.atm (.s (.s (.s (.s (.s (.s (.s (.s (.s (.s .z)))))))))) .nil)).picks (.cons (.s (.s (.s (.s .z)))) (.cons (.s (.s (.s (.s .z)))) (.cons (.s (.s .z)) (.cons (.s (.s .z)) (.cons (.s .z) .nil)))))⟩ hF
  ·
    refine RunL.caseb hF (fun e54 hF => ?_) (fun e54 hF => ?_)
    ·
      refine RunL.op (OpS.pass rfl rfl rfl ?_)
      refine RunL.op (OpS.pass rfl rfl rfl ?_)
      refine RunL.op (OpS.pass rfl rfl rfl ?_)
      refine RunL.op (OpS.pass rfl rfl rfl ?_)
      refine RunL.op (OpS.pick rfl rfl rfl rfl ?_)
      refine RunL.op (OpS.mv rfl rfl rfl ?_)
      refine RunL.op (OpS.pass rfl rfl rfl ?_)
      refine RunL.op (OpS.pass rfl rfl rfl ?_)
      refine RunL.op (OpS.pass rfl rfl rfl ?_)
      refine RunL.op (OpS.pick rfl rfl rfl rfl ?_)
      refine RunL.op (OpS.mv rfl rfl rfl ?_)
      refine RunL.op (OpS.pass rfl rfl rfl ?_)
      refine RunL.op (OpS.pass rfl rfl rfl ?_)
      refine RunL.op (OpS.pass rfl rfl rfl ?_)
      refine RunL.op (OpS.pick rfl rfl rfl rfl ?_)
      refine RunL.nil ?_
      refine Run.slim [(41, .bool true), (6, u2), (5, u1), (2, v2), (3, .int .u8 a3), (4, v4)] ⟨rfl, rfl, rfl, rfl, rfl, rfl, trivial⟩ ?_
      refine Run.slim [(2, v2), (3, .int .u8 a3), (4, v4), (5, u1), (6, u2), (41, .bool true)] ⟨rfl, rfl, rfl, rfl, rfl, rfl, trivial⟩ ?_
      exact hj1 (true) _ _ ⟨rfl, (h3.facts (.atm (.s (.s (.s .z))) (.atm (.s (.s (.s (.s .z)))) .nil))).picks (.cons (.s .z) (.cons .z .nil))⟩ hF
    ·
      refine RunL.op (OpS.fbox (o3 := 8) h3 .z PA.z fa24_8 rfl rfl rfl rfl ?_)
      refine RunL.op (OpS.loadB h3 .z PA.a (Get.fld Message_.f8) ty22 rfl rfl rfl (fun u33 h131 => ?_))
      refine RunL.op (OpS.len h131 Try.underlying22 rfl rfl rfl (V.at .z) ?_)
      refine RunL.op (OpS.bin rfl rfl rfl rfl rfl ?_)
      refine RunL.op (OpS.pick rfl rfl rfl rfl ?_)
      refine RunL.op (OpS.mv rfl rfl rfl ?_)
      refine RunL.caseb hF (fun e55 hF => ?_) (fun e55 hF => ?_)
      ·
        refine RunL.op (OpS.pass rfl rfl rfl ?_)
        refine RunL.op (OpS.pass rfl rfl rfl ?_)
        refine RunL.op (OpS.pass rfl rfl rfl ?_)
        refine RunL.op (OpS.pick rfl rfl rfl rfl ?_)
        refine RunL.op (OpS.mv rfl rfl rfl ?_)
        refine RunL.op (OpS.pass rfl rfl rfl ?_)
        refine RunL.op (OpS.pass rfl rfl rfl ?_)
        refine RunL.op (OpS.pass rfl rfl rfl ?_)
        refine RunL.op (OpS.pick rfl rfl rfl rfl ?_)
        refine RunL.nil ?_
        refine Run.slim [(41, .bool true), (6, u2), (5, u1), (2, v2), (3, .int .u8 a3), (4, v4)] ⟨rfl, rfl, rfl, rfl, rfl, rfl, trivial⟩ ?_
        refine Run.slim [(2, v2), (3, .int .u8 a3), (4, v4), (5, u1), (6, u2), (41, .bool true)] ⟨rfl, rfl, rfl, rfl, rfl, rfl, trivial⟩ ?_
        exact hj1 (true) _ _ ⟨rfl, (h131.facts (.atm (.s (.s (.s (.s .z)))) (.atm (.s (.s (.s (.s (.s .z))))) .nil))).picks (.cons (.s .z) (.cons .z .nil))⟩ hF
      ·
        refine RunL.op (OpS.mv rfl rfl rfl ?_)
        refine RunL.op (OpS.len h131 Try.underlying22 rfl rfl rfl (V.at (.s (.s (.s (.s (.s .z)))))) ?_)
        refine RunL.op (OpS.bin rfl rfl rfl rfl rfl ?_)
        refine RunL.op (OpS.pick rfl rfl rfl rfl ?_)
        refine RunL.op (OpS.mv rfl rfl rfl ?_)
        refine RunL.caseb hF (fun e56 hF => ?_) (fun e56 hF => ?_)
        ·
          refine RunL.op (OpS.pass rfl rfl rfl ?_)
          refine RunL.op (OpS.pass rfl rfl rfl ?_)
          refine RunL.op (OpS.pass rfl rfl rfl ?_)
          refine RunL.op (OpS.pick rfl rfl rfl rfl ?_)
          refine RunL.nil ?_
          refine Run.slim [(41, .bool true), (6, u2), (5, u1), (2, v2), (3, .int .u8 a3), (4, v4)] ⟨rfl, rfl, rfl, rfl, rfl, rfl, trivial⟩ ?_
          refine Run.slim [(2, v2), (3, .int .u8 a3), (4, v4), (5, u1), (6, u2), (41, .bool true)] ⟨rfl, rfl, rfl, rfl, rfl, rfl, trivial⟩ ?_
          exact hj1 (true) _ _ ⟨rfl, (h131.facts (.atm (.s (.s (.s (.s .z)))) (.atm (.s (.s (.s (.s (.s .z))))) .nil))).picks (.cons (.s .z) (.cons .z .nil))⟩ hF
        ·
          refine RunL.op (OpS.mv rfl rfl rfl ?_)
          obtain ⟨y19, e57, hF⟩ := bindP_use hF
          refine RunL.op (OpS.callP h131 Try.func9 rfl rfl rfl rfl (vs := [v2]) rfl (made_Light_ok e57) (.cons (V.at (.s (.s (.s (.s .z))))) .nil) ?_)
          rintro _ w52 _ _ _ ⟨rfl, rfl, rfl, rfl⟩ h132
          have h133 := h132 rfl rfl
          simp only [List.cons_append, List.nil_append] at h133
          refine RunL.op (OpS.not rfl rfl rfl ?_)
          refine RunL.op (OpS.pick rfl rfl rfl rfl ?_)
          refine RunL.nil ?_
          refine Run.slim [(41, .bool (!y19)), (6, u2), (5, u1), (2, v2), (3, .int .u8 a3), (4, v4)] ⟨rfl, rfl, rfl, rfl, rfl, rfl, trivial⟩ ?_
          refine Run.slim [(2, v2), (3, .int .u8 a3), (4, v4), (5, u1), (6, u2), (41, .bool (!y19))] ⟨rfl, rfl, rfl, rfl, rfl, rfl, trivial⟩ ?_
          exact hj1 (!y19) _ _ ⟨rfl, (h133.facts (.atm (.s (.s (.s (.s .z)))) (.atm (.s (.s (.s (.s (.s .z))))) .nil))).picks (.cons (.s .z) (.cons .z .nil))⟩ hF
end Lift
