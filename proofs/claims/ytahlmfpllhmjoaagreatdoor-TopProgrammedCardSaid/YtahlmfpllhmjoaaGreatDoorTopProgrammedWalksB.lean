import Derived.Test.YtahlmfpllhmjoaaGreatDoorTopProgrammedWalksA
set_option linter.unusedVariables false
set_option linter.unusedSimpArgs false
namespace Lift
open Go Go.Proofs
open RunL (op mv asg bin pass pick sr nil)
set_option maxHeartbeats 8000000 in set_option maxRecDepth 20000 in
theorem eventlog_Open_ok {fuel : Nat} {a0 : flash_Device} {a1 : Int} {a2 : Int} {a3 : Bool} {y : (Option eventlog_Log) × Int} (hF : eventlog_Open fuel a0 a1 a2 a3 = some y) {w : World} {v0 v0_0 v0_1 : Value} :
  Spec Tryz.prog 14 [v0, .int .i64 a1, .int .i64 a2, .bool a3].toArray w [] [(false, .box 166 (flash_Device.repW v0_0 v0_1) v0 a0), (false, .slice 5 (Rep.int .u8) v0_0 a0.bytes), (false, .slice 3 (Rep.int .i64) v0_1 a0.wear)] (fun v Γr Ωr Ωo => ∃ u0 : Value, v = .tuple #[u0, .int .i64 y.2] ∧ Γr = [] ∧ Ωr = [(false, .opt (eventlog_Log.mem v0 u0) u0 y.1)] ∧ Ωo = [(false, .box 166 (flash_Device.repW v0_0 v0_1) v0 a0), (false, (.slice 5 (Rep.int .u8) v0_0 a0.bytes)), (false, (.slice 3 (Rep.int .i64) v0_1 a0.wear))]) := by
 refine Spec.of (L := [(0, v0), (1, .int .i64 a1), (2, .int .i64 a2), (3, .bool a3)]) Tryz.func14 rfl ⟨rfl, rfl, rfl, rfl, trivial⟩ rfl (fun e h => ?_)
 unfold eventlog_Open at hF
 refine sr ?_
 refine asg rfl rfl rfl ?_
 refine asg rfl rfl rfl ?_
 refine nil ?_
 refine Run.seq ?_
 refine sr ?_
 refine mv rfl rfl rfl ?_
 refine bin rfl rfl rfl rfl rfl ?_
 refine mv rfl rfl rfl ?_
 refine RunL.caseb hF (fun e1 hF => ?_) (fun e1 hF => ?_)
 ·
  cases hF
 ·
  refine mv rfl rfl rfl ?_
  refine bin rfl rfl rfl rfl rfl ?_
  refine pick rfl rfl rfl rfl ?_
  refine mv rfl rfl rfl ?_
  refine RunL.caseb hF (fun e2 hF => ?_) (fun e2 hF => ?_)
  ·
   cases hF
  ·
   refine mv rfl rfl rfl ?_
   refine mv rfl rfl rfl ?_
   obtain ⟨y1, e3, hF⟩ := bindP_use hF
   have h1 := h.front (.cons .z (.cons .z (.cons .z .nil)))
   refine op (OpS.callO h1 Tryz.func69 rfl rfl rfl rfl (vs := [v0]) rfl (flash_Device_Sectors_ok e3) rfl .nil ?_)
   rintro _ w1 _ _ _ ⟨rfl, rfl, rfl, rfl⟩ h2
   have h3 := h2
   simp only [ca, na] at h3
   refine bin rfl rfl rfl rfl rfl ?_
   refine pick rfl rfl rfl rfl ?_
   refine mv rfl rfl rfl ?_
   refine RunL.caseb hF (fun e4 hF => ?_) (fun e4 hF => ?_)
   ·
    cases hF
   ·
    refine mv rfl rfl rfl ?_
    refine mv rfl rfl rfl ?_
    obtain ⟨y2, e5, hF⟩ := bindP_use hF
    have h4 := h3.front (.cons .z (.cons .z (.cons .z .nil)))
    refine op (OpS.callO h4 Tryz.func69 rfl rfl rfl rfl (vs := [v0]) rfl (flash_Device_Sectors_ok e5) rfl .nil ?_)
    rintro _ w2 _ _ _ ⟨rfl, rfl, rfl, rfl⟩ h5
    have h6 := h5
    simp only [ca, na] at h6
    refine mv rfl rfl rfl ?_
    refine bin rfl rfl rfl rfl rfl ?_
    refine bin rfl rfl rfl rfl rfl ?_
    refine pick rfl rfl rfl rfl ?_
    refine nil ?_
    refine Run.ite rfl hF (fun e6 hF => ?_) (fun e6 hF => ?_)
    ·
     cases hF
    ·
     refine Run.skip ?_
     refine sr ?_
     refine mv rfl rfl rfl ?_
     refine mv rfl rfl rfl ?_
     refine mv rfl rfl rfl ?_
     refine mv rfl rfl rfl ?_
     have h7 := St.lnkMk h6 .z
     have h8 := St.nil 200 eventlog_record.rep h7
     refine op (OpS.buildC (f := true) (r := (Rep.iso (fun s : eventlog_Log => (s.d, s.first, s.sectors, s.overwrite, s.newest, s.tail, s.used, s.next, s.records, s.full, s.number, s.held, s.ended, ())) (Rep.prod Rep.lnk0 (Rep.prod (Rep.int .i64) (Rep.prod (Rep.int .i64) (Rep.prod Rep.bool (Rep.prod (Rep.int .i64) (Rep.prod (Rep.int .i64) (Rep.prod (Rep.int .i64) (Rep.prod (Rep.int .u16) (Rep.prod (Rep.raw (α := List eventlog_record) (.slice none 0 0)) (Rep.prod Rep.bool (Rep.prod (Rep.int .u16) (Rep.prod Rep.bool (Rep.prod Rep.bool Rep.unit))))))))))))))) (x := eventlog_Log.z) (r' := (eventlog_Log.repW v0 (.slice none 0 0))) (x' := (⟨false, a1, a2, a3, 0, 0, 0, 1, [], false, 0, false, false⟩ : eventlog_Log)) h8 pl169 ti169 (Zr.iso (y := eventlog_Log.z) _ (Zr.of (Zr.prod Zr.lnk0 (Zr.prod (Zr.int .i64 0) (Zr.prod (Zr.int .i64 0) (Zr.prod (Zr.bool false) (Zr.prod (Zr.int .i64 0) (Zr.prod (Zr.int .i64 0) (Zr.prod (Zr.int .i64 0) (Zr.prod (Zr.int .u16 0) (Zr.prod (Zr.raw rfl ([] : List eventlog_record)) (Zr.prod (Zr.bool false) (Zr.prod (Zr.int .u16 0) (Zr.prod (Zr.bool false) (Zr.prod (Zr.bool false) Zr.unit))))))))))))) (by rfl))) rfl rfl rfl (.cons (Rep.raw v0) (Rep.iso (fun s : eventlog_Log => (s.d, s.first, s.sectors, s.overwrite, s.newest, s.tail, s.used, s.next, s.records, s.full, s.number, s.held, s.ended, ())) (Rep.prod Rep.lnk0 (Rep.prod (Rep.int .i64) (Rep.prod (Rep.int .i64) (Rep.prod Rep.bool (Rep.prod (Rep.int .i64) (Rep.prod (Rep.int .i64) (Rep.prod (Rep.int .i64) (Rep.prod (Rep.int .u16) (Rep.prod (Rep.raw (α := List eventlog_record) (.slice none 0 0)) (Rep.prod Rep.bool (Rep.prod (Rep.int .u16) (Rep.prod Rep.bool (Rep.prod Rep.bool Rep.unit)))))))))))))) (eventlog_Log.repW v0 (.slice none 0 0)) eventlog_Log.z (⟨false, 0, 0, false, 0, 0, 0, 0, [], false, 0, false, false⟩ : eventlog_Log) (Chg.iso _ (Chg.here (Chg.id (by rfl)))) rfl rfl (V.raw (f := true) (St.lnk_one h8 (.s .z)) false) (.cons (Rep.int .i64) (eventlog_Log.repW v0 (.slice none 0 0)) (eventlog_Log.repW v0 (.slice none 0 0)) (⟨false, 0, 0, false, 0, 0, 0, 0, [], false, 0, false, false⟩ : eventlog_Log) (⟨false, a1, 0, false, 0, 0, 0, 0, [], false, 0, false, false⟩ : eventlog_Log) (Chg.iso _ (Chg.there (Chg.here (Chg.id (by rfl))))) rfl rfl V.int (.cons (Rep.int .i64) (eventlog_Log.repW v0 (.slice none 0 0)) (eventlog_Log.repW v0 (.slice none 0 0)) (⟨false, a1, 0, false, 0, 0, 0, 0, [], false, 0, false, false⟩ : eventlog_Log) (⟨false, a1, a2, false, 0, 0, 0, 0, [], false, 0, false, false⟩ : eventlog_Log) (Chg.iso _ (Chg.there (Chg.there (Chg.here (Chg.id (by rfl)))))) rfl rfl V.int (.cons Rep.bool (eventlog_Log.repW v0 (.slice none 0 0)) (eventlog_Log.repW v0 (.slice none 0 0)) (⟨false, a1, a2, false, 0, 0, 0, 0, [], false, 0, false, false⟩ : eventlog_Log) (⟨false, a1, a2, a3, 0, 0, 0, 0, [], false, 0, false, false⟩ : eventlog_Log) (Chg.iso _ (Chg.there (Chg.there (Chg.there (Chg.here (Chg.id (by rfl))))))) rfl rfl V.bool (.cons (Rep.int .u16) (eventlog_Log.repW v0 (.slice none 0 0)) (eventlog_Log.repW v0 (.slice none 0 0)) (⟨false, a1, a2, a3, 0, 0, 0, 0, [], false, 0, false, false⟩ : eventlog_Log) (⟨false, a1, a2, a3, 0, 0, 0, 1, [], false, 0, false, false⟩ : eventlog_Log) (Chg.iso _ (Chg.there (Chg.there (Chg.there (Chg.there (Chg.there (Chg.there (Chg.there (Chg.here (Chg.id (by rfl))))))))))) rfl rfl V.int .nil))))) (fun u1 h9 => ?_))
     refine op (OpS.box (f' := true) h9 rfl rfl rfl (V.at .z) (fun u2 w3 h10 => ?_))
     refine asg rfl rfl rfl ?_
     refine nil ?_
     refine sr ?_
     refine mv rfl rfl rfl ?_
     obtain ⟨x1, e7, hF⟩ := bindP_use hF
     refine op (OpS.make h10 Tryz.underlying170 ti24 rfl rfl (Zr.slice (Rep.int .u8)) rfl rfl rfl rfl e7 (by simp) (mk_fits e7) rfl (fun u3 w4 h11 => ?_))
     refine asg rfl rfl rfl ?_
     refine nil ?_
     refine Run.slim [(11, u3), (10, u2), (0, v0), (1, .int .i64 a1), (2, .int .i64 a2)] ⟨rfl, rfl, rfl, rfl, rfl, trivial⟩ ?_
     refine sr ?_
     refine mv rfl rfl rfl ?_
     obtain ⟨x2, e8, hF⟩ := bindP_use hF
     refine op (OpS.make h11 Tryz.underlying171 ti174 rfl rfl eventlog_head.zr rfl rfl rfl rfl e8 (by simp) (mk_fits e8) rfl (fun u4 w5 h12 => ?_))
     refine asg rfl rfl rfl ?_
     refine nil ?_
     refine Run.seq ?_
     refine sr ?_
     refine mv rfl rfl rfl ?_
     refine mv rfl rfl rfl ?_
     refine nil ?_
     refine Run.block ?_
     have h13 := St.boxJ (r' := (eventlog_Log.repW v0 (.slice none 0 0))) (x' := (⟨true, a1, a2, a3, 0, 0, 0, 1, [], false, 0, false, false⟩ : eventlog_Log)) (h12.pick (.s (.s .z))) (fun _ _ hs_ => (Jn.iso _ (Jn.prod Jn.same (Jn.prod Jn.refl (Jn.prod Jn.refl (Jn.prod Jn.refl (Jn.prod Jn.refl (Jn.prod Jn.refl (Jn.prod Jn.refl (Jn.prod Jn.refl (Jn.prod Jn.same Jn.refl)))))))))))
     have h14 := (h13.pick .z).weak
     have h15 := (h14.pick (.s (.s (.s .z)))).weak
     have h16 := (h15.pick (.s (.s (.s (.s .z))))).weak
     refine Run.slim [(0, v0), (1, .int .i64 a1), (2, .int .i64 a2), (10, u2), (11, u3), (12, u4), (50, .int .i64 a2), (51, .int .i64 0)] ⟨rfl, rfl, rfl, rfl, rfl, rfl, rfl, rfl, trivial⟩ ?_
     refine Run.loopP (σ := Int) (fun s_ L_ w_ => L_ = [(0, v0), (1, .int .i64 a1), (2, .int .i64 a2), (10, u2), (11, u3), (12, u4), (50, .int .i64 a2), (51, .int .i64 s_)] ∧ St e w_ [] [(false, .box 166 (flash_Device.repW v0_0 v0_1) v0 a0), (false, .box 169 (eventlog_Log.repW v0 (.slice none 0 0)) u2 (⟨true, a1, a2, a3, 0, 0, 0, 1, [], false, 0, false, false⟩ : eventlog_Log)), (true, .slice 24 (Rep.slice (Rep.int .u8)) u3 x1), (true, .slice 174 eventlog_head.rep u4 x2), (false, .slice 5 (Rep.int .u8) v0_0 a0.bytes), (false, .slice 3 (Rep.int .i64) v0_1 a0.wear), (false, .slice 200 eventlog_record.rep (.slice none 0 0) ([])), (false, .lnk v0 v0 true)]) hF ⟨rfl, (h16.facts .nil).picks (.cons (.s (.s (.s (.s (.s .z))))) (.cons (.s (.s .z)) (.cons (.s (.s (.s .z))) (.cons (.s (.s .z)) (.cons (.s (.s .z)) (.cons (.s (.s .z)) (.cons (.s .z) (.cons .z .nil))))))))⟩ (fun k1 hk1 s1 _ w6 hI hF => ?_)
     obtain ⟨rfl, h17⟩ := hI
     refine sr ?_
     refine bin rfl rfl rfl rfl rfl ?_
     refine nil ?_
     refine Run.seq ?_
     refine Run.ite rfl hF (fun e9 hF => ?_) (fun e9 hF => ?_)
     ·
      refine Run.skip ?_
      refine Run.seq ?_
      refine Run.block ?_
      refine sr ?_
      refine mv rfl rfl rfl ?_
      refine asg rfl rfl rfl ?_
      refine nil ?_
      refine sr ?_
      refine mv rfl rfl rfl ?_
      refine mv rfl rfl rfl ?_
      refine mv rfl rfl rfl ?_
      refine bin rfl rfl rfl rfl rfl ?_
      refine mv rfl rfl rfl ?_
      obtain ⟨y3, e10, hF⟩ := bindP_use hF
      have h18 := h17.front (.cons .z (.cons (.s (.s (.s .z))) (.cons (.s (.s (.s .z))) .nil)))
      refine op (OpS.callO h18 Tryz.func71 rfl rfl rfl rfl (vs := [v0]) rfl (flash_Device_Size_ok e10) rfl .nil ?_)
      rintro _ w7 _ _ _ ⟨rfl, rfl, rfl, rfl⟩ h19
      have h20 := h19
      simp only [ca, na] at h20
      refine bin rfl rfl rfl rfl rfl ?_
      refine mv rfl rfl rfl ?_
      obtain ⟨y4, e11, hF⟩ := bindP_use hF
      have h21 := h20.front (.cons .z (.cons .z (.cons .z .nil)))
      refine op (OpS.callO h21 Tryz.func71 rfl rfl rfl rfl (vs := [v0]) rfl (flash_Device_Size_ok e11) rfl .nil ?_)
      rintro _ w8 _ _ _ ⟨rfl, rfl, rfl, rfl⟩ h22
      have h23 := h22
      simp only [ca, na] at h23
      obtain ⟨y5, e12, hF⟩ := bindP_use hF
      have h24 := h23.front (.cons .z (.cons .z (.cons .z .nil)))
      refine op (OpS.callO h24 Tryz.func70 rfl rfl rfl rfl (vs := [v0, .int .i64 (IntKind.i64.wrap ((IntKind.i64.wrap (a1 + s1)) * y3)), .int .i64 y4]) rfl (flash_Device_Read_ok e12) rfl .nil ?_)
      rintro _ w9 _ _ _ ⟨u5, rfl, rfl, rfl, rfl⟩ h25
      have h26 := h25
      simp only [ca, na] at h26
      refine mv rfl rfl rfl ?_
      refine op (OpS.ext rfl rfl rfl rfl ?_)
      refine op (OpS.ext rfl rfl rfl rfl ?_)
      refine asg rfl rfl rfl ?_
      have h27 := (h26.pick .z).freeze
      refine asg rfl rfl rfl ?_
      refine nil ?_
      refine Run.seq ?_
      refine sr ?_
      refine mv rfl rfl rfl ?_
      refine bin rfl rfl rfl rfl rfl ?_
      refine nil ?_
      refine Run.ite rfl hF (fun e13 hF => ?_) (fun e13 hF => ?_)
      ·
       cases hF
      ·
       refine Run.skip ?_
       refine sr ?_
       refine mv rfl rfl rfl ?_
       refine mv rfl rfl rfl ?_
       refine mv rfl rfl rfl ?_
       obtain ⟨y6, e14, hF⟩ := bindP_use hF
       have h28 := h27.front (.cons (.s (.s (.s .z))) (.cons (.s (.s (.s (.s (.s (.s .z)))))) (.cons (.s (.s (.s (.s (.s .z))))) .nil)))
       refine op (OpS.callO h28 Tryz.func72 rfl rfl rfl rfl (vs := [u2, u5, .int .i64 s1]) rfl (eventlog_Log_header_ok e14) rfl (.cons (f := true) (V.at .z) .nil) ?_)
       rintro _ w10 _ _ _ ⟨u6, rfl, rfl, rfl, rfl⟩ h29
       have h30 := h29
       simp only [ca, na] at h30
       refine mv rfl rfl rfl ?_
       refine op (OpS.ext rfl rfl rfl rfl ?_)
       refine op (OpS.ext rfl rfl rfl rfl ?_)
       refine op (OpS.alloc h30 ti174 eventlog_head.zr rfl rfl (fun u7 w11 h31 => ?_))
       refine op (OpS.storeB (f' := true) h31 .z PA.z Put.id ty174 rfl rfl rfl (V.at .z) (.inl rfl) (fun w12 h32 => ?_))
       refine asg rfl rfl rfl ?_
       refine nil ?_
       refine sr ?_
       refine mv rfl rfl rfl ?_
       refine nil ?_
       refine Run.ite rfl hF (fun e15 hF => ?_) (fun e15 hF => ?_)
       ·
        cases hF
       ·
        refine Run.skip ?_
        refine Run.endBlock ?_
        refine Run.reg ?_
        refine bin rfl rfl rfl rfl rfl ?_
        refine mv rfl rfl rfl ?_
        refine nil ?_
        refine Run.slim [(51, .int .i64 (IntKind.i64.wrap (s1 + 1))), (0, v0), (1, .int .i64 a1), (2, .int .i64 a2), (10, u2), (11, u3), (12, u4), (50, .int .i64 a2)] ⟨rfl, rfl, rfl, rfl, rfl, rfl, rfl, rfl, trivial⟩ ?_
        refine Run.slim [(0, v0), (1, .int .i64 a1), (2, .int .i64 a2), (10, u2), (11, u3), (12, u4), (50, .int .i64 a2), (51, .int .i64 (IntKind.i64.wrap (s1 + 1)))] ⟨rfl, rfl, rfl, rfl, rfl, rfl, rfl, rfl, trivial⟩ ?_
        exact hk1 ((IntKind.i64.wrap (s1 + 1))) _ _ ⟨rfl, (h32.facts .nil).picks (.cons (.s (.s (.s (.s .z)))) (.cons (.s .z) (.cons (.s (.s (.s (.s (.s .z))))) (.cons (.s (.s (.s (.s (.s .z))))) (.cons (.s (.s (.s .z))) (.cons (.s (.s (.s .z))) (.cons (.s (.s .z)) (.cons (.s .z) .nil))))))))⟩ hF
     ·
      refine Run.exit rfl ?_
      refine Run.seq ?_
      refine sr ?_
      refine mv rfl rfl rfl ?_
      refine op (OpS.nchk h17 (.s .z) rfl rfl rfl ?_)
      refine op (OpS.fbox (o3 := 5) h17 (.s .z) PA.z fa169_5 rfl rfl rfl rfl ?_)
      refine op (OpS.loadBi h17 (.s .z) PA.a (GetS.ok (GetS.iso _ (GetS.there (GetS.there (GetS.there (GetS.there (GetS.there (GetS.here GetS.id)))))))) ty3 rfl rfl rfl ?_)
      refine asg rfl rfl rfl ?_
      refine nil ?_
      refine Run.block ?_
      refine Run.slim [(2, .int .i64 a2), (10, u2), (11, u3), (12, u4), (18, .int .i64 0)] ⟨rfl, rfl, rfl, rfl, rfl, trivial⟩ ?_
      refine Run.loopP (σ := Unit) (fun s_ L_ w_ => L_ = [(2, .int .i64 a2), (10, u2), (11, u3), (12, u4), (18, .int .i64 0)] ∧ St e w_ [] [(false, .box 169 (eventlog_Log.repW v0 (.slice none 0 0)) u2 (⟨true, a1, a2, a3, 0, 0, 0, 1, [], false, 0, false, false⟩ : eventlog_Log)), (false, .box 166 (flash_Device.repW v0_0 v0_1) v0 a0), (true, .slice 24 (Rep.slice (Rep.int .u8)) u3 x1), (true, .slice 174 eventlog_head.rep u4 x2), (false, .slice 200 eventlog_record.rep (.slice none 0 0) ([])), (false, .lnk v0 v0 true), (false, .slice 5 (Rep.int .u8) v0_0 a0.bytes), (false, .slice 3 (Rep.int .i64) v0_1 a0.wear)]) hF ⟨rfl, (h17.facts .nil).picks (.cons (.s .z) (.cons .z (.cons .z (.cons .z (.cons (.s (.s .z)) (.cons (.s (.s .z)) (.cons .z (.cons .z .nil))))))))⟩ (fun k2 hk2 s2 _ w13 hI hF => ?_)
      obtain ⟨rfl, h33⟩ := hI
      refine Run.seq ?_
      refine sr ?_
      refine mv rfl rfl rfl ?_
      refine mv rfl rfl rfl ?_
      refine op (OpS.nchk h33 .z rfl rfl rfl ?_)
      refine op (OpS.fbox (o3 := 4) h33 .z PA.z fa169_4 rfl rfl rfl rfl ?_)
      refine op (OpS.loadBi h33 .z PA.a (GetS.ok (GetS.iso _ (GetS.there (GetS.there (GetS.there (GetS.there (GetS.here GetS.id))))))) ty3 rfl rfl rfl ?_)
      refine bin rfl rfl rfl rfl rfl ?_
      refine mv rfl rfl rfl ?_
      refine RunL.caseb hF (fun e16 hF => ?_) (fun e16 hF => ?_)
      ·
       refine mv rfl rfl rfl ?_
       refine bin rfl rfl rfl rfl rfl ?_
       refine pick rfl rfl rfl rfl ?_
       refine nil ?_
       refine Run.ite rfl hF (fun e17 hF => ?_) (fun e17 hF => ?_)
       ·
        cases hF
       ·
        refine Run.exit rfl ?_
        refine sr ?_
        refine mv rfl rfl rfl ?_
        refine asg rfl rfl rfl ?_
        refine asg rfl rfl rfl ?_
        refine nil ?_
        have h34 := h33.front (.cons (.s (.s (.s (.s (.s .z))))) (.cons (.s (.s (.s (.s .z)))) (.cons .z .nil)))
        have h35 := St.sep h34
        have h36 := St.sep (h35.pick (.s .z))
        have h37 := St.ex (H := fun w1_ => .sep (.box 169 (eventlog_Log.repW v0 w1_) u2 (⟨true, a1, a2, a3, 0, 0, 0, 1, [], false, 0, false, false⟩ : eventlog_Log)) (.sep (.lnk v0 v0 true) (.slice 200 eventlog_record.rep w1_ ([])))) (.slice none 0 0) h36
        have h38 := St.ex (H := fun w0_ => .ex fun w1_ => .sep (.box 169 (eventlog_Log.repW w0_ w1_) u2 (⟨true, a1, a2, a3, 0, 0, 0, 1, [], false, 0, false, false⟩ : eventlog_Log)) (.sep (.lnk v0 w0_ true) (.slice 200 eventlog_record.rep w1_ ([])))) v0 h37
        have h39 := St.some (H := (eventlog_Log.mem v0 u2)) (q := u2) (x := (⟨true, a1, a2, a3, 0, 0, 0, 1, [], false, 0, false, false⟩ : eventlog_Log)) h38
        refine Run.retP rfl (.tmp rfl (.tmp rfl .nil)) ?_
        cases hF
        exact Post.mk' ⟨u2, rfl, rfl, rfl, rfl⟩ (h39.picks (.cons .z (.cons .z (.cons (.s (.s .z)) (.cons (.s (.s .z)) .nil))))) .nil
      ·
       cases hF
theorem monitor_Monitor_find_1_2_ok {fuel : Nat} {a0 : Sensor_} {a1 : Int} {y : Bool} (hF : monitor_Monitor_find_1_2 fuel a0 a1 = some y) {w : World} {v0 v1 : Value} :
  Spec Tryz.prog 158 [v0, v1].toArray w [(false, .val Sensor_.rep v0 a0), (false, .ptr (Rep.int .u8) v1 a1)] [] (fun v Γr Ωr Ωo => v = .bool y ∧ Γr = [] ∧ Ωr = [] ∧ Ωo = []) := by
 refine Spec.of (L := [(0, v0), (1, v1)]) Tryz.func158 rfl ⟨rfl, rfl, trivial⟩ rfl (fun e h => ?_)
 unfold monitor_Monitor_find_1_2 at hF
 refine sr ?_
 refine op (OpS.boxF h rfl rfl rfl (V.at .z) (fun u1 w1 h1 => ?_))
 refine asg rfl rfl rfl ?_
 refine nil ?_
 refine sr ?_
 refine op (OpS.fbox (o3 := 0) h1 .z PA.z fa74_0 rfl rfl rfl rfl ?_)
 refine op (OpS.loadBi h1 .z PA.a (Get.fld Sensor_.f0) ty5 rfl rfl rfl ?_)
 refine op (OpS.loadi h1 ty5 rfl rfl rfl (.s .z) ?_)
 refine bin rfl rfl rfl rfl rfl ?_
 refine asg rfl rfl rfl ?_
 obtain ⟨x1, e1, hF⟩ := letP_use hF
 refine RunL.nameb e1 ?_
 refine nil ?_
 refine Run.retP rfl (.tmp rfl .nil) ?_
 cases hF
 exact Post.mk' ⟨rfl, rfl, rfl, rfl⟩ (h1.picks .nil) .nil
theorem slices_IndexFunc_api_Sensor_api_Sensor_monitor_Monitor_find_1_ok {fuel : Nat} {a0 : List Sensor_} {a1_0 : Int} {y : Int} (hF : slices_IndexFunc_api_Sensor_api_Sensor_monitor_Monitor_find_1 fuel a0 a1_0 = some y) {w : World} {v0 v1_0 : Value} :
  Spec Tryz.prog 91 [v0, .func (.func 158) #[] #[v1_0]].toArray w [(false, .val (Rep.slice Sensor_.rep) v0 a0), (false, .ptr (Rep.int .u8) v1_0 a1_0)] [] (fun v Γr Ωr Ωo => v = .int .i64 y ∧ Γr = [] ∧ Ωr = [] ∧ Ωo = []) := by
 refine Spec.of (L := [(0, v0), (1, .func (.func 158) #[] #[v1_0])]) Tryz.func91 rfl ⟨rfl, rfl, trivial⟩ rfl (fun e h => ?_)
 unfold slices_IndexFunc_api_Sensor_api_Sensor_monitor_Monitor_find_1 at hF
 refine sr ?_
 refine asg rfl rfl rfl ?_
 refine nil ?_
 refine Run.seq ?_
 refine sr ?_
 refine mv rfl rfl rfl ?_
 refine op (OpS.len h Tryz.underlying27 rfl rfl rfl (V.at .z) ?_)
 refine mv rfl rfl rfl ?_
 refine nil ?_
 refine Run.block ?_
 refine Run.slim [(0, v0), (1, .func (.func 158) #[] #[v1_0]), (7, .int .i64 (a0.length : Int)), (8, .int .i64 0)] ⟨rfl, rfl, rfl, rfl, trivial⟩ ?_
 refine Run.loopP (σ := Unit) (fun s_ L_ w_ => L_ = [(0, v0), (1, .func (.func 158) #[] #[v1_0]), (7, .int .i64 (a0.length : Int)), (8, .int .i64 0)] ∧ St e w_ [(false, .val (Rep.slice Sensor_.rep) v0 a0), (false, .ptr (Rep.int .u8) v1_0 a1_0)] []) hF ⟨rfl, (h.facts (.atm .z (.atm (.s .z) .nil))).picks .nil⟩ (fun k1 hk1 s1 _ w1 hI hF => ?_)
 obtain ⟨rfl, h1⟩ := hI
 refine sr ?_
 refine bin rfl rfl rfl rfl rfl ?_
 refine nil ?_
 refine Run.seq ?_
 refine Run.ite rfl hF (fun e1 hF => ?_) (fun e1 hF => ?_)
 ·
  refine Run.skip ?_
  refine Run.seq ?_
  refine Run.block ?_
  refine sr ?_
  refine mv rfl rfl rfl ?_
  refine asg rfl rfl rfl ?_
  refine nil ?_
  refine sr ?_
  refine mv rfl rfl rfl ?_
  refine mv rfl rfl rfl ?_
  refine mv rfl rfl rfl ?_
  obtain ⟨x1, e2, hF⟩ := bindP_use hF
  refine op (OpS.iptr h1 Tryz.underlying27 ty74 rfl rfl rfl rfl (V.at .z) e2 (fun u1 h2 => ?_))
  refine op (OpS.load h2 ty74 rfl rfl rfl .z (fun u2 h3 => ?_))
  obtain ⟨y1, e3, hF⟩ := bindP_use hF
  refine op (OpS.callPF (fl := []) (cl := [v1_0]) h3 Tryz.func158 rfl rfl rfl rfl rfl (vs := [u2]) rfl (monitor_Monitor_find_1_2_ok e3) (.cons (f := false) (V.at .z) (.ptr (.s (.s (.s .z))) .nil)) ?_)
  rintro _ w2 _ _ _ ⟨rfl, rfl, rfl, rfl⟩ h4
  have h5 := h4 rfl rfl
  simp only [ca, na] at h5
  refine nil ?_
  refine Run.ite rfl hF (fun e4 hF => ?_) (fun e4 hF => ?_)
  ·
   refine sr ?_
   refine mv rfl rfl rfl ?_
   refine asg rfl rfl rfl ?_
   refine nil ?_
   refine Run.retP rfl (.tmp rfl .nil) ?_
   cases hF
   exact Post.mk' ⟨rfl, rfl, rfl, rfl⟩ (h5.picks .nil) .nil
  ·
   cases hF
 ·
  cases hF
theorem monitor_Monitor_find_ok {fuel : Nat} {a0 : monitor_Monitor} {a1 : Int} {y : Int} (hF : monitor_Monitor_find fuel a0 a1 = some y) {w : World} {v0 v0_0 v0_1 : Value} :
  Spec Tryz.prog 94 [v0, .int .u8 a1].toArray w [] [(false, .box 184 (monitor_Monitor.repW v0_0 v0_1) v0 a0), (false, .slice 188 Filter_.rep v0_0 a0.filters), (false, .slice 49 (Rep.int .u16) v0_1 a0.states)] (fun v Γr Ωr Ωo => v = .int .i64 y ∧ Γr = [] ∧ Ωr = [] ∧ Ωo = [(false, .box 184 (monitor_Monitor.repW v0_0 v0_1) v0 a0), (false, (.slice 188 Filter_.rep v0_0 a0.filters)), (false, (.slice 49 (Rep.int .u16) v0_1 a0.states))]) := by
 refine Spec.of (L := [(0, v0), (1, .int .u8 a1)]) Tryz.func94 rfl ⟨rfl, rfl, trivial⟩ rfl (fun e h => ?_)
 unfold monitor_Monitor_find at hF
 refine sr ?_
 refine op (OpS.box (f' := true) h rfl rfl rfl V.int (fun u1 w1 h1 => ?_))
 refine asg rfl rfl rfl ?_
 refine nil ?_
 refine sr ?_
 refine mv rfl rfl rfl ?_
 refine op (OpS.nchk h1 (.s .z) rfl rfl rfl ?_)
 refine op (OpS.fbox (o3 := 0) h1 (.s .z) PA.z fa184_0 rfl rfl rfl rfl ?_)
 refine op (OpS.loadB (fr := (Rep.slice Sensor_.rep)) h1 (.s .z) PA.a (GetS.ok (GetS.iso _ (GetS.here GetS.id))) (Ty.like ty27 (by rfl) (by rfl)) rfl rfl rfl (fun u2 h2 => ?_))
 refine op (OpS.mkf (fl := []) (cl := [u1]) rfl rfl rfl rfl ?_)
 have h3 := (h2.pick .z).freezeBox
 obtain ⟨y1, e1, hF⟩ := bindP_use hF
 refine op (OpS.callP h3 Tryz.func91 rfl rfl rfl rfl (vs := [u2, .func (.func 158) #[] #[u1]]) rfl (slices_IndexFunc_api_Sensor_api_Sensor_monitor_Monitor_find_1_ok e1) (.cons (f := false) (V.at (.s .z)) (.ptr .z .nil)) ?_)
 rintro _ w2 _ _ _ ⟨rfl, rfl, rfl, rfl⟩ h4
 have h5 := h4 rfl rfl
 simp only [ca, na] at h5
 refine asg rfl rfl rfl ?_
 refine nil ?_
 refine Run.retP rfl (.tmp rfl .nil) ?_
 cases hF
 exact Post.mk' ⟨rfl, rfl, rfl, rfl⟩ (h5.picks (.cons .z (.cons .z (.cons .z .nil)))) .nil
set_option maxRecDepth 20000 in
theorem monitor_Monitor_check_ok {fuel : Nat} {a0 : monitor_Monitor} {a1 : List Sample_} {y : Int} (hF : monitor_Monitor_check fuel a0 a1 = some y) {w : World} {v0 v0_0 v0_1 v1 : Value} :
  Spec Tryz.prog 77 [v0, v1].toArray w [(false, .val (Rep.slice Sample_.rep) v1 a1)] [(false, .box 184 (monitor_Monitor.repW v0_0 v0_1) v0 a0), (false, .slice 188 Filter_.rep v0_0 a0.filters), (false, .slice 49 (Rep.int .u16) v0_1 a0.states)] (fun v Γr Ωr Ωo => v = .int .i64 y ∧ Γr = [] ∧ Ωr = [] ∧ Ωo = [(false, .box 184 (monitor_Monitor.repW v0_0 v0_1) v0 a0), (false, (.slice 188 Filter_.rep v0_0 a0.filters)), (false, (.slice 49 (Rep.int .u16) v0_1 a0.states))]) := by
 refine Spec.of (L := [(0, v0), (1, v1)]) Tryz.func77 rfl ⟨rfl, rfl, trivial⟩ rfl (fun e h => ?_)
 unfold monitor_Monitor_check at hF
 refine sr ?_
 refine asg rfl rfl rfl ?_
 refine nil ?_
 refine Run.seq ?_
 refine sr ?_
 refine mv rfl rfl rfl ?_
 refine op (OpS.len h Tryz.underlying41 rfl rfl rfl (V.at .z) ?_)
 refine mv rfl rfl rfl ?_
 refine nil ?_
 refine Run.block ?_
 refine Run.slim [(0, v0), (1, v1), (9, v1), (10, .int .i64 (a1.length : Int)), (11, .int .i64 0)] ⟨rfl, rfl, rfl, rfl, rfl, trivial⟩ ?_
 refine Run.loopP (σ := Int) (fun s_ L_ w_ => L_ = [(0, v0), (1, v1), (9, v1), (10, .int .i64 (a1.length : Int)), (11, .int .i64 s_)] ∧ St e w_ [(false, .val (Rep.slice Sample_.rep) v1 a1)] [(false, .box 184 (monitor_Monitor.repW v0_0 v0_1) v0 a0), (false, .slice 188 Filter_.rep v0_0 a0.filters), (false, .slice 49 (Rep.int .u16) v0_1 a0.states)]) hF ⟨rfl, (h.facts (.atm .z .nil)).picks (.cons .z (.cons .z (.cons .z .nil)))⟩ (fun k1 hk1 s1 _ w1 hI hF => ?_)
 obtain ⟨rfl, h1⟩ := hI
 refine sr ?_
 refine bin rfl rfl rfl rfl rfl ?_
 refine nil ?_
 refine Run.seq ?_
 refine Run.ite rfl hF (fun e1 hF => ?_) (fun e1 hF => ?_)
 ·
  refine Run.skip ?_
  refine Run.seq ?_
  refine Run.block ?_
  refine sr ?_
  refine mv rfl rfl rfl ?_
  obtain ⟨x1, e2, hF⟩ := bindP_use hF
  refine op (OpS.iptr h1 Tryz.underlying41 ty93 rfl rfl rfl rfl (V.at .z) e2 (fun u1 h2 => ?_))
  refine op (OpS.load h2 ty93 rfl rfl rfl .z (fun u2 h3 => ?_))
  refine op (OpS.alloc h3 ti93 Sample_.zr rfl rfl (fun u3 w2 h4 => ?_))
  refine asg rfl rfl rfl ?_
  have h5 := (h4.pick .z).weak
  refine op (OpS.storeB (f' := false) h5 .z PA.z Put.id ty93 rfl rfl rfl (V.at .z) (.inr rfl) (fun w3 h6 => ?_))
  refine nil ?_
  refine Run.seq ?_
  refine Run.seq ?_
  obtain ⟨x2, e3, hF⟩ := letP_use hF
  refine iteP_use hF (fun e4 hF => ?_) (fun e4 hF => ?_)
  ·
   cases hF
  ·
   have hG := hF
   subst e4
   have hF := hG
   refine Run.drawV (Ωs := [(false, .box 93 Sample_.rep u3 x1), (false, .box 184 (monitor_Monitor.repW v0_0 v0_1) v0 a0), (false, .slice 188 Filter_.rep v0_0 a0.filters), (false, .slice 49 (Rep.int .u16) v0_1 a0.states)]) [.k 16 (.int .i64 s1), .k 17 (.bool (decide (s1 > 0))), .k 18 (.bool false), .k 19 undef, .k 20 undef, .k 21 undef, .k 22 undef, .k 23 undef, .k 24 undef, .k 25 undef, .k 26 undef] [[], [0], [1], [2], [2], [2], [2], [2], [2], [2], [2]] [] [0, 1, 2, 3, 4, 5, 6, 7, 8, 9, 10] Try_mixed rfl rfl rfl h6 (.cons ?_ (.cons ?_ (.cons ?_ (.cons ?_ (.cons ?_ (.cons ?_ (.cons ?_ (.cons ?_ (.cons ?_ (.cons ?_ (.cons ?_ .nil))))))))))) (fun q1 w hq1 h => ?_)
   ·intro q1 w Γx Ωx h
    refine OpS.mv rfl rfl rfl ?_
    exact ⟨undef, rfl, trivial, h⟩
   ·intro q1 w Γx Ωx h
    refine OpS.bin rfl rfl rfl rfl rfl ?_
    exact ⟨undef, rfl, trivial, h⟩
   ·intro q1 w Γx Ωx h
    refine OpS.mv rfl rfl rfl ?_
    exact ⟨undef, (congrArg (fun z_ => some (Value.bool z_)) e3), trivial, h⟩
   ·intro q1 w Γx Ωx h
    exact OpS.pass rfl rfl rfl ⟨undef, rfl, trivial, h⟩
   ·intro q1 w Γx Ωx h
    exact OpS.pass rfl rfl rfl ⟨undef, rfl, trivial, h⟩
   ·intro q1 w Γx Ωx h
    exact OpS.pass rfl rfl rfl ⟨undef, rfl, trivial, h⟩
   ·intro q1 w Γx Ωx h
    exact OpS.pass rfl rfl rfl ⟨undef, rfl, trivial, h⟩
   ·intro q1 w Γx Ωx h
    exact OpS.pass rfl rfl rfl ⟨undef, rfl, trivial, h⟩
   ·intro q1 w Γx Ωx h
    exact OpS.pass rfl rfl rfl ⟨undef, rfl, trivial, h⟩
   ·intro q1 w Γx Ωx h
    exact OpS.pass rfl rfl rfl ⟨undef, rfl, trivial, h⟩
   ·intro q1 w Γx Ωx h
    exact OpS.pass rfl rfl rfl ⟨undef, rfl, trivial, h⟩
   have h7 := h
   refine pass rfl rfl rfl ?_
   refine pick rfl rfl rfl rfl ?_
   refine mv rfl rfl rfl ?_
   refine op (OpS.fbox (o3 := 1) h7 .z PA.z fa93_1 rfl rfl rfl rfl ?_)
   refine op (OpS.loadBb h7 .z PA.a (Get.fld Sample_.f1) ty4 rfl rfl rfl ?_)
   refine op (OpS.not rfl rfl rfl ?_)
   refine mv rfl rfl rfl ?_
   refine RunL.caseb hF (fun e5 hF => ?_) (fun e5 hF => ?_)
   ·
    cases hF
   ·
    refine pass rfl rfl rfl ?_
    refine pass rfl rfl rfl ?_
    refine pass rfl rfl rfl ?_
    refine pass rfl rfl rfl ?_
    refine pass rfl rfl rfl ?_
    refine pass rfl rfl rfl ?_
    refine pass rfl rfl rfl ?_
    refine pass rfl rfl rfl ?_
    refine pick rfl rfl rfl rfl ?_
    refine pick rfl rfl rfl rfl ?_
    refine nil ?_
    refine Run.slim [(43, .bool false), (6, u3), (0, v0), (1, v1), (9, v1), (10, .int .i64 (a1.length : Int)), (11, .int .i64 s1)] ⟨rfl, rfl, rfl, rfl, rfl, rfl, rfl, trivial⟩ ?_
    refine Run.condF rfl ?_
    refine Run.skip ?_
    refine sr ?_
    refine mv rfl rfl rfl ?_
    refine op (OpS.fbox (o3 := 0) h7 .z PA.z fa93_0 rfl rfl rfl rfl ?_)
    refine op (OpS.loadBi h7 .z PA.a (Get.fld Sample_.f0) ty5 rfl rfl rfl ?_)
    obtain ⟨y1, e6, hF⟩ := bindP_use hF
    have h8 := h7.front (.cons (.s .z) (.cons (.s .z) (.cons (.s .z) .nil)))
    refine op (OpS.callO h8 Tryz.func94 rfl rfl rfl rfl (vs := [v0, .int .u8 x1.Number]) rfl (monitor_Monitor_find_ok e6) rfl .nil ?_)
    rintro _ w4 _ _ _ ⟨rfl, rfl, rfl, rfl⟩ h9
    have h10 := h9
    simp only [ca, na] at h10
    refine asg rfl rfl rfl ?_
    refine nil ?_
    refine Run.seq ?_
    refine sr ?_
    refine mv rfl rfl rfl ?_
    refine bin rfl rfl rfl rfl rfl ?_
    refine nil ?_
    refine Run.ite rfl hF (fun e7 hF => ?_) (fun e7 hF => ?_)
    ·
     cases hF
    ·
     refine Run.skip ?_
     refine sr ?_
     refine mv rfl rfl rfl ?_
     refine op (OpS.nchk h10 .z rfl rfl rfl ?_)
     refine op (OpS.fbox (o3 := 0) h10 .z PA.z fa184_0 rfl rfl rfl rfl ?_)
     refine op (OpS.loadB (fr := (Rep.slice Sensor_.rep)) h10 .z PA.a (GetS.ok (GetS.iso _ (GetS.here GetS.id))) (Ty.like ty27 (by rfl) (by rfl)) rfl rfl rfl (fun u4 h11 => ?_))
     refine mv rfl rfl rfl ?_
     obtain ⟨x3, e8, hF⟩ := bindP_use hF
     refine op (OpS.iptr h11 Tryz.underlying27 ty74 rfl rfl rfl rfl (V.at .z) e8 (fun u5 h12 => ?_))
     refine op (OpS.load h12 ty74 rfl rfl rfl .z (fun u6 h13 => ?_))
     refine op (OpS.alloc h13 ti74 Sensor_.zr rfl rfl (fun u7 w5 h14 => ?_))
     have h15 := (h14.pick .z).weak
     refine op (OpS.storeB (f' := false) h15 .z PA.z Put.id ty74 rfl rfl rfl (V.at .z) (.inr rfl) (fun w6 h16 => ?_))
     refine nil ?_
     refine Run.block ?_
     refine sr ?_
     refine op (OpS.fbox (o3 := 6) h16 .z PA.z fa74_5 rfl rfl rfl rfl ?_)
     refine op (OpS.loadBb h16 .z PA.a (Get.fld Sensor_.f5) ty4 rfl rfl rfl ?_)
     refine op (OpS.not rfl rfl rfl ?_)
     refine mv rfl rfl rfl ?_
     refine RunL.caseb hF (fun e9 hF => ?_) (fun e9 hF => ?_)
     ·
      refine op (OpS.fbox (o3 := 3) h16 (.s (.s (.s (.s .z)))) PA.z fa93_3 rfl rfl rfl rfl ?_)
      refine op (OpS.loadBi h16 (.s (.s (.s (.s .z)))) PA.a (Get.fld Sample_.f3) ty49 rfl rfl rfl ?_)
      refine bin rfl rfl rfl rfl rfl ?_
      refine pick rfl rfl rfl rfl ?_
      refine mv rfl rfl rfl ?_
      refine RunL.caseb hF (fun e10 hF => ?_) (fun e10 hF => ?_)
      ·
       cases hF
      ·
       refine op (OpS.fbox (o3 := 6) h16 .z PA.z fa74_5 rfl rfl rfl rfl ?_)
       refine op (OpS.loadBb h16 .z PA.a (Get.fld Sensor_.f5) ty4 rfl rfl rfl ?_)
       refine mv rfl rfl rfl ?_
       refine RunL.caseb hF (fun e11 hF => ?_) (fun e11 hF => ?_)
       ·
        cases hF
       ·
        refine pass rfl rfl rfl ?_
        refine pass rfl rfl rfl ?_
        refine pass rfl rfl rfl ?_
        refine pick rfl rfl rfl rfl ?_
        refine pick rfl rfl rfl rfl ?_
        refine asg rfl rfl rfl ?_
        refine nil ?_
        refine Run.slim [(57, .bool false), (8, u7), (6, u3), (0, v0), (1, v1), (9, v1), (10, .int .i64 (a1.length : Int)), (11, .int .i64 s1)] ⟨rfl, rfl, rfl, rfl, rfl, rfl, rfl, rfl, trivial⟩ ?_
        refine Run.condF rfl ?_
        refine sr ?_
        refine op (OpS.fbox (o3 := 3) h16 (.s (.s (.s (.s .z)))) PA.z fa93_3 rfl rfl rfl rfl ?_)
        refine op (OpS.loadBi h16 (.s (.s (.s (.s .z)))) PA.a (Get.fld Sample_.f3) ty49 rfl rfl rfl ?_)
        refine op (OpS.fbox (o3 := 23) h16 .z PA.z fa74_10 rfl rfl rfl rfl ?_)
        refine op (OpS.loadBi h16 .z PA.a (Get.fld Sensor_.f10) ty49 rfl rfl rfl ?_)
        refine bin rfl rfl rfl rfl rfl ?_
        refine bin rfl rfl rfl rfl rfl ?_
        refine asg rfl rfl rfl ?_
        obtain ⟨x4, e12, hF⟩ := letP_use hF
        refine RunL.nameb e12 ?_
        refine nil ?_
        refine Run.ite rfl hF (fun e13 hF => ?_) (fun e13 hF => ?_)
        ·
         cases hF
        ·
         refine Run.skip ?_
         refine Run.endBlock ?_
         refine Run.endBlock ?_
         refine Run.reg ?_
         refine bin rfl rfl rfl rfl rfl ?_
         refine mv rfl rfl rfl ?_
         refine nil ?_
         refine Run.slim [(0, v0), (1, v1), (9, v1), (10, .int .i64 (a1.length : Int)), (11, .int .i64 (IntKind.i64.wrap (s1 + 1)))] ⟨rfl, rfl, rfl, rfl, rfl, trivial⟩ ?_
         exact hk1 ((IntKind.i64.wrap (s1 + 1))) _ _ ⟨rfl, (h16.facts (.atm (.s (.s (.s (.s (.s .z))))) .nil)).picks (.cons (.s .z) (.cons (.s .z) (.cons (.s .z) .nil)))⟩ hF
     ·
      cases hF
 ·
  refine Run.exit rfl ?_
  refine sr ?_
  refine asg rfl rfl rfl ?_
  refine nil ?_
  refine Run.retP rfl (.tmp rfl .nil) ?_
  cases hF
  exact Post.mk' ⟨rfl, rfl, rfl, rfl⟩ (h1.picks (.cons .z (.cons .z (.cons .z .nil)))) .nil
theorem entity_present_1_2_ok {fuel : Nat} {a0 : Entity_} {a1 : List Entity_} {y : Bool} (hF : entity_present_1_2 fuel a0 a1 = some y) {w : World} {v0 v1 : Value} :
  Spec Tryz.prog 206 [v0, v1].toArray w [(false, .val Entity_.rep v0 a0), (false, .ptr (Rep.slice Entity_.rep) v1 a1)] [] (fun v Γr Ωr Ωo => v = .bool y ∧ Γr = [] ∧ Ωr = [] ∧ Ωo = []) := by
 refine Spec.of (L := [(0, v0), (1, v1)]) Tryz.func206 rfl ⟨rfl, rfl, trivial⟩ rfl (fun e h => ?_)
 unfold entity_present_1_2 at hF
 refine sr ?_
 refine op (OpS.boxF h rfl rfl rfl (V.at .z) (fun u1 w1 h1 => ?_))
 refine asg rfl rfl rfl ?_
 refine nil ?_
 refine sr ?_
 refine op (OpS.load h1 ty43 rfl rfl rfl (.s .z) (fun u2 h2 => ?_))
 refine op (OpS.loadB h2 .z PA.z Get.id ty66 rfl rfl rfl (fun u3 h3 => ?_))
 obtain ⟨y1, e1, hF⟩ := bindP_use hF
 refine op (OpS.callP h3 Tryz.func160 rfl rfl rfl rfl (vs := [u2, u3]) rfl (slices_Contains_api_Entity_api_Entity_ok e1) (.cons (f := false) (V.at (.s .z)) (.cons (f := false) (V.at .z) .nil)) ?_)
 rintro _ w2 _ _ _ ⟨rfl, rfl, rfl, rfl⟩ h4
 have h5 := h4 rfl rfl
 simp only [ca, na] at h5
 refine asg rfl rfl rfl ?_
 refine nil ?_
 refine Run.retP rfl (.tmp rfl .nil) ?_
 cases hF
 exact Post.mk' ⟨rfl, rfl, rfl, rfl⟩ (h5.picks .nil) .nil
theorem slices_IndexFunc_api_Entity_api_Entity_entity_present_1_ok {fuel : Nat} {a0 : List Entity_} {a1_0 : List Entity_} {y : Int} (hF : slices_IndexFunc_api_Entity_api_Entity_entity_present_1 fuel a0 a1_0 = some y) {w : World} {v0 v1_0 : Value} :
  Spec Tryz.prog 240 [v0, .func (.func 206) #[] #[v1_0]].toArray w [(false, .val (Rep.slice Entity_.rep) v0 a0), (false, .ptr (Rep.slice Entity_.rep) v1_0 a1_0)] [] (fun v Γr Ωr Ωo => v = .int .i64 y ∧ Γr = [] ∧ Ωr = [] ∧ Ωo = []) := by
 refine Spec.of (L := [(0, v0), (1, .func (.func 206) #[] #[v1_0])]) Tryz.func240 rfl ⟨rfl, rfl, trivial⟩ rfl (fun e h => ?_)
 unfold slices_IndexFunc_api_Entity_api_Entity_entity_present_1 at hF
 refine sr ?_
 refine asg rfl rfl rfl ?_
 refine nil ?_
 refine Run.seq ?_
 refine sr ?_
 refine mv rfl rfl rfl ?_
 refine op (OpS.len h Tryz.underlying43 rfl rfl rfl (V.at .z) ?_)
 refine mv rfl rfl rfl ?_
 refine nil ?_
 refine Run.block ?_
 refine Run.slim [(0, v0), (1, .func (.func 206) #[] #[v1_0]), (7, .int .i64 (a0.length : Int)), (8, .int .i64 0)] ⟨rfl, rfl, rfl, rfl, trivial⟩ ?_
 refine Run.loopP (σ := Int) (fun s_ L_ w_ => L_ = [(0, v0), (1, .func (.func 206) #[] #[v1_0]), (7, .int .i64 (a0.length : Int)), (8, .int .i64 s_)] ∧ St e w_ [(false, .val (Rep.slice Entity_.rep) v0 a0), (false, .ptr (Rep.slice Entity_.rep) v1_0 a1_0)] []) hF ⟨rfl, (h.facts (.atm .z (.atm (.s .z) .nil))).picks .nil⟩ (fun k1 hk1 s1 _ w1 hI hF => ?_)
 obtain ⟨rfl, h1⟩ := hI
 refine sr ?_
 refine bin rfl rfl rfl rfl rfl ?_
 refine nil ?_
 refine Run.seq ?_
 refine Run.ite rfl hF (fun e1 hF => ?_) (fun e1 hF => ?_)
 ·
  refine Run.skip ?_
  refine Run.seq ?_
  refine Run.block ?_
  refine sr ?_
  refine mv rfl rfl rfl ?_
  refine asg rfl rfl rfl ?_
  refine nil ?_
  refine sr ?_
  refine mv rfl rfl rfl ?_
  refine mv rfl rfl rfl ?_
  refine mv rfl rfl rfl ?_
  obtain ⟨x1, e2, hF⟩ := bindP_use hF
  refine op (OpS.iptr h1 Tryz.underlying43 ty66 rfl rfl rfl rfl (V.at .z) e2 (fun u1 h2 => ?_))
  refine op (OpS.load h2 ty66 rfl rfl rfl .z (fun u2 h3 => ?_))
  obtain ⟨y1, e3, hF⟩ := bindP_use hF
  refine op (OpS.callPF (fl := []) (cl := [v1_0]) h3 Tryz.func206 rfl rfl rfl rfl rfl (vs := [u2]) rfl (entity_present_1_2_ok e3) (.cons (f := false) (V.at .z) (.ptr (.s (.s (.s .z))) .nil)) ?_)
  rintro _ w2 _ _ _ ⟨rfl, rfl, rfl, rfl⟩ h4
  have h5 := h4 rfl rfl
  simp only [ca, na] at h5
  refine nil ?_
  refine Run.ite rfl hF (fun e4 hF => ?_) (fun e4 hF => ?_)
  ·
   cases hF
  ·
   refine Run.skip ?_
   refine Run.endBlock ?_
   refine Run.reg ?_
   refine bin rfl rfl rfl rfl rfl ?_
   refine mv rfl rfl rfl ?_
   refine nil ?_
   refine Run.slim [(0, v0), (1, .func (.func 206) #[] #[v1_0]), (7, .int .i64 (a0.length : Int)), (8, .int .i64 (IntKind.i64.wrap (s1 + 1)))] ⟨rfl, rfl, rfl, rfl, trivial⟩ ?_
   exact hk1 ((IntKind.i64.wrap (s1 + 1))) _ _ ⟨rfl, (h5.facts (.atm (.s (.s .z)) (.atm (.s (.s (.s .z))) .nil))).picks .nil⟩ hF
 ·
  refine Run.exit rfl ?_
  refine sr ?_
  refine asg rfl rfl rfl ?_
  refine nil ?_
  refine Run.retP rfl (.tmp rfl .nil) ?_
  cases hF
  exact Post.mk' ⟨rfl, rfl, rfl, rfl⟩ (h1.picks .nil) .nil
theorem slices_ContainsFunc_api_Entity_api_Entity_entity_present_1_ok {fuel : Nat} {a0 : List Entity_} {a1_0 : List Entity_} {y : Bool} (hF : slices_ContainsFunc_api_Entity_api_Entity_entity_present_1 fuel a0 a1_0 = some y) {w : World} {v0 v1_0 : Value} :
  Spec Tryz.prog 205 [v0, .func (.func 206) #[] #[v1_0]].toArray w [(false, .val (Rep.slice Entity_.rep) v0 a0), (false, .ptr (Rep.slice Entity_.rep) v1_0 a1_0)] [] (fun v Γr Ωr Ωo => v = .bool y ∧ Γr = [] ∧ Ωr = [] ∧ Ωo = []) := by
 refine Spec.of (L := [(0, v0), (1, .func (.func 206) #[] #[v1_0])]) Tryz.func205 rfl ⟨rfl, rfl, trivial⟩ rfl (fun e h => ?_)
 unfold slices_ContainsFunc_api_Entity_api_Entity_entity_present_1 at hF
 refine sr ?_
 refine asg rfl rfl rfl ?_
 refine nil ?_
 refine sr ?_
 refine mv rfl rfl rfl ?_
 refine mv rfl rfl rfl ?_
 obtain ⟨y1, e1, hF⟩ := bindP_use hF
 refine op (OpS.callP h Tryz.func240 rfl rfl rfl rfl (vs := [v0, .func (.func 206) #[] #[v1_0]]) rfl (slices_IndexFunc_api_Entity_api_Entity_entity_present_1_ok e1) (.cons (f := false) (V.at .z) (.ptr (.s .z) .nil)) ?_)
 rintro _ w1 _ _ _ ⟨rfl, rfl, rfl, rfl⟩ h1
 have h2 := h1 rfl rfl
 simp only [ca, na] at h2
 refine bin rfl rfl rfl rfl rfl ?_
 refine asg rfl rfl rfl ?_
 obtain ⟨x1, e2, hF⟩ := letP_use hF
 refine RunL.nameb e2 ?_
 refine nil ?_
 refine Run.retP rfl (.tmp rfl .nil) ?_
 cases hF
 exact Post.mk' ⟨rfl, rfl, rfl, rfl⟩ (h2.picks .nil) .nil
set_option maxRecDepth 20000 in
theorem entity_present_ok {fuel : Nat} {a0 : List Association_} {a1 : List Entity_} {a2 : Entity_} {y : Bool} (hF : entity_present fuel a0 a1 a2 = some y) {w : World} {v0 v1 v2 : Value} :
  Spec Tryz.prog 149 [v0, v1, v2].toArray w [(false, .val (Rep.slice Association_.rep) v0 a0), (false, .val (Rep.slice Entity_.rep) v1 a1), (false, .val Entity_.rep v2 a2)] [] (fun v Γr Ωr Ωo => v = .bool y ∧ Γr = [] ∧ Ωr = [] ∧ Ωo = []) := by
 refine Spec.of (L := [(0, v0), (1, v1), (2, v2)]) Tryz.func149 rfl ⟨rfl, rfl, rfl, trivial⟩ rfl (fun e h => ?_)
 unfold entity_present at hF
 refine sr ?_
 refine op (OpS.boxF h rfl rfl rfl (V.at (.s .z)) (fun u1 w1 h1 => ?_))
 refine op (OpS.boxF h1 rfl rfl rfl (V.at (.s (.s .z))) (fun u2 w2 h2 => ?_))
 refine asg rfl rfl rfl ?_
 refine nil ?_
 refine Run.seq ?_
 obtain ⟨y1, e1, hF⟩ := bindP_use hF
 obtain ⟨x1, e2, hF⟩ := bindP_use hF
 refine Run.drawV (Ωs := [(false, .box 43 (Rep.slice Entity_.rep) u1 a1)]) [.k 7 v0, .fr 8 (fun u_ => [(false, .val Entity_.rep u_ a2)]) [0], ⟨some 9, none, fun u_ => [], fun ds_ u_ => [(true, .slice 66 Entity_.rep u_ y1)], [], [], none⟩, .fr 10 (fun u_ => [(false, .val Entity_.rep u_ a2)]) [0], .f 11 (fun u_ => [(false, .val (Rep.slice Entity_.rep) u_ ([a2]))]), ⟨some 12, none, fun u_ => [], fun ds_ u_ => [(true, .slice 66 Entity_.rep u_ x1)], [3], [], none⟩, .k 13 (.func (.func 206) #[] #[u1])] [[], [], [0, 1], [], [3], [2, 4], []] [[(false, .box 66 Entity_.rep u2 a2)]] [0, 1, 2, 4, 5, 6, 7] Try_mixed rfl rfl rfl h2 (.cons ?_ (.cons ?_ (.cons ?_ (.cons ?_ (.cons ?_ (.cons ?_ (.cons ?_ .nil))))))) (fun q1 w hq1 h => ?_)
 ·intro q1 w Γx Ωx h
  refine OpS.mv rfl rfl rfl ?_
  exact ⟨undef, rfl, trivial, h⟩
 ·intro q1 w Γx Ωx h
  refine OpS.loadB h .z PA.z Get.id ty66 rfl rfl rfl (fun u h9 => ?_)
  exact ⟨u, rfl, trivial, h9⟩
 ·intro q1 w Γx Ωx h
  refine OpS.callP h Tryz.func161 rfl rfl rfl rfl (vs := [v0, (q1 1)]) rfl (entity_around_ok e1) (.cons (f := false) (V.at (.s .z)) (.cons (f := false) (V.at .z) .nil)) ?_
  rintro u w6 _ _ _ ⟨_, rfl, rfl, rfl, rfl⟩ h10
  have h11 := h10 rfl rfl
  simp only [ca, na] at h11
  exact ⟨u, rfl, trivial, h11⟩
 ·intro q1 w Γx Ωx h
  refine OpS.loadB h .z PA.z Get.id ty66 rfl rfl rfl (fun u h12 => ?_)
  exact ⟨u, rfl, trivial, h12⟩
 ·intro q1 w Γx Ωx h
  refine OpS.lit (r := Entity_.rep) (f := false) h Tryz.underlying43 ti66 rfl rfl rfl rfl rfl (.cons rfl (V.at .z) .nil) rfl rfl (fun u w7 h13 => ?_)
  exact ⟨u, rfl, trivial, h13⟩
 ·intro q1 w Γx Ωx h
  refine OpS.app (f' := false) h .z Tryz.underlying43 ti66 rfl rfl rfl rfl rfl rfl rfl (V.at .z) (.inr Entity_.pure) e2 (fun u w8 h14 => ?_)
  exact ⟨u, rfl, trivial, h14⟩
 ·intro q1 w Γx Ωx h
  refine OpS.mkf (fl := []) (cl := [u1]) rfl rfl rfl rfl ?_
  exact ⟨undef, rfl, trivial, h⟩
 have h15 := h
 obtain ⟨y2, e3, hF⟩ := bindP_use hF
 refine op (OpS.callP h15 Tryz.func205 rfl rfl rfl rfl (vs := [(q1 5), .func (.func 206) #[] #[u1]]) rfl (slices_ContainsFunc_api_Entity_api_Entity_entity_present_1_ok e3) (.own (.s .z) (.box (.s (.s .z)) .nil)) ?_)
 rintro _ w9 _ _ _ ⟨rfl, rfl, rfl, rfl⟩ h16
 have h17 := h16 rfl rfl
 simp only [ca, na] at h17
 refine op (OpS.not rfl rfl rfl ?_)
 refine asg rfl rfl rfl ?_
 obtain ⟨x2, e4, hF⟩ := letP_use hF
 refine RunL.nameb e4 ?_
 refine nil ?_
 refine Run.retP rfl (.tmp rfl .nil) ?_
 cases hF
 exact Post.mk' ⟨rfl, rfl, rfl, rfl⟩ (h17.picks .nil) .nil
theorem entity_Present_ok {fuel : Nat} {a0 : List Association_} {a1 : List Entity_} {a2 : Entity_} {y : Bool × Int} (hF : entity_Present fuel a0 a1 a2 = some y) {w : World} {v0 v1 v2 : Value} :
  Spec Tryz.prog 78 [v0, v1, v2].toArray w [(false, .val (Rep.slice Association_.rep) v0 a0), (false, .val (Rep.slice Entity_.rep) v1 a1), (false, .val Entity_.rep v2 a2)] [] (fun v Γr Ωr Ωo => v = .tuple #[.bool y.1, .int .i64 y.2] ∧ Γr = [] ∧ Ωr = [] ∧ Ωo = []) := by
 refine Spec.of (L := [(0, v0), (1, v1), (2, v2)]) Tryz.func78 rfl ⟨rfl, rfl, rfl, trivial⟩ rfl (fun e h => ?_)
 unfold entity_Present at hF
 refine sr ?_
 refine op (OpS.boxF h rfl rfl rfl (V.at (.s (.s .z))) (fun u1 w1 h1 => ?_))
 refine asg rfl rfl rfl ?_
 refine asg rfl rfl rfl ?_
 refine nil ?_
 refine Run.seq ?_
 refine sr ?_
 refine mv rfl rfl rfl ?_
 obtain ⟨y1, e1, hF⟩ := bindP_use hF
 refine op (OpS.callP h1 Tryz.func96 rfl rfl rfl rfl (vs := [v0]) rfl (entity_Check_ok e1) (.cons (f := false) (V.at .z) .nil) ?_)
 rintro _ w2 _ _ _ ⟨rfl, rfl, rfl, rfl⟩ h2
 have h3 := h2 rfl rfl
 simp only [ca, na] at h3
 refine asg rfl rfl rfl ?_
 refine nil ?_
 refine sr ?_
 refine mv rfl rfl rfl ?_
 refine bin rfl rfl rfl rfl rfl ?_
 refine nil ?_
 refine Run.ite rfl hF (fun e2 hF => ?_) (fun e2 hF => ?_)
 ·
  cases hF
 ·
  refine Run.skip ?_
  refine sr ?_
  refine mv rfl rfl rfl ?_
  refine mv rfl rfl rfl ?_
  refine op (OpS.loadB h3 .z PA.z Get.id ty66 rfl rfl rfl (fun u2 h4 => ?_))
  obtain ⟨y2, e3, hF⟩ := bindP_use hF
  refine op (OpS.callP h4 Tryz.func149 rfl rfl rfl rfl (vs := [v0, v1, u2]) rfl (entity_present_ok e3) (.cons (f := false) (V.at (.s .z)) (.cons (f := false) (V.at (.s (.s .z))) (.cons (f := false) (V.at .z) .nil))) ?_)
  rintro _ w3 _ _ _ ⟨rfl, rfl, rfl, rfl⟩ h5
  have h6 := h5 rfl rfl
  simp only [ca, na] at h6
  refine asg rfl rfl rfl ?_
  refine asg rfl rfl rfl ?_
  refine nil ?_
  refine Run.retP rfl (.tmp rfl (.tmp rfl .nil)) ?_
  cases hF
  exact Post.mk' ⟨rfl, rfl, rfl, rfl⟩ (h6.picks .nil) .nil
theorem sampling_Valid_ok {fuel : Nat} {a0 : Sensor_} {a1 : Filter_} {y : Bool} (hF : sampling_Valid fuel a0 a1 = some y) {w : World} {v0 v1 : Value} :
  Spec Tryz.prog 162 [v0, v1].toArray w [(false, .val Sensor_.rep v0 a0), (false, .val Filter_.rep v1 a1)] [] (fun v Γr Ωr Ωo => v = .bool y ∧ Γr = [] ∧ Ωr = [] ∧ Ωo = []) := by
 refine Spec.of (L := [(0, v0), (1, v1)]) Tryz.func162 rfl ⟨rfl, rfl, trivial⟩ rfl (fun e h => ?_)
 unfold sampling_Valid at hF
 refine sr ?_
 refine op (OpS.boxF h rfl rfl rfl (V.at .z) (fun u1 w1 h1 => ?_))
 refine op (OpS.boxF h1 rfl rfl rfl (V.at (.s .z)) (fun u2 w2 h2 => ?_))
 refine asg rfl rfl rfl ?_
 refine nil ?_
 refine Run.seq ?_
 refine sr ?_
 refine op (OpS.loadB h2 (.s .z) PA.z Get.id ty74 rfl rfl rfl (fun u3 h3 => ?_))
 obtain ⟨y1, e1, hF⟩ := bindP_use hF
 refine op (OpS.callP h3 Tryz.func107 rfl rfl rfl rfl (vs := [u3]) rfl (sensor_Valid_ok e1) (.cons (f := false) (V.at .z) .nil) ?_)
 rintro _ w3 _ _ _ ⟨rfl, rfl, rfl, rfl⟩ h4
 have h5 := h4 rfl rfl
 simp only [ca, na] at h5
 refine op (OpS.not rfl rfl rfl ?_)
 refine mv rfl rfl rfl ?_
 refine RunL.caseb hF (fun e2 hF => ?_) (fun e2 hF => ?_)
 ·
  cases hF
 ·
  refine op (OpS.fbox (o3 := 0) h5 .z PA.z fa188_0 rfl rfl rfl rfl ?_)
  refine op (OpS.loadB h5 .z PA.a (Get.fld Filter_.f0) ty24 rfl rfl rfl (fun u4 h6 => ?_))
  refine op (OpS.len h6 Tryz.underlying24 rfl rfl rfl (V.at .z) ?_)
  refine op (OpS.fbox (o3 := 27) h6 (.s .z) PA.z fa74_14 rfl rfl rfl rfl ?_)
  refine op (OpS.loadBi h6 (.s .z) PA.a (Get.fld Sensor_.f14) ty3 rfl rfl rfl ?_)
  refine bin rfl rfl rfl rfl rfl ?_
  refine pick rfl rfl rfl rfl ?_
  refine mv rfl rfl rfl ?_
  refine RunL.caseb hF (fun e3 hF => ?_) (fun e3 hF => ?_)
  ·
   cases hF
  ·
   refine op (OpS.fbox (o3 := 1) h6 .z PA.z fa188_1 rfl rfl rfl rfl ?_)
   refine op (OpS.loadBi h6 .z PA.a (Get.fld Filter_.f1) ty3 rfl rfl rfl ?_)
   refine bin rfl rfl rfl rfl rfl ?_
   refine pick rfl rfl rfl rfl ?_
   refine mv rfl rfl rfl ?_
   refine RunL.caseb hF (fun e4 hF => ?_) (fun e4 hF => ?_)
   ·
    cases hF
   ·
    refine op (OpS.fbox (o3 := 1) h6 .z PA.z fa188_1 rfl rfl rfl rfl ?_)
    refine op (OpS.loadBi h6 .z PA.a (Get.fld Filter_.f1) ty3 rfl rfl rfl ?_)
    refine bin rfl rfl rfl rfl rfl ?_
    refine pick rfl rfl rfl rfl ?_
    refine nil ?_
    refine Run.ite rfl hF (fun e5 hF => ?_) (fun e5 hF => ?_)
    ·
     cases hF
    ·
     refine Run.skip ?_
     refine sr ?_
     refine op (OpS.fbox (o3 := 1) h6 .z PA.z fa188_1 rfl rfl rfl rfl ?_)
     refine op (OpS.loadBi h6 .z PA.a (Get.fld Filter_.f1) ty3 rfl rfl rfl ?_)
     refine bin rfl rfl rfl rfl rfl ?_
     refine mv rfl rfl rfl ?_
     refine RunL.caseb hF (fun e6 hF => ?_) (fun e6 hF => ?_)
     ·
      refine pass rfl rfl rfl ?_
      refine pass rfl rfl rfl ?_
      refine pass rfl rfl rfl ?_
      refine pass rfl rfl rfl ?_
      refine pick rfl rfl rfl rfl ?_
      refine asg rfl rfl rfl ?_
      refine nil ?_
      refine Run.slim [(4, .bool true)] ⟨rfl, trivial⟩ ?_
      refine Run.retP rfl (.tmp rfl .nil) ?_
      cases hF
      exact Post.mk' ⟨rfl, rfl, rfl, rfl⟩ (h6.picks .nil) .nil
     ·
      cases hF
theorem sampling_Step_ok {fuel : Nat} {a0 : Sensor_} {a1 : Filter_} {a2 : Int} {a3 : Bool} {y : Filter_ × Int} (hF : sampling_Step fuel a0 a1 a2 a3 = some y) {w : World} {v0 v1 : Value} :
  Spec Tryz.prog 151 [v0, v1, .int .u8 a2, .bool a3].toArray w [(false, .val Sensor_.rep v0 a0), (false, .val Filter_.rep v1 a1)] [] (fun v Γr Ωr Ωo => ∃ u0 : Value, v = .tuple #[u0, .int .i64 y.2] ∧ Γr = [(true, .val Filter_.rep u0 y.1)] ∧ Ωr = [] ∧ Ωo = []) := by
 refine Spec.of (L := [(0, v0), (1, v1), (2, .int .u8 a2), (3, .bool a3)]) Tryz.func151 rfl ⟨rfl, rfl, rfl, rfl, trivial⟩ rfl (fun e h => ?_)
 unfold sampling_Step at hF
 refine sr ?_
 refine op (OpS.boxF h rfl rfl rfl (V.at .z) (fun u1 w1 h1 => ?_))
 refine op (OpS.boxF h1 rfl rfl rfl (V.at (.s .z)) (fun u2 w2 h2 => ?_))
 refine op (OpS.alloc h2 ti188 Filter_.zr rfl rfl (fun u3 w3 h3 => ?_))
 refine asg rfl rfl rfl ?_
 refine nil ?_
 refine Run.seq ?_
 refine sr ?_
 refine op (OpS.loadB h3 (.s (.s .z)) PA.z Get.id ty74 rfl rfl rfl (fun u4 h4 => ?_))
 refine op (OpS.loadB h4 (.s .z) PA.z Get.id ty188 rfl rfl rfl (fun u5 h5 => ?_))
 obtain ⟨y1, e1, hF⟩ := bindP_use hF
 refine op (OpS.callP h5 Tryz.func162 rfl rfl rfl rfl (vs := [u4, u5]) rfl (sampling_Valid_ok e1) (.cons (f := false) (V.at (.s .z)) (.cons (f := false) (V.at .z) .nil)) ?_)
 rintro _ w4 _ _ _ ⟨rfl, rfl, rfl, rfl⟩ h6
 have h7 := h6 rfl rfl
 simp only [ca, na] at h7
 refine op (OpS.not rfl rfl rfl ?_)
 refine nil ?_
 refine Run.ite rfl hF (fun e2 hF => ?_) (fun e2 hF => ?_)
 ·
  cases hF
 ·
  refine Run.skip ?_
  refine sr ?_
  refine op (OpS.fbox (o3 := 0) h7 (.s .z) PA.z fa188_0 rfl rfl rfl rfl ?_)
  refine op (OpS.loadB h7 (.s .z) PA.a (Get.fld Filter_.f0) ty24 rfl rfl rfl (fun u6 h8 => ?_))
  obtain ⟨y2, e3, hF⟩ := bindP_use hF
  refine op (OpS.callP h8 Tryz.func113 rfl rfl rfl rfl (vs := [u6]) rfl (slices_Clone_byte_byte_ok e3) (.cons (f := false) (V.at .z) .nil) ?_)
  rintro u7 w5 _ _ _ ⟨_, rfl, rfl, rfl, rfl⟩ h9
  have h10 := h9 rfl rfl
  simp only [ca, na] at h10
  refine op (OpS.buildC (f := true) (r := Filter_.rep) (x := Filter_.z) (r' := (Rep.iso (fun s : Filter_ => (s.Window, s.Missing, ())) (Rep.prod (Rep.raw (α := List Int) u7) (Rep.prod (Rep.int .i64) Rep.unit)))) (x' := (⟨[], 0⟩ : Filter_)) h10 pl188 ti188 Filter_.zr rfl rfl rfl (.cons (Rep.raw u7) Filter_.rep (Rep.iso (fun s : Filter_ => (s.Window, s.Missing, ())) (Rep.prod (Rep.raw (α := List Int) u7) (Rep.prod (Rep.int .i64) Rep.unit))) Filter_.z (⟨[], 0⟩ : Filter_) (Chg.iso _ (Chg.here (Chg.id (by rfl)))) rfl rfl (V.raw (f := true) (St.own1 h10 .z) []) .nil) (fun u8 h11 => ?_))
  have h12 := St.nil 5 (Rep.int .u8) h11
  refine op (OpS.alloc (r := (Rep.iso (fun s : Filter_ => (s.Window, s.Missing, ())) (Rep.prod (Rep.raw (α := List Int) (.slice none 0 0)) (Rep.prod (Rep.int .i64) Rep.unit)))) h12 ti188 (Zr.iso (y := Filter_.z) _ (Zr.of (Zr.prod (Zr.raw rfl ([] : List Int)) (Zr.prod (Zr.int .i64 0) Zr.unit)) (by rfl))) rfl rfl (fun u9 w6 h13 => ?_))
  refine op (OpS.storeC (f' := true) (fr := (Rep.iso (fun s : Filter_ => (s.Window, s.Missing, ())) (Rep.prod (Rep.raw (α := List Int) u7) (Rep.prod (Rep.int .i64) Rep.unit)))) (r' := (Rep.iso (fun s : Filter_ => (s.Window, s.Missing, ())) (Rep.prod (Rep.raw (α := List Int) u7) (Rep.prod (Rep.int .i64) Rep.unit)))) (x' := (⟨[], 0⟩ : Filter_)) h13 .z PA.z (Chg.id (by rfl)) (Ty.like ty188 (by rfl) (by rfl)) rfl rfl rfl (V.at .z) (.inl rfl) (fun w7 h14 => ?_))
  refine nil ?_
  refine Run.seq ?_
  refine sr ?_
  refine mv rfl rfl rfl ?_
  refine nil ?_
  refine Run.ite rfl hF (fun e4 hF => ?_) (fun e4 hF => ?_)
  ·
   refine sr ?_
   refine op (OpS.fbox (o3 := 0) h14 .z PA.z fa188_0 rfl rfl rfl rfl ?_)
   refine op (OpS.loadR h14 .z PA.a (GetS.ok (GetS.iso _ (GetS.here GetS.id))) ty24 rfl rfl rfl rfl rfl ?_)
   refine mv rfl rfl rfl ?_
   refine op (OpS.lit (r := (Rep.int .u8)) (f := true) h14 Tryz.underlying24 ti5 rfl rfl rfl rfl rfl (.cons rfl V.int .nil) rfl rfl (fun u10 w8 h15 => ?_))
   obtain ⟨x1, e5, hF⟩ := bindP_use hF
   refine op (OpS.app (f' := true) h15 (.s (.s .z)) Tryz.underlying24 ti5 rfl rfl rfl rfl rfl rfl rfl (V.at .z) (.inr Pure.int) e5 (fun u11 w9 h16 => ?_))
   refine op (OpS.fbox (o3 := 0) h16 (.s .z) PA.z fa188_0 rfl rfl rfl rfl ?_)
   refine op (OpS.storeC (f' := true) (fr := (Rep.raw u11)) (r' := (Rep.iso (fun s : Filter_ => (s.Window, s.Missing, ())) (Rep.prod (Rep.raw (α := List Int) u11) (Rep.prod (Rep.int .i64) Rep.unit)))) (x' := (⟨[], 0⟩ : Filter_)) h16 (.s .z) PA.a (Chg.iso _ (Chg.here (Chg.id (by rfl)))) (Ty.like ty24 (by rfl) (by rfl)) rfl rfl rfl (V.raw (f := true) (St.own1 h16 .z) ([])) (.inl rfl) (fun w10 h17 => ?_))
   refine nil ?_
   refine Run.seq ?_
   refine sr ?_
   refine op (OpS.fbox (o3 := 0) h17 .z PA.z fa188_0 rfl rfl rfl rfl ?_)
   refine op (OpS.loadR h17 .z PA.a (GetS.ok (GetS.iso _ (GetS.here GetS.id))) ty24 rfl rfl rfl rfl rfl ?_)
   refine op (OpS.lenO h17 (.s .z) Tryz.underlying24 rfl rfl rfl ?_)
   refine op (OpS.fbox (o3 := 27) h17 (.s (.s (.s (.s (.s .z))))) PA.z fa74_14 rfl rfl rfl rfl ?_)
   refine op (OpS.loadBi h17 (.s (.s (.s (.s (.s .z))))) PA.a (Get.fld Sensor_.f14) ty3 rfl rfl rfl ?_)
   refine bin rfl rfl rfl rfl rfl ?_
   refine nil ?_
   refine Run.ite rfl hF (fun e6 hF => ?_) (fun e6 hF => ?_)
   ·
    cases hF
   ·
    refine Run.skip ?_
    refine sr ?_
    refine op (OpS.loadB (fr := (Rep.iso (fun s : Filter_ => (s.Window, s.Missing, ())) (Rep.prod (Rep.raw (α := List Int) u11) (Rep.prod (Rep.int .i64) Rep.unit)))) h17 .z PA.z (GetS.ok GetS.id) (Ty.like ty188 (by rfl) (by rfl)) rfl rfl rfl (fun u12 h18 => ?_))
    refine op (OpS.storeC (f' := true) (fr := (Rep.iso (fun s : Filter_ => (s.Window, s.Missing, ())) (Rep.prod (Rep.raw (α := List Int) u11) (Rep.prod (Rep.int .i64) Rep.unit)))) (r' := (Rep.iso (fun s : Filter_ => (s.Window, s.Missing, ())) (Rep.prod (Rep.raw (α := List Int) u11) (Rep.prod (Rep.int .i64) Rep.unit)))) (x' := (⟨[], 0⟩ : Filter_)) h18 (.s (.s (.s .z))) PA.z (Chg.id (by rfl)) (Ty.like ty188 (by rfl) (by rfl)) rfl rfl rfl (V.at .z) (.inl rfl) (fun w11 h19 => ?_))
    refine asg rfl rfl rfl ?_
    refine nil ?_
    obtain ⟨u13, hu1, h20⟩ := res_box h19 .z (Ty.like ty188 (by rfl) (by rfl))
    have h21 := (h20.pick (.s (.s .z))).freeze
    have h22 := h21.pick .z
    have h23 := St.boxJ (r' := Filter_.rep) (x' := (⟨x1, 0⟩ : Filter_)) h22 (fun _ _ hs_ => (Jn.iso _ (Jn.prod (Jn.raw ((V.at .z) _ _ hs_) rfl) Jn.refl)))
    have h24 := h23.pick (.s .z)
    have h25 := St.boxJ (r' := Filter_.rep) (x' := (⟨x1, 0⟩ : Filter_)) h24 (fun _ _ hs_ => (Jn.iso _ (Jn.prod (Jn.raw ((V.at .z) _ _ hs_) rfl) Jn.refl)))
    have h26 := St.addV (f := true) (r := Filter_.rep) (x := (⟨x1, 0⟩ : Filter_)) h25 (V.jn (r := (Rep.iso (fun s : Filter_ => (s.Window, s.Missing, ())) (Rep.prod (Rep.raw (α := List Int) u11) (Rep.prod (Rep.int .i64) Rep.unit)))) (x := (⟨[], 0⟩ : Filter_)) (V.at (.s .z)) rfl (fun _ _ hs_ => (Jn.iso _ (Jn.prod (Jn.raw ((V.at .z) _ _ hs_) rfl) Jn.refl))))
    refine Run.retP rfl (.cell rfl hu1 (.tmp rfl .nil)) ?_
    cases hF
    exact Post.mk' ⟨u13, rfl, rfl, rfl, rfl⟩ (h26.picks .nil) (.val (V.at .z) .nil)
  ·
   cases hF
theorem slices_Values_uint8_uint8_ok {fuel : Nat} {a0 : List Int} {y : ((List Int))} (hF : slices_Values_uint8_uint8 fuel a0 = some y) {w : World} {v0 : Value} :
  Spec Tryz.prog 164 [v0].toArray w [(false, .val (Rep.slice (Rep.int .u8)) v0 a0)] [] (fun v Γr Ωr Ωo => ∃ u0_0 : Value, v = .func (.func 215) #[] #[u0_0] ∧ Γr = [] ∧ Ωr = [(false, .box 24 (Rep.slice (Rep.int .u8)) u0_0 y)] ∧ Ωo = []) := by
 refine Spec.of (L := [(0, v0)]) Tryz.func164 rfl ⟨rfl, trivial⟩ rfl (fun e h => ?_)
 unfold slices_Values_uint8_uint8 at hF
 refine sr ?_
 refine op (OpS.boxF h rfl rfl rfl (V.at .z) (fun u1 w1 h1 => ?_))
 refine asg rfl rfl rfl ?_
 refine nil ?_
 refine sr ?_
 refine op (OpS.mkf (fl := []) (cl := [u1]) rfl rfl rfl rfl ?_)
 refine asg rfl rfl rfl ?_
 refine nil ?_
 refine Run.retP rfl (.tmp rfl .nil) ?_
 cases hF
 exact Post.mk' ⟨u1, rfl, rfl, rfl, rfl⟩ (h1.picks (.cons .z .nil)) .nil
set_option maxRecDepth 20000 in
theorem bits_Len64_ok {fuel : Nat} {a0 : Int} {y : Int} (hF : bits_Len64 fuel a0 = some y) {w : World} :
  Spec Tryz.prog 262 [.int .u64 a0].toArray w [] [] (fun v Γr Ωr Ωo => v = .int .i64 y ∧ Γr = [] ∧ Ωr = [] ∧ Ωo = []) := by
 refine Spec.of (L := [(0, .int .u64 a0)]) Tryz.func262 rfl ⟨rfl, trivial⟩ rfl (fun e h => ?_)
 unfold bits_Len64 at hF
 refine sr ?_
 refine asg rfl rfl rfl ?_
 refine nil ?_
 refine Run.seq ?_
 refine sr ?_
 refine mv rfl rfl rfl ?_
 refine bin rfl rfl rfl rfl rfl ?_
 refine nil ?_
 refine Run.join (σ := (Int × Int)) (fun s_ L_ w_ => L_ = [(0, .int .u64 s_.1), (2, .int .i64 s_.2)] ∧ St e w_ [] []) hF (fun s1 _ w1 hI hF => ?_) (fun j1 hj1 hF => ?_)
 ·
  obtain ⟨rfl, h1⟩ := hI
  refine Run.seq ?_
  refine sr ?_
  refine mv rfl rfl rfl ?_
  refine bin rfl rfl rfl rfl rfl ?_
  refine nil ?_
  refine Run.join (σ := (Int × Int)) (fun s_ L_ w_ => L_ = [(0, .int .u64 s_.1), (2, .int .i64 s_.2)] ∧ St e w_ [] []) hF (fun s2 _ w2 hI hF => ?_) (fun j2 hj2 hF => ?_)
  ·
   obtain ⟨rfl, h2⟩ := hI
   refine Run.seq ?_
   refine sr ?_
   refine mv rfl rfl rfl ?_
   refine bin rfl rfl rfl rfl rfl ?_
   refine nil ?_
   refine Run.ite rfl hF (fun e1 hF => ?_) (fun e1 hF => ?_)
   ·
    refine sr ?_
    refine mv rfl rfl rfl ?_
    refine op (OpS.shr rfl rfl rfl rfl (by decide) ?_)
    refine asg rfl rfl rfl ?_
    refine nil ?_
    refine Run.reg ?_
    refine mv rfl rfl rfl ?_
    refine bin rfl rfl rfl rfl rfl ?_
    refine asg rfl rfl rfl ?_
    obtain ⟨x1, e2, hF⟩ := letP_use hF
    refine RunL.name e2 ?_
    refine nil ?_
    refine sr ?_
    refine mv rfl rfl rfl ?_
    refine mv rfl rfl rfl ?_
    refine op (OpS.conv Tryz.underlying328 Tryz.underlying5 rfl rfl rfl ?_)
    obtain ⟨x2, e3, hF⟩ := bindP_use hF
    refine op (OpS.selem h2 Tryz.underlying9 rfl rfl rfl rfl (V.str (f := true)) e3 ?_)
    refine op (OpS.conv Tryz.underlying5 Tryz.underlying3 rfl rfl rfl ?_)
    refine bin rfl rfl rfl rfl rfl ?_
    refine asg rfl rfl rfl ?_
    obtain ⟨x3, e4, hF⟩ := letP_use hF
    refine RunL.name e4 ?_
    refine nil ?_
    refine Run.retP rfl (.tmp rfl .nil) ?_
    cases hF
    exact Post.mk' ⟨rfl, rfl, rfl, rfl⟩ (h2.picks .nil) .nil
   ·
    refine Run.skip ?_
    refine sr ?_
    refine mv rfl rfl rfl ?_
    refine mv rfl rfl rfl ?_
    refine op (OpS.conv Tryz.underlying328 Tryz.underlying5 rfl rfl rfl ?_)
    obtain ⟨x4, e5, hF⟩ := bindP_use hF
    refine op (OpS.selem h2 Tryz.underlying9 rfl rfl rfl rfl (V.str (f := true)) e5 ?_)
    refine op (OpS.conv Tryz.underlying5 Tryz.underlying3 rfl rfl rfl ?_)
    refine bin rfl rfl rfl rfl rfl ?_
    refine asg rfl rfl rfl ?_
    obtain ⟨x5, e6, hF⟩ := letP_use hF
    refine RunL.name e6 ?_
    refine nil ?_
    refine Run.retP rfl (.tmp rfl .nil) ?_
    cases hF
    exact Post.mk' ⟨rfl, rfl, rfl, rfl⟩ (h2.picks .nil) .nil
  ·
   refine Run.ite rfl hF (fun e7 hF => ?_) (fun e7 hF => ?_)
   ·
    refine sr ?_
    refine mv rfl rfl rfl ?_
    refine op (OpS.shr rfl rfl rfl rfl (by decide) ?_)
    refine asg rfl rfl rfl ?_
    refine nil ?_
    refine Run.reg ?_
    refine mv rfl rfl rfl ?_
    refine bin rfl rfl rfl rfl rfl ?_
    refine asg rfl rfl rfl ?_
    obtain ⟨x6, e8, hF⟩ := letP_use hF
    refine RunL.name e8 ?_
    refine nil ?_
    refine Run.slim [(0, .int .u64 (bShr .u64 s1.1 16)), (2, .int .i64 x6)] ⟨rfl, rfl, trivial⟩ ?_
    exact hj2 ((bShr .u64 s1.1 16), x6) _ _ ⟨rfl, (h1.facts .nil).picks .nil⟩ hF
   ·
    refine Run.skip ?_
    refine Run.slim [(0, .int .u64 s1.1), (2, .int .i64 s1.2)] ⟨rfl, rfl, trivial⟩ ?_
    exact hj2 (s1.1, s1.2) _ _ ⟨rfl, (h1.facts .nil).picks .nil⟩ hF
 ·
  refine Run.ite rfl hF (fun e9 hF => ?_) (fun e9 hF => ?_)
  ·
   refine sr ?_
   refine mv rfl rfl rfl ?_
   refine op (OpS.shr rfl rfl rfl rfl (by decide) ?_)
   refine asg rfl rfl rfl ?_
   refine nil ?_
   refine Run.reg ?_
   refine asg rfl rfl rfl ?_
   refine nil ?_
   refine Run.slim [(0, .int .u64 (bShr .u64 a0 32)), (2, .int .i64 32)] ⟨rfl, rfl, trivial⟩ ?_
   exact hj1 ((bShr .u64 a0 32), 32) _ _ ⟨rfl, (h.facts .nil).picks .nil⟩ hF
  ·
   refine Run.skip ?_
   refine Run.slim [(0, .int .u64 a0), (2, .int .i64 0)] ⟨rfl, rfl, trivial⟩ ?_
   exact hj1 (a0, 0) _ _ ⟨rfl, (h.facts .nil).picks .nil⟩ hF
theorem bits_Len_ok {fuel : Nat} {a0 : Int} {y : Int} (hF : bits_Len fuel a0 = some y) {w : World} :
  Spec Tryz.prog 246 [.int .u64 a0].toArray w [] [] (fun v Γr Ωr Ωo => v = .int .i64 y ∧ Γr = [] ∧ Ωr = [] ∧ Ωo = []) := by
 refine Spec.of (L := [(0, .int .u64 a0)]) Tryz.func246 rfl ⟨rfl, trivial⟩ rfl (fun e h => ?_)
 unfold bits_Len at hF
 refine sr ?_
 refine asg rfl rfl rfl ?_
 refine nil ?_
 refine Run.seq ?_
 refine Run.condF rfl ?_
 refine Run.skip ?_
 refine sr ?_
 refine mv rfl rfl rfl ?_
 obtain ⟨y1, e1, hF⟩ := bindP_use hF
 refine op (OpS.callP h Tryz.func262 rfl rfl rfl rfl (vs := [.int .u64 a0]) rfl (bits_Len64_ok e1) .nil ?_)
 rintro _ w1 _ _ _ ⟨rfl, rfl, rfl, rfl⟩ h1
 have h2 := h1 rfl rfl
 simp only [ca, na] at h2
 refine asg rfl rfl rfl ?_
 refine nil ?_
 refine Run.retP rfl (.tmp rfl .nil) ?_
 cases hF
 exact Post.mk' ⟨rfl, rfl, rfl, rfl⟩ (h2.picks .nil) .nil
theorem slices_Values_uint8_uint8_1_2_ok {σ : Type} {fuel : Nat} {bd_ : σ → Int → Option σ} {s_ : σ} {a1 : List Int} {y : σ} (hF : slices_Values_uint8_uint8_1_2 fuel bd_ s_ a1 = some y) {w : World} {v1 : Value} {l_ : Nat} {I_ : σ → HAtom} (hY_ : YieldOK Tryz.prog l_ (Rep.int .u8) I_ bd_) :
  Spec Tryz.prog 215 [.func (.yield l_) #[] #[], v1].toArray w [(false, .ptr (Rep.slice (Rep.int .u8)) v1 a1)] [(false, I_ s_)] (fun v Γr Ωr Ωo => v = .tuple #[] ∧ Γr = [] ∧ Ωr = [] ∧ Ωo = [(false, I_ y)]) := by
 refine Spec.of (L := [(0, .func (.yield l_) #[] #[]), (1, v1)]) Tryz.func215 rfl ⟨rfl, rfl, trivial⟩ rfl (fun e h => ?_)
 unfold slices_Values_uint8_uint8_1_2 at hF
 refine sr ?_
 refine op (OpS.load h ty24 rfl rfl rfl .z (fun u1 h1 => ?_))
 refine op (OpS.len h1 Tryz.underlying24 rfl rfl rfl (V.at .z) ?_)
 refine mv rfl rfl rfl ?_
 refine nil ?_
 refine Run.block ?_
 refine Run.slim [(0, .func (.yield l_) #[] #[]), (5, u1), (6, .int .i64 (a1.length : Int)), (7, .int .i64 0)] ⟨rfl, rfl, rfl, rfl, trivial⟩ ?_
 refine Run.loopP (σ := (Int × σ)) (fun s_ L_ w_ => L_ = [(0, .func (.yield l_) #[] #[]), (5, u1), (6, .int .i64 (a1.length : Int)), (7, .int .i64 s_.1)] ∧ St e w_ [(false, .val (Rep.slice (Rep.int .u8)) u1 a1)] [(false, I_ s_.2)]) hF ⟨rfl, (h1.facts (.atm .z .nil)).picks (.cons .z .nil)⟩ (fun k1 hk1 s1 _ w1 hI hF => ?_)
 obtain ⟨rfl, h2⟩ := hI
 refine sr ?_
 refine bin rfl rfl rfl rfl rfl ?_
 refine nil ?_
 refine Run.seq ?_
 refine Run.ite rfl hF (fun e1 hF => ?_) (fun e1 hF => ?_)
 ·
  refine Run.skip ?_
  refine Run.seq ?_
  refine Run.block ?_
  refine sr ?_
  obtain ⟨x1, e2, hF⟩ := bindP_use hF
  refine op (OpS.iptr h2 Tryz.underlying24 ty5 rfl rfl rfl rfl (V.at .z) e2 (fun u2 h3 => ?_))
  refine op (OpS.loadi h3 ty5 rfl rfl rfl .z ?_)
  refine asg rfl rfl rfl ?_
  refine nil ?_
  refine sr ?_
  refine mv rfl rfl rfl ?_
  refine mv rfl rfl rfl ?_
  obtain ⟨y1, e3, hF⟩ := bindP_use hF
  refine op (OpS.yield (f := true) h3 .z hY_ e3 rfl rfl rfl rfl V.int (fun w2 h4 => ?_))
  refine op (OpS.not rfl rfl rfl ?_)
  refine nil ?_
  refine Run.condF rfl ?_
  refine Run.skip ?_
  refine Run.endBlock ?_
  refine Run.reg ?_
  refine bin rfl rfl rfl rfl rfl ?_
  refine mv rfl rfl rfl ?_
  refine nil ?_
  refine Run.slim [(0, .func (.yield l_) #[] #[]), (5, u1), (6, .int .i64 (a1.length : Int)), (7, .int .i64 (IntKind.i64.wrap (s1.1 + 1)))] ⟨rfl, rfl, rfl, rfl, trivial⟩ ?_
  exact hk1 ((IntKind.i64.wrap (s1.1 + 1)), y1) _ _ ⟨rfl, (h4.facts (.atm (.s .z) .nil)).picks (.cons .z .nil)⟩ hF
 ·
  refine Run.exit rfl ?_
  refine Run.finP rfl .nil ?_
  cases hF
  exact Post.mk' ⟨rfl, rfl, rfl, rfl⟩ (h2.picks (.cons .z .nil)) .nil
theorem slices_AppendSeq_uint8_uint8_slices_Values_uint8_uint8_1_ok {fuel : Nat} {a1_0 : List Int} {y : (List Int)} (hF : slices_AppendSeq_uint8_uint8_slices_Values_uint8_uint8_1 fuel a1_0 = some y) {w : World} {v1_0 : Value} :
  Spec Tryz.prog 244 [.slice none 0 0, .func (.func 215) #[] #[v1_0]].toArray w [(false, .ptr (Rep.slice (Rep.int .u8)) v1_0 a1_0)] [] (fun v Γr Ωr Ωo => ∃ u0 : Value, v = u0 ∧ Γr = [] ∧ Ωr = [(false, (.slice 5 (Rep.int .u8) u0 y))] ∧ Ωo = []) := by
 refine Spec.of (L := [(0, .slice none 0 0), (1, .func (.func 215) #[] #[v1_0])]) Tryz.func244 rfl ⟨rfl, rfl, trivial⟩ rfl (fun e h => ?_)
 unfold slices_AppendSeq_uint8_uint8_slices_Values_uint8_uint8_1 at hF
 refine sr ?_
 have h1 := St.nil 5 (Rep.int .u8) h
 refine op (OpS.box (f' := true) (r := (Rep.raw (α := List Int) (.slice none 0 0))) (x := []) h1 rfl rfl rfl (V.raw (f := true) (St.own1 h1 .z) []) (fun u1 w1 h2 => ?_))
 refine asg rfl rfl rfl ?_
 refine nil ?_
 refine Run.seq ?_
 refine sr ?_
 refine mv rfl rfl rfl ?_
 refine nil ?_
 refine Run.block ?_
 have h3 := (h2.pick .z).weak
 have h4 := (h3.pick (.s .z)).weak
 refine Run.slim [(6, .func (.func 215) #[] #[v1_0]), (2, u1)] ⟨rfl, rfl, trivial⟩ ?_
 obtain ⟨y1, e1, hF⟩ := bindP_use hF
 refine Run.rangeC (σ := ((List Int))) (r := (Rep.int .u8)) (fun s_ Γ_ Ω_ => ∃ u0_ : Value, Γ_ = [] ∧ Ω_ = [(false, .box 24 (Rep.raw (α := List Int) u0_) u1 ([])), (false, .slice 5 (Rep.int .u8) u0_ s_)]) (by rintro _ _ _ ⟨u0_, rfl, rfl⟩; exact ⟨rfl, rfl⟩) rfl rfl rfl Tryz.func215 rfl rfl rfl (fun l_ I_ hY_ w_ => slices_Values_uint8_uint8_1_2_ok e1 hY_) (.ptr .z .nil) (Ω0 := [(false, .box 24 (Rep.raw (α := List Int) (.slice none 0 0)) u1 ([])), (false, .slice 5 (Rep.int .u8) (.slice none 0 0) ([]))]) (Ω := []) (Γ0 := []) (h4.picks (.cons (.s .z) (.cons .z .nil))) ⟨(.slice none 0 0), rfl, rfl⟩ .nil ?_ ?_
 ·
  intro l_ q_ e w s1 s1_ x1 v1 Γ_ Ω_ hq_ hX_ hF h5
  obtain ⟨u2, rfl, rfl⟩ := hX_
  refine Run.reg ?_
  refine asg rfl rfl rfl ?_
  refine nil ?_
  refine Run.beginRound rfl (h5.pick .z) hq_ (fun w2 h6 => ?_)
  refine Run.block ?_
  refine Run.reg ?_
  refine op (OpS.loadR h6 (.s .z) PA.z (GetS.ok GetS.id) ty24 rfl rfl rfl rfl rfl ?_)
  refine mv rfl rfl rfl ?_
  refine op (OpS.lit (r := (Rep.int .u8)) (f := false) h6 Tryz.underlying24 ti5 rfl rfl rfl rfl rfl (.cons rfl (V.at .z) .nil) rfl rfl (fun u3 w3 h7 => ?_))
  obtain ⟨x2, e2, hF⟩ := bindP_use hF
  refine op (OpS.app (f' := false) h7 (.s (.s .z)) Tryz.underlying24 ti5 rfl rfl rfl rfl rfl rfl rfl (V.at .z) (.inr Pure.int) e2 (fun u4 w4 h8 => ?_))
  refine op (OpS.storeC (f' := false) (fr := (Rep.raw u4)) (r' := (Rep.raw (α := List Int) u4)) (x' := []) h8 (.s (.s .z)) PA.z (Chg.id (by rfl)) (Ty.like ty24 (by rfl) (by rfl)) rfl rfl rfl (V.raw (f := false) (St.own1 h8 .z) ([])) (.inr rfl) (fun w5 h9 => ?_))
  refine nil ?_
  refine Run.endBlock ?_
  refine Run.finR rfl ?_
  cases hF
  exact ⟨_, _, ⟨u4, rfl, rfl⟩, (h9.facts .nil).picks (.cons (.s (.s .z)) (.cons .z (.cons .z .nil)))⟩
 ·
  intro D_ w Γ_ Ω_ hX_ h10
  obtain ⟨u5, rfl, rfl⟩ := hX_
  simp only [ca, na] at h10
  refine Run.slim [(2, u1)] ⟨rfl, trivial⟩ ?_
  refine Run.endBlock ?_
  refine sr ?_
  refine op (OpS.loadR h10 .z PA.z (GetS.ok GetS.id) ty24 rfl rfl rfl rfl rfl ?_)
  refine asg rfl rfl rfl ?_
  refine nil ?_
  refine Run.retPD h10 (.s (.s .z)) rfl (fun w6 h11 => ⟨_, (.tmp rfl .nil), ?_⟩)
  cases hF
  exact Post.mk' ⟨u5, rfl, rfl, rfl, rfl⟩ (h11.picks (.cons (.s .z) .nil)) .nil
theorem slices_Collect_uint8_slices_Values_uint8_uint8_1_ok {fuel : Nat} {a0_0 : List Int} {y : (List Int)} (hF : slices_Collect_uint8_slices_Values_uint8_uint8_1 fuel a0_0 = some y) {w : World} {v0_0 : Value} :
  Spec Tryz.prog 213 [.func (.func 215) #[] #[v0_0]].toArray w [(false, .ptr (Rep.slice (Rep.int .u8)) v0_0 a0_0)] [] (fun v Γr Ωr Ωo => ∃ u0 : Value, v = u0 ∧ Γr = [] ∧ Ωr = [(false, (.slice 5 (Rep.int .u8) u0 y))] ∧ Ωo = []) := by
 refine Spec.of (L := [(0, .func (.func 215) #[] #[v0_0])]) Tryz.func213 rfl ⟨rfl, trivial⟩ rfl (fun e h => ?_)
 unfold slices_Collect_uint8_slices_Values_uint8_uint8_1 at hF
 refine sr ?_
 refine asg rfl rfl rfl ?_
 refine nil ?_
 refine sr ?_
 refine mv rfl rfl rfl ?_
 obtain ⟨y1, e1, hF⟩ := bindP_use hF
 have h1 := h.front .nil
 refine op (OpS.callO h1 Tryz.func244 rfl rfl rfl rfl (vs := [.slice none 0 0, .func (.func 215) #[] #[v0_0]]) rfl (slices_AppendSeq_uint8_uint8_slices_Values_uint8_uint8_1_ok e1) rfl (.ptr .z .nil) ?_)
 rintro u1 w1 _ _ _ ⟨_, rfl, rfl, rfl, rfl⟩ h2
 have h3 := h2
 simp only [ca, na] at h3
 refine asg rfl rfl rfl ?_
 refine nil ?_
 refine Run.retP rfl (.tmp rfl .nil) ?_
 cases hF
 exact Post.mk' ⟨u1, rfl, rfl, rfl, rfl⟩ (h3.picks (.cons .z .nil)) .nil
theorem slices_insertionSortCmpFunc_uint8_sampling_Reading_1_ok {fuel : Nat} {a0 : List Int} {a1 : Int} {a2 : Int} {a3_0 : Sensor_} {y : (List Int)} (hF : slices_insertionSortCmpFunc_uint8_sampling_Reading_1 fuel a0 a1 a2 a3_0 = some y) {w : World} {v0 v3_0 : Value} :
  Spec Tryz.prog 253 [v0, .int .i64 a1, .int .i64 a2, .func (.func 165) #[] #[v3_0]].toArray w [(false, .ptr Sensor_.rep v3_0 a3_0)] [(false, .slice 5 (Rep.int .u8) v0 a0)] (fun v Γr Ωr Ωo => v = .tuple #[] ∧ Γr = [] ∧ Ωr = [] ∧ Ωo = [(false, .slice 5 (Rep.int .u8) v0 y)]) := by
 refine Spec.of (L := [(0, v0), (1, .int .i64 a1), (2, .int .i64 a2), (3, .func (.func 165) #[] #[v3_0])]) Tryz.func253 rfl ⟨rfl, rfl, rfl, rfl, trivial⟩ rfl (fun e h => ?_)
 unfold slices_insertionSortCmpFunc_uint8_sampling_Reading_1 at hF
 refine sr ?_
 refine mv rfl rfl rfl ?_
 refine bin rfl rfl rfl rfl rfl ?_
 refine asg rfl rfl rfl ?_
 obtain ⟨x1, e1, hF⟩ := letP_use hF
 refine RunL.name e1 ?_
 refine nil ?_
 refine Run.block ?_
 refine Run.slim [(0, v0), (1, .int .i64 a1), (2, .int .i64 a2), (3, .func (.func 165) #[] #[v3_0]), (8, .int .i64 x1)] ⟨rfl, rfl, rfl, rfl, rfl, trivial⟩ ?_
 refine Run.loopP (σ := Unit) (fun s_ L_ w_ => L_ = [(0, v0), (1, .int .i64 a1), (2, .int .i64 a2), (3, .func (.func 165) #[] #[v3_0]), (8, .int .i64 x1)] ∧ St e w_ [(false, .ptr Sensor_.rep v3_0 a3_0)] [(false, .slice 5 (Rep.int .u8) v0 a0)]) hF ⟨rfl, (h.facts (.atm .z .nil)).picks (.cons .z .nil)⟩ (fun k1 hk1 s1 _ w1 hI hF => ?_)
 obtain ⟨rfl, h1⟩ := hI
 refine Run.seq ?_
 refine sr ?_
 refine mv rfl rfl rfl ?_
 refine mv rfl rfl rfl ?_
 refine bin rfl rfl rfl rfl rfl ?_
 refine nil ?_
 refine Run.ite rfl hF (fun e2 hF => ?_) (fun e2 hF => ?_)
 ·
  cases hF
 ·
  refine Run.exit rfl ?_
  refine Run.finP rfl .nil ?_
  cases hF
  exact Post.mk' ⟨rfl, rfl, rfl, rfl⟩ (h1.picks (.cons .z .nil)) .nil
theorem slices_pdqsortCmpFunc_uint8_sampling_Reading_1_ok {fuel : Nat} {a0 : List Int} {a1 : Int} {a2 : Int} {a3 : Int} {a4_0 : Sensor_} {y : (List Int)} (hF : slices_pdqsortCmpFunc_uint8_sampling_Reading_1 fuel a0 a1 a2 a3 a4_0 = some y) {w : World} {v0 v4_0 : Value} :
  Spec Tryz.prog 245 [v0, .int .i64 a1, .int .i64 a2, .int .i64 a3, .func (.func 165) #[] #[v4_0]].toArray w [(false, .ptr Sensor_.rep v4_0 a4_0)] [(false, .slice 5 (Rep.int .u8) v0 a0)] (fun v Γr Ωr Ωo => v = .tuple #[] ∧ Γr = [] ∧ Ωr = [] ∧ Ωo = [(false, .slice 5 (Rep.int .u8) v0 y)]) := by
 refine Spec.of (L := [(0, v0), (1, .int .i64 a1), (2, .int .i64 a2), (3, .int .i64 a3), (4, .func (.func 165) #[] #[v4_0])]) Tryz.func245 rfl ⟨rfl, rfl, rfl, rfl, rfl, trivial⟩ rfl (fun e h => ?_)
 unfold slices_pdqsortCmpFunc_uint8_sampling_Reading_1 at hF
 refine sr ?_
 refine asg rfl rfl rfl ?_
 refine nil ?_
 refine sr ?_
 refine asg rfl rfl rfl ?_
 refine nil ?_
 refine Run.block ?_
 refine Run.slim [(0, v0), (1, .int .i64 a1), (2, .int .i64 a2), (3, .int .i64 a3), (4, .func (.func 165) #[] #[v4_0]), (10, .bool true), (11, .bool true)] ⟨rfl, rfl, rfl, rfl, rfl, rfl, rfl, trivial⟩ ?_
 refine Run.loopP (σ := Unit) (fun s_ L_ w_ => L_ = [(0, v0), (1, .int .i64 a1), (2, .int .i64 a2), (3, .int .i64 a3), (4, .func (.func 165) #[] #[v4_0]), (10, .bool true), (11, .bool true)] ∧ St e w_ [(false, .ptr Sensor_.rep v4_0 a4_0)] [(false, .slice 5 (Rep.int .u8) v0 a0)]) hF ⟨rfl, (h.facts (.atm .z .nil)).picks (.cons .z .nil)⟩ (fun k1 hk1 s1 _ w1 hI hF => ?_)
 obtain ⟨rfl, h1⟩ := hI
 refine Run.block ?_
 refine sr ?_
 refine mv rfl rfl rfl ?_
 refine mv rfl rfl rfl ?_
 refine bin rfl rfl rfl rfl rfl ?_
 refine asg rfl rfl rfl ?_
 obtain ⟨x1, e1, hF⟩ := letP_use hF
 refine RunL.name e1 ?_
 refine nil ?_
 refine Run.seq ?_
 refine sr ?_
 refine mv rfl rfl rfl ?_
 refine bin rfl rfl rfl rfl rfl ?_
 refine nil ?_
 refine Run.ite rfl hF (fun e2 hF => ?_) (fun e2 hF => ?_)
 ·
  refine sr ?_
  refine mv rfl rfl rfl ?_
  refine mv rfl rfl rfl ?_
  refine mv rfl rfl rfl ?_
  refine mv rfl rfl rfl ?_
  obtain ⟨y1, e3, hF⟩ := bindP_use hF
  have h2 := h1.front (.cons .z .nil)
  refine op (OpS.callO h2 Tryz.func253 rfl rfl rfl rfl (vs := [v0, .int .i64 a1, .int .i64 a2, .func (.func 165) #[] #[v4_0]]) rfl (slices_insertionSortCmpFunc_uint8_sampling_Reading_1_ok e3) rfl (.ptr .z .nil) ?_)
  rintro _ w2 _ _ _ ⟨rfl, rfl, rfl, rfl⟩ h3
  have h4 := h3
  simp only [ca, na] at h4
  refine nil ?_
  refine Run.retP rfl .nil ?_
  cases hF
  exact Post.mk' ⟨rfl, rfl, rfl, rfl⟩ (h4.picks (.cons .z .nil)) .nil
 ·
  cases hF
theorem slices_SortFunc_uint8_uint8_sampling_Reading_1_ok {fuel : Nat} {a0 : List Int} {a1_0 : Sensor_} {y : (List Int)} (hF : slices_SortFunc_uint8_uint8_sampling_Reading_1 fuel a0 a1_0 = some y) {w : World} {v0 v1_0 : Value} :
  Spec Tryz.prog 214 [v0, .func (.func 165) #[] #[v1_0]].toArray w [(false, .ptr Sensor_.rep v1_0 a1_0)] [(false, .slice 5 (Rep.int .u8) v0 a0)] (fun v Γr Ωr Ωo => v = .tuple #[] ∧ Γr = [] ∧ Ωr = [] ∧ Ωo = [(false, .slice 5 (Rep.int .u8) v0 y)]) := by
 refine Spec.of (L := [(0, v0), (1, .func (.func 165) #[] #[v1_0])]) Tryz.func214 rfl ⟨rfl, rfl, trivial⟩ rfl (fun e h => ?_)
 unfold slices_SortFunc_uint8_uint8_sampling_Reading_1 at hF
 refine sr ?_
 refine mv rfl rfl rfl ?_
 refine op (OpS.lenO h .z Tryz.underlying24 rfl rfl rfl ?_)
 refine asg rfl rfl rfl ?_
 refine nil ?_
 refine Run.reg ?_
 refine mv rfl rfl rfl ?_
 refine mv rfl rfl rfl ?_
 refine mv rfl rfl rfl ?_
 refine op (OpS.conv Tryz.underlying3 Tryz.underlying271 rfl rfl rfl ?_)
 obtain ⟨y1, e1, hF⟩ := bindP_use hF
 refine op (OpS.callP h Tryz.func246 rfl rfl rfl rfl (vs := [.int .u64 (IntKind.u64.wrap (a0.length : Int))]) rfl (bits_Len_ok e1) .nil ?_)
 rintro _ w1 _ _ _ ⟨rfl, rfl, rfl, rfl⟩ h1
 have h2 := h1 rfl rfl
 simp only [ca, na] at h2
 refine mv rfl rfl rfl ?_
 obtain ⟨y2, e2, hF⟩ := bindP_use hF
 have h3 := h2.front (.cons .z .nil)
 refine op (OpS.callO h3 Tryz.func245 rfl rfl rfl rfl (vs := [v0, .int .i64 0, .int .i64 (a0.length : Int), .int .i64 y1, .func (.func 165) #[] #[v1_0]]) rfl (slices_pdqsortCmpFunc_uint8_sampling_Reading_1_ok e2) rfl (.ptr .z .nil) ?_)
 rintro _ w2 _ _ _ ⟨rfl, rfl, rfl, rfl⟩ h4
 have h5 := h4
 simp only [ca, na] at h5
 refine nil ?_
 refine Run.finP rfl .nil ?_
 cases hF
 exact Post.mk' ⟨rfl, rfl, rfl, rfl⟩ (h5.picks (.cons .z .nil)) .nil
theorem slices_SortedFunc_uint8_slices_Values_uint8_uint8_1_sampling_Reading_1_ok {fuel : Nat} {a0_0 : List Int} {a1_0 : Sensor_} {y : (List Int)} (hF : slices_SortedFunc_uint8_slices_Values_uint8_uint8_1_sampling_Reading_1 fuel a0_0 a1_0 = some y) {w : World} {v0_0 v1_0 : Value} :
  Spec Tryz.prog 163 [.func (.func 215) #[] #[v0_0], .func (.func 165) #[] #[v1_0]].toArray w [(false, .ptr (Rep.slice (Rep.int .u8)) v0_0 a0_0), (false, .ptr Sensor_.rep v1_0 a1_0)] [] (fun v Γr Ωr Ωo => ∃ u0 : Value, v = u0 ∧ Γr = [] ∧ Ωr = [(false, (.slice 5 (Rep.int .u8) u0 y))] ∧ Ωo = []) := by
 refine Spec.of (L := [(0, .func (.func 215) #[] #[v0_0]), (1, .func (.func 165) #[] #[v1_0])]) Tryz.func163 rfl ⟨rfl, rfl, trivial⟩ rfl (fun e h => ?_)
 unfold slices_SortedFunc_uint8_slices_Values_uint8_uint8_1_sampling_Reading_1 at hF
 refine sr ?_
 refine asg rfl rfl rfl ?_
 refine nil ?_
 refine sr ?_
 refine mv rfl rfl rfl ?_
 obtain ⟨y1, e1, hF⟩ := bindP_use hF
 have h1 := h.front .nil
 refine op (OpS.callO h1 Tryz.func213 rfl rfl rfl rfl (vs := [.func (.func 215) #[] #[v0_0]]) rfl (slices_Collect_uint8_slices_Values_uint8_uint8_1_ok e1) rfl (.ptr .z .nil) ?_)
 rintro u1 w1 _ _ _ ⟨_, rfl, rfl, rfl, rfl⟩ h2
 have h3 := h2
 simp only [ca, na] at h3
 refine asg rfl rfl rfl ?_
 refine nil ?_
 refine sr ?_
 refine mv rfl rfl rfl ?_
 refine mv rfl rfl rfl ?_
 obtain ⟨y2, e2, hF⟩ := bindP_use hF
 have h4 := h3.front (.cons .z .nil)
 refine op (OpS.callO h4 Tryz.func214 rfl rfl rfl rfl (vs := [u1, .func (.func 165) #[] #[v1_0]]) rfl (slices_SortFunc_uint8_uint8_sampling_Reading_1_ok e2) rfl (.ptr (.s .z) .nil) ?_)
 rintro _ w2 _ _ _ ⟨rfl, rfl, rfl, rfl⟩ h5
 have h6 := h5
 simp only [ca, na] at h6
 refine nil ?_
 refine sr ?_
 refine mv rfl rfl rfl ?_
 refine asg rfl rfl rfl ?_
 refine nil ?_
 refine Run.retP rfl (.tmp rfl .nil) ?_
 cases hF
 exact Post.mk' ⟨u1, rfl, rfl, rfl, rfl⟩ (h6.picks (.cons .z .nil)) .nil
theorem sampling_Reading_ok {fuel : Nat} {a0 : Sensor_} {a1 : Filter_} {y : Int × Bool} (hF : sampling_Reading fuel a0 a1 = some y) {w : World} {v0 v1 : Value} :
  Spec Tryz.prog 100 [v0, v1].toArray w [(false, .val Sensor_.rep v0 a0), (false, .val Filter_.rep v1 a1)] [] (fun v Γr Ωr Ωo => v = .tuple #[.int .u8 y.1, .bool y.2] ∧ Γr = [] ∧ Ωr = [] ∧ Ωo = []) := by
 refine Spec.of (L := [(0, v0), (1, v1)]) Tryz.func100 rfl ⟨rfl, rfl, trivial⟩ rfl (fun e h => ?_)
 unfold sampling_Reading at hF
 refine sr ?_
 refine op (OpS.boxF h rfl rfl rfl (V.at .z) (fun u1 w1 h1 => ?_))
 refine op (OpS.boxF h1 rfl rfl rfl (V.at (.s .z)) (fun u2 w2 h2 => ?_))
 refine asg rfl rfl rfl ?_
 refine asg rfl rfl rfl ?_
 refine nil ?_
 refine Run.seq ?_
 refine sr ?_
 refine op (OpS.loadB h2 (.s .z) PA.z Get.id ty74 rfl rfl rfl (fun u3 h3 => ?_))
 refine op (OpS.loadB h3 .z PA.z Get.id ty188 rfl rfl rfl (fun u4 h4 => ?_))
 obtain ⟨y1, e1, hF⟩ := bindP_use hF
 refine op (OpS.callP h4 Tryz.func162 rfl rfl rfl rfl (vs := [u3, u4]) rfl (sampling_Valid_ok e1) (.cons (f := false) (V.at (.s .z)) (.cons (f := false) (V.at .z) .nil)) ?_)
 rintro _ w3 _ _ _ ⟨rfl, rfl, rfl, rfl⟩ h5
 have h6 := h5 rfl rfl
 simp only [ca, na] at h6
 refine op (OpS.not rfl rfl rfl ?_)
 refine mv rfl rfl rfl ?_
 refine RunL.caseb hF (fun e2 hF => ?_) (fun e2 hF => ?_)
 ·
  cases hF
 ·
  refine op (OpS.fbox (o3 := 0) h6 .z PA.z fa188_0 rfl rfl rfl rfl ?_)
  refine op (OpS.loadB h6 .z PA.a (Get.fld Filter_.f0) ty24 rfl rfl rfl (fun u5 h7 => ?_))
  refine op (OpS.len h7 Tryz.underlying24 rfl rfl rfl (V.at .z) ?_)
  refine op (OpS.fbox (o3 := 27) h7 (.s .z) PA.z fa74_14 rfl rfl rfl rfl ?_)
  refine op (OpS.loadBi h7 (.s .z) PA.a (Get.fld Sensor_.f14) ty3 rfl rfl rfl ?_)
  refine bin rfl rfl rfl rfl rfl ?_
  refine pick rfl rfl rfl rfl ?_
  refine nil ?_
  refine Run.ite rfl hF (fun e3 hF => ?_) (fun e3 hF => ?_)
  ·
   cases hF
  ·
   refine Run.skip ?_
   refine sr ?_
   refine op (OpS.fbox (o3 := 0) h7 .z PA.z fa188_0 rfl rfl rfl rfl ?_)
   refine op (OpS.loadB h7 .z PA.a (Get.fld Filter_.f0) ty24 rfl rfl rfl (fun u6 h8 => ?_))
   obtain ⟨y2, e4, hF⟩ := bindP_use hF
   have h9 := h8.front .nil
   refine op (OpS.callO h9 Tryz.func164 rfl rfl rfl rfl (vs := [u6]) rfl (slices_Values_uint8_uint8_ok e4) rfl (.cons (f := false) (V.at .z) .nil) ?_)
   rintro _ w4 _ _ _ ⟨u7, rfl, rfl, rfl, rfl⟩ h10
   have h11 := h10
   simp only [ca, na] at h11
   refine op (OpS.mkf (fl := []) (cl := [u1]) rfl rfl rfl rfl ?_)
   have h12 := (h11.pick (.s (.s .z))).freezeBox
   have h13 := (h12.pick .z).freezeBox
   obtain ⟨y3, e5, hF⟩ := bindP_use hF
   have h14 := h13.front .nil
   refine op (OpS.callO h14 Tryz.func163 rfl rfl rfl rfl (vs := [.func (.func 215) #[] #[u7], .func (.func 165) #[] #[u1]]) rfl (slices_SortedFunc_uint8_slices_Values_uint8_uint8_1_sampling_Reading_1_ok e5) rfl (.ptr .z (.ptr (.s .z) .nil)) ?_)
   rintro u8 w5 _ _ _ ⟨_, rfl, rfl, rfl, rfl⟩ h15
   have h16 := h15
   simp only [ca, na] at h16
   refine asg rfl rfl rfl ?_
   have h17 := (h16.pick .z).freeze
   refine nil ?_
   refine sr ?_
   refine mv rfl rfl rfl ?_
   refine mv rfl rfl rfl ?_
   refine op (OpS.len h17 Tryz.underlying24 rfl rfl rfl (V.at .z) ?_)
   refine op (OpS.quo rfl rfl rfl rfl (by decide) ?_)
   obtain ⟨x1, e6, hF⟩ := bindP_use hF
   refine op (OpS.iptr h17 Tryz.underlying24 ty5 rfl rfl rfl rfl (V.at .z) e6 (fun u9 h18 => ?_))
   refine op (OpS.loadi h18 ty5 rfl rfl rfl .z ?_)
   refine asg rfl rfl rfl ?_
   refine asg rfl rfl rfl ?_
   refine nil ?_
   refine Run.retP rfl (.tmp rfl (.tmp rfl .nil)) ?_
   cases hF
   exact Post.mk' ⟨rfl, rfl, rfl, rfl⟩ (h18.picks .nil) .nil
theorem threshold_analog_ok {fuel : Nat} {a0 : Sensor_} {y : Bool} (hF : threshold_analog fuel a0 = some y) {w : World} {v0 : Value} :
  Spec Tryz.prog 120 [v0].toArray w [(false, .val Sensor_.rep v0 a0)] [] (fun v Γr Ωr Ωo => v = .bool y ∧ Γr = [] ∧ Ωr = [] ∧ Ωo = []) := by
 refine Spec.of (L := [(0, v0)]) Tryz.func120 rfl ⟨rfl, trivial⟩ rfl (fun e h => ?_)
 unfold threshold_analog at hF
 refine sr ?_
 refine op (OpS.boxF h rfl rfl rfl (V.at .z) (fun u1 w1 h1 => ?_))
 refine asg rfl rfl rfl ?_
 refine nil ?_
 refine sr ?_
 refine op (OpS.fbox (o3 := 6) h1 .z PA.z fa74_5 rfl rfl rfl rfl ?_)
 refine op (OpS.loadBb h1 .z PA.a (Get.fld Sensor_.f5) ty4 rfl rfl rfl ?_)
 refine op (OpS.not rfl rfl rfl ?_)
 refine mv rfl rfl rfl ?_
 refine RunL.caseb hF (fun e1 hF => ?_) (fun e1 hF => ?_)
 ·
  refine op (OpS.loadB h1 .z PA.z Get.id ty74 rfl rfl rfl (fun u2 h2 => ?_))
  obtain ⟨y1, e2, hF⟩ := bindP_use hF
  refine op (OpS.callP h2 Tryz.func107 rfl rfl rfl rfl (vs := [u2]) rfl (sensor_Valid_ok e2) (.cons (f := false) (V.at .z) .nil) ?_)
  rintro _ w2 _ _ _ ⟨rfl, rfl, rfl, rfl⟩ h3
  have h4 := h3 rfl rfl
  simp only [ca, na] at h4
  refine pick rfl rfl rfl rfl ?_
  refine asg rfl rfl rfl ?_
  refine nil ?_
  refine Run.retP rfl (.tmp rfl .nil) ?_
  cases hF
  exact Post.mk' ⟨rfl, rfl, rfl, rfl⟩ (h4.picks .nil) .nil
 ·
  refine pass rfl rfl rfl ?_
  refine pass rfl rfl rfl ?_
  refine pick rfl rfl rfl rfl ?_
  refine asg rfl rfl rfl ?_
  refine nil ?_
  refine Run.retP rfl (.tmp rfl .nil) ?_
  cases hF
  exact Post.mk' ⟨rfl, rfl, rfl, rfl⟩ (h1.picks .nil) .nil
set_option maxRecDepth 20000 in
theorem threshold_beyond_ok {fuel : Nat} {a0 : Sensor_} {a1 : Int} {a2 : Int} {y : Int × Int} (hF : threshold_beyond fuel a0 a1 a2 = some y) {w : World} {v0 : Value} :
  Spec Tryz.prog 190 [v0, .int .i64 a1, .int .u8 a2].toArray w [(false, .val Sensor_.rep v0 a0)] [] (fun v Γr Ωr Ωo => v = .tuple #[.int .i64 y.1, .int .i64 y.2] ∧ Γr = [] ∧ Ωr = [] ∧ Ωo = []) := by
 refine Spec.of (L := [(0, v0), (1, .int .i64 a1), (2, .int .u8 a2)]) Tryz.func190 rfl ⟨rfl, rfl, rfl, trivial⟩ rfl (fun e h => ?_)
 unfold threshold_beyond at hF
 refine sr ?_
 refine op (OpS.boxF h rfl rfl rfl (V.at .z) (fun u1 w1 h1 => ?_))
 refine asg rfl rfl rfl ?_
 refine asg rfl rfl rfl ?_
 refine nil ?_
 refine Run.seq ?_
 obtain ⟨y1, e1, hF⟩ := bindP_use hF
 obtain ⟨x1, e2, hF⟩ := bindP_use hF
 obtain ⟨e3, hF⟩ := chk_use hF
 refine Run.drawV (Ωs := []) [.kr 10 (padd u1 7) [0], .kr 11 (padd u1 8) [0], .kr 12 (.bool a0.Conversion.Signed) [0], .k 13 (.int .u8 a2), .k 14 (.int .i64 y1), .kr 15 (padd u1 7) [0], .kr 16 (padd u1 8) [0], .kr 17 (.bool a0.Conversion.Signed) [0], .k 18 (.int .i64 a1), .kr 19 (padd u1 14) [0], .kr 20 (padd u1 15) [0], .kr 21 (padd u1 (15 + (a1 : Int).toNat * (Rep.int .u8).n)) [0], .kr 22 (.int .u8 x1) [0]] [[], [0], [1], [], [2, 3], [], [5], [6], [], [], [9], [10, 8], [11]] [[(false, .box 74 Sensor_.rep u1 a0)]] [0, 1, 2, 3, 4, 5, 6, 7, 8, 9, 10, 11, 12, 13] Try_mixed rfl rfl rfl h1 (.cons ?_ (.cons ?_ (.cons ?_ (.cons ?_ (.cons ?_ (.cons ?_ (.cons ?_ (.cons ?_ (.cons ?_ (.cons ?_ (.cons ?_ (.cons ?_ (.cons ?_ .nil))))))))))))) (fun q1 w hq1 h => ?_)
 ·intro q1 w Γx Ωx h
  refine OpS.fbox (o3 := 7) h .z PA.z fa74_6 rfl rfl rfl rfl ?_
  exact ⟨undef, rfl, trivial, h⟩
 ·intro q1 w Γx Ωx h
  refine OpS.fbox (o3 := 8) h .z PA.a fa69_1 rfl rfl rfl rfl ?_
  exact ⟨undef, rfl, trivial, h⟩
 ·intro q1 w Γx Ωx h
  refine OpS.loadBb h .z PA.a (Get.comp (Get.fld Sensor_.f6) (Get.fld Conversion_.f1)) ty4 rfl rfl rfl ?_
  exact ⟨undef, rfl, trivial, h⟩
 ·intro q1 w Γx Ωx h
  refine OpS.mv rfl rfl rfl ?_
  exact ⟨undef, rfl, trivial, h⟩
 ·intro q1 w Γx Ωx h
  refine OpS.callP h Tryz.func51 rfl rfl rfl rfl (vs := [.bool a0.Conversion.Signed, .int .u8 a2]) rfl (convert_Number_ok e1) .nil ?_
  rintro _ w3 _ _ _ ⟨rfl, rfl, rfl, rfl⟩ h4
  have h5 := h4 rfl rfl
  simp only [ca, na] at h5
  exact ⟨undef, rfl, trivial, h5⟩
 ·intro q1 w Γx Ωx h
  refine OpS.fbox (o3 := 7) h .z PA.z fa74_6 rfl rfl rfl rfl ?_
  exact ⟨undef, rfl, trivial, h⟩
 ·intro q1 w Γx Ωx h
  refine OpS.fbox (o3 := 8) h .z PA.a fa69_1 rfl rfl rfl rfl ?_
  exact ⟨undef, rfl, trivial, h⟩
 ·intro q1 w Γx Ωx h
  refine OpS.loadBb h .z PA.a (Get.comp (Get.fld Sensor_.f6) (Get.fld Conversion_.f1)) ty4 rfl rfl rfl ?_
  exact ⟨undef, rfl, trivial, h⟩
 ·intro q1 w Γx Ωx h
  refine OpS.mv rfl rfl rfl ?_
  exact ⟨undef, rfl, trivial, h⟩
 ·intro q1 w Γx Ωx h
  refine OpS.fbox (o3 := 14) h .z PA.z fa74_7 rfl rfl rfl rfl ?_
  exact ⟨undef, rfl, trivial, h⟩
 ·intro q1 w Γx Ωx h
  refine OpS.fbox (o3 := 15) h .z PA.a fa72_1 rfl rfl rfl rfl ?_
  exact ⟨undef, rfl, trivial, h⟩
 ·intro q1 w Γx Ωx h
  refine OpS.ibox h .z PA.a Tryz.underlying70 ty5 (Nat.eq_of_beq_eq_true e3) rfl rfl rfl rfl e2 ?_
  exact ⟨undef, rfl, trivial, h⟩
 ·intro q1 w Γx Ωx h
  refine OpS.loadBi h .z PA.a (Get.comp (Get.comp (Get.fld Sensor_.f7) (Get.fld Thresholds_.f1)) (Get.arr e2)) ty5 rfl rfl rfl ?_
  exact ⟨undef, rfl, trivial, h⟩
 have h6 := h
 obtain ⟨y2, e4, hF⟩ := bindP_use hF
 refine op (OpS.callP h6 Tryz.func51 rfl rfl rfl rfl (vs := [.bool a0.Conversion.Signed, .int .u8 x1]) rfl (convert_Number_ok e4) .nil ?_)
 rintro _ w4 _ _ _ ⟨rfl, rfl, rfl, rfl⟩ h7
 have h8 := h7 rfl rfl
 simp only [ca, na] at h8
 refine asg rfl rfl rfl ?_
 refine asg rfl rfl rfl ?_
 refine nil ?_
 refine Run.seq ?_
 refine sr ?_
 refine mv rfl rfl rfl ?_
 refine bin rfl rfl rfl rfl rfl ?_
 refine nil ?_
 refine Run.ite rfl hF (fun e5 hF => ?_) (fun e5 hF => ?_)
 ·
  refine Run.seq ?_
  refine Run.slim [(25, .bool (decide (a1 ≤ 2))), (9, .int .i64 y2), (8, .int .i64 y1), (3, u1)] ⟨rfl, rfl, rfl, rfl, trivial⟩ ?_
  refine Run.drawV (Ωs := []) [.k 26 (.int .i64 y2), .k 27 (.int .i64 y1), .k 28 (.int .i64 (IntKind.i64.wrap (y2 - y1))), .kr 29 (padd u1 21) [0], .kr 30 (.int .u8 a0.HystLower) [0], .k 31 (.int .i64 (IntKind.i64.wrap a0.HystLower)), .k 6 (.int .i64 (IntKind.i64.wrap (y2 - y1)))] [[], [], [0, 1], [], [3], [4], [2]] [[(false, .box 74 Sensor_.rep u1 a0)]] [0, 1, 2, 3, 4, 5, 6, 7] Try_mixed rfl rfl rfl h8 (.cons ?_ (.cons ?_ (.cons ?_ (.cons ?_ (.cons ?_ (.cons ?_ (.cons ?_ .nil))))))) (fun q2 w hq2 h => ?_)
  ·intro q2 w Γx Ωx h
   refine OpS.mv rfl rfl rfl ?_
   exact ⟨undef, rfl, trivial, h⟩
  ·intro q2 w Γx Ωx h
   refine OpS.mv rfl rfl rfl ?_
   exact ⟨undef, rfl, trivial, h⟩
  ·intro q2 w Γx Ωx h
   refine OpS.bin rfl rfl rfl rfl rfl ?_
   exact ⟨undef, rfl, trivial, h⟩
  ·intro q2 w Γx Ωx h
   refine OpS.fbox (o3 := 21) h .z PA.z fa74_8 rfl rfl rfl rfl ?_
   exact ⟨undef, rfl, trivial, h⟩
  ·intro q2 w Γx Ωx h
   refine OpS.loadBi h .z PA.a (Get.fld Sensor_.f8) ty5 rfl rfl rfl ?_
   exact ⟨undef, rfl, trivial, h⟩
  ·intro q2 w Γx Ωx h
   refine OpS.conv Tryz.underlying5 Tryz.underlying3 rfl rfl rfl ?_
   exact ⟨undef, rfl, trivial, h⟩
  ·intro q2 w Γx Ωx h
   refine OpS.as rfl rfl rfl ?_
   exact ⟨undef, rfl, trivial, h⟩
  have h9 := h
  refine asg rfl rfl rfl ?_
  obtain ⟨x2, e6, hF⟩ := letP_use hF
  refine RunL.name e6 ?_
  refine nil ?_
  refine Run.retP rfl (.tmp rfl (.tmp rfl .nil)) ?_
  cases hF
  exact Post.mk' ⟨rfl, rfl, rfl, rfl⟩ (h9.picks .nil) .nil
 ·
  refine Run.skip ?_
  refine Run.seq ?_
  refine Run.slim [(25, .bool (decide (a1 ≤ 2))), (9, .int .i64 y2), (8, .int .i64 y1), (3, u1)] ⟨rfl, rfl, rfl, rfl, trivial⟩ ?_
  refine Run.drawV (Ωs := []) [.k 32 (.int .i64 y1), .k 33 (.int .i64 y2), .k 34 (.int .i64 (IntKind.i64.wrap (y1 - y2))), .kr 35 (padd u1 22) [0], .kr 36 (.int .u8 a0.HystUpper) [0], .k 37 (.int .i64 (IntKind.i64.wrap a0.HystUpper)), .k 6 (.int .i64 (IntKind.i64.wrap (y1 - y2)))] [[], [], [0, 1], [], [3], [4], [2]] [[(false, .box 74 Sensor_.rep u1 a0)]] [0, 1, 2, 3, 4, 5, 6, 7] Try_mixed rfl rfl rfl h8 (.cons ?_ (.cons ?_ (.cons ?_ (.cons ?_ (.cons ?_ (.cons ?_ (.cons ?_ .nil))))))) (fun q3 w hq3 h => ?_)
  ·intro q3 w Γx Ωx h
   refine OpS.mv rfl rfl rfl ?_
   exact ⟨undef, rfl, trivial, h⟩
  ·intro q3 w Γx Ωx h
   refine OpS.mv rfl rfl rfl ?_
   exact ⟨undef, rfl, trivial, h⟩
  ·intro q3 w Γx Ωx h
   refine OpS.bin rfl rfl rfl rfl rfl ?_
   exact ⟨undef, rfl, trivial, h⟩
  ·intro q3 w Γx Ωx h
   refine OpS.fbox (o3 := 22) h .z PA.z fa74_9 rfl rfl rfl rfl ?_
   exact ⟨undef, rfl, trivial, h⟩
  ·intro q3 w Γx Ωx h
   refine OpS.loadBi h .z PA.a (Get.fld Sensor_.f9) ty5 rfl rfl rfl ?_
   exact ⟨undef, rfl, trivial, h⟩
  ·intro q3 w Γx Ωx h
   refine OpS.conv Tryz.underlying5 Tryz.underlying3 rfl rfl rfl ?_
   exact ⟨undef, rfl, trivial, h⟩
  ·intro q3 w Γx Ωx h
   refine OpS.as rfl rfl rfl ?_
   exact ⟨undef, rfl, trivial, h⟩
  have h10 := h
  refine asg rfl rfl rfl ?_
  obtain ⟨x3, e7, hF⟩ := letP_use hF
  refine RunL.name e7 ?_
  refine nil ?_
  refine Run.retP rfl (.tmp rfl (.tmp rfl .nil)) ?_
  cases hF
  exact Post.mk' ⟨rfl, rfl, rfl, rfl⟩ (h10.picks .nil) .nil
set_option maxRecDepth 20000 in
theorem threshold_next_ok {fuel : Nat} {a0 : Sensor_} {a1 : Int} {a2 : Int} {y : Int} (hF : threshold_next fuel a0 a1 a2 = some y) {w : World} {v0 : Value} :
  Spec Tryz.prog 121 [v0, .int .u8 a1, .int .u8 a2].toArray w [(false, .val Sensor_.rep v0 a0)] [] (fun v Γr Ωr Ωo => v = .int .u8 y ∧ Γr = [] ∧ Ωr = [] ∧ Ωo = []) := by
 refine Spec.of (L := [(0, v0), (1, .int .u8 a1), (2, .int .u8 a2)]) Tryz.func121 rfl ⟨rfl, rfl, rfl, trivial⟩ rfl (fun e h => ?_)
 unfold threshold_next at hF
 refine sr ?_
 refine op (OpS.boxF h rfl rfl rfl (V.at .z) (fun u1 w1 h1 => ?_))
 refine asg rfl rfl rfl ?_
 refine nil ?_
 refine sr ?_
 refine asg rfl rfl rfl ?_
 refine nil ?_
 refine Run.seq ?_
 refine sr ?_
 refine mv rfl rfl rfl ?_
 refine nil ?_
 refine Run.block ?_
 refine Run.slim [(1, .int .u8 a1), (2, .int .u8 a2), (3, u1), (7, .int .u8 0), (12, .int .i64 0)] ⟨rfl, rfl, rfl, rfl, rfl, trivial⟩ ?_
 refine Run.loopP (σ := (Int × Int)) (fun s_ L_ w_ => L_ = [(1, .int .u8 a1), (2, .int .u8 a2), (3, u1), (7, .int .u8 s_.1), (12, .int .i64 s_.2)] ∧ St e w_ [] [(false, .box 74 Sensor_.rep u1 a0)]) hF ⟨rfl, (h1.facts .nil).picks (.cons .z .nil)⟩ (fun k1 hk1 s1 _ w2 hI hF => ?_)
 obtain ⟨rfl, h2⟩ := hI
 refine sr ?_
 refine bin rfl rfl rfl rfl rfl ?_
 refine nil ?_
 refine Run.seq ?_
 refine Run.ite rfl hF (fun e1 hF => ?_) (fun e1 hF => ?_)
 ·
  refine Run.skip ?_
  refine Run.seq ?_
  refine Run.block ?_
  refine sr ?_
  refine mv rfl rfl rfl ?_
  refine asg rfl rfl rfl ?_
  refine nil ?_
  refine Run.seq ?_
  obtain ⟨e2, hF⟩ := chk_use hF
  refine Run.drawV (Ωs := []) [.k 15 (.int .i64 s1.2), .k 16 (.int .u8 (bShl .u8 1 s1.2)), .kr 17 (padd u1 14) [0], .kr 18 (padd u1 14) [0], .kr 19 (.int .u8 a0.Limits.Mask) [0]] [[], [0], [], [2], [3]] [[(false, .box 74 Sensor_.rep u1 a0)]] [0, 1, 2, 3, 4, 5] Try_mixed rfl rfl rfl h2 (.cons ?_ (.cons ?_ (.cons ?_ (.cons ?_ (.cons ?_ .nil))))) (fun q1 w hq1 h => ?_)
  ·intro q1 w Γx Ωx h
   refine OpS.mv rfl rfl rfl ?_
   exact ⟨undef, rfl, trivial, h⟩
  ·intro q1 w Γx Ωx h
   refine OpS.shl rfl rfl rfl rfl e2 ?_
   exact ⟨undef, rfl, trivial, h⟩
  ·intro q1 w Γx Ωx h
   refine OpS.fbox (o3 := 14) h .z PA.z fa74_7 rfl rfl rfl rfl ?_
   exact ⟨undef, rfl, trivial, h⟩
  ·intro q1 w Γx Ωx h
   refine OpS.fbox (o3 := 14) h .z PA.a fa72_0 rfl rfl rfl rfl ?_
   exact ⟨undef, rfl, trivial, h⟩
  ·intro q1 w Γx Ωx h
   refine OpS.loadBi h .z PA.a (Get.comp (Get.fld Sensor_.f7) (Get.fld Thresholds_.f0)) ty5 rfl rfl rfl ?_
   exact ⟨undef, rfl, trivial, h⟩
  have h3 := h
  refine bin rfl rfl rfl rfl rfl ?_
  refine asg rfl rfl rfl ?_
  obtain ⟨x1, e3, hF⟩ := letP_use hF
  refine RunL.name e3 ?_
  refine nil ?_
  refine sr ?_
  refine op (OpS.loadB h3 .z PA.z Get.id ty74 rfl rfl rfl (fun u2 h4 => ?_))
  refine mv rfl rfl rfl ?_
  refine mv rfl rfl rfl ?_
  obtain ⟨y1, e4, hF⟩ := bindP_use hF
  refine op (OpS.callP h4 Tryz.func190 rfl rfl rfl rfl (vs := [u2, .int .i64 s1.2, .int .u8 a2]) rfl (threshold_beyond_ok e4) (.cons (f := false) (V.at .z) .nil) ?_)
  rintro _ w3 _ _ _ ⟨rfl, rfl, rfl, rfl⟩ h5
  have h6 := h5 rfl rfl
  simp only [ca, na] at h6
  refine mv rfl rfl rfl ?_
  refine op (OpS.ext rfl rfl rfl rfl ?_)
  refine op (OpS.ext rfl rfl rfl rfl ?_)
  refine asg rfl rfl rfl ?_
  refine asg rfl rfl rfl ?_
  refine nil ?_
  refine sr ?_
  refine mv rfl rfl rfl ?_
  refine bin rfl rfl rfl rfl rfl ?_
  refine mv rfl rfl rfl ?_
  refine RunL.join (σ := Bool) (fun s_ L_ w_ => L_ = [(1, .int .u8 a1), (2, .int .u8 a2), (3, u1), (7, .int .u8 s1.1), (9, .int .u8 x1), (12, .int .i64 s1.2), (41, .bool s_)] ∧ St e w_ [] [(false, .box 74 Sensor_.rep u1 a0)]) hF (fun s2 _ w4 hI hF => ?_) (fun j1 hj1 hF => ?_)
  ·
   obtain ⟨rfl, h7⟩ := hI
   refine Run.ite rfl hF (fun e5 hF => ?_) (fun e5 hF => ?_)
   ·
    refine Run.reg ?_
    refine mv rfl rfl rfl ?_
    refine mv rfl rfl rfl ?_
    refine bin rfl rfl rfl rfl rfl ?_
    refine asg rfl rfl rfl ?_
    refine nil ?_
    refine Run.endBlock ?_
    refine Run.reg ?_
    refine bin rfl rfl rfl rfl rfl ?_
    refine mv rfl rfl rfl ?_
    refine nil ?_
    refine Run.slim [(1, .int .u8 a1), (2, .int .u8 a2), (3, u1), (7, .int .u8 (bOr .u8 s1.1 x1)), (12, .int .i64 (IntKind.i64.wrap (s1.2 + 1)))] ⟨rfl, rfl, rfl, rfl, rfl, trivial⟩ ?_
    exact hk1 ((bOr .u8 s1.1 x1), (IntKind.i64.wrap (s1.2 + 1))) _ _ ⟨rfl, (h7.facts .nil).picks (.cons .z .nil)⟩ hF
   ·
    refine Run.skip ?_
    refine Run.endBlock ?_
    refine Run.reg ?_
    refine bin rfl rfl rfl rfl rfl ?_
    refine mv rfl rfl rfl ?_
    refine nil ?_
    refine Run.slim [(1, .int .u8 a1), (2, .int .u8 a2), (3, u1), (7, .int .u8 s1.1), (12, .int .i64 (IntKind.i64.wrap (s1.2 + 1)))] ⟨rfl, rfl, rfl, rfl, rfl, trivial⟩ ?_
    exact hk1 (s1.1, (IntKind.i64.wrap (s1.2 + 1))) _ _ ⟨rfl, (h7.facts .nil).picks (.cons .z .nil)⟩ hF
  ·
   refine RunL.caseb hF (fun e6 hF => ?_) (fun e6 hF => ?_)
   ·
    refine pass rfl rfl rfl ?_
    refine pass rfl rfl rfl ?_
    refine pass rfl rfl rfl ?_
    refine pass rfl rfl rfl ?_
    refine pass rfl rfl rfl ?_
    refine pass rfl rfl rfl ?_
    refine pass rfl rfl rfl ?_
    refine pass rfl rfl rfl ?_
    refine pass rfl rfl rfl ?_
    refine pass rfl rfl rfl ?_
    refine pick rfl rfl rfl rfl ?_
    refine nil ?_
    refine Run.slim [(41, .bool true), (9, .int .u8 x1), (1, .int .u8 a1), (2, .int .u8 a2), (3, u1), (7, .int .u8 s1.1), (12, .int .i64 s1.2)] ⟨rfl, rfl, rfl, rfl, rfl, rfl, rfl, trivial⟩ ?_
    refine Run.slim [(1, .int .u8 a1), (2, .int .u8 a2), (3, u1), (7, .int .u8 s1.1), (9, .int .u8 x1), (12, .int .i64 s1.2), (41, .bool true)] ⟨rfl, rfl, rfl, rfl, rfl, rfl, rfl, trivial⟩ ?_
    exact hj1 (true) _ _ ⟨rfl, (h6.facts .nil).picks (.cons .z .nil)⟩ hF
   ·
    refine mv rfl rfl rfl ?_
    refine mv rfl rfl rfl ?_
    refine bin rfl rfl rfl rfl rfl ?_
    refine bin rfl rfl rfl rfl rfl ?_
    refine mv rfl rfl rfl ?_
    refine RunL.caseb hF (fun e7 hF => ?_) (fun e7 hF => ?_)
    ·
     refine mv rfl rfl rfl ?_
     refine mv rfl rfl rfl ?_
     refine op (OpS.neg rfl rfl rfl ?_)
     refine bin rfl rfl rfl rfl rfl ?_
     refine pick rfl rfl rfl rfl ?_
     refine pick rfl rfl rfl rfl ?_
     refine nil ?_
     refine Run.slim [(41, .bool (decide (y1.1 ≥ (IntKind.i64.wrap (0 - y1.2))))), (9, .int .u8 x1), (1, .int .u8 a1), (2, .int .u8 a2), (3, u1), (7, .int .u8 s1.1), (12, .int .i64 s1.2)] ⟨rfl, rfl, rfl, rfl, rfl, rfl, rfl, trivial⟩ ?_
     refine Run.slim [(1, .int .u8 a1), (2, .int .u8 a2), (3, u1), (7, .int .u8 s1.1), (9, .int .u8 x1), (12, .int .i64 s1.2), (41, .bool (decide (y1.1 ≥ (IntKind.i64.wrap (0 - y1.2)))))] ⟨rfl, rfl, rfl, rfl, rfl, rfl, rfl, trivial⟩ ?_
     exact hj1 (decide (y1.1 ≥ (IntKind.i64.wrap (0 - y1.2)))) _ _ ⟨rfl, (h6.facts .nil).picks (.cons .z .nil)⟩ hF
    ·
     refine pass rfl rfl rfl ?_
     refine pass rfl rfl rfl ?_
     refine pass rfl rfl rfl ?_
     refine pass rfl rfl rfl ?_
     refine pick rfl rfl rfl rfl ?_
     refine pick rfl rfl rfl rfl ?_
     refine nil ?_
     refine Run.slim [(41, .bool false), (9, .int .u8 x1), (1, .int .u8 a1), (2, .int .u8 a2), (3, u1), (7, .int .u8 s1.1), (12, .int .i64 s1.2)] ⟨rfl, rfl, rfl, rfl, rfl, rfl, rfl, trivial⟩ ?_
     refine Run.slim [(1, .int .u8 a1), (2, .int .u8 a2), (3, u1), (7, .int .u8 s1.1), (9, .int .u8 x1), (12, .int .i64 s1.2), (41, .bool false)] ⟨rfl, rfl, rfl, rfl, rfl, rfl, rfl, trivial⟩ ?_
     exact hj1 (false) _ _ ⟨rfl, (h6.facts .nil).picks (.cons .z .nil)⟩ hF
 ·
  refine Run.exit rfl ?_
  refine sr ?_
  refine mv rfl rfl rfl ?_
  refine asg rfl rfl rfl ?_
  refine nil ?_
  refine Run.retP rfl (.tmp rfl .nil) ?_
  cases hF
  exact Post.mk' ⟨rfl, rfl, rfl, rfl⟩ (h2.picks .nil) .nil
theorem threshold_Step_ok {fuel : Nat} {a0 : Sensor_} {a1 : Int} {a2 : Int} {y : Int × (List Change_) × Int} (hF : threshold_Step fuel a0 a1 a2 = some y) {w : World} {v0 : Value} :
  Spec Tryz.prog 152 [v0, .int .u8 a1, .int .u8 a2].toArray w [(false, .val Sensor_.rep v0 a0)] [] (fun v Γr Ωr Ωo => ∃ u1 : Value, v = .tuple #[.int .u8 y.1, u1, .int .i64 y.2.2] ∧ Γr = [] ∧ Ωr = [(true, (.slice 288 Change_.rep u1 y.2.1))] ∧ Ωo = []) := by
 refine Spec.of (L := [(0, v0), (1, .int .u8 a1), (2, .int .u8 a2)]) Tryz.func152 rfl ⟨rfl, rfl, rfl, trivial⟩ rfl (fun e h => ?_)
 unfold threshold_Step at hF
 refine sr ?_
 refine op (OpS.boxF h rfl rfl rfl (V.at .z) (fun u1 w1 h1 => ?_))
 refine asg rfl rfl rfl ?_
 refine asg rfl rfl rfl ?_
 refine asg rfl rfl rfl ?_
 refine nil ?_
 refine Run.seq ?_
 refine Run.block ?_
 refine sr ?_
 refine op (OpS.loadB h1 .z PA.z Get.id ty74 rfl rfl rfl (fun u2 h2 => ?_))
 obtain ⟨y1, e1, hF⟩ := bindP_use hF
 refine op (OpS.callP h2 Tryz.func120 rfl rfl rfl rfl (vs := [u2]) rfl (threshold_analog_ok e1) (.cons (f := false) (V.at .z) .nil) ?_)
 rintro _ w2 _ _ _ ⟨rfl, rfl, rfl, rfl⟩ h3
 have h4 := h3 rfl rfl
 simp only [ca, na] at h4
 refine op (OpS.not rfl rfl rfl ?_)
 refine asg rfl rfl rfl ?_
 obtain ⟨x1, e2, hF⟩ := letP_use hF
 refine RunL.nameb e2 ?_
 refine nil ?_
 refine Run.ite rfl hF (fun e3 hF => ?_) (fun e3 hF => ?_)
 ·
  cases hF
 ·
  refine sr ?_
  refine mv rfl rfl rfl ?_
  refine op (OpS.fbox (o3 := 14) h4 .z PA.z fa74_7 rfl rfl rfl rfl ?_)
  refine op (OpS.fbox (o3 := 14) h4 .z PA.a fa72_0 rfl rfl rfl rfl ?_)
  refine op (OpS.loadBi h4 .z PA.a (Get.comp (Get.fld Sensor_.f7) (Get.fld Thresholds_.f0)) ty5 rfl rfl rfl ?_)
  refine bin rfl rfl rfl rfl rfl ?_
  refine bin rfl rfl rfl rfl rfl ?_
  refine asg rfl rfl rfl ?_
  obtain ⟨x2, e4, hF⟩ := letP_use hF
  refine RunL.nameb e4 ?_
  refine nil ?_
  refine Run.ite rfl hF (fun e5 hF => ?_) (fun e5 hF => ?_)
  ·
   cases hF
  ·
   refine Run.skip ?_
   refine Run.endBlock ?_
   refine sr ?_
   refine op (OpS.loadB h4 .z PA.z Get.id ty74 rfl rfl rfl (fun u3 h5 => ?_))
   refine mv rfl rfl rfl ?_
   refine mv rfl rfl rfl ?_
   obtain ⟨y2, e6, hF⟩ := bindP_use hF
   refine op (OpS.callP h5 Tryz.func121 rfl rfl rfl rfl (vs := [u3, .int .u8 a1, .int .u8 a2]) rfl (threshold_next_ok e6) (.cons (f := false) (V.at .z) .nil) ?_)
   rintro _ w3 _ _ _ ⟨rfl, rfl, rfl, rfl⟩ h6
   have h7 := h6 rfl rfl
   simp only [ca, na] at h7
   refine asg rfl rfl rfl ?_
   refine nil ?_
   refine sr ?_
   refine asg rfl rfl rfl ?_
   refine nil ?_
   refine Run.seq ?_
   refine sr ?_
   refine mv rfl rfl rfl ?_
   refine nil ?_
   refine Run.block ?_
   have h8 := St.nil 288 Change_.rep h7
   refine Run.slim [(1, .int .u8 a1), (9, .int .u8 y2), (10, (.slice none 0 0)), (27, .int .i64 0)] ⟨rfl, rfl, rfl, rfl, trivial⟩ ?_
   refine Run.loopP (σ := (Int × (List Change_))) (fun s_ L_ w_ => ∃ u0_ : Value, L_ = [(1, .int .u8 a1), (9, .int .u8 y2), (10, u0_), (27, .int .i64 s_.1)] ∧ St e w_ [] [(true, .slice 288 Change_.rep u0_ s_.2)]) hF ⟨(.slice none 0 0), rfl, (h8.facts .nil).picks (.cons .z .nil)⟩ (fun k1 hk1 s1 _ w4 hI hF => ?_)
   obtain ⟨u4, rfl, h9⟩ := hI
   refine sr ?_
   refine bin rfl rfl rfl rfl rfl ?_
   refine nil ?_
   refine Run.seq ?_
   refine Run.ite rfl hF (fun e7 hF => ?_) (fun e7 hF => ?_)
   ·
    refine Run.skip ?_
    refine Run.seq ?_
    refine Run.block ?_
    refine sr ?_
    refine mv rfl rfl rfl ?_
    refine asg rfl rfl rfl ?_
    refine nil ?_
    refine sr ?_
    refine mv rfl rfl rfl ?_
    refine mv rfl rfl rfl ?_
    refine bin rfl rfl rfl rfl rfl ?_
    refine mv rfl rfl rfl ?_
    obtain ⟨e8, hF⟩ := chk_use hF
    refine op (OpS.shr rfl rfl rfl rfl e8 ?_)
    refine bin rfl rfl rfl rfl rfl ?_
    refine bin rfl rfl rfl rfl rfl ?_
    refine nil ?_
    refine Run.ite rfl hF (fun e9 hF => ?_) (fun e9 hF => ?_)
    ·
     refine Run.reg ?_
     refine mv rfl rfl rfl ?_
     refine mv rfl rfl rfl ?_
     refine mv rfl rfl rfl ?_
     refine mv rfl rfl rfl ?_
     obtain ⟨e10, hF⟩ := chk_use hF
     refine op (OpS.shr rfl rfl rfl rfl e10 ?_)
     refine bin rfl rfl rfl rfl rfl ?_
     refine bin rfl rfl rfl rfl rfl ?_
     refine op (OpS.build (f := true) (x' := (⟨s1.1, (bAnd .u8 (bShr .u8 y2 s1.1) 1) == 1⟩ : Change_)) h9 pl288 ti288 Change_.zr rfl rfl rfl (.cons rfl Change_.f0 rfl V.int (.cons rfl Change_.f1 rfl V.bool .nil)) (fun u5 h10 => ?_))
     refine op (OpS.lit (r := Change_.rep) (f := true) h10 Tryz.underlying191 ti288 rfl rfl rfl rfl rfl (.cons rfl (V.at .z) .nil) rfl rfl (fun u6 w5 h11 => ?_))
     obtain ⟨x3, e11, hF⟩ := bindP_use hF
     refine op (OpS.app (f' := true) h11 .z Tryz.underlying191 ti288 rfl rfl rfl rfl rfl rfl rfl (V.at .z) (.inr Change_.pure) e11 (fun u7 w6 h12 => ?_))
     refine asg rfl rfl rfl ?_
     refine nil ?_
     refine Run.endBlock ?_
     refine Run.reg ?_
     refine bin rfl rfl rfl rfl rfl ?_
     refine mv rfl rfl rfl ?_
     refine nil ?_
     refine Run.slim [(1, .int .u8 a1), (9, .int .u8 y2), (10, u7), (27, .int .i64 (IntKind.i64.wrap (s1.1 + 1)))] ⟨rfl, rfl, rfl, rfl, trivial⟩ ?_
     exact hk1 ((IntKind.i64.wrap (s1.1 + 1)), x3) _ _ ⟨u7, rfl, (h12.facts .nil).picks (.cons .z .nil)⟩ hF
    ·
     refine Run.skip ?_
     refine Run.endBlock ?_
     refine Run.reg ?_
     refine bin rfl rfl rfl rfl rfl ?_
     refine mv rfl rfl rfl ?_
     refine nil ?_
     refine Run.slim [(1, .int .u8 a1), (9, .int .u8 y2), (10, u4), (27, .int .i64 (IntKind.i64.wrap (s1.1 + 1)))] ⟨rfl, rfl, rfl, rfl, trivial⟩ ?_
     exact hk1 ((IntKind.i64.wrap (s1.1 + 1)), s1.2) _ _ ⟨u4, rfl, (h9.facts .nil).picks (.cons .z .nil)⟩ hF
   ·
    refine Run.exit rfl ?_
    refine sr ?_
    refine mv rfl rfl rfl ?_
    refine mv rfl rfl rfl ?_
    refine asg rfl rfl rfl ?_
    refine asg rfl rfl rfl ?_
    refine asg rfl rfl rfl ?_
    refine nil ?_
    refine Run.retP rfl (.tmp rfl (.tmp rfl (.tmp rfl .nil))) ?_
    cases hF
    exact Post.mk' ⟨u4, rfl, rfl, rfl, rfl⟩ (h9.picks (.cons .z .nil)) .nil
set_option maxHeartbeats 8000000 in set_option maxRecDepth 20000 in
theorem monitor_Monitor_step_ok {fuel : Nat} {a0 : monitor_Monitor} {a1 : Int} {a2 : Sample_} {y : (List Change_) × Int × monitor_Monitor} (hF : monitor_Monitor_step fuel a0 a1 a2 = some y) {w : World} {v0 v0_0 v0_1 v2 : Value} :
  Spec Tryz.prog 81 [v0, .int .i64 a1, v2].toArray w [(false, .val Sample_.rep v2 a2)] [(false, .box 184 (monitor_Monitor.repW v0_0 v0_1) v0 a0), (false, .slice 188 Filter_.rep v0_0 a0.filters), (false, .slice 49 (Rep.int .u16) v0_1 a0.states)] (fun v Γr Ωr Ωo => ∃ u0 w0_0 w0_1 : Value, v = .tuple #[u0, .int .u8 y.2.1] ∧ Γr = [(true, .val (Rep.slice Change_.rep) u0 y.1)] ∧ Ωr = [] ∧ Ωo = [(false, .box 184 (monitor_Monitor.repW w0_0 w0_1) v0 y.2.2), (false, (.slice 188 Filter_.rep w0_0 y.2.2.filters)), (false, (.slice 49 (Rep.int .u16) w0_1 y.2.2.states))]) := by
 refine Spec.of (L := [(0, v0), (1, .int .i64 a1), (2, v2)]) Tryz.func81 rfl ⟨rfl, rfl, rfl, trivial⟩ rfl (fun e h => ?_)
 unfold monitor_Monitor_step at hF
 refine sr ?_
 refine op (OpS.boxF h rfl rfl rfl (V.at .z) (fun u1 w1 h1 => ?_))
 refine asg rfl rfl rfl ?_
 refine asg rfl rfl rfl ?_
 refine nil ?_
 refine sr ?_
 refine mv rfl rfl rfl ?_
 refine op (OpS.nchk h1 (.s .z) rfl rfl rfl ?_)
 refine op (OpS.fbox (o3 := 0) h1 (.s .z) PA.z fa184_0 rfl rfl rfl rfl ?_)
 refine op (OpS.loadB (fr := (Rep.slice Sensor_.rep)) h1 (.s .z) PA.a (GetS.ok (GetS.iso _ (GetS.here GetS.id))) (Ty.like ty27 (by rfl) (by rfl)) rfl rfl rfl (fun u2 h2 => ?_))
 refine mv rfl rfl rfl ?_
 obtain ⟨x1, e1, hF⟩ := bindP_use hF
 refine op (OpS.iptr h2 Tryz.underlying27 ty74 rfl rfl rfl rfl (V.at .z) e1 (fun u3 h3 => ?_))
 refine op (OpS.load h3 ty74 rfl rfl rfl .z (fun u4 h4 => ?_))
 refine op (OpS.alloc h4 ti74 Sensor_.zr rfl rfl (fun u5 w2 h5 => ?_))
 have h6 := (h5.pick .z).weak
 refine op (OpS.storeB (f' := false) h6 .z PA.z Put.id ty74 rfl rfl rfl (V.at .z) (.inr rfl) (fun w3 h7 => ?_))
 refine nil ?_
 refine sr ?_
 refine asg rfl rfl rfl ?_
 refine nil ?_
 refine Run.seq ?_
 refine sr ?_
 refine op (OpS.fbox (o3 := 6) h7 .z PA.z fa74_5 rfl rfl rfl rfl ?_)
 refine op (OpS.loadBb h7 .z PA.a (Get.fld Sensor_.f5) ty4 rfl rfl rfl ?_)
 refine nil ?_
 refine Run.ite rfl hF (fun e2 hF => ?_) (fun e2 hF => ?_)
 ·
  cases hF
 ·
  refine Run.skip ?_
  refine Run.seq ?_
  obtain ⟨x2, e3, hF⟩ := bindP_use hF
  obtain ⟨y1, e4, hF⟩ := bindP_use hF
  obtain ⟨d1, e5, hF⟩ := letP_use hF
  refine Run.drawV (Ωs := [(false, .slice 49 (Rep.int .u16) v0_1 a0.states)]) [.k 48 v0, .kr 49 v0 [2], .kr 50 (padd v0 2) [2], .kr 51 v0_0 [2], .k 52 (.int .i64 a1), .fr 53 (fun u_ => [(false, .val Sensor_.rep u_ x1)]) [0], .k 54 v0, .kr 55 v0 [2], .kr 56 (padd v0 2) [2], .kr 57 v0_0 [2], .k 58 (.int .i64 a1), ⟨some 59, some ((padd (sp v0_0) ((a1 : Int).toNat * Filter_.rep.n))), fun _ => [], fun ds_ u_ => [], [], [(3, [22, 11])], none⟩, ⟨some 60, none, fun u_ => [(false, .val Filter_.rep u_ x2)], fun ds_ u_ => [], [], [(3, [22, 12])], none⟩, .kr 61 (padd u1 2) [1], .kr 62 (.int .u8 a2.Raw) [1], .kr 63 (padd u1 1) [1], .kr 64 (.bool a2.OK) [1], .f 65 (fun u_ => [(true, .eqv u_ (.tuple #[(tcomp u_ 0), .int .i64 y1.2])), (true, .val Filter_.rep (tcomp u_ 0) y1.1)]), .f 47 (fun u_ => [(true, .eqv u_ (.tuple #[(tcomp u_ 0), .int .i64 y1.2])), (true, .val Filter_.rep (tcomp u_ 0) y1.1)]), .f 66 (fun u_ => [(true, .val Filter_.rep u_ y1.1)]), .k 67 (.int .i64 y1.2), ⟨some 68, some ((padd (sp v0_0) ((a1 : Int).toNat * Filter_.rep.n))), fun _ => [], fun ds_ u_ => [], [], [(3, [22, 21])], none⟩, ⟨none, some undef, fun _ => [], fun ds_ u_ => [(false, .slice 188 Filter_.rep v0_0 d1)], [3], [], none⟩] [[], [0], [1], [2], [], [], [], [6], [7], [8], [], [9, 10], [11], [], [13], [], [15], [5, 12, 14, 16], [17], [18], [18], [3, 4], [21, 19]] [[(false, .box 74 Sensor_.rep u5 x1)], [(false, .box 93 Sample_.rep u1 a2)], [(false, .box 184 (monitor_Monitor.repW v0_0 v0_1) v0 a0)], [(false, .slice 188 Filter_.rep v0_0 a0.filters)]] [0, 1, 2, 4, 5, 6, 7, 8, 9, 10, 11, 12, 13, 14, 15, 16, 17, 18, 19, 20, 21, 22, 23, 24, 25, 26] Try_mixed rfl rfl rfl h7 (.cons ?_ (.cons ?_ (.cons ?_ (.cons ?_ (.cons ?_ (.cons ?_ (.cons ?_ (.cons ?_ (.cons ?_ (.cons ?_ (.cons ?_ (.cons ?_ (.cons ?_ (.cons ?_ (.cons ?_ (.cons ?_ (.cons ?_ (.cons ?_ (.cons ?_ (.cons ?_ (.cons ?_ (.cons ?_ (.cons ?_ .nil))))))))))))))))))))))) (fun q1 w hq1 h => ?_)
  ·intro q1 w Γx Ωx h
   refine OpS.mv rfl rfl rfl ?_
   exact ⟨undef, rfl, trivial, h⟩
  ·intro q1 w Γx Ωx h
   refine OpS.nchk h .z rfl rfl rfl ?_
   exact ⟨undef, rfl, trivial, h⟩
  ·intro q1 w Γx Ωx h
   refine OpS.fbox (o3 := 2) h .z PA.z fa184_2 rfl rfl rfl rfl ?_
   exact ⟨undef, rfl, trivial, h⟩
  ·intro q1 w Γx Ωx h
   refine OpS.loadR h .z PA.a (GetS.ok (GetS.iso _ (GetS.there (GetS.there (GetS.here GetS.id))))) ty182 rfl rfl rfl rfl rfl ?_
   exact ⟨undef, rfl, trivial, h⟩
  ·intro q1 w Γx Ωx h
   refine OpS.mv rfl rfl rfl ?_
   exact ⟨undef, rfl, trivial, h⟩
  ·intro q1 w Γx Ωx h
   refine OpS.loadB h .z PA.z Get.id ty74 rfl rfl rfl (fun u h13 => ?_)
   exact ⟨u, rfl, trivial, h13⟩
  ·intro q1 w Γx Ωx h
   refine OpS.mv rfl rfl rfl ?_
   exact ⟨undef, rfl, trivial, h⟩
  ·intro q1 w Γx Ωx h
   refine OpS.nchk h .z rfl rfl rfl ?_
   exact ⟨undef, rfl, trivial, h⟩
  ·intro q1 w Γx Ωx h
   refine OpS.fbox (o3 := 2) h .z PA.z fa184_2 rfl rfl rfl rfl ?_
   exact ⟨undef, rfl, trivial, h⟩
  ·intro q1 w Γx Ωx h
   refine OpS.loadR h .z PA.a (GetS.ok (GetS.iso _ (GetS.there (GetS.there (GetS.here GetS.id))))) ty182 rfl rfl rfl rfl rfl ?_
   exact ⟨undef, rfl, trivial, h⟩
  ·intro q1 w Γx Ωx h
   refine OpS.mv rfl rfl rfl ?_
   exact ⟨undef, rfl, trivial, h⟩
  ·intro q1 w Γx Ωx h
   refine OpS.iown h .z Tryz.underlying182 ty188 rfl rfl rfl rfl e3 ?_
   exact ⟨undef, rfl, trivial, h⟩
  ·intro q1 w Γx Ωx h
   refine OpS.loadO h .z (idx_ne e3) PA.a (Get.arr e3) ty188 rfl rfl rfl (fun u h14 => ?_)
   exact ⟨u, rfl, trivial, h14⟩
  ·intro q1 w Γx Ωx h
   refine OpS.fbox (o3 := 2) h .z PA.z fa93_2 rfl rfl rfl rfl ?_
   exact ⟨undef, rfl, trivial, h⟩
  ·intro q1 w Γx Ωx h
   refine OpS.loadBi h .z PA.a (Get.fld Sample_.f2) ty5 rfl rfl rfl ?_
   exact ⟨undef, rfl, trivial, h⟩
  ·intro q1 w Γx Ωx h
   refine OpS.fbox (o3 := 1) h .z PA.z fa93_1 rfl rfl rfl rfl ?_
   exact ⟨undef, rfl, trivial, h⟩
  ·intro q1 w Γx Ωx h
   refine OpS.loadBb h .z PA.a (Get.fld Sample_.f1) ty4 rfl rfl rfl ?_
   exact ⟨undef, rfl, trivial, h⟩
  ·intro q1 w Γx Ωx h
   refine OpS.callP h Tryz.func151 rfl rfl rfl rfl (vs := [(q1 5), (q1 12), .int .u8 a2.Raw, .bool a2.OK]) rfl (sampling_Step_ok e4) (.cons (f := false) (V.at .z) (.cons (f := false) (V.at (.s .z)) .nil)) ?_
   rintro _ w6 _ _ _ ⟨u7, rfl, rfl, rfl, rfl⟩ h15
   have h16 := h15 rfl rfl
   simp only [ca, na] at h16
   exact ⟨_, rfl, trivial, St.eqv rfl h16⟩
  ·intro q1 w Γx Ωx h
   refine OpS.mv rfl rfl rfl ?_
   exact ⟨_, rfl, trivial, ((h.dup (.s .z)).dup (.s .z))⟩
  ·intro q1 w Γx Ωx h
   refine OpS.extT h .z rfl rfl rfl rfl ?_
   exact ⟨_, rfl, trivial, (h.dup (.s .z))⟩
  ·intro q1 w Γx Ωx h
   refine OpS.extT h .z rfl rfl rfl rfl ?_
   exact ⟨undef, rfl, trivial, h⟩
  ·intro q1 w Γx Ωx h
   refine OpS.iown h .z Tryz.underlying182 ty188 rfl rfl rfl rfl e3 ?_
   exact ⟨undef, rfl, trivial, h⟩
  ·intro q1 w Γx Ωx h
   refine OpS.storeO (f' := false) h .z (idx_ne e3) PA.a (Put.of (Put.arr e3) e5) ty188 rfl rfl rfl (V.weak (V.at .z)) (.inr rfl) (fun w7 h17 => ?_)
   exact ⟨undef, trivial, trivial, h17⟩
  have h18 := h
  refine nil ?_
  refine Run.slim [(8, u5), (0, v0), (1, .int .i64 a1)] ⟨rfl, rfl, rfl, trivial⟩ ?_
  refine Run.seq ?_
  have h19 := h18.picks (.cons .z (.cons (.s .z) (.cons (.s .z) (.cons .z (.cons .z .nil)))))
  obtain ⟨x3, e6, hF⟩ := bindP_use hF
  obtain ⟨y2, e7, hF⟩ := bindP_use hF
  refine Run.drawV (Ωs := [(false, .box 93 Sample_.rep u1 a2), (false, .slice 49 (Rep.int .u16) v0_1 a0.states)]) [.fr 70 (fun u_ => [(false, .val Sensor_.rep u_ x1)]) [0], .k 71 v0, .kr 72 v0 [1], .kr 73 (padd v0 2) [1], .kr 74 v0_0 [1], .k 75 (.int .i64 a1), .kr 76 (padd (sp v0_0) ((a1 : Int).toNat * Filter_.rep.n)) [2], .fr 77 (fun u_ => [(false, .val Filter_.rep u_ x3)]) [2], .k 78 (.tuple #[.int .u8 y2.1, .bool y2.2]), .k 69 (.tuple #[.int .u8 y2.1, .bool y2.2]), .k 79 (.int .u8 y2.1), .k 80 (.bool y2.2), .k 10 (.int .u8 y2.1)] [[], [], [1], [2], [3], [], [4, 5], [6], [0, 7], [8], [9], [9], [10]] [[(false, .box 74 Sensor_.rep u5 x1)], [(false, .box 184 (monitor_Monitor.repW v0_0 v0_1) v0 a0)], [(false, .slice 188 Filter_.rep v0_0 d1)]] [0, 1, 2, 3, 4, 5, 6, 7, 8, 9, 10, 11, 12, 13, 14, 15] Try_mixed rfl rfl rfl h19 (.cons ?_ (.cons ?_ (.cons ?_ (.cons ?_ (.cons ?_ (.cons ?_ (.cons ?_ (.cons ?_ (.cons ?_ (.cons ?_ (.cons ?_ (.cons ?_ (.cons ?_ .nil))))))))))))) (fun q2 w hq2 h => ?_)
  ·intro q2 w Γx Ωx h
   refine OpS.loadB h .z PA.z Get.id ty74 rfl rfl rfl (fun u h24 => ?_)
   exact ⟨u, rfl, trivial, h24⟩
  ·intro q2 w Γx Ωx h
   refine OpS.mv rfl rfl rfl ?_
   exact ⟨undef, rfl, trivial, h⟩
  ·intro q2 w Γx Ωx h
   refine OpS.nchk h .z rfl rfl rfl ?_
   exact ⟨undef, rfl, trivial, h⟩
  ·intro q2 w Γx Ωx h
   refine OpS.fbox (o3 := 2) h .z PA.z fa184_2 rfl rfl rfl rfl ?_
   exact ⟨undef, rfl, trivial, h⟩
  ·intro q2 w Γx Ωx h
   refine OpS.loadR h .z PA.a (GetS.ok (GetS.iso _ (GetS.there (GetS.there (GetS.here GetS.id))))) ty182 rfl rfl rfl rfl rfl ?_
   exact ⟨undef, rfl, trivial, h⟩
  ·intro q2 w Γx Ωx h
   refine OpS.mv rfl rfl rfl ?_
   exact ⟨undef, rfl, trivial, h⟩
  ·intro q2 w Γx Ωx h
   refine OpS.iown h .z Tryz.underlying182 ty188 rfl rfl rfl rfl e6 ?_
   exact ⟨undef, rfl, trivial, h⟩
  ·intro q2 w Γx Ωx h
   refine OpS.loadO h .z (idx_ne e6) PA.a (Get.arr e6) ty188 rfl rfl rfl (fun u h25 => ?_)
   exact ⟨u, rfl, trivial, h25⟩
  ·intro q2 w Γx Ωx h
   refine OpS.callP h Tryz.func100 rfl rfl rfl rfl (vs := [(q2 0), (q2 7)]) rfl (sampling_Reading_ok e7) (.cons (f := false) (V.at .z) (.cons (f := false) (V.at (.s .z)) .nil)) ?_
   rintro _ w9 _ _ _ ⟨rfl, rfl, rfl, rfl⟩ h26
   have h27 := h26 rfl rfl
   simp only [ca, na] at h27
   exact ⟨undef, rfl, trivial, h27⟩
  ·intro q2 w Γx Ωx h
   refine OpS.mv rfl rfl rfl ?_
   exact ⟨undef, rfl, trivial, h⟩
  ·intro q2 w Γx Ωx h
   refine OpS.ext rfl rfl rfl rfl ?_
   exact ⟨undef, rfl, trivial, h⟩
  ·intro q2 w Γx Ωx h
   refine OpS.ext rfl rfl rfl rfl ?_
   exact ⟨undef, rfl, trivial, h⟩
  ·intro q2 w Γx Ωx h
   refine OpS.as rfl rfl rfl ?_
   exact ⟨undef, rfl, trivial, h⟩
  have h28 := h
  refine asg rfl rfl rfl ?_
  refine nil ?_
  refine Run.seq ?_
  refine sr ?_
  refine mv rfl rfl rfl ?_
  refine op (OpS.not rfl rfl rfl ?_)
  refine nil ?_
  refine Run.ite rfl hF (fun e8 hF => ?_) (fun e8 hF => ?_)
  ·
   cases hF
  ·
   refine Run.skip ?_
   refine Run.seq ?_
   have h29 := h28.picks (.cons .z (.cons .z (.cons (.s (.s .z)) (.cons .z (.cons .z .nil)))))
   obtain ⟨x4, e9, hF⟩ := bindP_use hF
   obtain ⟨y3, e10, hF⟩ := bindP_use hF
   refine Run.drawV (Ωs := [(false, .slice 188 Filter_.rep v0_0 d1), (false, .box 93 Sample_.rep u1 a2)]) [.fr 84 (fun u_ => [(false, .val Sensor_.rep u_ x1)]) [0], .k 85 v0, .kr 86 v0 [1], .kr 87 (padd v0 3) [1], .kr 88 v0_1 [1], .k 89 (.int .i64 a1), .kr 90 (padd (sp v0_1) ((a1 : Int).toNat * (Rep.int .u16).n)) [2], .kr 91 (.int .u16 x4) [2], .k 92 (.int .u8 (IntKind.u8.wrap x4)), .k 93 (.int .u8 y2.1), .f 94 (fun u_ => [(true, .eqv u_ (.tuple #[.int .u8 y3.1, (tcomp u_ 1), .int .i64 y3.2.2])), (true, .val (Rep.slice Change_.rep) (tcomp u_ 1) y3.2.1)]), .f 83 (fun u_ => [(true, .eqv u_ (.tuple #[.int .u8 y3.1, (tcomp u_ 1), .int .i64 y3.2.2])), (true, .val (Rep.slice Change_.rep) (tcomp u_ 1) y3.2.1)]), .k 95 (.int .u8 y3.1), .f 96 (fun u_ => [(true, .val (Rep.slice Change_.rep) u_ y3.2.1)]), .k 97 (.int .i64 y3.2.2), .k 12 (.int .u8 y3.1), .f 9 (fun u_ => [(true, .val (Rep.slice Change_.rep) u_ y3.2.1)])] [[], [], [1], [2], [3], [], [4, 5], [6], [7], [], [0, 8, 9], [10], [11], [11], [11], [12], [13]] [[(false, .box 74 Sensor_.rep u5 x1)], [(false, .box 184 (monitor_Monitor.repW v0_0 v0_1) v0 a0)], [(false, .slice 49 (Rep.int .u16) v0_1 a0.states)]] [0, 1, 2, 3, 4, 5, 6, 7, 8, 9, 10, 11, 12, 13, 14, 15, 16, 17, 18, 19] Try_mixed rfl rfl rfl h29 (.cons ?_ (.cons ?_ (.cons ?_ (.cons ?_ (.cons ?_ (.cons ?_ (.cons ?_ (.cons ?_ (.cons ?_ (.cons ?_ (.cons ?_ (.cons ?_ (.cons ?_ (.cons ?_ (.cons ?_ (.cons ?_ (.cons ?_ .nil))))))))))))))))) (fun q3 w hq3 h => ?_)
   ·intro q3 w Γx Ωx h
    refine OpS.loadB h .z PA.z Get.id ty74 rfl rfl rfl (fun u h34 => ?_)
    exact ⟨u, rfl, trivial, h34⟩
   ·intro q3 w Γx Ωx h
    refine OpS.mv rfl rfl rfl ?_
    exact ⟨undef, rfl, trivial, h⟩
   ·intro q3 w Γx Ωx h
    refine OpS.nchk h .z rfl rfl rfl ?_
    exact ⟨undef, rfl, trivial, h⟩
   ·intro q3 w Γx Ωx h
    refine OpS.fbox (o3 := 3) h .z PA.z fa184_3 rfl rfl rfl rfl ?_
    exact ⟨undef, rfl, trivial, h⟩
   ·intro q3 w Γx Ωx h
    refine OpS.loadR h .z PA.a (GetS.ok (GetS.iso _ (GetS.there (GetS.there (GetS.there (GetS.here GetS.id)))))) ty60 rfl rfl rfl rfl rfl ?_
    exact ⟨undef, rfl, trivial, h⟩
   ·intro q3 w Γx Ωx h
    refine OpS.mv rfl rfl rfl ?_
    exact ⟨undef, rfl, trivial, h⟩
   ·intro q3 w Γx Ωx h
    refine OpS.iown h .z Tryz.underlying60 ty49 rfl rfl rfl rfl e9 ?_
    exact ⟨undef, rfl, trivial, h⟩
   ·intro q3 w Γx Ωx h
    refine OpS.loadOi h .z (idx_ne e9) PA.a (Get.arr e9) ty49 rfl rfl rfl ?_
    exact ⟨undef, rfl, trivial, h⟩
   ·intro q3 w Γx Ωx h
    refine OpS.conv Tryz.underlying49 Tryz.underlying5 rfl rfl rfl ?_
    exact ⟨undef, rfl, trivial, h⟩
   ·intro q3 w Γx Ωx h
    refine OpS.mv rfl rfl rfl ?_
    exact ⟨undef, rfl, trivial, h⟩
   ·intro q3 w Γx Ωx h
    refine OpS.callP h Tryz.func152 rfl rfl rfl rfl (vs := [(q3 0), .int .u8 (IntKind.u8.wrap x4), .int .u8 y2.1]) rfl (threshold_Step_ok e10) (.cons (f := false) (V.at .z) .nil) ?_
    rintro _ w11 _ _ _ ⟨u9, rfl, rfl, rfl, rfl⟩ h35
    have h36 := h35 rfl rfl
    simp only [ca, na] at h36
    have h37 := h36.freeze
    exact ⟨_, rfl, trivial, St.eqv rfl h37⟩
   ·intro q3 w Γx Ωx h
    refine OpS.mv rfl rfl rfl ?_
    exact ⟨_, rfl, trivial, ((h.dup (.s .z)).dup (.s .z))⟩
   ·intro q3 w Γx Ωx h
    refine OpS.extT h .z rfl rfl rfl rfl ?_
    exact ⟨undef, rfl, trivial, h⟩
   ·intro q3 w Γx Ωx h
    refine OpS.extT h .z rfl rfl rfl rfl ?_
    exact ⟨_, rfl, trivial, (h.dup (.s .z))⟩
   ·intro q3 w Γx Ωx h
    refine OpS.extT h .z rfl rfl rfl rfl ?_
    exact ⟨undef, rfl, trivial, h⟩
   ·intro q3 w Γx Ωx h
    refine OpS.as rfl rfl rfl ?_
    exact ⟨undef, rfl, trivial, h⟩
   ·intro q3 w Γx Ωx h
    refine OpS.as rfl rfl rfl ?_
    exact ⟨_, rfl, trivial, (h.dup .z)⟩
   have h38 := h
   refine asg rfl rfl rfl ?_
   refine nil ?_
   refine Run.slim [(12, .int .u8 y3.1), (9, (q3 16)), (10, .int .u8 y2.1), (0, v0), (1, .int .i64 a1)] ⟨rfl, rfl, rfl, rfl, rfl, trivial⟩ ?_
   refine sr ?_
   refine mv rfl rfl rfl ?_
   refine op (OpS.nchk h38 (.s .z) rfl rfl rfl ?_)
   refine op (OpS.fbox (o3 := 3) h38 (.s .z) PA.z fa184_3 rfl rfl rfl rfl ?_)
   refine op (OpS.loadR h38 (.s .z) PA.a (GetS.ok (GetS.iso _ (GetS.there (GetS.there (GetS.there (GetS.here GetS.id)))))) ty60 rfl rfl rfl rfl rfl ?_)
   refine mv rfl rfl rfl ?_
   refine mv rfl rfl rfl ?_
   refine op (OpS.conv Tryz.underlying5 Tryz.underlying49 rfl rfl rfl ?_)
   obtain ⟨x5, e11, hF⟩ := bindP_use hF
   refine op (OpS.iown h38 (.s (.s .z)) Tryz.underlying60 ty49 rfl rfl rfl rfl e11 ?_)
   obtain ⟨d2, e12, hF⟩ := letP_use hF
   refine op (OpS.storeO (f' := true) h38 (.s (.s .z)) (idx_ne e11) PA.a (Put.of (Put.arr e11) e12) ty49 rfl rfl rfl V.int (.inr rfl) (fun w12 h39 => ?_))
   refine nil ?_
   refine sr ?_
   refine mv rfl rfl rfl ?_
   refine mv rfl rfl rfl ?_
   refine asg rfl rfl rfl ?_
   refine asg rfl rfl rfl ?_
   refine nil ?_
   have h40 := St.boxJ (r' := (monitor_Monitor.repW v0_0 v0_1)) (x' := { { a0 with filters := d1 } with states := d2 }) (h39.pick (.s (.s .z))) (fun _ _ hs_ => (Jn.iso _ (Jn.prod Jn.refl (Jn.prod Jn.refl (Jn.prod Jn.same (Jn.prod Jn.same Jn.refl))))))
   refine Run.retP rfl (.tmp rfl (.tmp rfl .nil)) ?_
   cases hF
   exact Post.mk' ⟨(q3 16), v0_0, v0_1, rfl, rfl, rfl, rfl⟩ (h40.picks (.cons .z (.cons (.s (.s .z)) (.cons .z .nil)))) (.val (V.at (.s (.s (.s (.s (.s (.s .z))))))) .nil)
theorem event_Threshold_ok {fuel : Nat} {a0 : Int} {a1 : Int} {a2 : Int} {a3 : Bool} {a4 : Int} {a5 : Int} {y : Event_ × Int} (hF : event_Threshold fuel a0 a1 a2 a3 a4 a5 = some y) {w : World} :
  Spec Tryz.prog 154 [.int .u8 a0, .int .u8 a1, .int .i64 a2, .bool a3, .int .u8 a4, .int .u8 a5].toArray w [(false, .ptr (Rep.arr 6 (Rep.int .u8)) (.pointer (some ⟨0, 0, none⟩)) ([0, 2, 4, 7, 9, 11]))] [] (fun v Γr Ωr Ωo => ∃ u0 : Value, v = .tuple #[u0, .int .i64 y.2] ∧ Γr = [(true, .val Event_.rep u0 y.1)] ∧ Ωr = [] ∧ Ωo = []) := by
 refine Spec.of (L := [(0, .int .u8 a0), (1, .int .u8 a1), (2, .int .i64 a2), (3, .bool a3), (4, .int .u8 a4), (5, .int .u8 a5)]) Tryz.func154 rfl ⟨rfl, rfl, rfl, rfl, rfl, rfl, trivial⟩ rfl (fun e h => ?_)
 unfold event_Threshold at hF
 refine sr ?_
 refine op (OpS.alloc h ti55 Event_.zr rfl rfl (fun u1 w1 h1 => ?_))
 refine asg rfl rfl rfl ?_
 refine nil ?_
 refine Run.seq ?_
 refine sr ?_
 refine mv rfl rfl rfl ?_
 refine bin rfl rfl rfl rfl rfl ?_
 refine mv rfl rfl rfl ?_
 refine RunL.caseb hF (fun e1 hF => ?_) (fun e1 hF => ?_)
 ·
  cases hF
 ·
  refine mv rfl rfl rfl ?_
  refine bin rfl rfl rfl rfl rfl ?_
  refine pick rfl rfl rfl rfl ?_
  refine nil ?_
  refine Run.ite rfl hF (fun e2 hF => ?_) (fun e2 hF => ?_)
  ·
   cases hF
  ·
   refine Run.skip ?_
   refine sr ?_
   refine mv rfl rfl rfl ?_
   refine mv rfl rfl rfl ?_
   refine mv rfl rfl rfl ?_
   refine op (OpS.not rfl rfl rfl ?_)
   refine mv rfl rfl rfl ?_
   obtain ⟨x1, e3, hF⟩ := bindP_use hF
   refine op (OpS.iarr h1 Tryz.underlying70 ty5 rfl rfl rfl rfl .z e3 (fun u2 h2 => ?_))
   refine op (OpS.loadi h2 ty5 rfl rfl rfl .z ?_)
   refine bin rfl rfl rfl rfl rfl ?_
   refine mv rfl rfl rfl ?_
   refine mv rfl rfl rfl ?_
   refine op (OpS.buildA (f := true) (r := (Rep.int .u8)) h2 Tryz.underlying53 ti5 rfl ti53 rfl rfl rfl (.cons rfl V.int (.cons rfl V.int (.cons rfl V.int .nil))) rfl (fun u3 h3 => ?_))
   refine op (OpS.build (f := true) (x' := (⟨0, 0, 32, a0, a1, 1, !a3, [(IntKind.u8.wrap (80 + x1)), a4, a5]⟩ : Event_)) h3 pl55 ti55 Event_.zr rfl rfl rfl (.cons rfl Event_.f2 rfl V.int (.cons rfl Event_.f3 rfl V.int (.cons rfl Event_.f4 rfl V.int (.cons rfl Event_.f5 rfl V.int (.cons rfl Event_.f6 rfl V.bool (.cons rfl Event_.f7 rfl (V.at .z) .nil)))))) (fun u4 h4 => ?_))
   refine op (OpS.storeB (f' := true) h4 .z PA.z Put.id ty55 rfl rfl rfl (V.at .z) (.inl rfl) (fun w2 h5 => ?_))
   refine asg rfl rfl rfl ?_
   refine nil ?_
   obtain ⟨u5, hu1, h6⟩ := res_box h5 .z ty55
   refine Run.retP rfl (.cell rfl hu1 (.tmp rfl .nil)) ?_
   cases hF
   exact Post.mk' ⟨u5, rfl, rfl, rfl, rfl⟩ (h6.picks .nil) (.val (V.at .z) .nil)
set_option maxRecDepth 20000 in
theorem monitor_events_ok {fuel : Nat} {a0 : Sensor_} {a1 : List Change_} {a2 : Int} {y : (List Event_)} (hF : monitor_events fuel a0 a1 a2 = some y) {w : World} {v0 v1 : Value} :
  Spec Tryz.prog 82 [v0, v1, .int .u8 a2].toArray w [(false, .val Sensor_.rep v0 a0), (false, .val (Rep.slice Change_.rep) v1 a1), (false, .ptr (Rep.arr 6 (Rep.int .u8)) (.pointer (some ⟨0, 0, none⟩)) ([0, 2, 4, 7, 9, 11]))] [] (fun v Γr Ωr Ωo => ∃ u0 : Value, v = u0 ∧ Γr = [] ∧ Ωr = [(true, (.slice 55 Event_.rep u0 y))] ∧ Ωo = []) := by
 refine Spec.of (L := [(0, v0), (1, v1), (2, .int .u8 a2)]) Tryz.func82 rfl ⟨rfl, rfl, rfl, trivial⟩ rfl (fun e h => ?_)
 unfold monitor_events at hF
 refine sr ?_
 refine op (OpS.boxF h rfl rfl rfl (V.at .z) (fun u1 w1 h1 => ?_))
 refine asg rfl rfl rfl ?_
 refine nil ?_
 refine sr ?_
 refine asg rfl rfl rfl ?_
 refine nil ?_
 refine Run.seq ?_
 refine sr ?_
 refine mv rfl rfl rfl ?_
 refine op (OpS.len h1 Tryz.underlying191 rfl rfl rfl (V.at (.s .z)) ?_)
 refine mv rfl rfl rfl ?_
 refine nil ?_
 refine Run.block ?_
 have h2 := St.nil 55 Event_.rep h1
 refine Run.slim [(2, .int .u8 a2), (3, u1), (7, (.slice none 0 0)), (12, v1), (13, .int .i64 (a1.length : Int)), (14, .int .i64 0)] ⟨rfl, rfl, rfl, rfl, rfl, rfl, trivial⟩ ?_
 refine Run.loopP (σ := (Int × (List Event_))) (fun s_ L_ w_ => ∃ u0_ : Value, L_ = [(2, .int .u8 a2), (3, u1), (7, u0_), (12, v1), (13, .int .i64 (a1.length : Int)), (14, .int .i64 s_.1)] ∧ St e w_ [(false, .val (Rep.slice Change_.rep) v1 a1), (false, .ptr (Rep.arr 6 (Rep.int .u8)) (.pointer (some ⟨0, 0, none⟩)) ([0, 2, 4, 7, 9, 11]))] [(false, .box 74 Sensor_.rep u1 a0), (true, .slice 55 Event_.rep u0_ s_.2)]) hF ⟨(.slice none 0 0), rfl, (h2.facts (.atm (.s .z) (.atm (.s (.s .z)) .nil))).picks (.cons (.s .z) (.cons .z .nil))⟩ (fun k1 hk1 s1 _ w2 hI hF => ?_)
 obtain ⟨u2, rfl, h3⟩ := hI
 refine sr ?_
 refine bin rfl rfl rfl rfl rfl ?_
 refine nil ?_
 refine Run.seq ?_
 refine Run.ite rfl hF (fun e1 hF => ?_) (fun e1 hF => ?_)
 ·
  refine Run.skip ?_
  refine Run.seq ?_
  refine Run.block ?_
  refine sr ?_
  obtain ⟨x1, e2, hF⟩ := bindP_use hF
  refine op (OpS.iptr h3 Tryz.underlying191 ty288 rfl rfl rfl rfl (V.at .z) e2 (fun u3 h4 => ?_))
  refine op (OpS.load h4 ty288 rfl rfl rfl .z (fun u4 h5 => ?_))
  refine op (OpS.alloc h5 ti288 Change_.zr rfl rfl (fun u5 w3 h6 => ?_))
  have h7 := (h6.pick .z).weak
  refine op (OpS.storeB (f' := false) h7 .z PA.z Put.id ty288 rfl rfl rfl (V.at .z) (.inr rfl) (fun w4 h8 => ?_))
  refine nil ?_
  refine sr ?_
  refine op (OpS.fbox (o3 := 25) h8 (.s .z) PA.z fa74_12 rfl rfl rfl rfl ?_)
  refine op (OpS.loadBi h8 (.s .z) PA.a (Get.fld Sensor_.f12) ty49 rfl rfl rfl ?_)
  refine asg rfl rfl rfl ?_
  refine nil ?_
  refine Run.seq ?_
  refine sr ?_
  refine op (OpS.fbox (o3 := 1) h8 .z PA.z fa288_1 rfl rfl rfl rfl ?_)
  refine op (OpS.loadBb h8 .z PA.a (Get.fld Change_.f1) ty4 rfl rfl rfl ?_)
  refine nil ?_
  refine Run.ite rfl hF (fun e3 hF => ?_) (fun e3 hF => ?_)
  ·
   refine Run.reg ?_
   refine op (OpS.fbox (o3 := 24) h8 (.s .z) PA.z fa74_11 rfl rfl rfl rfl ?_)
   refine op (OpS.loadBi h8 (.s .z) PA.a (Get.fld Sensor_.f11) ty49 rfl rfl rfl ?_)
   refine asg rfl rfl rfl ?_
   refine nil ?_
   refine Run.seq ?_
   refine sr ?_
   refine mv rfl rfl rfl ?_
   refine op (OpS.fbox (o3 := 0) h8 .z PA.z fa288_0 rfl rfl rfl rfl ?_)
   refine op (OpS.loadBi h8 .z PA.a (Get.fld Change_.f0) ty3 rfl rfl rfl ?_)
   obtain ⟨e4, hF⟩ := chk_use hF
   refine op (OpS.shr rfl rfl rfl rfl e4 ?_)
   refine bin rfl rfl rfl rfl rfl ?_
   refine bin rfl rfl rfl rfl rfl ?_
   refine nil ?_
   refine Run.ite rfl hF (fun e5 hF => ?_) (fun e5 hF => ?_)
   ·
    cases hF
   ·
    refine Run.skip ?_
    refine sr ?_
    refine op (OpS.alloc h8 ti55 Event_.zr rfl rfl (fun u6 w5 h9 => ?_))
    refine nil ?_
    refine Run.seq ?_
    refine sr ?_
    refine op (OpS.fbox (o3 := 6) h9 (.s (.s .z)) PA.z fa74_5 rfl rfl rfl rfl ?_)
    refine op (OpS.loadBb h9 (.s (.s .z)) PA.a (Get.fld Sensor_.f5) ty4 rfl rfl rfl ?_)
    refine nil ?_
    refine Run.ite rfl hF (fun e6 hF => ?_) (fun e6 hF => ?_)
    ·
     cases hF
    ·
     obtain ⟨x2, e7, hF⟩ := bindP_use hF
     obtain ⟨e8, hF⟩ := chk_use hF
     obtain ⟨y1, e9, hF⟩ := bindP_use hF
     refine Run.drawV (Ωs := [(true, .slice 55 Event_.rep u2 s1.2)]) [.kr 45 (padd u1 1) [2], .kr 46 (.int .u8 a0.Type_) [2], .kr 47 (padd u1 0) [2], .kr 48 (.int .u8 a0.Number) [2], .kr 49 (padd u5 0) [1], .kr 50 (.int .i64 x1.Index) [1], .kr 51 (padd u5 1) [1], .kr 52 (.bool x1.Asserted) [1], .k 53 (.int .u8 a2), .kr 54 (padd u5 0) [1], .kr 55 (.int .i64 x1.Index) [1], .kr 56 (padd u1 14) [2], .kr 57 (padd u1 15) [2], .kr 58 (padd u1 (15 + (x1.Index : Int).toNat * (Rep.int .u8).n)) [2], .kr 59 (.int .u8 x2) [2], .f 60 (fun u_ => [(true, .eqv u_ (.tuple #[(tcomp u_ 0), .int .i64 y1.2])), (true, .val Event_.rep (tcomp u_ 0) y1.1)]), .f 44 (fun u_ => [(true, .eqv u_ (.tuple #[(tcomp u_ 0), .int .i64 y1.2])), (true, .val Event_.rep (tcomp u_ 0) y1.1)]), .f 61 (fun u_ => [(true, .val Event_.rep u_ y1.1)]), .k 62 (.int .i64 y1.2), ⟨none, some undef, fun _ => [], fun ds_ u_ => [(true, .box 55 Event_.rep u6 y1.1)], [0], [], none⟩] [[], [0], [], [2], [], [4], [], [6], [], [], [9], [], [11], [12, 10], [13], [1, 3, 5, 7, 8, 14], [15], [16], [16], [17]] [[(true, .box 55 Event_.rep u6 Event_.z)], [(false, .box 288 Change_.rep u5 x1)], [(false, .box 74 Sensor_.rep u1 a0)]] [1, 2, 3, 4, 5, 6, 7, 8, 9, 10, 11, 12, 13, 14, 15, 16, 17, 18, 19, 20, 21, 22] Try_mixed rfl rfl rfl h9 (.cons ?_ (.cons ?_ (.cons ?_ (.cons ?_ (.cons ?_ (.cons ?_ (.cons ?_ (.cons ?_ (.cons ?_ (.cons ?_ (.cons ?_ (.cons ?_ (.cons ?_ (.cons ?_ (.cons ?_ (.cons ?_ (.cons ?_ (.cons ?_ (.cons ?_ (.cons ?_ .nil)))))))))))))))))))) (fun q1 w hq1 h => ?_)
     ·intro q1 w Γx Ωx h
      refine OpS.fbox (o3 := 1) h .z PA.z fa74_1 rfl rfl rfl rfl ?_
      exact ⟨undef, rfl, trivial, h⟩
     ·intro q1 w Γx Ωx h
      refine OpS.loadBi h .z PA.a (Get.fld Sensor_.f1) ty5 rfl rfl rfl ?_
      exact ⟨undef, rfl, trivial, h⟩
     ·intro q1 w Γx Ωx h
      refine OpS.fbox (o3 := 0) h .z PA.z fa74_0 rfl rfl rfl rfl ?_
      exact ⟨undef, rfl, trivial, h⟩
     ·intro q1 w Γx Ωx h
      refine OpS.loadBi h .z PA.a (Get.fld Sensor_.f0) ty5 rfl rfl rfl ?_
      exact ⟨undef, rfl, trivial, h⟩
     ·intro q1 w Γx Ωx h
      refine OpS.fbox (o3 := 0) h .z PA.z fa288_0 rfl rfl rfl rfl ?_
      exact ⟨undef, rfl, trivial, h⟩
     ·intro q1 w Γx Ωx h
      refine OpS.loadBi h .z PA.a (Get.fld Change_.f0) ty3 rfl rfl rfl ?_
      exact ⟨undef, rfl, trivial, h⟩
     ·intro q1 w Γx Ωx h
      refine OpS.fbox (o3 := 1) h .z PA.z fa288_1 rfl rfl rfl rfl ?_
      exact ⟨undef, rfl, trivial, h⟩
     ·intro q1 w Γx Ωx h
      refine OpS.loadBb h .z PA.a (Get.fld Change_.f1) ty4 rfl rfl rfl ?_
      exact ⟨undef, rfl, trivial, h⟩
     ·intro q1 w Γx Ωx h
      refine OpS.mv rfl rfl rfl ?_
      exact ⟨undef, rfl, trivial, h⟩
     ·intro q1 w Γx Ωx h
      refine OpS.fbox (o3 := 0) h .z PA.z fa288_0 rfl rfl rfl rfl ?_
      exact ⟨undef, rfl, trivial, h⟩
     ·intro q1 w Γx Ωx h
      refine OpS.loadBi h .z PA.a (Get.fld Change_.f0) ty3 rfl rfl rfl ?_
      exact ⟨undef, rfl, trivial, h⟩
     ·intro q1 w Γx Ωx h
      refine OpS.fbox (o3 := 14) h .z PA.z fa74_7 rfl rfl rfl rfl ?_
      exact ⟨undef, rfl, trivial, h⟩
     ·intro q1 w Γx Ωx h
      refine OpS.fbox (o3 := 15) h .z PA.a fa72_1 rfl rfl rfl rfl ?_
      exact ⟨undef, rfl, trivial, h⟩
     ·intro q1 w Γx Ωx h
      refine OpS.ibox h .z PA.a Tryz.underlying70 ty5 (Nat.eq_of_beq_eq_true e8) rfl rfl rfl rfl e7 ?_
      exact ⟨undef, rfl, trivial, h⟩
     ·intro q1 w Γx Ωx h
      refine OpS.loadBi h .z PA.a (Get.comp (Get.comp (Get.fld Sensor_.f7) (Get.fld Thresholds_.f1)) (Get.arr e7)) ty5 rfl rfl rfl ?_
      exact ⟨undef, rfl, trivial, h⟩
     ·intro q1 w Γx Ωx h
      refine OpS.callP h Tryz.func154 rfl rfl rfl rfl (vs := [.int .u8 a0.Type_, .int .u8 a0.Number, .int .i64 x1.Index, .bool x1.Asserted, .int .u8 a2, .int .u8 x2]) rfl (event_Threshold_ok e9) (.ptr (.s (.s (.s .z))) .nil) ?_
      rintro _ w8 _ _ _ ⟨u8, rfl, rfl, rfl, rfl⟩ h13
      have h14 := h13 rfl rfl
      simp only [ca, na] at h14
      exact ⟨_, rfl, trivial, St.eqv rfl h14⟩
     ·intro q1 w Γx Ωx h
      refine OpS.mv rfl rfl rfl ?_
      exact ⟨_, rfl, trivial, ((h.dup (.s .z)).dup (.s .z))⟩
     ·intro q1 w Γx Ωx h
      refine OpS.extT h .z rfl rfl rfl rfl ?_
      exact ⟨_, rfl, trivial, (h.dup (.s .z))⟩
     ·intro q1 w Γx Ωx h
      refine OpS.extT h .z rfl rfl rfl rfl ?_
      exact ⟨undef, rfl, trivial, h⟩
     ·intro q1 w Γx Ωx h
      refine OpS.storeB (f' := true) h .z PA.z Put.id ty55 rfl rfl rfl (V.at .z) (.inl rfl) (fun w9 h15 => ?_)
      exact ⟨undef, trivial, trivial, h15⟩
     have h16 := h
     refine nil ?_
     refine Run.slim [(11, u6), (2, .int .u8 a2), (3, u1), (7, u2), (12, v1), (13, .int .i64 (a1.length : Int)), (14, .int .i64 s1.1)] ⟨rfl, rfl, rfl, rfl, rfl, rfl, rfl, trivial⟩ ?_
     refine Run.reg ?_
     refine mv rfl rfl rfl ?_
     refine op (OpS.loadB h16 (.s (.s .z)) PA.z Get.id ty55 rfl rfl rfl (fun u9 h17 => ?_))
     refine op (OpS.lit (r := Event_.rep) (f := true) h17 Tryz.underlying40 ti55 rfl rfl rfl rfl rfl (.cons rfl (V.at .z) .nil) rfl rfl (fun u10 w10 h18 => ?_))
     obtain ⟨x3, e10, hF⟩ := bindP_use hF
     refine op (OpS.app (f' := true) h18 (.s (.s (.s .z))) Tryz.underlying40 ti55 rfl rfl rfl rfl rfl rfl rfl (V.at .z) (.inr Event_.pure) e10 (fun u11 w11 h19 => ?_))
     refine asg rfl rfl rfl ?_
     refine nil ?_
     refine Run.endBlock ?_
     refine Run.reg ?_
     refine bin rfl rfl rfl rfl rfl ?_
     refine mv rfl rfl rfl ?_
     refine nil ?_
     refine Run.slim [(2, .int .u8 a2), (3, u1), (7, u11), (12, v1), (13, .int .i64 (a1.length : Int)), (14, .int .i64 (IntKind.i64.wrap (s1.1 + 1)))] ⟨rfl, rfl, rfl, rfl, rfl, rfl, trivial⟩ ?_
     exact hk1 ((IntKind.i64.wrap (s1.1 + 1)), x3) _ _ ⟨u11, rfl, (h19.facts (.atm (.s (.s (.s (.s (.s (.s (.s (.s (.s .z))))))))) (.atm (.s (.s (.s (.s (.s (.s (.s (.s (.s (.s .z)))))))))) .nil))).picks (.cons (.s (.s .z)) (.cons .z .nil))⟩ hF
  ·
   cases hF
 ·
  refine Run.exit rfl ?_
  refine sr ?_
  refine mv rfl rfl rfl ?_
  refine asg rfl rfl rfl ?_
  refine nil ?_
  refine Run.retP rfl (.tmp rfl .nil) ?_
  cases hF
  exact Post.mk' ⟨u2, rfl, rfl, rfl, rfl⟩ (h3.picks (.cons (.s .z) .nil)) .nil
theorem monitor_Monitor_Scan_1_2_ok {fuel : Nat} {a0 : Sample_} {a1 : Sensor_} {y : Bool} (hF : monitor_Monitor_Scan_1_2 fuel a0 a1 = some y) {w : World} {v0 v1 : Value} :
  Spec Tryz.prog 80 [v0, v1].toArray w [(false, .val Sample_.rep v0 a0), (false, .ptr Sensor_.rep v1 a1)] [] (fun v Γr Ωr Ωo => v = .bool y ∧ Γr = [] ∧ Ωr = [] ∧ Ωo = []) := by
 refine Spec.of (L := [(0, v0), (1, v1)]) Tryz.func80 rfl ⟨rfl, rfl, trivial⟩ rfl (fun e h => ?_)
 unfold monitor_Monitor_Scan_1_2 at hF
 refine sr ?_
 refine op (OpS.boxF h rfl rfl rfl (V.at .z) (fun u1 w1 h1 => ?_))
 refine asg rfl rfl rfl ?_
 refine nil ?_
 refine sr ?_
 refine op (OpS.fbox (o3 := 0) h1 .z PA.z fa93_0 rfl rfl rfl rfl ?_)
 refine op (OpS.loadBi h1 .z PA.a (Get.fld Sample_.f0) ty5 rfl rfl rfl ?_)
 refine op (OpS.fptr h1 fa74_0 Sensor_.f0 rfl rfl rfl (.s .z) (fun u2 h2 => ?_))
 refine op (OpS.loadi h2 ty5 rfl rfl rfl .z ?_)
 refine bin rfl rfl rfl rfl rfl ?_
 refine asg rfl rfl rfl ?_
 obtain ⟨x1, e1, hF⟩ := letP_use hF
 refine RunL.nameb e1 ?_
 refine nil ?_
 refine Run.retP rfl (.tmp rfl .nil) ?_
 cases hF
 exact Post.mk' ⟨rfl, rfl, rfl, rfl⟩ (h2.picks .nil) .nil
theorem slices_IndexFunc_api_Sample_api_Sample_monitor_Monitor_Scan_1_ok {fuel : Nat} {a0 : List Sample_} {a1_0 : Sensor_} {y : Int} (hF : slices_IndexFunc_api_Sample_api_Sample_monitor_Monitor_Scan_1 fuel a0 a1_0 = some y) {w : World} {v0 v1_0 : Value} :
  Spec Tryz.prog 79 [v0, .func (.func 80) #[] #[v1_0]].toArray w [(false, .val (Rep.slice Sample_.rep) v0 a0), (false, .ptr Sensor_.rep v1_0 a1_0)] [] (fun v Γr Ωr Ωo => v = .int .i64 y ∧ Γr = [] ∧ Ωr = [] ∧ Ωo = []) := by
 refine Spec.of (L := [(0, v0), (1, .func (.func 80) #[] #[v1_0])]) Tryz.func79 rfl ⟨rfl, rfl, trivial⟩ rfl (fun e h => ?_)
 unfold slices_IndexFunc_api_Sample_api_Sample_monitor_Monitor_Scan_1 at hF
 refine sr ?_
 refine asg rfl rfl rfl ?_
 refine nil ?_
 refine Run.seq ?_
 refine sr ?_
 refine mv rfl rfl rfl ?_
 refine op (OpS.len h Tryz.underlying41 rfl rfl rfl (V.at .z) ?_)
 refine mv rfl rfl rfl ?_
 refine nil ?_
 refine Run.block ?_
 refine Run.slim [(0, v0), (1, .func (.func 80) #[] #[v1_0]), (7, .int .i64 (a0.length : Int)), (8, .int .i64 0)] ⟨rfl, rfl, rfl, rfl, trivial⟩ ?_
 refine Run.loopP (σ := Unit) (fun s_ L_ w_ => L_ = [(0, v0), (1, .func (.func 80) #[] #[v1_0]), (7, .int .i64 (a0.length : Int)), (8, .int .i64 0)] ∧ St e w_ [(false, .val (Rep.slice Sample_.rep) v0 a0), (false, .ptr Sensor_.rep v1_0 a1_0)] []) hF ⟨rfl, (h.facts (.atm .z (.atm (.s .z) .nil))).picks .nil⟩ (fun k1 hk1 s1 _ w1 hI hF => ?_)
 obtain ⟨rfl, h1⟩ := hI
 refine sr ?_
 refine bin rfl rfl rfl rfl rfl ?_
 refine nil ?_
 refine Run.seq ?_
 refine Run.ite rfl hF (fun e1 hF => ?_) (fun e1 hF => ?_)
 ·
  refine Run.skip ?_
  refine Run.seq ?_
  refine Run.block ?_
  refine sr ?_
  refine mv rfl rfl rfl ?_
  refine asg rfl rfl rfl ?_
  refine nil ?_
  refine sr ?_
  refine mv rfl rfl rfl ?_
  refine mv rfl rfl rfl ?_
  refine mv rfl rfl rfl ?_
  obtain ⟨x1, e2, hF⟩ := bindP_use hF
  refine op (OpS.iptr h1 Tryz.underlying41 ty93 rfl rfl rfl rfl (V.at .z) e2 (fun u1 h2 => ?_))
  refine op (OpS.load h2 ty93 rfl rfl rfl .z (fun u2 h3 => ?_))
  obtain ⟨y1, e3, hF⟩ := bindP_use hF
  refine op (OpS.callPF (fl := []) (cl := [v1_0]) h3 Tryz.func80 rfl rfl rfl rfl rfl (vs := [u2]) rfl (monitor_Monitor_Scan_1_2_ok e3) (.cons (f := false) (V.at .z) (.ptr (.s (.s (.s .z))) .nil)) ?_)
  rintro _ w2 _ _ _ ⟨rfl, rfl, rfl, rfl⟩ h4
  have h5 := h4 rfl rfl
  simp only [ca, na] at h5
  refine nil ?_
  refine Run.ite rfl hF (fun e4 hF => ?_) (fun e4 hF => ?_)
  ·
   refine sr ?_
   refine mv rfl rfl rfl ?_
   refine asg rfl rfl rfl ?_
   refine nil ?_
   refine Run.retP rfl (.tmp rfl .nil) ?_
   cases hF
   exact Post.mk' ⟨rfl, rfl, rfl, rfl⟩ (h5.picks .nil) .nil
  ·
   cases hF
 ·
  cases hF
set_option maxHeartbeats 8000000 in set_option maxRecDepth 20000 in
theorem monitor_Monitor_Scan_ok {fuel : Nat} {a0 : monitor_Monitor} {a1 : List Sample_} {a2 : List Entity_} {a3 : Bool} {y : (List Event_) × Int × monitor_Monitor} (hF : monitor_Monitor_Scan fuel a0 a1 a2 a3 = some y) {w : World} {v0 v0_0 v0_1 v1 v2 : Value} :
  Spec Tryz.prog 20 [v0, v1, v2, .bool a3].toArray w [(false, .val (Rep.slice Sample_.rep) v1 a1), (false, .val (Rep.slice Entity_.rep) v2 a2), (false, .ptr (Rep.arr 6 (Rep.int .u8)) (.pointer (some ⟨0, 0, none⟩)) ([0, 2, 4, 7, 9, 11]))] [(false, .box 184 (monitor_Monitor.repW v0_0 v0_1) v0 a0), (false, .slice 188 Filter_.rep v0_0 a0.filters), (false, .slice 49 (Rep.int .u16) v0_1 a0.states)] (fun v Γr Ωr Ωo => ∃ u0 w0_0 w0_1 : Value, v = .tuple #[u0, .int .i64 y.2.1] ∧ Γr = [] ∧ Ωr = [(true, (.slice 55 Event_.rep u0 y.1))] ∧ Ωo = [(false, .box 184 (monitor_Monitor.repW w0_0 w0_1) v0 y.2.2), (false, (.slice 188 Filter_.rep w0_0 y.2.2.filters)), (false, (.slice 49 (Rep.int .u16) w0_1 y.2.2.states))]) := by
 refine Spec.of (L := [(0, v0), (1, v1), (2, v2), (3, .bool a3)]) Tryz.func20 rfl ⟨rfl, rfl, rfl, rfl, trivial⟩ rfl (fun e h => ?_)
 unfold monitor_Monitor_Scan at hF
 refine sr ?_
 refine asg rfl rfl rfl ?_
 refine asg rfl rfl rfl ?_
 refine nil ?_
 refine Run.seq ?_
 refine sr ?_
 refine mv rfl rfl rfl ?_
 refine mv rfl rfl rfl ?_
 obtain ⟨y1, e1, hF⟩ := bindP_use hF
 have h1 := h.front (.cons .z (.cons .z (.cons .z .nil)))
 refine op (OpS.callO h1 Tryz.func77 rfl rfl rfl rfl (vs := [v0, v1]) rfl (monitor_Monitor_check_ok e1) rfl (.cons (f := false) (V.at .z) .nil) ?_)
 rintro _ w1 _ _ _ ⟨rfl, rfl, rfl, rfl⟩ h2
 have h3 := h2
 simp only [ca, na] at h3
 refine asg rfl rfl rfl ?_
 refine nil ?_
 refine sr ?_
 refine mv rfl rfl rfl ?_
 refine bin rfl rfl rfl rfl rfl ?_
 refine nil ?_
 refine Run.ite rfl hF (fun e2 hF => ?_) (fun e2 hF => ?_)
 ·
  cases hF
 ·
  refine Run.skip ?_
  refine sr ?_
  refine asg rfl rfl rfl ?_
  refine nil ?_
  refine Run.seq ?_
  refine sr ?_
  refine mv rfl rfl rfl ?_
  refine op (OpS.nchk h3 .z rfl rfl rfl ?_)
  refine op (OpS.fbox (o3 := 0) h3 .z PA.z fa184_0 rfl rfl rfl rfl ?_)
  refine op (OpS.loadB (fr := (Rep.slice Sensor_.rep)) h3 .z PA.a (GetS.ok (GetS.iso _ (GetS.here GetS.id))) (Ty.like ty27 (by rfl) (by rfl)) rfl rfl rfl (fun u1 h4 => ?_))
  refine op (OpS.len h4 Tryz.underlying27 rfl rfl rfl (V.at .z) ?_)
  refine mv rfl rfl rfl ?_
  refine nil ?_
  refine Run.block ?_
  have h5 := St.nil 55 Event_.rep h4
  refine Run.slim [(0, v0), (1, v1), (2, v2), (3, .bool a3), (11, (.slice none 0 0)), (29, u1), (30, .int .i64 (a0.sensors.length : Int)), (31, .int .i64 0)] ⟨rfl, rfl, rfl, rfl, rfl, rfl, rfl, rfl, trivial⟩ ?_
  refine Run.loopP (σ := (Int × monitor_Monitor × (List Event_))) (fun s_ L_ w_ => ∃ u0_ u1_ u2_ : Value, L_ = [(0, v0), (1, v1), (2, v2), (3, .bool a3), (11, u0_), (29, u1), (30, .int .i64 (a0.sensors.length : Int)), (31, .int .i64 s_.1)] ∧ St e w_ [(false, .val (Rep.slice Sample_.rep) v1 a1), (false, .val (Rep.slice Entity_.rep) v2 a2), (false, .val (Rep.slice Sensor_.rep) u1 a0.sensors), (false, .ptr (Rep.arr 6 (Rep.int .u8)) (.pointer (some ⟨0, 0, none⟩)) ([0, 2, 4, 7, 9, 11]))] [(false, .box 184 (monitor_Monitor.repW u1_ u2_) v0 s_.2.1), (true, .slice 55 Event_.rep u0_ s_.2.2), (false, .slice 188 Filter_.rep u1_ s_.2.1.filters), (false, .slice 49 (Rep.int .u16) u2_ s_.2.1.states)]) hF ⟨(.slice none 0 0), v0_0, v0_1, rfl, (h5.facts (.atm (.s .z) (.atm (.s (.s .z)) (.atm .z (.atm (.s (.s (.s .z))) .nil))))).picks (.cons (.s .z) (.cons .z (.cons .z (.cons .z .nil))))⟩ (fun k1 hk1 s1 _ w2 hI hF => ?_)
  obtain ⟨u2, u3, u4, rfl, h6⟩ := hI
  refine sr ?_
  refine bin rfl rfl rfl rfl rfl ?_
  refine nil ?_
  refine Run.seq ?_
  refine Run.ite rfl hF (fun e3 hF => ?_) (fun e3 hF => ?_)
  ·
   refine Run.skip ?_
   refine Run.seq ?_
   refine Run.block ?_
   refine sr ?_
   refine mv rfl rfl rfl ?_
   obtain ⟨x1, e4, hF⟩ := bindP_use hF
   refine op (OpS.iptr h6 Tryz.underlying27 ty74 rfl rfl rfl rfl (V.at (.s (.s .z))) e4 (fun u5 h7 => ?_))
   refine op (OpS.load h7 ty74 rfl rfl rfl .z (fun u6 h8 => ?_))
   refine op (OpS.alloc h8 ti74 Sensor_.zr rfl rfl (fun u7 w3 h9 => ?_))
   refine asg rfl rfl rfl ?_
   have h10 := (h9.pick .z).weak
   refine op (OpS.storeB (f' := false) h10 .z PA.z Put.id ty74 rfl rfl rfl (V.at .z) (.inr rfl) (fun w4 h11 => ?_))
   refine nil ?_
   refine Run.seq ?_
   refine Run.seq ?_
   obtain ⟨y2, e5, hF⟩ := bindP_use hF
   refine Run.drawV (Ωs := [(true, .slice 55 Event_.rep u2 s1.2.2), (false, .slice 188 Filter_.rep u3 s1.2.1.filters), (false, .slice 49 (Rep.int .u16) u4 s1.2.1.states)]) [.k 37 v0, .kr 38 v0 [1], .kr 39 (padd v0 1) [1], .fr 40 (fun u_ => [(false, .val (Rep.slice Association_.rep) u_ s1.2.1.l)]) [1], .k 41 v2, .kr 42 (padd u7 4) [0], .fr 43 (fun u_ => [(false, .val Entity_.rep u_ x1.Entity)]) [0], .k 44 (.tuple #[.bool y2.1, .int .i64 y2.2]), .k 36 (.tuple #[.bool y2.1, .int .i64 y2.2]), .k 45 (.bool y2.1), .k 46 (.int .i64 y2.2), .k 14 (.bool y2.1)] [[], [0], [1], [2], [], [], [5], [3, 4, 6], [7], [8], [8], [9]] [[(false, .box 74 Sensor_.rep u7 x1)], [(false, .box 184 (monitor_Monitor.repW u3 u4) v0 s1.2.1)]] [0, 1, 2, 3, 4, 5, 6, 7, 8, 9, 10, 11, 12, 13] Try_mixed rfl rfl rfl h11 (.cons ?_ (.cons ?_ (.cons ?_ (.cons ?_ (.cons ?_ (.cons ?_ (.cons ?_ (.cons ?_ (.cons ?_ (.cons ?_ (.cons ?_ (.cons ?_ .nil)))))))))))) (fun q1 w hq1 h => ?_)
   ·intro q1 w Γx Ωx h
    refine OpS.mv rfl rfl rfl ?_
    exact ⟨undef, rfl, trivial, h⟩
   ·intro q1 w Γx Ωx h
    refine OpS.nchk h .z rfl rfl rfl ?_
    exact ⟨undef, rfl, trivial, h⟩
   ·intro q1 w Γx Ωx h
    refine OpS.fbox (o3 := 1) h .z PA.z fa184_1 rfl rfl rfl rfl ?_
    exact ⟨undef, rfl, trivial, h⟩
   ·intro q1 w Γx Ωx h
    refine OpS.loadB (fr := (Rep.slice Association_.rep)) h .z PA.a (GetS.ok (GetS.iso _ (GetS.there (GetS.here GetS.id)))) (Ty.like ty76 (by rfl) (by rfl)) rfl rfl rfl (fun u h16 => ?_)
    exact ⟨u, rfl, trivial, h16⟩
   ·intro q1 w Γx Ωx h
    refine OpS.mv rfl rfl rfl ?_
    exact ⟨undef, rfl, trivial, h⟩
   ·intro q1 w Γx Ωx h
    refine OpS.fbox (o3 := 4) h .z PA.z fa74_4 rfl rfl rfl rfl ?_
    exact ⟨undef, rfl, trivial, h⟩
   ·intro q1 w Γx Ωx h
    refine OpS.loadB h .z PA.a (Get.fld Sensor_.f4) ty66 rfl rfl rfl (fun u h17 => ?_)
    exact ⟨u, rfl, trivial, h17⟩
   ·intro q1 w Γx Ωx h
    refine OpS.callP h Tryz.func78 rfl rfl rfl rfl (vs := [(q1 3), v2, (q1 6)]) rfl (entity_Present_ok e5) (.cons (f := false) (V.at .z) (.cons (f := false) (V.at (.s (.s (.s (.s (.s .z)))))) (.cons (f := false) (V.at (.s .z)) .nil))) ?_
    rintro _ w6 _ _ _ ⟨rfl, rfl, rfl, rfl⟩ h18
    have h19 := h18 rfl rfl
    simp only [ca, na] at h19
    exact ⟨undef, rfl, trivial, h19⟩
   ·intro q1 w Γx Ωx h
    refine OpS.mv rfl rfl rfl ?_
    exact ⟨undef, rfl, trivial, h⟩
   ·intro q1 w Γx Ωx h
    refine OpS.ext rfl rfl rfl rfl ?_
    exact ⟨undef, rfl, trivial, h⟩
   ·intro q1 w Γx Ωx h
    refine OpS.ext rfl rfl rfl rfl ?_
    exact ⟨undef, rfl, trivial, h⟩
   ·intro q1 w Γx Ωx h
    refine OpS.as rfl rfl rfl ?_
    exact ⟨undef, rfl, trivial, h⟩
   have h20 := h
   refine asg rfl rfl rfl ?_
   refine nil ?_
   refine sr ?_
   refine mv rfl rfl rfl ?_
   refine op (OpS.not rfl rfl rfl ?_)
   refine mv rfl rfl rfl ?_
   refine RunL.caseb hF (fun e6 hF => ?_) (fun e6 hF => ?_)
   ·
    cases hF
   ·
    refine op (OpS.fbox (o3 := 26) h20 .z PA.z fa74_13 rfl rfl rfl rfl ?_)
    refine op (OpS.loadBb h20 .z PA.a (Get.fld Sensor_.f13) ty4 rfl rfl rfl ?_)
    refine mv rfl rfl rfl ?_
    refine RunL.caseb hF (fun e7 hF => ?_) (fun e7 hF => ?_)
    ·
     cases hF
    ·
     refine pass rfl rfl rfl ?_
     refine pass rfl rfl rfl ?_
     refine pick rfl rfl rfl rfl ?_
     refine pick rfl rfl rfl rfl ?_
     refine nil ?_
     refine Run.condF rfl ?_
     refine Run.skip ?_
     refine sr ?_
     refine op (OpS.fbox (o3 := 0) h20 .z PA.z fa74_0 rfl rfl rfl rfl ?_)
     refine op (OpS.loadBi h20 .z PA.a (Get.fld Sensor_.f0) ty5 rfl rfl rfl ?_)
     refine op (OpS.build (f := true) (x' := (⟨x1.Number, false, 0, 0⟩ : Sample_)) h20 pl93 ti93 Sample_.zr rfl rfl rfl (.cons rfl Sample_.f0 rfl V.int .nil) (fun u8 h21 => ?_))
     refine op (OpS.alloc h21 ti93 Sample_.zr rfl rfl (fun u9 w7 h22 => ?_))
     refine op (OpS.storeB (f' := true) h22 .z PA.z Put.id ty93 rfl rfl rfl (V.at .z) (.inl rfl) (fun w8 h23 => ?_))
     refine nil ?_
     refine Run.seq ?_
     refine sr ?_
     refine mv rfl rfl rfl ?_
     refine op (OpS.mkf (fl := []) (cl := [u7]) rfl rfl rfl rfl ?_)
     obtain ⟨y3, e8, hF⟩ := bindP_use hF
     refine op (OpS.callP h23 Tryz.func79 rfl rfl rfl rfl (vs := [v1, .func (.func 80) #[] #[u7]]) rfl (slices_IndexFunc_api_Sample_api_Sample_monitor_Monitor_Scan_1_ok e8) (.cons (f := false) (V.at (.s (.s (.s (.s (.s .z)))))) (.box (.s .z) .nil)) ?_)
     rintro _ w9 _ _ _ ⟨rfl, rfl, rfl, rfl⟩ h24
     have h25 := h24 rfl rfl
     simp only [ca, na] at h25
     refine asg rfl rfl rfl ?_
     refine nil ?_
     refine Run.slim [(17, .int .i64 y3), (16, u9), (12, .int .i64 s1.1), (13, u7), (0, v0), (1, v1), (2, v2), (3, .bool a3), (11, u2), (29, u1), (30, .int .i64 (a0.sensors.length : Int)), (31, .int .i64 s1.1)] ⟨rfl, rfl, rfl, rfl, rfl, rfl, rfl, rfl, rfl, rfl, rfl, rfl, trivial⟩ ?_
     refine sr ?_
     refine mv rfl rfl rfl ?_
     refine bin rfl rfl rfl rfl rfl ?_
     refine nil ?_
     refine Run.ite rfl hF (fun e9 hF => ?_) (fun e9 hF => ?_)
     ·
      refine Run.reg ?_
      refine mv rfl rfl rfl ?_
      refine mv rfl rfl rfl ?_
      obtain ⟨x2, e10, hF⟩ := bindP_use hF
      refine op (OpS.iptr h25 Tryz.underlying41 ty93 rfl rfl rfl rfl (V.at (.s (.s (.s (.s (.s .z)))))) e10 (fun u10 h26 => ?_))
      refine op (OpS.load h26 ty93 rfl rfl rfl .z (fun u11 h27 => ?_))
      have h28 := (h27.pick .z).weak
      refine op (OpS.storeB (f' := false) h28 .z PA.z Put.id ty93 rfl rfl rfl (V.at .z) (.inr rfl) (fun w10 h29 => ?_))
      refine nil ?_
      refine sr ?_
      refine mv rfl rfl rfl ?_
      refine mv rfl rfl rfl ?_
      refine op (OpS.loadB h29 .z PA.z Get.id ty93 rfl rfl rfl (fun u12 h30 => ?_))
      obtain ⟨y4, e11, hF⟩ := bindP_use hF
      have h31 := h30.front (.cons (.s (.s .z)) (.cons (.s (.s (.s .z))) (.cons (.s (.s (.s .z))) .nil)))
      refine op (OpS.callO h31 Tryz.func81 rfl rfl rfl rfl (vs := [v0, .int .i64 s1.1, u12]) rfl (monitor_Monitor_step_ok e11) rfl (.cons (f := false) (V.at .z) .nil) ?_)
      rintro _ w11 _ _ _ ⟨u13, u14, u15, rfl, rfl, rfl, rfl⟩ h32
      have h33 := h32
      simp only [ca, na] at h33
      refine mv rfl rfl rfl ?_
      refine op (OpS.ext rfl rfl rfl rfl ?_)
      refine op (OpS.ext rfl rfl rfl rfl ?_)
      refine asg rfl rfl rfl ?_
      refine asg rfl rfl rfl ?_
      refine nil ?_
      refine Run.reg ?_
      refine mv rfl rfl rfl ?_
      refine op (OpS.loadB h33 (.s (.s (.s (.s .z)))) PA.z Get.id ty74 rfl rfl rfl (fun u16 h34 => ?_))
      refine mv rfl rfl rfl ?_
      refine mv rfl rfl rfl ?_
      obtain ⟨y5, e12, hF⟩ := bindP_use hF
      refine op (OpS.callP h34 Tryz.func82 rfl rfl rfl rfl (vs := [u16, u13, .int .u8 y4.2.1]) rfl (monitor_events_ok e12) (.cons (f := false) (V.at .z) (.cons (f := true) (V.at (.s .z)) (.ptr (.s (.s (.s (.s (.s (.s (.s (.s (.s (.s (.s (.s (.s .z))))))))))))) .nil))) ?_)
      rintro u17 w12 _ _ _ ⟨_, rfl, rfl, rfl, rfl⟩ h35
      have h36 := h35 rfl rfl
      simp only [ca, na] at h36
      have h37 := (h36.pick .z).freeze
      obtain ⟨x3, e13, hF⟩ := bindP_use hF
      refine op (OpS.app (f' := true) h37 (.s (.s (.s (.s (.s .z))))) Tryz.underlying40 ti55 rfl rfl rfl rfl rfl rfl rfl (V.at .z) (.inr Event_.pure) e13 (fun u18 w13 h38 => ?_))
      refine asg rfl rfl rfl ?_
      refine nil ?_
      refine Run.endBlock ?_
      refine Run.reg ?_
      refine bin rfl rfl rfl rfl rfl ?_
      refine mv rfl rfl rfl ?_
      refine nil ?_
      refine Run.slim [(0, v0), (1, v1), (2, v2), (3, .bool a3), (11, u18), (29, u1), (30, .int .i64 (a0.sensors.length : Int)), (31, .int .i64 (IntKind.i64.wrap (s1.1 + 1)))] ⟨rfl, rfl, rfl, rfl, rfl, rfl, rfl, rfl, trivial⟩ ?_
      exact hk1 ((IntKind.i64.wrap (s1.1 + 1)), y4.2.2, x3) _ _ ⟨u18, u14, u15, rfl, (h38.facts (.atm (.s (.s (.s (.s (.s (.s (.s (.s (.s (.s (.s .z))))))))))) (.atm (.s (.s (.s (.s (.s (.s (.s (.s (.s (.s (.s (.s .z)))))))))))) (.atm (.s (.s (.s (.s (.s (.s (.s (.s (.s (.s (.s (.s (.s .z))))))))))))) (.atm (.s (.s (.s (.s (.s (.s (.s (.s (.s (.s (.s (.s (.s (.s .z)))))))))))))) .nil))))).picks (.cons (.s .z) (.cons .z (.cons .z (.cons .z .nil))))⟩ hF
     ·
      cases hF
  ·
   refine Run.exit rfl ?_
   refine sr ?_
   refine mv rfl rfl rfl ?_
   refine asg rfl rfl rfl ?_
   refine asg rfl rfl rfl ?_
   refine nil ?_
   refine Run.retP rfl (.tmp rfl (.tmp rfl .nil)) ?_
   cases hF
   exact Post.mk' ⟨u2, u3, u4, rfl, rfl, rfl, rfl⟩ (h6.picks (.cons (.s .z) (.cons .z (.cons .z (.cons .z .nil))))) .nil
theorem flash_Device_Down_ok {fuel : Nat} {a0 : flash_Device} {y : Bool} (hF : flash_Device_Down fuel a0 = some y) {w : World} {v0 v0_0 v0_1 : Value} :
  Spec Tryz.prog 155 [v0].toArray w [] [(false, .box 166 (flash_Device.repW v0_0 v0_1) v0 a0), (false, .slice 5 (Rep.int .u8) v0_0 a0.bytes), (false, .slice 3 (Rep.int .i64) v0_1 a0.wear)] (fun v Γr Ωr Ωo => v = .bool y ∧ Γr = [] ∧ Ωr = [] ∧ Ωo = [(false, .box 166 (flash_Device.repW v0_0 v0_1) v0 a0), (false, (.slice 5 (Rep.int .u8) v0_0 a0.bytes)), (false, (.slice 3 (Rep.int .i64) v0_1 a0.wear))]) := by
 refine Spec.of (L := [(0, v0)]) Tryz.func155 rfl ⟨rfl, trivial⟩ rfl (fun e h => ?_)
 unfold flash_Device_Down at hF
 refine sr ?_
 refine asg rfl rfl rfl ?_
 refine nil ?_
 refine sr ?_
 refine mv rfl rfl rfl ?_
 refine op (OpS.nchk h .z rfl rfl rfl ?_)
 refine op (OpS.fbox (o3 := 6) h .z PA.z fa166_6 rfl rfl rfl rfl ?_)
 refine op (OpS.loadBb h .z PA.a (GetS.ok (GetS.iso _ (GetS.there (GetS.there (GetS.there (GetS.there (GetS.there (GetS.there (GetS.here GetS.id))))))))) ty4 rfl rfl rfl ?_)
 refine asg rfl rfl rfl ?_
 refine nil ?_
 refine Run.retP rfl (.tmp rfl .nil) ?_
 cases hF
 exact Post.mk' ⟨rfl, rfl, rfl, rfl⟩ (h.picks (.cons .z (.cons .z (.cons .z .nil)))) .nil
theorem eventlog_Log_down_ok {fuel : Nat} {a0 : eventlog_Log} {ad : flash_Device} {y : Bool × eventlog_Log × flash_Device} (hF : eventlog_Log_down fuel a0 ad = some y) {w : World} {v0 v0_0 qd v0_1 vd_0 vd_1 : Value} :
  Spec Tryz.prog 83 [v0].toArray w [] [(false, .box 169 (eventlog_Log.repW v0_0 v0_1) v0 a0), (false, .lnk qd v0_0 a0.d), (false, .slice 200 eventlog_record.rep v0_1 a0.records), (false, .box 166 (flash_Device.repW vd_0 vd_1) qd ad), (false, .slice 5 (Rep.int .u8) vd_0 ad.bytes), (false, .slice 3 (Rep.int .i64) vd_1 ad.wear)] (fun v Γr Ωr Ωo => ∃ w0_0 w0_1 wd_0 wd_1 : Value, v = .bool y.1 ∧ Γr = [] ∧ Ωr = [] ∧ Ωo = [(false, .box 169 (eventlog_Log.repW w0_0 w0_1) v0 y.2.1), (false, .lnk qd w0_0 y.2.1.d), (false, (.slice 200 eventlog_record.rep w0_1 y.2.1.records)), (false, .box 166 (flash_Device.repW wd_0 wd_1) qd y.2.2), (false, (.slice 5 (Rep.int .u8) wd_0 y.2.2.bytes)), (false, (.slice 3 (Rep.int .i64) wd_1 y.2.2.wear))]) := by
 refine Spec.of (L := [(0, v0)]) Tryz.func83 rfl ⟨rfl, trivial⟩ rfl (fun e h => ?_)
 unfold eventlog_Log_down at hF
 refine sr ?_
 refine asg rfl rfl rfl ?_
 refine nil ?_
 refine Run.seq ?_
 refine sr ?_
 refine mv rfl rfl rfl ?_
 refine op (OpS.nchk h .z rfl rfl rfl ?_)
 refine op (OpS.fbox (o3 := 12) h .z PA.z fa169_12 rfl rfl rfl rfl ?_)
 refine op (OpS.loadBb h .z PA.a (GetS.ok (GetS.iso _ (GetS.there (GetS.there (GetS.there (GetS.there (GetS.there (GetS.there (GetS.there (GetS.there (GetS.there (GetS.there (GetS.there (GetS.there (GetS.here GetS.id))))))))))))))) ty4 rfl rfl rfl ?_)
 refine mv rfl rfl rfl ?_
 refine RunL.caseb hF (fun e1 hF => ?_) (fun e1 hF => ?_)
 ·
  cases hF
 ·
  refine mv rfl rfl rfl ?_
  refine op (OpS.nchk h .z rfl rfl rfl ?_)
  refine op (OpS.fbox (o3 := 0) h .z PA.z fa169_0 rfl rfl rfl rfl ?_)
  obtain ⟨e2, hF⟩ := chk_use hF
  obtain ⟨e3, h1⟩ := St.attach (h.pick (.s .z)) e2
  subst e3
  refine op (OpS.loadR h1 (.s .z) PA.a (GetS.ok (GetS.iso _ (GetS.here GetS.id))) ty31 rfl rfl rfl rfl rfl ?_)
  obtain ⟨y1, e4, hF⟩ := bindP_use hF
  have h2 := h1.front (.cons (.s (.s (.s .z))) (.cons (.s (.s (.s .z))) (.cons (.s (.s (.s .z))) .nil)))
  refine op (OpS.callO h2 Tryz.func155 rfl rfl rfl rfl (vs := [qd]) rfl (flash_Device_Down_ok e4) rfl .nil ?_)
  rintro _ w1 _ _ _ ⟨rfl, rfl, rfl, rfl⟩ h3
  have h4 := h3
  simp only [ca, na] at h4
  refine pick rfl rfl rfl rfl ?_
  refine nil ?_
  refine Run.ite rfl hF (fun e5 hF => ?_) (fun e5 hF => ?_)
  ·
   cases hF
  ·
   refine Run.skip ?_
   refine sr ?_
   refine mv rfl rfl rfl ?_
   refine op (OpS.nchk h4 (.s (.s (.s (.s .z)))) rfl rfl rfl ?_)
   refine op (OpS.fbox (o3 := 12) h4 (.s (.s (.s (.s .z)))) PA.z fa169_12 rfl rfl rfl rfl ?_)
   refine op (OpS.loadBb h4 (.s (.s (.s (.s .z)))) PA.a (GetS.ok (GetS.iso _ (GetS.there (GetS.there (GetS.there (GetS.there (GetS.there (GetS.there (GetS.there (GetS.there (GetS.there (GetS.there (GetS.there (GetS.there (GetS.here GetS.id))))))))))))))) ty4 rfl rfl rfl ?_)
   refine asg rfl rfl rfl ?_
   refine nil ?_
   refine Run.retP rfl (.tmp rfl .nil) ?_
   cases hF
   exact Post.mk' ⟨qd, v0_1, vd_0, vd_1, rfl, rfl, rfl, rfl⟩ (h4.picks (.cons (.s (.s (.s (.s .z)))) (.cons (.s (.s (.s .z))) (.cons (.s (.s (.s .z))) (.cons .z (.cons .z (.cons .z .nil))))))) .nil
theorem flash_Device_step_ok {fuel : Nat} {a0 : flash_Device} {y : Bool × flash_Device} (hF : flash_Device_step fuel a0 = some y) {w : World} {v0 v0_0 v0_1 : Value} :
  Spec Tryz.prog 157 [v0].toArray w [] [(false, .box 166 (flash_Device.repW v0_0 v0_1) v0 a0), (false, .slice 5 (Rep.int .u8) v0_0 a0.bytes), (false, .slice 3 (Rep.int .i64) v0_1 a0.wear)] (fun v Γr Ωr Ωo => ∃ w0_0 w0_1 : Value, v = .bool y.1 ∧ Γr = [] ∧ Ωr = [] ∧ Ωo = [(false, .box 166 (flash_Device.repW w0_0 w0_1) v0 y.2), (false, (.slice 5 (Rep.int .u8) w0_0 y.2.bytes)), (false, (.slice 3 (Rep.int .i64) w0_1 y.2.wear))]) := by
 refine Spec.of (L := [(0, v0)]) Tryz.func157 rfl ⟨rfl, trivial⟩ rfl (fun e h => ?_)
 unfold flash_Device_step at hF
 refine sr ?_
 refine asg rfl rfl rfl ?_
 refine nil ?_
 refine sr ?_
 refine mv rfl rfl rfl ?_
 refine op (OpS.nchk h .z rfl rfl rfl ?_)
 refine op (OpS.fbox (o3 := 3) h .z PA.z fa166_3 rfl rfl rfl rfl ?_)
 refine op (OpS.loadBi h .z PA.a (GetS.ok (GetS.iso _ (GetS.there (GetS.there (GetS.there (GetS.here GetS.id)))))) ty3 rfl rfl rfl ?_)
 refine bin rfl rfl rfl rfl rfl ?_
 refine op (OpS.nchk h .z rfl rfl rfl ?_)
 refine op (OpS.fbox (o3 := 3) h .z PA.z fa166_3 rfl rfl rfl rfl ?_)
 obtain ⟨d1, e1, hF⟩ := letP_use hF
 refine op (OpS.storeC (f' := true) (fr := (Rep.int .i64)) (r' := (flash_Device.repW v0_0 v0_1)) (x' := d1) h .z PA.a (Chg.of (x' := { a0 with steps := (IntKind.i64.wrap (a0.steps + 1)) }) (Chg.iso _ (Chg.there (Chg.there (Chg.there (Chg.here (Chg.id (by rfl))))))) e1) ty3 rfl rfl rfl V.int (.inr rfl) (fun w1 h1 => ?_))
 refine nil ?_
 refine Run.seq ?_
 refine sr ?_
 refine mv rfl rfl rfl ?_
 refine op (OpS.nchk h1 .z rfl rfl rfl ?_)
 refine op (OpS.fbox (o3 := 4) h1 .z PA.z fa166_4 rfl rfl rfl rfl ?_)
 refine op (OpS.loadBi h1 .z PA.a (GetS.ok (GetS.iso _ (GetS.there (GetS.there (GetS.there (GetS.there (GetS.here GetS.id))))))) ty3 rfl rfl rfl ?_)
 refine bin rfl rfl rfl rfl rfl ?_
 refine nil ?_
 refine Run.ite rfl hF (fun e2 hF => ?_) (fun e2 hF => ?_)
 ·
  cases hF
 ·
  refine Run.skip ?_
  refine sr ?_
  refine mv rfl rfl rfl ?_
  refine op (OpS.nchk h1 .z rfl rfl rfl ?_)
  refine op (OpS.fbox (o3 := 6) h1 .z PA.z fa166_6 rfl rfl rfl rfl ?_)
  refine op (OpS.loadBb h1 .z PA.a (GetS.ok (GetS.iso _ (GetS.there (GetS.there (GetS.there (GetS.there (GetS.there (GetS.there (GetS.here GetS.id))))))))) ty4 rfl rfl rfl ?_)
  refine asg rfl rfl rfl ?_
  refine nil ?_
  have h2 := St.boxJ (r' := (flash_Device.repW v0_0 v0_1)) (x' := { { d1 with bytes := a0.bytes } with wear := a0.wear }) (h1.pick .z) (fun _ _ hs_ => (Jn.iso _ (Jn.prod Jn.refl (Jn.prod Jn.same (Jn.prod Jn.same Jn.refl)))))
  refine Run.retP rfl (.tmp rfl .nil) ?_
  cases hF
  exact Post.mk' ⟨v0_0, v0_1, rfl, rfl, rfl, rfl⟩ (h2.picks (.cons .z (.cons .z (.cons .z .nil)))) .nil
theorem eventlog_write4_ok {fuel : Nat} {a0 : Int} {y : (List Int)} (hF : eventlog_write4 fuel a0 = some y) {w : World} :
  Spec Tryz.prog 208 [.int .i64 a0].toArray w [] [] (fun v Γr Ωr Ωo => ∃ u0 : Value, v = u0 ∧ Γr = [] ∧ Ωr = [(true, (.slice 5 (Rep.int .u8) u0 y))] ∧ Ωo = []) := by
 refine Spec.of (L := [(0, .int .i64 a0)]) Tryz.func208 rfl ⟨rfl, trivial⟩ rfl (fun e h => ?_)
 unfold eventlog_write4 at hF
 refine sr ?_
 refine asg rfl rfl rfl ?_
 refine nil ?_
 refine sr ?_
 refine mv rfl rfl rfl ?_
 refine op (OpS.conv Tryz.underlying3 Tryz.underlying5 rfl rfl rfl ?_)
 refine mv rfl rfl rfl ?_
 refine op (OpS.shr rfl rfl rfl rfl (by decide) ?_)
 refine op (OpS.conv Tryz.underlying3 Tryz.underlying5 rfl rfl rfl ?_)
 refine mv rfl rfl rfl ?_
 refine op (OpS.shr rfl rfl rfl rfl (by decide) ?_)
 refine op (OpS.conv Tryz.underlying3 Tryz.underlying5 rfl rfl rfl ?_)
 refine mv rfl rfl rfl ?_
 refine op (OpS.shr rfl rfl rfl rfl (by decide) ?_)
 refine op (OpS.conv Tryz.underlying3 Tryz.underlying5 rfl rfl rfl ?_)
 refine op (OpS.litO (r := (Rep.int .u8)) (f := true) h Tryz.underlying24 ti5 rfl rfl rfl rfl rfl (.cons rfl V.int (.cons rfl V.int (.cons rfl V.int (.cons rfl V.int .nil)))) rfl rfl (fun u1 w1 h1 => ?_))
 refine asg rfl rfl rfl ?_
 refine nil ?_
 refine Run.retP rfl (.tmp rfl .nil) ?_
 cases hF
 exact Post.mk' ⟨u1, rfl, rfl, rfl, rfl⟩ (h1.picks (.cons .z .nil)) .nil
theorem flash_Device_Program_ok {fuel : Nat} {a0 : flash_Device} {a1 : Int} {a2 : List Int} {y : Int × flash_Device} (hF : flash_Device_Program fuel a0 a1 a2 = some y) {w : World} {v0 v0_0 v0_1 v2 : Value} :
  Spec Tryz.prog 88 [v0, .int .i64 a1, v2].toArray w [(false, .val (Rep.slice (Rep.int .u8)) v2 a2)] [(false, .box 166 (flash_Device.repW v0_0 v0_1) v0 a0), (false, .slice 5 (Rep.int .u8) v0_0 a0.bytes), (false, .slice 3 (Rep.int .i64) v0_1 a0.wear)] (fun v Γr Ωr Ωo => ∃ w0_0 w0_1 : Value, v = .int .i64 y.1 ∧ Γr = [] ∧ Ωr = [] ∧ Ωo = [(false, .box 166 (flash_Device.repW w0_0 w0_1) v0 y.2), (false, (.slice 5 (Rep.int .u8) w0_0 y.2.bytes)), (false, (.slice 3 (Rep.int .i64) w0_1 y.2.wear))]) := by
 refine Spec.of (L := [(0, v0), (1, .int .i64 a1), (2, v2)]) Tryz.func88 rfl ⟨rfl, rfl, rfl, trivial⟩ rfl (fun e h => ?_)
 unfold flash_Device_Program at hF
 refine sr ?_
 refine asg rfl rfl rfl ?_
 refine nil ?_
 refine Run.seq ?_
 refine Run.block ?_
 refine sr ?_
 refine mv rfl rfl rfl ?_
 refine op (OpS.nchk h .z rfl rfl rfl ?_)
 refine op (OpS.fbox (o3 := 6) h .z PA.z fa166_6 rfl rfl rfl rfl ?_)
 refine op (OpS.loadBb h .z PA.a (GetS.ok (GetS.iso _ (GetS.there (GetS.there (GetS.there (GetS.there (GetS.there (GetS.there (GetS.here GetS.id))))))))) ty4 rfl rfl rfl ?_)
 refine asg rfl rfl rfl ?_
 refine nil ?_
 refine Run.ite rfl hF (fun e1 hF => ?_) (fun e1 hF => ?_)
 ·
  cases hF
 ·
  refine sr ?_
  refine mv rfl rfl rfl ?_
  refine mv rfl rfl rfl ?_
  refine mv rfl rfl rfl ?_
  refine op (OpS.len h Tryz.underlying24 rfl rfl rfl (V.at .z) ?_)
  obtain ⟨y1, e2, hF⟩ := bindP_use hF
  have h1 := h.front (.cons .z (.cons .z (.cons .z .nil)))
  refine op (OpS.callO h1 Tryz.func144 rfl rfl rfl rfl (vs := [v0, .int .i64 a1, .int .i64 (a2.length : Int)]) rfl (flash_Device_within_ok e2) rfl .nil ?_)
  rintro _ w1 _ _ _ ⟨rfl, rfl, rfl, rfl⟩ h2
  have h3 := h2
  simp only [ca, na] at h3
  refine op (OpS.not rfl rfl rfl ?_)
  refine asg rfl rfl rfl ?_
  obtain ⟨x1, e3, hF⟩ := letP_use hF
  refine RunL.nameb e3 ?_
  refine nil ?_
  refine Run.ite rfl hF (fun e4 hF => ?_) (fun e4 hF => ?_)
  ·
   cases hF
  ·
   refine Run.skip ?_
   refine Run.endBlock ?_
   refine Run.seq ?_
   refine sr ?_
   refine mv rfl rfl rfl ?_
   refine op (OpS.len h3 Tryz.underlying24 rfl rfl rfl (V.at .z) ?_)
   refine mv rfl rfl rfl ?_
   refine nil ?_
   refine Run.block ?_
   refine Run.slim [(0, v0), (1, .int .i64 a1), (21, v2), (22, .int .i64 (a2.length : Int)), (23, .int .i64 0)] ⟨rfl, rfl, rfl, rfl, rfl, trivial⟩ ?_
   refine Run.loopP (σ := (Int × flash_Device)) (fun s_ L_ w_ => ∃ u0_ u1_ : Value, L_ = [(0, v0), (1, .int .i64 a1), (21, v2), (22, .int .i64 (a2.length : Int)), (23, .int .i64 s_.1)] ∧ St e w_ [(false, .val (Rep.slice (Rep.int .u8)) v2 a2)] [(false, .box 166 (flash_Device.repW u0_ u1_) v0 s_.2), (false, .slice 5 (Rep.int .u8) u0_ s_.2.bytes), (false, .slice 3 (Rep.int .i64) u1_ s_.2.wear)]) hF ⟨v0_0, v0_1, rfl, (h3.facts (.atm .z .nil)).picks (.cons .z (.cons .z (.cons .z .nil)))⟩ (fun k1 hk1 s1 _ w2 hI hF => ?_)
   obtain ⟨u1, u2, rfl, h4⟩ := hI
   refine sr ?_
   refine bin rfl rfl rfl rfl rfl ?_
   refine nil ?_
   refine Run.seq ?_
   refine Run.ite rfl hF (fun e5 hF => ?_) (fun e5 hF => ?_)
   ·
    refine Run.skip ?_
    refine Run.seq ?_
    refine Run.block ?_
    refine sr ?_
    refine mv rfl rfl rfl ?_
    obtain ⟨x2, e6, hF⟩ := bindP_use hF
    refine op (OpS.iptr h4 Tryz.underlying24 ty5 rfl rfl rfl rfl (V.at .z) e6 (fun u3 h5 => ?_))
    refine op (OpS.loadi h5 ty5 rfl rfl rfl .z ?_)
    refine asg rfl rfl rfl ?_
    refine asg rfl rfl rfl ?_
    refine nil ?_
    refine Run.seq ?_
    refine sr ?_
    refine mv rfl rfl rfl ?_
    obtain ⟨y2, e7, hF⟩ := bindP_use hF
    have h6 := h5.front (.cons .z (.cons .z (.cons .z .nil)))
    refine op (OpS.callO h6 Tryz.func157 rfl rfl rfl rfl (vs := [v0]) rfl (flash_Device_step_ok e7) rfl .nil ?_)
    rintro _ w3 _ _ _ ⟨u4, u5, rfl, rfl, rfl, rfl⟩ h7
    have h8 := h7
    simp only [ca, na] at h8
    refine nil ?_
    refine Run.ite rfl hF (fun e8 hF => ?_) (fun e8 hF => ?_)
    ·
     cases hF
    ·
     refine Run.skip ?_
     refine Run.reg ?_
     refine mv rfl rfl rfl ?_
     refine op (OpS.nchk h8 .z rfl rfl rfl ?_)
     refine op (OpS.fbox (o3 := 1) h8 .z PA.z fa166_1 rfl rfl rfl rfl ?_)
     refine op (OpS.loadR h8 .z PA.a (GetS.ok (GetS.iso _ (GetS.there (GetS.here GetS.id)))) ty24 rfl rfl rfl rfl rfl ?_)
     refine mv rfl rfl rfl ?_
     refine mv rfl rfl rfl ?_
     refine bin rfl rfl rfl rfl rfl ?_
     obtain ⟨x3, e9, hF⟩ := bindP_use hF
     refine op (OpS.iown h8 (.s .z) Tryz.underlying24 ty5 rfl rfl rfl rfl e9 ?_)
     refine op (OpS.loadOi h8 (.s .z) (idx_ne e9) PA.a (Get.arr e9) ty5 rfl rfl rfl ?_)
     refine mv rfl rfl rfl ?_
     refine bin rfl rfl rfl rfl rfl ?_
     refine op (OpS.iown h8 (.s .z) Tryz.underlying24 ty5 rfl rfl rfl rfl e9 ?_)
     obtain ⟨d1, e10, hF⟩ := letP_use hF
     refine op (OpS.storeO (f' := true) h8 (.s .z) (idx_ne e9) PA.a (Put.of (Put.arr e9) e10) ty5 rfl rfl rfl V.int (.inr rfl) (fun w4 h9 => ?_))
     refine nil ?_
     refine Run.endBlock ?_
     refine Run.reg ?_
     refine bin rfl rfl rfl rfl rfl ?_
     refine mv rfl rfl rfl ?_
     refine nil ?_
     have h10 := St.boxJ (r' := (flash_Device.repW u4 u5)) (x' := { { y2.2 with bytes := d1 } with wear := y2.2.wear }) (h9.pick (.s .z)) (fun _ _ hs_ => (Jn.iso _ (Jn.prod Jn.refl (Jn.prod Jn.same (Jn.prod Jn.same Jn.refl)))))
     have h11 := St.boxJ (r' := (flash_Device.repW u4 u5)) (x' := { { { { y2.2 with bytes := d1 } with wear := y2.2.wear } with bytes := d1 } with wear := y2.2.wear }) (h10.pick .z) (fun _ _ hs_ => (Jn.iso _ (Jn.prod Jn.refl (Jn.prod Jn.same (Jn.prod Jn.same Jn.refl)))))
     refine Run.slim [(0, v0), (1, .int .i64 a1), (21, v2), (22, .int .i64 (a2.length : Int)), (23, .int .i64 (IntKind.i64.wrap (s1.1 + 1)))] ⟨rfl, rfl, rfl, rfl, rfl, trivial⟩ ?_
     exact hk1 ((IntKind.i64.wrap (s1.1 + 1)), { { { { y2.2 with bytes := d1 } with wear := y2.2.wear } with bytes := d1 } with wear := y2.2.wear }) _ _ ⟨u4, u5, rfl, (h11.facts (.atm (.s .z) .nil)).picks (.cons .z (.cons .z (.cons .z .nil)))⟩ hF
   ·
    refine Run.exit rfl ?_
    refine sr ?_
    refine asg rfl rfl rfl ?_
    refine nil ?_
    refine Run.retP rfl (.tmp rfl .nil) ?_
    cases hF
    exact Post.mk' ⟨u1, u2, rfl, rfl, rfl, rfl⟩ (h4.picks (.cons .z (.cons .z (.cons .z .nil)))) .nil
theorem slices_IndexFunc_eventlog_record_eventlog_record_eventlog_Log_open_1_ok {fuel : Nat} {a0 : List eventlog_record} {a1_0 : Int} {y : Int} (hF : slices_IndexFunc_eventlog_record_eventlog_record_eventlog_Log_open_1 fuel a0 a1_0 = some y) {w : World} {v0 v1_0 : Value} :
  Spec Tryz.prog 241 [v0, .func (.func 210) #[] #[v1_0]].toArray w [(false, .val (Rep.slice eventlog_record.rep) v0 a0), (false, .ptr (Rep.int .i64) v1_0 a1_0)] [] (fun v Γr Ωr Ωo => v = .int .i64 y ∧ Γr = [] ∧ Ωr = [] ∧ Ωo = []) := by
 refine Spec.of (L := [(0, v0), (1, .func (.func 210) #[] #[v1_0])]) Tryz.func241 rfl ⟨rfl, rfl, trivial⟩ rfl (fun e h => ?_)
 unfold slices_IndexFunc_eventlog_record_eventlog_record_eventlog_Log_open_1 at hF
 refine sr ?_
 refine asg rfl rfl rfl ?_
 refine nil ?_
 refine Run.seq ?_
 refine sr ?_
 refine mv rfl rfl rfl ?_
 refine op (OpS.len h Tryz.underlying167 rfl rfl rfl (V.at .z) ?_)
 refine mv rfl rfl rfl ?_
 refine nil ?_
 refine Run.block ?_
 refine Run.slim [(0, v0), (1, .func (.func 210) #[] #[v1_0]), (7, .int .i64 (a0.length : Int)), (8, .int .i64 0)] ⟨rfl, rfl, rfl, rfl, trivial⟩ ?_
 refine Run.loopP (σ := Unit) (fun s_ L_ w_ => L_ = [(0, v0), (1, .func (.func 210) #[] #[v1_0]), (7, .int .i64 (a0.length : Int)), (8, .int .i64 0)] ∧ St e w_ [(false, .val (Rep.slice eventlog_record.rep) v0 a0), (false, .ptr (Rep.int .i64) v1_0 a1_0)] []) hF ⟨rfl, (h.facts (.atm .z (.atm (.s .z) .nil))).picks .nil⟩ (fun k1 hk1 s1 _ w1 hI hF => ?_)
 obtain ⟨rfl, h1⟩ := hI
 refine sr ?_
 refine bin rfl rfl rfl rfl rfl ?_
 refine nil ?_
 refine Run.seq ?_
 refine Run.ite rfl hF (fun e1 hF => ?_) (fun e1 hF => ?_)
 ·
  cases hF
 ·
  refine Run.exit rfl ?_
  refine sr ?_
  refine asg rfl rfl rfl ?_
  refine nil ?_
  refine Run.retP rfl (.tmp rfl .nil) ?_
  cases hF
  exact Post.mk' ⟨rfl, rfl, rfl, rfl⟩ (h1.picks .nil) .nil
theorem slices_DeleteFunc_eventlog_record_eventlog_record_eventlog_Log_open_1_ok {fuel : Nat} {a0 : List eventlog_record} {a1_0 : Int} {y : (List eventlog_record)} (hF : slices_DeleteFunc_eventlog_record_eventlog_record_eventlog_Log_open_1 fuel a0 a1_0 = some y) {w : World} {v0 v1_0 : Value} :
  Spec Tryz.prog 209 [v0, .func (.func 210) #[] #[v1_0]].toArray w [(false, .ptr (Rep.int .i64) v1_0 a1_0)] [(false, .slice 200 eventlog_record.rep v0 a0)] (fun v Γr Ωr Ωo => ∃ u0 : Value, v = u0 ∧ Γr = [] ∧ Ωr = [(false, (.slice 200 eventlog_record.rep u0 y))] ∧ Ωo = []) := by
 refine Spec.of (L := [(0, v0), (1, .func (.func 210) #[] #[v1_0])]) Tryz.func209 rfl ⟨rfl, rfl, trivial⟩ rfl (fun e h => ?_)
 unfold slices_DeleteFunc_eventlog_record_eventlog_record_eventlog_Log_open_1 at hF
 refine sr ?_
 refine asg rfl rfl rfl ?_
 refine nil ?_
 refine sr ?_
 refine mv rfl rfl rfl ?_
 refine mv rfl rfl rfl ?_
 obtain ⟨y1, e1, hF⟩ := bindP_use hF
 refine op (OpS.callP h Tryz.func241 rfl rfl rfl rfl (vs := [v0, .func (.func 210) #[] #[v1_0]]) rfl (slices_IndexFunc_eventlog_record_eventlog_record_eventlog_Log_open_1_ok e1) (.own .z (.ptr .z .nil)) ?_)
 rintro _ w1 _ _ _ ⟨rfl, rfl, rfl, rfl⟩ h1
 have h2 := h1 rfl rfl
 simp only [ca, na] at h2
 refine asg rfl rfl rfl ?_
 refine nil ?_
 refine Run.seq ?_
 refine sr ?_
 refine mv rfl rfl rfl ?_
 refine bin rfl rfl rfl rfl rfl ?_
 refine nil ?_
 refine Run.ite rfl hF (fun e2 hF => ?_) (fun e2 hF => ?_)
 ·
  refine sr ?_
  refine mv rfl rfl rfl ?_
  refine asg rfl rfl rfl ?_
  refine nil ?_
  refine Run.retP rfl (.tmp rfl .nil) ?_
  cases hF
  exact Post.mk' ⟨v0, rfl, rfl, rfl, rfl⟩ (h2.picks (.cons .z .nil)) .nil
 ·
  cases hF
set_option maxHeartbeats 8000000 in set_option maxRecDepth 20000 in
theorem eventlog_Log_open_ok {fuel : Nat} {a0 : eventlog_Log} {a1 : Int} {ad : flash_Device} {y : Int × eventlog_Log × flash_Device} (hF : eventlog_Log_open fuel a0 a1 ad = some y) {w : World} {v0 v0_0 qd v0_1 vd_0 vd_1 : Value} :
  Spec Tryz.prog 156 [v0, .int .i64 a1].toArray w [] [(false, .box 169 (eventlog_Log.repW v0_0 v0_1) v0 a0), (false, .lnk qd v0_0 a0.d), (false, .slice 200 eventlog_record.rep v0_1 a0.records), (false, .box 166 (flash_Device.repW vd_0 vd_1) qd ad), (false, .slice 5 (Rep.int .u8) vd_0 ad.bytes), (false, .slice 3 (Rep.int .i64) vd_1 ad.wear)] (fun v Γr Ωr Ωo => ∃ w0_0 w0_1 wd_0 wd_1 : Value, v = .int .i64 y.1 ∧ Γr = [] ∧ Ωr = [] ∧ Ωo = [(false, .box 169 (eventlog_Log.repW w0_0 w0_1) v0 y.2.1), (false, .lnk qd w0_0 y.2.1.d), (false, (.slice 200 eventlog_record.rep w0_1 y.2.1.records)), (false, .box 166 (flash_Device.repW wd_0 wd_1) qd y.2.2), (false, (.slice 5 (Rep.int .u8) wd_0 y.2.2.bytes)), (false, (.slice 3 (Rep.int .i64) wd_1 y.2.2.wear))]) := by
 refine Spec.of (L := [(0, v0), (1, .int .i64 a1)]) Tryz.func156 rfl ⟨rfl, rfl, trivial⟩ rfl (fun e h => ?_)
 unfold eventlog_Log_open at hF
 refine sr ?_
 refine op (OpS.box (f' := true) h rfl rfl rfl V.int (fun u1 w1 h1 => ?_))
 refine asg rfl rfl rfl ?_
 refine nil ?_
 refine sr ?_
 refine mv rfl rfl rfl ?_
 refine op (OpS.nchk h1 (.s .z) rfl rfl rfl ?_)
 refine op (OpS.fbox (o3 := 4) h1 (.s .z) PA.z fa169_4 rfl rfl rfl rfl ?_)
 refine op (OpS.loadBi h1 (.s .z) PA.a (GetS.ok (GetS.iso _ (GetS.there (GetS.there (GetS.there (GetS.there (GetS.here GetS.id))))))) ty3 rfl rfl rfl ?_)
 refine bin rfl rfl rfl rfl rfl ?_
 refine asg rfl rfl rfl ?_
 obtain ⟨x1, e1, hF⟩ := letP_use hF
 refine RunL.name e1 ?_
 refine nil ?_
 refine Run.seq ?_
 refine sr ?_
 refine mv rfl rfl rfl ?_
 refine bin rfl rfl rfl rfl rfl ?_
 refine nil ?_
 refine Run.ite rfl hF (fun e2 hF => ?_) (fun e2 hF => ?_)
 ·
  cases hF
 ·
  refine Run.skip ?_
  refine Run.seq ?_
  have h2 := h1.picks (.cons (.s .z) (.cons .z (.cons .z (.cons .z (.cons .z (.cons .z (.cons .z .nil)))))))
  obtain ⟨e3, hF⟩ := chk_use hF
  refine Run.drawV (Ωs := [(true, .box 3 (Rep.int .i64) u1 a1), (false, .lnk qd v0_0 a0.d), (false, .slice 200 eventlog_record.rep v0_1 a0.records), (false, .box 166 (flash_Device.repW vd_0 vd_1) qd ad), (false, .slice 5 (Rep.int .u8) vd_0 ad.bytes), (false, .slice 3 (Rep.int .i64) vd_1 ad.wear)]) [.k 17 v0, .kr 18 v0 [0], .kr 19 (padd v0 1) [0], .kr 20 (.int .i64 a0.first) [0], .k 21 (.int .i64 x1), .k 22 (.int .i64 (IntKind.i64.wrap (x1 - 1))), .k 23 v0, .kr 24 v0 [0], .kr 25 (padd v0 2) [0], .kr 26 (.int .i64 a0.sectors) [0], .k 27 (.int .i64 (Int.tmod (IntKind.i64.wrap (x1 - 1)) a0.sectors))] [[], [0], [1], [2], [], [4], [], [6], [7], [8], [5, 9]] [[(false, .box 169 (eventlog_Log.repW v0_0 v0_1) v0 a0)]] [0, 1, 2, 3, 4, 5, 6, 7, 8, 9, 10, 11] Try_mixed rfl rfl rfl h2 (.cons ?_ (.cons ?_ (.cons ?_ (.cons ?_ (.cons ?_ (.cons ?_ (.cons ?_ (.cons ?_ (.cons ?_ (.cons ?_ (.cons ?_ .nil))))))))))) (fun q1 w hq1 h => ?_)
  ·intro q1 w Γx Ωx h
   refine OpS.mv rfl rfl rfl ?_
   exact ⟨undef, rfl, trivial, h⟩
  ·intro q1 w Γx Ωx h
   refine OpS.nchk h .z rfl rfl rfl ?_
   exact ⟨undef, rfl, trivial, h⟩
  ·intro q1 w Γx Ωx h
   refine OpS.fbox (o3 := 1) h .z PA.z fa169_1 rfl rfl rfl rfl ?_
   exact ⟨undef, rfl, trivial, h⟩
  ·intro q1 w Γx Ωx h
   refine OpS.loadBi h .z PA.a (GetS.ok (GetS.iso _ (GetS.there (GetS.here GetS.id)))) ty3 rfl rfl rfl ?_
   exact ⟨undef, rfl, trivial, h⟩
  ·intro q1 w Γx Ωx h
   refine OpS.mv rfl rfl rfl ?_
   exact ⟨undef, rfl, trivial, h⟩
  ·intro q1 w Γx Ωx h
   refine OpS.bin rfl rfl rfl rfl rfl ?_
   exact ⟨undef, rfl, trivial, h⟩
  ·intro q1 w Γx Ωx h
   refine OpS.mv rfl rfl rfl ?_
   exact ⟨undef, rfl, trivial, h⟩
  ·intro q1 w Γx Ωx h
   refine OpS.nchk h .z rfl rfl rfl ?_
   exact ⟨undef, rfl, trivial, h⟩
  ·intro q1 w Γx Ωx h
   refine OpS.fbox (o3 := 2) h .z PA.z fa169_2 rfl rfl rfl rfl ?_
   exact ⟨undef, rfl, trivial, h⟩
  ·intro q1 w Γx Ωx h
   refine OpS.loadBi h .z PA.a (GetS.ok (GetS.iso _ (GetS.there (GetS.there (GetS.here GetS.id))))) ty3 rfl rfl rfl ?_
   exact ⟨undef, rfl, trivial, h⟩
  ·intro q1 w Γx Ωx h
   refine OpS.rem rfl rfl rfl rfl e3 ?_
   exact ⟨undef, rfl, trivial, h⟩
  have h3 := h
  refine bin rfl rfl rfl rfl rfl ?_
  refine asg rfl rfl rfl ?_
  obtain ⟨x2, e4, hF⟩ := letP_use hF
  refine RunL.name e4 ?_
  refine nil ?_
  refine sr ?_
  refine mv rfl rfl rfl ?_
  refine mv rfl rfl rfl ?_
  refine op (OpS.nchk h3 .z rfl rfl rfl ?_)
  refine op (OpS.fbox (o3 := 0) h3 .z PA.z fa169_0 rfl rfl rfl rfl ?_)
  obtain ⟨e5, hF⟩ := chk_use hF
  obtain ⟨e6, h4⟩ := St.attach (h3.pick (.s (.s .z))) e5
  subst e6
  refine op (OpS.loadR h4 (.s .z) PA.a (GetS.ok (GetS.iso _ (GetS.here GetS.id))) ty31 rfl rfl rfl rfl rfl ?_)
  obtain ⟨y1, e7, hF⟩ := bindP_use hF
  have h5 := h4.front (.cons (.s (.s (.s (.s .z)))) (.cons (.s (.s (.s (.s .z)))) (.cons (.s (.s (.s (.s .z)))) .nil)))
  refine op (OpS.callO h5 Tryz.func71 rfl rfl rfl rfl (vs := [qd]) rfl (flash_Device_Size_ok e7) rfl .nil ?_)
  rintro _ w2 _ _ _ ⟨rfl, rfl, rfl, rfl⟩ h6
  have h7 := h6
  simp only [ca, na] at h7
  refine bin rfl rfl rfl rfl rfl ?_
  refine asg rfl rfl rfl ?_
  obtain ⟨x3, e8, hF⟩ := letP_use hF
  refine RunL.name e8 ?_
  refine nil ?_
  refine Run.seq ?_
  obtain ⟨y2, e9, hF⟩ := bindP_use hF
  obtain ⟨y3, e10, hF⟩ := bindP_use hF
  refine Run.drawV (Ωs := [(true, .box 3 (Rep.int .i64) u1 a1), (false, .slice 200 eventlog_record.rep v0_1 a0.records)]) [.k 37 v0, .kr 38 v0 [4], .kr 39 (padd v0 0) [4], .kr 40 qd [4, 3], .k 41 (.int .i64 x3), .k 42 v0, .kr 43 v0 [4], .kr 44 (padd v0 0) [4], .kr 45 qd [4, 3], .kr 46 (.int .i64 y2) [0, 1, 2], .fr 47 (fun u_ => [(true, .eqv u_ (.tuple #[(tcomp u_ 0), .int .i64 y3.2])), (true, .val (Rep.slice (Rep.int .u8)) (tcomp u_ 0) y3.1)]) [0, 1, 2], .f 36 (fun u_ => [(true, .eqv u_ (.tuple #[(tcomp u_ 0), .int .i64 y3.2])), (true, .val (Rep.slice (Rep.int .u8)) (tcomp u_ 0) y3.1)]), .f 48 (fun u_ => [(true, .val (Rep.slice (Rep.int .u8)) u_ y3.1)]), .k 49 (.int .i64 y3.2), .f 8 (fun u_ => [(true, .val (Rep.slice (Rep.int .u8)) u_ y3.1)])] [[], [0], [1], [2], [], [], [5], [6], [7], [8], [3, 4, 9], [10], [11], [11], [12]] [[(false, .box 166 (flash_Device.repW vd_0 vd_1) qd ad)], [(false, .slice 5 (Rep.int .u8) vd_0 ad.bytes)], [(false, .slice 3 (Rep.int .i64) vd_1 ad.wear)], [(false, .lnk qd qd a0.d)], [(false, .box 169 (eventlog_Log.repW qd v0_1) v0 a0)]] [0, 1, 2, 3, 4, 5, 6, 7, 8, 9, 10, 11, 12, 13, 14, 15, 16, 17, 18, 19] Try_mixed rfl rfl rfl h7 (.cons ?_ (.cons ?_ (.cons ?_ (.cons ?_ (.cons ?_ (.cons ?_ (.cons ?_ (.cons ?_ (.cons ?_ (.cons ?_ (.cons ?_ (.cons ?_ (.cons ?_ (.cons ?_ (.cons ?_ .nil))))))))))))))) (fun q2 w hq2 h => ?_)
  ·intro q2 w Γx Ωx h
   refine OpS.mv rfl rfl rfl ?_
   exact ⟨undef, rfl, trivial, h⟩
  ·intro q2 w Γx Ωx h
   refine OpS.nchk h .z rfl rfl rfl ?_
   exact ⟨undef, rfl, trivial, h⟩
  ·intro q2 w Γx Ωx h
   refine OpS.fbox (o3 := 0) h .z PA.z fa169_0 rfl rfl rfl rfl ?_
   exact ⟨undef, rfl, trivial, h⟩
  ·intro q2 w Γx Ωx h
   refine OpS.loadR h .z PA.a (GetS.ok (GetS.iso _ (GetS.here GetS.id))) ty31 rfl rfl rfl rfl rfl ?_
   exact ⟨undef, rfl, trivial, h⟩
  ·intro q2 w Γx Ωx h
   refine OpS.mv rfl rfl rfl ?_
   exact ⟨undef, rfl, trivial, h⟩
  ·intro q2 w Γx Ωx h
   refine OpS.mv rfl rfl rfl ?_
   exact ⟨undef, rfl, trivial, h⟩
  ·intro q2 w Γx Ωx h
   refine OpS.nchk h .z rfl rfl rfl ?_
   exact ⟨undef, rfl, trivial, h⟩
  ·intro q2 w Γx Ωx h
   refine OpS.fbox (o3 := 0) h .z PA.z fa169_0 rfl rfl rfl rfl ?_
   exact ⟨undef, rfl, trivial, h⟩
  ·intro q2 w Γx Ωx h
   refine OpS.loadR h .z PA.a (GetS.ok (GetS.iso _ (GetS.here GetS.id))) ty31 rfl rfl rfl rfl rfl ?_
   exact ⟨undef, rfl, trivial, h⟩
  ·intro q2 w Γx Ωx h
   have h15 := h.front (.cons .z (.cons .z (.cons .z .nil)))
   refine OpS.callO h15 Tryz.func71 rfl rfl rfl rfl (vs := [qd]) rfl (flash_Device_Size_ok e9) rfl .nil ?_
   rintro _ w5 _ _ _ ⟨rfl, rfl, rfl, rfl⟩ h16
   have h17 := h16
   simp only [ca, na] at h17
   exact ⟨undef, rfl, trivial, h17⟩
  ·intro q2 w Γx Ωx h
   have h18 := h.front (.cons .z (.cons .z (.cons .z .nil)))
   refine OpS.callO h18 Tryz.func70 rfl rfl rfl rfl (vs := [qd, .int .i64 x3, .int .i64 y2]) rfl (flash_Device_Read_ok e10) rfl .nil ?_
   rintro _ w6 _ _ _ ⟨u3, rfl, rfl, rfl, rfl⟩ h19
   have h20 := h19
   simp only [ca, na] at h20
   have h21 := h20.freeze
   exact ⟨_, rfl, trivial, St.eqv rfl h21⟩
  ·intro q2 w Γx Ωx h
   refine OpS.mv rfl rfl rfl ?_
   exact ⟨_, rfl, trivial, ((h.dup (.s .z)).dup (.s .z))⟩
  ·intro q2 w Γx Ωx h
   refine OpS.extT h .z rfl rfl rfl rfl ?_
   exact ⟨_, rfl, trivial, (h.dup (.s .z))⟩
  ·intro q2 w Γx Ωx h
   refine OpS.extT h .z rfl rfl rfl rfl ?_
   exact ⟨undef, rfl, trivial, h⟩
  ·intro q2 w Γx Ωx h
   refine OpS.as rfl rfl rfl ?_
   exact ⟨_, rfl, trivial, (h.dup .z)⟩
  have h22 := h
  refine asg rfl rfl rfl ?_
  refine nil ?_
  refine Run.slim [(9, .int .i64 y3.2), (8, (q2 14)), (7, .int .i64 x3), (6, .int .i64 x2), (5, .int .i64 x1), (3, u1), (0, v0)] ⟨rfl, rfl, rfl, rfl, rfl, rfl, rfl, trivial⟩ ?_
  refine Run.seq ?_
  refine sr ?_
  refine mv rfl rfl rfl ?_
  refine bin rfl rfl rfl rfl rfl ?_
  refine mv rfl rfl rfl ?_
  refine RunL.caseb hF (fun e11 hF => ?_) (fun e11 hF => ?_)
  ·
   refine mv rfl rfl rfl ?_
   obtain ⟨y4, e12, hF⟩ := bindP_use hF
   refine op (OpS.callP h22 Tryz.func147 rfl rfl rfl rfl (vs := [(q2 14)]) rfl (eventlog_blank_ok e12) (.cons (f := true) (V.at (.s (.s (.s (.s (.s .z)))))) .nil) ?_)
   rintro _ w7 _ _ _ ⟨rfl, rfl, rfl, rfl⟩ h23
   have h24 := h23 rfl rfl
   simp only [ca, na] at h24
   refine op (OpS.not rfl rfl rfl ?_)
   refine pick rfl rfl rfl rfl ?_
   refine nil ?_
   refine Run.ite rfl hF (fun e13 hF => ?_) (fun e13 hF => ?_)
   ·
    cases hF
   ·
    refine Run.skip ?_
    refine Run.seq ?_
    refine sr ?_
    refine mv rfl rfl rfl ?_
    refine bin rfl rfl rfl rfl rfl ?_
    refine nil ?_
    refine Run.ite rfl hF (fun e14 hF => ?_) (fun e14 hF => ?_)
    ·
     have h25 := h24.picks (.cons (.s (.s (.s .z))) (.cons (.s (.s (.s .z))) (.cons (.s (.s (.s .z))) (.cons .z (.cons .z (.cons .z (.cons .z .nil)))))))
     obtain ⟨y5, e15, hF⟩ := bindP_use hF
     obtain ⟨y6, e16, hF⟩ := bindP_use hF
     obtain ⟨x4, e17, hF⟩ := bindP_use hF
     obtain ⟨x5, e18, hF⟩ := bindP_use hF
     refine Run.drawV (Ωs := [(false, .box 166 (flash_Device.repW vd_0 vd_1) qd ad), (false, .slice 5 (Rep.int .u8) vd_0 ad.bytes), (false, .slice 3 (Rep.int .i64) vd_1 ad.wear), (false, .slice 200 eventlog_record.rep v0_1 a0.records)]) [.k 65 v0, .kr 66 v0 [1], .kr 67 (padd v0 0) [1], .kr 68 qd [1, 0], .k 69 (.int .i64 x3), .k 70 (.int .i64 x1), ⟨some 71, none, fun u_ => [], fun ds_ u_ => [(true, .slice 5 (Rep.int .u8) u_ y5)], [], [], none⟩, .kr 72 (.int .i64 a1) [2], .f 73 (fun u_ => [(true, .val (Rep.slice (Rep.int .u8)) u_ y6)]), ⟨some 74, none, fun u_ => [], fun ds_ u_ => [(true, .slice 5 (Rep.int .u8) u_ x4)], [9], [], none⟩, .k 75 v0, .kr 76 v0 [1], .kr 77 (padd v0 7) [1], .kr 78 (.int .u16 a0.next) [1], .k 79 (.int .u8 (IntKind.u8.wrap a0.next)), .k 80 v0, .kr 81 v0 [1], .kr 82 (padd v0 7) [1], .kr 83 (.int .u16 a0.next) [1], .k 84 (.int .u16 (bShr .u16 a0.next 8)), .k 85 (.int .u8 (IntKind.u8.wrap (bShr .u16 a0.next 8))), .f 86 (fun u_ => [(true, .val (Rep.slice (Rep.int .u8)) u_ ([(IntKind.u8.wrap a0.next), (IntKind.u8.wrap (bShr .u16 a0.next 8))]))]), ⟨some 87, none, fun u_ => [], fun ds_ u_ => [(true, .slice 5 (Rep.int .u8) u_ x5)], [12], [], none⟩] [[], [0], [1], [2], [], [], [5], [], [7], [6, 8], [], [10], [11], [12], [13], [], [15], [16], [17], [18], [19], [14, 20], [9, 21]] [[(false, .lnk qd qd a0.d)], [(false, .box 169 (eventlog_Log.repW qd v0_1) v0 a0)], [(true, .box 3 (Rep.int .i64) u1 a1)]] [0, 1, 2, 3, 4, 5, 6, 7, 8, 10, 11, 13, 14, 15, 16, 17, 18, 19, 20, 21, 22, 23, 24, 25] Try_mixed rfl rfl rfl h25 (.cons ?_ (.cons ?_ (.cons ?_ (.cons ?_ (.cons ?_ (.cons ?_ (.cons ?_ (.cons ?_ (.cons ?_ (.cons ?_ (.cons ?_ (.cons ?_ (.cons ?_ (.cons ?_ (.cons ?_ (.cons ?_ (.cons ?_ (.cons ?_ (.cons ?_ (.cons ?_ (.cons ?_ (.cons ?_ (.cons ?_ .nil))))))))))))))))))))))) (fun q3 w hq3 h => ?_)
     ·intro q3 w Γx Ωx h
      refine OpS.mv rfl rfl rfl ?_
      exact ⟨undef, rfl, trivial, h⟩
     ·intro q3 w Γx Ωx h
      refine OpS.nchk h .z rfl rfl rfl ?_
      exact ⟨undef, rfl, trivial, h⟩
     ·intro q3 w Γx Ωx h
      refine OpS.fbox (o3 := 0) h .z PA.z fa169_0 rfl rfl rfl rfl ?_
      exact ⟨undef, rfl, trivial, h⟩
     ·intro q3 w Γx Ωx h
      refine OpS.loadR h .z PA.a (GetS.ok (GetS.iso _ (GetS.here GetS.id))) ty31 rfl rfl rfl rfl rfl ?_
      exact ⟨undef, rfl, trivial, h⟩
     ·intro q3 w Γx Ωx h
      refine OpS.mv rfl rfl rfl ?_
      exact ⟨undef, rfl, trivial, h⟩
     ·intro q3 w Γx Ωx h
      refine OpS.mv rfl rfl rfl ?_
      exact ⟨undef, rfl, trivial, h⟩
     ·intro q3 w Γx Ωx h
      refine OpS.callP h Tryz.func208 rfl rfl rfl rfl (vs := [.int .i64 x1]) rfl (eventlog_write4_ok e15) .nil ?_
      rintro u w13 _ _ _ ⟨_, rfl, rfl, rfl, rfl⟩ h34
      have h35 := h34 rfl rfl
      simp only [ca, na] at h35
      exact ⟨u, rfl, trivial, h35⟩
     ·intro q3 w Γx Ωx h
      refine OpS.loadBi h .z PA.z Get.id ty3 rfl rfl rfl ?_
      exact ⟨undef, rfl, trivial, h⟩
     ·intro q3 w Γx Ωx h
      refine OpS.callP h Tryz.func208 rfl rfl rfl rfl (vs := [.int .i64 a1]) rfl (eventlog_write4_ok e16) .nil ?_
      rintro u w14 _ _ _ ⟨_, rfl, rfl, rfl, rfl⟩ h36
      have h37 := h36 rfl rfl
      simp only [ca, na] at h37
      have h38 := h37.freeze
      exact ⟨u, rfl, trivial, h38⟩
     ·intro q3 w Γx Ωx h
      refine OpS.app (f' := true) h .z Tryz.underlying24 ti5 rfl rfl rfl rfl rfl rfl rfl (V.at .z) (.inr Pure.int) e17 (fun u w15 h39 => ?_)
      exact ⟨u, rfl, trivial, h39⟩
     ·intro q3 w Γx Ωx h
      refine OpS.mv rfl rfl rfl ?_
      exact ⟨undef, rfl, trivial, h⟩
     ·intro q3 w Γx Ωx h
      refine OpS.nchk h .z rfl rfl rfl ?_
      exact ⟨undef, rfl, trivial, h⟩
     ·intro q3 w Γx Ωx h
      refine OpS.fbox (o3 := 7) h .z PA.z fa169_7 rfl rfl rfl rfl ?_
      exact ⟨undef, rfl, trivial, h⟩
     ·intro q3 w Γx Ωx h
      refine OpS.loadBi h .z PA.a (GetS.ok (GetS.iso _ (GetS.there (GetS.there (GetS.there (GetS.there (GetS.there (GetS.there (GetS.there (GetS.here GetS.id)))))))))) ty49 rfl rfl rfl ?_
      exact ⟨undef, rfl, trivial, h⟩
     ·intro q3 w Γx Ωx h
      refine OpS.conv Tryz.underlying49 Tryz.underlying5 rfl rfl rfl ?_
      exact ⟨undef, rfl, trivial, h⟩
     ·intro q3 w Γx Ωx h
      refine OpS.mv rfl rfl rfl ?_
      exact ⟨undef, rfl, trivial, h⟩
     ·intro q3 w Γx Ωx h
      refine OpS.nchk h .z rfl rfl rfl ?_
      exact ⟨undef, rfl, trivial, h⟩
     ·intro q3 w Γx Ωx h
      refine OpS.fbox (o3 := 7) h .z PA.z fa169_7 rfl rfl rfl rfl ?_
      exact ⟨undef, rfl, trivial, h⟩
     ·intro q3 w Γx Ωx h
      refine OpS.loadBi h .z PA.a (GetS.ok (GetS.iso _ (GetS.there (GetS.there (GetS.there (GetS.there (GetS.there (GetS.there (GetS.there (GetS.here GetS.id)))))))))) ty49 rfl rfl rfl ?_
      exact ⟨undef, rfl, trivial, h⟩
     ·intro q3 w Γx Ωx h
      refine OpS.shr rfl rfl rfl rfl (by decide) ?_
      exact ⟨undef, rfl, trivial, h⟩
     ·intro q3 w Γx Ωx h
      refine OpS.conv Tryz.underlying49 Tryz.underlying5 rfl rfl rfl ?_
      exact ⟨undef, rfl, trivial, h⟩
     ·intro q3 w Γx Ωx h
      refine OpS.lit (r := (Rep.int .u8)) (f := true) h Tryz.underlying24 ti5 rfl rfl rfl rfl rfl (.cons rfl V.int (.cons rfl V.int .nil)) rfl rfl (fun u w16 h40 => ?_)
      exact ⟨u, rfl, trivial, h40⟩
     ·intro q3 w Γx Ωx h
      refine OpS.app (f' := true) h .z Tryz.underlying24 ti5 rfl rfl rfl rfl rfl rfl rfl (V.at .z) (.inr Pure.int) e18 (fun u w17 h41 => ?_)
      exact ⟨u, rfl, trivial, h41⟩
     have h42 := h
     have h43 := (h42.pick (.s (.s (.s .z)))).freeze
     obtain ⟨y7, e19, hF⟩ := bindP_use hF
     have h44 := h43.front (.cons (.s (.s (.s .z))) (.cons (.s (.s (.s .z))) (.cons (.s (.s (.s .z))) .nil)))
     refine op (OpS.callO h44 Tryz.func88 rfl rfl rfl rfl (vs := [qd, .int .i64 x3, (q3 22)]) rfl (flash_Device_Program_ok e19) rfl (.cons (f := true) (V.at .z) .nil) ?_)
     rintro _ w18 _ _ _ ⟨u4, u5, rfl, rfl, rfl, rfl⟩ h45
     have h46 := h45
     simp only [ca, na] at h46
     refine asg rfl rfl rfl ?_
     refine nil ?_
     refine Run.slim [(9, .int .i64 y7.1), (7, .int .i64 x3), (5, .int .i64 x1), (3, u1), (0, v0)] ⟨rfl, rfl, rfl, rfl, rfl, trivial⟩ ?_
     refine Run.seq ?_
     refine sr ?_
     refine mv rfl rfl rfl ?_
     refine bin rfl rfl rfl rfl rfl ?_
     refine nil ?_
     refine Run.ite rfl hF (fun e20 hF => ?_) (fun e20 hF => ?_)
     ·
      refine Run.reg ?_
      refine mv rfl rfl rfl ?_
      refine op (OpS.nchk h46 (.s (.s (.s (.s .z)))) rfl rfl rfl ?_)
      refine op (OpS.fbox (o3 := 0) h46 (.s (.s (.s (.s .z)))) PA.z fa169_0 rfl rfl rfl rfl ?_)
      refine op (OpS.loadR h46 (.s (.s (.s (.s .z)))) PA.a (GetS.ok (GetS.iso _ (GetS.here GetS.id))) ty31 rfl rfl rfl rfl rfl ?_)
      refine mv rfl rfl rfl ?_
      refine bin rfl rfl rfl rfl rfl ?_
      refine op (OpS.lit (r := (Rep.int .u8)) (f := true) h46 Tryz.underlying24 ti5 rfl rfl rfl rfl rfl (.cons rfl V.int .nil) rfl rfl (fun u6 w19 h47 => ?_))
      obtain ⟨y8, e21, hF⟩ := bindP_use hF
      have h48 := h47.front (.cons .z (.cons .z (.cons .z .nil)))
      refine op (OpS.callO h48 Tryz.func88 rfl rfl rfl rfl (vs := [qd, .int .i64 (IntKind.i64.wrap (x3 + 10)), u6]) rfl (flash_Device_Program_ok e21) rfl (.cons (f := true) (V.at .z) .nil) ?_)
      rintro _ w20 _ _ _ ⟨u7, u8, rfl, rfl, rfl, rfl⟩ h49
      have h50 := h49
      simp only [ca, na] at h50
      refine asg rfl rfl rfl ?_
      refine nil ?_
      refine Run.seq ?_
      refine sr ?_
      refine mv rfl rfl rfl ?_
      refine bin rfl rfl rfl rfl rfl ?_
      refine nil ?_
      refine Run.ite rfl hF (fun e22 hF => ?_) (fun e22 hF => ?_)
      ·
       refine Run.seq ?_
       have h51 := h50.picks (.cons (.s (.s (.s (.s .z)))) (.cons (.s (.s (.s (.s .z)))) (.cons .z (.cons .z (.cons .z (.cons .z (.cons .z .nil)))))))
       obtain ⟨d1, e23, hF⟩ := letP_use hF
       obtain ⟨d2, e24, hF⟩ := letP_use hF
       refine Run.drawV (Ωs := [(false, .box 166 (flash_Device.repW u7 u8) qd y8.2), (false, .slice 5 (Rep.int .u8) u7 y8.2.bytes), (false, .slice 3 (Rep.int .i64) u8 y8.2.wear), (false, .lnk qd qd a0.d), (false, .slice 200 eventlog_record.rep v0_1 a0.records)]) [.k 101 v0, .k 102 v0, .k 103 v0, .k 104 (.int .i64 x1), .kr 105 (.int .i64 a1) [1], ⟨some 106, some (v0), fun _ => [], fun ds_ u_ => [], [], [(0, [7, 6, 5])], none⟩, ⟨some 107, some ((padd v0 4)), fun _ => [], fun ds_ u_ => [], [], [(0, [7, 6])], none⟩, ⟨none, some undef, fun _ => [], fun ds_ u_ => [(false, .box 169 (eventlog_Log.repW qd v0_1) v0 d1)], [0], [], none⟩, ⟨some 108, some (v0), fun _ => [], fun ds_ u_ => [], [], [(9, [10, 9, 8])], none⟩, ⟨some 109, some ((padd v0 5)), fun _ => [], fun ds_ u_ => [], [], [(9, [10, 9])], none⟩, ⟨none, some undef, fun _ => [], fun ds_ u_ => [(false, .box 169 (eventlog_Log.repW qd v0_1) v0 d2)], [9], [], none⟩] [[], [], [], [], [], [0], [5], [6, 3], [1], [8], [9, 4]] [[(false, .box 169 (eventlog_Log.repW qd v0_1) v0 a0)], [(true, .box 3 (Rep.int .i64) u1 a1)]] [1, 2, 3, 4, 5, 6, 7, 8, 10, 11, 12] Try_mixed rfl rfl rfl h51 (.cons ?_ (.cons ?_ (.cons ?_ (.cons ?_ (.cons ?_ (.cons ?_ (.cons ?_ (.cons ?_ (.cons ?_ (.cons ?_ (.cons ?_ .nil))))))))))) (fun q4 w hq4 h => ?_)
       ·intro q4 w Γx Ωx h
        refine OpS.mv rfl rfl rfl ?_
        exact ⟨undef, rfl, trivial, h⟩
       ·intro q4 w Γx Ωx h
        refine OpS.mv rfl rfl rfl ?_
        exact ⟨undef, rfl, trivial, h⟩
       ·intro q4 w Γx Ωx h
        refine OpS.mv rfl rfl rfl ?_
        exact ⟨undef, rfl, trivial, h⟩
       ·intro q4 w Γx Ωx h
        refine OpS.mv rfl rfl rfl ?_
        exact ⟨undef, rfl, trivial, h⟩
       ·intro q4 w Γx Ωx h
        refine OpS.loadBi h .z PA.z Get.id ty3 rfl rfl rfl ?_
        exact ⟨undef, rfl, trivial, h⟩
       ·intro q4 w Γx Ωx h
        refine OpS.nchk h .z rfl rfl rfl ?_
        exact ⟨undef, rfl, trivial, h⟩
       ·intro q4 w Γx Ωx h
        refine OpS.fbox (o3 := 4) h .z PA.z fa169_4 rfl rfl rfl rfl ?_
        exact ⟨undef, rfl, trivial, h⟩
       ·intro q4 w Γx Ωx h
        refine OpS.storeC (f' := true) (fr := (Rep.int .i64)) (r' := (eventlog_Log.repW qd v0_1)) (x' := d1) h .z PA.a (Chg.of (x' := { a0 with newest := x1 }) (Chg.iso _ (Chg.there (Chg.there (Chg.there (Chg.there (Chg.here (Chg.id (by rfl)))))))) e23) ty3 rfl rfl rfl V.int (.inr rfl) (fun w23 h54 => ?_)
        exact ⟨undef, trivial, trivial, h54⟩
       ·intro q4 w Γx Ωx h
        refine OpS.nchk h .z rfl rfl rfl ?_
        exact ⟨undef, rfl, trivial, h⟩
       ·intro q4 w Γx Ωx h
        refine OpS.fbox (o3 := 5) h .z PA.z fa169_5 rfl rfl rfl rfl ?_
        exact ⟨undef, rfl, trivial, h⟩
       ·intro q4 w Γx Ωx h
        refine OpS.storeC (f' := true) (fr := (Rep.int .i64)) (r' := (eventlog_Log.repW qd v0_1)) (x' := d2) h .z PA.a (Chg.of (x' := { d1 with tail := a1 }) (Chg.iso _ (Chg.there (Chg.there (Chg.there (Chg.there (Chg.there (Chg.here (Chg.id (by rfl))))))))) e24) ty3 rfl rfl rfl V.int (.inr rfl) (fun w24 h55 => ?_)
        exact ⟨undef, trivial, trivial, h55⟩
       have h56 := h
       refine op (OpS.nchk h56 (.s .z) rfl rfl rfl ?_)
       refine op (OpS.fbox (o3 := 6) h56 (.s .z) PA.z fa169_6 rfl rfl rfl rfl ?_)
       obtain ⟨d3, e25, hF⟩ := letP_use hF
       refine op (OpS.storeC (f' := true) (fr := (Rep.int .i64)) (r' := (eventlog_Log.repW qd v0_1)) (x' := d3) h56 (.s .z) PA.a (Chg.of (x' := { d2 with used := 0 }) (Chg.iso _ (Chg.there (Chg.there (Chg.there (Chg.there (Chg.there (Chg.there (Chg.here (Chg.id (by rfl)))))))))) e25) ty3 rfl rfl rfl V.int (.inr rfl) (fun w25 h57 => ?_))
       refine nil ?_
       refine Run.reg ?_
       refine mv rfl rfl rfl ?_
       refine mv rfl rfl rfl ?_
       refine op (OpS.nchk h57 .z rfl rfl rfl ?_)
       refine op (OpS.fbox (o3 := 8) h57 .z PA.z fa169_8 rfl rfl rfl rfl ?_)
       refine op (OpS.loadR h57 .z PA.a (GetS.ok (GetS.iso _ (GetS.there (GetS.there (GetS.there (GetS.there (GetS.there (GetS.there (GetS.there (GetS.there (GetS.here GetS.id))))))))))) ty167 rfl rfl rfl rfl rfl ?_)
       refine op (OpS.mkf (fl := []) (cl := [u1]) rfl rfl rfl rfl ?_)
       have h58 := (h57.pick (.s .z)).freezeBox
       obtain ⟨y9, e26, hF⟩ := bindP_use hF
       have h59 := h58.front (.cons (.s (.s (.s (.s (.s .z))))) .nil)
       refine op (OpS.callO h59 Tryz.func209 rfl rfl rfl rfl (vs := [v0_1, .func (.func 210) #[] #[u1]]) rfl (slices_DeleteFunc_eventlog_record_eventlog_record_eventlog_Log_open_1_ok e26) rfl (.ptr .z .nil) ?_)
       rintro u9 w26 _ _ _ ⟨_, rfl, rfl, rfl, rfl⟩ h60
       have h61 := h60
       simp only [ca, na] at h61
       refine op (OpS.nchk h61 (.s .z) rfl rfl rfl ?_)
       refine op (OpS.fbox (o3 := 8) h61 (.s .z) PA.z fa169_8 rfl rfl rfl rfl ?_)
       refine op (OpS.storeC (f' := false) (fr := (Rep.raw u9)) (r' := (eventlog_Log.repW qd u9)) (x' := d3) h61 (.s .z) PA.a (Chg.iso _ (Chg.there (Chg.there (Chg.there (Chg.there (Chg.there (Chg.there (Chg.there (Chg.there (Chg.here (Chg.id (by rfl)))))))))))) (Ty.like ty167 (by rfl) (by rfl)) rfl rfl rfl (V.raw (f := false) (St.own1 h61 .z) d3.records) (.inr rfl) (fun w27 h62 => ?_))
       refine nil ?_
       refine Run.slim [(9, .int .i64 y8.1)] ⟨rfl, trivial⟩ ?_
       refine sr ?_
       refine mv rfl rfl rfl ?_
       refine asg rfl rfl rfl ?_
       refine nil ?_
       have h63 := St.boxJ (r' := (eventlog_Log.repW qd u9)) (x' := { { d3 with d := a0.d } with records := y9 }) (h62.pick .z) (fun _ _ hs_ => (Jn.iso _ (Jn.prod Jn.same (Jn.prod Jn.refl (Jn.prod Jn.refl (Jn.prod Jn.refl (Jn.prod Jn.refl (Jn.prod Jn.refl (Jn.prod Jn.refl (Jn.prod Jn.refl (Jn.prod Jn.same Jn.refl)))))))))))
       refine Run.retP rfl (.tmp rfl .nil) ?_
       cases hF
       exact Post.mk' ⟨qd, u9, u7, u8, rfl, rfl, rfl, rfl⟩ (h63.picks (.cons .z (.cons (.s (.s (.s (.s .z)))) (.cons .z (.cons .z (.cons .z (.cons .z .nil))))))) .nil
      ·
       cases hF
     ·
      cases hF
    ·
     cases hF
  ·
   cases hF
set_option maxRecDepth 20000 in
theorem eventlog_Log_grow_ok {fuel : Nat} {a0 : eventlog_Log} {ad : flash_Device} {y : Int × eventlog_Log × flash_Device} (hF : eventlog_Log_grow fuel a0 ad = some y) {w : World} {v0 v0_0 qd v0_1 vd_0 vd_1 : Value} :
  Spec Tryz.prog 86 [v0].toArray w [] [(false, .box 169 (eventlog_Log.repW v0_0 v0_1) v0 a0), (false, .lnk qd v0_0 a0.d), (false, .slice 200 eventlog_record.rep v0_1 a0.records), (false, .box 166 (flash_Device.repW vd_0 vd_1) qd ad), (false, .slice 5 (Rep.int .u8) vd_0 ad.bytes), (false, .slice 3 (Rep.int .i64) vd_1 ad.wear)] (fun v Γr Ωr Ωo => ∃ w0_0 w0_1 wd_0 wd_1 : Value, v = .int .i64 y.1 ∧ Γr = [] ∧ Ωr = [] ∧ Ωo = [(false, .box 169 (eventlog_Log.repW w0_0 w0_1) v0 y.2.1), (false, .lnk qd w0_0 y.2.1.d), (false, (.slice 200 eventlog_record.rep w0_1 y.2.1.records)), (false, .box 166 (flash_Device.repW wd_0 wd_1) qd y.2.2), (false, (.slice 5 (Rep.int .u8) wd_0 y.2.2.bytes)), (false, (.slice 3 (Rep.int .i64) wd_1 y.2.2.wear))]) := by
 refine Spec.of (L := [(0, v0)]) Tryz.func86 rfl ⟨rfl, trivial⟩ rfl (fun e h => ?_)
 unfold eventlog_Log_grow at hF
 refine sr ?_
 refine asg rfl rfl rfl ?_
 refine nil ?_
 refine sr ?_
 refine mv rfl rfl rfl ?_
 refine op (OpS.nchk h .z rfl rfl rfl ?_)
 refine op (OpS.fbox (o3 := 5) h .z PA.z fa169_5 rfl rfl rfl rfl ?_)
 refine op (OpS.loadBi h .z PA.a (GetS.ok (GetS.iso _ (GetS.there (GetS.there (GetS.there (GetS.there (GetS.there (GetS.here GetS.id)))))))) ty3 rfl rfl rfl ?_)
 refine op (OpS.maxi rfl rfl rfl rfl ?_)
 refine asg rfl rfl rfl ?_
 refine nil ?_
 refine Run.seq ?_
 refine Run.seq ?_
 refine Run.drawV (Ωs := [(false, .lnk qd v0_0 a0.d), (false, .slice 200 eventlog_record.rep v0_1 a0.records), (false, .box 166 (flash_Device.repW vd_0 vd_1) qd ad), (false, .slice 5 (Rep.int .u8) vd_0 ad.bytes), (false, .slice 3 (Rep.int .i64) vd_1 ad.wear)]) [.k 9 v0, .kr 10 v0 [0], .kr 11 (padd v0 4) [0], .kr 12 (.int .i64 a0.newest) [0], .k 13 (.int .i64 (IntKind.i64.wrap (a0.newest + 1))), .k 14 (.int .i64 (max a0.tail 1)), .k 15 (.int .i64 (IntKind.i64.wrap ((IntKind.i64.wrap (a0.newest + 1)) - (max a0.tail 1)))), .k 16 v0, .kr 17 v0 [0], .kr 18 (padd v0 2) [0], .kr 19 (.int .i64 a0.sectors) [0], .k 20 (.int .i64 (IntKind.i64.wrap (a0.sectors - 2)))] [[], [0], [1], [2], [3], [], [4, 5], [], [7], [8], [9], [10]] [[(false, .box 169 (eventlog_Log.repW v0_0 v0_1) v0 a0)]] [0, 1, 2, 3, 4, 5, 6, 7, 8, 9, 10, 11, 12] Try_mixed rfl rfl rfl h (.cons ?_ (.cons ?_ (.cons ?_ (.cons ?_ (.cons ?_ (.cons ?_ (.cons ?_ (.cons ?_ (.cons ?_ (.cons ?_ (.cons ?_ (.cons ?_ .nil)))))))))))) (fun q1 w hq1 h => ?_)
 ·intro q1 w Γx Ωx h
  refine OpS.mv rfl rfl rfl ?_
  exact ⟨undef, rfl, trivial, h⟩
 ·intro q1 w Γx Ωx h
  refine OpS.nchk h .z rfl rfl rfl ?_
  exact ⟨undef, rfl, trivial, h⟩
 ·intro q1 w Γx Ωx h
  refine OpS.fbox (o3 := 4) h .z PA.z fa169_4 rfl rfl rfl rfl ?_
  exact ⟨undef, rfl, trivial, h⟩
 ·intro q1 w Γx Ωx h
  refine OpS.loadBi h .z PA.a (GetS.ok (GetS.iso _ (GetS.there (GetS.there (GetS.there (GetS.there (GetS.here GetS.id))))))) ty3 rfl rfl rfl ?_
  exact ⟨undef, rfl, trivial, h⟩
 ·intro q1 w Γx Ωx h
  refine OpS.bin rfl rfl rfl rfl rfl ?_
  exact ⟨undef, rfl, trivial, h⟩
 ·intro q1 w Γx Ωx h
  refine OpS.mv rfl rfl rfl ?_
  exact ⟨undef, rfl, trivial, h⟩
 ·intro q1 w Γx Ωx h
  refine OpS.bin rfl rfl rfl rfl rfl ?_
  exact ⟨undef, rfl, trivial, h⟩
 ·intro q1 w Γx Ωx h
  refine OpS.mv rfl rfl rfl ?_
  exact ⟨undef, rfl, trivial, h⟩
 ·intro q1 w Γx Ωx h
  refine OpS.nchk h .z rfl rfl rfl ?_
  exact ⟨undef, rfl, trivial, h⟩
 ·intro q1 w Γx Ωx h
  refine OpS.fbox (o3 := 2) h .z PA.z fa169_2 rfl rfl rfl rfl ?_
  exact ⟨undef, rfl, trivial, h⟩
 ·intro q1 w Γx Ωx h
  refine OpS.loadBi h .z PA.a (GetS.ok (GetS.iso _ (GetS.there (GetS.there (GetS.here GetS.id))))) ty3 rfl rfl rfl ?_
  exact ⟨undef, rfl, trivial, h⟩
 ·intro q1 w Γx Ωx h
  refine OpS.bin rfl rfl rfl rfl rfl ?_
  exact ⟨undef, rfl, trivial, h⟩
 have h1 := h
 refine bin rfl rfl rfl rfl rfl ?_
 refine nil ?_
 refine Run.ite rfl hF (fun e1 hF => ?_) (fun e1 hF => ?_)
 ·
  cases hF
 ·
  refine Run.skip ?_
  refine sr ?_
  refine mv rfl rfl rfl ?_
  refine mv rfl rfl rfl ?_
  obtain ⟨y1, e2, hF⟩ := bindP_use hF
  have h2 := h1.front (.cons .z (.cons .z (.cons .z (.cons .z (.cons .z (.cons .z .nil))))))
  refine op (OpS.callO h2 Tryz.func156 rfl rfl rfl rfl (vs := [v0, .int .i64 (max a0.tail 1)]) rfl (eventlog_Log_open_ok e2) rfl .nil ?_)
  rintro _ w1 _ _ _ ⟨u1, u2, u3, u4, rfl, rfl, rfl, rfl⟩ h3
  have h4 := h3
  simp only [ca, na] at h4
  refine asg rfl rfl rfl ?_
  refine nil ?_
  refine Run.retP rfl (.tmp rfl .nil) ?_
  cases hF
  exact Post.mk' ⟨u1, u2, u3, u4, rfl, rfl, rfl, rfl⟩ (h4.picks (.cons .z (.cons .z (.cons .z (.cons .z (.cons .z (.cons .z .nil))))))) .nil
theorem event_Encode_ok {fuel : Nat} {a0 : Event_} {y : (List Int) × Int} (hF : event_Encode fuel a0 = some y) {w : World} {v0 : Value} :
  Spec Tryz.prog 87 [v0].toArray w [(false, .val Event_.rep v0 a0)] [] (fun v Γr Ωr Ωo => ∃ u0 : Value, v = .tuple #[u0, .int .i64 y.2] ∧ Γr = [] ∧ Ωr = [(true, (.slice 5 (Rep.int .u8) u0 y.1))] ∧ Ωo = []) := by
 refine Spec.of (L := [(0, v0)]) Tryz.func87 rfl ⟨rfl, trivial⟩ rfl (fun e h => ?_)
 unfold event_Encode at hF
 refine sr ?_
 refine op (OpS.boxF h rfl rfl rfl (V.at .z) (fun u1 w1 h1 => ?_))
 refine asg rfl rfl rfl ?_
 refine asg rfl rfl rfl ?_
 refine nil ?_
 refine Run.seq ?_
 refine sr ?_
 refine op (OpS.loadB h1 .z PA.z Get.id ty55 rfl rfl rfl (fun u2 h2 => ?_))
 obtain ⟨y1, e1, hF⟩ := bindP_use hF
 refine op (OpS.callP h2 Tryz.func84 rfl rfl rfl rfl (vs := [u2]) rfl (event_Valid_ok e1) (.cons (f := false) (V.at .z) .nil) ?_)
 rintro _ w2 _ _ _ ⟨rfl, rfl, rfl, rfl⟩ h3
 have h4 := h3 rfl rfl
 simp only [ca, na] at h4
 refine op (OpS.not rfl rfl rfl ?_)
 refine nil ?_
 refine Run.ite rfl hF (fun e2 hF => ?_) (fun e2 hF => ?_)
 ·
  cases hF
 ·
  refine Run.skip ?_
  refine sr ?_
  refine op (OpS.fbox (o3 := 5) h4 .z PA.z fa55_5 rfl rfl rfl rfl ?_)
  refine op (OpS.loadBi h4 .z PA.a (Get.fld Event_.f5) ty5 rfl rfl rfl ?_)
  refine asg rfl rfl rfl ?_
  refine nil ?_
  refine Run.seq ?_
  refine sr ?_
  refine op (OpS.fbox (o3 := 6) h4 .z PA.z fa55_6 rfl rfl rfl rfl ?_)
  refine op (OpS.loadBb h4 .z PA.a (Get.fld Event_.f6) ty4 rfl rfl rfl ?_)
  refine nil ?_
  refine Run.ite rfl hF (fun e3 hF => ?_) (fun e3 hF => ?_)
  ·
   cases hF
  ·
   refine Run.skip ?_
   refine sr ?_
   refine op (OpS.fbox (o3 := 0) h4 .z PA.z fa55_0 rfl rfl rfl rfl ?_)
   refine op (OpS.loadBi h4 .z PA.a (Get.fld Event_.f0) ty49 rfl rfl rfl ?_)
   refine op (OpS.conv Tryz.underlying49 Tryz.underlying5 rfl rfl rfl ?_)
   refine op (OpS.fbox (o3 := 0) h4 .z PA.z fa55_0 rfl rfl rfl rfl ?_)
   refine op (OpS.loadBi h4 .z PA.a (Get.fld Event_.f0) ty49 rfl rfl rfl ?_)
   refine op (OpS.shr rfl rfl rfl rfl (by decide) ?_)
   refine op (OpS.conv Tryz.underlying49 Tryz.underlying5 rfl rfl rfl ?_)
   refine op (OpS.fbox (o3 := 1) h4 .z PA.z fa55_1 rfl rfl rfl rfl ?_)
   refine op (OpS.loadBi h4 .z PA.a (Get.fld Event_.f1) ty52 rfl rfl rfl ?_)
   refine op (OpS.conv Tryz.underlying52 Tryz.underlying5 rfl rfl rfl ?_)
   refine op (OpS.fbox (o3 := 1) h4 .z PA.z fa55_1 rfl rfl rfl rfl ?_)
   refine op (OpS.loadBi h4 .z PA.a (Get.fld Event_.f1) ty52 rfl rfl rfl ?_)
   refine op (OpS.shr rfl rfl rfl rfl (by decide) ?_)
   refine op (OpS.conv Tryz.underlying52 Tryz.underlying5 rfl rfl rfl ?_)
   refine op (OpS.fbox (o3 := 1) h4 .z PA.z fa55_1 rfl rfl rfl rfl ?_)
   refine op (OpS.loadBi h4 .z PA.a (Get.fld Event_.f1) ty52 rfl rfl rfl ?_)
   refine op (OpS.shr rfl rfl rfl rfl (by decide) ?_)
   refine op (OpS.conv Tryz.underlying52 Tryz.underlying5 rfl rfl rfl ?_)
   refine op (OpS.fbox (o3 := 1) h4 .z PA.z fa55_1 rfl rfl rfl rfl ?_)
   refine op (OpS.loadBi h4 .z PA.a (Get.fld Event_.f1) ty52 rfl rfl rfl ?_)
   refine op (OpS.shr rfl rfl rfl rfl (by decide) ?_)
   refine op (OpS.conv Tryz.underlying52 Tryz.underlying5 rfl rfl rfl ?_)
   refine op (OpS.fbox (o3 := 2) h4 .z PA.z fa55_2 rfl rfl rfl rfl ?_)
   refine op (OpS.loadBi h4 .z PA.a (Get.fld Event_.f2) ty49 rfl rfl rfl ?_)
   refine op (OpS.conv Tryz.underlying49 Tryz.underlying5 rfl rfl rfl ?_)
   refine op (OpS.fbox (o3 := 2) h4 .z PA.z fa55_2 rfl rfl rfl rfl ?_)
   refine op (OpS.loadBi h4 .z PA.a (Get.fld Event_.f2) ty49 rfl rfl rfl ?_)
   refine op (OpS.shr rfl rfl rfl rfl (by decide) ?_)
   refine op (OpS.conv Tryz.underlying49 Tryz.underlying5 rfl rfl rfl ?_)
   refine op (OpS.fbox (o3 := 3) h4 .z PA.z fa55_3 rfl rfl rfl rfl ?_)
   refine op (OpS.loadBi h4 .z PA.a (Get.fld Event_.f3) ty5 rfl rfl rfl ?_)
   refine op (OpS.fbox (o3 := 4) h4 .z PA.z fa55_4 rfl rfl rfl rfl ?_)
   refine op (OpS.loadBi h4 .z PA.a (Get.fld Event_.f4) ty5 rfl rfl rfl ?_)
   refine mv rfl rfl rfl ?_
   refine op (OpS.fbox (o3 := 7) h4 .z PA.z fa55_7 rfl rfl rfl rfl ?_)
   obtain ⟨x1, e4, hF⟩ := bindP_use hF
   obtain ⟨e5, hF⟩ := chk_use hF
   refine op (OpS.ibox h4 .z PA.a Tryz.underlying53 ty5 (Nat.eq_of_beq_eq_true e5) rfl rfl rfl rfl e4 ?_)
   refine op (OpS.loadBi h4 .z PA.a (Get.comp (Get.fld Event_.f7) (Get.arr e4)) ty5 rfl rfl rfl ?_)
   refine op (OpS.fbox (o3 := 7) h4 .z PA.z fa55_7 rfl rfl rfl rfl ?_)
   obtain ⟨x2, e6, hF⟩ := bindP_use hF
   obtain ⟨e7, hF⟩ := chk_use hF
   refine op (OpS.ibox h4 .z PA.a Tryz.underlying53 ty5 (Nat.eq_of_beq_eq_true e7) rfl rfl rfl rfl e6 ?_)
   refine op (OpS.loadBi h4 .z PA.a (Get.comp (Get.fld Event_.f7) (Get.arr e6)) ty5 rfl rfl rfl ?_)
   refine op (OpS.fbox (o3 := 7) h4 .z PA.z fa55_7 rfl rfl rfl rfl ?_)
   obtain ⟨x3, e8, hF⟩ := bindP_use hF
   obtain ⟨e9, hF⟩ := chk_use hF
   refine op (OpS.ibox h4 .z PA.a Tryz.underlying53 ty5 (Nat.eq_of_beq_eq_true e9) rfl rfl rfl rfl e8 ?_)
   refine op (OpS.loadBi h4 .z PA.a (Get.comp (Get.fld Event_.f7) (Get.arr e8)) ty5 rfl rfl rfl ?_)
   refine op (OpS.litO (r := (Rep.int .u8)) (f := true) h4 Tryz.underlying24 ti5 rfl rfl rfl rfl rfl (.cons rfl V.int (.cons rfl V.int (.cons rfl V.int (.cons rfl V.int (.cons rfl V.int (.cons rfl V.int (.cons rfl V.int (.cons rfl V.int (.cons rfl V.int (.cons rfl V.int (.cons rfl V.int (.cons rfl V.int (.cons rfl V.int (.cons rfl V.int (.cons rfl V.int (.cons rfl V.int .nil)))))))))))))))) rfl rfl (fun u3 w3 h5 => ?_))
   refine asg rfl rfl rfl ?_
   refine asg rfl rfl rfl ?_
   refine nil ?_
   refine Run.slim [(3, .int .i64 0), (2, u3)] ⟨rfl, rfl, trivial⟩ ?_
   refine Run.retP rfl (.tmp rfl (.tmp rfl .nil)) ?_
   cases hF
   exact Post.mk' ⟨u3, rfl, rfl, rfl, rfl⟩ (h5.picks (.cons .z .nil)) .nil
end Lift
