/- Each Go function computes its plain function. Written by lift.py. -/
import Derived.Test.YtedddoifbhcinaaFacts
set_option linter.unusedVariables false
set_option linter.unusedSimpArgs false
namespace Lift
open Go Go.Proofs
open RunL (op)
theorem bus_New_ok {fuel : Nat} {a0 : Int} {y : (Option bus_Bus) × Int} (hF : bus_New fuel a0 = some y) {w : World} :
  Spec Try.prog 11 [.int .i64 a0].toArray w [] [] (fun v Γr Ωr Ωo => ∃ u0 : Value, v = .tuple #[u0, .int .i64 y.2] ∧ Γr = [] ∧ Ωr = [(true, .opt (fun x_ => .ex fun v_ => .sep (.box 76 (Rep.iso (fun s : bus_Bus => (s.masters, ())) (Rep.prod (Rep.raw (α := List bus_master) v_) Rep.unit)) u0 x_) (.oval (oslice 85 3 (fun _ => bus_master.orep)) v_ x_.masters)) u0 y.1)] ∧ Ωo = []) := by
 refine Spec.of (L := [(0, .int .i64 a0)]) Try.func11 rfl ⟨rfl, trivial⟩ rfl (fun e h => ?_)
 unfold bus_New at hF
 refine Run.seq ?_
 refine Run.reg ?_
 refine op (OpS.as rfl rfl rfl ?_)
 refine op (OpS.as rfl rfl rfl ?_)
 refine RunL.nil ?_
 refine Run.slim [(0, .int .i64 a0)] ⟨rfl, trivial⟩ ?_
 refine Run.seq ?_
 refine Run.seq ?_
 refine Run.reg ?_
 refine op (OpS.mv rfl rfl rfl ?_)
 refine op (OpS.bin rfl rfl rfl rfl rfl ?_)
 refine op (OpS.mv rfl rfl rfl ?_)
 refine RunL.join (σ := Bool) (fun s_ L_ w_ => L_ = [(0, .int .i64 a0), (9, .bool s_)] ∧ St e w_ [] []) hF (fun s1 _ w1 hI hF => ?_) (fun j1 hj1 hF => ?_)
 ·
  obtain ⟨rfl, h1⟩ := hI
  refine Run.ite rfl hF (fun e1 hF => ?_) (fun e1 hF => ?_)
  ·
   refine Run.seq ?_
   refine Run.reg ?_
   refine op (OpS.as rfl rfl rfl ?_)
   refine op (OpS.as rfl rfl rfl ?_)
   refine RunL.nil ?_
   refine Run.slim [(3, .int .i64 2), (2, .pointer none)] ⟨rfl, rfl, trivial⟩ ?_
   have h2 := St.none (fun x_ => .ex fun v_ => .sep (.box 76 (Rep.iso (fun s : bus_Bus => (s.masters, ())) (Rep.prod (Rep.raw (α := List bus_master) v_) Rep.unit)) (.pointer none) x_) (.oval (oslice 85 3 (fun _ => bus_master.orep)) v_ x_.masters)) h1
   refine Run.retP rfl (.tmp rfl (.tmp rfl .nil)) ?_
   cases hF
   exact Post.mk' ⟨(.pointer none), rfl, rfl, rfl, rfl⟩ (h2.picks (.cons .z .nil)) .nil
  ·
   refine Run.skip ?_
   refine Run.seq ?_
   refine Run.reg ?_
   refine op (OpS.mv rfl rfl rfl ?_)
   obtain ⟨x1, e2, hF⟩ := bindP_use hF
   refine op (OpS.make (r := (Rep.iso (fun s : bus_master => (s.queue, s.tries, s.served, ())) (Rep.prod (Rep.raw (α := List (List Int)) (.slice none 0 0)) (Rep.prod (Rep.int .i64) (Rep.prod Rep.bool Rep.unit))))) h1 Try.underlying74 ti85 rfl rfl (Zr.iso (y := bus_master.z) _ (Zr.of (Zr.prod (Zr.raw rfl ([] : List (List Int))) (Zr.prod (Zr.int .i64 0) (Zr.prod (Zr.bool false) Zr.unit))) (by rfl))) rfl rfl rfl rfl e2 (by simp) (mk_fits e2) rfl (fun u1 w2 h3 => ?_))
   have h4 := St.upD (r := bus_master.orep) h3 rfl (fun x_ hx_ => by obtain ⟨_, _, rfl⟩ := mk_some e2; rw [List.eq_of_mem_replicate hx_]; exact bus_master.joW Jo.nil)
   refine op (OpS.buildC (f := true) (r := bus_Bus.rep) (x := bus_Bus.z) (r' := (Rep.iso (fun s : bus_Bus => (s.masters, ())) (Rep.prod (Rep.raw (α := List bus_master) u1) Rep.unit))) (x' := (⟨[]⟩ : bus_Bus)) h4 pl76 ti76 bus_Bus.zr rfl rfl rfl (.cons (Rep.raw u1) bus_Bus.rep (Rep.iso (fun s : bus_Bus => (s.masters, ())) (Rep.prod (Rep.raw (α := List bus_master) u1) Rep.unit)) bus_Bus.z (⟨[]⟩ : bus_Bus) (Chg.iso _ (Chg.here (Chg.id (by rfl)))) rfl rfl (V.raw (f := true) (St.ownD h4 .z) []) .nil) (fun u2 h5 => ?_))
   refine op (OpS.box (f' := true) h5 rfl rfl rfl (V.at .z) (fun u3 w3 h6 => ?_))
   refine op (OpS.as rfl rfl rfl ?_)
   refine op (OpS.as rfl rfl rfl ?_)
   refine RunL.nil ?_
   refine Run.slim [(3, .int .i64 0), (2, u3)] ⟨rfl, rfl, trivial⟩ ?_
   have h7 := St.boxJ (r' := (Rep.iso (fun s : bus_Bus => (s.masters, ())) (Rep.prod (Rep.raw (α := List bus_master) u1) Rep.unit))) (x' := { (⟨[]⟩ : bus_Bus) with masters := x1 }) (h6.pick .z) (fun _ _ hs_ => (Jn.iso _ (Jn.prod Jn.same Jn.refl)))
   have h8 := h7.front (.cons .z (.cons .z .nil))
   have h9 := St.some (H := (fun x_ => .ex fun v_ => .sep (.box 76 (Rep.iso (fun s : bus_Bus => (s.masters, ())) (Rep.prod (Rep.raw (α := List bus_master) v_) Rep.unit)) u3 x_) (.oval (oslice 85 3 (fun _ => bus_master.orep)) v_ x_.masters))) (q := u3) (x := { (⟨[]⟩ : bus_Bus) with masters := x1 }) (St.ex (H := fun v_ => .sep (.box 76 (Rep.iso (fun s : bus_Bus => (s.masters, ())) (Rep.prod (Rep.raw (α := List bus_master) v_) Rep.unit)) u3 ({ (⟨[]⟩ : bus_Bus) with masters := x1 })) (.oval (oslice 85 3 (fun _ => bus_master.orep)) v_ (({ (⟨[]⟩ : bus_Bus) with masters := x1 }).masters))) u1 (St.sep h8))
   refine Run.retP rfl (.tmp rfl (.tmp rfl .nil)) ?_
   cases hF
   exact Post.mk' ⟨u3, rfl, rfl, rfl, rfl⟩ (h9.picks (.cons .z .nil)) .nil
 ·
  refine RunL.caseb hF (fun e3 hF => ?_) (fun e3 hF => ?_)
  ·
   refine op (OpS.pass rfl rfl rfl ?_)
   refine op (OpS.pass rfl rfl rfl ?_)
   refine op (OpS.pick rfl rfl rfl rfl ?_)
   refine RunL.nil ?_
   refine Run.slim [(9, .bool true), (0, .int .i64 a0)] ⟨rfl, rfl, trivial⟩ ?_
   refine Run.slim [(0, .int .i64 a0), (9, .bool true)] ⟨rfl, rfl, trivial⟩ ?_
   exact hj1 (true) _ _ ⟨rfl, (h.facts .nil).picks .nil⟩ hF
  ·
   refine op (OpS.mv rfl rfl rfl ?_)
   refine op (OpS.bin rfl rfl rfl rfl rfl ?_)
   refine op (OpS.pick rfl rfl rfl rfl ?_)
   refine RunL.nil ?_
   refine Run.slim [(9, .bool (decide (a0 > 8))), (0, .int .i64 a0)] ⟨rfl, rfl, trivial⟩ ?_
   refine Run.slim [(0, .int .i64 a0), (9, .bool (decide (a0 > 8)))] ⟨rfl, rfl, trivial⟩ ?_
   exact hj1 (decide (a0 > 8)) _ _ ⟨rfl, (h.facts .nil).picks .nil⟩ hF
theorem bus_Bus_there_ok {fuel : Nat} {a0 : bus_Bus} {a1 : Int} {y : Bool} (hF : bus_Bus_there fuel a0 a1 = some y) {w : World} {v0 v0_0 : Value} :
  Spec Try.prog 35 [v0, .int .i64 a1].toArray w [] [(false, .box 76 (Rep.iso (fun s : bus_Bus => (s.masters, ())) (Rep.prod (Rep.raw (α := List bus_master) v0_0) Rep.unit)) v0 a0), (false, .oval (oslice 85 3 (fun _ => bus_master.orep)) v0_0 a0.masters)] (fun v Γr Ωr Ωo => v = .bool y ∧ Γr = [] ∧ Ωr = [] ∧ Ωo = [(false, .box 76 (Rep.iso (fun s : bus_Bus => (s.masters, ())) (Rep.prod (Rep.raw (α := List bus_master) v0_0) Rep.unit)) v0 a0), (false, (.oval (oslice 85 3 (fun _ => bus_master.orep)) v0_0 a0.masters))]) := by
 refine Spec.of (L := [(0, v0), (1, .int .i64 a1)]) Try.func35 rfl ⟨rfl, rfl, trivial⟩ rfl (fun e h => ?_)
 unfold bus_Bus_there at hF
 refine Run.seq ?_
 refine Run.reg ?_
 refine op (OpS.as rfl rfl rfl ?_)
 refine RunL.nil ?_
 refine Run.slim [(0, v0), (1, .int .i64 a1)] ⟨rfl, rfl, trivial⟩ ?_
 refine Run.seq ?_
 refine Run.reg ?_
 refine op (OpS.mv rfl rfl rfl ?_)
 refine op (OpS.bin rfl rfl rfl rfl rfl ?_)
 refine op (OpS.mv rfl rfl rfl ?_)
 refine RunL.caseb hF (fun e1 hF => ?_) (fun e1 hF => ?_)
 ·
  refine op (OpS.mv rfl rfl rfl ?_)
  refine op (OpS.mv rfl rfl rfl ?_)
  refine op (OpS.nchk h .z rfl rfl rfl ?_)
  refine op (OpS.fbox (o3 := 0) h .z PA.z fa76_0 rfl rfl rfl rfl ?_)
  refine op (OpS.loadR h .z PA.a (GetS.ok (GetS.iso _ (GetS.here GetS.id))) ty74 rfl rfl rfl rfl rfl ?_)
  refine op (OpS.lenD h (.s .z) Try.underlying74 rfl rfl rfl ?_)
  refine op (OpS.bin rfl rfl rfl rfl rfl ?_)
  refine op (OpS.pick rfl rfl rfl rfl ?_)
  refine op (OpS.as rfl rfl rfl ?_)
  obtain ⟨x1, e2, hF⟩ := letP_use hF
  refine RunL.nameb e2 ?_
  refine RunL.nil ?_
  refine Run.slim [(4, .bool x1)] ⟨rfl, trivial⟩ ?_
  refine Run.retP rfl (.tmp rfl .nil) ?_
  cases hF
  exact Post.mk' ⟨rfl, rfl, rfl, rfl⟩ (h.picks (.cons .z (.cons .z .nil))) .nil
 ·
  refine op (OpS.pass rfl rfl rfl ?_)
  refine op (OpS.pass rfl rfl rfl ?_)
  refine op (OpS.pass rfl rfl rfl ?_)
  refine op (OpS.pass rfl rfl rfl ?_)
  refine op (OpS.pass rfl rfl rfl ?_)
  refine op (OpS.pass rfl rfl rfl ?_)
  refine op (OpS.pass rfl rfl rfl ?_)
  refine op (OpS.pick rfl rfl rfl rfl ?_)
  refine op (OpS.as rfl rfl rfl ?_)
  refine RunL.nil ?_
  refine Run.slim [(4, .bool false)] ⟨rfl, trivial⟩ ?_
  refine Run.retP rfl (.tmp rfl .nil) ?_
  cases hF
  exact Post.mk' ⟨rfl, rfl, rfl, rfl⟩ (h.picks (.cons .z (.cons .z .nil))) .nil
theorem frame_address_ok {fuel : Nat} {a0 : Int} {y : Bool} (hF : frame_address fuel a0 = some y) {w : World} :
  Spec Try.prog 52 [.int .u8 a0].toArray w [] [] (fun v Γr Ωr Ωo => v = .bool y ∧ Γr = [] ∧ Ωr = [] ∧ Ωo = []) := by
 refine Spec.of (L := [(0, .int .u8 a0)]) Try.func52 rfl ⟨rfl, trivial⟩ rfl (fun e h => ?_)
 unfold frame_address at hF
 refine Run.seq ?_
 refine Run.reg ?_
 refine op (OpS.as rfl rfl rfl ?_)
 refine RunL.nil ?_
 refine Run.slim [(0, .int .u8 a0)] ⟨rfl, trivial⟩ ?_
 refine Run.seq ?_
 refine Run.reg ?_
 refine op (OpS.mv rfl rfl rfl ?_)
 refine op (OpS.bin rfl rfl rfl rfl rfl ?_)
 refine op (OpS.mv rfl rfl rfl ?_)
 refine RunL.caseb hF (fun e1 hF => ?_) (fun e1 hF => ?_)
 ·
  refine op (OpS.mv rfl rfl rfl ?_)
  refine op (OpS.bin rfl rfl rfl rfl rfl ?_)
  refine op (OpS.pick rfl rfl rfl rfl ?_)
  refine op (OpS.as rfl rfl rfl ?_)
  obtain ⟨x1, e2, hF⟩ := letP_use hF
  refine RunL.nameb e2 ?_
  refine RunL.nil ?_
  refine Run.slim [(2, .bool x1)] ⟨rfl, trivial⟩ ?_
  refine Run.retP rfl (.tmp rfl .nil) ?_
  cases hF
  exact Post.mk' ⟨rfl, rfl, rfl, rfl⟩ (h.picks .nil) .nil
 ·
  refine op (OpS.pass rfl rfl rfl ?_)
  refine op (OpS.pass rfl rfl rfl ?_)
  refine op (OpS.pick rfl rfl rfl rfl ?_)
  refine op (OpS.as rfl rfl rfl ?_)
  refine RunL.nil ?_
  refine Run.slim [(2, .bool false)] ⟨rfl, trivial⟩ ?_
  refine Run.retP rfl (.tmp rfl .nil) ?_
  cases hF
  exact Post.mk' ⟨rfl, rfl, rfl, rfl⟩ (h.picks .nil) .nil
theorem frame_Valid_ok {fuel : Nat} {a0 : Frame_} {y : Bool} (hF : frame_Valid fuel a0 = some y) {w : World} {v0 : Value} :
  Spec Try.prog 48 [v0].toArray w [(false, .val Frame_.rep v0 a0)] [] (fun v Γr Ωr Ωo => v = .bool y ∧ Γr = [] ∧ Ωr = [] ∧ Ωo = []) := by
 refine Spec.of (L := [(0, v0)]) Try.func48 rfl ⟨rfl, trivial⟩ rfl (fun e h => ?_)
 unfold frame_Valid at hF
 refine Run.seq ?_
 refine Run.reg ?_
 refine op (OpS.boxF h rfl rfl rfl (V.at .z) (fun u1 w1 h1 => ?_))
 refine op (OpS.as rfl rfl rfl ?_)
 refine RunL.nil ?_
 refine Run.slim [(1, u1)] ⟨rfl, trivial⟩ ?_
 refine Run.seq ?_
 refine Run.reg ?_
 refine op (OpS.fbox (o3 := 0) h1 .z PA.z fa36_0 rfl rfl rfl rfl ?_)
 refine op (OpS.loadBi h1 .z PA.a (Get.fld Frame_.f0) ty5 rfl rfl rfl ?_)
 obtain ⟨y1, e1, hF⟩ := bindP_use hF
 refine op (OpS.callP h1 Try.func52 rfl rfl rfl rfl (vs := [.int .u8 a0.To]) rfl (frame_address_ok e1) .nil ?_)
 rintro _ w2 _ _ _ ⟨rfl, rfl, rfl, rfl⟩ h2
 have h3 := h2 rfl rfl
 simp only [List.cons_append, List.nil_append] at h3
 refine op (OpS.mv rfl rfl rfl ?_)
 refine RunL.caseb hF (fun e2 hF => ?_) (fun e2 hF => ?_)
 ·
  refine op (OpS.fbox (o3 := 1) h3 .z PA.z fa36_1 rfl rfl rfl rfl ?_)
  refine op (OpS.loadBi h3 .z PA.a (Get.fld Frame_.f1) ty5 rfl rfl rfl ?_)
  obtain ⟨y2, e3, hF⟩ := bindP_use hF
  refine op (OpS.callP h3 Try.func52 rfl rfl rfl rfl (vs := [.int .u8 a0.From]) rfl (frame_address_ok e3) .nil ?_)
  rintro _ w3 _ _ _ ⟨rfl, rfl, rfl, rfl⟩ h4
  have h5 := h4 rfl rfl
  simp only [List.cons_append, List.nil_append] at h5
  refine op (OpS.pick rfl rfl rfl rfl ?_)
  refine op (OpS.mv rfl rfl rfl ?_)
  refine RunL.caseb hF (fun e4 hF => ?_) (fun e4 hF => ?_)
  ·
   refine op (OpS.fbox (o3 := 2) h5 .z PA.z fa36_2 rfl rfl rfl rfl ?_)
   refine op (OpS.loadB h5 .z PA.a (Get.fld Frame_.f2) ty34 rfl rfl rfl (fun u2 h6 => ?_))
   refine op (OpS.len h6 Try.underlying34 rfl rfl rfl (V.at .z) ?_)
   refine op (OpS.bin rfl rfl rfl rfl rfl ?_)
   refine op (OpS.pick rfl rfl rfl rfl ?_)
   refine op (OpS.as rfl rfl rfl ?_)
   obtain ⟨x1, e5, hF⟩ := letP_use hF
   refine RunL.nameb e5 ?_
   refine RunL.nil ?_
   refine Run.slim [(2, .bool x1)] ⟨rfl, trivial⟩ ?_
   refine Run.retP rfl (.tmp rfl .nil) ?_
   cases hF
   exact Post.mk' ⟨rfl, rfl, rfl, rfl⟩ (h6.picks .nil) .nil
  ·
   refine op (OpS.pass rfl rfl rfl ?_)
   refine op (OpS.pass rfl rfl rfl ?_)
   refine op (OpS.pass rfl rfl rfl ?_)
   refine op (OpS.pass rfl rfl rfl ?_)
   refine op (OpS.pick rfl rfl rfl rfl ?_)
   refine op (OpS.as rfl rfl rfl ?_)
   refine RunL.nil ?_
   refine Run.slim [(2, .bool false)] ⟨rfl, trivial⟩ ?_
   refine Run.retP rfl (.tmp rfl .nil) ?_
   cases hF
   exact Post.mk' ⟨rfl, rfl, rfl, rfl⟩ (h5.picks .nil) .nil
 ·
  refine op (OpS.pass rfl rfl rfl ?_)
  refine op (OpS.pass rfl rfl rfl ?_)
  refine op (OpS.pass rfl rfl rfl ?_)
  refine op (OpS.pick rfl rfl rfl rfl ?_)
  refine op (OpS.mv rfl rfl rfl ?_)
  refine op (OpS.pass rfl rfl rfl ?_)
  refine op (OpS.pass rfl rfl rfl ?_)
  refine op (OpS.pass rfl rfl rfl ?_)
  refine op (OpS.pass rfl rfl rfl ?_)
  refine op (OpS.pick rfl rfl rfl rfl ?_)
  refine op (OpS.as rfl rfl rfl ?_)
  refine RunL.nil ?_
  refine Run.slim [(2, .bool false)] ⟨rfl, trivial⟩ ?_
  refine Run.retP rfl (.tmp rfl .nil) ?_
  cases hF
  exact Post.mk' ⟨rfl, rfl, rfl, rfl⟩ (h3.picks .nil) .nil
theorem slices_Clone_byte_byte_ok {fuel : Nat} {a0 : List Int} {y : (List Int)} (hF : slices_Clone_byte_byte fuel a0 = some y) {w : World} {v0 : Value} :
  Spec Try.prog 51 [v0].toArray w [(false, .val (Rep.slice (Rep.int .u8)) v0 a0)] [] (fun v Γr Ωr Ωo => ∃ u0 : Value, v = u0 ∧ Γr = [] ∧ Ωr = [(true, (.slice 5 (Rep.int .u8) u0 y))] ∧ Ωo = []) := by
 refine Spec.of (L := [(0, v0)]) Try.func51 rfl ⟨rfl, trivial⟩ rfl (fun e h => ?_)
 unfold slices_Clone_byte_byte at hF
 refine Run.seq ?_
 refine Run.reg ?_
 refine op (OpS.as rfl rfl rfl ?_)
 refine RunL.nil ?_
 refine Run.slim [(0, v0)] ⟨rfl, trivial⟩ ?_
 refine Run.seq ?_
 refine Run.seq ?_
 refine Run.reg ?_
 refine op (OpS.mv rfl rfl rfl ?_)
 refine op (OpS.snil h Try.underlying34 rfl rfl rfl (V.at .z) (fun b1 hb1 => ?_))
 refine RunL.nil ?_
 refine Run.slim [(4, .bool b1), (0, v0)] ⟨rfl, rfl, trivial⟩ ?_
 cases b1
 ·
  refine Run.condF rfl ?_
  refine Run.skip ?_
  refine Run.seq ?_
  refine Run.reg ?_
  refine op (OpS.litO (r := (Rep.int .u8)) (f := true) h Try.underlying34 ti5 rfl rfl rfl rfl rfl .nil rfl rfl (fun u1 w1 h1 => ?_))
  refine op (OpS.mv rfl rfl rfl ?_)
  obtain ⟨x1, e1, hF⟩ := bindP_use hF
  refine op (OpS.app (f' := false) h1 .z Try.underlying34 ti5 rfl rfl rfl rfl rfl rfl rfl (V.at .z) (.inr Pure.int) e1 (fun u2 w2 h2 => ?_))
  refine op (OpS.as rfl rfl rfl ?_)
  refine RunL.nil ?_
  refine Run.slim [(2, u2)] ⟨rfl, trivial⟩ ?_
  refine Run.retP rfl (.tmp rfl .nil) ?_
  cases hF
  exact Post.mk' ⟨u2, rfl, rfl, rfl, rfl⟩ (h2.picks (.cons .z .nil)) .nil
 ·
  obtain rfl := hb1 rfl
  have hF : some ([] : List Int) = some y := by simpa [bindP, app] using hF
  refine Run.condT rfl ?_
  refine Run.seq ?_
  refine Run.reg ?_
  refine op (OpS.as rfl rfl rfl ?_)
  refine RunL.nil ?_
  refine Run.slim [(2, .slice none 0 0)] ⟨rfl, trivial⟩ ?_
  have h3 := St.nil 5 (Rep.int .u8) h
  refine Run.retP rfl (.tmp rfl .nil) ?_
  cases hF
  exact Post.mk' ⟨(.slice none 0 0), rfl, rfl, rfl, rfl⟩ (h3.picks (.cons .z .nil)) .nil
theorem checksum_CRC8_ok {fuel : Nat} {a0 : List Int} {y : Int} (hF : checksum_CRC8 fuel a0 = some y) {w : World} {v0 : Value} :
  Spec Try.prog 59 [v0].toArray w [(false, .val (Rep.slice (Rep.int .u8)) v0 a0)] [] (fun v Γr Ωr Ωo => v = .int .u8 y ∧ Γr = [] ∧ Ωr = [] ∧ Ωo = []) := by
 refine Spec.of (L := [(0, v0)]) Try.func59 rfl ⟨rfl, trivial⟩ rfl (fun e h => ?_)
 unfold checksum_CRC8 at hF
 refine Run.seq ?_
 refine Run.reg ?_
 refine op (OpS.as rfl rfl rfl ?_)
 refine RunL.nil ?_
 refine Run.slim [(0, v0)] ⟨rfl, trivial⟩ ?_
 refine Run.seq ?_
 refine Run.reg ?_
 refine op (OpS.as rfl rfl rfl ?_)
 refine RunL.nil ?_
 refine Run.seq ?_
 refine Run.seq ?_
 refine Run.reg ?_
 refine op (OpS.mv rfl rfl rfl ?_)
 refine op (OpS.len h Try.underlying34 rfl rfl rfl (V.at .z) ?_)
 refine op (OpS.mv rfl rfl rfl ?_)
 refine RunL.nil ?_
 refine Run.slim [(9, .int .i64 0), (8, .int .i64 (a0.length : Int)), (7, v0), (3, .int .u8 0)] ⟨rfl, rfl, rfl, rfl, trivial⟩ ?_
 refine Run.block ?_
 refine Run.slim [(3, .int .u8 0), (7, v0), (8, .int .i64 (a0.length : Int)), (9, .int .i64 0)] ⟨rfl, rfl, rfl, rfl, trivial⟩ ?_
 refine Run.loopP (σ := (Int × Int)) (fun s_ L_ w_ => L_ = [(3, .int .u8 s_.1), (7, v0), (8, .int .i64 (a0.length : Int)), (9, .int .i64 s_.2)] ∧ St e w_ [(false, .val (Rep.slice (Rep.int .u8)) v0 a0)] []) hF ⟨rfl, (h.facts (.atm .z .nil)).picks .nil⟩ (fun k1 hk1 s1 _ w1 hI hF => ?_)
 obtain ⟨rfl, h1⟩ := hI
 refine Run.seq ?_
 refine Run.reg ?_
 refine op (OpS.bin rfl rfl rfl rfl rfl ?_)
 refine RunL.nil ?_
 refine Run.seq ?_
 refine Run.ite rfl hF (fun e1 hF => ?_) (fun e1 hF => ?_)
 ·
  refine Run.skip ?_
  refine Run.seq ?_
  refine Run.block ?_
  refine Run.seq ?_
  refine Run.reg ?_
  obtain ⟨x1, e2, hF⟩ := bindP_use hF
  refine op (OpS.iptr h1 Try.underlying34 ty5 rfl rfl rfl rfl (V.at .z) e2 (fun u1 h2 => ?_))
  refine op (OpS.loadi h2 ty5 rfl rfl rfl .z ?_)
  refine op (OpS.as rfl rfl rfl ?_)
  refine RunL.nil ?_
  refine Run.slim [(5, .int .u8 x1), (3, .int .u8 s1.1), (7, v0), (8, .int .i64 (a0.length : Int)), (9, .int .i64 s1.2)] ⟨rfl, rfl, rfl, rfl, rfl, trivial⟩ ?_
  refine Run.seq ?_
  refine Run.reg ?_
  refine op (OpS.mv rfl rfl rfl ?_)
  refine op (OpS.mv rfl rfl rfl ?_)
  refine op (OpS.bin rfl rfl rfl rfl rfl ?_)
  refine op (OpS.as rfl rfl rfl ?_)
  refine RunL.nil ?_
  refine Run.slim [(3, .int .u8 (bXor .u8 s1.1 x1)), (7, v0), (8, .int .i64 (a0.length : Int)), (9, .int .i64 s1.2)] ⟨rfl, rfl, rfl, rfl, trivial⟩ ?_
  refine Run.seq ?_
  refine Run.reg ?_
  refine op (OpS.mv rfl rfl rfl ?_)
  refine RunL.nil ?_
  refine Run.block ?_
  refine Run.slim [(3, .int .u8 (bXor .u8 s1.1 x1)), (7, v0), (8, .int .i64 (a0.length : Int)), (9, .int .i64 s1.2), (16, .int .i64 0)] ⟨rfl, rfl, rfl, rfl, rfl, trivial⟩ ?_
  refine Run.loopP (σ := (Int × Int)) (fun s_ L_ w_ => L_ = [(3, .int .u8 s_.1), (7, v0), (8, .int .i64 (a0.length : Int)), (9, .int .i64 s1.2), (16, .int .i64 s_.2)] ∧ St e w_ [(false, .val (Rep.slice (Rep.int .u8)) v0 a0)] []) hF ⟨rfl, (h2.facts (.atm (.s .z) .nil)).picks .nil⟩ (fun k2 hk2 s2 _ w2 hI hF => ?_)
  obtain ⟨rfl, h3⟩ := hI
  refine Run.seq ?_
  refine Run.reg ?_
  refine op (OpS.bin rfl rfl rfl rfl rfl ?_)
  refine RunL.nil ?_
  refine Run.seq ?_
  refine Run.ite rfl hF (fun e3 hF => ?_) (fun e3 hF => ?_)
  ·
   refine Run.skip ?_
   refine Run.seq ?_
   refine Run.block ?_
   refine Run.seq ?_
   refine Run.reg ?_
   refine op (OpS.mv rfl rfl rfl ?_)
   refine op (OpS.shr rfl rfl rfl rfl (by decide) ?_)
   refine op (OpS.as rfl rfl rfl ?_)
   refine RunL.nil ?_
   refine Run.slim [(6, .int .u8 (bShr .u8 s2.1 7)), (3, .int .u8 s2.1), (7, v0), (8, .int .i64 (a0.length : Int)), (9, .int .i64 s1.2), (16, .int .i64 s2.2)] ⟨rfl, rfl, rfl, rfl, rfl, rfl, trivial⟩ ?_
   refine Run.reg ?_
   refine op (OpS.mv rfl rfl rfl ?_)
   refine op (OpS.shl rfl rfl rfl rfl (by decide) ?_)
   refine op (OpS.mv rfl rfl rfl ?_)
   refine op (OpS.bin rfl rfl rfl rfl rfl ?_)
   refine op (OpS.bin rfl rfl rfl rfl rfl ?_)
   refine op (OpS.as rfl rfl rfl ?_)
   obtain ⟨x2, e4, hF⟩ := letP_use hF
   refine RunL.name e4 ?_
   refine RunL.nil ?_
   refine Run.slim [(3, .int .u8 x2), (7, v0), (8, .int .i64 (a0.length : Int)), (9, .int .i64 s1.2), (16, .int .i64 s2.2)] ⟨rfl, rfl, rfl, rfl, rfl, trivial⟩ ?_
   refine Run.endBlock ?_
   refine Run.reg ?_
   refine op (OpS.bin rfl rfl rfl rfl rfl ?_)
   refine op (OpS.mv rfl rfl rfl ?_)
   refine RunL.nil ?_
   refine Run.slim [(16, .int .i64 (IntKind.i64.wrap (s2.2 + 1))), (3, .int .u8 x2), (7, v0), (8, .int .i64 (a0.length : Int)), (9, .int .i64 s1.2)] ⟨rfl, rfl, rfl, rfl, rfl, trivial⟩ ?_
   refine Run.slim [(3, .int .u8 x2), (7, v0), (8, .int .i64 (a0.length : Int)), (9, .int .i64 s1.2), (16, .int .i64 (IntKind.i64.wrap (s2.2 + 1)))] ⟨rfl, rfl, rfl, rfl, rfl, trivial⟩ ?_
   exact hk2 (x2, (IntKind.i64.wrap (s2.2 + 1))) _ _ ⟨rfl, (h3.facts (.atm .z .nil)).picks .nil⟩ hF
  ·
   refine Run.exit rfl ?_
   refine Run.endBlock ?_
   refine Run.reg ?_
   refine op (OpS.bin rfl rfl rfl rfl rfl ?_)
   refine op (OpS.mv rfl rfl rfl ?_)
   refine RunL.nil ?_
   refine Run.slim [(9, .int .i64 (IntKind.i64.wrap (s1.2 + 1))), (3, .int .u8 s2.1), (7, v0), (8, .int .i64 (a0.length : Int))] ⟨rfl, rfl, rfl, rfl, trivial⟩ ?_
   refine Run.slim [(3, .int .u8 s2.1), (7, v0), (8, .int .i64 (a0.length : Int)), (9, .int .i64 (IntKind.i64.wrap (s1.2 + 1)))] ⟨rfl, rfl, rfl, rfl, trivial⟩ ?_
   exact hk1 (s2.1, (IntKind.i64.wrap (s1.2 + 1))) _ _ ⟨rfl, (h3.facts (.atm .z .nil)).picks .nil⟩ hF
 ·
  refine Run.exit rfl ?_
  refine Run.seq ?_
  refine Run.reg ?_
  refine op (OpS.mv rfl rfl rfl ?_)
  refine op (OpS.as rfl rfl rfl ?_)
  refine RunL.nil ?_
  refine Run.slim [(2, .int .u8 s1.1)] ⟨rfl, trivial⟩ ?_
  refine Run.retP rfl (.tmp rfl .nil) ?_
  cases hF
  exact Post.mk' ⟨rfl, rfl, rfl, rfl⟩ (h1.picks .nil) .nil
theorem checksum_SealCRC8_ok {fuel : Nat} {a0 : List Int} {y : (List Int)} (hF : checksum_SealCRC8 fuel a0 = some y) {w : World} {v0 : Value} :
  Spec Try.prog 49 [v0].toArray w [(false, .val (Rep.slice (Rep.int .u8)) v0 a0)] [] (fun v Γr Ωr Ωo => ∃ u0 : Value, v = u0 ∧ Γr = [] ∧ Ωr = [(true, (.slice 5 (Rep.int .u8) u0 y))] ∧ Ωo = []) := by
 refine Spec.of (L := [(0, v0)]) Try.func49 rfl ⟨rfl, trivial⟩ rfl (fun e h => ?_)
 unfold checksum_SealCRC8 at hF
 refine Run.seq ?_
 refine Run.reg ?_
 refine op (OpS.as rfl rfl rfl ?_)
 refine RunL.nil ?_
 refine Run.slim [(0, v0)] ⟨rfl, trivial⟩ ?_
 refine Run.seq ?_
 refine Run.reg ?_
 refine op (OpS.mv rfl rfl rfl ?_)
 obtain ⟨y1, e1, hF⟩ := bindP_use hF
 refine op (OpS.callP h Try.func51 rfl rfl rfl rfl (vs := [v0]) rfl (slices_Clone_byte_byte_ok e1) (.cons (f := false) (V.at .z) .nil) ?_)
 rintro u1 w1 _ _ _ ⟨_, rfl, rfl, rfl, rfl⟩ h1
 have h2 := h1 rfl rfl
 simp only [List.cons_append, List.nil_append] at h2
 refine op (OpS.mv rfl rfl rfl ?_)
 obtain ⟨y2, e2, hF⟩ := bindP_use hF
 refine op (OpS.callP h2 Try.func59 rfl rfl rfl rfl (vs := [v0]) rfl (checksum_CRC8_ok e2) (.cons (f := false) (V.at .z) .nil) ?_)
 rintro _ w2 _ _ _ ⟨rfl, rfl, rfl, rfl⟩ h3
 have h4 := h3 rfl rfl
 simp only [List.cons_append, List.nil_append] at h4
 refine op (OpS.lit (r := (Rep.int .u8)) (f := true) h4 Try.underlying34 ti5 rfl rfl rfl rfl rfl (.cons rfl V.int .nil) rfl rfl (fun u2 w3 h5 => ?_))
 obtain ⟨x1, e3, hF⟩ := bindP_use hF
 refine op (OpS.app (f' := true) h5 .z Try.underlying34 ti5 rfl rfl rfl rfl rfl rfl rfl (V.at .z) (.inr Pure.int) e3 (fun u3 w4 h6 => ?_))
 refine op (OpS.as rfl rfl rfl ?_)
 refine RunL.nil ?_
 refine Run.slim [(2, u3)] ⟨rfl, trivial⟩ ?_
 refine Run.retP rfl (.tmp rfl .nil) ?_
 cases hF
 exact Post.mk' ⟨u3, rfl, rfl, rfl, rfl⟩ (h6.picks (.cons .z .nil)) .nil
theorem frame_Encode_ok {fuel : Nat} {a0 : Frame_} {y : (List Int) × Int} (hF : frame_Encode fuel a0 = some y) {w : World} {v0 : Value} :
  Spec Try.prog 28 [v0].toArray w [(false, .val Frame_.rep v0 a0)] [] (fun v Γr Ωr Ωo => ∃ u0 : Value, v = .tuple #[u0, .int .i64 y.2] ∧ Γr = [] ∧ Ωr = [(true, (.slice 5 (Rep.int .u8) u0 y.1))] ∧ Ωo = []) := by
 refine Spec.of (L := [(0, v0)]) Try.func28 rfl ⟨rfl, trivial⟩ rfl (fun e h => ?_)
 unfold frame_Encode at hF
 refine Run.seq ?_
 refine Run.reg ?_
 refine op (OpS.boxF h rfl rfl rfl (V.at .z) (fun u1 w1 h1 => ?_))
 refine op (OpS.as rfl rfl rfl ?_)
 refine op (OpS.as rfl rfl rfl ?_)
 refine RunL.nil ?_
 refine Run.slim [(1, u1)] ⟨rfl, trivial⟩ ?_
 refine Run.seq ?_
 refine Run.seq ?_
 refine Run.reg ?_
 refine op (OpS.loadB h1 .z PA.z Get.id ty36 rfl rfl rfl (fun u2 h2 => ?_))
 obtain ⟨y1, e1, hF⟩ := bindP_use hF
 refine op (OpS.callP h2 Try.func48 rfl rfl rfl rfl (vs := [u2]) rfl (frame_Valid_ok e1) (.cons (f := false) (V.at .z) .nil) ?_)
 rintro _ w2 _ _ _ ⟨rfl, rfl, rfl, rfl⟩ h3
 have h4 := h3 rfl rfl
 simp only [List.cons_append, List.nil_append] at h4
 refine op (OpS.not rfl rfl rfl ?_)
 refine RunL.nil ?_
 refine Run.slim [(6, .bool (!y1)), (1, u1)] ⟨rfl, rfl, trivial⟩ ?_
 refine Run.ite rfl hF (fun e2 hF => ?_) (fun e2 hF => ?_)
 ·
  refine Run.seq ?_
  refine Run.reg ?_
  refine op (OpS.as rfl rfl rfl ?_)
  refine op (OpS.as rfl rfl rfl ?_)
  refine RunL.nil ?_
  refine Run.slim [(3, .int .i64 1), (2, .slice none 0 0)] ⟨rfl, rfl, trivial⟩ ?_
  have h5 := St.nil 5 (Rep.int .u8) h4
  refine Run.retP rfl (.tmp rfl (.tmp rfl .nil)) ?_
  cases hF
  exact Post.mk' ⟨(.slice none 0 0), rfl, rfl, rfl, rfl⟩ (h5.picks (.cons .z .nil)) .nil
 ·
  refine Run.skip ?_
  refine Run.seq ?_
  refine Run.reg ?_
  refine op (OpS.fbox (o3 := 0) h4 .z PA.z fa36_0 rfl rfl rfl rfl ?_)
  refine op (OpS.loadBi h4 .z PA.a (Get.fld Frame_.f0) ty5 rfl rfl rfl ?_)
  refine op (OpS.bin rfl rfl rfl rfl rfl ?_)
  refine op (OpS.fbox (o3 := 2) h4 .z PA.z fa36_2 rfl rfl rfl rfl ?_)
  refine op (OpS.loadB h4 .z PA.a (Get.fld Frame_.f2) ty34 rfl rfl rfl (fun u3 h6 => ?_))
  refine op (OpS.len h6 Try.underlying34 rfl rfl rfl (V.at .z) ?_)
  refine op (OpS.bin rfl rfl rfl rfl rfl ?_)
  refine op (OpS.conv Try.underlying3 Try.underlying5 rfl rfl rfl ?_)
  refine op (OpS.fbox (o3 := 1) h6 .z PA.z fa36_1 rfl rfl rfl rfl ?_)
  refine op (OpS.loadBi h6 .z PA.a (Get.fld Frame_.f1) ty5 rfl rfl rfl ?_)
  refine op (OpS.bin rfl rfl rfl rfl rfl ?_)
  refine op (OpS.bin rfl rfl rfl rfl rfl ?_)
  refine op (OpS.litO (r := (Rep.int .u8)) (f := true) h6 Try.underlying34 ti5 rfl rfl rfl rfl rfl (.cons rfl V.int (.cons rfl V.int (.cons rfl V.int (.cons rfl V.int .nil)))) rfl rfl (fun u4 w3 h7 => ?_))
  refine op (OpS.fbox (o3 := 2) h7 (.s .z) PA.z fa36_2 rfl rfl rfl rfl ?_)
  refine op (OpS.loadB h7 (.s .z) PA.a (Get.fld Frame_.f2) ty34 rfl rfl rfl (fun u5 h8 => ?_))
  obtain ⟨x1, e3, hF⟩ := bindP_use hF
  refine op (OpS.app (f' := false) h8 .z Try.underlying34 ti5 rfl rfl rfl rfl rfl rfl rfl (V.at .z) (.inr Pure.int) e3 (fun u6 w4 h9 => ?_))
  obtain ⟨y2, e4, hF⟩ := bindP_use hF
  refine op (OpS.callP h9 Try.func49 rfl rfl rfl rfl (vs := [u6]) rfl (checksum_SealCRC8_ok e4) (.own .z .nil) ?_)
  rintro u7 w5 _ _ _ ⟨_, rfl, rfl, rfl, rfl⟩ h10
  have h11 := h10 rfl rfl
  simp only [List.cons_append, List.nil_append] at h11
  refine op (OpS.as rfl rfl rfl ?_)
  refine op (OpS.as rfl rfl rfl ?_)
  refine RunL.nil ?_
  refine Run.slim [(3, .int .i64 0), (2, u7)] ⟨rfl, rfl, trivial⟩ ?_
  refine Run.retP rfl (.tmp rfl (.tmp rfl .nil)) ?_
  cases hF
  exact Post.mk' ⟨u7, rfl, rfl, rfl, rfl⟩ (h11.picks (.cons .z .nil)) .nil
set_option maxHeartbeats 8000000 in
theorem bus_Bus_Submit_ok {fuel : Nat} {a0 : bus_Bus} {a1 : Int} {a2 : Frame_} {y : Int × bus_Bus} (hF : bus_Bus_Submit fuel a0 a1 a2 = some y) {w : World} {v0 v0_0 v2 : Value} :
  Spec Try.prog 16 [v0, .int .i64 a1, v2].toArray w [(false, .val Frame_.rep v2 a2)] [(false, .box 76 (Rep.iso (fun s : bus_Bus => (s.masters, ())) (Rep.prod (Rep.raw (α := List bus_master) v0_0) Rep.unit)) v0 a0), (false, .oval (oslice 85 3 (fun _ => bus_master.orep)) v0_0 a0.masters)] (fun v Γr Ωr Ωo => ∃ w0_0 : Value, v = .int .i64 y.1 ∧ Γr = [] ∧ Ωr = [] ∧ Ωo = [(false, .box 76 (Rep.iso (fun s : bus_Bus => (s.masters, ())) (Rep.prod (Rep.raw (α := List bus_master) w0_0) Rep.unit)) v0 y.2), (false, (.oval (oslice 85 3 (fun _ => bus_master.orep)) w0_0 y.2.masters))]) := by
 refine Spec.of (L := [(0, v0), (1, .int .i64 a1), (2, v2)]) Try.func16 rfl ⟨rfl, rfl, rfl, trivial⟩ rfl (fun e h => ?_)
 unfold bus_Bus_Submit at hF
 refine Run.seq ?_
 refine Run.reg ?_
 refine op (OpS.boxF h rfl rfl rfl (V.at .z) (fun u1 w1 h1 => ?_))
 refine op (OpS.as rfl rfl rfl ?_)
 refine RunL.nil ?_
 refine Run.slim [(5, u1), (0, v0), (1, .int .i64 a1)] ⟨rfl, rfl, rfl, trivial⟩ ?_
 refine Run.seq ?_
 refine Run.seq ?_
 refine Run.reg ?_
 refine op (OpS.mv rfl rfl rfl ?_)
 refine op (OpS.mv rfl rfl rfl ?_)
 obtain ⟨y1, e1, hF⟩ := bindP_use hF
 have h2 := h1.front (.cons (.s .z) (.cons (.s .z) .nil))
 refine op (OpS.callO h2 Try.func35 rfl rfl rfl rfl (vs := [v0, .int .i64 a1]) rfl (bus_Bus_there_ok e1) rfl .nil ?_)
 rintro _ w2 _ _ _ ⟨rfl, rfl, rfl, rfl⟩ h3
 have h4 := h3
 simp only [List.cons_append, List.nil_append] at h4
 refine op (OpS.not rfl rfl rfl ?_)
 refine RunL.nil ?_
 refine Run.slim [(12, .bool (!y1)), (5, u1), (0, v0), (1, .int .i64 a1)] ⟨rfl, rfl, rfl, rfl, trivial⟩ ?_
 refine Run.ite rfl hF (fun e2 hF => ?_) (fun e2 hF => ?_)
 ·
  refine Run.seq ?_
  refine Run.reg ?_
  refine op (OpS.as rfl rfl rfl ?_)
  refine RunL.nil ?_
  refine Run.slim [(6, .int .i64 2)] ⟨rfl, trivial⟩ ?_
  refine Run.retP rfl (.tmp rfl .nil) ?_
  cases hF
  exact Post.mk' ⟨v0_0, rfl, rfl, rfl, rfl⟩ (h4.picks (.cons .z (.cons .z .nil))) .nil
 ·
  refine Run.skip ?_
  refine Run.seq ?_
  refine Run.reg ?_
  refine op (OpS.loadB h4 (.s (.s .z)) PA.z Get.id ty36 rfl rfl rfl (fun u2 h5 => ?_))
  obtain ⟨y2, e3, hF⟩ := bindP_use hF
  refine op (OpS.callP h5 Try.func28 rfl rfl rfl rfl (vs := [u2]) rfl (frame_Encode_ok e3) (.cons (f := false) (V.at .z) .nil) ?_)
  rintro _ w3 _ _ _ ⟨u3, rfl, rfl, rfl, rfl⟩ h6
  have h7 := h6 rfl rfl
  simp only [List.cons_append, List.nil_append] at h7
  refine op (OpS.mv rfl rfl rfl ?_)
  refine op (OpS.ext rfl rfl rfl rfl ?_)
  refine op (OpS.ext rfl rfl rfl rfl ?_)
  refine op (OpS.as rfl rfl rfl ?_)
  have h8 := (h7.pick .z).freeze
  refine op (OpS.as rfl rfl rfl ?_)
  refine RunL.nil ?_
  refine Run.slim [(8, .int .i64 y2.2), (7, u3), (0, v0), (1, .int .i64 a1)] ⟨rfl, rfl, rfl, rfl, trivial⟩ ?_
  refine Run.seq ?_
  refine Run.block ?_
  refine Run.seq ?_
  refine Run.reg ?_
  refine op (OpS.mv rfl rfl rfl ?_)
  refine op (OpS.bin rfl rfl rfl rfl rfl ?_)
  refine op (OpS.as rfl rfl rfl ?_)
  obtain ⟨x1, e4, hF⟩ := letP_use hF
  refine RunL.nameb e4 ?_
  refine RunL.nil ?_
  refine Run.slim [(18, .bool x1), (7, u3), (0, v0), (1, .int .i64 a1)] ⟨rfl, rfl, rfl, rfl, trivial⟩ ?_
  refine Run.ite rfl hF (fun e5 hF => ?_) (fun e5 hF => ?_)
  ·
   refine Run.seq ?_
   refine Run.reg ?_
   refine op (OpS.as rfl rfl rfl ?_)
   refine RunL.nil ?_
   refine Run.slim [(6, .int .i64 1)] ⟨rfl, trivial⟩ ?_
   refine Run.retP rfl (.tmp rfl .nil) ?_
   cases hF
   exact Post.mk' ⟨v0_0, rfl, rfl, rfl, rfl⟩ (h8.picks (.cons .z (.cons .z .nil))) .nil
  ·
   refine Run.seq ?_
   refine Run.reg ?_
   refine op (OpS.mv rfl rfl rfl ?_)
   refine op (OpS.nchk h8 .z rfl rfl rfl ?_)
   refine op (OpS.fbox (o3 := 0) h8 .z PA.z fa76_0 rfl rfl rfl rfl ?_)
   refine op (OpS.loadR h8 .z PA.a (GetS.ok (GetS.iso _ (GetS.here GetS.id))) ty74 rfl rfl rfl rfl rfl ?_)
   refine op (OpS.mv rfl rfl rfl ?_)
   obtain ⟨x2, e6, hF⟩ := bindP_use hF
   refine op (OpS.iownD h8 (.s .z) Try.underlying74 sz85 rfl rfl rfl rfl e6 ?_)
   refine op (OpS.fownD h8 (.s .z) (idx_ne e6) PA.a fa85_0 rfl rfl rfl ?_)
   refine op (OpS.loadS (fr := Rep.hollow) h8 (.s .z) bus_master.wk rfl (idx_ne e6) PA.a (Get.comp (Get.arr e6) (GetS.ok (GetS.iso _ (GetS.here GetS.id)))) (Ty.like ty59 (by rfl) (by rfl)) rfl rfl rfl (fun u4 h9 => ?_))
   refine op (OpS.lenH h9 Try.underlying59 rfl rfl rfl (V.at .z) ?_)
   refine op (OpS.bin rfl rfl rfl rfl rfl ?_)
   refine op (OpS.as rfl rfl rfl ?_)
   obtain ⟨x3, e7, hF⟩ := letP_use hF
   refine RunL.nameb e7 ?_
   refine RunL.nil ?_
   refine Run.slim [(21, .bool x3), (7, u3), (0, v0), (1, .int .i64 a1)] ⟨rfl, rfl, rfl, rfl, trivial⟩ ?_
   refine Run.ite rfl hF (fun e8 hF => ?_) (fun e8 hF => ?_)
   ·
    refine Run.seq ?_
    refine Run.reg ?_
    refine op (OpS.as rfl rfl rfl ?_)
    refine RunL.nil ?_
    refine Run.slim [(6, .int .i64 9)] ⟨rfl, trivial⟩ ?_
    refine Run.retP rfl (.tmp rfl .nil) ?_
    cases hF
    exact Post.mk' ⟨v0_0, rfl, rfl, rfl, rfl⟩ (h9.picks (.cons .z (.cons .z .nil))) .nil
   ·
    refine Run.skip ?_
    refine Run.endBlock ?_
    refine Run.seq ?_
    obtain ⟨x4, e9, hF⟩ := bindP_use hF
    obtain ⟨x5, e10, hF⟩ := bindP_use hF
    refine Run.drawV (Ωs := [(false, .box 36 Frame_.rep u1 a2)]) [⟨some 32, some (v0), fun _ => [], fun ds_ u_ => [], [], [], none⟩, ⟨some 33, some (v0), fun _ => [], fun ds_ u_ => [], [], [(0, [])], none⟩, ⟨some 34, some ((padd v0 0)), fun _ => [], fun ds_ u_ => [], [], [(0, [])], none⟩, ⟨some 35, some (v0_0), fun _ => [], fun ds_ u_ => [], [], [(0, [])], none⟩, ⟨some 36, some (.int .i64 a1), fun _ => [], fun ds_ u_ => [], [], [], none⟩, ⟨some 37, some (v0), fun _ => [], fun ds_ u_ => [], [], [], none⟩, ⟨some 38, some (v0), fun _ => [], fun ds_ u_ => [], [], [(0, [])], none⟩, ⟨some 39, some ((padd v0 0)), fun _ => [], fun ds_ u_ => [], [], [(0, [])], none⟩, ⟨some 40, some (v0_0), fun _ => [], fun ds_ u_ => [], [], [(0, [])], none⟩, ⟨some 41, some (.int .i64 a1), fun _ => [], fun ds_ u_ => [], [], [], none⟩, ⟨some 42, some ((padd (sp v0_0) ((a1 : Int).toNat * 3))), fun _ => [], fun ds_ u_ => [], [], [(1, [12, 11, 10])], none⟩, ⟨some 43, some ((padd (sp v0_0) ((a1 : Int).toNat * 3 + 0))), fun _ => [], fun ds_ u_ => [], [], [(1, [12, 11])], none⟩, ⟨some 44, none, fun u_ => [], fun ds_ u_ => [(false, .oval (oslice 85 3 (at' (fun _ => bus_master.orep) (a1).toNat (bus_master.orepW (raw u_)))) v0_0 a0.masters), (false, .oval (oslice 34 1 (fun _ => (sh (Rep.slice (Rep.int .u8))))) u_ x4.queue)], [1], [], none⟩, ⟨some 45, some (u3), fun _ => [], fun ds_ u_ => [], [], [], none⟩, ⟨some 46, none, fun u_ => [(true, .val (Rep.slice (Rep.slice (Rep.int .u8))) u_ ([y2.1]))], fun ds_ u_ => [], [], [], none⟩, ⟨some 47, none, fun u_ => [], fun ds_ u_ => [(false, .oval (oslice 85 3 (at' (fun _ => bus_master.orep) (a1).toNat (bus_master.orepW (raw (nth ds_ 0))))) v0_0 a0.masters), (false, .oval (oslice 34 1 (fun _ => (sh (Rep.slice (Rep.int .u8))))) u_ x5)], [14], [], none⟩] [[], [0], [1], [2], [], [], [5], [6], [7], [], [8, 9], [10], [11], [], [13], [12, 14]] [[(false, .box 76 (Rep.iso (fun s : bus_Bus => (s.masters, ())) (Rep.prod (Rep.raw (α := List bus_master) v0_0) Rep.unit)) v0 a0)], [(false, .oval (oslice 85 3 (fun _ => bus_master.orep)) v0_0 a0.masters)]] [0, 2, 3, 4, 5, 6, 7, 8, 9, 10, 11, 12, 13, 15, 16, 17] Try_mixed rfl rfl rfl h9 (.cons ?_ (.cons ?_ (.cons ?_ (.cons ?_ (.cons ?_ (.cons ?_ (.cons ?_ (.cons ?_ (.cons ?_ (.cons ?_ (.cons ?_ (.cons ?_ (.cons ?_ (.cons ?_ (.cons ?_ (.cons ?_ .nil)))))))))))))))) (fun q1 w hq1 h => ?_)
    ·intro q1 w Γx Ωx h
     refine OpS.mv rfl rfl rfl ?_
     exact ⟨undef, rfl, trivial, h⟩
    ·intro q1 w Γx Ωx h
     have h : St e w ([(false, .val Rep.hollow u4 x2.queue), (true, .val (Rep.slice (Rep.int .u8)) u3 y2.1), (false, .val Frame_.rep u2 a2), (false, .val Frame_.rep v2 a2)] ++ Γx) ([(false, .box 76 (Rep.iso (fun s : bus_Bus => (s.masters, ())) (Rep.prod (Rep.raw (α := List bus_master) v0_0) Rep.unit)) v0 a0), (false, .box 36 Frame_.rep u1 a2)] ++ Ωx) := h
     refine OpS.nchk h .z rfl rfl rfl ?_
     exact ⟨undef, rfl, trivial, h⟩
    ·intro q1 w Γx Ωx h
     have h : St e w ([(false, .val Rep.hollow u4 x2.queue), (true, .val (Rep.slice (Rep.int .u8)) u3 y2.1), (false, .val Frame_.rep u2 a2), (false, .val Frame_.rep v2 a2)] ++ Γx) ([(false, .box 76 (Rep.iso (fun s : bus_Bus => (s.masters, ())) (Rep.prod (Rep.raw (α := List bus_master) v0_0) Rep.unit)) v0 a0), (false, .box 36 Frame_.rep u1 a2)] ++ Ωx) := h
     refine OpS.fbox (o3 := 0) h .z PA.z fa76_0 rfl rfl rfl rfl ?_
     exact ⟨undef, rfl, trivial, h⟩
    ·intro q1 w Γx Ωx h
     have h : St e w ([(false, .val Rep.hollow u4 x2.queue), (true, .val (Rep.slice (Rep.int .u8)) u3 y2.1), (false, .val Frame_.rep u2 a2), (false, .val Frame_.rep v2 a2)] ++ Γx) ([(false, .box 76 (Rep.iso (fun s : bus_Bus => (s.masters, ())) (Rep.prod (Rep.raw (α := List bus_master) v0_0) Rep.unit)) v0 a0), (false, .box 36 Frame_.rep u1 a2)] ++ Ωx) := h
     refine OpS.loadR h .z PA.a (GetS.ok (GetS.iso _ (GetS.here GetS.id))) ty74 rfl rfl rfl rfl rfl ?_
     exact ⟨undef, rfl, trivial, h⟩
    ·intro q1 w Γx Ωx h
     refine OpS.mv rfl rfl rfl ?_
     exact ⟨undef, rfl, trivial, h⟩
    ·intro q1 w Γx Ωx h
     refine OpS.mv rfl rfl rfl ?_
     exact ⟨undef, rfl, trivial, h⟩
    ·intro q1 w Γx Ωx h
     have h : St e w ([(false, .val Rep.hollow u4 x2.queue), (true, .val (Rep.slice (Rep.int .u8)) u3 y2.1), (false, .val Frame_.rep u2 a2), (false, .val Frame_.rep v2 a2)] ++ Γx) ([(false, .box 76 (Rep.iso (fun s : bus_Bus => (s.masters, ())) (Rep.prod (Rep.raw (α := List bus_master) v0_0) Rep.unit)) v0 a0), (false, .box 36 Frame_.rep u1 a2)] ++ Ωx) := h
     refine OpS.nchk h .z rfl rfl rfl ?_
     exact ⟨undef, rfl, trivial, h⟩
    ·intro q1 w Γx Ωx h
     have h : St e w ([(false, .val Rep.hollow u4 x2.queue), (true, .val (Rep.slice (Rep.int .u8)) u3 y2.1), (false, .val Frame_.rep u2 a2), (false, .val Frame_.rep v2 a2)] ++ Γx) ([(false, .box 76 (Rep.iso (fun s : bus_Bus => (s.masters, ())) (Rep.prod (Rep.raw (α := List bus_master) v0_0) Rep.unit)) v0 a0), (false, .box 36 Frame_.rep u1 a2)] ++ Ωx) := h
     refine OpS.fbox (o3 := 0) h .z PA.z fa76_0 rfl rfl rfl rfl ?_
     exact ⟨undef, rfl, trivial, h⟩
    ·intro q1 w Γx Ωx h
     have h : St e w ([(false, .val Rep.hollow u4 x2.queue), (true, .val (Rep.slice (Rep.int .u8)) u3 y2.1), (false, .val Frame_.rep u2 a2), (false, .val Frame_.rep v2 a2)] ++ Γx) ([(false, .box 76 (Rep.iso (fun s : bus_Bus => (s.masters, ())) (Rep.prod (Rep.raw (α := List bus_master) v0_0) Rep.unit)) v0 a0), (false, .box 36 Frame_.rep u1 a2)] ++ Ωx) := h
     refine OpS.loadR h .z PA.a (GetS.ok (GetS.iso _ (GetS.here GetS.id))) ty74 rfl rfl rfl rfl rfl ?_
     exact ⟨undef, rfl, trivial, h⟩
    ·intro q1 w Γx Ωx h
     refine OpS.mv rfl rfl rfl ?_
     exact ⟨undef, rfl, trivial, h⟩
    ·intro q1 w Γx Ωx h
     have h : St e w ([(false, .val Rep.hollow u4 x2.queue), (true, .val (Rep.slice (Rep.int .u8)) u3 y2.1), (false, .val Frame_.rep u2 a2), (false, .val Frame_.rep v2 a2)] ++ Γx) ([(false, .oval (oslice 85 3 (fun _ => bus_master.orep)) v0_0 a0.masters), (false, .box 36 Frame_.rep u1 a2)] ++ Ωx) := h
     refine OpS.iownD h .z Try.underlying74 sz85 rfl rfl rfl rfl e9 ?_
     exact ⟨undef, rfl, trivial, h⟩
    ·intro q1 w Γx Ωx h
     have h : St e w ([(false, .val Rep.hollow u4 x2.queue), (true, .val (Rep.slice (Rep.int .u8)) u3 y2.1), (false, .val Frame_.rep u2 a2), (false, .val Frame_.rep v2 a2)] ++ Γx) ([(false, .oval (oslice 85 3 (fun _ => bus_master.orep)) v0_0 a0.masters), (false, .box 36 Frame_.rep u1 a2)] ++ Ωx) := h
     refine OpS.fownD h .z (idx_ne e9) PA.a fa85_0 rfl rfl rfl ?_
     exact ⟨undef, rfl, trivial, h⟩
    ·intro q1 w Γx Ωx h
     have h : St e w ([(false, .val Rep.hollow u4 x2.queue), (true, .val (Rep.slice (Rep.int .u8)) u3 y2.1), (false, .val Frame_.rep u2 a2), (false, .val Frame_.rep v2 a2)] ++ Γx) ([(false, .oval (oslice 85 3 (fun _ => bus_master.orep)) v0_0 a0.masters), (false, .box 36 Frame_.rep u1 a2)] ++ Ωx) := h
     refine OpS.openO (F' := fun v_ => at' (fun _ => bus_master.orep) (a1).toNat (bus_master.orepW (raw v_))) (hn := fun _ => rfl) (hn' := fun _ => at_hn rfl rfl) h .z (idx_ne e9) PA.a (fun v_ => Len.comp (Len.arrOpen e9) (bus_master.lenO v_)) rfl ty59 rfl rfl rfl rfl (fun u h13 => ?_)
     exact ⟨u, rfl, trivial, h13⟩
    ·intro q1 w Γx Ωx h
     refine OpS.mv rfl rfl rfl ?_
     exact ⟨undef, rfl, trivial, h⟩
    ·intro q1 w Γx Ωx h
     refine OpS.lit (r := (Rep.slice (Rep.int .u8))) (f := true) h Try.underlying59 ti34 rfl rfl rfl rfl rfl (.cons rfl (V.at (.s .z)) .nil) rfl rfl (fun u w6 h14 => ?_)
     exact ⟨u, rfl, trivial, h14⟩
    ·intro q1 w Γx Ωx h
     have h : St e w ([(true, .val (Rep.slice (Rep.slice (Rep.int .u8))) (q1 14) ([y2.1])), (false, .val Rep.hollow u4 x2.queue), (true, .val (Rep.slice (Rep.int .u8)) u3 y2.1), (false, .val Frame_.rep u2 a2), (false, .val Frame_.rep v2 a2)] ++ Γx) ([(false, .oval (oslice 85 3 (at' (fun _ => bus_master.orep) (a1).toNat (bus_master.orepW (raw (q1 12))))) v0_0 a0.masters), (false, .oval (oslice 34 1 (fun _ => (sh (Rep.slice (Rep.int .u8))))) (q1 12) x4.queue), (false, .box 36 Frame_.rep u1 a2)] ++ Ωx) := h
     refine OpS.appD (fr := (Rep.slice (Rep.int .u8))) (f' := true) h (.s .z) Try.underlying59 ti34 rfl rfl rfl rfl rfl rfl rfl (V.at .z) (.inl rfl) e10 (fun u w7 h15 => ?_)
     have h16 := h15.front (.cons (.s .z) (.cons .z (.cons .z .nil)))
     exact ⟨u, rfl, trivial, h16⟩
    have h17 : St e w [(true, .val (Rep.slice (Rep.slice (Rep.int .u8))) (q1 14) ([y2.1])), (false, .val Rep.hollow u4 x2.queue), (true, .val (Rep.slice (Rep.int .u8)) u3 y2.1), (false, .val Frame_.rep u2 a2), (false, .val Frame_.rep v2 a2)] [(false, .box 76 (Rep.iso (fun s : bus_Bus => (s.masters, ())) (Rep.prod (Rep.raw (α := List bus_master) v0_0) Rep.unit)) v0 a0), (false, .oval (oslice 85 3 (at' (fun _ => bus_master.orep) (a1).toNat (bus_master.orepW (raw (q1 12))))) v0_0 a0.masters), (false, .oval (oslice 34 1 (fun _ => (sh (Rep.slice (Rep.int .u8))))) (q1 15) x5), (false, .box 36 Frame_.rep u1 a2)] := h
    obtain ⟨x6, e11, hF⟩ := bindP_use hF
    refine op (OpS.iownD h17 (.s .z) Try.underlying74 sz85 rfl rfl rfl rfl e11 ?_)
    refine op (OpS.fownD h17 (.s .z) (idx_ne e11) PA.a fa85_0 rfl rfl rfl ?_)
    obtain ⟨d1, e12, hF⟩ := letP_use hF
    refine op (OpS.storePO (F := (at' (fun _ => bus_master.orep) (a1).toNat (bus_master.orepW (raw (q1 12))))) (F2 := fun _ => bus_master.orep) (hn := at_hn rfl rfl) (hn2 := fun _ => rfl) h17 (.s .z) (.s .z) (idx_ne e11) PA.a (Len.comp (Len.arrShut e11) (bus_master.lenC (q1 12))) ty59 rfl rfl rfl rfl (.inr rfl) (fun w8 h18 => ?_))
    have h19 := St.termD (l' := d1) h18 e12
    refine RunL.nil ?_
    refine Run.slim [] trivial ?_
    refine Run.seq ?_
    refine Run.reg ?_
    refine op (OpS.as rfl rfl rfl ?_)
    refine RunL.nil ?_
    have h20 := St.boxJ (r' := (Rep.iso (fun s : bus_Bus => (s.masters, ())) (Rep.prod (Rep.raw (α := List bus_master) v0_0) Rep.unit))) (x' := { a0 with masters := d1 }) (h19.pick (.s .z)) (fun _ _ hs_ => (Jn.iso _ (Jn.prod Jn.same Jn.refl)))
    refine Run.retP rfl (.tmp rfl .nil) ?_
    cases hF
    exact Post.mk' ⟨v0_0, rfl, rfl, rfl, rfl⟩ (h20.picks (.cons .z (.cons .z .nil))) .nil
set_option maxHeartbeats 8000000 in
theorem bus_Bus_taking_ok {fuel : Nat} {a0 : bus_Bus} {y : (List Int) × bus_Bus} (hF : bus_Bus_taking fuel a0 = some y) {w : World} {v0 v0_0 : Value} :
  Spec Try.prog 37 [v0].toArray w [] [(false, .box 76 (Rep.iso (fun s : bus_Bus => (s.masters, ())) (Rep.prod (Rep.raw (α := List bus_master) v0_0) Rep.unit)) v0 a0), (false, .oval (oslice 85 3 (fun _ => bus_master.orep)) v0_0 a0.masters)] (fun v Γr Ωr Ωo => ∃ u0 w0_0 : Value, v = u0 ∧ Γr = [] ∧ Ωr = [(true, (.slice 3 (Rep.int .i64) u0 y.1))] ∧ Ωo = [(false, .box 76 (Rep.iso (fun s : bus_Bus => (s.masters, ())) (Rep.prod (Rep.raw (α := List bus_master) w0_0) Rep.unit)) v0 y.2), (false, (.oval (oslice 85 3 (fun _ => bus_master.orep)) w0_0 y.2.masters))]) := by
 refine Spec.of (L := [(0, v0)]) Try.func37 rfl ⟨rfl, trivial⟩ rfl (fun e h => ?_)
 unfold bus_Bus_taking at hF
 refine Run.seq ?_
 refine Run.reg ?_
 refine op (OpS.as rfl rfl rfl ?_)
 refine RunL.nil ?_
 refine Run.slim [(0, v0)] ⟨rfl, trivial⟩ ?_
 refine Run.seq ?_
 refine Run.reg ?_
 refine op (OpS.as rfl rfl rfl ?_)
 refine op (OpS.as rfl rfl rfl ?_)
 refine RunL.nil ?_
 refine Run.seq ?_
 refine Run.seq ?_
 refine Run.reg ?_
 refine op (OpS.mv rfl rfl rfl ?_)
 refine op (OpS.nchk h .z rfl rfl rfl ?_)
 refine op (OpS.fbox (o3 := 0) h .z PA.z fa76_0 rfl rfl rfl rfl ?_)
 refine op (OpS.loadR h .z PA.a (GetS.ok (GetS.iso _ (GetS.here GetS.id))) ty74 rfl rfl rfl rfl rfl ?_)
 refine op (OpS.lenD h (.s .z) Try.underlying74 rfl rfl rfl ?_)
 refine op (OpS.mv rfl rfl rfl ?_)
 refine RunL.nil ?_
 refine Run.slim [(13, .int .i64 0), (12, .int .i64 (a0.masters.length : Int)), (11, v0_0), (4, .slice none 0 0), (3, .slice none 0 0), (0, v0)] ⟨rfl, rfl, rfl, rfl, rfl, rfl, trivial⟩ ?_
 refine Run.block ?_
 have h1 := St.nil 3 (Rep.int .i64) h
 have h2 := St.nil 3 (Rep.int .i64) h1
 refine Run.slim [(0, v0), (3, (.slice none 0 0)), (4, (.slice none 0 0)), (11, v0_0), (12, .int .i64 (a0.masters.length : Int)), (13, .int .i64 0)] ⟨rfl, rfl, rfl, rfl, rfl, rfl, trivial⟩ ?_
 refine Run.loopP (σ := (Int × (List Int) × (List Int))) (fun s_ L_ w_ => ∃ u0_ u1_ : Value, L_ = [(0, v0), (3, u0_), (4, u1_), (11, v0_0), (12, .int .i64 (a0.masters.length : Int)), (13, .int .i64 s_.1)] ∧ St e w_ [] [(false, .box 76 (Rep.iso (fun s : bus_Bus => (s.masters, ())) (Rep.prod (Rep.raw (α := List bus_master) v0_0) Rep.unit)) v0 a0), (true, .slice 3 (Rep.int .i64) u0_ s_.2.1), (true, .slice 3 (Rep.int .i64) u1_ s_.2.2), (false, .oval (oslice 85 3 (fun _ => bus_master.orep)) v0_0 a0.masters)]) hF ⟨(.slice none 0 0), (.slice none 0 0), rfl, (h2.facts .nil).picks (.cons (.s (.s .z)) (.cons (.s .z) (.cons .z (.cons .z .nil))))⟩ (fun k1 hk1 s1 _ w1 hI hF => ?_)
 obtain ⟨u1, u2, rfl, h3⟩ := hI
 refine Run.seq ?_
 refine Run.reg ?_
 refine op (OpS.bin rfl rfl rfl rfl rfl ?_)
 refine RunL.nil ?_
 refine Run.seq ?_
 refine Run.ite rfl hF (fun e1 hF => ?_) (fun e1 hF => ?_)
 ·
  refine Run.skip ?_
  refine Run.seq ?_
  refine Run.block ?_
  refine Run.seq ?_
  refine Run.reg ?_
  refine op (OpS.mv rfl rfl rfl ?_)
  obtain ⟨x1, e2, hF⟩ := bindP_use hF
  refine op (OpS.iownD h3 (.s (.s (.s .z))) Try.underlying74 sz85 rfl rfl rfl rfl e2 ?_)
  refine op (OpS.loadS (fr := (Rep.iso (fun s : bus_master => (s.queue, s.tries, s.served, ())) (Rep.prod Rep.hollow (Rep.prod (Rep.int .i64) (Rep.prod Rep.bool Rep.unit))))) h3 (.s (.s (.s .z))) bus_master.wk rfl (idx_ne e2) PA.a (Get.arr e2) (Ty.like ty85 (by rfl) (by rfl)) rfl rfl rfl (fun u3 h4 => ?_))
  refine op (OpS.alloc h4 ti85 bus_master.zr rfl rfl (fun u4 w2 h5 => ?_))
  refine op (OpS.as rfl rfl rfl ?_)
  have h7 := (h5.pick .z).weak
  refine op (OpS.storeC (f' := false) (fr := (Rep.iso (fun s : bus_master => (s.queue, s.tries, s.served, ())) (Rep.prod Rep.hollow (Rep.prod (Rep.int .i64) (Rep.prod Rep.bool Rep.unit))))) (r' := (Rep.iso (fun s : bus_master => (s.queue, s.tries, s.served, ())) (Rep.prod Rep.hollow (Rep.prod (Rep.int .i64) (Rep.prod Rep.bool Rep.unit))))) (x' := x1) (y := x1) h7 .z PA.z (Chg.id (by rfl)) (Ty.like ty85 (by rfl) (by rfl)) rfl rfl rfl (V.at .z) (.inr rfl) (fun w3 h6 => ?_))
  refine RunL.nil ?_
  refine Run.slim [(5, .int .i64 s1.1), (6, u4), (0, v0), (3, u1), (4, u2), (11, v0_0), (12, .int .i64 (a0.masters.length : Int)), (13, .int .i64 s1.1)] ⟨rfl, rfl, rfl, rfl, rfl, rfl, rfl, rfl, trivial⟩ ?_
  refine Run.seq ?_
  refine Run.seq ?_
  refine Run.reg ?_
  refine op (OpS.fbox (o3 := 0) h6 .z PA.z fa85_0 rfl rfl rfl rfl ?_)
  refine op (OpS.loadB (fr := Rep.hollow) h6 .z PA.a (GetS.ok (GetS.iso _ (GetS.here GetS.id))) (Ty.like ty59 (by rfl) (by rfl)) rfl rfl rfl (fun u5 h8 => ?_))
  refine op (OpS.lenH h8 Try.underlying59 rfl rfl rfl (V.at .z) ?_)
  refine op (OpS.bin rfl rfl rfl rfl rfl ?_)
  refine RunL.nil ?_
  refine Run.slim [(21, .bool ((x1.queue.length : Int) == 0)), (5, .int .i64 s1.1), (6, u4), (0, v0), (3, u1), (4, u2), (11, v0_0), (12, .int .i64 (a0.masters.length : Int)), (13, .int .i64 s1.1)] ⟨rfl, rfl, rfl, rfl, rfl, rfl, rfl, rfl, rfl, trivial⟩ ?_
  refine Run.ite rfl hF (fun e3 hF => ?_) (fun e3 hF => ?_)
  ·
   refine Run.exit rfl ?_
   refine Run.reg ?_
   refine op (OpS.bin rfl rfl rfl rfl rfl ?_)
   refine op (OpS.mv rfl rfl rfl ?_)
   refine RunL.nil ?_
   refine Run.slim [(13, .int .i64 (IntKind.i64.wrap (s1.1 + 1))), (0, v0), (3, u1), (4, u2), (11, v0_0), (12, .int .i64 (a0.masters.length : Int))] ⟨rfl, rfl, rfl, rfl, rfl, rfl, trivial⟩ ?_
   refine Run.slim [(0, v0), (3, u1), (4, u2), (11, v0_0), (12, .int .i64 (a0.masters.length : Int)), (13, .int .i64 (IntKind.i64.wrap (s1.1 + 1)))] ⟨rfl, rfl, rfl, rfl, rfl, rfl, trivial⟩ ?_
   exact hk1 ((IntKind.i64.wrap (s1.1 + 1)), s1.2.1, s1.2.2) _ _ ⟨u1, u2, rfl, (h8.facts .nil).picks (.cons (.s .z) (.cons (.s .z) (.cons (.s .z) (.cons (.s .z) .nil))))⟩ hF
  ·
   refine Run.skip ?_
   refine Run.seq ?_
   refine Run.reg ?_
   refine op (OpS.mv rfl rfl rfl ?_)
   refine op (OpS.mv rfl rfl rfl ?_)
   refine op (OpS.lit (r := (Rep.int .i64)) (f := true) h8 Try.underlying33 ti3 rfl rfl rfl rfl rfl (.cons rfl V.int .nil) rfl rfl (fun u6 w4 h9 => ?_))
   obtain ⟨x2, e4, hF⟩ := bindP_use hF
   refine op (OpS.app (f' := true) h9 (.s (.s .z)) Try.underlying33 ti3 rfl rfl rfl rfl rfl rfl rfl (V.at .z) (.inr Pure.int) e4 (fun u7 w5 h10 => ?_))
   refine op (OpS.as rfl rfl rfl ?_)
   refine RunL.nil ?_
   refine Run.slim [(3, u7), (5, .int .i64 s1.1), (6, u4), (0, v0), (4, u2), (11, v0_0), (12, .int .i64 (a0.masters.length : Int)), (13, .int .i64 s1.1)] ⟨rfl, rfl, rfl, rfl, rfl, rfl, rfl, rfl, trivial⟩ ?_
   refine Run.seq ?_
   refine Run.reg ?_
   refine op (OpS.fbox (o3 := 2) h10 (.s .z) PA.z fa85_2 rfl rfl rfl rfl ?_)
   refine op (OpS.loadBb h10 (.s .z) PA.a (GetS.ok (GetS.iso _ (GetS.there (GetS.there (GetS.here GetS.id))))) ty4 rfl rfl rfl ?_)
   refine op (OpS.not rfl rfl rfl ?_)
   refine RunL.nil ?_
   refine Run.slim [(28, .bool (!x1.served)), (3, u7), (5, .int .i64 s1.1), (0, v0), (4, u2), (11, v0_0), (12, .int .i64 (a0.masters.length : Int)), (13, .int .i64 s1.1)] ⟨rfl, rfl, rfl, rfl, rfl, rfl, rfl, rfl, trivial⟩ ?_
   refine Run.ite rfl hF (fun e5 hF => ?_) (fun e5 hF => ?_)
   ·
    refine Run.reg ?_
    refine op (OpS.mv rfl rfl rfl ?_)
    refine op (OpS.mv rfl rfl rfl ?_)
    refine op (OpS.lit (r := (Rep.int .i64)) (f := true) h10 Try.underlying33 ti3 rfl rfl rfl rfl rfl (.cons rfl V.int .nil) rfl rfl (fun u8 w6 h11 => ?_))
    obtain ⟨x3, e6, hF⟩ := bindP_use hF
    refine op (OpS.app (f' := true) h11 (.s (.s (.s .z))) Try.underlying33 ti3 rfl rfl rfl rfl rfl rfl rfl (V.at .z) (.inr Pure.int) e6 (fun u9 w7 h12 => ?_))
    refine op (OpS.as rfl rfl rfl ?_)
    refine RunL.nil ?_
    refine Run.slim [(4, u9), (3, u7), (0, v0), (11, v0_0), (12, .int .i64 (a0.masters.length : Int)), (13, .int .i64 s1.1)] ⟨rfl, rfl, rfl, rfl, rfl, rfl, trivial⟩ ?_
    refine Run.endBlock ?_
    refine Run.reg ?_
    refine op (OpS.bin rfl rfl rfl rfl rfl ?_)
    refine op (OpS.mv rfl rfl rfl ?_)
    refine RunL.nil ?_
    refine Run.slim [(13, .int .i64 (IntKind.i64.wrap (s1.1 + 1))), (4, u9), (3, u7), (0, v0), (11, v0_0), (12, .int .i64 (a0.masters.length : Int))] ⟨rfl, rfl, rfl, rfl, rfl, rfl, trivial⟩ ?_
    refine Run.slim [(0, v0), (3, u7), (4, u9), (11, v0_0), (12, .int .i64 (a0.masters.length : Int)), (13, .int .i64 (IntKind.i64.wrap (s1.1 + 1)))] ⟨rfl, rfl, rfl, rfl, rfl, rfl, trivial⟩ ?_
    exact hk1 ((IntKind.i64.wrap (s1.1 + 1)), x2, x3) _ _ ⟨u7, u9, rfl, (h12.facts .nil).picks (.cons (.s (.s (.s .z))) (.cons (.s .z) (.cons .z (.cons (.s .z) .nil))))⟩ hF
   ·
    refine Run.skip ?_
    refine Run.endBlock ?_
    refine Run.reg ?_
    refine op (OpS.bin rfl rfl rfl rfl rfl ?_)
    refine op (OpS.mv rfl rfl rfl ?_)
    refine RunL.nil ?_
    refine Run.slim [(13, .int .i64 (IntKind.i64.wrap (s1.1 + 1))), (3, u7), (0, v0), (4, u2), (11, v0_0), (12, .int .i64 (a0.masters.length : Int))] ⟨rfl, rfl, rfl, rfl, rfl, rfl, trivial⟩ ?_
    refine Run.slim [(0, v0), (3, u7), (4, u2), (11, v0_0), (12, .int .i64 (a0.masters.length : Int)), (13, .int .i64 (IntKind.i64.wrap (s1.1 + 1)))] ⟨rfl, rfl, rfl, rfl, rfl, rfl, trivial⟩ ?_
    exact hk1 ((IntKind.i64.wrap (s1.1 + 1)), x2, s1.2.2) _ _ ⟨u7, u2, rfl, (h10.facts .nil).picks (.cons (.s (.s .z)) (.cons .z (.cons (.s .z) (.cons (.s .z) .nil))))⟩ hF
 ·
  refine Run.exit rfl ?_
  refine Run.seq ?_
  refine Run.seq ?_
  refine Run.reg ?_
  refine op (OpS.mv rfl rfl rfl ?_)
  refine op (OpS.lenO h3 (.s (.s .z)) Try.underlying33 rfl rfl rfl ?_)
  refine op (OpS.bin rfl rfl rfl rfl rfl ?_)
  refine op (OpS.mv rfl rfl rfl ?_)
  refine RunL.join (σ := Bool) (fun s_ L_ w_ => L_ = [(0, v0), (3, u1), (4, u2), (41, .bool s_)] ∧ St e w_ [] [(false, .box 76 (Rep.iso (fun s : bus_Bus => (s.masters, ())) (Rep.prod (Rep.raw (α := List bus_master) v0_0) Rep.unit)) v0 a0), (true, .slice 3 (Rep.int .i64) u1 s1.2.1), (true, .slice 3 (Rep.int .i64) u2 s1.2.2), (false, .oval (oslice 85 3 (fun _ => bus_master.orep)) v0_0 a0.masters)]) hF (fun s2 _ w8 hI hF => ?_) (fun j1 hj1 hF => ?_)
  ·
   obtain ⟨rfl, h13⟩ := hI
   refine Run.ite rfl hF (fun e7 hF => ?_) (fun e7 hF => ?_)
   ·
    refine Run.seq ?_
    refine Run.reg ?_
    refine op (OpS.mv rfl rfl rfl ?_)
    refine op (OpS.as rfl rfl rfl ?_)
    refine RunL.nil ?_
    refine Run.slim [(2, u2)] ⟨rfl, trivial⟩ ?_
    refine Run.retP rfl (.tmp rfl .nil) ?_
    cases hF
    exact Post.mk' ⟨u2, v0_0, rfl, rfl, rfl, rfl⟩ (h13.picks (.cons (.s (.s .z)) (.cons .z (.cons (.s .z) .nil)))) .nil
   ·
    refine Run.skip ?_
    refine Run.seq ?_
    refine Run.seq ?_
    refine Run.reg ?_
    refine op (OpS.mv rfl rfl rfl ?_)
    refine op (OpS.nchk h13 .z rfl rfl rfl ?_)
    refine op (OpS.fbox (o3 := 0) h13 .z PA.z fa76_0 rfl rfl rfl rfl ?_)
    refine op (OpS.loadR h13 .z PA.a (GetS.ok (GetS.iso _ (GetS.here GetS.id))) ty74 rfl rfl rfl rfl rfl ?_)
    refine op (OpS.lenD h13 (.s (.s (.s .z))) Try.underlying74 rfl rfl rfl ?_)
    refine op (OpS.mv rfl rfl rfl ?_)
    refine RunL.nil ?_
    refine Run.slim [(48, .int .i64 0), (47, .int .i64 (a0.masters.length : Int)), (0, v0), (3, u1)] ⟨rfl, rfl, rfl, rfl, trivial⟩ ?_
    refine Run.block ?_
    refine Run.slim [(0, v0), (3, u1), (47, .int .i64 (a0.masters.length : Int)), (48, .int .i64 0)] ⟨rfl, rfl, rfl, rfl, trivial⟩ ?_
    refine Run.loopP (σ := (Int × bus_Bus)) (fun s_ L_ w_ => L_ = [(0, v0), (3, u1), (47, .int .i64 (a0.masters.length : Int)), (48, .int .i64 s_.1)] ∧ St e w_ [] [(false, .box 76 (Rep.iso (fun s : bus_Bus => (s.masters, ())) (Rep.prod (Rep.raw (α := List bus_master) v0_0) Rep.unit)) v0 s_.2), (true, .slice 3 (Rep.int .i64) u1 s1.2.1), (false, .oval (oslice 85 3 (fun _ => bus_master.orep)) v0_0 s_.2.masters)]) hF ⟨rfl, (h13.facts .nil).picks (.cons .z (.cons .z (.cons (.s .z) .nil)))⟩ (fun k2 hk2 s3 _ w9 hI hF => ?_)
    obtain ⟨rfl, h14⟩ := hI
    refine Run.seq ?_
    refine Run.reg ?_
    refine op (OpS.bin rfl rfl rfl rfl rfl ?_)
    refine RunL.nil ?_
    refine Run.seq ?_
    refine Run.ite rfl hF (fun e8 hF => ?_) (fun e8 hF => ?_)
    ·
     refine Run.skip ?_
     refine Run.seq ?_
     refine Run.block ?_
     refine Run.seq ?_
     refine Run.reg ?_
     refine op (OpS.mv rfl rfl rfl ?_)
     refine op (OpS.as rfl rfl rfl ?_)
     refine RunL.nil ?_
     refine Run.slim [(7, .int .i64 s3.1), (0, v0), (3, u1), (47, .int .i64 (a0.masters.length : Int)), (48, .int .i64 s3.1)] ⟨rfl, rfl, rfl, rfl, rfl, trivial⟩ ?_
     refine Run.reg ?_
     refine op (OpS.mv rfl rfl rfl ?_)
     refine op (OpS.nchk h14 .z rfl rfl rfl ?_)
     refine op (OpS.fbox (o3 := 0) h14 .z PA.z fa76_0 rfl rfl rfl rfl ?_)
     refine op (OpS.loadR h14 .z PA.a (GetS.ok (GetS.iso _ (GetS.here GetS.id))) ty74 rfl rfl rfl rfl rfl ?_)
     refine op (OpS.mv rfl rfl rfl ?_)
     obtain ⟨x4, e9, hF⟩ := bindP_use hF
     refine op (OpS.iownD h14 (.s (.s .z)) Try.underlying74 sz85 rfl rfl rfl rfl e9 ?_)
     refine op (OpS.fownD h14 (.s (.s .z)) (idx_ne e9) PA.a fa85_2 rfl rfl rfl ?_)
     obtain ⟨d1, e10, hF⟩ := letP_use hF
     refine op (OpS.storeOD (F2 := fun _ => bus_master.orep) (f' := true) (hn := fun _ => rfl) (hn2 := fun _ => rfl) h14 (.s (.s .z)) (idx_ne e9) PA.a (Len.comp (Len.arrSame e9) bus_master.l2) ty4 rfl rfl rfl V.bool (.inr rfl) (fun w10 h15 => ?_))
     have h16 := St.termD (l' := d1) h15 e10
     refine RunL.nil ?_
     refine Run.slim [(0, v0), (3, u1), (47, .int .i64 (a0.masters.length : Int)), (48, .int .i64 s3.1)] ⟨rfl, rfl, rfl, rfl, trivial⟩ ?_
     refine Run.endBlock ?_
     refine Run.reg ?_
     refine op (OpS.bin rfl rfl rfl rfl rfl ?_)
     refine op (OpS.mv rfl rfl rfl ?_)
     refine RunL.nil ?_
     refine Run.slim [(48, .int .i64 (IntKind.i64.wrap (s3.1 + 1))), (0, v0), (3, u1), (47, .int .i64 (a0.masters.length : Int))] ⟨rfl, rfl, rfl, rfl, trivial⟩ ?_
     have h17 := St.boxJ (r' := (Rep.iso (fun s : bus_Bus => (s.masters, ())) (Rep.prod (Rep.raw (α := List bus_master) v0_0) Rep.unit))) (x' := { s3.2 with masters := d1 }) (h16.pick (.s .z)) (fun _ _ hs_ => (Jn.iso _ (Jn.prod Jn.same Jn.refl)))
     refine Run.slim [(0, v0), (3, u1), (47, .int .i64 (a0.masters.length : Int)), (48, .int .i64 (IntKind.i64.wrap (s3.1 + 1)))] ⟨rfl, rfl, rfl, rfl, trivial⟩ ?_
     exact hk2 ((IntKind.i64.wrap (s3.1 + 1)), { s3.2 with masters := d1 }) _ _ ⟨rfl, (h17.facts .nil).picks (.cons .z (.cons (.s .z) (.cons .z .nil)))⟩ hF
    ·
     refine Run.exit rfl ?_
     refine Run.seq ?_
     refine Run.reg ?_
     refine op (OpS.mv rfl rfl rfl ?_)
     refine op (OpS.as rfl rfl rfl ?_)
     refine RunL.nil ?_
     refine Run.slim [(2, u1)] ⟨rfl, trivial⟩ ?_
     refine Run.retP rfl (.tmp rfl .nil) ?_
     cases hF
     exact Post.mk' ⟨u1, v0_0, rfl, rfl, rfl, rfl⟩ (h14.picks (.cons (.s .z) (.cons .z (.cons .z .nil)))) .nil
  ·
   refine RunL.caseb hF (fun e11 hF => ?_) (fun e11 hF => ?_)
   ·
    refine op (OpS.pass rfl rfl rfl ?_)
    refine op (OpS.pass rfl rfl rfl ?_)
    refine op (OpS.pass rfl rfl rfl ?_)
    refine op (OpS.pick rfl rfl rfl rfl ?_)
    refine RunL.nil ?_
    refine Run.slim [(41, .bool true), (0, v0), (3, u1), (4, u2)] ⟨rfl, rfl, rfl, rfl, trivial⟩ ?_
    refine Run.slim [(0, v0), (3, u1), (4, u2), (41, .bool true)] ⟨rfl, rfl, rfl, rfl, trivial⟩ ?_
    exact hj1 (true) _ _ ⟨rfl, (h3.facts .nil).picks (.cons .z (.cons .z (.cons .z (.cons .z .nil))))⟩ hF
   ·
    refine op (OpS.mv rfl rfl rfl ?_)
    refine op (OpS.lenO h3 (.s .z) Try.underlying33 rfl rfl rfl ?_)
    refine op (OpS.bin rfl rfl rfl rfl rfl ?_)
    refine op (OpS.pick rfl rfl rfl rfl ?_)
    refine RunL.nil ?_
    refine Run.slim [(41, .bool ((s1.2.1.length : Int) == 0)), (0, v0), (3, u1), (4, u2)] ⟨rfl, rfl, rfl, rfl, trivial⟩ ?_
    refine Run.slim [(0, v0), (3, u1), (4, u2), (41, .bool ((s1.2.1.length : Int) == 0))] ⟨rfl, rfl, rfl, rfl, trivial⟩ ?_
    exact hj1 ((s1.2.1.length : Int) == 0) _ _ ⟨rfl, (h3.facts .nil).picks (.cons .z (.cons .z (.cons .z (.cons .z .nil))))⟩ hF
theorem bytes_Compare_ok {fuel : Nat} {a0 : List Int} {a1 : List Int} {y : Int} (hF : bytes_Compare fuel a0 a1 = some y) {w : World} {v0 v1 : Value} :
  Spec Try.prog 53 [v0, v1].toArray w [(false, .val (Rep.slice (Rep.int .u8)) v0 a0), (false, .val (Rep.slice (Rep.int .u8)) v1 a1)] [] (fun v Γr Ωr Ωo => v = .int .i64 y ∧ Γr = [] ∧ Ωr = [] ∧ Ωo = []) := by
 refine Spec.of (L := [(0, v0), (1, v1)]) Try.func53 rfl ⟨rfl, rfl, trivial⟩ rfl (fun e h => ?_)
 unfold bytes_Compare at hF
 refine Run.seq ?_
 refine Run.reg ?_
 refine op (OpS.as rfl rfl rfl ?_)
 refine RunL.nil ?_
 refine Run.slim [(0, v0), (1, v1)] ⟨rfl, rfl, trivial⟩ ?_
 refine Run.seq ?_
 refine Run.reg ?_
 refine op (OpS.mv rfl rfl rfl ?_)
 refine op (OpS.mv rfl rfl rfl ?_)
 refine op (OpS.cmpB h Try.func60 rfl rfl ext60n ext60 rfl rfl rfl rfl (V.at .z) (V.at (.s .z)) ?_)
 refine op (OpS.as rfl rfl rfl ?_)
 refine RunL.nil ?_
 refine Run.slim [(4, .int .i64 (cmpB a0 a1))] ⟨rfl, trivial⟩ ?_
 refine Run.retP rfl (.tmp rfl .nil) ?_
 cases hF
 exact Post.mk' ⟨rfl, rfl, rfl, rfl⟩ (h.picks .nil) .nil
theorem frame_Compare_ok {fuel : Nat} {a0 : List Int} {a1 : List Int} {y : Int} (hF : frame_Compare fuel a0 a1 = some y) {w : World} {v0 v1 : Value} :
  Spec Try.prog 31 [v0, v1].toArray w [(false, .val (Rep.slice (Rep.int .u8)) v0 a0), (false, .val (Rep.slice (Rep.int .u8)) v1 a1)] [] (fun v Γr Ωr Ωo => v = .int .i64 y ∧ Γr = [] ∧ Ωr = [] ∧ Ωo = []) := by
 refine Spec.of (L := [(0, v0), (1, v1)]) Try.func31 rfl ⟨rfl, rfl, trivial⟩ rfl (fun e h => ?_)
 unfold frame_Compare at hF
 refine Run.seq ?_
 refine Run.reg ?_
 refine op (OpS.as rfl rfl rfl ?_)
 refine RunL.nil ?_
 refine Run.slim [(0, v0), (1, v1)] ⟨rfl, rfl, trivial⟩ ?_
 refine Run.seq ?_
 refine Run.reg ?_
 refine op (OpS.mv rfl rfl rfl ?_)
 refine op (OpS.mv rfl rfl rfl ?_)
 obtain ⟨y1, e1, hF⟩ := bindP_use hF
 refine op (OpS.callP h Try.func53 rfl rfl rfl rfl (vs := [v0, v1]) rfl (bytes_Compare_ok e1) (.cons (f := false) (V.at .z) (.cons (f := false) (V.at (.s .z)) .nil)) ?_)
 rintro _ w1 _ _ _ ⟨rfl, rfl, rfl, rfl⟩ h1
 have h2 := h1 rfl rfl
 simp only [List.cons_append, List.nil_append] at h2
 refine op (OpS.as rfl rfl rfl ?_)
 refine RunL.nil ?_
 refine Run.slim [(4, .int .i64 y1)] ⟨rfl, trivial⟩ ?_
 refine Run.retP rfl (.tmp rfl .nil) ?_
 cases hF
 exact Post.mk' ⟨rfl, rfl, rfl, rfl⟩ (h2.picks .nil) .nil
theorem bus_arrive_ok {fuel : Nat} {a0 : List Int} {a1 : Fault_} {y : (List Int)} (hF : bus_arrive fuel a0 a1 = some y) {w : World} {v0 v1 : Value} :
  Spec Try.prog 41 [v0, v1].toArray w [(false, .val (Rep.slice (Rep.int .u8)) v0 a0), (false, .val Fault_.rep v1 a1)] [] (fun v Γr Ωr Ωo => ∃ u0 : Value, v = u0 ∧ Γr = [] ∧ Ωr = [(true, (.slice 5 (Rep.int .u8) u0 y))] ∧ Ωo = []) := by
 refine Spec.of (L := [(0, v0), (1, v1)]) Try.func41 rfl ⟨rfl, rfl, trivial⟩ rfl (fun e h => ?_)
 unfold bus_arrive at hF
 refine Run.seq ?_
 refine Run.reg ?_
 refine op (OpS.boxF h rfl rfl rfl (V.at (.s .z)) (fun u1 w1 h1 => ?_))
 refine op (OpS.as rfl rfl rfl ?_)
 refine RunL.nil ?_
 refine Run.slim [(3, u1), (0, v0)] ⟨rfl, rfl, trivial⟩ ?_
 refine Run.seq ?_
 refine Run.seq ?_
 refine Run.reg ?_
 refine op (OpS.fbox (o3 := 0) h1 .z PA.z fa38_0 rfl rfl rfl rfl ?_)
 refine op (OpS.loadBi h1 .z PA.a (Get.fld Fault_.f0) ty3 rfl rfl rfl ?_)
 refine op (OpS.bin rfl rfl rfl rfl rfl ?_)
 refine RunL.nil ?_
 refine Run.slim [(8, .bool (a1.Kind == 1)), (3, u1), (0, v0)] ⟨rfl, rfl, rfl, trivial⟩ ?_
 refine Run.ite rfl hF (fun e1 hF => ?_) (fun e1 hF => ?_)
 ·
  refine Run.seq ?_
  refine Run.reg ?_
  refine op (OpS.as rfl rfl rfl ?_)
  refine RunL.nil ?_
  refine Run.slim [(4, .slice none 0 0)] ⟨rfl, trivial⟩ ?_
  have h2 := St.nil 5 (Rep.int .u8) h1
  refine Run.retP rfl (.tmp rfl .nil) ?_
  cases hF
  exact Post.mk' ⟨(.slice none 0 0), rfl, rfl, rfl, rfl⟩ (h2.picks (.cons .z .nil)) .nil
 ·
  refine Run.skip ?_
  refine Run.seq ?_
  refine Run.reg ?_
  refine op (OpS.mv rfl rfl rfl ?_)
  obtain ⟨y1, e2, hF⟩ := bindP_use hF
  refine op (OpS.callP h1 Try.func51 rfl rfl rfl rfl (vs := [v0]) rfl (slices_Clone_byte_byte_ok e2) (.cons (f := false) (V.at .z) .nil) ?_)
  rintro u2 w2 _ _ _ ⟨_, rfl, rfl, rfl, rfl⟩ h3
  have h4 := h3 rfl rfl
  simp only [List.cons_append, List.nil_append] at h4
  refine op (OpS.as rfl rfl rfl ?_)
  refine RunL.nil ?_
  refine Run.slim [(5, u2), (3, u1)] ⟨rfl, rfl, trivial⟩ ?_
  refine Run.seq ?_
  refine Run.seq ?_
  refine Run.reg ?_
  refine op (OpS.fbox (o3 := 0) h4 (.s .z) PA.z fa38_0 rfl rfl rfl rfl ?_)
  refine op (OpS.loadBi h4 (.s .z) PA.a (Get.fld Fault_.f0) ty3 rfl rfl rfl ?_)
  refine op (OpS.bin rfl rfl rfl rfl rfl ?_)
  refine op (OpS.mv rfl rfl rfl ?_)
  refine RunL.join (σ := Bool) (fun s_ L_ w_ => L_ = [(3, u1), (5, u2), (25, .bool s_)] ∧ St e w_ [] [(false, .box 38 Fault_.rep u1 a1), (true, .slice 5 (Rep.int .u8) u2 y1)]) hF (fun s1 _ w3 hI hF => ?_) (fun j1 hj1 hF => ?_)
  ·
   obtain ⟨rfl, h5⟩ := hI
   refine Run.ite rfl hF (fun e3 hF => ?_) (fun e3 hF => ?_)
   ·
    obtain ⟨x1, e4, hF⟩ := bindP_use hF
    refine Run.drawV (Ωs := []) [⟨some 26, some (u2), fun _ => [], fun ds_ u_ => [], [], [], none⟩, ⟨some 27, some ((padd u1 1)), fun _ => [], fun ds_ u_ => [], [], [(0, [])], none⟩, ⟨some 28, some (.int .i64 a1.Index), fun _ => [], fun ds_ u_ => [], [], [(0, [])], none⟩, ⟨some 29, some ((padd (sp u2) ((a1.Index : Int).toNat * (Rep.int .u8).n))), fun _ => [], fun ds_ u_ => [], [], [(1, [])], none⟩, ⟨some 30, some (.int .u8 x1), fun _ => [], fun ds_ u_ => [], [], [(1, [])], none⟩, ⟨some 31, some ((padd u1 2)), fun _ => [], fun ds_ u_ => [], [], [(0, [])], none⟩, ⟨some 32, some (.int .u8 a1.Mask), fun _ => [], fun ds_ u_ => [], [], [(0, [])], none⟩, ⟨some 33, some (.int .u8 (bXor .u8 x1 a1.Mask)), fun _ => [], fun ds_ u_ => [], [], [], none⟩] [[], [], [1], [0, 2], [3], [], [5], [4, 6]] [[(false, .box 38 Fault_.rep u1 a1)], [(true, .slice 5 (Rep.int .u8) u2 y1)]] [0, 1, 2, 3, 4, 5, 6, 7, 8, 9] Try_mixed rfl rfl rfl h5 (.cons ?_ (.cons ?_ (.cons ?_ (.cons ?_ (.cons ?_ (.cons ?_ (.cons ?_ (.cons ?_ .nil)))))))) (fun q1 w hq1 h => ?_)
    ·intro q1 w Γx Ωx h
     refine OpS.mv rfl rfl rfl ?_
     exact ⟨undef, rfl, trivial, h⟩
    ·intro q1 w Γx Ωx h
     have h : St e w ([] ++ Γx) ([(false, .box 38 Fault_.rep u1 a1)] ++ Ωx) := h
     refine OpS.fbox (o3 := 1) h .z PA.z fa38_1 rfl rfl rfl rfl ?_
     exact ⟨undef, rfl, trivial, h⟩
    ·intro q1 w Γx Ωx h
     have h : St e w ([] ++ Γx) ([(false, .box 38 Fault_.rep u1 a1)] ++ Ωx) := h
     refine OpS.loadBi h .z PA.a (Get.fld Fault_.f1) ty3 rfl rfl rfl ?_
     exact ⟨undef, rfl, trivial, h⟩
    ·intro q1 w Γx Ωx h
     have h : St e w ([] ++ Γx) ([(true, .slice 5 (Rep.int .u8) u2 y1)] ++ Ωx) := h
     refine OpS.iown h .z Try.underlying34 ty5 rfl rfl rfl rfl e4 ?_
     exact ⟨undef, rfl, trivial, h⟩
    ·intro q1 w Γx Ωx h
     have h : St e w ([] ++ Γx) ([(true, .slice 5 (Rep.int .u8) u2 y1)] ++ Ωx) := h
     refine OpS.loadOi h .z (idx_ne e4) PA.a (Get.arr e4) ty5 rfl rfl rfl ?_
     exact ⟨undef, rfl, trivial, h⟩
    ·intro q1 w Γx Ωx h
     have h : St e w ([] ++ Γx) ([(false, .box 38 Fault_.rep u1 a1)] ++ Ωx) := h
     refine OpS.fbox (o3 := 2) h .z PA.z fa38_2 rfl rfl rfl rfl ?_
     exact ⟨undef, rfl, trivial, h⟩
    ·intro q1 w Γx Ωx h
     have h : St e w ([] ++ Γx) ([(false, .box 38 Fault_.rep u1 a1)] ++ Ωx) := h
     refine OpS.loadBi h .z PA.a (Get.fld Fault_.f2) ty5 rfl rfl rfl ?_
     exact ⟨undef, rfl, trivial, h⟩
    ·intro q1 w Γx Ωx h
     refine OpS.bin rfl rfl rfl rfl rfl ?_
     exact ⟨undef, rfl, trivial, h⟩
    have h6 : St e w [] [(false, .box 38 Fault_.rep u1 a1), (true, .slice 5 (Rep.int .u8) u2 y1)] := h
    obtain ⟨x2, e5, hF⟩ := bindP_use hF
    refine op (OpS.iown h6 (.s .z) Try.underlying34 ty5 rfl rfl rfl rfl e5 ?_)
    obtain ⟨d1, e6, hF⟩ := letP_use hF
    refine op (OpS.storeO (f' := true) h6 (.s .z) (idx_ne e5) PA.a (Put.of (Put.arr e5) e6) ty5 rfl rfl rfl V.int (.inl rfl) (fun w4 h7 => ?_))
    refine RunL.nil ?_
    refine Run.slim [(5, u2)] ⟨rfl, trivial⟩ ?_
    refine Run.seq ?_
    refine Run.reg ?_
    refine op (OpS.mv rfl rfl rfl ?_)
    refine op (OpS.as rfl rfl rfl ?_)
    refine RunL.nil ?_
    refine Run.slim [(4, u2)] ⟨rfl, trivial⟩ ?_
    refine Run.retP rfl (.tmp rfl .nil) ?_
    cases hF
    exact Post.mk' ⟨u2, rfl, rfl, rfl, rfl⟩ (h7.picks (.cons .z .nil)) .nil
   ·
    refine Run.skip ?_
    refine Run.seq ?_
    refine Run.reg ?_
    refine op (OpS.mv rfl rfl rfl ?_)
    refine op (OpS.as rfl rfl rfl ?_)
    refine RunL.nil ?_
    refine Run.slim [(4, u2)] ⟨rfl, trivial⟩ ?_
    refine Run.retP rfl (.tmp rfl .nil) ?_
    cases hF
    exact Post.mk' ⟨u2, rfl, rfl, rfl, rfl⟩ (h5.picks (.cons (.s .z) .nil)) .nil
  ·
   refine RunL.caseb hF (fun e7 hF => ?_) (fun e7 hF => ?_)
   ·
    refine op (OpS.fbox (o3 := 1) h4 (.s .z) PA.z fa38_1 rfl rfl rfl rfl ?_)
    refine op (OpS.loadBi h4 (.s .z) PA.a (Get.fld Fault_.f1) ty3 rfl rfl rfl ?_)
    refine op (OpS.bin rfl rfl rfl rfl rfl ?_)
    refine op (OpS.pick rfl rfl rfl rfl ?_)
    refine op (OpS.mv rfl rfl rfl ?_)
    refine RunL.caseb hF (fun e8 hF => ?_) (fun e8 hF => ?_)
    ·
     refine op (OpS.fbox (o3 := 1) h4 (.s .z) PA.z fa38_1 rfl rfl rfl rfl ?_)
     refine op (OpS.loadBi h4 (.s .z) PA.a (Get.fld Fault_.f1) ty3 rfl rfl rfl ?_)
     refine op (OpS.mv rfl rfl rfl ?_)
     refine op (OpS.lenO h4 .z Try.underlying34 rfl rfl rfl ?_)
     refine op (OpS.bin rfl rfl rfl rfl rfl ?_)
     refine op (OpS.pick rfl rfl rfl rfl ?_)
     refine RunL.nil ?_
     refine Run.slim [(25, .bool (decide (a1.Index < (y1.length : Int)))), (5, u2), (3, u1)] ⟨rfl, rfl, rfl, trivial⟩ ?_
     refine Run.slim [(3, u1), (5, u2), (25, .bool (decide (a1.Index < (y1.length : Int))))] ⟨rfl, rfl, rfl, trivial⟩ ?_
     exact hj1 (decide (a1.Index < (y1.length : Int))) _ _ ⟨rfl, (h4.facts .nil).picks (.cons (.s .z) (.cons .z .nil))⟩ hF
    ·
     refine op (OpS.pass rfl rfl rfl ?_)
     refine op (OpS.pass rfl rfl rfl ?_)
     refine op (OpS.pass rfl rfl rfl ?_)
     refine op (OpS.pass rfl rfl rfl ?_)
     refine op (OpS.pass rfl rfl rfl ?_)
     refine op (OpS.pick rfl rfl rfl rfl ?_)
     refine RunL.nil ?_
     refine Run.slim [(25, .bool false), (5, u2), (3, u1)] ⟨rfl, rfl, rfl, trivial⟩ ?_
     refine Run.slim [(3, u1), (5, u2), (25, .bool false)] ⟨rfl, rfl, rfl, trivial⟩ ?_
     exact hj1 (false) _ _ ⟨rfl, (h4.facts .nil).picks (.cons (.s .z) (.cons .z .nil))⟩ hF
   ·
    refine op (OpS.pass rfl rfl rfl ?_)
    refine op (OpS.pass rfl rfl rfl ?_)
    refine op (OpS.pass rfl rfl rfl ?_)
    refine op (OpS.pick rfl rfl rfl rfl ?_)
    refine op (OpS.mv rfl rfl rfl ?_)
    refine op (OpS.pass rfl rfl rfl ?_)
    refine op (OpS.pass rfl rfl rfl ?_)
    refine op (OpS.pass rfl rfl rfl ?_)
    refine op (OpS.pass rfl rfl rfl ?_)
    refine op (OpS.pass rfl rfl rfl ?_)
    refine op (OpS.pick rfl rfl rfl rfl ?_)
    refine RunL.nil ?_
    refine Run.slim [(25, .bool false), (5, u2), (3, u1)] ⟨rfl, rfl, rfl, trivial⟩ ?_
    refine Run.slim [(3, u1), (5, u2), (25, .bool false)] ⟨rfl, rfl, rfl, trivial⟩ ?_
    exact hj1 (false) _ _ ⟨rfl, (h4.facts .nil).picks (.cons (.s .z) (.cons .z .nil))⟩ hF
theorem checksum_OpenCRC8_ok {fuel : Nat} {a0 : List Int} {y : (List Int) × Int} (hF : checksum_OpenCRC8 fuel a0 = some y) {w : World} {v0 : Value} :
  Spec Try.prog 50 [v0].toArray w [(false, .val (Rep.slice (Rep.int .u8)) v0 a0)] [] (fun v Γr Ωr Ωo => ∃ u0 : Value, v = .tuple #[u0, .int .i64 y.2] ∧ Γr = [] ∧ Ωr = [(true, (.slice 5 (Rep.int .u8) u0 y.1))] ∧ Ωo = []) := by
 refine Spec.of (L := [(0, v0)]) Try.func50 rfl ⟨rfl, trivial⟩ rfl (fun e h => ?_)
 unfold checksum_OpenCRC8 at hF
 refine Run.seq ?_
 refine Run.reg ?_
 refine op (OpS.as rfl rfl rfl ?_)
 refine op (OpS.as rfl rfl rfl ?_)
 refine RunL.nil ?_
 refine Run.slim [(0, v0)] ⟨rfl, trivial⟩ ?_
 refine Run.seq ?_
 refine Run.reg ?_
 refine op (OpS.mv rfl rfl rfl ?_)
 refine op (OpS.len h Try.underlying34 rfl rfl rfl (V.at .z) ?_)
 refine op (OpS.bin rfl rfl rfl rfl rfl ?_)
 refine op (OpS.as rfl rfl rfl ?_)
 obtain ⟨x1, e1, hF⟩ := letP_use hF
 refine RunL.name e1 ?_
 refine RunL.nil ?_
 refine Run.slim [(4, .int .i64 x1), (0, v0)] ⟨rfl, rfl, trivial⟩ ?_
 refine Run.seq ?_
 refine Run.block ?_
 refine Run.seq ?_
 refine Run.reg ?_
 refine op (OpS.mv rfl rfl rfl ?_)
 refine op (OpS.bin rfl rfl rfl rfl rfl ?_)
 refine op (OpS.as rfl rfl rfl ?_)
 obtain ⟨x2, e2, hF⟩ := letP_use hF
 refine RunL.nameb e2 ?_
 refine RunL.nil ?_
 refine Run.slim [(8, .bool x2), (4, .int .i64 x1), (0, v0)] ⟨rfl, rfl, rfl, trivial⟩ ?_
 refine Run.ite rfl hF (fun e3 hF => ?_) (fun e3 hF => ?_)
 ·
  refine Run.seq ?_
  refine Run.reg ?_
  refine op (OpS.as rfl rfl rfl ?_)
  refine op (OpS.as rfl rfl rfl ?_)
  refine RunL.nil ?_
  refine Run.slim [(3, .int .i64 4), (2, .slice none 0 0)] ⟨rfl, rfl, trivial⟩ ?_
  have h1 := St.nil 5 (Rep.int .u8) h
  refine Run.retP rfl (.tmp rfl (.tmp rfl .nil)) ?_
  cases hF
  exact Post.mk' ⟨(.slice none 0 0), rfl, rfl, rfl, rfl⟩ (h1.picks (.cons .z .nil)) .nil
 ·
  refine Run.seq ?_
  obtain ⟨x3, e4, hF⟩ := bindP_use hF
  obtain ⟨y1, e5, hF⟩ := bindP_use hF
  obtain ⟨x4, e6, hF⟩ := bindP_use hF
  refine Run.drawV (Ωs := []) [⟨some 12, some (v0), fun _ => [], fun ds_ u_ => [], [], [], none⟩, ⟨some 13, some (.int .i64 x1), fun _ => [], fun ds_ u_ => [], [], [], none⟩, ⟨some 14, none, fun u_ => [(false, .val (Rep.slice (Rep.int .u8)) u_ x3)], fun ds_ u_ => [], [], [], none⟩, ⟨some 15, some (.int .u8 y1), fun _ => [], fun ds_ u_ => [], [], [], none⟩, ⟨some 16, some (v0), fun _ => [], fun ds_ u_ => [], [], [], none⟩, ⟨some 17, some (.int .i64 x1), fun _ => [], fun ds_ u_ => [], [], [], none⟩, ⟨some 18, none, fun u_ => [(false, .ptr (Rep.int .u8) u_ x4)], fun ds_ u_ => [], [], [], none⟩, ⟨some 19, some (.int .u8 x4), fun _ => [], fun ds_ u_ => [], [], [], none⟩, ⟨some 20, some (.bool (y1 != x4)), fun _ => [], fun ds_ u_ => [], [], [], none⟩, ⟨some 11, some (.bool (y1 != x4)), fun _ => [], fun ds_ u_ => [], [], [], none⟩] [[], [], [0, 1], [2], [], [], [4, 5], [6], [3, 7], [8]] [] [0, 1, 2, 3, 4, 5, 6, 7, 8, 9] Try_mixed rfl rfl rfl h (.cons ?_ (.cons ?_ (.cons ?_ (.cons ?_ (.cons ?_ (.cons ?_ (.cons ?_ (.cons ?_ (.cons ?_ (.cons ?_ .nil)))))))))) (fun q1 w hq1 h => ?_)
  ·intro q1 w Γx Ωx h
   refine OpS.mv rfl rfl rfl ?_
   exact ⟨undef, rfl, trivial, h⟩
  ·intro q1 w Γx Ωx h
   refine OpS.mv rfl rfl rfl ?_
   exact ⟨undef, rfl, trivial, h⟩
  ·intro q1 w Γx Ωx h
   refine OpS.sub h Try.underlying34 ty5 rfl rfl rfl rfl rfl (V.at .z) e4 (fun u h6 => ?_)
   exact ⟨u, rfl, trivial, h6⟩
  ·intro q1 w Γx Ωx h
   refine OpS.callP h Try.func59 rfl rfl rfl rfl (vs := [(q1 2)]) rfl (checksum_CRC8_ok e5) (.cons (f := false) (V.at .z) .nil) ?_
   rintro _ w2 _ _ _ ⟨rfl, rfl, rfl, rfl⟩ h7
   have h8 := h7 rfl rfl
   simp only [List.cons_append, List.nil_append] at h8
   exact ⟨undef, rfl, trivial, h8⟩
  ·intro q1 w Γx Ωx h
   refine OpS.mv rfl rfl rfl ?_
   exact ⟨undef, rfl, trivial, h⟩
  ·intro q1 w Γx Ωx h
   refine OpS.mv rfl rfl rfl ?_
   exact ⟨undef, rfl, trivial, h⟩
  ·intro q1 w Γx Ωx h
   refine OpS.iptr h Try.underlying34 ty5 rfl rfl rfl rfl (V.at .z) e6 (fun u h9 => ?_)
   exact ⟨u, rfl, trivial, h9⟩
  ·intro q1 w Γx Ωx h
   refine OpS.loadi h ty5 rfl rfl rfl .z ?_
   exact ⟨undef, rfl, trivial, h⟩
  ·intro q1 w Γx Ωx h
   refine OpS.bin rfl rfl rfl rfl rfl ?_
   exact ⟨undef, rfl, trivial, h⟩
  ·intro q1 w Γx Ωx h
   refine OpS.as rfl rfl rfl ?_
   exact ⟨undef, rfl, trivial, h⟩
  have h10 : St e w [(false, .val (Rep.slice (Rep.int .u8)) (q1 2) x3), (false, .ptr (Rep.int .u8) (q1 6) x4), (false, .val (Rep.slice (Rep.int .u8)) v0 a0)] [] := h
  refine RunL.nil ?_
  refine Run.slim [(11, .bool (y1 != x4)), (4, .int .i64 x1), (0, v0)] ⟨rfl, rfl, rfl, trivial⟩ ?_
  refine Run.ite rfl hF (fun e7 hF => ?_) (fun e7 hF => ?_)
  ·
   refine Run.seq ?_
   refine Run.reg ?_
   refine op (OpS.as rfl rfl rfl ?_)
   refine op (OpS.as rfl rfl rfl ?_)
   refine RunL.nil ?_
   refine Run.slim [(3, .int .i64 5), (2, .slice none 0 0)] ⟨rfl, rfl, trivial⟩ ?_
   have h11 := St.nil 5 (Rep.int .u8) h10
   refine Run.retP rfl (.tmp rfl (.tmp rfl .nil)) ?_
   cases hF
   exact Post.mk' ⟨(.slice none 0 0), rfl, rfl, rfl, rfl⟩ (h11.picks (.cons .z .nil)) .nil
  ·
   refine Run.skip ?_
   refine Run.endBlock ?_
   refine Run.seq ?_
   refine Run.reg ?_
   refine op (OpS.mv rfl rfl rfl ?_)
   refine op (OpS.mv rfl rfl rfl ?_)
   obtain ⟨x5, e8, hF⟩ := bindP_use hF
   refine op (OpS.sub h10 Try.underlying34 ty5 rfl rfl rfl rfl rfl (V.at (.s (.s .z))) e8 (fun u1 h12 => ?_))
   obtain ⟨y2, e9, hF⟩ := bindP_use hF
   refine op (OpS.callP h12 Try.func51 rfl rfl rfl rfl (vs := [u1]) rfl (slices_Clone_byte_byte_ok e9) (.cons (f := false) (V.at .z) .nil) ?_)
   rintro u2 w3 _ _ _ ⟨_, rfl, rfl, rfl, rfl⟩ h13
   have h14 := h13 rfl rfl
   simp only [List.cons_append, List.nil_append] at h14
   refine op (OpS.as rfl rfl rfl ?_)
   refine op (OpS.as rfl rfl rfl ?_)
   refine RunL.nil ?_
   refine Run.slim [(3, .int .i64 0), (2, u2)] ⟨rfl, rfl, trivial⟩ ?_
   refine Run.retP rfl (.tmp rfl (.tmp rfl .nil)) ?_
   cases hF
   exact Post.mk' ⟨u2, rfl, rfl, rfl, rfl⟩ (h14.picks (.cons .z .nil)) .nil
set_option maxHeartbeats 8000000 in
theorem frame_Decode_ok {fuel : Nat} {a0 : List Int} {y : Frame_ × Int} (hF : frame_Decode fuel a0 = some y) {w : World} {v0 : Value} :
  Spec Try.prog 29 [v0].toArray w [(false, .val (Rep.slice (Rep.int .u8)) v0 a0)] [] (fun v Γr Ωr Ωo => ∃ u0 : Value, v = .tuple #[u0, .int .i64 y.2] ∧ Γr = [(true, .val Frame_.rep u0 y.1)] ∧ Ωr = [] ∧ Ωo = []) := by
 refine Spec.of (L := [(0, v0)]) Try.func29 rfl ⟨rfl, trivial⟩ rfl (fun e h => ?_)
 unfold frame_Decode at hF
 refine Run.seq ?_
 refine Run.reg ?_
 refine op (OpS.alloc h ti36 Frame_.zr rfl rfl (fun u1 w1 h1 => ?_))
 refine op (OpS.as rfl rfl rfl ?_)
 refine RunL.nil ?_
 refine Run.slim [(2, u1), (0, v0)] ⟨rfl, rfl, trivial⟩ ?_
 refine Run.seq ?_
 refine Run.seq ?_
 refine Run.reg ?_
 refine op (OpS.mv rfl rfl rfl ?_)
 refine op (OpS.len h1 Try.underlying34 rfl rfl rfl (V.at .z) ?_)
 refine op (OpS.bin rfl rfl rfl rfl rfl ?_)
 refine RunL.nil ?_
 refine Run.slim [(9, .bool (decide ((a0.length : Int) < 5))), (2, u1), (0, v0)] ⟨rfl, rfl, rfl, trivial⟩ ?_
 refine Run.ite rfl hF (fun e1 hF => ?_) (fun e1 hF => ?_)
 ·
  refine Run.seq ?_
  refine Run.reg ?_
  refine op (OpS.build (f := true) (x' := Frame_.z) h1 pl36 ti36 Frame_.zr rfl rfl rfl .nil (fun u2 h2 => ?_))
  refine op (OpS.storeB (f' := true) h2 .z PA.z Put.id ty36 rfl rfl rfl (V.at .z) (.inl rfl) (fun w2 h3 => ?_))
  refine op (OpS.as rfl rfl rfl ?_)
  refine RunL.nil ?_
  refine Run.slim [(3, .int .i64 4), (2, u1)] ⟨rfl, rfl, trivial⟩ ?_
  obtain ⟨u3, hu1, h4⟩ := res_box h3 .z ty36
  refine Run.retP rfl (.cell rfl hu1 (.tmp rfl .nil)) ?_
  cases hF
  exact Post.mk' ⟨u3, rfl, rfl, rfl, rfl⟩ (h4.picks .nil) (.val (V.at .z) .nil)
 ·
  refine Run.skip ?_
  refine Run.seq ?_
  refine Run.reg ?_
  refine op (OpS.mv rfl rfl rfl ?_)
  refine op (OpS.len h1 Try.underlying34 rfl rfl rfl (V.at .z) ?_)
  refine op (OpS.as rfl rfl rfl ?_)
  refine RunL.nil ?_
  refine Run.slim [(4, .int .i64 (a0.length : Int)), (2, u1), (0, v0)] ⟨rfl, rfl, rfl, trivial⟩ ?_
  refine Run.seq ?_
  refine Run.reg ?_
  refine op (OpS.mv rfl rfl rfl ?_)
  obtain ⟨y1, e2, hF⟩ := bindP_use hF
  refine op (OpS.callP h1 Try.func50 rfl rfl rfl rfl (vs := [v0]) rfl (checksum_OpenCRC8_ok e2) (.cons (f := false) (V.at .z) .nil) ?_)
  rintro _ w3 _ _ _ ⟨u4, rfl, rfl, rfl, rfl⟩ h5
  have h6 := h5 rfl rfl
  simp only [List.cons_append, List.nil_append] at h6
  refine op (OpS.mv rfl rfl rfl ?_)
  refine op (OpS.ext rfl rfl rfl rfl ?_)
  refine op (OpS.ext rfl rfl rfl rfl ?_)
  refine op (OpS.as rfl rfl rfl ?_)
  have h7 := (h6.pick .z).freeze
  refine op (OpS.as rfl rfl rfl ?_)
  refine RunL.nil ?_
  refine Run.slim [(5, .int .i64 y1.2), (0, u4), (4, .int .i64 (a0.length : Int)), (2, u1)] ⟨rfl, rfl, rfl, rfl, trivial⟩ ?_
  refine Run.seq ?_
  refine Run.seq ?_
  refine Run.reg ?_
  refine op (OpS.mv rfl rfl rfl ?_)
  refine op (OpS.bin rfl rfl rfl rfl rfl ?_)
  refine RunL.nil ?_
  refine Run.slim [(19, .bool (y1.2 != 0)), (5, .int .i64 y1.2), (0, u4), (4, .int .i64 (a0.length : Int)), (2, u1)] ⟨rfl, rfl, rfl, rfl, rfl, trivial⟩ ?_
  refine Run.ite rfl hF (fun e3 hF => ?_) (fun e3 hF => ?_)
  ·
   refine Run.seq ?_
   refine Run.reg ?_
   refine op (OpS.build (f := true) (x' := Frame_.z) h7 pl36 ti36 Frame_.zr rfl rfl rfl .nil (fun u5 h8 => ?_))
   refine op (OpS.mv rfl rfl rfl ?_)
   refine op (OpS.storeB (f' := true) h8 .z PA.z Put.id ty36 rfl rfl rfl (V.at .z) (.inl rfl) (fun w4 h9 => ?_))
   refine op (OpS.as rfl rfl rfl ?_)
   refine RunL.nil ?_
   refine Run.slim [(3, .int .i64 y1.2), (2, u1)] ⟨rfl, rfl, trivial⟩ ?_
   obtain ⟨u6, hu2, h10⟩ := res_box h9 .z ty36
   refine Run.retP rfl (.cell rfl hu2 (.tmp rfl .nil)) ?_
   cases hF
   exact Post.mk' ⟨u6, rfl, rfl, rfl, rfl⟩ (h10.picks .nil) (.val (V.at .z) .nil)
  ·
   refine Run.skip ?_
   refine Run.seq ?_
   obtain ⟨x1, e4, hF⟩ := bindP_use hF
   obtain ⟨x2, e5, hF⟩ := bindP_use hF
   obtain ⟨x3, e6, hF⟩ := bindP_use hF
   obtain ⟨y2, e7, hF⟩ := bindP_use hF
   refine Run.drawV (Ωs := [(true, .box 36 Frame_.rep u1 Frame_.z)]) [⟨some 22, some (u4), fun _ => [], fun ds_ u_ => [], [], [], none⟩, ⟨some 23, none, fun u_ => [(true, .ptr (Rep.int .u8) u_ x1)], fun ds_ u_ => [], [], [], none⟩, ⟨some 24, some (.int .u8 x1), fun _ => [], fun ds_ u_ => [], [], [], none⟩, ⟨some 25, some (.int .u8 (IntKind.u8.wrap (Int.tdiv x1 2))), fun _ => [], fun ds_ u_ => [], [], [], none⟩, ⟨some 26, some (u4), fun _ => [], fun ds_ u_ => [], [], [], none⟩, ⟨some 27, none, fun u_ => [(true, .ptr (Rep.int .u8) u_ x2)], fun ds_ u_ => [], [], [], none⟩, ⟨some 28, some (.int .u8 x2), fun _ => [], fun ds_ u_ => [], [], [], none⟩, ⟨some 29, some (.int .u8 (IntKind.u8.wrap (Int.tdiv x2 2))), fun _ => [], fun ds_ u_ => [], [], [], none⟩, ⟨some 30, some (u4), fun _ => [], fun ds_ u_ => [], [], [], none⟩, ⟨some 31, none, fun u_ => [(true, .val (Rep.slice (Rep.int .u8)) u_ x3)], fun ds_ u_ => [], [], [], none⟩, ⟨some 32, none, fun u_ => [(true, .val (Rep.slice (Rep.int .u8)) u_ y2)], fun ds_ u_ => [], [], [], none⟩, ⟨some 33, none, fun u_ => [(true, .val Frame_.rep u_ (⟨(IntKind.u8.wrap (Int.tdiv x1 2)), (IntKind.u8.wrap (Int.tdiv x2 2)), y2⟩ : Frame_))], fun ds_ u_ => [], [], [], none⟩, ⟨some 6, none, fun u_ => [], fun ds_ u_ => [(true, .box 36 Frame_.rep u_ Frame_.z)], [], [], none⟩] [[], [0], [1], [2], [], [4], [5], [6], [], [8], [9], [3, 7, 10], []] [] [0, 1, 2, 3, 4, 5, 6, 7, 8, 9, 10, 11, 12] Try_mixed rfl rfl rfl h7 (.cons ?_ (.cons ?_ (.cons ?_ (.cons ?_ (.cons ?_ (.cons ?_ (.cons ?_ (.cons ?_ (.cons ?_ (.cons ?_ (.cons ?_ (.cons ?_ (.cons ?_ .nil))))))))))))) (fun q1 w hq1 h => ?_)
   ·intro q1 w Γx Ωx h
    refine OpS.mv rfl rfl rfl ?_
    exact ⟨undef, rfl, trivial, h⟩
   ·intro q1 w Γx Ωx h
    refine OpS.iptr h Try.underlying34 ty5 rfl rfl rfl rfl (V.at .z) e4 (fun u h19 => ?_)
    exact ⟨u, rfl, trivial, h19⟩
   ·intro q1 w Γx Ωx h
    refine OpS.loadi h ty5 rfl rfl rfl .z ?_
    exact ⟨undef, rfl, trivial, h⟩
   ·intro q1 w Γx Ωx h
    refine OpS.quo rfl rfl rfl rfl (by decide) ?_
    exact ⟨undef, rfl, trivial, h⟩
   ·intro q1 w Γx Ωx h
    refine OpS.mv rfl rfl rfl ?_
    exact ⟨undef, rfl, trivial, h⟩
   ·intro q1 w Γx Ωx h
    refine OpS.iptr h Try.underlying34 ty5 rfl rfl rfl rfl (V.at .z) e5 (fun u h20 => ?_)
    exact ⟨u, rfl, trivial, h20⟩
   ·intro q1 w Γx Ωx h
    refine OpS.loadi h ty5 rfl rfl rfl .z ?_
    exact ⟨undef, rfl, trivial, h⟩
   ·intro q1 w Γx Ωx h
    refine OpS.quo rfl rfl rfl rfl (by decide) ?_
    exact ⟨undef, rfl, trivial, h⟩
   ·intro q1 w Γx Ωx h
    refine OpS.mv rfl rfl rfl ?_
    exact ⟨undef, rfl, trivial, h⟩
   ·intro q1 w Γx Ωx h
    refine OpS.sub h Try.underlying34 ty5 rfl rfl rfl rfl rfl (V.at .z) e6 (fun u h21 => ?_)
    exact ⟨u, rfl, trivial, h21⟩
   ·intro q1 w Γx Ωx h
    refine OpS.callP h Try.func51 rfl rfl rfl rfl (vs := [(q1 9)]) rfl (slices_Clone_byte_byte_ok e7) (.cons (f := true) (V.at .z) .nil) ?_
    rintro u w7 _ _ _ ⟨_, rfl, rfl, rfl, rfl⟩ h22
    have h23 := h22 rfl rfl
    simp only [List.cons_append, List.nil_append] at h23
    have h24 := h23.freeze
    exact ⟨u, rfl, trivial, h24⟩
   ·intro q1 w Γx Ωx h
    refine OpS.build (f := true) (x' := (⟨(IntKind.u8.wrap (Int.tdiv x1 2)), (IntKind.u8.wrap (Int.tdiv x2 2)), y2⟩ : Frame_)) h pl36 ti36 Frame_.zr rfl rfl rfl (.cons rfl Frame_.f0 rfl V.int (.cons rfl Frame_.f1 rfl V.int (.cons rfl Frame_.f2 rfl (V.at .z) .nil))) (fun u h25 => ?_)
    exact ⟨u, rfl, trivial, h25⟩
   ·intro q1 w Γx Ωx h
    refine OpS.alloc h ti36 Frame_.zr rfl rfl (fun u w8 h26 => ?_)
    exact ⟨u, rfl, trivial, h26⟩
   have h27 : St e w [(true, .ptr (Rep.int .u8) (q1 1) x1), (true, .ptr (Rep.int .u8) (q1 5) x2), (true, .val (Rep.slice (Rep.int .u8)) (q1 9) x3), (true, .val (Rep.slice (Rep.int .u8)) (q1 10) y2), (true, .val Frame_.rep (q1 11) (⟨(IntKind.u8.wrap (Int.tdiv x1 2)), (IntKind.u8.wrap (Int.tdiv x2 2)), y2⟩ : Frame_)), (true, .val (Rep.slice (Rep.int .u8)) u4 y1.1), (false, .val (Rep.slice (Rep.int .u8)) v0 a0)] [(true, .box 36 Frame_.rep (q1 12) Frame_.z), (true, .box 36 Frame_.rep u1 Frame_.z)] := h
   refine op (OpS.storeB (f' := true) h27 .z PA.z Put.id ty36 rfl rfl rfl (V.at (.s (.s (.s (.s .z))))) (.inl rfl) (fun w9 h28 => ?_))
   refine RunL.nil ?_
   refine Run.slim [(6, (q1 12)), (0, u4), (4, .int .i64 (a0.length : Int)), (2, u1)] ⟨rfl, rfl, rfl, rfl, trivial⟩ ?_
   refine Run.seq ?_
   refine Run.block ?_
   refine Run.seq ?_
   refine Run.reg ?_
   refine op (OpS.mv rfl rfl rfl ?_)
   obtain ⟨x4, e8, hF⟩ := bindP_use hF
   refine op (OpS.iptr h28 Try.underlying34 ty5 rfl rfl rfl rfl (V.at (.s (.s (.s (.s (.s .z)))))) e8 (fun u7 h29 => ?_))
   refine op (OpS.loadi h29 ty5 rfl rfl rfl .z ?_)
   refine op (OpS.rem rfl rfl rfl rfl (by decide) ?_)
   refine op (OpS.bin rfl rfl rfl rfl rfl ?_)
   refine op (OpS.mv rfl rfl rfl ?_)
   refine RunL.join (σ := Bool) (fun s_ L_ w_ => L_ = [(2, u1), (6, (q1 12)), (34, .bool s_)] ∧ St e w_ [] [(true, .box 36 Frame_.rep u1 Frame_.z), (true, .box 36 Frame_.rep (q1 12) (⟨(IntKind.u8.wrap (Int.tdiv x1 2)), (IntKind.u8.wrap (Int.tdiv x2 2)), y2⟩ : Frame_))]) hF (fun s1 _ w10 hI hF => ?_) (fun j1 hj1 hF => ?_)
   ·
    obtain ⟨rfl, h30⟩ := hI
    refine Run.ite rfl hF (fun e9 hF => ?_) (fun e9 hF => ?_)
    ·
     refine Run.seq ?_
     refine Run.reg ?_
     refine op (OpS.build (f := true) (x' := Frame_.z) h30 pl36 ti36 Frame_.zr rfl rfl rfl .nil (fun u8 h31 => ?_))
     refine op (OpS.storeB (f' := true) h31 .z PA.z Put.id ty36 rfl rfl rfl (V.at .z) (.inl rfl) (fun w11 h32 => ?_))
     refine op (OpS.as rfl rfl rfl ?_)
     refine RunL.nil ?_
     refine Run.slim [(3, .int .i64 6), (2, u1)] ⟨rfl, rfl, trivial⟩ ?_
     obtain ⟨u9, hu3, h33⟩ := res_box h32 .z ty36
     refine Run.retP rfl (.cell rfl hu3 (.tmp rfl .nil)) ?_
     cases hF
     exact Post.mk' ⟨u9, rfl, rfl, rfl, rfl⟩ (h33.picks .nil) (.val (V.at .z) .nil)
    ·
     refine Run.seq ?_
     refine Run.reg ?_
     refine op (OpS.fbox (o3 := 0) h30 (.s .z) PA.z fa36_0 rfl rfl rfl rfl ?_)
     refine op (OpS.loadBi h30 (.s .z) PA.a (Get.fld Frame_.f0) ty5 rfl rfl rfl ?_)
     obtain ⟨y3, e10, hF⟩ := bindP_use hF
     refine op (OpS.callP h30 Try.func52 rfl rfl rfl rfl (vs := [.int .u8 ((⟨(IntKind.u8.wrap (Int.tdiv x1 2)), (IntKind.u8.wrap (Int.tdiv x2 2)), y2⟩ : Frame_).To)]) rfl (frame_address_ok e10) .nil ?_)
     rintro _ w12 _ _ _ ⟨rfl, rfl, rfl, rfl⟩ h34
     have h35 := h34 rfl rfl
     simp only [List.cons_append, List.nil_append] at h35
     refine op (OpS.not rfl rfl rfl ?_)
     refine op (OpS.mv rfl rfl rfl ?_)
     refine RunL.join (σ := Bool) (fun s_ L_ w_ => L_ = [(2, u1), (6, (q1 12)), (63, .bool s_)] ∧ St e w_ [] [(true, .box 36 Frame_.rep u1 Frame_.z), (true, .box 36 Frame_.rep (q1 12) (⟨(IntKind.u8.wrap (Int.tdiv x1 2)), (IntKind.u8.wrap (Int.tdiv x2 2)), y2⟩ : Frame_))]) hF (fun s2 _ w13 hI hF => ?_) (fun j2 hj2 hF => ?_)
     ·
      obtain ⟨rfl, h36⟩ := hI
      refine Run.ite rfl hF (fun e11 hF => ?_) (fun e11 hF => ?_)
      ·
       refine Run.seq ?_
       refine Run.reg ?_
       refine op (OpS.build (f := true) (x' := Frame_.z) h36 pl36 ti36 Frame_.zr rfl rfl rfl .nil (fun u10 h37 => ?_))
       refine op (OpS.storeB (f' := true) h37 .z PA.z Put.id ty36 rfl rfl rfl (V.at .z) (.inl rfl) (fun w14 h38 => ?_))
       refine op (OpS.as rfl rfl rfl ?_)
       refine RunL.nil ?_
       refine Run.slim [(3, .int .i64 13), (2, u1)] ⟨rfl, rfl, trivial⟩ ?_
       obtain ⟨u11, hu4, h39⟩ := res_box h38 .z ty36
       refine Run.retP rfl (.cell rfl hu4 (.tmp rfl .nil)) ?_
       cases hF
       exact Post.mk' ⟨u11, rfl, rfl, rfl, rfl⟩ (h39.picks .nil) (.val (V.at .z) .nil)
      ·
       refine Run.seq ?_
       refine Run.reg ?_
       refine op (OpS.fbox (o3 := 2) h36 (.s .z) PA.z fa36_2 rfl rfl rfl rfl ?_)
       refine op (OpS.loadB h36 (.s .z) PA.a (Get.fld Frame_.f2) ty34 rfl rfl rfl (fun u12 h40 => ?_))
       refine op (OpS.len h40 Try.underlying34 rfl rfl rfl (V.at .z) ?_)
       refine op (OpS.bin rfl rfl rfl rfl rfl ?_)
       refine op (OpS.as rfl rfl rfl ?_)
       obtain ⟨x5, e12, hF⟩ := letP_use hF
       refine RunL.nameb e12 ?_
       refine RunL.nil ?_
       refine Run.slim [(75, .bool x5), (2, u1), (6, (q1 12))] ⟨rfl, rfl, rfl, trivial⟩ ?_
       refine Run.ite rfl hF (fun e13 hF => ?_) (fun e13 hF => ?_)
       ·
        refine Run.seq ?_
        refine Run.reg ?_
        refine op (OpS.build (f := true) (x' := Frame_.z) h40 pl36 ti36 Frame_.zr rfl rfl rfl .nil (fun u13 h41 => ?_))
        refine op (OpS.storeB (f' := true) h41 .z PA.z Put.id ty36 rfl rfl rfl (V.at .z) (.inl rfl) (fun w15 h42 => ?_))
        refine op (OpS.as rfl rfl rfl ?_)
        refine RunL.nil ?_
        refine Run.slim [(3, .int .i64 3), (2, u1)] ⟨rfl, rfl, trivial⟩ ?_
        obtain ⟨u14, hu5, h43⟩ := res_box h42 .z ty36
        refine Run.retP rfl (.cell rfl hu5 (.tmp rfl .nil)) ?_
        cases hF
        exact Post.mk' ⟨u14, rfl, rfl, rfl, rfl⟩ (h43.picks .nil) (.val (V.at .z) .nil)
       ·
        refine Run.skip ?_
        refine Run.endBlock ?_
        refine Run.seq ?_
        refine Run.reg ?_
        refine op (OpS.loadB h40 (.s .z) PA.z Get.id ty36 rfl rfl rfl (fun u15 h44 => ?_))
        refine op (OpS.storeB (f' := true) h44 .z PA.z Put.id ty36 rfl rfl rfl (V.at .z) (.inl rfl) (fun w16 h45 => ?_))
        refine op (OpS.as rfl rfl rfl ?_)
        refine RunL.nil ?_
        refine Run.slim [(3, .int .i64 0), (2, u1)] ⟨rfl, rfl, trivial⟩ ?_
        obtain ⟨u16, hu6, h46⟩ := res_box h45 .z ty36
        refine Run.retP rfl (.cell rfl hu6 (.tmp rfl .nil)) ?_
        cases hF
        exact Post.mk' ⟨u16, rfl, rfl, rfl, rfl⟩ (h46.picks .nil) (.val (V.at .z) .nil)
     ·
      refine RunL.caseb hF (fun e14 hF => ?_) (fun e14 hF => ?_)
      ·
       refine op (OpS.pass rfl rfl rfl ?_)
       refine op (OpS.pass rfl rfl rfl ?_)
       refine op (OpS.pass rfl rfl rfl ?_)
       refine op (OpS.pass rfl rfl rfl ?_)
       refine op (OpS.pick rfl rfl rfl rfl ?_)
       refine op (OpS.as rfl rfl rfl ?_)
       refine RunL.nil ?_
       refine Run.slim [(63, .bool true), (2, u1), (6, (q1 12))] ⟨rfl, rfl, rfl, trivial⟩ ?_
       refine Run.slim [(2, u1), (6, (q1 12)), (63, .bool true)] ⟨rfl, rfl, rfl, trivial⟩ ?_
       exact hj2 (true) _ _ ⟨rfl, (h35.facts .nil).picks (.cons .z (.cons .z .nil))⟩ hF
      ·
       refine op (OpS.fbox (o3 := 1) h35 (.s .z) PA.z fa36_1 rfl rfl rfl rfl ?_)
       refine op (OpS.loadBi h35 (.s .z) PA.a (Get.fld Frame_.f1) ty5 rfl rfl rfl ?_)
       obtain ⟨y4, e15, hF⟩ := bindP_use hF
       refine op (OpS.callP h35 Try.func52 rfl rfl rfl rfl (vs := [.int .u8 ((⟨(IntKind.u8.wrap (Int.tdiv x1 2)), (IntKind.u8.wrap (Int.tdiv x2 2)), y2⟩ : Frame_).From)]) rfl (frame_address_ok e15) .nil ?_)
       rintro _ w17 _ _ _ ⟨rfl, rfl, rfl, rfl⟩ h47
       have h48 := h47 rfl rfl
       simp only [List.cons_append, List.nil_append] at h48
       refine op (OpS.not rfl rfl rfl ?_)
       refine op (OpS.pick rfl rfl rfl rfl ?_)
       refine op (OpS.as rfl rfl rfl ?_)
       obtain ⟨x6, e16, hF⟩ := letP_use hF
       refine RunL.nameb e16 ?_
       refine RunL.nil ?_
       refine Run.slim [(63, .bool x6), (2, u1), (6, (q1 12))] ⟨rfl, rfl, rfl, trivial⟩ ?_
       refine Run.slim [(2, u1), (6, (q1 12)), (63, .bool x6)] ⟨rfl, rfl, rfl, trivial⟩ ?_
       exact hj2 (x6) _ _ ⟨rfl, (h48.facts .nil).picks (.cons .z (.cons .z .nil))⟩ hF
   ·
    refine RunL.caseb hF (fun e17 hF => ?_) (fun e17 hF => ?_)
    ·
     refine op (OpS.pass rfl rfl rfl ?_)
     refine op (OpS.pass rfl rfl rfl ?_)
     refine op (OpS.pass rfl rfl rfl ?_)
     refine op (OpS.pass rfl rfl rfl ?_)
     refine op (OpS.pick rfl rfl rfl rfl ?_)
     refine op (OpS.mv rfl rfl rfl ?_)
     refine op (OpS.pass rfl rfl rfl ?_)
     refine op (OpS.pass rfl rfl rfl ?_)
     refine op (OpS.pass rfl rfl rfl ?_)
     refine op (OpS.pass rfl rfl rfl ?_)
     refine op (OpS.pass rfl rfl rfl ?_)
     refine op (OpS.pass rfl rfl rfl ?_)
     refine op (OpS.pass rfl rfl rfl ?_)
     refine op (OpS.pick rfl rfl rfl rfl ?_)
     refine op (OpS.mv rfl rfl rfl ?_)
     refine op (OpS.pass rfl rfl rfl ?_)
     refine op (OpS.pass rfl rfl rfl ?_)
     refine op (OpS.pass rfl rfl rfl ?_)
     refine op (OpS.pass rfl rfl rfl ?_)
     refine op (OpS.pass rfl rfl rfl ?_)
     refine op (OpS.pick rfl rfl rfl rfl ?_)
     refine op (OpS.as rfl rfl rfl ?_)
     refine RunL.nil ?_
     refine Run.slim [(34, .bool true), (6, (q1 12)), (2, u1)] ⟨rfl, rfl, rfl, trivial⟩ ?_
     refine Run.slim [(2, u1), (6, (q1 12)), (34, .bool true)] ⟨rfl, rfl, rfl, trivial⟩ ?_
     exact hj1 (true) _ _ ⟨rfl, (h29.facts .nil).picks (.cons (.s .z) (.cons .z .nil))⟩ hF
    ·
     refine op (OpS.mv rfl rfl rfl ?_)
     obtain ⟨x7, e18, hF⟩ := bindP_use hF
     refine op (OpS.iptr h29 Try.underlying34 ty5 rfl rfl rfl rfl (V.at (.s (.s (.s (.s (.s (.s .z))))))) e18 (fun u17 h49 => ?_))
     refine op (OpS.loadi h49 ty5 rfl rfl rfl .z ?_)
     refine op (OpS.bin rfl rfl rfl rfl rfl ?_)
     refine op (OpS.pick rfl rfl rfl rfl ?_)
     refine op (OpS.mv rfl rfl rfl ?_)
     refine RunL.caseb hF (fun e19 hF => ?_) (fun e19 hF => ?_)
     ·
      refine op (OpS.pass rfl rfl rfl ?_)
      refine op (OpS.pass rfl rfl rfl ?_)
      refine op (OpS.pass rfl rfl rfl ?_)
      refine op (OpS.pass rfl rfl rfl ?_)
      refine op (OpS.pass rfl rfl rfl ?_)
      refine op (OpS.pass rfl rfl rfl ?_)
      refine op (OpS.pass rfl rfl rfl ?_)
      refine op (OpS.pick rfl rfl rfl rfl ?_)
      refine op (OpS.mv rfl rfl rfl ?_)
      refine op (OpS.pass rfl rfl rfl ?_)
      refine op (OpS.pass rfl rfl rfl ?_)
      refine op (OpS.pass rfl rfl rfl ?_)
      refine op (OpS.pass rfl rfl rfl ?_)
      refine op (OpS.pass rfl rfl rfl ?_)
      refine op (OpS.pick rfl rfl rfl rfl ?_)
      refine op (OpS.as rfl rfl rfl ?_)
      refine RunL.nil ?_
      refine Run.slim [(34, .bool true), (6, (q1 12)), (2, u1)] ⟨rfl, rfl, rfl, trivial⟩ ?_
      refine Run.slim [(2, u1), (6, (q1 12)), (34, .bool true)] ⟨rfl, rfl, rfl, trivial⟩ ?_
      exact hj1 (true) _ _ ⟨rfl, (h49.facts .nil).picks (.cons (.s .z) (.cons .z .nil))⟩ hF
     ·
      refine op (OpS.mv rfl rfl rfl ?_)
      obtain ⟨x8, e20, hF⟩ := bindP_use hF
      refine op (OpS.iptr h49 Try.underlying34 ty5 rfl rfl rfl rfl (V.at (.s (.s (.s (.s (.s (.s (.s .z)))))))) e20 (fun u18 h50 => ?_))
      refine op (OpS.loadi h50 ty5 rfl rfl rfl .z ?_)
      refine op (OpS.conv Try.underlying5 Try.underlying3 rfl rfl rfl ?_)
      refine op (OpS.mv rfl rfl rfl ?_)
      refine op (OpS.bin rfl rfl rfl rfl rfl ?_)
      refine op (OpS.bin rfl rfl rfl rfl rfl ?_)
      refine op (OpS.pick rfl rfl rfl rfl ?_)
      refine op (OpS.mv rfl rfl rfl ?_)
      refine RunL.caseb hF (fun e21 hF => ?_) (fun e21 hF => ?_)
      ·
       refine op (OpS.pass rfl rfl rfl ?_)
       refine op (OpS.pass rfl rfl rfl ?_)
       refine op (OpS.pass rfl rfl rfl ?_)
       refine op (OpS.pass rfl rfl rfl ?_)
       refine op (OpS.pass rfl rfl rfl ?_)
       refine op (OpS.pick rfl rfl rfl rfl ?_)
       refine op (OpS.as rfl rfl rfl ?_)
       refine RunL.nil ?_
       refine Run.slim [(34, .bool true), (6, (q1 12)), (2, u1)] ⟨rfl, rfl, rfl, trivial⟩ ?_
       refine Run.slim [(2, u1), (6, (q1 12)), (34, .bool true)] ⟨rfl, rfl, rfl, trivial⟩ ?_
       exact hj1 (true) _ _ ⟨rfl, (h50.facts .nil).picks (.cons (.s .z) (.cons .z .nil))⟩ hF
      ·
       refine op (OpS.mv rfl rfl rfl ?_)
       obtain ⟨x9, e22, hF⟩ := bindP_use hF
       refine op (OpS.iptr h50 Try.underlying34 ty5 rfl rfl rfl rfl (V.at (.s (.s (.s (.s (.s (.s (.s (.s .z))))))))) e22 (fun u19 h51 => ?_))
       refine op (OpS.loadi h51 ty5 rfl rfl rfl .z ?_)
       refine op (OpS.rem rfl rfl rfl rfl (by decide) ?_)
       refine op (OpS.bin rfl rfl rfl rfl rfl ?_)
       refine op (OpS.pick rfl rfl rfl rfl ?_)
       refine op (OpS.as rfl rfl rfl ?_)
       obtain ⟨x10, e23, hF⟩ := letP_use hF
       refine RunL.nameb e23 ?_
       refine RunL.nil ?_
       refine Run.slim [(34, .bool x10), (6, (q1 12)), (2, u1)] ⟨rfl, rfl, rfl, trivial⟩ ?_
       refine Run.slim [(2, u1), (6, (q1 12)), (34, .bool x10)] ⟨rfl, rfl, rfl, trivial⟩ ?_
       exact hj1 (x10) _ _ ⟨rfl, (h51.facts .nil).picks (.cons (.s .z) (.cons .z .nil))⟩ hF
theorem bus_Bus_Step_1_2_ok {fuel : Nat} {a0 : Int} {a1 : bus_Bus} {y : (List Int)} (hF : bus_Bus_Step_1_2 fuel a0 a1 = some y) {w : World} {v1c v1c_0 v1 : Value} :
  Spec Try.prog 38 [.int .i64 a0, v1].toArray w [(false, .ptr (Rep.raw (α := Unit) (v1c)) v1 ())] [(false, .box 76 (Rep.iso (fun s : bus_Bus => (s.masters, ())) (Rep.prod (Rep.raw (α := List bus_master) v1c_0) Rep.unit)) v1c a1), (false, .oval (oslice 85 3 (fun _ => bus_master.orep)) v1c_0 a1.masters)] (fun v Γr Ωr Ωo => ∃ u0 : Value, v = u0 ∧ Γr = [(false, .val (Rep.slice (Rep.int .u8)) u0 y)] ∧ Ωr = [] ∧ Ωo = [(false, .box 76 (Rep.iso (fun s : bus_Bus => (s.masters, ())) (Rep.prod (Rep.raw (α := List bus_master) v1c_0) Rep.unit)) v1c a1), (false, (.oval (oslice 85 3 (fun _ => bus_master.orep)) v1c_0 a1.masters))]) := by
 refine Spec.of (L := [(0, .int .i64 a0), (1, v1)]) Try.func38 rfl ⟨rfl, rfl, trivial⟩ rfl (fun e h => ?_)
 unfold bus_Bus_Step_1_2 at hF
 refine Run.seq ?_
 refine Run.reg ?_
 refine op (OpS.as rfl rfl rfl ?_)
 refine RunL.nil ?_
 refine Run.slim [(0, .int .i64 a0), (1, v1)] ⟨rfl, rfl, trivial⟩ ?_
 refine Run.seq ?_
 refine Run.reg ?_
 refine op (OpS.loadPR h tyf25 rfl rfl rfl .z ?_)
 refine op (OpS.nchk h .z rfl rfl rfl ?_)
 refine op (OpS.fbox (o3 := 0) h .z PA.z fa76_0 rfl rfl rfl rfl ?_)
 refine op (OpS.loadR h .z PA.a (GetS.ok (GetS.iso _ (GetS.here GetS.id))) ty74 rfl rfl rfl rfl rfl ?_)
 refine op (OpS.mv rfl rfl rfl ?_)
 obtain ⟨x1, e1, hF⟩ := bindP_use hF
 refine op (OpS.iownD h (.s .z) Try.underlying74 sz85 rfl rfl rfl rfl e1 ?_)
 refine op (OpS.fownD h (.s .z) (idx_ne e1) PA.a fa85_0 rfl rfl rfl ?_)
 refine op (OpS.openO (F' := fun v_ => at' (fun _ => bus_master.orep) (a0).toNat (bus_master.orepW (raw v_))) (hn := fun _ => rfl) (hn' := fun _ => at_hn rfl rfl) h (.s .z) (idx_ne e1) PA.a (fun v_ => Len.comp (Len.arrOpen e1) (bus_master.lenO v_)) rfl ty59 rfl rfl rfl rfl (fun u1 h1 => ?_))
 obtain ⟨x2, e2, hF⟩ := bindP_use hF
 refine op (OpS.iownD h1 (.s .z) Try.underlying59 sz34 rfl rfl rfl rfl e2 ?_)
 refine op (OpS.loadS h1 (.s .z) Wk.sh rfl (idx_ne e2) PA.a (Get.arr e2) ty34 rfl rfl rfl (fun u2 h2 => ?_))
 refine op (OpS.as rfl rfl rfl ?_)
 refine RunL.nil ?_
 refine Run.slim [(3, u2)] ⟨rfl, trivial⟩ ?_
 have h3 := St.shutS (F := (at' (fun _ => bus_master.orep) (a0).toNat (bus_master.orepW (raw u1)))) (F2 := fun _ => bus_master.orep) (hn := at_hn rfl rfl) (hn2 := fun _ => rfl) (h2.front (.cons .z (.cons .z .nil))) (.inr rfl) (idx_ne e1) (Len.comp (Len.arrShut e1) (bus_master.lenC u1)) rfl
 refine Run.retP rfl (.tmp rfl .nil) ?_
 cases hF
 exact Post.mk' ⟨u2, rfl, rfl, rfl, rfl⟩ (h3.picks (.cons (.s .z) (.cons .z .nil))) (.val (V.at .z) .nil)
theorem bus_Bus_Step_2_2_ok {fuel : Nat} {a0 : Int} {a1 : Int} {a2_0 : bus_Bus} {y : Int} (hF : bus_Bus_Step_2_2 fuel a0 a1 a2_0 = some y) {w : World} {v2c_0c v2c_0c_0 v2c_0 v2 : Value} :
  Spec Try.prog 40 [.int .i64 a0, .int .i64 a1, v2].toArray w [(false, .ptr (Rep.raw (α := Unit) (v2c_0c)) v2c_0 ()), (false, .ptr (Rep.raw (α := Unit) (.func (.func 38) #[] #[v2c_0])) v2 ())] [(false, .box 76 (Rep.iso (fun s : bus_Bus => (s.masters, ())) (Rep.prod (Rep.raw (α := List bus_master) v2c_0c_0) Rep.unit)) v2c_0c a2_0), (false, .oval (oslice 85 3 (fun _ => bus_master.orep)) v2c_0c_0 a2_0.masters)] (fun v Γr Ωr Ωo => v = .int .i64 y ∧ Γr = [] ∧ Ωr = [] ∧ Ωo = [(false, .box 76 (Rep.iso (fun s : bus_Bus => (s.masters, ())) (Rep.prod (Rep.raw (α := List bus_master) v2c_0c_0) Rep.unit)) v2c_0c a2_0), (false, (.oval (oslice 85 3 (fun _ => bus_master.orep)) v2c_0c_0 a2_0.masters))]) := by
 refine Spec.of (L := [(0, .int .i64 a0), (1, .int .i64 a1), (2, v2)]) Try.func40 rfl ⟨rfl, rfl, rfl, trivial⟩ rfl (fun e h => ?_)
 unfold bus_Bus_Step_2_2 at hF
 refine Run.seq ?_
 refine Run.reg ?_
 refine op (OpS.as rfl rfl rfl ?_)
 refine RunL.nil ?_
 refine Run.slim [(0, .int .i64 a0), (1, .int .i64 a1), (2, v2)] ⟨rfl, rfl, rfl, trivial⟩ ?_
 refine Run.seq ?_
 obtain ⟨y1, e1, hF⟩ := bindP_use hF
 obtain ⟨y2, e2, hF⟩ := bindP_use hF
 obtain ⟨y3, e3, hF⟩ := bindP_use hF
 refine Run.drawV (Ωs := []) [⟨some 6, some (.func (.func 38) #[] #[v2c_0]), fun _ => [], fun ds_ u_ => [], [], [], none⟩, ⟨some 7, some (.int .i64 a0), fun _ => [], fun ds_ u_ => [], [], [], none⟩, ⟨some 8, none, fun u_ => [(false, .val (Rep.slice (Rep.int .u8)) u_ y1)], fun ds_ u_ => [], [], [(0, []), (1, [])], none⟩, ⟨some 9, some (.func (.func 38) #[] #[v2c_0]), fun _ => [], fun ds_ u_ => [], [], [], none⟩, ⟨some 10, some (.int .i64 a1), fun _ => [], fun ds_ u_ => [], [], [], none⟩, ⟨some 11, none, fun u_ => [(false, .val (Rep.slice (Rep.int .u8)) u_ y2)], fun ds_ u_ => [], [], [(0, []), (1, [])], none⟩, ⟨some 12, some (.int .i64 y3), fun _ => [], fun ds_ u_ => [], [], [], none⟩] [[], [], [1, 0], [], [], [4, 3], [2, 5]] [[(false, .box 76 (Rep.iso (fun s : bus_Bus => (s.masters, ())) (Rep.prod (Rep.raw (α := List bus_master) v2c_0c_0) Rep.unit)) v2c_0c a2_0)], [(false, .oval (oslice 85 3 (fun _ => bus_master.orep)) v2c_0c_0 a2_0.masters)]] [0, 1, 2, 3, 4, 5, 6, 7, 8] Try_mixed rfl rfl rfl h (.cons ?_ (.cons ?_ (.cons ?_ (.cons ?_ (.cons ?_ (.cons ?_ (.cons ?_ .nil))))))) (fun q1 w hq1 h => ?_)
 ·intro q1 w Γx Ωx h
  refine OpS.loadPR h tyf82 rfl rfl rfl (.s .z) ?_
  exact ⟨undef, rfl, trivial, h⟩
 ·intro q1 w Γx Ωx h
  refine OpS.mv rfl rfl rfl ?_
  exact ⟨undef, rfl, trivial, h⟩
 ·intro q1 w Γx Ωx h
  have h : St e w ([(false, .ptr (Rep.raw (α := Unit) (v2c_0c)) v2c_0 ()), (false, .ptr (Rep.raw (α := Unit) (.func (.func 38) #[] #[v2c_0])) v2 ())] ++ Γx) ([(false, .box 76 (Rep.iso (fun s : bus_Bus => (s.masters, ())) (Rep.prod (Rep.raw (α := List bus_master) v2c_0c_0) Rep.unit)) v2c_0c a2_0), (false, .oval (oslice 85 3 (fun _ => bus_master.orep)) v2c_0c_0 a2_0.masters)] ++ Ωx) := h
  have h9 := h.front (.cons .z (.cons .z .nil))
  refine OpS.callOF (fl := []) (cl := [v2c_0]) h9 Try.func38 rfl rfl rfl rfl rfl (vs := [.int .i64 a0]) rfl (bus_Bus_Step_1_2_ok e1) rfl (.ptr .z .nil) ?_
  rintro u w4 _ _ _ ⟨_, rfl, rfl, rfl, rfl⟩ h10
  have h11 := h10
  simp only [List.cons_append, List.nil_append] at h11
  exact ⟨u, rfl, trivial, h11⟩
 ·intro q1 w Γx Ωx h
  refine OpS.loadPR h tyf82 rfl rfl rfl (.s .z) ?_
  exact ⟨undef, rfl, trivial, h⟩
 ·intro q1 w Γx Ωx h
  refine OpS.mv rfl rfl rfl ?_
  exact ⟨undef, rfl, trivial, h⟩
 ·intro q1 w Γx Ωx h
  have h : St e w ([(false, .ptr (Rep.raw (α := Unit) (v2c_0c)) v2c_0 ()), (false, .ptr (Rep.raw (α := Unit) (.func (.func 38) #[] #[v2c_0])) v2 ())] ++ Γx) ([(false, .box 76 (Rep.iso (fun s : bus_Bus => (s.masters, ())) (Rep.prod (Rep.raw (α := List bus_master) v2c_0c_0) Rep.unit)) v2c_0c a2_0), (false, .oval (oslice 85 3 (fun _ => bus_master.orep)) v2c_0c_0 a2_0.masters)] ++ Ωx) := h
  have h12 := h.front (.cons .z (.cons .z .nil))
  refine OpS.callOF (fl := []) (cl := [v2c_0]) h12 Try.func38 rfl rfl rfl rfl rfl (vs := [.int .i64 a1]) rfl (bus_Bus_Step_1_2_ok e2) rfl (.ptr .z .nil) ?_
  rintro u w5 _ _ _ ⟨_, rfl, rfl, rfl, rfl⟩ h13
  have h14 := h13
  simp only [List.cons_append, List.nil_append] at h14
  exact ⟨u, rfl, trivial, h14⟩
 ·intro q1 w Γx Ωx h
  refine OpS.callP h Try.func31 rfl rfl rfl rfl (vs := [(q1 2), (q1 5)]) rfl (frame_Compare_ok e3) (.cons (f := false) (V.at .z) (.cons (f := false) (V.at (.s .z)) .nil)) ?_
  rintro _ w6 _ _ _ ⟨rfl, rfl, rfl, rfl⟩ h15
  have h16 := h15 rfl rfl
  simp only [List.cons_append, List.nil_append] at h16
  exact ⟨undef, rfl, trivial, h16⟩
 have h17 : St e w [(false, .val (Rep.slice (Rep.int .u8)) (q1 2) y1), (false, .val (Rep.slice (Rep.int .u8)) (q1 5) y2), (false, .ptr (Rep.raw (α := Unit) (v2c_0c)) v2c_0 ()), (false, .ptr (Rep.raw (α := Unit) (.func (.func 38) #[] #[v2c_0])) v2 ())] [(false, .box 76 (Rep.iso (fun s : bus_Bus => (s.masters, ())) (Rep.prod (Rep.raw (α := List bus_master) v2c_0c_0) Rep.unit)) v2c_0c a2_0), (false, .oval (oslice 85 3 (fun _ => bus_master.orep)) v2c_0c_0 a2_0.masters)] := h
 refine op (OpS.as rfl rfl rfl ?_)
 refine RunL.nil ?_
 refine Run.slim [(5, .int .i64 y3)] ⟨rfl, trivial⟩ ?_
 refine Run.retP rfl (.tmp rfl .nil) ?_
 cases hF
 exact Post.mk' ⟨rfl, rfl, rfl, rfl⟩ (h17.picks (.cons .z (.cons .z .nil))) .nil
theorem slices_MinFunc_int_int_bus_Bus_Step_2_ok {fuel : Nat} {a0 : List Int} {a1_0_0 : bus_Bus} {y : Int} (hF : slices_MinFunc_int_int_bus_Bus_Step_2 fuel a0 a1_0_0 = some y) {w : World} {v0 v1_0c_0c v1_0c_0c_0 v1_0c_0 v1_0 : Value} :
  Spec Try.prog 39 [v0, .func (.func 40) #[] #[v1_0]].toArray w [(false, .val (Rep.slice (Rep.int .i64)) v0 a0), (false, .ptr (Rep.raw (α := Unit) (v1_0c_0c)) v1_0c_0 ()), (false, .ptr (Rep.raw (α := Unit) (.func (.func 38) #[] #[v1_0c_0])) v1_0 ())] [(false, .box 76 (Rep.iso (fun s : bus_Bus => (s.masters, ())) (Rep.prod (Rep.raw (α := List bus_master) v1_0c_0c_0) Rep.unit)) v1_0c_0c a1_0_0), (false, .oval (oslice 85 3 (fun _ => bus_master.orep)) v1_0c_0c_0 a1_0_0.masters)] (fun v Γr Ωr Ωo => v = .int .i64 y ∧ Γr = [] ∧ Ωr = [] ∧ Ωo = [(false, .box 76 (Rep.iso (fun s : bus_Bus => (s.masters, ())) (Rep.prod (Rep.raw (α := List bus_master) v1_0c_0c_0) Rep.unit)) v1_0c_0c a1_0_0), (false, (.oval (oslice 85 3 (fun _ => bus_master.orep)) v1_0c_0c_0 a1_0_0.masters))]) := by
 refine Spec.of (L := [(0, v0), (1, .func (.func 40) #[] #[v1_0])]) Try.func39 rfl ⟨rfl, rfl, trivial⟩ rfl (fun e h => ?_)
 unfold slices_MinFunc_int_int_bus_Bus_Step_2 at hF
 refine Run.seq ?_
 refine Run.reg ?_
 refine op (OpS.as rfl rfl rfl ?_)
 refine RunL.nil ?_
 refine Run.slim [(0, v0), (1, .func (.func 40) #[] #[v1_0])] ⟨rfl, rfl, trivial⟩ ?_
 refine Run.seq ?_
 refine Run.seq ?_
 refine Run.reg ?_
 refine op (OpS.mv rfl rfl rfl ?_)
 refine op (OpS.len h Try.underlying33 rfl rfl rfl (V.at .z) ?_)
 refine op (OpS.bin rfl rfl rfl rfl rfl ?_)
 refine RunL.nil ?_
 refine Run.slim [(9, .bool (decide ((a0.length : Int) < 1))), (0, v0), (1, .func (.func 40) #[] #[v1_0])] ⟨rfl, rfl, rfl, trivial⟩ ?_
 refine Run.ite rfl hF (fun e1 hF => ?_) (fun e1 hF => ?_)
 ·
  refine Run.reg ?_
  cases hF
 ·
  refine Run.skip ?_
  refine Run.seq ?_
  refine Run.reg ?_
  refine op (OpS.mv rfl rfl rfl ?_)
  obtain ⟨x1, e2, hF⟩ := bindP_use hF
  refine op (OpS.iptr h Try.underlying33 ty3 rfl rfl rfl rfl (V.at .z) e2 (fun u1 h1 => ?_))
  refine op (OpS.loadi h1 ty3 rfl rfl rfl .z ?_)
  refine op (OpS.as rfl rfl rfl ?_)
  refine RunL.nil ?_
  refine Run.slim [(5, .int .i64 x1), (0, v0), (1, .func (.func 40) #[] #[v1_0])] ⟨rfl, rfl, rfl, trivial⟩ ?_
  refine Run.seq ?_
  refine Run.seq ?_
  refine Run.reg ?_
  refine op (OpS.as rfl rfl rfl ?_)
  refine RunL.nil ?_
  refine Run.block ?_
  refine Run.slim [(0, v0), (1, .func (.func 40) #[] #[v1_0]), (5, .int .i64 x1), (6, .int .i64 1)] ⟨rfl, rfl, rfl, rfl, trivial⟩ ?_
  refine Run.loopP (σ := (Int × Int)) (fun s_ L_ w_ => L_ = [(0, v0), (1, .func (.func 40) #[] #[v1_0]), (5, .int .i64 s_.1), (6, .int .i64 s_.2)] ∧ St e w_ [(false, .val (Rep.slice (Rep.int .i64)) v0 a0), (false, .ptr (Rep.raw (α := Unit) (v1_0c_0c)) v1_0c_0 ()), (false, .ptr (Rep.raw (α := Unit) (.func (.func 38) #[] #[v1_0c_0])) v1_0 ())] [(false, .box 76 (Rep.iso (fun s : bus_Bus => (s.masters, ())) (Rep.prod (Rep.raw (α := List bus_master) v1_0c_0c_0) Rep.unit)) v1_0c_0c a1_0_0), (false, .oval (oslice 85 3 (fun _ => bus_master.orep)) v1_0c_0c_0 a1_0_0.masters)]) hF ⟨rfl, (h1.facts (.atm (.s .z) (.atm (.s (.s .z)) (.atm (.s (.s (.s .z))) .nil)))).picks (.cons .z (.cons .z .nil))⟩ (fun k1 hk1 s1 _ w1 hI hF => ?_)
  obtain ⟨rfl, h2⟩ := hI
  refine Run.seq ?_
  refine Run.seq ?_
  refine Run.reg ?_
  refine op (OpS.mv rfl rfl rfl ?_)
  refine op (OpS.mv rfl rfl rfl ?_)
  refine op (OpS.len h2 Try.underlying33 rfl rfl rfl (V.at .z) ?_)
  refine op (OpS.bin rfl rfl rfl rfl rfl ?_)
  refine RunL.nil ?_
  refine Run.slim [(17, .bool (decide (s1.2 < (a0.length : Int)))), (0, v0), (1, .func (.func 40) #[] #[v1_0]), (5, .int .i64 s1.1), (6, .int .i64 s1.2)] ⟨rfl, rfl, rfl, rfl, rfl, trivial⟩ ?_
  refine Run.ite rfl hF (fun e3 hF => ?_) (fun e3 hF => ?_)
  ·
   refine Run.skip ?_
   refine Run.seq ?_
   refine Run.block ?_
   refine Run.seq ?_
   refine Run.reg ?_
   refine op (OpS.mv rfl rfl rfl ?_)
   refine op (OpS.mv rfl rfl rfl ?_)
   refine op (OpS.mv rfl rfl rfl ?_)
   obtain ⟨x2, e4, hF⟩ := bindP_use hF
   refine op (OpS.iptr h2 Try.underlying33 ty3 rfl rfl rfl rfl (V.at .z) e4 (fun u2 h3 => ?_))
   refine op (OpS.loadi h3 ty3 rfl rfl rfl .z ?_)
   refine op (OpS.mv rfl rfl rfl ?_)
   obtain ⟨y1, e5, hF⟩ := bindP_use hF
   have h4 := h3.front (.cons .z (.cons .z .nil))
   refine op (OpS.callOF (fl := []) (cl := [v1_0]) h4 Try.func40 rfl rfl rfl rfl rfl (vs := [.int .i64 x2, .int .i64 s1.1]) rfl (bus_Bus_Step_2_2_ok e5) rfl (.ptr (.s (.s .z)) (.ptr (.s (.s (.s .z))) .nil)) ?_)
   rintro _ w2 _ _ _ ⟨rfl, rfl, rfl, rfl⟩ h5
   have h6 := h5
   simp only [List.cons_append, List.nil_append] at h6
   refine op (OpS.bin rfl rfl rfl rfl rfl ?_)
   refine RunL.nil ?_
   refine Run.slim [(27, .bool (decide (y1 < 0))), (0, v0), (1, .func (.func 40) #[] #[v1_0]), (5, .int .i64 s1.1), (6, .int .i64 s1.2)] ⟨rfl, rfl, rfl, rfl, rfl, trivial⟩ ?_
   refine Run.ite rfl hF (fun e6 hF => ?_) (fun e6 hF => ?_)
   ·
    refine Run.reg ?_
    refine op (OpS.mv rfl rfl rfl ?_)
    refine op (OpS.mv rfl rfl rfl ?_)
    obtain ⟨x3, e7, hF⟩ := bindP_use hF
    refine op (OpS.iptr h6 Try.underlying33 ty3 rfl rfl rfl rfl (V.at (.s .z)) e7 (fun u3 h7 => ?_))
    refine op (OpS.loadi h7 ty3 rfl rfl rfl .z ?_)
    refine op (OpS.as rfl rfl rfl ?_)
    refine RunL.nil ?_
    refine Run.slim [(5, .int .i64 x3), (0, v0), (1, .func (.func 40) #[] #[v1_0]), (6, .int .i64 s1.2)] ⟨rfl, rfl, rfl, rfl, trivial⟩ ?_
    refine Run.endBlock ?_
    refine Run.reg ?_
    refine op (OpS.mv rfl rfl rfl ?_)
    refine op (OpS.bin rfl rfl rfl rfl rfl ?_)
    refine op (OpS.as rfl rfl rfl ?_)
    obtain ⟨x4, e8, hF⟩ := letP_use hF
    refine RunL.name e8 ?_
    refine RunL.nil ?_
    refine Run.slim [(6, .int .i64 x4), (5, .int .i64 x3), (0, v0), (1, .func (.func 40) #[] #[v1_0])] ⟨rfl, rfl, rfl, rfl, trivial⟩ ?_
    refine Run.slim [(0, v0), (1, .func (.func 40) #[] #[v1_0]), (5, .int .i64 x3), (6, .int .i64 x4)] ⟨rfl, rfl, rfl, rfl, trivial⟩ ?_
    exact hk1 (x3, x4) _ _ ⟨rfl, (h7.facts (.atm (.s (.s .z)) (.atm (.s (.s (.s .z))) (.atm (.s (.s (.s (.s .z)))) .nil)))).picks (.cons .z (.cons .z .nil))⟩ hF
   ·
    refine Run.skip ?_
    refine Run.endBlock ?_
    refine Run.reg ?_
    refine op (OpS.mv rfl rfl rfl ?_)
    refine op (OpS.bin rfl rfl rfl rfl rfl ?_)
    refine op (OpS.as rfl rfl rfl ?_)
    obtain ⟨x5, e9, hF⟩ := letP_use hF
    refine RunL.name e9 ?_
    refine RunL.nil ?_
    refine Run.slim [(6, .int .i64 x5), (0, v0), (1, .func (.func 40) #[] #[v1_0]), (5, .int .i64 s1.1)] ⟨rfl, rfl, rfl, rfl, trivial⟩ ?_
    refine Run.slim [(0, v0), (1, .func (.func 40) #[] #[v1_0]), (5, .int .i64 s1.1), (6, .int .i64 x5)] ⟨rfl, rfl, rfl, rfl, trivial⟩ ?_
    exact hk1 (s1.1, x5) _ _ ⟨rfl, (h6.facts (.atm (.s .z) (.atm (.s (.s .z)) (.atm (.s (.s (.s .z))) .nil)))).picks (.cons .z (.cons .z .nil))⟩ hF
  ·
   refine Run.exit rfl ?_
   refine Run.seq ?_
   refine Run.reg ?_
   refine op (OpS.mv rfl rfl rfl ?_)
   refine op (OpS.as rfl rfl rfl ?_)
   refine RunL.nil ?_
   refine Run.slim [(4, .int .i64 s1.1)] ⟨rfl, trivial⟩ ?_
   refine Run.retP rfl (.tmp rfl .nil) ?_
   cases hF
   exact Post.mk' ⟨rfl, rfl, rfl, rfl⟩ (h2.picks (.cons .z (.cons .z .nil))) .nil
set_option maxHeartbeats 8000000 in
theorem bus_Bus_Step_ok {fuel : Nat} {a0 : bus_Bus} {a1 : Fault_} {y : Delivery_ × Bool × bus_Bus} (hF : bus_Bus_Step fuel a0 a1 = some y) {w : World} {v0 v0_0 v1 : Value} :
  Spec Try.prog 18 [v0, v1].toArray w [(false, .val Fault_.rep v1 a1)] [(false, .box 76 (Rep.iso (fun s : bus_Bus => (s.masters, ())) (Rep.prod (Rep.raw (α := List bus_master) v0_0) Rep.unit)) v0 a0), (false, .oval (oslice 85 3 (fun _ => bus_master.orep)) v0_0 a0.masters)] (fun v Γr Ωr Ωo => ∃ u0 w0_0 : Value, v = .tuple #[u0, .bool y.2.1] ∧ Γr = [(true, .val Delivery_.rep u0 y.1)] ∧ Ωr = [] ∧ Ωo = [(false, .box 76 (Rep.iso (fun s : bus_Bus => (s.masters, ())) (Rep.prod (Rep.raw (α := List bus_master) w0_0) Rep.unit)) v0 y.2.2), (false, (.oval (oslice 85 3 (fun _ => bus_master.orep)) w0_0 y.2.2.masters))]) := by
 refine Spec.of (L := [(0, v0), (1, v1)]) Try.func18 rfl ⟨rfl, rfl, trivial⟩ rfl (fun e h => ?_)
 unfold bus_Bus_Step at hF
 refine Run.seq ?_
 refine Run.reg ?_
 refine op (OpS.box (f' := true) (r := Rep.raw (α := Unit) v0) (x := ()) h rfl rfl rfl (V.raw (f := true) (St.box1 h .z) ()) (fun u1 w1 h1 => ?_))
 have h2 := (h1.pick .z).freezeBox
 refine op (OpS.boxF h2 rfl rfl rfl (V.at (.s .z)) (fun u2 w2 h3 => ?_))
 refine op (OpS.alloc h3 ti46 Delivery_.zr rfl rfl (fun u3 w3 h4 => ?_))
 refine op (OpS.as rfl rfl rfl ?_)
 refine RunL.nil ?_
 refine Run.slim [(4, u3), (3, u2), (2, u1)] ⟨rfl, rfl, rfl, trivial⟩ ?_
 refine Run.seq ?_
 refine Run.reg ?_
 refine op (OpS.loadPR h4 tyf25 rfl rfl rfl .z ?_)
 obtain ⟨y1, e1, hF⟩ := bindP_use hF
 have h5 := h4.front (.cons (.s (.s .z)) (.cons (.s (.s .z)) .nil))
 refine op (OpS.callO h5 Try.func37 rfl rfl rfl rfl (vs := [v0]) rfl (bus_Bus_taking_ok e1) rfl .nil ?_)
 rintro u4 w4 _ _ _ ⟨_, u5, rfl, rfl, rfl, rfl⟩ h6
 have h7 := h6
 simp only [List.cons_append, List.nil_append] at h7
 refine op (OpS.as rfl rfl rfl ?_)
 have h8 := (h7.pick .z).freeze
 refine RunL.nil ?_
 refine Run.slim [(6, u4), (4, u3), (3, u2), (2, u1)] ⟨rfl, rfl, rfl, rfl, trivial⟩ ?_
 refine Run.seq ?_
 refine Run.seq ?_
 refine Run.reg ?_
 refine op (OpS.mv rfl rfl rfl ?_)
 refine op (OpS.len h8 Try.underlying33 rfl rfl rfl (V.at .z) ?_)
 refine op (OpS.bin rfl rfl rfl rfl rfl ?_)
 refine RunL.nil ?_
 refine Run.slim [(19, .bool ((y1.1.length : Int) == 0)), (6, u4), (4, u3), (3, u2), (2, u1)] ⟨rfl, rfl, rfl, rfl, rfl, trivial⟩ ?_
 refine Run.ite rfl hF (fun e2 hF => ?_) (fun e2 hF => ?_)
 ·
  refine Run.seq ?_
  refine Run.reg ?_
  refine op (OpS.build (f := true) (x' := Delivery_.z) h8 pl46 ti46 Delivery_.zr rfl rfl rfl .nil (fun u6 h9 => ?_))
  refine op (OpS.storeB (f' := true) h9 (.s (.s .z)) PA.z Put.id ty46 rfl rfl rfl (V.at .z) (.inl rfl) (fun w5 h10 => ?_))
  refine op (OpS.as rfl rfl rfl ?_)
  refine RunL.nil ?_
  refine Run.slim [(5, .bool false), (4, u3)] ⟨rfl, rfl, trivial⟩ ?_
  obtain ⟨u7, hu1, h11⟩ := res_box h10 .z ty46
  refine Run.retP rfl (.cell rfl hu1 (.tmp rfl .nil)) ?_
  cases hF
  exact Post.mk' ⟨u7, u5, rfl, rfl, rfl, rfl⟩ (h11.picks (.cons (.s .z) (.cons (.s .z) .nil))) (.val (V.at .z) .nil)
 ·
  refine Run.skip ?_
  refine Run.seq ?_
  refine Run.reg ?_
  refine op (OpS.mkf (fl := []) (cl := [u1]) rfl rfl rfl rfl ?_)
  refine op (OpS.alloc (r := Rep.raw (α := Unit) .nilFunc) h8 ti82 (Zr.raw rfl ()) rfl rfl (fun u8 w6 h12 => ?_))
  refine op (OpS.storeC (f' := true) (fr := (Rep.raw (α := Unit) (.func (.func 38) #[] #[u1]))) (r' := (Rep.raw (α := Unit) (.func (.func 38) #[] #[u1]))) (x' := ()) (y := ()) h12 .z PA.z (Chg.id (by rfl)) tyf82 rfl rfl rfl (V.raw (f := true) rfl ()) (.inl rfl) (fun w7 h13 => ?_))
  refine RunL.nil ?_
  refine Run.slim [(7, u8), (6, u4), (4, u3), (3, u2), (2, u1)] ⟨rfl, rfl, rfl, rfl, rfl, trivial⟩ ?_
  refine Run.seq ?_
  have h14 := (h13.pick .z).freezeBox
  obtain ⟨y2, e3, hF⟩ := bindP_use hF
  obtain ⟨y3, e4, hF⟩ := bindP_use hF
  refine Run.drawV (Ωs := [(true, .box 46 Delivery_.rep u3 Delivery_.z), (false, .box 38 Fault_.rep u2 a1)]) [⟨some 22, some (.func (.func 38) #[] #[u1]), fun _ => [], fun ds_ u_ => [], [], [], none⟩, ⟨some 23, some (u4), fun _ => [], fun ds_ u_ => [], [], [], none⟩, ⟨some 24, some (.func (.func 40) #[] #[u8]), fun _ => [], fun ds_ u_ => [], [], [], none⟩, ⟨some 25, some (.int .i64 y2), fun _ => [], fun ds_ u_ => [], [], [(0, []), (1, [])], none⟩, ⟨some 26, none, fun u_ => [(false, .val (Rep.slice (Rep.int .u8)) u_ y3)], fun ds_ u_ => [], [], [(0, []), (1, [])], none⟩] [[], [], [], [1, 2], [3, 0]] [[(false, .box 76 (Rep.iso (fun s : bus_Bus => (s.masters, ())) (Rep.prod (Rep.raw (α := List bus_master) u5) Rep.unit)) v0 y1.2)], [(false, .oval (oslice 85 3 (fun _ => bus_master.orep)) u5 y1.2.masters)]] [0, 1, 2, 3, 4, 5, 6] Try_mixed rfl rfl rfl h14 (.cons ?_ (.cons ?_ (.cons ?_ (.cons ?_ (.cons ?_ .nil))))) (fun q1 w hq1 h => ?_)
  ·intro q1 w Γx Ωx h
   refine OpS.loadPR h tyf82 rfl rfl rfl .z ?_
   exact ⟨undef, rfl, trivial, h⟩
  ·intro q1 w Γx Ωx h
   refine OpS.mv rfl rfl rfl ?_
   exact ⟨undef, rfl, trivial, h⟩
  ·intro q1 w Γx Ωx h
   refine OpS.mkf (fl := []) (cl := [u8]) rfl rfl rfl rfl ?_
   exact ⟨undef, rfl, trivial, h⟩
  ·intro q1 w Γx Ωx h
   have h : St e w ([(true, .ptr (Rep.raw (α := Unit) (.func (.func 38) #[] #[u1])) u8 ()), (true, .val (Rep.slice (Rep.int .i64)) u4 y1.1), (true, .ptr (Rep.raw (α := Unit) (v0)) u1 ()), (false, .val Fault_.rep v1 a1)] ++ Γx) ([(false, .box 76 (Rep.iso (fun s : bus_Bus => (s.masters, ())) (Rep.prod (Rep.raw (α := List bus_master) u5) Rep.unit)) v0 y1.2), (false, .oval (oslice 85 3 (fun _ => bus_master.orep)) u5 y1.2.masters), (true, .box 46 Delivery_.rep u3 Delivery_.z), (false, .box 38 Fault_.rep u2 a1)] ++ Ωx) := h
   have h21 := h.front (.cons .z (.cons .z .nil))
   refine OpS.callO h21 Try.func39 rfl rfl rfl rfl (vs := [u4, .func (.func 40) #[] #[u8]]) rfl (slices_MinFunc_int_int_bus_Bus_Step_2_ok e3) rfl (.cons (f := true) (V.at (.s .z)) (.ptr (.s (.s .z)) (.ptr .z .nil))) ?_
   rintro _ w10 _ _ _ ⟨rfl, rfl, rfl, rfl⟩ h22
   have h23 := h22
   simp only [List.cons_append, List.nil_append] at h23
   exact ⟨undef, rfl, trivial, h23⟩
  ·intro q1 w Γx Ωx h
   have h : St e w ([(true, .ptr (Rep.raw (α := Unit) (.func (.func 38) #[] #[u1])) u8 ()), (true, .val (Rep.slice (Rep.int .i64)) u4 y1.1), (true, .ptr (Rep.raw (α := Unit) (v0)) u1 ()), (false, .val Fault_.rep v1 a1)] ++ Γx) ([(false, .box 76 (Rep.iso (fun s : bus_Bus => (s.masters, ())) (Rep.prod (Rep.raw (α := List bus_master) u5) Rep.unit)) v0 y1.2), (false, .oval (oslice 85 3 (fun _ => bus_master.orep)) u5 y1.2.masters), (true, .box 46 Delivery_.rep u3 Delivery_.z), (false, .box 38 Fault_.rep u2 a1)] ++ Ωx) := h
   have h24 := h.front (.cons .z (.cons .z .nil))
   refine OpS.callOF (fl := []) (cl := [u1]) h24 Try.func38 rfl rfl rfl rfl rfl (vs := [.int .i64 y2]) rfl (bus_Bus_Step_1_2_ok e4) rfl (.ptr (.s (.s .z)) .nil) ?_
   rintro u w11 _ _ _ ⟨_, rfl, rfl, rfl, rfl⟩ h25
   have h26 := h25
   simp only [List.cons_append, List.nil_append] at h26
   exact ⟨u, rfl, trivial, h26⟩
  have h27 : St e w [(false, .val (Rep.slice (Rep.int .u8)) (q1 4) y3), (true, .ptr (Rep.raw (α := Unit) (.func (.func 38) #[] #[u1])) u8 ()), (true, .val (Rep.slice (Rep.int .i64)) u4 y1.1), (true, .ptr (Rep.raw (α := Unit) (v0)) u1 ()), (false, .val Fault_.rep v1 a1)] [(false, .box 76 (Rep.iso (fun s : bus_Bus => (s.masters, ())) (Rep.prod (Rep.raw (α := List bus_master) u5) Rep.unit)) v0 y1.2), (false, .oval (oslice 85 3 (fun _ => bus_master.orep)) u5 y1.2.masters), (true, .box 46 Delivery_.rep u3 Delivery_.z), (false, .box 38 Fault_.rep u2 a1)] := h
  refine op (OpS.as rfl rfl rfl ?_)
  refine RunL.nil ?_
  refine Run.slim [(8, (q1 4)), (7, u8), (6, u4), (4, u3), (3, u2), (2, u1)] ⟨rfl, rfl, rfl, rfl, rfl, rfl, trivial⟩ ?_
  refine Run.seq ?_
  refine Run.reg ?_
  refine op (OpS.mv rfl rfl rfl ?_)
  refine op (OpS.loadB h27 (.s (.s (.s .z))) PA.z Get.id ty38 rfl rfl rfl (fun u9 h28 => ?_))
  obtain ⟨y4, e5, hF⟩ := bindP_use hF
  refine op (OpS.callP h28 Try.func41 rfl rfl rfl rfl (vs := [(q1 4), u9]) rfl (bus_arrive_ok e5) (.cons (f := false) (V.at (.s .z)) (.cons (f := false) (V.at .z) .nil)) ?_)
  rintro u10 w12 _ _ _ ⟨_, rfl, rfl, rfl, rfl⟩ h29
  have h30 := h29 rfl rfl
  simp only [List.cons_append, List.nil_append] at h30
  have h31 := (h30.pick .z).freeze
  have h32 := St.nil 3 (Rep.int .i64) h31
  have h33 := St.nil 3 (Rep.int .i64) h32
  refine op (OpS.buildC (f := true) (r := (Rep.iso (fun s : Delivery_ => (s.Masters, s.Bytes, s.OK, s.Failed, ())) (Rep.prod (Rep.raw (α := List Int) (.slice none 0 0)) (Rep.prod (Rep.slice (Rep.int .u8)) (Rep.prod Rep.bool (Rep.prod (Rep.raw (α := List Int) (.slice none 0 0)) Rep.unit)))))) (x := Delivery_.z) (r' := (Rep.iso (fun s : Delivery_ => (s.Masters, s.Bytes, s.OK, s.Failed, ())) (Rep.prod (Rep.raw (α := List Int) (.slice none 0 0)) (Rep.prod (Rep.slice (Rep.int .u8)) (Rep.prod Rep.bool (Rep.prod (Rep.raw (α := List Int) (.slice none 0 0)) Rep.unit)))))) (x' := (⟨[], y4, false, []⟩ : Delivery_)) h33 pl46 ti46 (Zr.iso (y := Delivery_.z) _ (Zr.of (Zr.prod (Zr.raw rfl ([] : List Int)) (Zr.prod (Zr.slice (Rep.int .u8)) (Zr.prod (Zr.bool false) (Zr.prod (Zr.raw rfl ([] : List Int)) Zr.unit)))) (by rfl))) rfl rfl rfl (.cons (Rep.slice (Rep.int .u8)) (Rep.iso (fun s : Delivery_ => (s.Masters, s.Bytes, s.OK, s.Failed, ())) (Rep.prod (Rep.raw (α := List Int) (.slice none 0 0)) (Rep.prod (Rep.slice (Rep.int .u8)) (Rep.prod Rep.bool (Rep.prod (Rep.raw (α := List Int) (.slice none 0 0)) Rep.unit))))) (Rep.iso (fun s : Delivery_ => (s.Masters, s.Bytes, s.OK, s.Failed, ())) (Rep.prod (Rep.raw (α := List Int) (.slice none 0 0)) (Rep.prod (Rep.slice (Rep.int .u8)) (Rep.prod Rep.bool (Rep.prod (Rep.raw (α := List Int) (.slice none 0 0)) Rep.unit))))) Delivery_.z (⟨[], y4, false, []⟩ : Delivery_) (Chg.iso _ (Chg.there (Chg.here (Chg.id (by rfl))))) rfl rfl (V.at .z) .nil) (fun u11 h34 => ?_))
  have h35 := St.nil 3 (Rep.int .i64) h34
  have h36 := St.nil 3 (Rep.int .i64) h35
  refine op (OpS.alloc (r := (Rep.iso (fun s : Delivery_ => (s.Masters, s.Bytes, s.OK, s.Failed, ())) (Rep.prod (Rep.raw (α := List Int) (.slice none 0 0)) (Rep.prod (Rep.slice (Rep.int .u8)) (Rep.prod Rep.bool (Rep.prod (Rep.raw (α := List Int) (.slice none 0 0)) Rep.unit)))))) h36 ti46 (Zr.iso (y := Delivery_.z) _ (Zr.of (Zr.prod (Zr.raw rfl ([] : List Int)) (Zr.prod (Zr.slice (Rep.int .u8)) (Zr.prod (Zr.bool false) (Zr.prod (Zr.raw rfl ([] : List Int)) Zr.unit)))) (by rfl))) rfl rfl (fun u12 w13 h37 => ?_))
  refine op (OpS.storeC (f' := true) (fr := (Rep.iso (fun s : Delivery_ => (s.Masters, s.Bytes, s.OK, s.Failed, ())) (Rep.prod (Rep.raw (α := List Int) (.slice none 0 0)) (Rep.prod (Rep.slice (Rep.int .u8)) (Rep.prod Rep.bool (Rep.prod (Rep.raw (α := List Int) (.slice none 0 0)) Rep.unit)))))) (r' := (Rep.iso (fun s : Delivery_ => (s.Masters, s.Bytes, s.OK, s.Failed, ())) (Rep.prod (Rep.raw (α := List Int) (.slice none 0 0)) (Rep.prod (Rep.slice (Rep.int .u8)) (Rep.prod Rep.bool (Rep.prod (Rep.raw (α := List Int) (.slice none 0 0)) Rep.unit)))))) (x' := (⟨[], y4, false, []⟩ : Delivery_)) h37 .z PA.z (Chg.id (by rfl)) (Ty.like ty46 (by rfl) (by rfl)) rfl rfl rfl (V.at .z) (.inl rfl) (fun w14 h38 => ?_))
  refine RunL.nil ?_
  refine Run.slim [(9, u12), (8, (q1 4)), (7, u8), (6, u4), (4, u3), (2, u1)] ⟨rfl, rfl, rfl, rfl, rfl, rfl, trivial⟩ ?_
  refine Run.seq ?_
  refine Run.reg ?_
  refine op (OpS.fbox (o3 := 1) h38 .z PA.z fa46_1 rfl rfl rfl rfl ?_)
  refine op (OpS.loadB (fr := (Rep.slice (Rep.int .u8))) h38 .z PA.a (GetS.ok (GetS.iso _ (GetS.there (GetS.here GetS.id)))) (Ty.like ty34 (by rfl) (by rfl)) rfl rfl rfl (fun u13 h39 => ?_))
  obtain ⟨y5, e6, hF⟩ := bindP_use hF
  refine op (OpS.callP h39 Try.func29 rfl rfl rfl rfl (vs := [u13]) rfl (frame_Decode_ok e6) (.cons (f := true) (V.at .z) .nil) ?_)
  rintro _ w15 _ _ _ ⟨u14, rfl, rfl, rfl, rfl⟩ h40
  have h41 := h40 rfl rfl
  simp only [List.cons_append, List.nil_append] at h41
  refine op (OpS.mv rfl rfl rfl ?_)
  refine op (OpS.ext rfl rfl rfl rfl ?_)
  refine op (OpS.ext rfl rfl rfl rfl ?_)
  refine op (OpS.alloc h41 ti36 Frame_.zr rfl rfl (fun u15 w16 h42 => ?_))
  refine op (OpS.storeB (f' := true) h42 .z PA.z Put.id ty36 rfl rfl rfl (V.at .z) (.inl rfl) (fun w17 h43 => ?_))
  refine op (OpS.as rfl rfl rfl ?_)
  refine RunL.nil ?_
  refine Run.slim [(11, .int .i64 y5.2), (9, u12), (8, (q1 4)), (7, u8), (6, u4), (4, u3), (2, u1)] ⟨rfl, rfl, rfl, rfl, rfl, rfl, rfl, trivial⟩ ?_
  refine Run.seq ?_
  refine Run.reg ?_
  refine op (OpS.mv rfl rfl rfl ?_)
  refine op (OpS.bin rfl rfl rfl rfl rfl ?_)
  refine op (OpS.fbox (o3 := 2) h43 (.s .z) PA.z fa46_2 rfl rfl rfl rfl ?_)
  obtain ⟨d1, e7, hF⟩ := letP_use hF
  refine op (OpS.storeC (f' := true) (fr := Rep.bool) (r' := (Rep.iso (fun s : Delivery_ => (s.Masters, s.Bytes, s.OK, s.Failed, ())) (Rep.prod (Rep.raw (α := List Int) (.slice none 0 0)) (Rep.prod (Rep.slice (Rep.int .u8)) (Rep.prod Rep.bool (Rep.prod (Rep.raw (α := List Int) (.slice none 0 0)) Rep.unit)))))) (x' := d1) h43 (.s .z) PA.a (Chg.of (x' := { (⟨[], y4, false, []⟩ : Delivery_) with OK := y5.2 == 0 }) (Chg.iso _ (Chg.there (Chg.there (Chg.here (Chg.id (by rfl)))))) e7) ty4 rfl rfl rfl V.bool (.inl rfl) (fun w18 h44 => ?_))
  refine RunL.nil ?_
  refine Run.slim [(9, u12), (8, (q1 4)), (7, u8), (6, u4), (4, u3), (2, u1)] ⟨rfl, rfl, rfl, rfl, rfl, rfl, trivial⟩ ?_
  refine Run.seq ?_
  refine Run.seq ?_
  refine Run.reg ?_
  refine op (OpS.mv rfl rfl rfl ?_)
  refine op (OpS.len h44 Try.underlying33 rfl rfl rfl (V.at (.s (.s (.s (.s (.s (.s (.s .z)))))))) ?_)
  refine op (OpS.mv rfl rfl rfl ?_)
  refine RunL.nil ?_
  refine Run.slim [(42, .int .i64 0), (41, .int .i64 (y1.1.length : Int)), (40, u4), (9, u12), (8, (q1 4)), (7, u8), (4, u3), (2, u1)] ⟨rfl, rfl, rfl, rfl, rfl, rfl, rfl, rfl, trivial⟩ ?_
  refine Run.block ?_
  refine Run.slim [(2, u1), (4, u3), (7, u8), (8, (q1 4)), (9, u12), (40, u4), (41, .int .i64 (y1.1.length : Int)), (42, .int .i64 0)] ⟨rfl, rfl, rfl, rfl, rfl, rfl, rfl, rfl, trivial⟩ ?_
  refine Run.loopP (σ := (Int × bus_Bus × (List Int) × (List Int))) (fun s_ L_ w_ => ∃ u0_ u1_ : Value, L_ = [(2, u1), (4, u3), (7, u8), (8, (q1 4)), (9, u12), (40, u4), (41, .int .i64 (y1.1.length : Int)), (42, .int .i64 s_.1)] ∧ St e w_ [(true, .ptr (Rep.raw (α := Unit) (v0)) u1 ()), (true, .ptr (Rep.raw (α := Unit) (.func (.func 38) #[] #[u1])) u8 ()), (false, .val (Rep.slice (Rep.int .u8)) (q1 4) y3), (true, .val (Rep.slice (Rep.int .i64)) u4 y1.1)] [(true, .box 46 Delivery_.rep u3 Delivery_.z), (true, .box 46 (Rep.iso (fun s : Delivery_ => (s.Masters, s.Bytes, s.OK, s.Failed, ())) (Rep.prod (Rep.raw (α := List Int) u0_) (Rep.prod (Rep.slice (Rep.int .u8)) (Rep.prod Rep.bool (Rep.prod (Rep.raw (α := List Int) u1_) Rep.unit))))) u12 d1), (false, .box 76 (Rep.iso (fun s : bus_Bus => (s.masters, ())) (Rep.prod (Rep.raw (α := List bus_master) u5) Rep.unit)) v0 s_.2.1), (true, .slice 3 (Rep.int .i64) u0_ s_.2.2.1), (true, .slice 3 (Rep.int .i64) u1_ s_.2.2.2), (false, .oval (oslice 85 3 (fun _ => bus_master.orep)) u5 s_.2.1.masters)]) hF ⟨(.slice none 0 0), (.slice none 0 0), rfl, (h44.facts (.atm (.s (.s (.s (.s (.s (.s (.s (.s .z)))))))) (.atm (.s (.s (.s (.s (.s (.s .z)))))) (.atm (.s (.s (.s (.s (.s .z))))) (.atm (.s (.s (.s (.s (.s (.s (.s .z))))))) .nil))))).picks (.cons (.s (.s (.s (.s (.s (.s (.s (.s .z)))))))) (.cons .z (.cons (.s (.s (.s (.s (.s .z))))) (.cons (.s (.s (.s (.s .z)))) (.cons (.s (.s (.s .z))) (.cons (.s (.s (.s .z))) .nil))))))⟩ (fun k1 hk1 s1 _ w19 hI hF => ?_)
  obtain ⟨u16, u17, rfl, h45⟩ := hI
  refine Run.seq ?_
  refine Run.reg ?_
  refine op (OpS.bin rfl rfl rfl rfl rfl ?_)
  refine RunL.nil ?_
  refine Run.seq ?_
  refine Run.ite rfl hF (fun e8 hF => ?_) (fun e8 hF => ?_)
  ·
   refine Run.skip ?_
   refine Run.seq ?_
   refine Run.block ?_
   refine Run.seq ?_
   refine Run.reg ?_
   obtain ⟨x1, e9, hF⟩ := bindP_use hF
   refine op (OpS.iptr h45 Try.underlying33 ty3 rfl rfl rfl rfl (V.at (.s (.s (.s .z)))) e9 (fun u18 h46 => ?_))
   refine op (OpS.loadi h46 ty3 rfl rfl rfl .z ?_)
   refine op (OpS.as rfl rfl rfl ?_)
   refine RunL.nil ?_
   refine Run.slim [(13, .int .i64 x1), (2, u1), (4, u3), (7, u8), (8, (q1 4)), (9, u12), (40, u4), (41, .int .i64 (y1.1.length : Int)), (42, .int .i64 s1.1)] ⟨rfl, rfl, rfl, rfl, rfl, rfl, rfl, rfl, rfl, trivial⟩ ?_
   refine Run.seq ?_
   refine Run.seq ?_
   refine Run.reg ?_
   refine op (OpS.loadPR h46 tyf82 rfl rfl rfl (.s (.s .z)) ?_)
   refine op (OpS.mv rfl rfl rfl ?_)
   obtain ⟨y6, e10, hF⟩ := bindP_use hF
   have h47 := h46.front (.cons (.s (.s .z)) (.cons (.s (.s (.s (.s .z)))) .nil))
   refine op (OpS.callOF (fl := []) (cl := [u1]) h47 Try.func38 rfl rfl rfl rfl rfl (vs := [.int .i64 x1]) rfl (bus_Bus_Step_1_2_ok e10) rfl (.ptr (.s .z) .nil) ?_)
   rintro u19 w20 _ _ _ ⟨_, rfl, rfl, rfl, rfl⟩ h48
   have h49 := h48
   simp only [List.cons_append, List.nil_append] at h49
   refine op (OpS.mv rfl rfl rfl ?_)
   obtain ⟨y7, e11, hF⟩ := bindP_use hF
   refine op (OpS.callP h49 Try.func31 rfl rfl rfl rfl (vs := [u19, (q1 4)]) rfl (frame_Compare_ok e11) (.cons (f := false) (V.at .z) (.cons (f := false) (V.at (.s (.s (.s (.s .z))))) .nil)) ?_)
   rintro _ w21 _ _ _ ⟨rfl, rfl, rfl, rfl⟩ h50
   have h51 := h50 rfl rfl
   simp only [List.cons_append, List.nil_append] at h51
   refine op (OpS.bin rfl rfl rfl rfl rfl ?_)
   refine RunL.nil ?_
   refine Run.slim [(51, .bool (y7 != 0)), (13, .int .i64 x1), (2, u1), (4, u3), (7, u8), (8, (q1 4)), (9, u12), (40, u4), (41, .int .i64 (y1.1.length : Int)), (42, .int .i64 s1.1)] ⟨rfl, rfl, rfl, rfl, rfl, rfl, rfl, rfl, rfl, rfl, trivial⟩ ?_
   refine Run.ite rfl hF (fun e12 hF => ?_) (fun e12 hF => ?_)
   ·
    refine Run.exit rfl ?_
    refine Run.reg ?_
    refine op (OpS.bin rfl rfl rfl rfl rfl ?_)
    refine op (OpS.mv rfl rfl rfl ?_)
    refine RunL.nil ?_
    refine Run.slim [(42, .int .i64 (IntKind.i64.wrap (s1.1 + 1))), (2, u1), (4, u3), (7, u8), (8, (q1 4)), (9, u12), (40, u4), (41, .int .i64 (y1.1.length : Int))] ⟨rfl, rfl, rfl, rfl, rfl, rfl, rfl, rfl, trivial⟩ ?_
    refine Run.slim [(2, u1), (4, u3), (7, u8), (8, (q1 4)), (9, u12), (40, u4), (41, .int .i64 (y1.1.length : Int)), (42, .int .i64 (IntKind.i64.wrap (s1.1 + 1)))] ⟨rfl, rfl, rfl, rfl, rfl, rfl, rfl, rfl, trivial⟩ ?_
    exact hk1 ((IntKind.i64.wrap (s1.1 + 1)), s1.2.1, s1.2.2.1, s1.2.2.2) _ _ ⟨u16, u17, rfl, (h51.facts (.atm (.s (.s .z)) (.atm (.s (.s (.s .z))) (.atm (.s (.s (.s (.s .z)))) (.atm (.s (.s (.s (.s (.s .z))))) .nil))))).picks (.cons (.s (.s .z)) (.cons (.s (.s .z)) (.cons .z (.cons (.s .z) (.cons (.s .z) (.cons .z .nil))))))⟩ hF
   ·
    refine Run.skip ?_
    refine Run.seq ?_
    refine Run.reg ?_
    refine op (OpS.fbox (o3 := 0) h51 (.s (.s (.s .z))) PA.z fa46_0 rfl rfl rfl rfl ?_)
    refine op (OpS.loadR h51 (.s (.s (.s .z))) PA.a (GetS.ok (GetS.iso _ (GetS.here GetS.id))) ty33 rfl rfl rfl rfl rfl ?_)
    refine op (OpS.mv rfl rfl rfl ?_)
    refine op (OpS.lit (r := (Rep.int .i64)) (f := true) h51 Try.underlying33 ti3 rfl rfl rfl rfl rfl (.cons rfl V.int .nil) rfl rfl (fun u20 w22 h52 => ?_))
    obtain ⟨x2, e13, hF⟩ := bindP_use hF
    refine op (OpS.app (f' := true) h52 (.s (.s (.s (.s .z)))) Try.underlying33 ti3 rfl rfl rfl rfl rfl rfl rfl (V.at .z) (.inr Pure.int) e13 (fun u21 w23 h53 => ?_))
    refine op (OpS.fbox (o3 := 0) h53 (.s (.s (.s (.s .z)))) PA.z fa46_0 rfl rfl rfl rfl ?_)
    refine op (OpS.storeC (f' := true) (fr := (Rep.raw u21)) (r' := (Rep.iso (fun s : Delivery_ => (s.Masters, s.Bytes, s.OK, s.Failed, ())) (Rep.prod (Rep.raw (α := List Int) u21) (Rep.prod (Rep.slice (Rep.int .u8)) (Rep.prod Rep.bool (Rep.prod (Rep.raw (α := List Int) u17) Rep.unit)))))) (x' := d1) h53 (.s (.s (.s (.s .z)))) PA.a (Chg.iso _ (Chg.here (Chg.id (by rfl)))) (Ty.like ty33 (by rfl) (by rfl)) rfl rfl rfl (V.raw (f := true) (St.own1 h53 .z) d1.Masters) (.inl rfl) (fun w24 h54 => ?_))
    refine RunL.nil ?_
    refine Run.slim [(13, .int .i64 x1), (2, u1), (4, u3), (7, u8), (8, (q1 4)), (9, u12), (40, u4), (41, .int .i64 (y1.1.length : Int)), (42, .int .i64 s1.1)] ⟨rfl, rfl, rfl, rfl, rfl, rfl, rfl, rfl, rfl, trivial⟩ ?_
    refine Run.seq ?_
    refine Run.reg ?_
    refine op (OpS.loadPR h54 tyf25 rfl rfl rfl (.s (.s (.s .z))) ?_)
    refine op (OpS.nchk h54 (.s (.s .z)) rfl rfl rfl ?_)
    refine op (OpS.fbox (o3 := 0) h54 (.s (.s .z)) PA.z fa76_0 rfl rfl rfl rfl ?_)
    refine op (OpS.loadR h54 (.s (.s .z)) PA.a (GetS.ok (GetS.iso _ (GetS.here GetS.id))) ty74 rfl rfl rfl rfl rfl ?_)
    refine op (OpS.mv rfl rfl rfl ?_)
    obtain ⟨x3, e14, hF⟩ := bindP_use hF
    refine op (OpS.iownD h54 (.s (.s (.s .z))) Try.underlying74 sz85 rfl rfl rfl rfl e14 ?_)
    refine op (OpS.as rfl rfl rfl ?_)
    refine RunL.nil ?_
    refine Run.slim [(14, (padd (sp u5) ((x1 : Int).toNat * 3))), (13, .int .i64 x1), (2, u1), (4, u3), (7, u8), (8, (q1 4)), (9, u12), (40, u4), (41, .int .i64 (y1.1.length : Int)), (42, .int .i64 s1.1)] ⟨rfl, rfl, rfl, rfl, rfl, rfl, rfl, rfl, rfl, rfl, trivial⟩ ?_
    refine Run.seq ?_
    refine Run.reg ?_
    refine op (OpS.mv rfl rfl rfl ?_)
    refine op (OpS.nchkO h54 (.s (.s (.s .z))) (idx_ne e14) PA.a rfl rfl rfl ?_)
    refine op (OpS.fownD h54 (.s (.s (.s .z))) (idx_ne e14) PA.a fa85_2 rfl rfl rfl ?_)
    obtain ⟨d2, e15, hF⟩ := letP_use hF
    refine op (OpS.storeOD (F2 := fun _ => bus_master.orep) (f' := true) (hn := fun _ => rfl) (hn2 := fun _ => rfl) h54 (.s (.s (.s .z))) (idx_ne e14) PA.a (Len.comp (Len.arrSame e14) bus_master.l2) ty4 rfl rfl rfl V.bool (.inr rfl) (fun w25 h55 => ?_))
    have h56 := St.termD (l' := d2) h55 e15
    refine RunL.nil ?_
    refine Run.slim [(14, (padd (sp u5) ((x1 : Int).toNat * 3))), (13, .int .i64 x1), (2, u1), (4, u3), (7, u8), (8, (q1 4)), (9, u12), (40, u4), (41, .int .i64 (y1.1.length : Int)), (42, .int .i64 s1.1)] ⟨rfl, rfl, rfl, rfl, rfl, rfl, rfl, rfl, rfl, rfl, trivial⟩ ?_
    refine Run.seq ?_
    refine Run.reg ?_
    refine op (OpS.mv rfl rfl rfl ?_)
    obtain ⟨x4, e16, hF⟩ := bindP_use hF
    refine op (OpS.nchkO h56 .z (idx_ne e16) PA.a rfl rfl rfl ?_)
    refine op (OpS.fownD h56 .z (idx_ne e16) PA.a fa85_1 rfl rfl rfl ?_)
    refine op (OpS.loadSi h56 .z bus_master.wk rfl (idx_ne e16) PA.a (Get.comp (Get.arr e16) (GetS.ok (GetS.iso _ (GetS.there (GetS.here GetS.id))))) ty3 rfl rfl rfl ?_)
    refine op (OpS.bin rfl rfl rfl rfl rfl ?_)
    obtain ⟨x5, e17, hF⟩ := bindP_use hF
    refine op (OpS.nchkO h56 .z (idx_ne e17) PA.a rfl rfl rfl ?_)
    refine op (OpS.fownD h56 .z (idx_ne e17) PA.a fa85_1 rfl rfl rfl ?_)
    obtain ⟨d3, e18, hF⟩ := letP_use hF
    refine op (OpS.storeOD (F2 := fun _ => bus_master.orep) (f' := true) (hn := fun _ => rfl) (hn2 := fun _ => rfl) h56 .z (idx_ne e17) PA.a (Len.comp (Len.arrSame e17) bus_master.l1) ty3 rfl rfl rfl V.int (.inr rfl) (fun w26 h57 => ?_))
    have h58 := St.termD (l' := d3) h57 e18
    refine RunL.nil ?_
    refine Run.slim [(14, (padd (sp u5) ((x1 : Int).toNat * 3))), (13, .int .i64 x1), (2, u1), (4, u3), (7, u8), (8, (q1 4)), (9, u12), (40, u4), (41, .int .i64 (y1.1.length : Int)), (42, .int .i64 s1.1)] ⟨rfl, rfl, rfl, rfl, rfl, rfl, rfl, rfl, rfl, rfl, trivial⟩ ?_
    refine Run.seq ?_
    refine Run.seq ?_
    refine Run.reg ?_
    refine op (OpS.fbox (o3 := 2) h58 (.s .z) PA.z fa46_2 rfl rfl rfl rfl ?_)
    refine op (OpS.loadBb h58 (.s .z) PA.a (GetS.ok (GetS.iso _ (GetS.there (GetS.there (GetS.here GetS.id))))) ty4 rfl rfl rfl ?_)
    refine op (OpS.not rfl rfl rfl ?_)
    refine op (OpS.mv rfl rfl rfl ?_)
    refine RunL.join (σ := Bool) (fun s_ L_ w_ => L_ = [(2, u1), (4, u3), (7, u8), (8, (q1 4)), (9, u12), (13, .int .i64 x1), (14, (padd (sp u5) ((x1 : Int).toNat * 3))), (40, u4), (41, .int .i64 (y1.1.length : Int)), (42, .int .i64 s1.1), (83, .bool s_)] ∧ St e w_ [(true, .ptr (Rep.raw (α := Unit) (v0)) u1 ()), (true, .ptr (Rep.raw (α := Unit) (.func (.func 38) #[] #[u1])) u8 ()), (false, .val (Rep.slice (Rep.int .u8)) (q1 4) y3), (true, .val (Rep.slice (Rep.int .i64)) u4 y1.1)] [(true, .box 46 Delivery_.rep u3 Delivery_.z), (true, .box 46 (Rep.iso (fun s : Delivery_ => (s.Masters, s.Bytes, s.OK, s.Failed, ())) (Rep.prod (Rep.raw (α := List Int) u21) (Rep.prod (Rep.slice (Rep.int .u8)) (Rep.prod Rep.bool (Rep.prod (Rep.raw (α := List Int) u17) Rep.unit))))) u12 d1), (false, .oval (oslice 85 3 (fun _ => bus_master.orep)) u5 d3), (false, .box 76 (Rep.iso (fun s : bus_Bus => (s.masters, ())) (Rep.prod (Rep.raw (α := List bus_master) u5) Rep.unit)) v0 ({ s1.2.1 with masters := d3 })), (true, .slice 3 (Rep.int .i64) u17 s1.2.2.2), (true, .slice 3 (Rep.int .i64) u21 x2)]) hF (fun s2 _ w27 hI hF => ?_) (fun j1 hj1 hF => ?_)
    ·
     obtain ⟨rfl, h59⟩ := hI
     refine Run.ite rfl hF (fun e19 hF => ?_) (fun e19 hF => ?_)
     ·
      refine Run.exit rfl ?_
      refine Run.reg ?_
      refine op (OpS.bin rfl rfl rfl rfl rfl ?_)
      refine op (OpS.mv rfl rfl rfl ?_)
      refine RunL.nil ?_
      refine Run.slim [(42, .int .i64 (IntKind.i64.wrap (s1.1 + 1))), (2, u1), (4, u3), (7, u8), (8, (q1 4)), (9, u12), (40, u4), (41, .int .i64 (y1.1.length : Int))] ⟨rfl, rfl, rfl, rfl, rfl, rfl, rfl, rfl, trivial⟩ ?_
      refine Run.slim [(2, u1), (4, u3), (7, u8), (8, (q1 4)), (9, u12), (40, u4), (41, .int .i64 (y1.1.length : Int)), (42, .int .i64 (IntKind.i64.wrap (s1.1 + 1)))] ⟨rfl, rfl, rfl, rfl, rfl, rfl, rfl, rfl, trivial⟩ ?_
      exact hk1 ((IntKind.i64.wrap (s1.1 + 1)), { s1.2.1 with masters := d3 }, x2, s1.2.2.2) _ _ ⟨u21, u17, rfl, (h59.facts (.atm .z (.atm (.s .z) (.atm (.s (.s .z)) (.atm (.s (.s (.s .z))) .nil))))).picks (.cons .z (.cons .z (.cons (.s .z) (.cons (.s (.s .z)) (.cons (.s .z) (.cons .z .nil))))))⟩ hF
     ·
      refine Run.skip ?_
      refine Run.seq ?_
      refine Run.seq ?_
      refine Run.reg ?_
      refine op (OpS.fbox (o3 := 2) h59 (.s .z) PA.z fa46_2 rfl rfl rfl rfl ?_)
      refine op (OpS.loadBb h59 (.s .z) PA.a (GetS.ok (GetS.iso _ (GetS.there (GetS.there (GetS.here GetS.id))))) ty4 rfl rfl rfl ?_)
      refine op (OpS.not rfl rfl rfl ?_)
      refine RunL.nil ?_
      refine Run.slim [(86, .bool (!d1.OK)), (2, u1), (4, u3), (7, u8), (8, (q1 4)), (9, u12), (13, .int .i64 x1), (14, (padd (sp u5) ((x1 : Int).toNat * 3))), (40, u4), (41, .int .i64 (y1.1.length : Int)), (42, .int .i64 s1.1)] ⟨rfl, rfl, rfl, rfl, rfl, rfl, rfl, rfl, rfl, rfl, rfl, trivial⟩ ?_
      refine Run.join (σ := ((List Int))) (fun s_ L_ w_ => ∃ u0_ : Value, L_ = [(2, u1), (4, u3), (7, u8), (8, (q1 4)), (9, u12), (14, (padd (sp u5) ((x1 : Int).toNat * 3))), (40, u4), (41, .int .i64 (y1.1.length : Int)), (42, .int .i64 s1.1)] ∧ St e w_ [(true, .ptr (Rep.raw (α := Unit) (v0)) u1 ()), (true, .ptr (Rep.raw (α := Unit) (.func (.func 38) #[] #[u1])) u8 ()), (false, .val (Rep.slice (Rep.int .u8)) (q1 4) y3), (true, .val (Rep.slice (Rep.int .i64)) u4 y1.1)] [(true, .box 46 Delivery_.rep u3 Delivery_.z), (true, .box 46 (Rep.iso (fun s : Delivery_ => (s.Masters, s.Bytes, s.OK, s.Failed, ())) (Rep.prod (Rep.raw (α := List Int) u21) (Rep.prod (Rep.slice (Rep.int .u8)) (Rep.prod Rep.bool (Rep.prod (Rep.raw (α := List Int) u0_) Rep.unit))))) u12 d1), (false, .oval (oslice 85 3 (fun _ => bus_master.orep)) u5 d3), (false, .box 76 (Rep.iso (fun s : bus_Bus => (s.masters, ())) (Rep.prod (Rep.raw (α := List bus_master) u5) Rep.unit)) v0 ({ s1.2.1 with masters := d3 })), (true, .slice 3 (Rep.int .i64) u21 x2), (true, .slice 3 (Rep.int .i64) u0_ s_)]) hF (fun s3 _ w28 hI hF => ?_) (fun j2 hj2 hF => ?_)
      ·
       obtain ⟨u22, rfl, h60⟩ := hI
       refine Run.reg ?_
       refine op (OpS.mv rfl rfl rfl ?_)
       refine op (OpS.mv rfl rfl rfl ?_)
       refine op (OpS.mv rfl rfl rfl ?_)
       obtain ⟨x6, e20, hF⟩ := bindP_use hF
       refine op (OpS.nchkO h60 (.s (.s .z)) (idx_ne e20) PA.a rfl rfl rfl ?_)
       refine op (OpS.fownD h60 (.s (.s .z)) (idx_ne e20) PA.a fa85_0 rfl rfl rfl ?_)
       refine op (OpS.openO (F' := fun v_ => at' (fun _ => bus_master.orep) (x1).toNat (bus_master.orepW (raw v_))) (hn := fun _ => rfl) (hn' := fun _ => at_hn rfl rfl) h60 (.s (.s .z)) (idx_ne e20) PA.a (fun v_ => Len.comp (Len.arrOpen e20) (bus_master.lenO v_)) rfl ty59 rfl rfl rfl rfl (fun u23 h61 => ?_))
       obtain ⟨e21, hF⟩ := chk_use hF
       refine op (OpS.subD h61 (.s .z) rfl rfl Try.underlying59 ty34 rfl rfl rfl rfl (of_decide_eq_true e21) (fun u24 h62 => ?_))
       obtain ⟨x7, e22, hF⟩ := bindP_use hF
       refine op (OpS.nchkO h62 (.s .z) (idx_ne e22) PA.a rfl rfl rfl ?_)
       refine op (OpS.fownD h62 (.s .z) (idx_ne e22) PA.a fa85_0 rfl rfl rfl ?_)
       obtain ⟨d4, e23, hF⟩ := letP_use hF
       refine op (OpS.storePO (F := (at' (fun _ => bus_master.orep) (x1).toNat (bus_master.orepW (raw u23)))) (F2 := fun _ => bus_master.orep) (hn := at_hn rfl rfl) (hn2 := fun _ => rfl) h62 (.s .z) .z (idx_ne e22) PA.a (Len.comp (Len.arrShut e22) (bus_master.lenC u23)) ty59 rfl rfl rfl rfl (.inr rfl) (fun w29 h63 => ?_))
       have h64 := St.termD (l' := d4) h63 e23
       obtain ⟨x8, e24, hF⟩ := bindP_use hF
       refine op (OpS.nchkO h64 .z (idx_ne e24) PA.a rfl rfl rfl ?_)
       refine op (OpS.fownD h64 .z (idx_ne e24) PA.a fa85_1 rfl rfl rfl ?_)
       obtain ⟨d5, e25, hF⟩ := letP_use hF
       refine op (OpS.storeOD (F2 := fun _ => bus_master.orep) (f' := true) (hn := fun _ => rfl) (hn2 := fun _ => rfl) h64 .z (idx_ne e24) PA.a (Len.comp (Len.arrSame e24) bus_master.l1) ty3 rfl rfl rfl V.int (.inr rfl) (fun w30 h65 => ?_))
       have h66 := St.termD (l' := d5) h65 e25
       refine RunL.nil ?_
       refine Run.slim [(2, u1), (4, u3), (7, u8), (8, (q1 4)), (9, u12), (40, u4), (41, .int .i64 (y1.1.length : Int)), (42, .int .i64 s1.1)] ⟨rfl, rfl, rfl, rfl, rfl, rfl, rfl, rfl, trivial⟩ ?_
       refine Run.endBlock ?_
       refine Run.reg ?_
       refine op (OpS.bin rfl rfl rfl rfl rfl ?_)
       refine op (OpS.mv rfl rfl rfl ?_)
       refine RunL.nil ?_
       refine Run.slim [(42, .int .i64 (IntKind.i64.wrap (s1.1 + 1))), (2, u1), (4, u3), (7, u8), (8, (q1 4)), (9, u12), (40, u4), (41, .int .i64 (y1.1.length : Int))] ⟨rfl, rfl, rfl, rfl, rfl, rfl, rfl, rfl, trivial⟩ ?_
       have h67 := St.boxJ (r' := (Rep.iso (fun s : bus_Bus => (s.masters, ())) (Rep.prod (Rep.raw (α := List bus_master) u5) Rep.unit))) (x' := { { s1.2.1 with masters := d3 } with masters := d5 }) (h66.pick (.s (.s (.s .z)))) (fun _ _ hs_ => (Jn.iso _ (Jn.prod Jn.same Jn.refl)))
       refine Run.slim [(2, u1), (4, u3), (7, u8), (8, (q1 4)), (9, u12), (40, u4), (41, .int .i64 (y1.1.length : Int)), (42, .int .i64 (IntKind.i64.wrap (s1.1 + 1)))] ⟨rfl, rfl, rfl, rfl, rfl, rfl, rfl, rfl, trivial⟩ ?_
       exact hk1 ((IntKind.i64.wrap (s1.1 + 1)), { { s1.2.1 with masters := d3 } with masters := d5 }, x2, s3) _ _ ⟨u21, u22, rfl, (h67.facts (.atm .z (.atm (.s .z) (.atm (.s (.s .z)) (.atm (.s (.s (.s .z))) .nil))))).picks (.cons (.s (.s .z)) (.cons (.s (.s .z)) (.cons .z (.cons (.s .z) (.cons (.s .z) (.cons .z .nil))))))⟩ hF
      ·
       refine Run.ite rfl hF (fun e26 hF => ?_) (fun e26 hF => ?_)
       ·
        refine Run.reg ?_
        refine op (OpS.fbox (o3 := 3) h59 (.s .z) PA.z fa46_3 rfl rfl rfl rfl ?_)
        refine op (OpS.loadR h59 (.s .z) PA.a (GetS.ok (GetS.iso _ (GetS.there (GetS.there (GetS.there (GetS.here GetS.id)))))) ty33 rfl rfl rfl rfl rfl ?_)
        refine op (OpS.mv rfl rfl rfl ?_)
        refine op (OpS.lit (r := (Rep.int .i64)) (f := true) h59 Try.underlying33 ti3 rfl rfl rfl rfl rfl (.cons rfl V.int .nil) rfl rfl (fun u25 w31 h68 => ?_))
        obtain ⟨x9, e27, hF⟩ := bindP_use hF
        refine op (OpS.app (f' := true) h68 (.s (.s (.s (.s .z)))) Try.underlying33 ti3 rfl rfl rfl rfl rfl rfl rfl (V.at .z) (.inr Pure.int) e27 (fun u26 w32 h69 => ?_))
        refine op (OpS.fbox (o3 := 3) h69 (.s (.s .z)) PA.z fa46_3 rfl rfl rfl rfl ?_)
        refine op (OpS.storeC (f' := true) (fr := (Rep.raw u26)) (r' := (Rep.iso (fun s : Delivery_ => (s.Masters, s.Bytes, s.OK, s.Failed, ())) (Rep.prod (Rep.raw (α := List Int) u21) (Rep.prod (Rep.slice (Rep.int .u8)) (Rep.prod Rep.bool (Rep.prod (Rep.raw (α := List Int) u26) Rep.unit)))))) (x' := d1) h69 (.s (.s .z)) PA.a (Chg.iso _ (Chg.there (Chg.there (Chg.there (Chg.here (Chg.id (by rfl))))))) (Ty.like ty33 (by rfl) (by rfl)) rfl rfl rfl (V.raw (f := true) (St.own1 h69 .z) d1.Failed) (.inl rfl) (fun w33 h70 => ?_))
        refine RunL.nil ?_
        refine Run.slim [(2, u1), (4, u3), (7, u8), (8, (q1 4)), (9, u12), (14, (padd (sp u5) ((x1 : Int).toNat * 3))), (40, u4), (41, .int .i64 (y1.1.length : Int)), (42, .int .i64 s1.1)] ⟨rfl, rfl, rfl, rfl, rfl, rfl, rfl, rfl, rfl, trivial⟩ ?_
        refine Run.slim [(2, u1), (4, u3), (7, u8), (8, (q1 4)), (9, u12), (14, (padd (sp u5) ((x1 : Int).toNat * 3))), (40, u4), (41, .int .i64 (y1.1.length : Int)), (42, .int .i64 s1.1)] ⟨rfl, rfl, rfl, rfl, rfl, rfl, rfl, rfl, rfl, trivial⟩ ?_
        exact hj2 (x9) _ _ ⟨u26, rfl, (h70.facts (.atm (.s .z) (.atm (.s (.s .z)) (.atm (.s (.s (.s .z))) (.atm (.s (.s (.s (.s .z)))) .nil))))).picks (.cons (.s (.s .z)) (.cons .z (.cons (.s .z) (.cons (.s .z) (.cons (.s .z) (.cons .z .nil))))))⟩ hF
       ·
        refine Run.skip ?_
        refine Run.slim [(2, u1), (4, u3), (7, u8), (8, (q1 4)), (9, u12), (14, (padd (sp u5) ((x1 : Int).toNat * 3))), (40, u4), (41, .int .i64 (y1.1.length : Int)), (42, .int .i64 s1.1)] ⟨rfl, rfl, rfl, rfl, rfl, rfl, rfl, rfl, rfl, trivial⟩ ?_
        exact hj2 (s1.2.2.2) _ _ ⟨u17, rfl, (h59.facts (.atm .z (.atm (.s .z) (.atm (.s (.s .z)) (.atm (.s (.s (.s .z))) .nil))))).picks (.cons .z (.cons .z (.cons .z (.cons .z (.cons (.s .z) (.cons .z .nil))))))⟩ hF
    ·
     refine RunL.caseb hF (fun e28 hF => ?_) (fun e28 hF => ?_)
     ·
      refine op (OpS.mv rfl rfl rfl ?_)
      obtain ⟨x10, e29, hF⟩ := bindP_use hF
      refine op (OpS.nchkO h58 .z (idx_ne e29) PA.a rfl rfl rfl ?_)
      refine op (OpS.fownD h58 .z (idx_ne e29) PA.a fa85_1 rfl rfl rfl ?_)
      refine op (OpS.loadSi h58 .z bus_master.wk rfl (idx_ne e29) PA.a (Get.comp (Get.arr e29) (GetS.ok (GetS.iso _ (GetS.there (GetS.here GetS.id))))) ty3 rfl rfl rfl ?_)
      refine op (OpS.bin rfl rfl rfl rfl rfl ?_)
      refine op (OpS.pick rfl rfl rfl rfl ?_)
      refine RunL.nil ?_
      refine Run.slim [(83, .bool (decide (x10.tries < 4))), (14, (padd (sp u5) ((x1 : Int).toNat * 3))), (13, .int .i64 x1), (2, u1), (4, u3), (7, u8), (8, (q1 4)), (9, u12), (40, u4), (41, .int .i64 (y1.1.length : Int)), (42, .int .i64 s1.1)] ⟨rfl, rfl, rfl, rfl, rfl, rfl, rfl, rfl, rfl, rfl, rfl, trivial⟩ ?_
      refine Run.slim [(2, u1), (4, u3), (7, u8), (8, (q1 4)), (9, u12), (13, .int .i64 x1), (14, (padd (sp u5) ((x1 : Int).toNat * 3))), (40, u4), (41, .int .i64 (y1.1.length : Int)), (42, .int .i64 s1.1), (83, .bool (decide (x10.tries < 4)))] ⟨rfl, rfl, rfl, rfl, rfl, rfl, rfl, rfl, rfl, rfl, rfl, trivial⟩ ?_
      exact hj1 (decide (x10.tries < 4)) _ _ ⟨rfl, (h58.facts (.atm (.s (.s (.s .z))) (.atm (.s (.s (.s (.s .z)))) (.atm (.s (.s (.s (.s (.s .z))))) (.atm (.s (.s (.s (.s (.s (.s .z)))))) .nil))))).picks (.cons (.s (.s (.s (.s .z)))) (.cons (.s .z) (.cons .z (.cons (.s .z) (.cons (.s .z) (.cons .z .nil))))))⟩ hF
     ·
      refine op (OpS.pass rfl rfl rfl ?_)
      refine op (OpS.pass rfl rfl rfl ?_)
      refine op (OpS.pass rfl rfl rfl ?_)
      refine op (OpS.pass rfl rfl rfl ?_)
      refine op (OpS.pass rfl rfl rfl ?_)
      refine op (OpS.pick rfl rfl rfl rfl ?_)
      refine RunL.nil ?_
      refine Run.slim [(83, .bool false), (14, (padd (sp u5) ((x1 : Int).toNat * 3))), (13, .int .i64 x1), (2, u1), (4, u3), (7, u8), (8, (q1 4)), (9, u12), (40, u4), (41, .int .i64 (y1.1.length : Int)), (42, .int .i64 s1.1)] ⟨rfl, rfl, rfl, rfl, rfl, rfl, rfl, rfl, rfl, rfl, rfl, trivial⟩ ?_
      refine Run.slim [(2, u1), (4, u3), (7, u8), (8, (q1 4)), (9, u12), (13, .int .i64 x1), (14, (padd (sp u5) ((x1 : Int).toNat * 3))), (40, u4), (41, .int .i64 (y1.1.length : Int)), (42, .int .i64 s1.1), (83, .bool false)] ⟨rfl, rfl, rfl, rfl, rfl, rfl, rfl, rfl, rfl, rfl, rfl, trivial⟩ ?_
      exact hj1 (false) _ _ ⟨rfl, (h58.facts (.atm (.s (.s (.s .z))) (.atm (.s (.s (.s (.s .z)))) (.atm (.s (.s (.s (.s (.s .z))))) (.atm (.s (.s (.s (.s (.s (.s .z)))))) .nil))))).picks (.cons (.s (.s (.s (.s .z)))) (.cons (.s .z) (.cons .z (.cons (.s .z) (.cons (.s .z) (.cons .z .nil))))))⟩ hF
  ·
   refine Run.exit rfl ?_
   refine Run.seq ?_
   refine Run.reg ?_
   refine op (OpS.loadB (fr := (Rep.iso (fun s : Delivery_ => (s.Masters, s.Bytes, s.OK, s.Failed, ())) (Rep.prod (Rep.raw (α := List Int) u16) (Rep.prod (Rep.slice (Rep.int .u8)) (Rep.prod Rep.bool (Rep.prod (Rep.raw (α := List Int) u17) Rep.unit)))))) h45 (.s .z) PA.z (GetS.ok GetS.id) (Ty.like ty46 (by rfl) (by rfl)) rfl rfl rfl (fun u27 h71 => ?_))
   refine op (OpS.storeC (f' := true) (fr := (Rep.iso (fun s : Delivery_ => (s.Masters, s.Bytes, s.OK, s.Failed, ())) (Rep.prod (Rep.raw (α := List Int) u16) (Rep.prod (Rep.slice (Rep.int .u8)) (Rep.prod Rep.bool (Rep.prod (Rep.raw (α := List Int) u17) Rep.unit)))))) (r' := (Rep.iso (fun s : Delivery_ => (s.Masters, s.Bytes, s.OK, s.Failed, ())) (Rep.prod (Rep.raw (α := List Int) u16) (Rep.prod (Rep.slice (Rep.int .u8)) (Rep.prod Rep.bool (Rep.prod (Rep.raw (α := List Int) u17) Rep.unit)))))) (x' := d1) h71 .z PA.z (Chg.id (by rfl)) (Ty.like ty46 (by rfl) (by rfl)) rfl rfl rfl (V.at .z) (.inl rfl) (fun w34 h72 => ?_))
   refine op (OpS.as rfl rfl rfl ?_)
   refine RunL.nil ?_
   refine Run.slim [(5, .bool true), (4, u3)] ⟨rfl, rfl, trivial⟩ ?_
   have h74 := (h72.pick (.s (.s (.s .z)))).freeze
   have h75 := h74.pick .z
   have h76 := St.boxJ (r' := (Rep.iso (fun s : Delivery_ => (s.Masters, s.Bytes, s.OK, s.Failed, ())) (Rep.prod (Rep.slice (Rep.int .i64)) (Rep.prod (Rep.slice (Rep.int .u8)) (Rep.prod Rep.bool (Rep.prod (Rep.raw (α := List Int) u17) Rep.unit)))))) (x' := { d1 with Masters := s1.2.2.1 }) h75 (fun _ _ hs_ => (Jn.iso _ (Jn.prod (Jn.raw ((V.at .z) _ _ hs_) rfl) (Jn.prod Jn.refl (Jn.prod Jn.refl (Jn.prod Jn.same Jn.refl))))))
   have h77 := h76.pick (.s .z)
   have h78 := St.boxJ (r' := (Rep.iso (fun s : Delivery_ => (s.Masters, s.Bytes, s.OK, s.Failed, ())) (Rep.prod (Rep.slice (Rep.int .i64)) (Rep.prod (Rep.slice (Rep.int .u8)) (Rep.prod Rep.bool (Rep.prod (Rep.raw (α := List Int) u17) Rep.unit)))))) (x' := { d1 with Masters := s1.2.2.1 }) h77 (fun _ _ hs_ => (Jn.iso _ (Jn.prod (Jn.raw ((V.at .z) _ _ hs_) rfl) (Jn.prod Jn.refl (Jn.prod Jn.refl (Jn.prod Jn.same Jn.refl))))))
   have h79 := (h78.pick (.s (.s (.s .z)))).freeze
   have h80 := h79.pick .z
   have h81 := St.boxJ (r' := Delivery_.rep) (x' := { { d1 with Masters := s1.2.2.1 } with Failed := s1.2.2.2 }) h80 (fun _ _ hs_ => (Jn.iso _ (Jn.prod Jn.refl (Jn.prod Jn.refl (Jn.prod Jn.refl (Jn.prod (Jn.raw ((V.at .z) _ _ hs_) rfl) Jn.refl))))))
   have h82 := h81.pick (.s .z)
   have h83 := St.boxJ (r' := Delivery_.rep) (x' := { { d1 with Masters := s1.2.2.1 } with Failed := s1.2.2.2 }) h82 (fun _ _ hs_ => (Jn.iso _ (Jn.prod Jn.refl (Jn.prod Jn.refl (Jn.prod Jn.refl (Jn.prod (Jn.raw ((V.at .z) _ _ hs_) rfl) Jn.refl))))))
   obtain ⟨u28, hu2, h73⟩ := res_box h83 .z ty46
   refine Run.retP rfl (.cell rfl hu2 (.tmp rfl .nil)) ?_
   cases hF
   exact Post.mk' ⟨u28, u5, rfl, rfl, rfl, rfl⟩ (h73.picks (.cons (.s (.s .z)) (.cons (.s (.s .z)) .nil))) (.val (V.at .z) .nil)
theorem bus_Bus_Pending_ok {fuel : Nat} {a0 : bus_Bus} {a1 : Int} {y : Int} (hF : bus_Bus_Pending fuel a0 a1 = some y) {w : World} {v0 v0_0 : Value} :
  Spec Try.prog 22 [v0, .int .i64 a1].toArray w [] [(false, .box 76 (Rep.iso (fun s : bus_Bus => (s.masters, ())) (Rep.prod (Rep.raw (α := List bus_master) v0_0) Rep.unit)) v0 a0), (false, .oval (oslice 85 3 (fun _ => bus_master.orep)) v0_0 a0.masters)] (fun v Γr Ωr Ωo => v = .int .i64 y ∧ Γr = [] ∧ Ωr = [] ∧ Ωo = [(false, .box 76 (Rep.iso (fun s : bus_Bus => (s.masters, ())) (Rep.prod (Rep.raw (α := List bus_master) v0_0) Rep.unit)) v0 a0), (false, (.oval (oslice 85 3 (fun _ => bus_master.orep)) v0_0 a0.masters))]) := by
 refine Spec.of (L := [(0, v0), (1, .int .i64 a1)]) Try.func22 rfl ⟨rfl, rfl, trivial⟩ rfl (fun e h => ?_)
 unfold bus_Bus_Pending at hF
 refine Run.seq ?_
 refine Run.reg ?_
 refine op (OpS.as rfl rfl rfl ?_)
 refine RunL.nil ?_
 refine Run.slim [(0, v0), (1, .int .i64 a1)] ⟨rfl, rfl, trivial⟩ ?_
 refine Run.seq ?_
 refine Run.seq ?_
 refine Run.reg ?_
 refine op (OpS.mv rfl rfl rfl ?_)
 refine op (OpS.mv rfl rfl rfl ?_)
 obtain ⟨y1, e1, hF⟩ := bindP_use hF
 have h1 := h.front (.cons .z (.cons .z .nil))
 refine op (OpS.callO h1 Try.func35 rfl rfl rfl rfl (vs := [v0, .int .i64 a1]) rfl (bus_Bus_there_ok e1) rfl .nil ?_)
 rintro _ w1 _ _ _ ⟨rfl, rfl, rfl, rfl⟩ h2
 have h3 := h2
 simp only [List.cons_append, List.nil_append] at h3
 refine op (OpS.not rfl rfl rfl ?_)
 refine RunL.nil ?_
 refine Run.slim [(8, .bool (!y1)), (0, v0), (1, .int .i64 a1)] ⟨rfl, rfl, rfl, trivial⟩ ?_
 refine Run.ite rfl hF (fun e2 hF => ?_) (fun e2 hF => ?_)
 ·
  refine Run.seq ?_
  refine Run.reg ?_
  refine op (OpS.as rfl rfl rfl ?_)
  refine RunL.nil ?_
  refine Run.slim [(4, .int .i64 0)] ⟨rfl, trivial⟩ ?_
  refine Run.retP rfl (.tmp rfl .nil) ?_
  cases hF
  exact Post.mk' ⟨rfl, rfl, rfl, rfl⟩ (h3.picks (.cons .z (.cons .z .nil))) .nil
 ·
  refine Run.skip ?_
  refine Run.seq ?_
  refine Run.reg ?_
  refine op (OpS.mv rfl rfl rfl ?_)
  refine op (OpS.nchk h3 .z rfl rfl rfl ?_)
  refine op (OpS.fbox (o3 := 0) h3 .z PA.z fa76_0 rfl rfl rfl rfl ?_)
  refine op (OpS.loadR h3 .z PA.a (GetS.ok (GetS.iso _ (GetS.here GetS.id))) ty74 rfl rfl rfl rfl rfl ?_)
  refine op (OpS.mv rfl rfl rfl ?_)
  obtain ⟨x1, e3, hF⟩ := bindP_use hF
  refine op (OpS.iownD h3 (.s .z) Try.underlying74 sz85 rfl rfl rfl rfl e3 ?_)
  refine op (OpS.fownD h3 (.s .z) (idx_ne e3) PA.a fa85_0 rfl rfl rfl ?_)
  refine op (OpS.loadS (fr := Rep.hollow) h3 (.s .z) bus_master.wk rfl (idx_ne e3) PA.a (Get.comp (Get.arr e3) (GetS.ok (GetS.iso _ (GetS.here GetS.id)))) (Ty.like ty59 (by rfl) (by rfl)) rfl rfl rfl (fun u1 h4 => ?_))
  refine op (OpS.lenH h4 Try.underlying59 rfl rfl rfl (V.at .z) ?_)
  refine op (OpS.as rfl rfl rfl ?_)
  refine RunL.nil ?_
  refine Run.slim [(4, .int .i64 (x1.queue.length : Int))] ⟨rfl, trivial⟩ ?_
  refine Run.retP rfl (.tmp rfl .nil) ?_
  cases hF
  exact Post.mk' ⟨rfl, rfl, rfl, rfl⟩ (h4.picks (.cons .z (.cons .z .nil))) .nil
set_option maxHeartbeats 8000000 in
theorem law21_awake_ok {fuel : Nat}  {y : Bool} (hF : law21_awake fuel  = some y) {w : World} :
  Spec Try.prog 10 [].toArray w [] [] (fun v Γr Ωr Ωo => v = .bool y ∧ Γr = [] ∧ Ωr = [] ∧ Ωo = []) := by
 refine Spec.of (L := []) Try.func10 rfl trivial rfl (fun e h => ?_)
 unfold law21_awake at hF
 refine Run.seq ?_
 refine Run.reg ?_
 refine op (OpS.as rfl rfl rfl ?_)
 refine RunL.nil ?_
 refine Run.slim [] trivial ?_
 refine Run.seq ?_
 refine Run.reg ?_
 obtain ⟨y1, e1, hF⟩ := bindP_use hF
 refine op (OpS.callP h Try.func11 rfl rfl rfl rfl (vs := [.int .i64 2]) rfl (bus_New_ok e1) .nil ?_)
 rintro _ w1 _ _ _ ⟨u1, rfl, rfl, rfl, rfl⟩ h1
 have h2 := h1 rfl rfl
 simp only [List.cons_append, List.nil_append] at h2
 refine op (OpS.mv rfl rfl rfl ?_)
 refine op (OpS.ext rfl rfl rfl rfl ?_)
 refine op (OpS.ext rfl rfl rfl rfl ?_)
 refine op (OpS.as rfl rfl rfl ?_)
 refine op (OpS.as rfl rfl rfl ?_)
 refine RunL.nil ?_
 refine Run.slim [(2, .int .i64 y1.2), (1, u1)] ⟨rfl, rfl, trivial⟩ ?_
 refine Run.seq ?_
 refine Run.seq ?_
 refine Run.reg ?_
 refine op (OpS.mv rfl rfl rfl ?_)
 refine op (OpS.onilE h2 .z (fun _ G_ S_ w_ h_ => ptr_one1 G_ S_ w_ h_) Try.underlying25 rfl rfl rfl rfl ?_)
 refine op (OpS.mv rfl rfl rfl ?_)
 refine RunL.join (σ := Bool) (fun s_ L_ w_ => L_ = [(1, u1), (21, .bool s_)] ∧ St e w_ [] [(true, .opt (fun x_ => .ex fun v_ => .sep (.box 76 (Rep.iso (fun s : bus_Bus => (s.masters, ())) (Rep.prod (Rep.raw (α := List bus_master) v_) Rep.unit)) u1 x_) (.oval (oslice 85 3 (fun _ => bus_master.orep)) v_ x_.masters)) u1 y1.1)]) hF (fun s1 _ w2 hI hF => ?_) (fun j1 hj1 hF => ?_)
 ·
  obtain ⟨rfl, h3⟩ := hI
  refine Run.ite rfl hF (fun e2 hF => ?_) (fun e2 hF => ?_)
  ·
   refine Run.seq ?_
   refine Run.reg ?_
   refine op (OpS.as rfl rfl rfl ?_)
   refine RunL.nil ?_
   refine Run.slim [(0, .bool false)] ⟨rfl, trivial⟩ ?_
   refine Run.retP rfl (.tmp rfl .nil) ?_
   cases hF
   exact Post.mk' ⟨rfl, rfl, rfl, rfl⟩ (h3.picks .nil) .nil
  ·
   refine Run.skip ?_
   refine Run.seq ?_
   refine Run.reg ?_
   refine op (OpS.build (f := true) (x' := (⟨16, 32, []⟩ : Frame_)) h3 pl36 ti36 Frame_.zr rfl rfl rfl (.cons rfl Frame_.f0 rfl V.int (.cons rfl Frame_.f1 rfl V.int .nil)) (fun u2 h4 => ?_))
   refine op (OpS.build (f := true) (x' := (⟨17, 33, []⟩ : Frame_)) h4 pl36 ti36 Frame_.zr rfl rfl rfl (.cons rfl Frame_.f0 rfl V.int (.cons rfl Frame_.f1 rfl V.int .nil)) (fun u3 h5 => ?_))
   refine op (OpS.alloc h5 ti36 Frame_.zr rfl rfl (fun u4 w3 h6 => ?_))
   refine op (OpS.alloc h6 ti36 Frame_.zr rfl rfl (fun u5 w4 h7 => ?_))
   refine op (OpS.storeB (f' := true) h7 (.s .z) PA.z Put.id ty36 rfl rfl rfl (V.at (.s .z)) (.inl rfl) (fun w5 h8 => ?_))
   refine op (OpS.storeB (f' := true) h8 (.s .z) PA.z Put.id ty36 rfl rfl rfl (V.at .z) (.inl rfl) (fun w6 h9 => ?_))
   refine RunL.nil ?_
   refine Run.slim [(4, u5), (3, u4), (1, u1)] ⟨rfl, rfl, rfl, trivial⟩ ?_
   refine Run.seq ?_
   obtain ⟨x1, e3, hF⟩ := bindP_use hF
   obtain ⟨y2, e4, hF⟩ := bindP_use hF
   obtain ⟨y3, e5, hF⟩ := bindP_use hF
   obtain ⟨y4, e6, hF⟩ := bindP_use hF
   refine Run.drawV (Ωs := []) [⟨some 24, some (u1), fun _ => [], fun ds_ u_ => [], [], [], none⟩, ⟨some 25, none, fun u_ => [(true, .val Frame_.rep u_ (⟨16, 32, []⟩ : Frame_))], fun ds_ u_ => [], [], [(1, [])], none⟩, ⟨some 26, some (.int .i64 y2.1), fun _ => [], fun ds_ u_ => [(false, .opt (fun x_ => .ex fun v_ => .sep (.box 76 (Rep.iso (fun s : bus_Bus => (s.masters, ())) (Rep.prod (Rep.raw (α := List bus_master) v_) Rep.unit)) u1 x_) (.oval (oslice 85 3 (fun _ => bus_master.orep)) v_ x_.masters)) u1 (some y2.2))], [2], [], none⟩, ⟨some 27, some (u1), fun _ => [], fun ds_ u_ => [], [], [], none⟩, ⟨some 28, none, fun u_ => [(true, .val Frame_.rep u_ (⟨16, 32, []⟩ : Frame_))], fun ds_ u_ => [], [], [(1, [])], none⟩, ⟨some 29, some (.int .i64 y3.1), fun _ => [], fun ds_ u_ => [(false, .opt (fun x_ => .ex fun v_ => .sep (.box 76 (Rep.iso (fun s : bus_Bus => (s.masters, ())) (Rep.prod (Rep.raw (α := List bus_master) v_) Rep.unit)) u1 x_) (.oval (oslice 85 3 (fun _ => bus_master.orep)) v_ x_.masters)) u1 (some y3.2))], [5], [], none⟩, ⟨some 30, some (u1), fun _ => [], fun ds_ u_ => [], [], [], none⟩, ⟨some 31, none, fun u_ => [(true, .val Frame_.rep u_ (⟨17, 33, []⟩ : Frame_))], fun ds_ u_ => [], [], [(0, [])], none⟩, ⟨some 32, some (.int .i64 y4.1), fun _ => [], fun ds_ u_ => [(false, .opt (fun x_ => .ex fun v_ => .sep (.box 76 (Rep.iso (fun s : bus_Bus => (s.masters, ())) (Rep.prod (Rep.raw (α := List bus_master) v_) Rep.unit)) u1 x_) (.oval (oslice 85 3 (fun _ => bus_master.orep)) v_ x_.masters)) u1 (some y4.2))], [8], [], none⟩, ⟨some 5, some (.int .i64 y2.1), fun _ => [], fun ds_ u_ => [], [], [], none⟩, ⟨some 6, some (.int .i64 y3.1), fun _ => [], fun ds_ u_ => [], [], [], none⟩] [[], [], [0, 1], [], [], [3, 4], [], [], [6, 7], [2], [5]] [[(true, .box 36 Frame_.rep u5 (⟨17, 33, []⟩ : Frame_))], [(true, .box 36 Frame_.rep u4 (⟨16, 32, []⟩ : Frame_))], [(true, .opt (fun x_ => .ex fun v_ => .sep (.box 76 (Rep.iso (fun s : bus_Bus => (s.masters, ())) (Rep.prod (Rep.raw (α := List bus_master) v_) Rep.unit)) u1 x_) (.oval (oslice 85 3 (fun _ => bus_master.orep)) v_ x_.masters)) u1 y1.1)]] [0, 1, 3, 4, 6, 7, 9, 10, 11, 12, 13] Try_mixed rfl rfl rfl h9 (.cons ?_ (.cons ?_ (.cons ?_ (.cons ?_ (.cons ?_ (.cons ?_ (.cons ?_ (.cons ?_ (.cons ?_ (.cons ?_ (.cons ?_ .nil))))))))))) (fun q1 w hq1 h => ?_)
   ·intro q1 w Γx Ωx h
    refine OpS.mv rfl rfl rfl ?_
    exact ⟨undef, rfl, trivial, h⟩
   ·intro q1 w Γx Ωx h
    have h : St e w ([(true, .val Frame_.rep u3 (⟨17, 33, []⟩ : Frame_)), (true, .val Frame_.rep u2 (⟨16, 32, []⟩ : Frame_))] ++ Γx) ([(true, .box 36 Frame_.rep u4 (⟨16, 32, []⟩ : Frame_))] ++ Ωx) := h
    refine OpS.loadB h .z PA.z Get.id ty36 rfl rfl rfl (fun u h39 => ?_)
    exact ⟨u, rfl, trivial, h39⟩
   ·intro q1 w Γx Ωx h
    have h : St e w ([(true, .val Frame_.rep (q1 1) (⟨16, 32, []⟩ : Frame_)), (true, .val Frame_.rep u3 (⟨17, 33, []⟩ : Frame_)), (true, .val Frame_.rep u2 (⟨16, 32, []⟩ : Frame_))] ++ Γx) ([(true, .opt (fun x_ => .ex fun v_ => .sep (.box 76 (Rep.iso (fun s : bus_Bus => (s.masters, ())) (Rep.prod (Rep.raw (α := List bus_master) v_) Rep.unit)) u1 x_) (.oval (oslice 85 3 (fun _ => bus_master.orep)) v_ x_.masters)) u1 y1.1)] ++ Ωx) := h
    have h40 := St.unopt (h.pick .z) e3
    obtain ⟨u12, h41⟩ := h40.unex
    have h42 := h41.unsep
    have h43 := (h42.pick .z).weak
    have h44 := (h43.pick (.s .z)).weak
    have h45 := h44.front (.cons (.s .z) (.cons .z .nil))
    refine OpS.callO h45 Try.func16 rfl rfl rfl rfl (vs := [u1, .int .i64 0, (q1 1)]) rfl (bus_Bus_Submit_ok e4) rfl (.cons (f := true) (V.at .z) .nil) ?_
    rintro _ w10 _ _ _ ⟨u13, rfl, rfl, rfl, rfl⟩ h46
    have h47 := h46
    simp only [List.cons_append, List.nil_append] at h47
    have h48 := h47.front (.cons .z (.cons .z .nil))
    have h49 := St.some (H := (fun x_ => .ex fun v_ => .sep (.box 76 (Rep.iso (fun s : bus_Bus => (s.masters, ())) (Rep.prod (Rep.raw (α := List bus_master) v_) Rep.unit)) u1 x_) (.oval (oslice 85 3 (fun _ => bus_master.orep)) v_ x_.masters))) (q := u1) (x := y2.2) (St.ex (H := fun v_ => .sep (.box 76 (Rep.iso (fun s : bus_Bus => (s.masters, ())) (Rep.prod (Rep.raw (α := List bus_master) v_) Rep.unit)) u1 y2.2) (.oval (oslice 85 3 (fun _ => bus_master.orep)) v_ y2.2.masters)) u13 (St.sep h48))
    exact ⟨undef, rfl, trivial, h49⟩
   ·intro q1 w Γx Ωx h
    refine OpS.mv rfl rfl rfl ?_
    exact ⟨undef, rfl, trivial, h⟩
   ·intro q1 w Γx Ωx h
    have h : St e w ([(true, .val Frame_.rep u3 (⟨17, 33, []⟩ : Frame_)), (true, .val Frame_.rep u2 (⟨16, 32, []⟩ : Frame_))] ++ Γx) ([(true, .box 36 Frame_.rep u4 (⟨16, 32, []⟩ : Frame_))] ++ Ωx) := h
    refine OpS.loadB h .z PA.z Get.id ty36 rfl rfl rfl (fun u h50 => ?_)
    exact ⟨u, rfl, trivial, h50⟩
   ·intro q1 w Γx Ωx h
    have h : St e w ([(true, .val Frame_.rep (q1 4) (⟨16, 32, []⟩ : Frame_)), (true, .val Frame_.rep u3 (⟨17, 33, []⟩ : Frame_)), (true, .val Frame_.rep u2 (⟨16, 32, []⟩ : Frame_))] ++ Γx) ([(false, .opt (fun x_ => .ex fun v_ => .sep (.box 76 (Rep.iso (fun s : bus_Bus => (s.masters, ())) (Rep.prod (Rep.raw (α := List bus_master) v_) Rep.unit)) u1 x_) (.oval (oslice 85 3 (fun _ => bus_master.orep)) v_ x_.masters)) u1 (some y2.2))] ++ Ωx) := h
    have h51 := St.unopt (h.pick .z) rfl
    obtain ⟨u14, h52⟩ := h51.unex
    have h53 := h52.unsep
    have h54 := h53.front (.cons .z (.cons .z .nil))
    refine OpS.callO h54 Try.func16 rfl rfl rfl rfl (vs := [u1, .int .i64 0, (q1 4)]) rfl (bus_Bus_Submit_ok e5) rfl (.cons (f := true) (V.at .z) .nil) ?_
    rintro _ w11 _ _ _ ⟨u15, rfl, rfl, rfl, rfl⟩ h55
    have h56 := h55
    simp only [List.cons_append, List.nil_append] at h56
    have h57 := h56.front (.cons .z (.cons .z .nil))
    have h58 := St.some (H := (fun x_ => .ex fun v_ => .sep (.box 76 (Rep.iso (fun s : bus_Bus => (s.masters, ())) (Rep.prod (Rep.raw (α := List bus_master) v_) Rep.unit)) u1 x_) (.oval (oslice 85 3 (fun _ => bus_master.orep)) v_ x_.masters))) (q := u1) (x := y3.2) (St.ex (H := fun v_ => .sep (.box 76 (Rep.iso (fun s : bus_Bus => (s.masters, ())) (Rep.prod (Rep.raw (α := List bus_master) v_) Rep.unit)) u1 y3.2) (.oval (oslice 85 3 (fun _ => bus_master.orep)) v_ y3.2.masters)) u15 (St.sep h57))
    exact ⟨undef, rfl, trivial, h58⟩
   ·intro q1 w Γx Ωx h
    refine OpS.mv rfl rfl rfl ?_
    exact ⟨undef, rfl, trivial, h⟩
   ·intro q1 w Γx Ωx h
    have h : St e w ([(true, .val Frame_.rep u3 (⟨17, 33, []⟩ : Frame_)), (true, .val Frame_.rep u2 (⟨16, 32, []⟩ : Frame_))] ++ Γx) ([(true, .box 36 Frame_.rep u5 (⟨17, 33, []⟩ : Frame_))] ++ Ωx) := h
    refine OpS.loadB h .z PA.z Get.id ty36 rfl rfl rfl (fun u h59 => ?_)
    exact ⟨u, rfl, trivial, h59⟩
   ·intro q1 w Γx Ωx h
    have h : St e w ([(true, .val Frame_.rep (q1 7) (⟨17, 33, []⟩ : Frame_)), (true, .val Frame_.rep u3 (⟨17, 33, []⟩ : Frame_)), (true, .val Frame_.rep u2 (⟨16, 32, []⟩ : Frame_))] ++ Γx) ([(false, .opt (fun x_ => .ex fun v_ => .sep (.box 76 (Rep.iso (fun s : bus_Bus => (s.masters, ())) (Rep.prod (Rep.raw (α := List bus_master) v_) Rep.unit)) u1 x_) (.oval (oslice 85 3 (fun _ => bus_master.orep)) v_ x_.masters)) u1 (some y3.2))] ++ Ωx) := h
    have h60 := St.unopt (h.pick .z) rfl
    obtain ⟨u16, h61⟩ := h60.unex
    have h62 := h61.unsep
    have h63 := h62.front (.cons .z (.cons .z .nil))
    refine OpS.callO h63 Try.func16 rfl rfl rfl rfl (vs := [u1, .int .i64 1, (q1 7)]) rfl (bus_Bus_Submit_ok e6) rfl (.cons (f := true) (V.at .z) .nil) ?_
    rintro _ w12 _ _ _ ⟨u17, rfl, rfl, rfl, rfl⟩ h64
    have h65 := h64
    simp only [List.cons_append, List.nil_append] at h65
    have h66 := h65.front (.cons .z (.cons .z .nil))
    have h67 := St.some (H := (fun x_ => .ex fun v_ => .sep (.box 76 (Rep.iso (fun s : bus_Bus => (s.masters, ())) (Rep.prod (Rep.raw (α := List bus_master) v_) Rep.unit)) u1 x_) (.oval (oslice 85 3 (fun _ => bus_master.orep)) v_ x_.masters))) (q := u1) (x := y4.2) (St.ex (H := fun v_ => .sep (.box 76 (Rep.iso (fun s : bus_Bus => (s.masters, ())) (Rep.prod (Rep.raw (α := List bus_master) v_) Rep.unit)) u1 y4.2) (.oval (oslice 85 3 (fun _ => bus_master.orep)) v_ y4.2.masters)) u17 (St.sep h66))
    exact ⟨undef, rfl, trivial, h67⟩
   ·intro q1 w Γx Ωx h
    refine OpS.as rfl rfl rfl ?_
    exact ⟨undef, rfl, trivial, h⟩
   ·intro q1 w Γx Ωx h
    refine OpS.as rfl rfl rfl ?_
    exact ⟨undef, rfl, trivial, h⟩
   have h68 : St e w [(true, .val Frame_.rep (q1 1) (⟨16, 32, []⟩ : Frame_)), (true, .val Frame_.rep (q1 4) (⟨16, 32, []⟩ : Frame_)), (true, .val Frame_.rep (q1 7) (⟨17, 33, []⟩ : Frame_)), (true, .val Frame_.rep u3 (⟨17, 33, []⟩ : Frame_)), (true, .val Frame_.rep u2 (⟨16, 32, []⟩ : Frame_))] [(true, .box 36 Frame_.rep u5 (⟨17, 33, []⟩ : Frame_)), (true, .box 36 Frame_.rep u4 (⟨16, 32, []⟩ : Frame_)), (false, .opt (fun x_ => .ex fun v_ => .sep (.box 76 (Rep.iso (fun s : bus_Bus => (s.masters, ())) (Rep.prod (Rep.raw (α := List bus_master) v_) Rep.unit)) u1 x_) (.oval (oslice 85 3 (fun _ => bus_master.orep)) v_ x_.masters)) u1 (some y4.2))] := h
   refine op (OpS.as rfl rfl rfl ?_)
   refine RunL.nil ?_
   refine Run.slim [(7, .int .i64 y4.1), (5, .int .i64 y2.1), (6, .int .i64 y3.1), (1, u1)] ⟨rfl, rfl, rfl, rfl, trivial⟩ ?_
   refine Run.seq ?_
   refine Run.reg ?_
   refine op (OpS.mv rfl rfl rfl ?_)
   refine op (OpS.build (f := true) (x' := Fault_.z) h68 pl38 ti38 Fault_.zr rfl rfl rfl .nil (fun u18 h69 => ?_))
   have h70 := St.unopt (h69.pick (.s (.s .z))) rfl
   obtain ⟨u19, h71⟩ := h70.unex
   have h72 := h71.unsep
   obtain ⟨y5, e7, hF⟩ := bindP_use hF
   have h73 := h72.front (.cons .z (.cons .z .nil))
   refine op (OpS.callO h73 Try.func18 rfl rfl rfl rfl (vs := [u1, u18]) rfl (bus_Bus_Step_ok e7) rfl (.cons (f := true) (V.at .z) .nil) ?_)
   rintro _ w13 _ _ _ ⟨u20, u21, rfl, rfl, rfl, rfl⟩ h74
   have h75 := h74
   simp only [List.cons_append, List.nil_append] at h75
   refine op (OpS.mv rfl rfl rfl ?_)
   refine op (OpS.ext rfl rfl rfl rfl ?_)
   refine op (OpS.ext rfl rfl rfl rfl ?_)
   refine op (OpS.alloc h75 ti46 Delivery_.zr rfl rfl (fun u22 w14 h76 => ?_))
   refine op (OpS.storeB (f' := true) h76 .z PA.z Put.id ty46 rfl rfl rfl (V.at .z) (.inl rfl) (fun w15 h77 => ?_))
   refine op (OpS.as rfl rfl rfl ?_)
   refine RunL.nil ?_
   refine Run.slim [(9, .bool y5.2.1), (8, u22), (7, .int .i64 y4.1), (5, .int .i64 y2.1), (6, .int .i64 y3.1), (1, u1)] ⟨rfl, rfl, rfl, rfl, rfl, rfl, trivial⟩ ?_
   refine Run.seq ?_
   refine Run.reg ?_
   refine op (OpS.mv rfl rfl rfl ?_)
   refine op (OpS.build (f := true) (x' := Fault_.z) h77 pl38 ti38 Fault_.zr rfl rfl rfl .nil (fun u23 h78 => ?_))
   obtain ⟨y6, e8, hF⟩ := bindP_use hF
   have h79 := h78.front (.cons (.s .z) (.cons (.s .z) .nil))
   refine op (OpS.callO h79 Try.func18 rfl rfl rfl rfl (vs := [u1, u23]) rfl (bus_Bus_Step_ok e8) rfl (.cons (f := true) (V.at .z) .nil) ?_)
   rintro _ w16 _ _ _ ⟨u24, u25, rfl, rfl, rfl, rfl⟩ h80
   have h81 := h80
   simp only [List.cons_append, List.nil_append] at h81
   refine op (OpS.mv rfl rfl rfl ?_)
   refine op (OpS.ext rfl rfl rfl rfl ?_)
   refine op (OpS.ext rfl rfl rfl rfl ?_)
   refine op (OpS.alloc h81 ti46 Delivery_.zr rfl rfl (fun u26 w17 h82 => ?_))
   refine op (OpS.storeB (f' := true) h82 .z PA.z Put.id ty46 rfl rfl rfl (V.at .z) (.inl rfl) (fun w18 h83 => ?_))
   refine op (OpS.as rfl rfl rfl ?_)
   refine RunL.nil ?_
   refine Run.slim [(11, .bool y6.2.1), (10, u26), (9, .bool y5.2.1), (8, u22), (7, .int .i64 y4.1), (5, .int .i64 y2.1), (6, .int .i64 y3.1), (1, u1)] ⟨rfl, rfl, rfl, rfl, rfl, rfl, rfl, rfl, trivial⟩ ?_
   refine Run.seq ?_
   refine Run.reg ?_
   refine op (OpS.mv rfl rfl rfl ?_)
   refine op (OpS.bin rfl rfl rfl rfl rfl ?_)
   refine op (OpS.mv rfl rfl rfl ?_)
   refine RunL.caseb hF (fun e9 hF => ?_) (fun e9 hF => ?_)
   ·
    refine op (OpS.mv rfl rfl rfl ?_)
    refine op (OpS.bin rfl rfl rfl rfl rfl ?_)
    refine op (OpS.pick rfl rfl rfl rfl ?_)
    refine op (OpS.mv rfl rfl rfl ?_)
    refine RunL.caseb hF (fun e10 hF => ?_) (fun e10 hF => ?_)
    ·
     refine op (OpS.mv rfl rfl rfl ?_)
     refine op (OpS.bin rfl rfl rfl rfl rfl ?_)
     refine op (OpS.pick rfl rfl rfl rfl ?_)
     refine op (OpS.mv rfl rfl rfl ?_)
     refine RunL.caseb hF (fun e11 hF => ?_) (fun e11 hF => ?_)
     ·
      refine op (OpS.mv rfl rfl rfl ?_)
      refine op (OpS.pick rfl rfl rfl rfl ?_)
      refine op (OpS.mv rfl rfl rfl ?_)
      refine RunL.caseb hF (fun e12 hF => ?_) (fun e12 hF => ?_)
      ·
       refine op (OpS.mv rfl rfl rfl ?_)
       refine op (OpS.pick rfl rfl rfl rfl ?_)
       refine op (OpS.mv rfl rfl rfl ?_)
       refine RunL.caseb hF (fun e13 hF => ?_) (fun e13 hF => ?_)
       ·
        refine op (OpS.fbox (o3 := 0) h83 (.s (.s (.s .z))) PA.z fa46_0 rfl rfl rfl rfl ?_)
        refine op (OpS.loadB h83 (.s (.s (.s .z))) PA.a (Get.fld Delivery_.f0) ty33 rfl rfl rfl (fun u27 h84 => ?_))
        refine op (OpS.len h84 Try.underlying33 rfl rfl rfl (V.at .z) ?_)
        refine op (OpS.bin rfl rfl rfl rfl rfl ?_)
        refine op (OpS.pick rfl rfl rfl rfl ?_)
        refine op (OpS.mv rfl rfl rfl ?_)
        refine RunL.caseb hF (fun e14 hF => ?_) (fun e14 hF => ?_)
        ·
         refine op (OpS.fbox (o3 := 0) h84 (.s (.s (.s .z))) PA.z fa46_0 rfl rfl rfl rfl ?_)
         refine op (OpS.loadB h84 (.s (.s (.s .z))) PA.a (Get.fld Delivery_.f0) ty33 rfl rfl rfl (fun u28 h85 => ?_))
         obtain ⟨x2, e15, hF⟩ := bindP_use hF
         refine op (OpS.iptr h85 Try.underlying33 ty3 rfl rfl rfl rfl (V.at .z) e15 (fun u29 h86 => ?_))
         refine op (OpS.loadi h86 ty3 rfl rfl rfl .z ?_)
         refine op (OpS.bin rfl rfl rfl rfl rfl ?_)
         refine op (OpS.pick rfl rfl rfl rfl ?_)
         refine op (OpS.mv rfl rfl rfl ?_)
         refine RunL.caseb hF (fun e16 hF => ?_) (fun e16 hF => ?_)
         ·
          refine op (OpS.fbox (o3 := 0) h86 .z PA.z fa46_0 rfl rfl rfl rfl ?_)
          refine op (OpS.loadB h86 .z PA.a (Get.fld Delivery_.f0) ty33 rfl rfl rfl (fun u30 h87 => ?_))
          refine op (OpS.len h87 Try.underlying33 rfl rfl rfl (V.at .z) ?_)
          refine op (OpS.bin rfl rfl rfl rfl rfl ?_)
          refine op (OpS.pick rfl rfl rfl rfl ?_)
          refine op (OpS.mv rfl rfl rfl ?_)
          refine RunL.caseb hF (fun e17 hF => ?_) (fun e17 hF => ?_)
          ·
           refine op (OpS.fbox (o3 := 0) h87 .z PA.z fa46_0 rfl rfl rfl rfl ?_)
           refine op (OpS.loadB h87 .z PA.a (Get.fld Delivery_.f0) ty33 rfl rfl rfl (fun u31 h88 => ?_))
           obtain ⟨x3, e18, hF⟩ := bindP_use hF
           refine op (OpS.iptr h88 Try.underlying33 ty3 rfl rfl rfl rfl (V.at .z) e18 (fun u32 h89 => ?_))
           refine op (OpS.loadi h89 ty3 rfl rfl rfl .z ?_)
           refine op (OpS.bin rfl rfl rfl rfl rfl ?_)
           refine op (OpS.pick rfl rfl rfl rfl ?_)
           refine op (OpS.mv rfl rfl rfl ?_)
           refine RunL.caseb hF (fun e19 hF => ?_) (fun e19 hF => ?_)
           ·
            refine op (OpS.fbox (o3 := 2) h89 (.s (.s (.s .z))) PA.z fa46_2 rfl rfl rfl rfl ?_)
            refine op (OpS.loadBb h89 (.s (.s (.s .z))) PA.a (Get.fld Delivery_.f2) ty4 rfl rfl rfl ?_)
            refine op (OpS.pick rfl rfl rfl rfl ?_)
            refine op (OpS.mv rfl rfl rfl ?_)
            refine RunL.caseb hF (fun e20 hF => ?_) (fun e20 hF => ?_)
            ·
             refine op (OpS.fbox (o3 := 2) h89 .z PA.z fa46_2 rfl rfl rfl rfl ?_)
             refine op (OpS.loadBb h89 .z PA.a (Get.fld Delivery_.f2) ty4 rfl rfl rfl ?_)
             refine op (OpS.pick rfl rfl rfl rfl ?_)
             refine op (OpS.mv rfl rfl rfl ?_)
             refine RunL.caseb hF (fun e21 hF => ?_) (fun e21 hF => ?_)
             ·
              refine op (OpS.mv rfl rfl rfl ?_)
              obtain ⟨y7, e22, hF⟩ := bindP_use hF
              have h90 := h89.front (.cons (.s .z) (.cons (.s .z) .nil))
              refine op (OpS.callO h90 Try.func22 rfl rfl rfl rfl (vs := [u1, .int .i64 0]) rfl (bus_Bus_Pending_ok e22) rfl .nil ?_)
              rintro _ w19 _ _ _ ⟨rfl, rfl, rfl, rfl⟩ h91
              have h92 := h91
              simp only [List.cons_append, List.nil_append] at h92
              refine op (OpS.bin rfl rfl rfl rfl rfl ?_)
              refine op (OpS.pick rfl rfl rfl rfl ?_)
              refine op (OpS.as rfl rfl rfl ?_)
              obtain ⟨x4, e23, hF⟩ := letP_use hF
              refine RunL.nameb e23 ?_
              refine RunL.nil ?_
              refine Run.slim [(0, .bool x4)] ⟨rfl, trivial⟩ ?_
              refine Run.retP rfl (.tmp rfl .nil) ?_
              cases hF
              exact Post.mk' ⟨rfl, rfl, rfl, rfl⟩ (h92.picks .nil) .nil
             ·
              refine op (OpS.pass rfl rfl rfl ?_)
              refine op (OpS.pass rfl rfl rfl ?_)
              refine op (OpS.pass rfl rfl rfl ?_)
              refine op (OpS.pick rfl rfl rfl rfl ?_)
              refine op (OpS.as rfl rfl rfl ?_)
              refine RunL.nil ?_
              refine Run.slim [(0, .bool false)] ⟨rfl, trivial⟩ ?_
              refine Run.retP rfl (.tmp rfl .nil) ?_
              cases hF
              exact Post.mk' ⟨rfl, rfl, rfl, rfl⟩ (h89.picks .nil) .nil
            ·
             refine op (OpS.pass rfl rfl rfl ?_)
             refine op (OpS.pass rfl rfl rfl ?_)
             refine op (OpS.pick rfl rfl rfl rfl ?_)
             refine op (OpS.mv rfl rfl rfl ?_)
             refine op (OpS.pass rfl rfl rfl ?_)
             refine op (OpS.pass rfl rfl rfl ?_)
             refine op (OpS.pass rfl rfl rfl ?_)
             refine op (OpS.pick rfl rfl rfl rfl ?_)
             refine op (OpS.as rfl rfl rfl ?_)
             refine RunL.nil ?_
             refine Run.slim [(0, .bool false)] ⟨rfl, trivial⟩ ?_
             refine Run.retP rfl (.tmp rfl .nil) ?_
             cases hF
             exact Post.mk' ⟨rfl, rfl, rfl, rfl⟩ (h89.picks .nil) .nil
           ·
            refine op (OpS.pass rfl rfl rfl ?_)
            refine op (OpS.pass rfl rfl rfl ?_)
            refine op (OpS.pick rfl rfl rfl rfl ?_)
            refine op (OpS.mv rfl rfl rfl ?_)
            refine op (OpS.pass rfl rfl rfl ?_)
            refine op (OpS.pass rfl rfl rfl ?_)
            refine op (OpS.pick rfl rfl rfl rfl ?_)
            refine op (OpS.mv rfl rfl rfl ?_)
            refine op (OpS.pass rfl rfl rfl ?_)
            refine op (OpS.pass rfl rfl rfl ?_)
            refine op (OpS.pass rfl rfl rfl ?_)
            refine op (OpS.pick rfl rfl rfl rfl ?_)
            refine op (OpS.as rfl rfl rfl ?_)
            refine RunL.nil ?_
            refine Run.slim [(0, .bool false)] ⟨rfl, trivial⟩ ?_
            refine Run.retP rfl (.tmp rfl .nil) ?_
            cases hF
            exact Post.mk' ⟨rfl, rfl, rfl, rfl⟩ (h89.picks .nil) .nil
          ·
           refine op (OpS.pass rfl rfl rfl ?_)
           refine op (OpS.pass rfl rfl rfl ?_)
           refine op (OpS.pass rfl rfl rfl ?_)
           refine op (OpS.pass rfl rfl rfl ?_)
           refine op (OpS.pass rfl rfl rfl ?_)
           refine op (OpS.pick rfl rfl rfl rfl ?_)
           refine op (OpS.mv rfl rfl rfl ?_)
           refine op (OpS.pass rfl rfl rfl ?_)
           refine op (OpS.pass rfl rfl rfl ?_)
           refine op (OpS.pick rfl rfl rfl rfl ?_)
           refine op (OpS.mv rfl rfl rfl ?_)
           refine op (OpS.pass rfl rfl rfl ?_)
           refine op (OpS.pass rfl rfl rfl ?_)
           refine op (OpS.pick rfl rfl rfl rfl ?_)
           refine op (OpS.mv rfl rfl rfl ?_)
           refine op (OpS.pass rfl rfl rfl ?_)
           refine op (OpS.pass rfl rfl rfl ?_)
           refine op (OpS.pass rfl rfl rfl ?_)
           refine op (OpS.pick rfl rfl rfl rfl ?_)
           refine op (OpS.as rfl rfl rfl ?_)
           refine RunL.nil ?_
           refine Run.slim [(0, .bool false)] ⟨rfl, trivial⟩ ?_
           refine Run.retP rfl (.tmp rfl .nil) ?_
           cases hF
           exact Post.mk' ⟨rfl, rfl, rfl, rfl⟩ (h87.picks .nil) .nil
         ·
          refine op (OpS.pass rfl rfl rfl ?_)
          refine op (OpS.pass rfl rfl rfl ?_)
          refine op (OpS.pass rfl rfl rfl ?_)
          refine op (OpS.pass rfl rfl rfl ?_)
          refine op (OpS.pick rfl rfl rfl rfl ?_)
          refine op (OpS.mv rfl rfl rfl ?_)
          refine op (OpS.pass rfl rfl rfl ?_)
          refine op (OpS.pass rfl rfl rfl ?_)
          refine op (OpS.pass rfl rfl rfl ?_)
          refine op (OpS.pass rfl rfl rfl ?_)
          refine op (OpS.pass rfl rfl rfl ?_)
          refine op (OpS.pick rfl rfl rfl rfl ?_)
          refine op (OpS.mv rfl rfl rfl ?_)
          refine op (OpS.pass rfl rfl rfl ?_)
          refine op (OpS.pass rfl rfl rfl ?_)
          refine op (OpS.pick rfl rfl rfl rfl ?_)
          refine op (OpS.mv rfl rfl rfl ?_)
          refine op (OpS.pass rfl rfl rfl ?_)
          refine op (OpS.pass rfl rfl rfl ?_)
          refine op (OpS.pick rfl rfl rfl rfl ?_)
          refine op (OpS.mv rfl rfl rfl ?_)
          refine op (OpS.pass rfl rfl rfl ?_)
          refine op (OpS.pass rfl rfl rfl ?_)
          refine op (OpS.pass rfl rfl rfl ?_)
          refine op (OpS.pick rfl rfl rfl rfl ?_)
          refine op (OpS.as rfl rfl rfl ?_)
          refine RunL.nil ?_
          refine Run.slim [(0, .bool false)] ⟨rfl, trivial⟩ ?_
          refine Run.retP rfl (.tmp rfl .nil) ?_
          cases hF
          exact Post.mk' ⟨rfl, rfl, rfl, rfl⟩ (h86.picks .nil) .nil
        ·
         refine op (OpS.pass rfl rfl rfl ?_)
         refine op (OpS.pass rfl rfl rfl ?_)
         refine op (OpS.pass rfl rfl rfl ?_)
         refine op (OpS.pass rfl rfl rfl ?_)
         refine op (OpS.pass rfl rfl rfl ?_)
         refine op (OpS.pick rfl rfl rfl rfl ?_)
         refine op (OpS.mv rfl rfl rfl ?_)
         refine op (OpS.pass rfl rfl rfl ?_)
         refine op (OpS.pass rfl rfl rfl ?_)
         refine op (OpS.pass rfl rfl rfl ?_)
         refine op (OpS.pass rfl rfl rfl ?_)
         refine op (OpS.pick rfl rfl rfl rfl ?_)
         refine op (OpS.mv rfl rfl rfl ?_)
         refine op (OpS.pass rfl rfl rfl ?_)
         refine op (OpS.pass rfl rfl rfl ?_)
         refine op (OpS.pass rfl rfl rfl ?_)
         refine op (OpS.pass rfl rfl rfl ?_)
         refine op (OpS.pass rfl rfl rfl ?_)
         refine op (OpS.pick rfl rfl rfl rfl ?_)
         refine op (OpS.mv rfl rfl rfl ?_)
         refine op (OpS.pass rfl rfl rfl ?_)
         refine op (OpS.pass rfl rfl rfl ?_)
         refine op (OpS.pick rfl rfl rfl rfl ?_)
         refine op (OpS.mv rfl rfl rfl ?_)
         refine op (OpS.pass rfl rfl rfl ?_)
         refine op (OpS.pass rfl rfl rfl ?_)
         refine op (OpS.pick rfl rfl rfl rfl ?_)
         refine op (OpS.mv rfl rfl rfl ?_)
         refine op (OpS.pass rfl rfl rfl ?_)
         refine op (OpS.pass rfl rfl rfl ?_)
         refine op (OpS.pass rfl rfl rfl ?_)
         refine op (OpS.pick rfl rfl rfl rfl ?_)
         refine op (OpS.as rfl rfl rfl ?_)
         refine RunL.nil ?_
         refine Run.slim [(0, .bool false)] ⟨rfl, trivial⟩ ?_
         refine Run.retP rfl (.tmp rfl .nil) ?_
         cases hF
         exact Post.mk' ⟨rfl, rfl, rfl, rfl⟩ (h84.picks .nil) .nil
       ·
        refine op (OpS.pass rfl rfl rfl ?_)
        refine op (OpS.pass rfl rfl rfl ?_)
        refine op (OpS.pass rfl rfl rfl ?_)
        refine op (OpS.pass rfl rfl rfl ?_)
        refine op (OpS.pick rfl rfl rfl rfl ?_)
        refine op (OpS.mv rfl rfl rfl ?_)
        refine op (OpS.pass rfl rfl rfl ?_)
        refine op (OpS.pass rfl rfl rfl ?_)
        refine op (OpS.pass rfl rfl rfl ?_)
        refine op (OpS.pass rfl rfl rfl ?_)
        refine op (OpS.pass rfl rfl rfl ?_)
        refine op (OpS.pick rfl rfl rfl rfl ?_)
        refine op (OpS.mv rfl rfl rfl ?_)
        refine op (OpS.pass rfl rfl rfl ?_)
        refine op (OpS.pass rfl rfl rfl ?_)
        refine op (OpS.pass rfl rfl rfl ?_)
        refine op (OpS.pass rfl rfl rfl ?_)
        refine op (OpS.pick rfl rfl rfl rfl ?_)
        refine op (OpS.mv rfl rfl rfl ?_)
        refine op (OpS.pass rfl rfl rfl ?_)
        refine op (OpS.pass rfl rfl rfl ?_)
        refine op (OpS.pass rfl rfl rfl ?_)
        refine op (OpS.pass rfl rfl rfl ?_)
        refine op (OpS.pass rfl rfl rfl ?_)
        refine op (OpS.pick rfl rfl rfl rfl ?_)
        refine op (OpS.mv rfl rfl rfl ?_)
        refine op (OpS.pass rfl rfl rfl ?_)
        refine op (OpS.pass rfl rfl rfl ?_)
        refine op (OpS.pick rfl rfl rfl rfl ?_)
        refine op (OpS.mv rfl rfl rfl ?_)
        refine op (OpS.pass rfl rfl rfl ?_)
        refine op (OpS.pass rfl rfl rfl ?_)
        refine op (OpS.pick rfl rfl rfl rfl ?_)
        refine op (OpS.mv rfl rfl rfl ?_)
        refine op (OpS.pass rfl rfl rfl ?_)
        refine op (OpS.pass rfl rfl rfl ?_)
        refine op (OpS.pass rfl rfl rfl ?_)
        refine op (OpS.pick rfl rfl rfl rfl ?_)
        refine op (OpS.as rfl rfl rfl ?_)
        refine RunL.nil ?_
        refine Run.slim [(0, .bool false)] ⟨rfl, trivial⟩ ?_
        refine Run.retP rfl (.tmp rfl .nil) ?_
        cases hF
        exact Post.mk' ⟨rfl, rfl, rfl, rfl⟩ (h83.picks .nil) .nil
      ·
       refine op (OpS.pass rfl rfl rfl ?_)
       refine op (OpS.pick rfl rfl rfl rfl ?_)
       refine op (OpS.mv rfl rfl rfl ?_)
       refine op (OpS.pass rfl rfl rfl ?_)
       refine op (OpS.pass rfl rfl rfl ?_)
       refine op (OpS.pass rfl rfl rfl ?_)
       refine op (OpS.pass rfl rfl rfl ?_)
       refine op (OpS.pick rfl rfl rfl rfl ?_)
       refine op (OpS.mv rfl rfl rfl ?_)
       refine op (OpS.pass rfl rfl rfl ?_)
       refine op (OpS.pass rfl rfl rfl ?_)
       refine op (OpS.pass rfl rfl rfl ?_)
       refine op (OpS.pass rfl rfl rfl ?_)
       refine op (OpS.pass rfl rfl rfl ?_)
       refine op (OpS.pick rfl rfl rfl rfl ?_)
       refine op (OpS.mv rfl rfl rfl ?_)
       refine op (OpS.pass rfl rfl rfl ?_)
       refine op (OpS.pass rfl rfl rfl ?_)
       refine op (OpS.pass rfl rfl rfl ?_)
       refine op (OpS.pass rfl rfl rfl ?_)
       refine op (OpS.pick rfl rfl rfl rfl ?_)
       refine op (OpS.mv rfl rfl rfl ?_)
       refine op (OpS.pass rfl rfl rfl ?_)
       refine op (OpS.pass rfl rfl rfl ?_)
       refine op (OpS.pass rfl rfl rfl ?_)
       refine op (OpS.pass rfl rfl rfl ?_)
       refine op (OpS.pass rfl rfl rfl ?_)
       refine op (OpS.pick rfl rfl rfl rfl ?_)
       refine op (OpS.mv rfl rfl rfl ?_)
       refine op (OpS.pass rfl rfl rfl ?_)
       refine op (OpS.pass rfl rfl rfl ?_)
       refine op (OpS.pick rfl rfl rfl rfl ?_)
       refine op (OpS.mv rfl rfl rfl ?_)
       refine op (OpS.pass rfl rfl rfl ?_)
       refine op (OpS.pass rfl rfl rfl ?_)
       refine op (OpS.pick rfl rfl rfl rfl ?_)
       refine op (OpS.mv rfl rfl rfl ?_)
       refine op (OpS.pass rfl rfl rfl ?_)
       refine op (OpS.pass rfl rfl rfl ?_)
       refine op (OpS.pass rfl rfl rfl ?_)
       refine op (OpS.pick rfl rfl rfl rfl ?_)
       refine op (OpS.as rfl rfl rfl ?_)
       refine RunL.nil ?_
       refine Run.slim [(0, .bool false)] ⟨rfl, trivial⟩ ?_
       refine Run.retP rfl (.tmp rfl .nil) ?_
       cases hF
       exact Post.mk' ⟨rfl, rfl, rfl, rfl⟩ (h83.picks .nil) .nil
     ·
      refine op (OpS.pass rfl rfl rfl ?_)
      refine op (OpS.pick rfl rfl rfl rfl ?_)
      refine op (OpS.mv rfl rfl rfl ?_)
      refine op (OpS.pass rfl rfl rfl ?_)
      refine op (OpS.pick rfl rfl rfl rfl ?_)
      refine op (OpS.mv rfl rfl rfl ?_)
      refine op (OpS.pass rfl rfl rfl ?_)
      refine op (OpS.pass rfl rfl rfl ?_)
      refine op (OpS.pass rfl rfl rfl ?_)
      refine op (OpS.pass rfl rfl rfl ?_)
      refine op (OpS.pick rfl rfl rfl rfl ?_)
      refine op (OpS.mv rfl rfl rfl ?_)
      refine op (OpS.pass rfl rfl rfl ?_)
      refine op (OpS.pass rfl rfl rfl ?_)
      refine op (OpS.pass rfl rfl rfl ?_)
      refine op (OpS.pass rfl rfl rfl ?_)
      refine op (OpS.pass rfl rfl rfl ?_)
      refine op (OpS.pick rfl rfl rfl rfl ?_)
      refine op (OpS.mv rfl rfl rfl ?_)
      refine op (OpS.pass rfl rfl rfl ?_)
      refine op (OpS.pass rfl rfl rfl ?_)
      refine op (OpS.pass rfl rfl rfl ?_)
      refine op (OpS.pass rfl rfl rfl ?_)
      refine op (OpS.pick rfl rfl rfl rfl ?_)
      refine op (OpS.mv rfl rfl rfl ?_)
      refine op (OpS.pass rfl rfl rfl ?_)
      refine op (OpS.pass rfl rfl rfl ?_)
      refine op (OpS.pass rfl rfl rfl ?_)
      refine op (OpS.pass rfl rfl rfl ?_)
      refine op (OpS.pass rfl rfl rfl ?_)
      refine op (OpS.pick rfl rfl rfl rfl ?_)
      refine op (OpS.mv rfl rfl rfl ?_)
      refine op (OpS.pass rfl rfl rfl ?_)
      refine op (OpS.pass rfl rfl rfl ?_)
      refine op (OpS.pick rfl rfl rfl rfl ?_)
      refine op (OpS.mv rfl rfl rfl ?_)
      refine op (OpS.pass rfl rfl rfl ?_)
      refine op (OpS.pass rfl rfl rfl ?_)
      refine op (OpS.pick rfl rfl rfl rfl ?_)
      refine op (OpS.mv rfl rfl rfl ?_)
      refine op (OpS.pass rfl rfl rfl ?_)
      refine op (OpS.pass rfl rfl rfl ?_)
      refine op (OpS.pass rfl rfl rfl ?_)
      refine op (OpS.pick rfl rfl rfl rfl ?_)
      refine op (OpS.as rfl rfl rfl ?_)
      refine RunL.nil ?_
      refine Run.slim [(0, .bool false)] ⟨rfl, trivial⟩ ?_
      refine Run.retP rfl (.tmp rfl .nil) ?_
      cases hF
      exact Post.mk' ⟨rfl, rfl, rfl, rfl⟩ (h83.picks .nil) .nil
    ·
     refine op (OpS.pass rfl rfl rfl ?_)
     refine op (OpS.pass rfl rfl rfl ?_)
     refine op (OpS.pick rfl rfl rfl rfl ?_)
     refine op (OpS.mv rfl rfl rfl ?_)
     refine op (OpS.pass rfl rfl rfl ?_)
     refine op (OpS.pick rfl rfl rfl rfl ?_)
     refine op (OpS.mv rfl rfl rfl ?_)
     refine op (OpS.pass rfl rfl rfl ?_)
     refine op (OpS.pick rfl rfl rfl rfl ?_)
     refine op (OpS.mv rfl rfl rfl ?_)
     refine op (OpS.pass rfl rfl rfl ?_)
     refine op (OpS.pass rfl rfl rfl ?_)
     refine op (OpS.pass rfl rfl rfl ?_)
     refine op (OpS.pass rfl rfl rfl ?_)
     refine op (OpS.pick rfl rfl rfl rfl ?_)
     refine op (OpS.mv rfl rfl rfl ?_)
     refine op (OpS.pass rfl rfl rfl ?_)
     refine op (OpS.pass rfl rfl rfl ?_)
     refine op (OpS.pass rfl rfl rfl ?_)
     refine op (OpS.pass rfl rfl rfl ?_)
     refine op (OpS.pass rfl rfl rfl ?_)
     refine op (OpS.pick rfl rfl rfl rfl ?_)
     refine op (OpS.mv rfl rfl rfl ?_)
     refine op (OpS.pass rfl rfl rfl ?_)
     refine op (OpS.pass rfl rfl rfl ?_)
     refine op (OpS.pass rfl rfl rfl ?_)
     refine op (OpS.pass rfl rfl rfl ?_)
     refine op (OpS.pick rfl rfl rfl rfl ?_)
     refine op (OpS.mv rfl rfl rfl ?_)
     refine op (OpS.pass rfl rfl rfl ?_)
     refine op (OpS.pass rfl rfl rfl ?_)
     refine op (OpS.pass rfl rfl rfl ?_)
     refine op (OpS.pass rfl rfl rfl ?_)
     refine op (OpS.pass rfl rfl rfl ?_)
     refine op (OpS.pick rfl rfl rfl rfl ?_)
     refine op (OpS.mv rfl rfl rfl ?_)
     refine op (OpS.pass rfl rfl rfl ?_)
     refine op (OpS.pass rfl rfl rfl ?_)
     refine op (OpS.pick rfl rfl rfl rfl ?_)
     refine op (OpS.mv rfl rfl rfl ?_)
     refine op (OpS.pass rfl rfl rfl ?_)
     refine op (OpS.pass rfl rfl rfl ?_)
     refine op (OpS.pick rfl rfl rfl rfl ?_)
     refine op (OpS.mv rfl rfl rfl ?_)
     refine op (OpS.pass rfl rfl rfl ?_)
     refine op (OpS.pass rfl rfl rfl ?_)
     refine op (OpS.pass rfl rfl rfl ?_)
     refine op (OpS.pick rfl rfl rfl rfl ?_)
     refine op (OpS.as rfl rfl rfl ?_)
     refine RunL.nil ?_
     refine Run.slim [(0, .bool false)] ⟨rfl, trivial⟩ ?_
     refine Run.retP rfl (.tmp rfl .nil) ?_
     cases hF
     exact Post.mk' ⟨rfl, rfl, rfl, rfl⟩ (h83.picks .nil) .nil
   ·
    refine op (OpS.pass rfl rfl rfl ?_)
    refine op (OpS.pass rfl rfl rfl ?_)
    refine op (OpS.pick rfl rfl rfl rfl ?_)
    refine op (OpS.mv rfl rfl rfl ?_)
    refine op (OpS.pass rfl rfl rfl ?_)
    refine op (OpS.pass rfl rfl rfl ?_)
    refine op (OpS.pick rfl rfl rfl rfl ?_)
    refine op (OpS.mv rfl rfl rfl ?_)
    refine op (OpS.pass rfl rfl rfl ?_)
    refine op (OpS.pick rfl rfl rfl rfl ?_)
    refine op (OpS.mv rfl rfl rfl ?_)
    refine op (OpS.pass rfl rfl rfl ?_)
    refine op (OpS.pick rfl rfl rfl rfl ?_)
    refine op (OpS.mv rfl rfl rfl ?_)
    refine op (OpS.pass rfl rfl rfl ?_)
    refine op (OpS.pass rfl rfl rfl ?_)
    refine op (OpS.pass rfl rfl rfl ?_)
    refine op (OpS.pass rfl rfl rfl ?_)
    refine op (OpS.pick rfl rfl rfl rfl ?_)
    refine op (OpS.mv rfl rfl rfl ?_)
    refine op (OpS.pass rfl rfl rfl ?_)
    refine op (OpS.pass rfl rfl rfl ?_)
    refine op (OpS.pass rfl rfl rfl ?_)
    refine op (OpS.pass rfl rfl rfl ?_)
    refine op (OpS.pass rfl rfl rfl ?_)
    refine op (OpS.pick rfl rfl rfl rfl ?_)
    refine op (OpS.mv rfl rfl rfl ?_)
    refine op (OpS.pass rfl rfl rfl ?_)
    refine op (OpS.pass rfl rfl rfl ?_)
    refine op (OpS.pass rfl rfl rfl ?_)
    refine op (OpS.pass rfl rfl rfl ?_)
    refine op (OpS.pick rfl rfl rfl rfl ?_)
    refine op (OpS.mv rfl rfl rfl ?_)
    refine op (OpS.pass rfl rfl rfl ?_)
    refine op (OpS.pass rfl rfl rfl ?_)
    refine op (OpS.pass rfl rfl rfl ?_)
    refine op (OpS.pass rfl rfl rfl ?_)
    refine op (OpS.pass rfl rfl rfl ?_)
    refine op (OpS.pick rfl rfl rfl rfl ?_)
    refine op (OpS.mv rfl rfl rfl ?_)
    refine op (OpS.pass rfl rfl rfl ?_)
    refine op (OpS.pass rfl rfl rfl ?_)
    refine op (OpS.pick rfl rfl rfl rfl ?_)
    refine op (OpS.mv rfl rfl rfl ?_)
    refine op (OpS.pass rfl rfl rfl ?_)
    refine op (OpS.pass rfl rfl rfl ?_)
    refine op (OpS.pick rfl rfl rfl rfl ?_)
    refine op (OpS.mv rfl rfl rfl ?_)
    refine op (OpS.pass rfl rfl rfl ?_)
    refine op (OpS.pass rfl rfl rfl ?_)
    refine op (OpS.pass rfl rfl rfl ?_)
    refine op (OpS.pick rfl rfl rfl rfl ?_)
    refine op (OpS.as rfl rfl rfl ?_)
    refine RunL.nil ?_
    refine Run.slim [(0, .bool false)] ⟨rfl, trivial⟩ ?_
    refine Run.retP rfl (.tmp rfl .nil) ?_
    cases hF
    exact Post.mk' ⟨rfl, rfl, rfl, rfl⟩ (h83.picks .nil) .nil
 ·
  refine RunL.caseb hF (fun e24 hF => ?_) (fun e24 hF => ?_)
  ·
   refine op (OpS.pass rfl rfl rfl ?_)
   refine op (OpS.pass rfl rfl rfl ?_)
   refine op (OpS.pick rfl rfl rfl rfl ?_)
   refine RunL.nil ?_
   refine Run.slim [(21, .bool true), (1, u1)] ⟨rfl, rfl, trivial⟩ ?_
   refine Run.slim [(1, u1), (21, .bool true)] ⟨rfl, rfl, trivial⟩ ?_
   exact hj1 (true) _ _ ⟨rfl, (h2.facts .nil).picks (.cons .z .nil)⟩ hF
  ·
   refine op (OpS.mv rfl rfl rfl ?_)
   refine op (OpS.bin rfl rfl rfl rfl rfl ?_)
   refine op (OpS.pick rfl rfl rfl rfl ?_)
   refine RunL.nil ?_
   refine Run.slim [(21, .bool (y1.2 != 0)), (1, u1)] ⟨rfl, rfl, trivial⟩ ?_
   refine Run.slim [(1, u1), (21, .bool (y1.2 != 0))] ⟨rfl, rfl, trivial⟩ ?_
   exact hj1 (y1.2 != 0) _ _ ⟨rfl, (h2.facts .nil).picks (.cons .z .nil)⟩ hF
theorem made_Mod_ok {fuel : Nat} {a0 : Int} {a1 : Int} {y : Int} (hF : made_Mod fuel a0 a1 = some y) {w : World} :
  Spec Try.prog 13 [.int .i64 a0, .int .i64 a1].toArray w [] [] (fun v Γr Ωr Ωo => v = .int .i64 y ∧ Γr = [] ∧ Ωr = [] ∧ Ωo = []) := by
 refine Spec.of (L := [(0, .int .i64 a0), (1, .int .i64 a1)]) Try.func13 rfl ⟨rfl, rfl, trivial⟩ rfl (fun e h => ?_)
 unfold made_Mod at hF
 refine Run.seq ?_
 refine Run.reg ?_
 refine op (OpS.as rfl rfl rfl ?_)
 refine RunL.nil ?_
 refine Run.slim [(0, .int .i64 a0), (1, .int .i64 a1)] ⟨rfl, rfl, trivial⟩ ?_
 refine Run.seq ?_
 refine Run.reg ?_
 refine op (OpS.mv rfl rfl rfl ?_)
 refine op (OpS.mv rfl rfl rfl ?_)
 obtain ⟨e1, hF⟩ := chk_use hF
 refine op (OpS.rem rfl rfl rfl rfl e1 ?_)
 refine op (OpS.as rfl rfl rfl ?_)
 refine RunL.nil ?_
 refine Run.slim [(0, .int .i64 (Int.tmod a0 a1)), (1, .int .i64 a1)] ⟨rfl, rfl, trivial⟩ ?_
 refine Run.seq ?_
 refine Run.seq ?_
 refine Run.reg ?_
 refine op (OpS.mv rfl rfl rfl ?_)
 refine op (OpS.bin rfl rfl rfl rfl rfl ?_)
 refine RunL.nil ?_
 refine Run.slim [(9, .bool (decide ((Int.tmod a0 a1) < 0))), (0, .int .i64 (Int.tmod a0 a1)), (1, .int .i64 a1)] ⟨rfl, rfl, rfl, trivial⟩ ?_
 refine Run.ite rfl hF (fun e2 hF => ?_) (fun e2 hF => ?_)
 ·
  refine Run.reg ?_
  refine op (OpS.mv rfl rfl rfl ?_)
  refine op (OpS.mv rfl rfl rfl ?_)
  refine op (OpS.bin rfl rfl rfl rfl rfl ?_)
  refine op (OpS.as rfl rfl rfl ?_)
  obtain ⟨x1, e3, hF⟩ := letP_use hF
  refine RunL.name e3 ?_
  refine RunL.nil ?_
  refine Run.slim [(0, .int .i64 x1)] ⟨rfl, trivial⟩ ?_
  refine Run.seq ?_
  refine Run.reg ?_
  refine op (OpS.mv rfl rfl rfl ?_)
  refine op (OpS.as rfl rfl rfl ?_)
  refine RunL.nil ?_
  refine Run.slim [(4, .int .i64 x1)] ⟨rfl, trivial⟩ ?_
  refine Run.retP rfl (.tmp rfl .nil) ?_
  cases hF
  exact Post.mk' ⟨rfl, rfl, rfl, rfl⟩ (h.picks .nil) .nil
 ·
  refine Run.skip ?_
  refine Run.seq ?_
  refine Run.reg ?_
  refine op (OpS.mv rfl rfl rfl ?_)
  refine op (OpS.as rfl rfl rfl ?_)
  refine RunL.nil ?_
  refine Run.slim [(4, .int .i64 (Int.tmod a0 a1))] ⟨rfl, trivial⟩ ?_
  refine Run.retP rfl (.tmp rfl .nil) ?_
  cases hF
  exact Post.mk' ⟨rfl, rfl, rfl, rfl⟩ (h.picks .nil) .nil
theorem made_Roll_ok {fuel : Nat} {a0 : List Int} {y : made_Dice} (hF : made_Roll fuel a0 = some y) {w : World} {v0 : Value} :
  Spec Try.prog 14 [v0].toArray w [(false, .val (Rep.slice (Rep.int .i64)) v0 a0)] [] (fun v Γr Ωr Ωo => ∃ u0 : Value, v = u0 ∧ Γr = [] ∧ Ωr = [(false, .box 81 made_Dice.rep u0 y)] ∧ Ωo = []) := by
 refine Spec.of (L := [(0, v0)]) Try.func14 rfl ⟨rfl, trivial⟩ rfl (fun e h => ?_)
 unfold made_Roll at hF
 refine Run.seq ?_
 refine Run.reg ?_
 refine op (OpS.as rfl rfl rfl ?_)
 refine RunL.nil ?_
 refine Run.slim [(0, v0)] ⟨rfl, trivial⟩ ?_
 refine Run.seq ?_
 refine Run.reg ?_
 refine op (OpS.mv rfl rfl rfl ?_)
 refine op (OpS.build (f := false) (x' := (⟨a0, 0⟩ : made_Dice)) h pl81 ti81 made_Dice.zr rfl rfl rfl (.cons rfl made_Dice.f0 rfl (V.at .z) .nil) (fun u1 h1 => ?_))
 refine op (OpS.boxF h1 rfl rfl rfl (V.at .z) (fun u2 w1 h2 => ?_))
 refine op (OpS.as rfl rfl rfl ?_)
 refine RunL.nil ?_
 refine Run.slim [(2, u2)] ⟨rfl, trivial⟩ ?_
 refine Run.retP rfl (.tmp rfl .nil) ?_
 cases hF
 exact Post.mk' ⟨u2, rfl, rfl, rfl, rfl⟩ (h2.picks (.cons .z .nil)) .nil
theorem made_Dice_Next_ok {fuel : Nat} {a0 : made_Dice} {a1 : Int} {y : Int × made_Dice} (hF : made_Dice_Next fuel a0 a1 = some y) {w : World} {v0 : Value} :
  Spec Try.prog 32 [v0, .int .i64 a1].toArray w [] [(false, .box 81 made_Dice.rep v0 a0)] (fun v Γr Ωr Ωo => v = .int .i64 y.1 ∧ Γr = [] ∧ Ωr = [] ∧ Ωo = [(false, .box 81 made_Dice.rep v0 y.2)]) := by
 refine Spec.of (L := [(0, v0), (1, .int .i64 a1)]) Try.func32 rfl ⟨rfl, rfl, trivial⟩ rfl (fun e h => ?_)
 unfold made_Dice_Next at hF
 refine Run.seq ?_
 refine Run.reg ?_
 refine op (OpS.as rfl rfl rfl ?_)
 refine RunL.nil ?_
 refine Run.slim [(0, v0), (1, .int .i64 a1)] ⟨rfl, rfl, trivial⟩ ?_
 refine Run.seq ?_
 refine Run.seq ?_
 refine Run.drawV (Ωs := []) [⟨some 5, some (v0), fun _ => [], fun ds_ u_ => [], [], [], none⟩, ⟨some 6, some (v0), fun _ => [], fun ds_ u_ => [], [], [(0, [])], none⟩, ⟨some 7, some ((padd v0 1)), fun _ => [], fun ds_ u_ => [], [], [(0, [])], none⟩, ⟨some 8, some (.int .i64 a0.At), fun _ => [], fun ds_ u_ => [], [], [(0, [])], none⟩, ⟨some 9, some (v0), fun _ => [], fun ds_ u_ => [], [], [], none⟩, ⟨some 10, some (v0), fun _ => [], fun ds_ u_ => [], [], [(0, [])], none⟩, ⟨some 11, some ((padd v0 0)), fun _ => [], fun ds_ u_ => [], [], [(0, [])], none⟩, ⟨some 12, none, fun u_ => [(false, .val (Rep.slice (Rep.int .i64)) u_ a0.L)], fun ds_ u_ => [], [], [(0, [])], none⟩, ⟨some 13, some (.int .i64 (a0.L.length : Int)), fun _ => [], fun ds_ u_ => [], [], [], none⟩, ⟨some 14, some (.bool (decide (a0.At ≥ (a0.L.length : Int)))), fun _ => [], fun ds_ u_ => [], [], [], none⟩] [[], [0], [1], [2], [], [4], [5], [6], [7], [3, 8]] [[(false, .box 81 made_Dice.rep v0 a0)]] [0, 1, 2, 3, 4, 5, 6, 7, 8, 9, 10] Try_mixed rfl rfl rfl h (.cons ?_ (.cons ?_ (.cons ?_ (.cons ?_ (.cons ?_ (.cons ?_ (.cons ?_ (.cons ?_ (.cons ?_ (.cons ?_ .nil)))))))))) (fun q1 w hq1 h => ?_)
 ·intro q1 w Γx Ωx h
  refine OpS.mv rfl rfl rfl ?_
  exact ⟨undef, rfl, trivial, h⟩
 ·intro q1 w Γx Ωx h
  have h : St e w ([] ++ Γx) ([(false, .box 81 made_Dice.rep v0 a0)] ++ Ωx) := h
  refine OpS.nchk h .z rfl rfl rfl ?_
  exact ⟨undef, rfl, trivial, h⟩
 ·intro q1 w Γx Ωx h
  have h : St e w ([] ++ Γx) ([(false, .box 81 made_Dice.rep v0 a0)] ++ Ωx) := h
  refine OpS.fbox (o3 := 1) h .z PA.z fa81_1 rfl rfl rfl rfl ?_
  exact ⟨undef, rfl, trivial, h⟩
 ·intro q1 w Γx Ωx h
  have h : St e w ([] ++ Γx) ([(false, .box 81 made_Dice.rep v0 a0)] ++ Ωx) := h
  refine OpS.loadBi h .z PA.a (Get.fld made_Dice.f1) ty3 rfl rfl rfl ?_
  exact ⟨undef, rfl, trivial, h⟩
 ·intro q1 w Γx Ωx h
  refine OpS.mv rfl rfl rfl ?_
  exact ⟨undef, rfl, trivial, h⟩
 ·intro q1 w Γx Ωx h
  have h : St e w ([] ++ Γx) ([(false, .box 81 made_Dice.rep v0 a0)] ++ Ωx) := h
  refine OpS.nchk h .z rfl rfl rfl ?_
  exact ⟨undef, rfl, trivial, h⟩
 ·intro q1 w Γx Ωx h
  have h : St e w ([] ++ Γx) ([(false, .box 81 made_Dice.rep v0 a0)] ++ Ωx) := h
  refine OpS.fbox (o3 := 0) h .z PA.z fa81_0 rfl rfl rfl rfl ?_
  exact ⟨undef, rfl, trivial, h⟩
 ·intro q1 w Γx Ωx h
  have h : St e w ([] ++ Γx) ([(false, .box 81 made_Dice.rep v0 a0)] ++ Ωx) := h
  refine OpS.loadB h .z PA.a (Get.fld made_Dice.f0) ty33 rfl rfl rfl (fun u h2 => ?_)
  exact ⟨u, rfl, trivial, h2⟩
 ·intro q1 w Γx Ωx h
  refine OpS.len h Try.underlying33 rfl rfl rfl (V.at .z) ?_
  exact ⟨undef, rfl, trivial, h⟩
 ·intro q1 w Γx Ωx h
  refine OpS.bin rfl rfl rfl rfl rfl ?_
  exact ⟨undef, rfl, trivial, h⟩
 have h3 : St e w [(false, .val (Rep.slice (Rep.int .i64)) (q1 7) a0.L)] [(false, .box 81 made_Dice.rep v0 a0)] := h
 refine RunL.nil ?_
 refine Run.slim [(14, .bool (decide (a0.At ≥ (a0.L.length : Int)))), (0, v0), (1, .int .i64 a1)] ⟨rfl, rfl, rfl, trivial⟩ ?_
 refine Run.ite rfl hF (fun e1 hF => ?_) (fun e1 hF => ?_)
 ·
  refine Run.seq ?_
  refine Run.reg ?_
  refine op (OpS.as rfl rfl rfl ?_)
  refine RunL.nil ?_
  refine Run.slim [(4, .int .i64 0)] ⟨rfl, trivial⟩ ?_
  refine Run.retP rfl (.tmp rfl .nil) ?_
  cases hF
  exact Post.mk' ⟨rfl, rfl, rfl, rfl⟩ (h3.picks (.cons .z .nil)) .nil
 ·
  refine Run.skip ?_
  refine Run.seq ?_
  refine Run.reg ?_
  refine op (OpS.mv rfl rfl rfl ?_)
  refine op (OpS.nchk h3 .z rfl rfl rfl ?_)
  refine op (OpS.fbox (o3 := 1) h3 .z PA.z fa81_1 rfl rfl rfl rfl ?_)
  refine op (OpS.loadBi h3 .z PA.a (Get.fld made_Dice.f1) ty3 rfl rfl rfl ?_)
  refine op (OpS.bin rfl rfl rfl rfl rfl ?_)
  refine op (OpS.nchk h3 .z rfl rfl rfl ?_)
  refine op (OpS.fbox (o3 := 1) h3 .z PA.z fa81_1 rfl rfl rfl rfl ?_)
  obtain ⟨d1, e2, hF⟩ := letP_use hF
  refine op (OpS.storeB (f' := true) h3 .z PA.a (Put.of (Put.fld made_Dice.f1) e2) ty3 rfl rfl rfl V.int (.inr rfl) (fun w1 h4 => ?_))
  refine RunL.nil ?_
  refine Run.slim [(0, v0), (1, .int .i64 a1)] ⟨rfl, rfl, trivial⟩ ?_
  refine Run.seq ?_
  obtain ⟨x1, e3, hF⟩ := bindP_use hF
  obtain ⟨y1, e4, hF⟩ := bindP_use hF
  refine Run.drawV (Ωs := []) [⟨some 22, some (v0), fun _ => [], fun ds_ u_ => [], [], [], none⟩, ⟨some 23, some (v0), fun _ => [], fun ds_ u_ => [], [], [(0, [])], none⟩, ⟨some 24, some ((padd v0 0)), fun _ => [], fun ds_ u_ => [], [], [(0, [])], none⟩, ⟨some 25, none, fun u_ => [(false, .val (Rep.slice (Rep.int .i64)) u_ d1.L)], fun ds_ u_ => [], [], [(0, [])], none⟩, ⟨some 26, some (v0), fun _ => [], fun ds_ u_ => [], [], [], none⟩, ⟨some 27, some (v0), fun _ => [], fun ds_ u_ => [], [], [(0, [])], none⟩, ⟨some 28, some ((padd v0 1)), fun _ => [], fun ds_ u_ => [], [], [(0, [])], none⟩, ⟨some 29, some (.int .i64 d1.At), fun _ => [], fun ds_ u_ => [], [], [(0, [])], none⟩, ⟨some 30, some (.int .i64 (IntKind.i64.wrap (d1.At - 1))), fun _ => [], fun ds_ u_ => [], [], [], none⟩, ⟨some 31, none, fun u_ => [(false, .ptr (Rep.int .i64) u_ x1)], fun ds_ u_ => [], [], [], none⟩, ⟨some 32, some (.int .i64 x1), fun _ => [], fun ds_ u_ => [], [], [], none⟩, ⟨some 33, some (.int .i64 a1), fun _ => [], fun ds_ u_ => [], [], [], none⟩, ⟨some 34, some (.int .i64 y1), fun _ => [], fun ds_ u_ => [], [], [], none⟩] [[], [0], [1], [2], [], [4], [5], [6], [7], [3, 8], [9], [], [10, 11]] [[(false, .box 81 made_Dice.rep v0 d1)]] [0, 1, 2, 3, 4, 5, 6, 7, 8, 9, 10, 11, 12, 13] Try_mixed rfl rfl rfl h4 (.cons ?_ (.cons ?_ (.cons ?_ (.cons ?_ (.cons ?_ (.cons ?_ (.cons ?_ (.cons ?_ (.cons ?_ (.cons ?_ (.cons ?_ (.cons ?_ (.cons ?_ .nil))))))))))))) (fun q2 w hq2 h => ?_)
  ·intro q2 w Γx Ωx h
   refine OpS.mv rfl rfl rfl ?_
   exact ⟨undef, rfl, trivial, h⟩
  ·intro q2 w Γx Ωx h
   have h : St e w ([(false, .val (Rep.slice (Rep.int .i64)) (q1 7) a0.L)] ++ Γx) ([(false, .box 81 made_Dice.rep v0 d1)] ++ Ωx) := h
   refine OpS.nchk h .z rfl rfl rfl ?_
   exact ⟨undef, rfl, trivial, h⟩
  ·intro q2 w Γx Ωx h
   have h : St e w ([(false, .val (Rep.slice (Rep.int .i64)) (q1 7) a0.L)] ++ Γx) ([(false, .box 81 made_Dice.rep v0 d1)] ++ Ωx) := h
   refine OpS.fbox (o3 := 0) h .z PA.z fa81_0 rfl rfl rfl rfl ?_
   exact ⟨undef, rfl, trivial, h⟩
  ·intro q2 w Γx Ωx h
   have h : St e w ([(false, .val (Rep.slice (Rep.int .i64)) (q1 7) a0.L)] ++ Γx) ([(false, .box 81 made_Dice.rep v0 d1)] ++ Ωx) := h
   refine OpS.loadB h .z PA.a (Get.fld made_Dice.f0) ty33 rfl rfl rfl (fun u h9 => ?_)
   exact ⟨u, rfl, trivial, h9⟩
  ·intro q2 w Γx Ωx h
   refine OpS.mv rfl rfl rfl ?_
   exact ⟨undef, rfl, trivial, h⟩
  ·intro q2 w Γx Ωx h
   have h : St e w ([(false, .val (Rep.slice (Rep.int .i64)) (q1 7) a0.L)] ++ Γx) ([(false, .box 81 made_Dice.rep v0 d1)] ++ Ωx) := h
   refine OpS.nchk h .z rfl rfl rfl ?_
   exact ⟨undef, rfl, trivial, h⟩
  ·intro q2 w Γx Ωx h
   have h : St e w ([(false, .val (Rep.slice (Rep.int .i64)) (q1 7) a0.L)] ++ Γx) ([(false, .box 81 made_Dice.rep v0 d1)] ++ Ωx) := h
   refine OpS.fbox (o3 := 1) h .z PA.z fa81_1 rfl rfl rfl rfl ?_
   exact ⟨undef, rfl, trivial, h⟩
  ·intro q2 w Γx Ωx h
   have h : St e w ([(false, .val (Rep.slice (Rep.int .i64)) (q1 7) a0.L)] ++ Γx) ([(false, .box 81 made_Dice.rep v0 d1)] ++ Ωx) := h
   refine OpS.loadBi h .z PA.a (Get.fld made_Dice.f1) ty3 rfl rfl rfl ?_
   exact ⟨undef, rfl, trivial, h⟩
  ·intro q2 w Γx Ωx h
   refine OpS.bin rfl rfl rfl rfl rfl ?_
   exact ⟨undef, rfl, trivial, h⟩
  ·intro q2 w Γx Ωx h
   refine OpS.iptr h Try.underlying33 ty3 rfl rfl rfl rfl (V.at .z) e3 (fun u h10 => ?_)
   exact ⟨u, rfl, trivial, h10⟩
  ·intro q2 w Γx Ωx h
   refine OpS.loadi h ty3 rfl rfl rfl .z ?_
   exact ⟨undef, rfl, trivial, h⟩
  ·intro q2 w Γx Ωx h
   refine OpS.mv rfl rfl rfl ?_
   exact ⟨undef, rfl, trivial, h⟩
  ·intro q2 w Γx Ωx h
   refine OpS.callP h Try.func13 rfl rfl rfl rfl (vs := [.int .i64 x1, .int .i64 a1]) rfl (made_Mod_ok e4) .nil ?_
   rintro _ w3 _ _ _ ⟨rfl, rfl, rfl, rfl⟩ h11
   have h12 := h11 rfl rfl
   simp only [List.cons_append, List.nil_append] at h12
   exact ⟨undef, rfl, trivial, h12⟩
  have h13 : St e w [(false, .val (Rep.slice (Rep.int .i64)) (q2 3) d1.L), (false, .ptr (Rep.int .i64) (q2 9) x1), (false, .val (Rep.slice (Rep.int .i64)) (q1 7) a0.L)] [(false, .box 81 made_Dice.rep v0 d1)] := h
  refine op (OpS.as rfl rfl rfl ?_)
  refine RunL.nil ?_
  refine Run.slim [(4, .int .i64 y1)] ⟨rfl, trivial⟩ ?_
  refine Run.retP rfl (.tmp rfl .nil) ?_
  cases hF
  exact Post.mk' ⟨rfl, rfl, rfl, rfl⟩ (h13.picks (.cons .z .nil)) .nil
theorem made_Dice_Bool_ok {fuel : Nat} {a0 : made_Dice} {a1 : Int} {y : Bool × made_Dice} (hF : made_Dice_Bool fuel a0 a1 = some y) {w : World} {v0 : Value} :
  Spec Try.prog 34 [v0, .int .i64 a1].toArray w [] [(false, .box 81 made_Dice.rep v0 a0)] (fun v Γr Ωr Ωo => v = .bool y.1 ∧ Γr = [] ∧ Ωr = [] ∧ Ωo = [(false, .box 81 made_Dice.rep v0 y.2)]) := by
 refine Spec.of (L := [(0, v0), (1, .int .i64 a1)]) Try.func34 rfl ⟨rfl, rfl, trivial⟩ rfl (fun e h => ?_)
 unfold made_Dice_Bool at hF
 refine Run.seq ?_
 refine Run.reg ?_
 refine op (OpS.as rfl rfl rfl ?_)
 refine RunL.nil ?_
 refine Run.slim [(0, v0), (1, .int .i64 a1)] ⟨rfl, rfl, trivial⟩ ?_
 refine Run.seq ?_
 refine Run.reg ?_
 refine op (OpS.mv rfl rfl rfl ?_)
 refine op (OpS.mv rfl rfl rfl ?_)
 obtain ⟨y1, e1, hF⟩ := bindP_use hF
 have h1 := h.front (.cons .z .nil)
 refine op (OpS.callO h1 Try.func32 rfl rfl rfl rfl (vs := [v0, .int .i64 a1]) rfl (made_Dice_Next_ok e1) rfl .nil ?_)
 rintro _ w1 _ _ _ ⟨rfl, rfl, rfl, rfl⟩ h2
 have h3 := h2
 simp only [List.cons_append, List.nil_append] at h3
 refine op (OpS.mv rfl rfl rfl ?_)
 refine op (OpS.bin rfl rfl rfl rfl rfl ?_)
 refine op (OpS.bin rfl rfl rfl rfl rfl ?_)
 refine op (OpS.as rfl rfl rfl ?_)
 obtain ⟨x1, e2, hF⟩ := letP_use hF
 refine RunL.nameb e2 ?_
 refine RunL.nil ?_
 refine Run.slim [(4, .bool x1)] ⟨rfl, trivial⟩ ?_
 refine Run.retP rfl (.tmp rfl .nil) ?_
 cases hF
 exact Post.mk' ⟨rfl, rfl, rfl, rfl⟩ (h3.picks (.cons .z .nil)) .nil
theorem made_Dice_Byte_ok {fuel : Nat} {a0 : made_Dice} {y : Int × made_Dice} (hF : made_Dice_Byte fuel a0 = some y) {w : World} {v0 : Value} :
  Spec Try.prog 54 [v0].toArray w [] [(false, .box 81 made_Dice.rep v0 a0)] (fun v Γr Ωr Ωo => v = .int .u8 y.1 ∧ Γr = [] ∧ Ωr = [] ∧ Ωo = [(false, .box 81 made_Dice.rep v0 y.2)]) := by
 refine Spec.of (L := [(0, v0)]) Try.func54 rfl ⟨rfl, trivial⟩ rfl (fun e h => ?_)
 unfold made_Dice_Byte at hF
 refine Run.seq ?_
 refine Run.reg ?_
 refine op (OpS.as rfl rfl rfl ?_)
 refine RunL.nil ?_
 refine Run.slim [(0, v0)] ⟨rfl, trivial⟩ ?_
 refine Run.seq ?_
 refine Run.reg ?_
 refine op (OpS.buildA (f := true) (r := (Rep.int .u8)) h Try.underlying102 ti5 rfl ti102 rfl rfl rfl (.cons rfl V.int (.cons rfl V.int (.cons rfl V.int (.cons rfl V.int (.cons rfl V.int (.cons rfl V.int (.cons rfl V.int (.cons rfl V.int .nil)))))))) rfl (fun u1 h1 => ?_))
 refine op (OpS.alloc h1 ti102 (Zr.of (Zr.arr (Zr.int .u8 0) 8) rfl) rfl rfl (fun u2 w1 h2 => ?_))
 obtain ⟨d1, e1, hF⟩ := letP_use hF
 refine op (OpS.storeB (f' := true) h2 .z PA.z (Put.of Put.id e1) ty102 rfl rfl rfl (V.at .z) (.inl rfl) (fun w2 h3 => ?_))
 refine RunL.nil ?_
 refine Run.slim [(3, u2), (0, v0)] ⟨rfl, rfl, trivial⟩ ?_
 refine Run.seq ?_
 refine Run.seq ?_
 refine Run.reg ?_
 refine op (OpS.mv rfl rfl rfl ?_)
 obtain ⟨y1, e2, hF⟩ := bindP_use hF
 have h4 := h3.front (.cons (.s .z) .nil)
 refine op (OpS.callO h4 Try.func34 rfl rfl rfl rfl (vs := [v0, .int .i64 3]) rfl (made_Dice_Bool_ok e2) rfl .nil ?_)
 rintro _ w3 _ _ _ ⟨rfl, rfl, rfl, rfl⟩ h5
 have h6 := h5
 simp only [List.cons_append, List.nil_append] at h6
 refine RunL.nil ?_
 refine Run.slim [(6, .bool y1.1), (3, u2), (0, v0)] ⟨rfl, rfl, rfl, trivial⟩ ?_
 refine Run.ite rfl hF (fun e3 hF => ?_) (fun e3 hF => ?_)
 ·
  refine Run.seq ?_
  refine Run.reg ?_
  refine op (OpS.mv rfl rfl rfl ?_)
  obtain ⟨y2, e4, hF⟩ := bindP_use hF
  have h7 := h6.front (.cons .z .nil)
  refine op (OpS.callO h7 Try.func32 rfl rfl rfl rfl (vs := [v0, .int .i64 8]) rfl (made_Dice_Next_ok e4) rfl .nil ?_)
  rintro _ w4 _ _ _ ⟨rfl, rfl, rfl, rfl⟩ h8
  have h9 := h8
  simp only [List.cons_append, List.nil_append] at h9
  obtain ⟨x1, e5, hF⟩ := bindP_use hF
  obtain ⟨e6, hF⟩ := chk_use hF
  refine op (OpS.ibox h9 (.s .z) PA.z Try.underlying102 ty5 (Nat.eq_of_beq_eq_true e6) rfl rfl rfl rfl e5 ?_)
  refine op (OpS.loadBi h9 (.s .z) PA.a (Get.comp Get.id (Get.arr e5)) ty5 rfl rfl rfl ?_)
  refine op (OpS.as rfl rfl rfl ?_)
  refine RunL.nil ?_
  refine Run.slim [(2, .int .u8 x1)] ⟨rfl, trivial⟩ ?_
  refine Run.retP rfl (.tmp rfl .nil) ?_
  cases hF
  exact Post.mk' ⟨rfl, rfl, rfl, rfl⟩ (h9.picks (.cons .z .nil)) .nil
 ·
  refine Run.skip ?_
  refine Run.seq ?_
  refine Run.reg ?_
  refine op (OpS.mv rfl rfl rfl ?_)
  obtain ⟨y3, e7, hF⟩ := bindP_use hF
  have h10 := h6.front (.cons .z .nil)
  refine op (OpS.callO h10 Try.func32 rfl rfl rfl rfl (vs := [v0, .int .i64 256]) rfl (made_Dice_Next_ok e7) rfl .nil ?_)
  rintro _ w5 _ _ _ ⟨rfl, rfl, rfl, rfl⟩ h11
  have h12 := h11
  simp only [List.cons_append, List.nil_append] at h12
  refine op (OpS.conv Try.underlying3 Try.underlying5 rfl rfl rfl ?_)
  refine op (OpS.as rfl rfl rfl ?_)
  refine RunL.nil ?_
  refine Run.slim [(2, .int .u8 (IntKind.u8.wrap y3.1))] ⟨rfl, trivial⟩ ?_
  refine Run.retP rfl (.tmp rfl .nil) ?_
  cases hF
  exact Post.mk' ⟨rfl, rfl, rfl, rfl⟩ (h12.picks (.cons .z .nil)) .nil
theorem made_Dice_Bytes_ok {fuel : Nat} {a0 : made_Dice} {a1 : Int} {y : (List Int) × made_Dice} (hF : made_Dice_Bytes fuel a0 a1 = some y) {w : World} {v0 : Value} :
  Spec Try.prog 33 [v0, .int .i64 a1].toArray w [] [(false, .box 81 made_Dice.rep v0 a0)] (fun v Γr Ωr Ωo => ∃ u0 : Value, v = u0 ∧ Γr = [] ∧ Ωr = [(true, (.slice 5 (Rep.int .u8) u0 y.1))] ∧ Ωo = [(false, .box 81 made_Dice.rep v0 y.2)]) := by
 refine Spec.of (L := [(0, v0), (1, .int .i64 a1)]) Try.func33 rfl ⟨rfl, rfl, trivial⟩ rfl (fun e h => ?_)
 unfold made_Dice_Bytes at hF
 refine Run.seq ?_
 refine Run.reg ?_
 refine op (OpS.as rfl rfl rfl ?_)
 refine RunL.nil ?_
 refine Run.slim [(0, v0), (1, .int .i64 a1)] ⟨rfl, rfl, trivial⟩ ?_
 refine Run.seq ?_
 refine Run.reg ?_
 refine op (OpS.as rfl rfl rfl ?_)
 refine RunL.nil ?_
 refine Run.seq ?_
 refine Run.seq ?_
 refine Run.reg ?_
 refine op (OpS.mv rfl rfl rfl ?_)
 refine op (OpS.mv rfl rfl rfl ?_)
 refine op (OpS.bin rfl rfl rfl rfl rfl ?_)
 obtain ⟨y1, e1, hF⟩ := bindP_use hF
 have h1 := h.front (.cons .z .nil)
 refine op (OpS.callO h1 Try.func32 rfl rfl rfl rfl (vs := [v0, .int .i64 (IntKind.i64.wrap (a1 + 1))]) rfl (made_Dice_Next_ok e1) rfl .nil ?_)
 rintro _ w1 _ _ _ ⟨rfl, rfl, rfl, rfl⟩ h2
 have h3 := h2
 simp only [List.cons_append, List.nil_append] at h3
 refine op (OpS.as rfl rfl rfl ?_)
 refine RunL.nil ?_
 refine Run.slim [(6, .int .i64 y1.1), (5, .slice none 0 0), (0, v0)] ⟨rfl, rfl, rfl, trivial⟩ ?_
 refine Run.block ?_
 have h4 := St.nil 5 (Rep.int .u8) h3
 refine Run.slim [(0, v0), (5, (.slice none 0 0)), (6, .int .i64 y1.1)] ⟨rfl, rfl, rfl, trivial⟩ ?_
 refine Run.loopP (σ := (Int × made_Dice × (List Int))) (fun s_ L_ w_ => ∃ u0_ : Value, L_ = [(0, v0), (5, u0_), (6, .int .i64 s_.1)] ∧ St e w_ [] [(false, .box 81 made_Dice.rep v0 s_.2.1), (true, .slice 5 (Rep.int .u8) u0_ s_.2.2)]) hF ⟨(.slice none 0 0), rfl, (h4.facts .nil).picks (.cons (.s .z) (.cons .z .nil))⟩ (fun k1 hk1 s1 _ w2 hI hF => ?_)
 obtain ⟨u1, rfl, h5⟩ := hI
 refine Run.seq ?_
 refine Run.seq ?_
 refine Run.reg ?_
 refine op (OpS.mv rfl rfl rfl ?_)
 refine op (OpS.bin rfl rfl rfl rfl rfl ?_)
 refine RunL.nil ?_
 refine Run.slim [(12, .bool (decide (s1.1 > 0))), (0, v0), (5, u1), (6, .int .i64 s1.1)] ⟨rfl, rfl, rfl, rfl, trivial⟩ ?_
 refine Run.ite rfl hF (fun e2 hF => ?_) (fun e2 hF => ?_)
 ·
  refine Run.skip ?_
  refine Run.seq ?_
  refine Run.block ?_
  refine Run.reg ?_
  refine op (OpS.mv rfl rfl rfl ?_)
  refine op (OpS.mv rfl rfl rfl ?_)
  obtain ⟨y2, e3, hF⟩ := bindP_use hF
  have h6 := h5.front (.cons .z .nil)
  refine op (OpS.callO h6 Try.func54 rfl rfl rfl rfl (vs := [v0]) rfl (made_Dice_Byte_ok e3) rfl .nil ?_)
  rintro _ w3 _ _ _ ⟨rfl, rfl, rfl, rfl⟩ h7
  have h8 := h7
  simp only [List.cons_append, List.nil_append] at h8
  refine op (OpS.lit (r := (Rep.int .u8)) (f := true) h8 Try.underlying34 ti5 rfl rfl rfl rfl rfl (.cons rfl V.int .nil) rfl rfl (fun u2 w4 h9 => ?_))
  obtain ⟨x1, e4, hF⟩ := bindP_use hF
  refine op (OpS.app (f' := true) h9 (.s .z) Try.underlying34 ti5 rfl rfl rfl rfl rfl rfl rfl (V.at .z) (.inr Pure.int) e4 (fun u3 w5 h10 => ?_))
  refine op (OpS.as rfl rfl rfl ?_)
  refine RunL.nil ?_
  refine Run.slim [(5, u3), (0, v0), (6, .int .i64 s1.1)] ⟨rfl, rfl, rfl, trivial⟩ ?_
  refine Run.endBlock ?_
  refine Run.reg ?_
  refine op (OpS.mv rfl rfl rfl ?_)
  refine op (OpS.bin rfl rfl rfl rfl rfl ?_)
  refine op (OpS.as rfl rfl rfl ?_)
  obtain ⟨x2, e5, hF⟩ := letP_use hF
  refine RunL.name e5 ?_
  refine RunL.nil ?_
  refine Run.slim [(6, .int .i64 x2), (5, u3), (0, v0)] ⟨rfl, rfl, rfl, trivial⟩ ?_
  refine Run.slim [(0, v0), (5, u3), (6, .int .i64 x2)] ⟨rfl, rfl, rfl, trivial⟩ ?_
  exact hk1 (x2, y2.2, x1) _ _ ⟨u3, rfl, (h10.facts .nil).picks (.cons (.s .z) (.cons .z .nil))⟩ hF
 ·
  refine Run.exit rfl ?_
  refine Run.seq ?_
  refine Run.reg ?_
  refine op (OpS.mv rfl rfl rfl ?_)
  refine op (OpS.as rfl rfl rfl ?_)
  refine RunL.nil ?_
  refine Run.slim [(4, u1)] ⟨rfl, trivial⟩ ?_
  refine Run.retP rfl (.tmp rfl .nil) ?_
  cases hF
  exact Post.mk' ⟨u1, rfl, rfl, rfl, rfl⟩ (h5.picks (.cons (.s .z) (.cons .z .nil))) .nil
end Lift
