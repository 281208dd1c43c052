/- Each Go function computes its plain function. Written by lift.py. -/
import Derived.Test.YtmhmkgijjgkbcaaFacts
set_option linter.unusedVariables false
set_option linter.unusedSimpArgs false
namespace Lift
open Go Go.Proofs
open RunL (op)
theorem repository_New_ok {fuel : Nat} {a0 : Int} {y : (Option repository_Repository) × Int} (hF : repository_New fuel a0 = some y) {w : World} :
  Spec Try.prog 17 [.int .i64 a0].toArray w [] [] (fun v Γr Ωr Ωo => ∃ u0 : Value, v = .tuple #[u0, .int .i64 y.2] ∧ Γr = [] ∧ Ωr = [(true, .opt (fun x_ => .ex fun v_ => .sep (.box 65 (Rep.iso (fun s : repository_Repository => (s.capacity, s.records, s.last, s.number, s.held, ())) (Rep.prod (Rep.int .i64) (Rep.prod (Rep.raw v_) (Rep.prod (Rep.int .u16) (Rep.prod (Rep.int .u16) (Rep.prod Rep.bool Rep.unit)))))) u0 x_) (.slice 67 repository_record.rep v_ x_.records)) u0 y.1)] ∧ Ωo = []) := by
 refine Spec.of (L := [(0, .int .i64 a0)]) Try.func17 rfl ⟨rfl, trivial⟩ rfl (fun e h => ?_)
 unfold repository_New at hF
 refine Run.seq ?_
 refine Run.reg ?_
 refine op (OpS.as rfl rfl rfl ?_)
 refine op (OpS.as rfl rfl rfl ?_)
 refine RunL.nil ?_
 refine Run.slim [(0, .int .i64 a0)] ⟨rfl, trivial⟩ ?_
 refine Run.seq ?_
 refine Run.seq ?_
 refine Run.reg ?_
 refine op (OpS.mv rfl rfl rfl ?_)
 refine op (OpS.bin rfl rfl rfl rfl rfl ?_)
 refine op (OpS.mv rfl rfl rfl ?_)
 refine RunL.join (σ := Bool) (fun s_ L_ w_ => L_ = [(0, .int .i64 a0), (9, .bool s_)] ∧ St e w_ [] []) hF (fun s1 _ w1 hI hF => ?_) (fun j1 hj1 hF => ?_)
 ·
  obtain ⟨rfl, h1⟩ := hI
  refine Run.ite rfl hF (fun e1 hF => ?_) (fun e1 hF => ?_)
  ·
   refine Run.seq ?_
   refine Run.reg ?_
   refine op (OpS.as rfl rfl rfl ?_)
   refine op (OpS.as rfl rfl rfl ?_)
   refine RunL.nil ?_
   refine Run.slim [(3, .int .i64 2), (2, .pointer none)] ⟨rfl, rfl, trivial⟩ ?_
   have h2 := St.none (fun x_ => .ex fun v_ => .sep (.box 65 (Rep.iso (fun s : repository_Repository => (s.capacity, s.records, s.last, s.number, s.held, ())) (Rep.prod (Rep.int .i64) (Rep.prod (Rep.raw v_) (Rep.prod (Rep.int .u16) (Rep.prod (Rep.int .u16) (Rep.prod Rep.bool Rep.unit)))))) (.pointer none) x_) (.slice 67 repository_record.rep v_ x_.records)) h1
   refine Run.retP rfl (.tmp rfl (.tmp rfl .nil)) ?_
   cases hF
   exact Post.mk' ⟨(.pointer none), rfl, rfl, rfl, rfl⟩ (h2.picks (.cons .z .nil)) .nil
  ·
   refine Run.skip ?_
   refine Run.seq ?_
   refine Run.reg ?_
   refine op (OpS.mv rfl rfl rfl ?_)
   have h3 := St.nil 67 repository_record.rep h1
   refine op (OpS.build (r := (Rep.iso (fun s : repository_Repository => (s.capacity, s.records, s.last, s.number, s.held, ())) (Rep.prod (Rep.int .i64) (Rep.prod (Rep.raw (.slice none 0 0)) (Rep.prod (Rep.int .u16) (Rep.prod (Rep.int .u16) (Rep.prod Rep.bool Rep.unit))))))) (f := true) (x' := (⟨a0, [], 0, 0, false⟩ : repository_Repository)) h3 pl65 ti65 (Zr.iso (y := repository_Repository.z) _ (Zr.of (Zr.prod (Zr.int .i64 0) (Zr.prod (Zr.raw rfl _) (Zr.prod (Zr.int .u16 0) (Zr.prod (Zr.int .u16 0) (Zr.prod (Zr.bool false) Zr.unit))))) (by rfl))) rfl rfl rfl (.cons rfl (Fld.iso (g' := repository_Repository.capacity) (st' := fun s y => { s with capacity := y }) (fun s : repository_Repository => (s.capacity, s.records, s.last, s.number, s.held, ())) Fld.here (fun _ => rfl) (fun _ _ => rfl)) rfl V.int .nil) (fun u1 h4 => ?_))
   refine op (OpS.box (f' := true) h4 rfl rfl rfl (V.at .z) (fun u2 w2 h5 => ?_))
   refine op (OpS.as rfl rfl rfl ?_)
   refine op (OpS.as rfl rfl rfl ?_)
   refine RunL.nil ?_
   refine Run.slim [(3, .int .i64 0), (2, u2)] ⟨rfl, rfl, trivial⟩ ?_
   have h6 := St.boxJ (r' := (Rep.iso (fun s : repository_Repository => (s.capacity, s.records, s.last, s.number, s.held, ())) (Rep.prod (Rep.int .i64) (Rep.prod (Rep.raw (.slice none 0 0)) (Rep.prod (Rep.int .u16) (Rep.prod (Rep.int .u16) (Rep.prod Rep.bool Rep.unit))))))) (x' := { (⟨a0, [], 0, 0, false⟩ : repository_Repository) with records := [] }) (h5.pick .z) (fun _ _ hs_ => (Jn.iso _ (Jn.prod Jn.refl (Jn.prod Jn.same Jn.refl))))
   have h7 := h6.front (.cons .z (.cons .z .nil))
   have h8 := St.some (H := (fun x_ => .ex fun v_ => .sep (.box 65 (Rep.iso (fun s : repository_Repository => (s.capacity, s.records, s.last, s.number, s.held, ())) (Rep.prod (Rep.int .i64) (Rep.prod (Rep.raw v_) (Rep.prod (Rep.int .u16) (Rep.prod (Rep.int .u16) (Rep.prod Rep.bool Rep.unit)))))) u2 x_) (.slice 67 repository_record.rep v_ x_.records))) (q := u2) (x := { (⟨a0, [], 0, 0, false⟩ : repository_Repository) with records := [] }) (St.ex (H := fun v_ => .sep (.box 65 (Rep.iso (fun s : repository_Repository => (s.capacity, s.records, s.last, s.number, s.held, ())) (Rep.prod (Rep.int .i64) (Rep.prod (Rep.raw v_) (Rep.prod (Rep.int .u16) (Rep.prod (Rep.int .u16) (Rep.prod Rep.bool Rep.unit)))))) u2 ({ (⟨a0, [], 0, 0, false⟩ : repository_Repository) with records := [] })) (.slice 67 repository_record.rep v_ (({ (⟨a0, [], 0, 0, false⟩ : repository_Repository) with records := [] }).records))) (.slice none 0 0) (St.sep h7))
   refine Run.retP rfl (.tmp rfl (.tmp rfl .nil)) ?_
   cases hF
   exact Post.mk' ⟨u2, rfl, rfl, rfl, rfl⟩ (h8.picks (.cons .z .nil)) .nil
 ·
  refine RunL.caseb hF (fun e2 hF => ?_) (fun e2 hF => ?_)
  ·
   refine op (OpS.pass rfl rfl rfl ?_)
   refine op (OpS.pass rfl rfl rfl ?_)
   refine op (OpS.pick rfl rfl rfl rfl ?_)
   refine RunL.nil ?_
   refine Run.slim [(9, .bool true), (0, .int .i64 a0)] ⟨rfl, rfl, trivial⟩ ?_
   refine Run.slim [(0, .int .i64 a0), (9, .bool true)] ⟨rfl, rfl, trivial⟩ ?_
   exact hj1 (true) _ _ ⟨rfl, (h.facts .nil).picks .nil⟩ hF
  ·
   refine op (OpS.mv rfl rfl rfl ?_)
   refine op (OpS.bin rfl rfl rfl rfl rfl ?_)
   refine op (OpS.pick rfl rfl rfl rfl ?_)
   refine RunL.nil ?_
   refine Run.slim [(9, .bool (decide (a0 > 10240))), (0, .int .i64 a0)] ⟨rfl, rfl, trivial⟩ ?_
   refine Run.slim [(0, .int .i64 a0), (9, .bool (decide (a0 > 10240)))] ⟨rfl, rfl, trivial⟩ ?_
   exact hj1 (decide (a0 > 10240)) _ _ ⟨rfl, (h.facts .nil).picks .nil⟩ hF
theorem repository_Repository_Free_ok {fuel : Nat} {a0 : repository_Repository} {y : Int} (hF : repository_Repository_Free fuel a0 = some y) {w : World} {v0 v0_0 : Value} :
  Spec Try.prog 19 [v0].toArray w [] [(false, .box 65 (Rep.iso (fun s : repository_Repository => (s.capacity, s.records, s.last, s.number, s.held, ())) (Rep.prod (Rep.int .i64) (Rep.prod (Rep.raw v0_0) (Rep.prod (Rep.int .u16) (Rep.prod (Rep.int .u16) (Rep.prod Rep.bool Rep.unit)))))) v0 a0), (false, .slice 67 repository_record.rep v0_0 a0.records)] (fun v Γr Ωr Ωo => v = .int .i64 y ∧ Γr = [] ∧ Ωr = [] ∧ Ωo = [(false, .box 65 (Rep.iso (fun s : repository_Repository => (s.capacity, s.records, s.last, s.number, s.held, ())) (Rep.prod (Rep.int .i64) (Rep.prod (Rep.raw v0_0) (Rep.prod (Rep.int .u16) (Rep.prod (Rep.int .u16) (Rep.prod Rep.bool Rep.unit)))))) v0 a0), (false, (.slice 67 repository_record.rep v0_0 a0.records))]) := by
 refine Spec.of (L := [(0, v0)]) Try.func19 rfl ⟨rfl, trivial⟩ rfl (fun e h => ?_)
 unfold repository_Repository_Free at hF
 refine Run.seq ?_
 refine Run.reg ?_
 refine op (OpS.as rfl rfl rfl ?_)
 refine RunL.nil ?_
 refine Run.slim [(0, v0)] ⟨rfl, trivial⟩ ?_
 refine Run.seq ?_
 refine Run.reg ?_
 refine op (OpS.mv rfl rfl rfl ?_)
 refine op (OpS.nchk h .z rfl rfl rfl ?_)
 refine op (OpS.fbox (o3 := 0) h .z PA.z fa65_0 rfl rfl rfl rfl ?_)
 refine op (OpS.loadBi h .z PA.a (GetS.ok (GetS.iso _ (GetS.here GetS.id))) ty3 rfl rfl rfl ?_)
 refine op (OpS.as rfl rfl rfl ?_)
 refine RunL.nil ?_
 refine Run.slim [(3, .int .i64 a0.capacity), (0, v0)] ⟨rfl, rfl, trivial⟩ ?_
 refine Run.seq ?_
 refine Run.seq ?_
 refine Run.reg ?_
 refine op (OpS.mv rfl rfl rfl ?_)
 refine op (OpS.nchk h .z rfl rfl rfl ?_)
 refine op (OpS.fbox (o3 := 1) h .z PA.z fa65_1 rfl rfl rfl rfl ?_)
 refine op (OpS.loadR h .z PA.a (GetS.ok (GetS.iso _ (GetS.there (GetS.here GetS.id)))) ty63 rfl rfl rfl rfl rfl ?_)
 refine op (OpS.lenO h (.s .z) Try.underlying63 rfl rfl rfl ?_)
 refine op (OpS.mv rfl rfl rfl ?_)
 refine RunL.nil ?_
 refine Run.slim [(15, .int .i64 0), (14, .int .i64 (a0.records.length : Int)), (13, v0_0), (3, .int .i64 a0.capacity)] ⟨rfl, rfl, rfl, rfl, trivial⟩ ?_
 refine Run.block ?_
 refine Run.slim [(3, .int .i64 a0.capacity), (13, v0_0), (14, .int .i64 (a0.records.length : Int)), (15, .int .i64 0)] ⟨rfl, rfl, rfl, rfl, trivial⟩ ?_
 refine Run.loopP (σ := (Int × Int)) (fun s_ L_ w_ => L_ = [(3, .int .i64 s_.1), (13, v0_0), (14, .int .i64 (a0.records.length : Int)), (15, .int .i64 s_.2)] ∧ St e w_ [] [(false, .box 65 (Rep.iso (fun s : repository_Repository => (s.capacity, s.records, s.last, s.number, s.held, ())) (Rep.prod (Rep.int .i64) (Rep.prod (Rep.raw v0_0) (Rep.prod (Rep.int .u16) (Rep.prod (Rep.int .u16) (Rep.prod Rep.bool Rep.unit)))))) v0 a0), (false, .slice 67 repository_record.rep v0_0 a0.records)]) hF ⟨rfl, (h.facts .nil).picks (.cons .z (.cons .z .nil))⟩ (fun k1 hk1 s1 _ w1 hI hF => ?_)
 obtain ⟨rfl, h1⟩ := hI
 refine Run.seq ?_
 refine Run.reg ?_
 refine op (OpS.bin rfl rfl rfl rfl rfl ?_)
 refine RunL.nil ?_
 refine Run.seq ?_
 refine Run.ite rfl hF (fun e1 hF => ?_) (fun e1 hF => ?_)
 ·
  refine Run.skip ?_
  refine Run.seq ?_
  refine Run.block ?_
  refine Run.seq ?_
  refine Run.reg ?_
  obtain ⟨x1, e2, hF⟩ := bindP_use hF
  refine op (OpS.iown h1 (.s .z) Try.underlying63 ty67 rfl rfl rfl rfl e2 ?_)
  refine op (OpS.loadO h1 (.s .z) (idx_ne e2) PA.a (Get.arr e2) ty67 rfl rfl rfl (fun u1 h2 => ?_))
  refine op (OpS.alloc h2 ti67 repository_record.zr rfl rfl (fun u2 w2 h3 => ?_))
  have h4 := (h3.pick .z).weak
  refine op (OpS.storeB (f' := false) h4 .z PA.z Put.id ty67 rfl rfl rfl (V.at .z) (.inr rfl) (fun w3 h5 => ?_))
  refine RunL.nil ?_
  refine Run.slim [(5, u2), (3, .int .i64 s1.1), (13, v0_0), (14, .int .i64 (a0.records.length : Int)), (15, .int .i64 s1.2)] ⟨rfl, rfl, rfl, rfl, rfl, trivial⟩ ?_
  refine Run.reg ?_
  refine op (OpS.mv rfl rfl rfl ?_)
  refine op (OpS.fbox (o3 := 1) h5 .z PA.z fa67_1 rfl rfl rfl rfl ?_)
  refine op (OpS.loadB h5 .z PA.a (Get.fld repository_record.f1) ty34 rfl rfl rfl (fun u3 h6 => ?_))
  refine op (OpS.len h6 Try.underlying34 rfl rfl rfl (V.at .z) ?_)
  refine op (OpS.bin rfl rfl rfl rfl rfl ?_)
  refine op (OpS.as rfl rfl rfl ?_)
  obtain ⟨x2, e3, hF⟩ := letP_use hF
  refine RunL.name e3 ?_
  refine RunL.nil ?_
  refine Run.slim [(3, .int .i64 x2), (13, v0_0), (14, .int .i64 (a0.records.length : Int)), (15, .int .i64 s1.2)] ⟨rfl, rfl, rfl, rfl, trivial⟩ ?_
  refine Run.endBlock ?_
  refine Run.reg ?_
  refine op (OpS.bin rfl rfl rfl rfl rfl ?_)
  refine op (OpS.mv rfl rfl rfl ?_)
  refine RunL.nil ?_
  refine Run.slim [(15, .int .i64 (IntKind.i64.wrap (s1.2 + 1))), (3, .int .i64 x2), (13, v0_0), (14, .int .i64 (a0.records.length : Int))] ⟨rfl, rfl, rfl, rfl, trivial⟩ ?_
  refine Run.slim [(3, .int .i64 x2), (13, v0_0), (14, .int .i64 (a0.records.length : Int)), (15, .int .i64 (IntKind.i64.wrap (s1.2 + 1)))] ⟨rfl, rfl, rfl, rfl, trivial⟩ ?_
  exact hk1 (x2, (IntKind.i64.wrap (s1.2 + 1))) _ _ ⟨rfl, (h6.facts .nil).picks (.cons (.s .z) (.cons (.s .z) .nil))⟩ hF
 ·
  refine Run.exit rfl ?_
  refine Run.seq ?_
  refine Run.reg ?_
  refine op (OpS.mv rfl rfl rfl ?_)
  refine op (OpS.as rfl rfl rfl ?_)
  refine RunL.nil ?_
  refine Run.slim [(2, .int .i64 s1.1)] ⟨rfl, trivial⟩ ?_
  refine Run.retP rfl (.tmp rfl .nil) ?_
  cases hF
  exact Post.mk' ⟨rfl, rfl, rfl, rfl⟩ (h1.picks (.cons .z (.cons .z .nil))) .nil
theorem repository_Repository_find_1_2_ok {fuel : Nat} {a0 : repository_record} {a1 : Int} {y : Bool} (hF : repository_Repository_find_1_2 fuel a0 a1 = some y) {w : World} {v0 v1 : Value} :
  Spec Try.prog 48 [v0, v1].toArray w [(false, .val repository_record.rep v0 a0), (false, .ptr (Rep.int .u16) v1 a1)] [] (fun v Γr Ωr Ωo => v = .bool y ∧ Γr = [] ∧ Ωr = [] ∧ Ωo = []) := by
 refine Spec.of (L := [(0, v0), (1, v1)]) Try.func48 rfl ⟨rfl, rfl, trivial⟩ rfl (fun e h => ?_)
 unfold repository_Repository_find_1_2 at hF
 refine Run.seq ?_
 refine Run.reg ?_
 refine op (OpS.boxF h rfl rfl rfl (V.at .z) (fun u1 w1 h1 => ?_))
 refine op (OpS.as rfl rfl rfl ?_)
 refine RunL.nil ?_
 refine Run.slim [(2, u1), (1, v1)] ⟨rfl, rfl, trivial⟩ ?_
 refine Run.seq ?_
 refine Run.reg ?_
 refine op (OpS.fbox (o3 := 0) h1 .z PA.z fa67_0 rfl rfl rfl rfl ?_)
 refine op (OpS.loadBi h1 .z PA.a (Get.fld repository_record.f0) ty32 rfl rfl rfl ?_)
 refine op (OpS.loadi h1 ty32 rfl rfl rfl (.s .z) ?_)
 refine op (OpS.bin rfl rfl rfl rfl rfl ?_)
 refine op (OpS.as rfl rfl rfl ?_)
 obtain ⟨x1, e1, hF⟩ := letP_use hF
 refine RunL.nameb e1 ?_
 refine RunL.nil ?_
 refine Run.slim [(3, .bool x1)] ⟨rfl, trivial⟩ ?_
 refine Run.retP rfl (.tmp rfl .nil) ?_
 cases hF
 exact Post.mk' ⟨rfl, rfl, rfl, rfl⟩ (h1.picks .nil) .nil
theorem slices_IndexFunc_repository_record_repository_record_repository_Repository_find_1_ok {fuel : Nat} {a0 : List repository_record} {a1_0 : Int} {y : Int} (hF : slices_IndexFunc_repository_record_repository_record_repository_Repository_find_1 fuel a0 a1_0 = some y) {w : World} {v0 v1_0 : Value} :
  Spec Try.prog 47 [v0, .func (.func 48) #[] #[v1_0]].toArray w [(false, .val (Rep.slice repository_record.rep) v0 a0), (false, .ptr (Rep.int .u16) v1_0 a1_0)] [] (fun v Γr Ωr Ωo => v = .int .i64 y ∧ Γr = [] ∧ Ωr = [] ∧ Ωo = []) := by
 refine Spec.of (L := [(0, v0), (1, .func (.func 48) #[] #[v1_0])]) Try.func47 rfl ⟨rfl, rfl, trivial⟩ rfl (fun e h => ?_)
 unfold slices_IndexFunc_repository_record_repository_record_repository_Repository_find_1 at hF
 refine Run.seq ?_
 refine Run.reg ?_
 refine op (OpS.as rfl rfl rfl ?_)
 refine RunL.nil ?_
 refine Run.slim [(0, v0), (1, .func (.func 48) #[] #[v1_0])] ⟨rfl, rfl, trivial⟩ ?_
 refine Run.seq ?_
 refine Run.seq ?_
 refine Run.reg ?_
 refine op (OpS.mv rfl rfl rfl ?_)
 refine op (OpS.len h Try.underlying63 rfl rfl rfl (V.at .z) ?_)
 refine op (OpS.mv rfl rfl rfl ?_)
 refine RunL.nil ?_
 refine Run.slim [(8, .int .i64 0), (7, .int .i64 (a0.length : Int)), (0, v0), (1, .func (.func 48) #[] #[v1_0])] ⟨rfl, rfl, rfl, rfl, trivial⟩ ?_
 refine Run.block ?_
 refine Run.slim [(0, v0), (1, .func (.func 48) #[] #[v1_0]), (7, .int .i64 (a0.length : Int)), (8, .int .i64 0)] ⟨rfl, rfl, rfl, rfl, trivial⟩ ?_
 refine Run.loopP (σ := Int) (fun s_ L_ w_ => L_ = [(0, v0), (1, .func (.func 48) #[] #[v1_0]), (7, .int .i64 (a0.length : Int)), (8, .int .i64 s_)] ∧ St e w_ [(false, .val (Rep.slice repository_record.rep) v0 a0), (false, .ptr (Rep.int .u16) v1_0 a1_0)] []) hF ⟨rfl, (h.facts (.atm .z (.atm (.s .z) .nil))).picks .nil⟩ (fun k1 hk1 s1 _ w1 hI hF => ?_)
 obtain ⟨rfl, h1⟩ := hI
 refine Run.seq ?_
 refine Run.reg ?_
 refine op (OpS.bin rfl rfl rfl rfl rfl ?_)
 refine RunL.nil ?_
 refine Run.seq ?_
 refine Run.ite rfl hF (fun e1 hF => ?_) (fun e1 hF => ?_)
 ·
  refine Run.skip ?_
  refine Run.seq ?_
  refine Run.block ?_
  refine Run.seq ?_
  refine Run.reg ?_
  refine op (OpS.mv rfl rfl rfl ?_)
  refine op (OpS.as rfl rfl rfl ?_)
  refine RunL.nil ?_
  refine Run.slim [(5, .int .i64 s1), (0, v0), (1, .func (.func 48) #[] #[v1_0]), (7, .int .i64 (a0.length : Int)), (8, .int .i64 s1)] ⟨rfl, rfl, rfl, rfl, rfl, trivial⟩ ?_
  refine Run.seq ?_
  refine Run.reg ?_
  refine op (OpS.mv rfl rfl rfl ?_)
  refine op (OpS.mv rfl rfl rfl ?_)
  refine op (OpS.mv rfl rfl rfl ?_)
  obtain ⟨x1, e2, hF⟩ := bindP_use hF
  refine op (OpS.iptr h1 Try.underlying63 ty67 rfl rfl rfl rfl (V.at .z) e2 (fun u1 h2 => ?_))
  refine op (OpS.load h2 ty67 rfl rfl rfl .z (fun u2 h3 => ?_))
  obtain ⟨y1, e3, hF⟩ := bindP_use hF
  refine op (OpS.callPF (fl := []) (cl := [v1_0]) h3 Try.func48 rfl rfl rfl rfl rfl (vs := [u2]) rfl (repository_Repository_find_1_2_ok e3) (.cons (f := false) (V.at .z) (.ptr (.s (.s (.s .z))) .nil)) ?_)
  rintro _ w2 _ _ _ ⟨rfl, rfl, rfl, rfl⟩ h4
  have h5 := h4 rfl rfl
  simp only [List.cons_append, List.nil_append] at h5
  refine RunL.nil ?_
  refine Run.slim [(16, .bool y1), (5, .int .i64 s1), (0, v0), (1, .func (.func 48) #[] #[v1_0]), (7, .int .i64 (a0.length : Int)), (8, .int .i64 s1)] ⟨rfl, rfl, rfl, rfl, rfl, rfl, trivial⟩ ?_
  refine Run.ite rfl hF (fun e4 hF => ?_) (fun e4 hF => ?_)
  ·
   refine Run.seq ?_
   refine Run.reg ?_
   refine op (OpS.mv rfl rfl rfl ?_)
   refine op (OpS.as rfl rfl rfl ?_)
   refine RunL.nil ?_
   refine Run.slim [(4, .int .i64 s1)] ⟨rfl, trivial⟩ ?_
   refine Run.retP rfl (.tmp rfl .nil) ?_
   cases hF
   exact Post.mk' ⟨rfl, rfl, rfl, rfl⟩ (h5.picks .nil) .nil
  ·
   refine Run.skip ?_
   refine Run.endBlock ?_
   refine Run.reg ?_
   refine op (OpS.bin rfl rfl rfl rfl rfl ?_)
   refine op (OpS.mv rfl rfl rfl ?_)
   refine RunL.nil ?_
   refine Run.slim [(8, .int .i64 (IntKind.i64.wrap (s1 + 1))), (0, v0), (1, .func (.func 48) #[] #[v1_0]), (7, .int .i64 (a0.length : Int))] ⟨rfl, rfl, rfl, rfl, trivial⟩ ?_
   refine Run.slim [(0, v0), (1, .func (.func 48) #[] #[v1_0]), (7, .int .i64 (a0.length : Int)), (8, .int .i64 (IntKind.i64.wrap (s1 + 1)))] ⟨rfl, rfl, rfl, rfl, trivial⟩ ?_
   exact hk1 ((IntKind.i64.wrap (s1 + 1))) _ _ ⟨rfl, (h5.facts (.atm (.s (.s .z)) (.atm (.s (.s (.s .z))) .nil))).picks .nil⟩ hF
 ·
  refine Run.exit rfl ?_
  refine Run.seq ?_
  refine Run.reg ?_
  refine op (OpS.as rfl rfl rfl ?_)
  refine RunL.nil ?_
  refine Run.slim [(4, .int .i64 (-1))] ⟨rfl, trivial⟩ ?_
  refine Run.retP rfl (.tmp rfl .nil) ?_
  cases hF
  exact Post.mk' ⟨rfl, rfl, rfl, rfl⟩ (h1.picks .nil) .nil
theorem repository_Repository_find_ok {fuel : Nat} {a0 : repository_Repository} {a1 : Int} {y : Int} (hF : repository_Repository_find fuel a0 a1 = some y) {w : World} {v0 v0_0 : Value} :
  Spec Try.prog 39 [v0, .int .u16 a1].toArray w [] [(false, .box 65 (Rep.iso (fun s : repository_Repository => (s.capacity, s.records, s.last, s.number, s.held, ())) (Rep.prod (Rep.int .i64) (Rep.prod (Rep.raw v0_0) (Rep.prod (Rep.int .u16) (Rep.prod (Rep.int .u16) (Rep.prod Rep.bool Rep.unit)))))) v0 a0), (false, .slice 67 repository_record.rep v0_0 a0.records)] (fun v Γr Ωr Ωo => v = .int .i64 y ∧ Γr = [] ∧ Ωr = [] ∧ Ωo = [(false, .box 65 (Rep.iso (fun s : repository_Repository => (s.capacity, s.records, s.last, s.number, s.held, ())) (Rep.prod (Rep.int .i64) (Rep.prod (Rep.raw v0_0) (Rep.prod (Rep.int .u16) (Rep.prod (Rep.int .u16) (Rep.prod Rep.bool Rep.unit)))))) v0 a0), (false, (.slice 67 repository_record.rep v0_0 a0.records))]) := by
 refine Spec.of (L := [(0, v0), (1, .int .u16 a1)]) Try.func39 rfl ⟨rfl, rfl, trivial⟩ rfl (fun e h => ?_)
 unfold repository_Repository_find at hF
 refine Run.seq ?_
 refine Run.reg ?_
 refine op (OpS.box (f' := true) h rfl rfl rfl V.int (fun u1 w1 h1 => ?_))
 refine op (OpS.as rfl rfl rfl ?_)
 refine RunL.nil ?_
 refine Run.slim [(3, u1), (0, v0)] ⟨rfl, rfl, trivial⟩ ?_
 refine Run.seq ?_
 refine Run.reg ?_
 refine op (OpS.mv rfl rfl rfl ?_)
 refine op (OpS.nchk h1 (.s .z) rfl rfl rfl ?_)
 refine op (OpS.fbox (o3 := 1) h1 (.s .z) PA.z fa65_1 rfl rfl rfl rfl ?_)
 refine op (OpS.loadR h1 (.s .z) PA.a (GetS.ok (GetS.iso _ (GetS.there (GetS.here GetS.id)))) ty63 rfl rfl rfl rfl rfl ?_)
 refine op (OpS.mkf (fl := []) (cl := [u1]) rfl rfl rfl rfl ?_)
 obtain ⟨y1, e1, hF⟩ := bindP_use hF
 refine op (OpS.callP h1 Try.func47 rfl rfl rfl rfl (vs := [v0_0, .func (.func 48) #[] #[u1]]) rfl (slices_IndexFunc_repository_record_repository_record_repository_Repository_find_1_ok e1) (.own (.s (.s .z)) (.box .z .nil)) ?_)
 rintro _ w2 _ _ _ ⟨rfl, rfl, rfl, rfl⟩ h2
 have h3 := h2 rfl rfl
 simp only [List.cons_append, List.nil_append] at h3
 refine op (OpS.as rfl rfl rfl ?_)
 refine RunL.nil ?_
 refine Run.slim [(4, .int .i64 y1)] ⟨rfl, trivial⟩ ?_
 refine Run.retP rfl (.tmp rfl .nil) ?_
 cases hF
 exact Post.mk' ⟨rfl, rfl, rfl, rfl⟩ (h3.picks (.cons (.s .z) (.cons (.s .z) .nil))) .nil
theorem slices_Clone_byte_byte_ok {fuel : Nat} {a0 : List Int} {y : (List Int)} (hF : slices_Clone_byte_byte fuel a0 = some y) {w : World} {v0 : Value} :
  Spec Try.prog 38 [v0].toArray w [(false, .val (Rep.slice (Rep.int .u8)) v0 a0)] [] (fun v Γr Ωr Ωo => ∃ u0 : Value, v = u0 ∧ Γr = [] ∧ Ωr = [(true, .slice 5 (Rep.int .u8) u0 y)] ∧ Ωo = []) := by
 refine Spec.of (L := [(0, v0)]) Try.func38 rfl ⟨rfl, trivial⟩ rfl (fun e h => ?_)
 unfold slices_Clone_byte_byte at hF
 refine Run.seq ?_
 refine Run.reg ?_
 refine op (OpS.as rfl rfl rfl ?_)
 refine RunL.nil ?_
 refine Run.slim [(0, v0)] ⟨rfl, trivial⟩ ?_
 refine Run.seq ?_
 refine Run.seq ?_
 refine Run.reg ?_
 refine op (OpS.mv rfl rfl rfl ?_)
 refine op (OpS.snil h Try.underlying34 rfl rfl rfl (V.at .z) (fun b1 hb1 => ?_))
 refine RunL.nil ?_
 refine Run.slim [(4, .bool b1), (0, v0)] ⟨rfl, rfl, trivial⟩ ?_
 cases b1
 ·
  refine Run.condF rfl ?_
  refine Run.skip ?_
  refine Run.seq ?_
  refine Run.reg ?_
  refine op (OpS.litO (r := (Rep.int .u8)) (f := true) h Try.underlying34 ti5 rfl rfl rfl rfl rfl .nil rfl rfl (fun u1 w1 h1 => ?_))
  refine op (OpS.mv rfl rfl rfl ?_)
  obtain ⟨x1, e1, hF⟩ := bindP_use hF
  refine op (OpS.app (f' := false) h1 .z Try.underlying34 ti5 rfl rfl rfl rfl rfl rfl rfl (V.at .z) (.inr Pure.int) e1 (fun u2 w2 h2 => ?_))
  refine op (OpS.as rfl rfl rfl ?_)
  refine RunL.nil ?_
  refine Run.slim [(2, u2)] ⟨rfl, trivial⟩ ?_
  refine Run.retP rfl (.tmp rfl .nil) ?_
  cases hF
  exact Post.mk' ⟨u2, rfl, rfl, rfl, rfl⟩ (h2.picks (.cons .z .nil)) .nil
 ·
  obtain rfl := hb1 rfl
  have hF : some ([] : List Int) = some y := by simpa [bindP, app] using hF
  refine Run.condT rfl ?_
  refine Run.seq ?_
  refine Run.reg ?_
  refine op (OpS.as rfl rfl rfl ?_)
  refine RunL.nil ?_
  refine Run.slim [(2, .slice none 0 0)] ⟨rfl, trivial⟩ ?_
  have h3 := St.nil 5 (Rep.int .u8) h
  refine Run.retP rfl (.tmp rfl .nil) ?_
  cases hF
  exact Post.mk' ⟨(.slice none 0 0), rfl, rfl, rfl, rfl⟩ (h3.picks (.cons .z .nil)) .nil
set_option maxHeartbeats 8000000 in
theorem repository_Repository_Add_ok {fuel : Nat} {a0 : repository_Repository} {a1 : List Int} {y : Int × Int × repository_Repository} (hF : repository_Repository_Add fuel a0 a1 = some y) {w : World} {v0 v0_0 v1 : Value} :
  Spec Try.prog 18 [v0, v1].toArray w [(false, .val (Rep.slice (Rep.int .u8)) v1 a1)] [(false, .box 65 (Rep.iso (fun s : repository_Repository => (s.capacity, s.records, s.last, s.number, s.held, ())) (Rep.prod (Rep.int .i64) (Rep.prod (Rep.raw v0_0) (Rep.prod (Rep.int .u16) (Rep.prod (Rep.int .u16) (Rep.prod Rep.bool Rep.unit)))))) v0 a0), (false, .slice 67 repository_record.rep v0_0 a0.records)] (fun v Γr Ωr Ωo => ∃ w0_0 : Value, v = .tuple #[.int .u16 y.1, .int .i64 y.2.1] ∧ Γr = [] ∧ Ωr = [] ∧ Ωo = [(false, .box 65 (Rep.iso (fun s : repository_Repository => (s.capacity, s.records, s.last, s.number, s.held, ())) (Rep.prod (Rep.int .i64) (Rep.prod (Rep.raw w0_0) (Rep.prod (Rep.int .u16) (Rep.prod (Rep.int .u16) (Rep.prod Rep.bool Rep.unit)))))) v0 y.2.2), (false, (.slice 67 repository_record.rep w0_0 y.2.2.records))]) := by
 refine Spec.of (L := [(0, v0), (1, v1)]) Try.func18 rfl ⟨rfl, rfl, trivial⟩ rfl (fun e h => ?_)
 unfold repository_Repository_Add at hF
 refine Run.seq ?_
 refine Run.reg ?_
 refine op (OpS.as rfl rfl rfl ?_)
 refine op (OpS.as rfl rfl rfl ?_)
 refine RunL.nil ?_
 refine Run.slim [(0, v0), (1, v1)] ⟨rfl, rfl, trivial⟩ ?_
 refine Run.seq ?_
 refine Run.block ?_
 refine Run.seq ?_
 refine Run.reg ?_
 refine op (OpS.mv rfl rfl rfl ?_)
 refine op (OpS.len h Try.underlying34 rfl rfl rfl (V.at .z) ?_)
 refine op (OpS.bin rfl rfl rfl rfl rfl ?_)
 refine op (OpS.mv rfl rfl rfl ?_)
 refine RunL.join (σ := Bool) (fun s_ L_ w_ => L_ = [(0, v0), (1, v1), (6, .bool s_)] ∧ St e w_ [(false, .val (Rep.slice (Rep.int .u8)) v1 a1)] [(false, .box 65 (Rep.iso (fun s : repository_Repository => (s.capacity, s.records, s.last, s.number, s.held, ())) (Rep.prod (Rep.int .i64) (Rep.prod (Rep.raw v0_0) (Rep.prod (Rep.int .u16) (Rep.prod (Rep.int .u16) (Rep.prod Rep.bool Rep.unit)))))) v0 a0), (false, .slice 67 repository_record.rep v0_0 a0.records)]) hF (fun s1 _ w1 hI hF => ?_) (fun j1 hj1 hF => ?_)
 ·
  obtain ⟨rfl, h1⟩ := hI
  refine Run.ite rfl hF (fun e1 hF => ?_) (fun e1 hF => ?_)
  ·
   refine Run.seq ?_
   refine Run.reg ?_
   refine op (OpS.as rfl rfl rfl ?_)
   refine op (OpS.as rfl rfl rfl ?_)
   refine RunL.nil ?_
   refine Run.slim [(5, .int .i64 1), (4, .int .u16 0)] ⟨rfl, rfl, trivial⟩ ?_
   refine Run.retP rfl (.tmp rfl (.tmp rfl .nil)) ?_
   cases hF
   exact Post.mk' ⟨v0_0, rfl, rfl, rfl, rfl⟩ (h1.picks (.cons .z (.cons .z .nil))) .nil
  ·
   refine Run.seq ?_
   refine Run.reg ?_
   refine op (OpS.mv rfl rfl rfl ?_)
   refine op (OpS.nchk h1 .z rfl rfl rfl ?_)
   refine op (OpS.fbox (o3 := 1) h1 .z PA.z fa65_1 rfl rfl rfl rfl ?_)
   refine op (OpS.loadR h1 .z PA.a (GetS.ok (GetS.iso _ (GetS.there (GetS.here GetS.id)))) ty63 rfl rfl rfl rfl rfl ?_)
   refine op (OpS.lenO h1 (.s .z) Try.underlying63 rfl rfl rfl ?_)
   refine op (OpS.bin rfl rfl rfl rfl rfl ?_)
   refine op (OpS.as rfl rfl rfl ?_)
   obtain ⟨x1, e2, hF⟩ := letP_use hF
   refine RunL.nameb e2 ?_
   refine RunL.nil ?_
   refine Run.slim [(15, .bool x1), (0, v0), (1, v1)] ⟨rfl, rfl, rfl, trivial⟩ ?_
   refine Run.ite rfl hF (fun e3 hF => ?_) (fun e3 hF => ?_)
   ·
    refine Run.seq ?_
    refine Run.reg ?_
    refine op (OpS.as rfl rfl rfl ?_)
    refine op (OpS.as rfl rfl rfl ?_)
    refine RunL.nil ?_
    refine Run.slim [(5, .int .i64 3), (4, .int .u16 0)] ⟨rfl, rfl, trivial⟩ ?_
    refine Run.retP rfl (.tmp rfl (.tmp rfl .nil)) ?_
    cases hF
    exact Post.mk' ⟨v0_0, rfl, rfl, rfl, rfl⟩ (h1.picks (.cons .z (.cons .z .nil))) .nil
   ·
    refine Run.seq ?_
    refine Run.reg ?_
    refine op (OpS.mv rfl rfl rfl ?_)
    refine op (OpS.len h1 Try.underlying34 rfl rfl rfl (V.at .z) ?_)
    refine op (OpS.mv rfl rfl rfl ?_)
    obtain ⟨y1, e4, hF⟩ := bindP_use hF
    have h2 := h1.front (.cons .z (.cons .z .nil))
    refine op (OpS.callO h2 Try.func19 rfl rfl rfl rfl (vs := [v0]) rfl (repository_Repository_Free_ok e4) rfl .nil ?_)
    rintro _ w2 _ _ _ ⟨rfl, rfl, rfl, rfl⟩ h3
    have h4 := h3
    simp only [List.cons_append, List.nil_append] at h4
    refine op (OpS.bin rfl rfl rfl rfl rfl ?_)
    refine op (OpS.as rfl rfl rfl ?_)
    obtain ⟨x2, e5, hF⟩ := letP_use hF
    refine RunL.nameb e5 ?_
    refine RunL.nil ?_
    refine Run.slim [(22, .bool x2), (0, v0), (1, v1)] ⟨rfl, rfl, rfl, trivial⟩ ?_
    refine Run.ite rfl hF (fun e6 hF => ?_) (fun e6 hF => ?_)
    ·
     refine Run.seq ?_
     refine Run.reg ?_
     refine op (OpS.as rfl rfl rfl ?_)
     refine op (OpS.as rfl rfl rfl ?_)
     refine RunL.nil ?_
     refine Run.slim [(5, .int .i64 9), (4, .int .u16 0)] ⟨rfl, rfl, trivial⟩ ?_
     refine Run.retP rfl (.tmp rfl (.tmp rfl .nil)) ?_
     cases hF
     exact Post.mk' ⟨v0_0, rfl, rfl, rfl, rfl⟩ (h4.picks (.cons .z (.cons .z .nil))) .nil
    ·
     refine Run.skip ?_
     refine Run.endBlock ?_
     refine Run.seq ?_
     refine Run.block ?_
     refine Run.slim [(0, v0), (1, v1)] ⟨rfl, rfl, trivial⟩ ?_
     refine Run.loopP (σ := repository_Repository) (fun s_ L_ w_ => L_ = [(0, v0), (1, v1)] ∧ St e w_ [(false, .val (Rep.slice (Rep.int .u8)) v1 a1)] [(false, .box 65 (Rep.iso (fun s : repository_Repository => (s.capacity, s.records, s.last, s.number, s.held, ())) (Rep.prod (Rep.int .i64) (Rep.prod (Rep.raw v0_0) (Rep.prod (Rep.int .u16) (Rep.prod (Rep.int .u16) (Rep.prod Rep.bool Rep.unit)))))) v0 s_), (false, .slice 67 repository_record.rep v0_0 s_.records)]) hF ⟨rfl, (h4.facts (.atm .z .nil)).picks (.cons .z (.cons .z .nil))⟩ (fun k1 hk1 s2 _ w3 hI hF => ?_)
     obtain ⟨rfl, h5⟩ := hI
     refine Run.block ?_
     refine Run.seq ?_
     refine Run.reg ?_
     refine op (OpS.mv rfl rfl rfl ?_)
     refine op (OpS.mv rfl rfl rfl ?_)
     refine op (OpS.nchk h5 .z rfl rfl rfl ?_)
     refine op (OpS.fbox (o3 := 2) h5 .z PA.z fa65_2 rfl rfl rfl rfl ?_)
     refine op (OpS.loadBi h5 .z PA.a (GetS.ok (GetS.iso _ (GetS.there (GetS.there (GetS.here GetS.id))))) ty32 rfl rfl rfl ?_)
     refine op (OpS.rem rfl rfl rfl rfl (by decide) ?_)
     refine op (OpS.bin rfl rfl rfl rfl rfl ?_)
     refine op (OpS.nchk h5 .z rfl rfl rfl ?_)
     refine op (OpS.fbox (o3 := 2) h5 .z PA.z fa65_2 rfl rfl rfl rfl ?_)
     obtain ⟨d1, e7, hF⟩ := letP_use hF
     refine op (OpS.storeC (f' := true) (fr := (Rep.int .u16)) (r' := (Rep.iso (fun s : repository_Repository => (s.capacity, s.records, s.last, s.number, s.held, ())) (Rep.prod (Rep.int .i64) (Rep.prod (Rep.raw v0_0) (Rep.prod (Rep.int .u16) (Rep.prod (Rep.int .u16) (Rep.prod Rep.bool Rep.unit))))))) (x' := d1) h5 .z PA.a (Chg.of (x' := { s2 with last := (IntKind.u16.wrap ((Int.tmod s2.last 65534) + 1)) }) (Chg.iso _ (Chg.there (Chg.there (Chg.here (Chg.id (by rfl)))))) e7) ty32 rfl rfl rfl V.int (.inr rfl) (fun w4 h6 => ?_))
     refine RunL.nil ?_
     refine Run.slim [(0, v0), (1, v1)] ⟨rfl, rfl, trivial⟩ ?_
     refine Run.seq ?_
     refine Run.reg ?_
     refine op (OpS.mv rfl rfl rfl ?_)
     refine op (OpS.mv rfl rfl rfl ?_)
     refine op (OpS.nchk h6 .z rfl rfl rfl ?_)
     refine op (OpS.fbox (o3 := 2) h6 .z PA.z fa65_2 rfl rfl rfl rfl ?_)
     refine op (OpS.loadBi h6 .z PA.a (GetS.ok (GetS.iso _ (GetS.there (GetS.there (GetS.here GetS.id))))) ty32 rfl rfl rfl ?_)
     have h7 := St.boxJ (r' := (Rep.iso (fun s : repository_Repository => (s.capacity, s.records, s.last, s.number, s.held, ())) (Rep.prod (Rep.int .i64) (Rep.prod (Rep.raw v0_0) (Rep.prod (Rep.int .u16) (Rep.prod (Rep.int .u16) (Rep.prod Rep.bool Rep.unit))))))) (x' := { d1 with records := s2.records }) (h6.pick .z) (fun _ _ hs_ => (Jn.iso _ (Jn.prod Jn.refl (Jn.prod Jn.same Jn.refl))))
     obtain ⟨y2, e8, hF⟩ := bindP_use hF
     have h8 := h7.front (.cons .z (.cons .z .nil))
     refine op (OpS.callO h8 Try.func39 rfl rfl rfl rfl (vs := [v0, .int .u16 d1.last]) rfl (repository_Repository_find_ok e8) rfl .nil ?_)
     rintro _ w5 _ _ _ ⟨rfl, rfl, rfl, rfl⟩ h9
     have h10 := h9
     simp only [List.cons_append, List.nil_append] at h10
     refine op (OpS.bin rfl rfl rfl rfl rfl ?_)
     refine RunL.nil ?_
     refine Run.slim [(43, .bool (decide (y2 < 0))), (0, v0), (1, v1)] ⟨rfl, rfl, rfl, trivial⟩ ?_
     refine Run.ite rfl hF (fun e9 hF => ?_) (fun e9 hF => ?_)
     ·
      refine Run.exit rfl ?_
      refine Run.seq ?_
      obtain ⟨y3, e10, hF⟩ := bindP_use hF
      obtain ⟨x3, e11, hF⟩ := bindP_use hF
      refine Run.drawV (Ωs := []) [⟨some 44, some (v0), fun _ => [], fun ds_ u_ => [], [], [], none⟩, ⟨some 45, some (v0), fun _ => [], fun ds_ u_ => [], [], [], none⟩, ⟨some 46, some (v0), fun _ => [], fun ds_ u_ => [], [], [(0, [])], none⟩, ⟨some 47, some ((padd v0 1)), fun _ => [], fun ds_ u_ => [], [], [(0, [])], none⟩, ⟨some 48, some (v0_0), fun _ => [], fun ds_ u_ => [], [], [(0, []), (1, [13, 4])], none⟩, ⟨some 49, some (v0), fun _ => [], fun ds_ u_ => [], [], [], none⟩, ⟨some 50, some (v0), fun _ => [], fun ds_ u_ => [], [], [(0, [])], none⟩, ⟨some 51, some ((padd v0 2)), fun _ => [], fun ds_ u_ => [], [], [(0, [])], none⟩, ⟨some 52, some (.int .u16 (({ d1 with records := s2.records }).last)), fun _ => [], fun ds_ u_ => [], [], [(0, [])], none⟩, ⟨some 53, some (v1), fun _ => [], fun ds_ u_ => [], [], [], none⟩, ⟨some 54, none, fun u_ => [(true, .val (Rep.slice (Rep.int .u8)) u_ y3)], fun ds_ u_ => [], [], [], none⟩, ⟨some 55, none, fun u_ => [(true, .val repository_record.rep u_ (⟨({ d1 with records := s2.records }).last, y3⟩ : repository_record))], fun ds_ u_ => [], [], [], none⟩, ⟨some 56, none, fun u_ => [(true, .val (Rep.slice repository_record.rep) u_ ([(⟨({ d1 with records := s2.records }).last, y3⟩ : repository_record)]))], fun ds_ u_ => [], [], [], none⟩, ⟨some 57, none, fun u_ => [], fun ds_ u_ => [(false, .slice 67 repository_record.rep u_ x3)], [1], [], none⟩] [[], [], [1], [2], [3], [], [5], [6], [7], [], [9], [8, 10], [11], [4, 12]] [[(false, .box 65 (Rep.iso (fun s : repository_Repository => (s.capacity, s.records, s.last, s.number, s.held, ())) (Rep.prod (Rep.int .i64) (Rep.prod (Rep.raw v0_0) (Rep.prod (Rep.int .u16) (Rep.prod (Rep.int .u16) (Rep.prod Rep.bool Rep.unit)))))) v0 ({ d1 with records := s2.records }))], [(false, .slice 67 repository_record.rep v0_0 s2.records)]] [0, 2, 3, 4, 5, 6, 7, 8, 9, 10, 11, 12, 13, 14, 15] Try_mixed rfl rfl rfl h10 (.cons ?_ (.cons ?_ (.cons ?_ (.cons ?_ (.cons ?_ (.cons ?_ (.cons ?_ (.cons ?_ (.cons ?_ (.cons ?_ (.cons ?_ (.cons ?_ (.cons ?_ (.cons ?_ .nil)))))))))))))) (fun q1 w hq1 h => ?_)
      ·intro q1 w Γx Ωx h
       refine OpS.mv rfl rfl rfl ?_
       exact ⟨undef, rfl, trivial, h⟩
      ·intro q1 w Γx Ωx h
       refine OpS.mv rfl rfl rfl ?_
       exact ⟨undef, rfl, trivial, h⟩
      ·intro q1 w Γx Ωx h
       have h : St e w ([(false, .val (Rep.slice (Rep.int .u8)) v1 a1)] ++ Γx) ([(false, .box 65 (Rep.iso (fun s : repository_Repository => (s.capacity, s.records, s.last, s.number, s.held, ())) (Rep.prod (Rep.int .i64) (Rep.prod (Rep.raw v0_0) (Rep.prod (Rep.int .u16) (Rep.prod (Rep.int .u16) (Rep.prod Rep.bool Rep.unit)))))) v0 ({ d1 with records := s2.records }))] ++ Ωx) := h
       refine OpS.nchk h .z rfl rfl rfl ?_
       exact ⟨undef, rfl, trivial, h⟩
      ·intro q1 w Γx Ωx h
       have h : St e w ([(false, .val (Rep.slice (Rep.int .u8)) v1 a1)] ++ Γx) ([(false, .box 65 (Rep.iso (fun s : repository_Repository => (s.capacity, s.records, s.last, s.number, s.held, ())) (Rep.prod (Rep.int .i64) (Rep.prod (Rep.raw v0_0) (Rep.prod (Rep.int .u16) (Rep.prod (Rep.int .u16) (Rep.prod Rep.bool Rep.unit)))))) v0 ({ d1 with records := s2.records }))] ++ Ωx) := h
       refine OpS.fbox (o3 := 1) h .z PA.z fa65_1 rfl rfl rfl rfl ?_
       exact ⟨undef, rfl, trivial, h⟩
      ·intro q1 w Γx Ωx h
       have h : St e w ([(false, .val (Rep.slice (Rep.int .u8)) v1 a1)] ++ Γx) ([(false, .box 65 (Rep.iso (fun s : repository_Repository => (s.capacity, s.records, s.last, s.number, s.held, ())) (Rep.prod (Rep.int .i64) (Rep.prod (Rep.raw v0_0) (Rep.prod (Rep.int .u16) (Rep.prod (Rep.int .u16) (Rep.prod Rep.bool Rep.unit)))))) v0 ({ d1 with records := s2.records })), (false, .slice 67 repository_record.rep v0_0 s2.records)] ++ Ωx) := h
       refine OpS.loadR h .z PA.a (GetS.ok (GetS.iso _ (GetS.there (GetS.here GetS.id)))) ty63 rfl rfl rfl rfl rfl ?_
       exact ⟨undef, rfl, trivial, h⟩
      ·intro q1 w Γx Ωx h
       refine OpS.mv rfl rfl rfl ?_
       exact ⟨undef, rfl, trivial, h⟩
      ·intro q1 w Γx Ωx h
       have h : St e w ([(false, .val (Rep.slice (Rep.int .u8)) v1 a1)] ++ Γx) ([(false, .box 65 (Rep.iso (fun s : repository_Repository => (s.capacity, s.records, s.last, s.number, s.held, ())) (Rep.prod (Rep.int .i64) (Rep.prod (Rep.raw v0_0) (Rep.prod (Rep.int .u16) (Rep.prod (Rep.int .u16) (Rep.prod Rep.bool Rep.unit)))))) v0 ({ d1 with records := s2.records }))] ++ Ωx) := h
       refine OpS.nchk h .z rfl rfl rfl ?_
       exact ⟨undef, rfl, trivial, h⟩
      ·intro q1 w Γx Ωx h
       have h : St e w ([(false, .val (Rep.slice (Rep.int .u8)) v1 a1)] ++ Γx) ([(false, .box 65 (Rep.iso (fun s : repository_Repository => (s.capacity, s.records, s.last, s.number, s.held, ())) (Rep.prod (Rep.int .i64) (Rep.prod (Rep.raw v0_0) (Rep.prod (Rep.int .u16) (Rep.prod (Rep.int .u16) (Rep.prod Rep.bool Rep.unit)))))) v0 ({ d1 with records := s2.records }))] ++ Ωx) := h
       refine OpS.fbox (o3 := 2) h .z PA.z fa65_2 rfl rfl rfl rfl ?_
       exact ⟨undef, rfl, trivial, h⟩
      ·intro q1 w Γx Ωx h
       have h : St e w ([(false, .val (Rep.slice (Rep.int .u8)) v1 a1)] ++ Γx) ([(false, .box 65 (Rep.iso (fun s : repository_Repository => (s.capacity, s.records, s.last, s.number, s.held, ())) (Rep.prod (Rep.int .i64) (Rep.prod (Rep.raw v0_0) (Rep.prod (Rep.int .u16) (Rep.prod (Rep.int .u16) (Rep.prod Rep.bool Rep.unit)))))) v0 ({ d1 with records := s2.records }))] ++ Ωx) := h
       refine OpS.loadBi h .z PA.a (GetS.ok (GetS.iso _ (GetS.there (GetS.there (GetS.here GetS.id))))) ty32 rfl rfl rfl ?_
       exact ⟨undef, rfl, trivial, h⟩
      ·intro q1 w Γx Ωx h
       refine OpS.mv rfl rfl rfl ?_
       exact ⟨undef, rfl, trivial, h⟩
      ·intro q1 w Γx Ωx h
       refine OpS.callP h Try.func38 rfl rfl rfl rfl (vs := [v1]) rfl (slices_Clone_byte_byte_ok e10) (.cons (f := false) (V.at .z) .nil) ?_
       rintro u w9 _ _ _ ⟨_, rfl, rfl, rfl, rfl⟩ h17
       have h18 := h17 rfl rfl
       simp only [List.cons_append, List.nil_append] at h18
       have h19 := h18.freeze
       exact ⟨u, rfl, trivial, h19⟩
      ·intro q1 w Γx Ωx h
       refine OpS.build (f := true) (x' := (⟨({ d1 with records := s2.records }).last, y3⟩ : repository_record)) h pl67 ti67 repository_record.zr rfl rfl rfl (.cons rfl repository_record.f0 rfl V.int (.cons rfl repository_record.f1 rfl (V.at .z) .nil)) (fun u h20 => ?_)
       exact ⟨u, rfl, trivial, h20⟩
      ·intro q1 w Γx Ωx h
       refine OpS.lit (r := repository_record.rep) (f := true) h Try.underlying63 ti67 rfl rfl rfl rfl rfl (.cons rfl (V.at .z) .nil) rfl rfl (fun u w10 h21 => ?_)
       exact ⟨u, rfl, trivial, h21⟩
      ·intro q1 w Γx Ωx h
       have h : St e w ([(true, .val (Rep.slice repository_record.rep) (q1 12) ([(⟨({ d1 with records := s2.records }).last, y3⟩ : repository_record)])), (false, .val (Rep.slice (Rep.int .u8)) v1 a1)] ++ Γx) ([(false, .slice 67 repository_record.rep v0_0 s2.records)] ++ Ωx) := h
       refine OpS.app (f' := true) h .z Try.underlying63 ti67 rfl rfl rfl rfl rfl rfl rfl (V.at .z) (.inl (.inl rfl)) e11 (fun u w11 h22 => ?_)
       exact ⟨u, rfl, trivial, h22⟩
      have h23 : St e w [(true, .val (Rep.slice (Rep.int .u8)) (q1 10) y3), (true, .val repository_record.rep (q1 11) (⟨({ d1 with records := s2.records }).last, y3⟩ : repository_record)), (true, .val (Rep.slice repository_record.rep) (q1 12) ([(⟨({ d1 with records := s2.records }).last, y3⟩ : repository_record)])), (false, .val (Rep.slice (Rep.int .u8)) v1 a1)] [(false, .box 65 (Rep.iso (fun s : repository_Repository => (s.capacity, s.records, s.last, s.number, s.held, ())) (Rep.prod (Rep.int .i64) (Rep.prod (Rep.raw v0_0) (Rep.prod (Rep.int .u16) (Rep.prod (Rep.int .u16) (Rep.prod Rep.bool Rep.unit)))))) v0 ({ d1 with records := s2.records })), (false, .slice 67 repository_record.rep (q1 13) x3)] := h
      refine op (OpS.nchk h23 .z rfl rfl rfl ?_)
      refine op (OpS.fbox (o3 := 1) h23 .z PA.z fa65_1 rfl rfl rfl rfl ?_)
      refine op (OpS.storeC (f' := false) (fr := (Rep.raw (q1 13))) (r' := (Rep.iso (fun s : repository_Repository => (s.capacity, s.records, s.last, s.number, s.held, ())) (Rep.prod (Rep.int .i64) (Rep.prod (Rep.raw (q1 13)) (Rep.prod (Rep.int .u16) (Rep.prod (Rep.int .u16) (Rep.prod Rep.bool Rep.unit))))))) (x' := { d1 with records := s2.records }) h23 .z PA.a (Chg.iso _ (Chg.there (Chg.here (Chg.id (by rfl))))) (Ty.like ty63 (by rfl) (by rfl)) rfl rfl rfl (V.raw (f := false) (St.own1 h23 (.s .z)) (({ d1 with records := s2.records }).records)) (.inr rfl) (fun w12 h24 => ?_))
      refine RunL.nil ?_
      refine Run.slim [(0, v0)] ⟨rfl, trivial⟩ ?_
      refine Run.seq ?_
      refine Run.reg ?_
      refine op (OpS.mv rfl rfl rfl ?_)
      refine op (OpS.nchk h24 .z rfl rfl rfl ?_)
      refine op (OpS.fbox (o3 := 4) h24 .z PA.z fa65_4 rfl rfl rfl rfl ?_)
      obtain ⟨d2, e12, hF⟩ := letP_use hF
      refine op (OpS.storeC (f' := true) (fr := Rep.bool) (r' := (Rep.iso (fun s : repository_Repository => (s.capacity, s.records, s.last, s.number, s.held, ())) (Rep.prod (Rep.int .i64) (Rep.prod (Rep.raw (q1 13)) (Rep.prod (Rep.int .u16) (Rep.prod (Rep.int .u16) (Rep.prod Rep.bool Rep.unit))))))) (x' := d2) h24 .z PA.a (Chg.of (x' := { { d1 with records := s2.records } with held := false }) (Chg.iso _ (Chg.there (Chg.there (Chg.there (Chg.there (Chg.here (Chg.id (by rfl)))))))) e12) ty4 rfl rfl rfl V.bool (.inr rfl) (fun w13 h25 => ?_))
      refine RunL.nil ?_
      refine Run.slim [(0, v0)] ⟨rfl, trivial⟩ ?_
      refine Run.seq ?_
      refine Run.reg ?_
      refine op (OpS.mv rfl rfl rfl ?_)
      refine op (OpS.nchk h25 .z rfl rfl rfl ?_)
      refine op (OpS.fbox (o3 := 2) h25 .z PA.z fa65_2 rfl rfl rfl rfl ?_)
      refine op (OpS.loadBi h25 .z PA.a (GetS.ok (GetS.iso _ (GetS.there (GetS.there (GetS.here GetS.id))))) ty32 rfl rfl rfl ?_)
      refine op (OpS.as rfl rfl rfl ?_)
      refine op (OpS.as rfl rfl rfl ?_)
      refine RunL.nil ?_
      refine Run.slim [(5, .int .i64 0), (4, .int .u16 d2.last)] ⟨rfl, rfl, trivial⟩ ?_
      have h26 := St.boxJ (r' := (Rep.iso (fun s : repository_Repository => (s.capacity, s.records, s.last, s.number, s.held, ())) (Rep.prod (Rep.int .i64) (Rep.prod (Rep.raw (q1 13)) (Rep.prod (Rep.int .u16) (Rep.prod (Rep.int .u16) (Rep.prod Rep.bool Rep.unit))))))) (x' := { d2 with records := x3 }) (h25.pick .z) (fun _ _ hs_ => (Jn.iso _ (Jn.prod Jn.refl (Jn.prod Jn.same Jn.refl))))
      refine Run.retP rfl (.tmp rfl (.tmp rfl .nil)) ?_
      cases hF
      exact Post.mk' ⟨(q1 13), rfl, rfl, rfl, rfl⟩ (h26.picks (.cons .z (.cons .z .nil))) .nil
     ·
      refine Run.skip ?_
      refine Run.endBlock ?_
      refine Run.slim [(0, v0), (1, v1)] ⟨rfl, rfl, trivial⟩ ?_
      exact hk1 ({ d1 with records := s2.records }) _ _ ⟨rfl, (h10.facts (.atm .z .nil)).picks (.cons .z (.cons .z .nil))⟩ hF
 ·
  refine RunL.caseb hF (fun e13 hF => ?_) (fun e13 hF => ?_)
  ·
   refine op (OpS.pass rfl rfl rfl ?_)
   refine op (OpS.pass rfl rfl rfl ?_)
   refine op (OpS.pass rfl rfl rfl ?_)
   refine op (OpS.pick rfl rfl rfl rfl ?_)
   refine op (OpS.as rfl rfl rfl ?_)
   refine RunL.nil ?_
   refine Run.slim [(6, .bool true), (0, v0), (1, v1)] ⟨rfl, rfl, rfl, trivial⟩ ?_
   refine Run.slim [(0, v0), (1, v1), (6, .bool true)] ⟨rfl, rfl, rfl, trivial⟩ ?_
   exact hj1 (true) _ _ ⟨rfl, (h.facts (.atm .z .nil)).picks (.cons .z (.cons .z .nil))⟩ hF
  ·
   refine op (OpS.mv rfl rfl rfl ?_)
   refine op (OpS.len h Try.underlying34 rfl rfl rfl (V.at .z) ?_)
   refine op (OpS.bin rfl rfl rfl rfl rfl ?_)
   refine op (OpS.pick rfl rfl rfl rfl ?_)
   refine op (OpS.as rfl rfl rfl ?_)
   obtain ⟨x4, e14, hF⟩ := letP_use hF
   refine RunL.nameb e14 ?_
   refine RunL.nil ?_
   refine Run.slim [(6, .bool x4), (0, v0), (1, v1)] ⟨rfl, rfl, rfl, trivial⟩ ?_
   refine Run.slim [(0, v0), (1, v1), (6, .bool x4)] ⟨rfl, rfl, rfl, trivial⟩ ?_
   exact hj1 (x4) _ _ ⟨rfl, (h.facts (.atm .z .nil)).picks (.cons .z (.cons .z .nil))⟩ hF
theorem repository_Repository_Reserve_ok {fuel : Nat} {a0 : repository_Repository} {y : Int × repository_Repository} (hF : repository_Repository_Reserve fuel a0 = some y) {w : World} {v0 v0_0 : Value} :
  Spec Try.prog 13 [v0].toArray w [] [(false, .box 65 (Rep.iso (fun s : repository_Repository => (s.capacity, s.records, s.last, s.number, s.held, ())) (Rep.prod (Rep.int .i64) (Rep.prod (Rep.raw v0_0) (Rep.prod (Rep.int .u16) (Rep.prod (Rep.int .u16) (Rep.prod Rep.bool Rep.unit)))))) v0 a0), (false, .slice 67 repository_record.rep v0_0 a0.records)] (fun v Γr Ωr Ωo => ∃ w0_0 : Value, v = .int .u16 y.1 ∧ Γr = [] ∧ Ωr = [] ∧ Ωo = [(false, .box 65 (Rep.iso (fun s : repository_Repository => (s.capacity, s.records, s.last, s.number, s.held, ())) (Rep.prod (Rep.int .i64) (Rep.prod (Rep.raw w0_0) (Rep.prod (Rep.int .u16) (Rep.prod (Rep.int .u16) (Rep.prod Rep.bool Rep.unit)))))) v0 y.2), (false, (.slice 67 repository_record.rep w0_0 y.2.records))]) := by
 refine Spec.of (L := [(0, v0)]) Try.func13 rfl ⟨rfl, trivial⟩ rfl (fun e h => ?_)
 unfold repository_Repository_Reserve at hF
 refine Run.seq ?_
 refine Run.reg ?_
 refine op (OpS.as rfl rfl rfl ?_)
 refine RunL.nil ?_
 refine Run.slim [(0, v0)] ⟨rfl, trivial⟩ ?_
 refine Run.seq ?_
 refine Run.seq ?_
 refine Run.reg ?_
 refine op (OpS.mv rfl rfl rfl ?_)
 refine op (OpS.nchk h .z rfl rfl rfl ?_)
 refine op (OpS.fbox (o3 := 3) h .z PA.z fa65_3 rfl rfl rfl rfl ?_)
 refine op (OpS.loadBi h .z PA.a (GetS.ok (GetS.iso _ (GetS.there (GetS.there (GetS.there (GetS.here GetS.id)))))) ty32 rfl rfl rfl ?_)
 refine op (OpS.bin rfl rfl rfl rfl rfl ?_)
 refine RunL.nil ?_
 refine Run.slim [(7, .bool (a0.number == 65535)), (0, v0)] ⟨rfl, rfl, trivial⟩ ?_
 refine Run.join (σ := repository_Repository) (fun s_ L_ w_ => L_ = [(0, v0)] ∧ St e w_ [] [(false, .box 65 (Rep.iso (fun s : repository_Repository => (s.capacity, s.records, s.last, s.number, s.held, ())) (Rep.prod (Rep.int .i64) (Rep.prod (Rep.raw v0_0) (Rep.prod (Rep.int .u16) (Rep.prod (Rep.int .u16) (Rep.prod Rep.bool Rep.unit)))))) v0 s_), (false, .slice 67 repository_record.rep v0_0 s_.records)]) hF (fun s1 _ w1 hI hF => ?_) (fun j1 hj1 hF => ?_)
 ·
  obtain ⟨rfl, h1⟩ := hI
  refine Run.seq ?_
  refine Run.reg ?_
  refine op (OpS.mv rfl rfl rfl ?_)
  refine op (OpS.nchk h1 .z rfl rfl rfl ?_)
  refine op (OpS.fbox (o3 := 3) h1 .z PA.z fa65_3 rfl rfl rfl rfl ?_)
  refine op (OpS.loadBi h1 .z PA.a (GetS.ok (GetS.iso _ (GetS.there (GetS.there (GetS.there (GetS.here GetS.id)))))) ty32 rfl rfl rfl ?_)
  refine op (OpS.bin rfl rfl rfl rfl rfl ?_)
  refine op (OpS.nchk h1 .z rfl rfl rfl ?_)
  refine op (OpS.fbox (o3 := 3) h1 .z PA.z fa65_3 rfl rfl rfl rfl ?_)
  obtain ⟨d1, e1, hF⟩ := letP_use hF
  refine op (OpS.storeC (f' := true) (fr := (Rep.int .u16)) (r' := (Rep.iso (fun s : repository_Repository => (s.capacity, s.records, s.last, s.number, s.held, ())) (Rep.prod (Rep.int .i64) (Rep.prod (Rep.raw v0_0) (Rep.prod (Rep.int .u16) (Rep.prod (Rep.int .u16) (Rep.prod Rep.bool Rep.unit))))))) (x' := d1) h1 .z PA.a (Chg.of (x' := { s1 with number := (IntKind.u16.wrap (s1.number + 1)) }) (Chg.iso _ (Chg.there (Chg.there (Chg.there (Chg.here (Chg.id (by rfl))))))) e1) ty32 rfl rfl rfl V.int (.inr rfl) (fun w2 h2 => ?_))
  refine RunL.nil ?_
  refine Run.slim [(0, v0)] ⟨rfl, trivial⟩ ?_
  refine Run.seq ?_
  refine Run.reg ?_
  refine op (OpS.mv rfl rfl rfl ?_)
  refine op (OpS.nchk h2 .z rfl rfl rfl ?_)
  refine op (OpS.fbox (o3 := 4) h2 .z PA.z fa65_4 rfl rfl rfl rfl ?_)
  obtain ⟨d2, e2, hF⟩ := letP_use hF
  refine op (OpS.storeC (f' := true) (fr := Rep.bool) (r' := (Rep.iso (fun s : repository_Repository => (s.capacity, s.records, s.last, s.number, s.held, ())) (Rep.prod (Rep.int .i64) (Rep.prod (Rep.raw v0_0) (Rep.prod (Rep.int .u16) (Rep.prod (Rep.int .u16) (Rep.prod Rep.bool Rep.unit))))))) (x' := d2) h2 .z PA.a (Chg.of (x' := { d1 with held := true }) (Chg.iso _ (Chg.there (Chg.there (Chg.there (Chg.there (Chg.here (Chg.id (by rfl)))))))) e2) ty4 rfl rfl rfl V.bool (.inr rfl) (fun w3 h3 => ?_))
  refine RunL.nil ?_
  refine Run.slim [(0, v0)] ⟨rfl, trivial⟩ ?_
  refine Run.seq ?_
  refine Run.reg ?_
  refine op (OpS.mv rfl rfl rfl ?_)
  refine op (OpS.nchk h3 .z rfl rfl rfl ?_)
  refine op (OpS.fbox (o3 := 3) h3 .z PA.z fa65_3 rfl rfl rfl rfl ?_)
  refine op (OpS.loadBi h3 .z PA.a (GetS.ok (GetS.iso _ (GetS.there (GetS.there (GetS.there (GetS.here GetS.id)))))) ty32 rfl rfl rfl ?_)
  refine op (OpS.as rfl rfl rfl ?_)
  refine RunL.nil ?_
  refine Run.slim [(2, .int .u16 d2.number)] ⟨rfl, trivial⟩ ?_
  have h4 := St.boxJ (r' := (Rep.iso (fun s : repository_Repository => (s.capacity, s.records, s.last, s.number, s.held, ())) (Rep.prod (Rep.int .i64) (Rep.prod (Rep.raw v0_0) (Rep.prod (Rep.int .u16) (Rep.prod (Rep.int .u16) (Rep.prod Rep.bool Rep.unit))))))) (x' := { d2 with records := s1.records }) (h3.pick .z) (fun _ _ hs_ => (Jn.iso _ (Jn.prod Jn.refl (Jn.prod Jn.same Jn.refl))))
  refine Run.retP rfl (.tmp rfl .nil) ?_
  cases hF
  exact Post.mk' ⟨v0_0, rfl, rfl, rfl, rfl⟩ (h4.picks (.cons .z (.cons .z .nil))) .nil
 ·
  refine Run.ite rfl hF (fun e3 hF => ?_) (fun e3 hF => ?_)
  ·
   refine Run.reg ?_
   refine op (OpS.mv rfl rfl rfl ?_)
   refine op (OpS.nchk h .z rfl rfl rfl ?_)
   refine op (OpS.fbox (o3 := 3) h .z PA.z fa65_3 rfl rfl rfl rfl ?_)
   obtain ⟨d3, e4, hF⟩ := letP_use hF
   refine op (OpS.storeC (f' := true) (fr := (Rep.int .u16)) (r' := (Rep.iso (fun s : repository_Repository => (s.capacity, s.records, s.last, s.number, s.held, ())) (Rep.prod (Rep.int .i64) (Rep.prod (Rep.raw v0_0) (Rep.prod (Rep.int .u16) (Rep.prod (Rep.int .u16) (Rep.prod Rep.bool Rep.unit))))))) (x' := d3) h .z PA.a (Chg.of (x' := { a0 with number := 0 }) (Chg.iso _ (Chg.there (Chg.there (Chg.there (Chg.here (Chg.id (by rfl))))))) e4) ty32 rfl rfl rfl V.int (.inr rfl) (fun w4 h5 => ?_))
   refine RunL.nil ?_
   refine Run.slim [(0, v0)] ⟨rfl, trivial⟩ ?_
   have h6 := St.boxJ (r' := (Rep.iso (fun s : repository_Repository => (s.capacity, s.records, s.last, s.number, s.held, ())) (Rep.prod (Rep.int .i64) (Rep.prod (Rep.raw v0_0) (Rep.prod (Rep.int .u16) (Rep.prod (Rep.int .u16) (Rep.prod Rep.bool Rep.unit))))))) (x' := { d3 with records := a0.records }) (h5.pick .z) (fun _ _ hs_ => (Jn.iso _ (Jn.prod Jn.refl (Jn.prod Jn.same Jn.refl))))
   refine Run.slim [(0, v0)] ⟨rfl, trivial⟩ ?_
   exact hj1 ({ d3 with records := a0.records }) _ _ ⟨rfl, (h6.facts .nil).picks (.cons .z (.cons .z .nil))⟩ hF
  ·
   refine Run.skip ?_
   refine Run.slim [(0, v0)] ⟨rfl, trivial⟩ ?_
   exact hj1 (a0) _ _ ⟨rfl, (h.facts .nil).picks (.cons .z (.cons .z .nil))⟩ hF
theorem repository_Repository_holds_ok {fuel : Nat} {a0 : repository_Repository} {a1 : Int} {y : Bool} (hF : repository_Repository_holds fuel a0 a1 = some y) {w : World} {v0 v0_0 : Value} :
  Spec Try.prog 36 [v0, .int .u16 a1].toArray w [] [(false, .box 65 (Rep.iso (fun s : repository_Repository => (s.capacity, s.records, s.last, s.number, s.held, ())) (Rep.prod (Rep.int .i64) (Rep.prod (Rep.raw v0_0) (Rep.prod (Rep.int .u16) (Rep.prod (Rep.int .u16) (Rep.prod Rep.bool Rep.unit)))))) v0 a0), (false, .slice 67 repository_record.rep v0_0 a0.records)] (fun v Γr Ωr Ωo => v = .bool y ∧ Γr = [] ∧ Ωr = [] ∧ Ωo = [(false, .box 65 (Rep.iso (fun s : repository_Repository => (s.capacity, s.records, s.last, s.number, s.held, ())) (Rep.prod (Rep.int .i64) (Rep.prod (Rep.raw v0_0) (Rep.prod (Rep.int .u16) (Rep.prod (Rep.int .u16) (Rep.prod Rep.bool Rep.unit)))))) v0 a0), (false, (.slice 67 repository_record.rep v0_0 a0.records))]) := by
 refine Spec.of (L := [(0, v0), (1, .int .u16 a1)]) Try.func36 rfl ⟨rfl, rfl, trivial⟩ rfl (fun e h => ?_)
 unfold repository_Repository_holds at hF
 refine Run.seq ?_
 refine Run.reg ?_
 refine op (OpS.as rfl rfl rfl ?_)
 refine RunL.nil ?_
 refine Run.slim [(0, v0), (1, .int .u16 a1)] ⟨rfl, rfl, trivial⟩ ?_
 refine Run.seq ?_
 refine Run.reg ?_
 refine op (OpS.mv rfl rfl rfl ?_)
 refine op (OpS.nchk h .z rfl rfl rfl ?_)
 refine op (OpS.fbox (o3 := 4) h .z PA.z fa65_4 rfl rfl rfl rfl ?_)
 refine op (OpS.loadBb h .z PA.a (GetS.ok (GetS.iso _ (GetS.there (GetS.there (GetS.there (GetS.there (GetS.here GetS.id))))))) ty4 rfl rfl rfl ?_)
 refine op (OpS.mv rfl rfl rfl ?_)
 refine RunL.caseb hF (fun e1 hF => ?_) (fun e1 hF => ?_)
 ·
  refine op (OpS.mv rfl rfl rfl ?_)
  refine op (OpS.mv rfl rfl rfl ?_)
  refine op (OpS.nchk h .z rfl rfl rfl ?_)
  refine op (OpS.fbox (o3 := 3) h .z PA.z fa65_3 rfl rfl rfl rfl ?_)
  refine op (OpS.loadBi h .z PA.a (GetS.ok (GetS.iso _ (GetS.there (GetS.there (GetS.there (GetS.here GetS.id)))))) ty32 rfl rfl rfl ?_)
  refine op (OpS.bin rfl rfl rfl rfl rfl ?_)
  refine op (OpS.pick rfl rfl rfl rfl ?_)
  refine op (OpS.as rfl rfl rfl ?_)
  obtain ⟨x1, e2, hF⟩ := letP_use hF
  refine RunL.nameb e2 ?_
  refine RunL.nil ?_
  refine Run.slim [(4, .bool x1)] ⟨rfl, trivial⟩ ?_
  refine Run.retP rfl (.tmp rfl .nil) ?_
  cases hF
  exact Post.mk' ⟨rfl, rfl, rfl, rfl⟩ (h.picks (.cons .z (.cons .z .nil))) .nil
 ·
  refine op (OpS.pass rfl rfl rfl ?_)
  refine op (OpS.pass rfl rfl rfl ?_)
  refine op (OpS.pass rfl rfl rfl ?_)
  refine op (OpS.pass rfl rfl rfl ?_)
  refine op (OpS.pass rfl rfl rfl ?_)
  refine op (OpS.pass rfl rfl rfl ?_)
  refine op (OpS.pick rfl rfl rfl rfl ?_)
  refine op (OpS.as rfl rfl rfl ?_)
  refine RunL.nil ?_
  refine Run.slim [(4, .bool false)] ⟨rfl, trivial⟩ ?_
  refine Run.retP rfl (.tmp rfl .nil) ?_
  cases hF
  exact Post.mk' ⟨rfl, rfl, rfl, rfl⟩ (h.picks (.cons .z (.cons .z .nil))) .nil
theorem repository_Repository_look_ok {fuel : Nat} {a0 : repository_Repository} {a1 : Int} {y : (List Int) × Int × Int} (hF : repository_Repository_look fuel a0 a1 = some y) {w : World} {v0 v0_0 : Value} :
  Spec Try.prog 37 [v0, .int .u16 a1].toArray w [] [(false, .box 65 (Rep.iso (fun s : repository_Repository => (s.capacity, s.records, s.last, s.number, s.held, ())) (Rep.prod (Rep.int .i64) (Rep.prod (Rep.raw v0_0) (Rep.prod (Rep.int .u16) (Rep.prod (Rep.int .u16) (Rep.prod Rep.bool Rep.unit)))))) v0 a0), (false, .slice 67 repository_record.rep v0_0 a0.records)] (fun v Γr Ωr Ωo => ∃ u0 : Value, v = .tuple #[u0, .int .u16 y.2.1, .int .i64 y.2.2] ∧ Γr = [(false, .val (Rep.slice (Rep.int .u8)) u0 y.1)] ∧ Ωr = [] ∧ Ωo = [(false, .box 65 (Rep.iso (fun s : repository_Repository => (s.capacity, s.records, s.last, s.number, s.held, ())) (Rep.prod (Rep.int .i64) (Rep.prod (Rep.raw v0_0) (Rep.prod (Rep.int .u16) (Rep.prod (Rep.int .u16) (Rep.prod Rep.bool Rep.unit)))))) v0 a0), (false, (.slice 67 repository_record.rep v0_0 a0.records))]) := by
 refine Spec.of (L := [(0, v0), (1, .int .u16 a1)]) Try.func37 rfl ⟨rfl, rfl, trivial⟩ rfl (fun e h => ?_)
 unfold repository_Repository_look at hF
 refine Run.seq ?_
 refine Run.reg ?_
 refine op (OpS.as rfl rfl rfl ?_)
 refine op (OpS.as rfl rfl rfl ?_)
 refine op (OpS.as rfl rfl rfl ?_)
 refine RunL.nil ?_
 refine Run.slim [(5, .int .u16 0), (0, v0), (1, .int .u16 a1)] ⟨rfl, rfl, rfl, trivial⟩ ?_
 refine Run.seq ?_
 refine Run.reg ?_
 refine op (OpS.mv rfl rfl rfl ?_)
 refine op (OpS.mv rfl rfl rfl ?_)
 obtain ⟨y1, e1, hF⟩ := bindP_use hF
 have h1 := h.front (.cons .z (.cons .z .nil))
 refine op (OpS.callO h1 Try.func39 rfl rfl rfl rfl (vs := [v0, .int .u16 a1]) rfl (repository_Repository_find_ok e1) rfl .nil ?_)
 rintro _ w1 _ _ _ ⟨rfl, rfl, rfl, rfl⟩ h2
 have h3 := h2
 simp only [List.cons_append, List.nil_append] at h3
 refine op (OpS.as rfl rfl rfl ?_)
 refine RunL.nil ?_
 refine Run.slim [(7, .int .i64 y1), (5, .int .u16 0), (0, v0), (1, .int .u16 a1)] ⟨rfl, rfl, rfl, rfl, trivial⟩ ?_
 refine Run.seq ?_
 refine Run.seq ?_
 refine Run.reg ?_
 refine op (OpS.mv rfl rfl rfl ?_)
 refine op (OpS.bin rfl rfl rfl rfl rfl ?_)
 refine RunL.nil ?_
 refine Run.slim [(12, .bool (a1 == 0)), (7, .int .i64 y1), (5, .int .u16 0), (0, v0)] ⟨rfl, rfl, rfl, rfl, trivial⟩ ?_
 refine Run.join (σ := Int) (fun s_ L_ w_ => L_ = [(0, v0), (5, .int .u16 0), (7, .int .i64 s_)] ∧ St e w_ [] [(false, .box 65 (Rep.iso (fun s : repository_Repository => (s.capacity, s.records, s.last, s.number, s.held, ())) (Rep.prod (Rep.int .i64) (Rep.prod (Rep.raw v0_0) (Rep.prod (Rep.int .u16) (Rep.prod (Rep.int .u16) (Rep.prod Rep.bool Rep.unit)))))) v0 a0), (false, .slice 67 repository_record.rep v0_0 a0.records)]) hF (fun s1 _ w2 hI hF => ?_) (fun j1 hj1 hF => ?_)
 ·
  obtain ⟨rfl, h4⟩ := hI
  refine Run.seq ?_
  refine Run.seq ?_
  refine Run.reg ?_
  refine op (OpS.mv rfl rfl rfl ?_)
  refine op (OpS.bin rfl rfl rfl rfl rfl ?_)
  refine op (OpS.mv rfl rfl rfl ?_)
  refine RunL.join (σ := Bool) (fun s_ L_ w_ => L_ = [(0, v0), (5, .int .u16 0), (7, .int .i64 s1), (23, .bool s_)] ∧ St e w_ [] [(false, .box 65 (Rep.iso (fun s : repository_Repository => (s.capacity, s.records, s.last, s.number, s.held, ())) (Rep.prod (Rep.int .i64) (Rep.prod (Rep.raw v0_0) (Rep.prod (Rep.int .u16) (Rep.prod (Rep.int .u16) (Rep.prod Rep.bool Rep.unit)))))) v0 a0), (false, .slice 67 repository_record.rep v0_0 a0.records)]) hF (fun s2 _ w3 hI hF => ?_) (fun j2 hj2 hF => ?_)
  ·
   obtain ⟨rfl, h5⟩ := hI
   refine Run.ite rfl hF (fun e2 hF => ?_) (fun e2 hF => ?_)
   ·
    refine Run.seq ?_
    refine Run.reg ?_
    refine op (OpS.as rfl rfl rfl ?_)
    refine op (OpS.as rfl rfl rfl ?_)
    refine op (OpS.as rfl rfl rfl ?_)
    refine RunL.nil ?_
    refine Run.slim [(6, .int .i64 8), (5, .int .u16 0), (4, .slice none 0 0)] ⟨rfl, rfl, rfl, trivial⟩ ?_
    refine Run.retP rfl (.tmp rfl (.tmp rfl (.tmp rfl .nil))) ?_
    cases hF
    exact Post.mk' ⟨.slice none 0 0, rfl, rfl, rfl, rfl⟩ (h5.picks (.cons .z (.cons .z .nil))) (.val V.nil .nil)
   ·
    refine Run.skip ?_
    refine Run.seq ?_
    refine Run.seq ?_
    refine Run.reg ?_
    refine op (OpS.mv rfl rfl rfl ?_)
    refine op (OpS.bin rfl rfl rfl rfl rfl ?_)
    refine op (OpS.mv rfl rfl rfl ?_)
    refine op (OpS.nchk h5 .z rfl rfl rfl ?_)
    refine op (OpS.fbox (o3 := 1) h5 .z PA.z fa65_1 rfl rfl rfl rfl ?_)
    refine op (OpS.loadR h5 .z PA.a (GetS.ok (GetS.iso _ (GetS.there (GetS.here GetS.id)))) ty63 rfl rfl rfl rfl rfl ?_)
    refine op (OpS.lenO h5 (.s .z) Try.underlying63 rfl rfl rfl ?_)
    refine op (OpS.bin rfl rfl rfl rfl rfl ?_)
    refine RunL.nil ?_
    refine Run.slim [(31, .bool (decide ((IntKind.i64.wrap (s1 + 1)) < (a0.records.length : Int)))), (0, v0), (5, .int .u16 0), (7, .int .i64 s1)] ⟨rfl, rfl, rfl, rfl, trivial⟩ ?_
    refine Run.join (σ := Int) (fun s_ L_ w_ => L_ = [(0, v0), (5, .int .u16 s_), (7, .int .i64 s1)] ∧ St e w_ [] [(false, .box 65 (Rep.iso (fun s : repository_Repository => (s.capacity, s.records, s.last, s.number, s.held, ())) (Rep.prod (Rep.int .i64) (Rep.prod (Rep.raw v0_0) (Rep.prod (Rep.int .u16) (Rep.prod (Rep.int .u16) (Rep.prod Rep.bool Rep.unit)))))) v0 a0), (false, .slice 67 repository_record.rep v0_0 a0.records)]) hF (fun s3 _ w4 hI hF => ?_) (fun j3 hj3 hF => ?_)
    ·
     obtain ⟨rfl, h6⟩ := hI
     refine Run.seq ?_
     refine Run.reg ?_
     refine op (OpS.mv rfl rfl rfl ?_)
     refine op (OpS.nchk h6 .z rfl rfl rfl ?_)
     refine op (OpS.fbox (o3 := 1) h6 .z PA.z fa65_1 rfl rfl rfl rfl ?_)
     refine op (OpS.loadR h6 .z PA.a (GetS.ok (GetS.iso _ (GetS.there (GetS.here GetS.id)))) ty63 rfl rfl rfl rfl rfl ?_)
     refine op (OpS.mv rfl rfl rfl ?_)
     obtain ⟨x1, e3, hF⟩ := bindP_use hF
     refine op (OpS.iown h6 (.s .z) Try.underlying63 ty67 rfl rfl rfl rfl e3 ?_)
     refine op (OpS.fown h6 (.s .z) (idx_ne e3) PA.a fa67_1 rfl rfl rfl ?_)
     refine op (OpS.loadO h6 (.s .z) (idx_ne e3) PA.a (Get.comp (Get.arr e3) (Get.fld repository_record.f1)) ty34 rfl rfl rfl (fun u1 h7 => ?_))
     refine op (OpS.mv rfl rfl rfl ?_)
     refine op (OpS.as rfl rfl rfl ?_)
     refine op (OpS.as rfl rfl rfl ?_)
     refine op (OpS.as rfl rfl rfl ?_)
     refine RunL.nil ?_
     refine Run.slim [(6, .int .i64 0), (5, .int .u16 s3), (4, u1)] ⟨rfl, rfl, rfl, trivial⟩ ?_
     refine Run.retP rfl (.tmp rfl (.tmp rfl (.tmp rfl .nil))) ?_
     cases hF
     exact Post.mk' ⟨u1, rfl, rfl, rfl, rfl⟩ (h7.picks (.cons .z (.cons .z .nil))) (.val (V.at .z) .nil)
    ·
     refine Run.ite rfl hF (fun e4 hF => ?_) (fun e4 hF => ?_)
     ·
      refine Run.reg ?_
      refine op (OpS.mv rfl rfl rfl ?_)
      refine op (OpS.nchk h5 .z rfl rfl rfl ?_)
      refine op (OpS.fbox (o3 := 1) h5 .z PA.z fa65_1 rfl rfl rfl rfl ?_)
      refine op (OpS.loadR h5 .z PA.a (GetS.ok (GetS.iso _ (GetS.there (GetS.here GetS.id)))) ty63 rfl rfl rfl rfl rfl ?_)
      refine op (OpS.mv rfl rfl rfl ?_)
      refine op (OpS.bin rfl rfl rfl rfl rfl ?_)
      obtain ⟨x2, e5, hF⟩ := bindP_use hF
      refine op (OpS.iown h5 (.s .z) Try.underlying63 ty67 rfl rfl rfl rfl e5 ?_)
      refine op (OpS.fown h5 (.s .z) (idx_ne e5) PA.a fa67_0 rfl rfl rfl ?_)
      refine op (OpS.loadOi h5 (.s .z) (idx_ne e5) PA.a (Get.comp (Get.arr e5) (Get.fld repository_record.f0)) ty32 rfl rfl rfl ?_)
      refine op (OpS.as rfl rfl rfl ?_)
      refine RunL.nil ?_
      refine Run.slim [(5, .int .u16 x2.id), (0, v0), (7, .int .i64 s1)] ⟨rfl, rfl, rfl, trivial⟩ ?_
      refine Run.slim [(0, v0), (5, .int .u16 x2.id), (7, .int .i64 s1)] ⟨rfl, rfl, rfl, trivial⟩ ?_
      exact hj3 (x2.id) _ _ ⟨rfl, (h5.facts .nil).picks (.cons .z (.cons .z .nil))⟩ hF
     ·
      refine Run.skip ?_
      refine Run.slim [(0, v0), (5, .int .u16 0), (7, .int .i64 s1)] ⟨rfl, rfl, rfl, trivial⟩ ?_
      exact hj3 (0) _ _ ⟨rfl, (h5.facts .nil).picks (.cons .z (.cons .z .nil))⟩ hF
  ·
   refine RunL.caseb hF (fun e6 hF => ?_) (fun e6 hF => ?_)
   ·
    refine op (OpS.pass rfl rfl rfl ?_)
    refine op (OpS.pass rfl rfl rfl ?_)
    refine op (OpS.pass rfl rfl rfl ?_)
    refine op (OpS.pass rfl rfl rfl ?_)
    refine op (OpS.pass rfl rfl rfl ?_)
    refine op (OpS.pass rfl rfl rfl ?_)
    refine op (OpS.pass rfl rfl rfl ?_)
    refine op (OpS.pick rfl rfl rfl rfl ?_)
    refine RunL.nil ?_
    refine Run.slim [(23, .bool true), (0, v0), (5, .int .u16 0), (7, .int .i64 s1)] ⟨rfl, rfl, rfl, rfl, trivial⟩ ?_
    refine Run.slim [(0, v0), (5, .int .u16 0), (7, .int .i64 s1), (23, .bool true)] ⟨rfl, rfl, rfl, rfl, trivial⟩ ?_
    exact hj2 (true) _ _ ⟨rfl, (h4.facts .nil).picks (.cons .z (.cons .z .nil))⟩ hF
   ·
    refine op (OpS.mv rfl rfl rfl ?_)
    refine op (OpS.mv rfl rfl rfl ?_)
    refine op (OpS.nchk h4 .z rfl rfl rfl ?_)
    refine op (OpS.fbox (o3 := 1) h4 .z PA.z fa65_1 rfl rfl rfl rfl ?_)
    refine op (OpS.loadR h4 .z PA.a (GetS.ok (GetS.iso _ (GetS.there (GetS.here GetS.id)))) ty63 rfl rfl rfl rfl rfl ?_)
    refine op (OpS.lenO h4 (.s .z) Try.underlying63 rfl rfl rfl ?_)
    refine op (OpS.bin rfl rfl rfl rfl rfl ?_)
    refine op (OpS.pick rfl rfl rfl rfl ?_)
    refine RunL.nil ?_
    refine Run.slim [(23, .bool (decide (s1 ≥ (a0.records.length : Int)))), (0, v0), (5, .int .u16 0), (7, .int .i64 s1)] ⟨rfl, rfl, rfl, rfl, trivial⟩ ?_
    refine Run.slim [(0, v0), (5, .int .u16 0), (7, .int .i64 s1), (23, .bool (decide (s1 ≥ (a0.records.length : Int))))] ⟨rfl, rfl, rfl, rfl, trivial⟩ ?_
    exact hj2 (decide (s1 ≥ (a0.records.length : Int))) _ _ ⟨rfl, (h4.facts .nil).picks (.cons .z (.cons .z .nil))⟩ hF
 ·
  refine Run.ite rfl hF (fun e7 hF => ?_) (fun e7 hF => ?_)
  ·
   refine Run.reg ?_
   refine op (OpS.as rfl rfl rfl ?_)
   refine RunL.nil ?_
   refine Run.slim [(7, .int .i64 0), (5, .int .u16 0), (0, v0)] ⟨rfl, rfl, rfl, trivial⟩ ?_
   refine Run.slim [(0, v0), (5, .int .u16 0), (7, .int .i64 0)] ⟨rfl, rfl, rfl, trivial⟩ ?_
   exact hj1 (0) _ _ ⟨rfl, (h3.facts .nil).picks (.cons .z (.cons .z .nil))⟩ hF
  ·
   refine Run.skip ?_
   refine Run.slim [(0, v0), (5, .int .u16 0), (7, .int .i64 y1)] ⟨rfl, rfl, rfl, trivial⟩ ?_
   exact hj1 (y1) _ _ ⟨rfl, (h3.facts .nil).picks (.cons .z (.cons .z .nil))⟩ hF
set_option maxHeartbeats 8000000 in
theorem repository_Repository_Read_ok {fuel : Nat} {a0 : repository_Repository} {a1 : Int} {a2 : Int} {a3 : Int} {a4 : Int} {y : (List Int) × Int × Int} (hF : repository_Repository_Read fuel a0 a1 a2 a3 a4 = some y) {w : World} {v0 v0_0 : Value} :
  Spec Try.prog 14 [v0, .int .u16 a1, .int .u16 a2, .int .i64 a3, .int .i64 a4].toArray w [] [(false, .box 65 (Rep.iso (fun s : repository_Repository => (s.capacity, s.records, s.last, s.number, s.held, ())) (Rep.prod (Rep.int .i64) (Rep.prod (Rep.raw v0_0) (Rep.prod (Rep.int .u16) (Rep.prod (Rep.int .u16) (Rep.prod Rep.bool Rep.unit)))))) v0 a0), (false, .slice 67 repository_record.rep v0_0 a0.records)] (fun v Γr Ωr Ωo => ∃ u0 : Value, v = .tuple #[u0, .int .u16 y.2.1, .int .i64 y.2.2] ∧ Γr = [] ∧ Ωr = [(true, .slice 5 (Rep.int .u8) u0 y.1)] ∧ Ωo = [(false, .box 65 (Rep.iso (fun s : repository_Repository => (s.capacity, s.records, s.last, s.number, s.held, ())) (Rep.prod (Rep.int .i64) (Rep.prod (Rep.raw v0_0) (Rep.prod (Rep.int .u16) (Rep.prod (Rep.int .u16) (Rep.prod Rep.bool Rep.unit)))))) v0 a0), (false, (.slice 67 repository_record.rep v0_0 a0.records))]) := by
 refine Spec.of (L := [(0, v0), (1, .int .u16 a1), (2, .int .u16 a2), (3, .int .i64 a3), (4, .int .i64 a4)]) Try.func14 rfl ⟨rfl, rfl, rfl, rfl, rfl, trivial⟩ rfl (fun e h => ?_)
 unfold repository_Repository_Read at hF
 refine Run.seq ?_
 refine Run.reg ?_
 refine op (OpS.as rfl rfl rfl ?_)
 refine op (OpS.as rfl rfl rfl ?_)
 refine op (OpS.as rfl rfl rfl ?_)
 refine RunL.nil ?_
 refine Run.slim [(0, v0), (1, .int .u16 a1), (2, .int .u16 a2), (3, .int .i64 a3), (4, .int .i64 a4)] ⟨rfl, rfl, rfl, rfl, rfl, trivial⟩ ?_
 refine Run.seq ?_
 refine Run.seq ?_
 refine Run.reg ?_
 refine op (OpS.mv rfl rfl rfl ?_)
 refine op (OpS.bin rfl rfl rfl rfl rfl ?_)
 refine op (OpS.mv rfl rfl rfl ?_)
 refine RunL.join (σ := Bool) (fun s_ L_ w_ => L_ = [(0, v0), (2, .int .u16 a2), (3, .int .i64 a3), (4, .int .i64 a4), (20, .bool s_)] ∧ St e w_ [] [(false, .box 65 (Rep.iso (fun s : repository_Repository => (s.capacity, s.records, s.last, s.number, s.held, ())) (Rep.prod (Rep.int .i64) (Rep.prod (Rep.raw v0_0) (Rep.prod (Rep.int .u16) (Rep.prod (Rep.int .u16) (Rep.prod Rep.bool Rep.unit)))))) v0 a0), (false, .slice 67 repository_record.rep v0_0 a0.records)]) hF (fun s1 _ w1 hI hF => ?_) (fun j1 hj1 hF => ?_)
 ·
  obtain ⟨rfl, h1⟩ := hI
  refine Run.ite rfl hF (fun e1 hF => ?_) (fun e1 hF => ?_)
  ·
   refine Run.seq ?_
   refine Run.reg ?_
   refine op (OpS.as rfl rfl rfl ?_)
   refine op (OpS.as rfl rfl rfl ?_)
   refine op (OpS.as rfl rfl rfl ?_)
   refine RunL.nil ?_
   refine Run.slim [(12, .int .i64 11), (11, .int .u16 0), (10, .slice none 0 0)] ⟨rfl, rfl, rfl, trivial⟩ ?_
   have h2 := St.nil 5 (Rep.int .u8) h1
   refine Run.retP rfl (.tmp rfl (.tmp rfl (.tmp rfl .nil))) ?_
   cases hF
   exact Post.mk' ⟨(.slice none 0 0), rfl, rfl, rfl, rfl⟩ (h2.picks (.cons .z (.cons .z (.cons .z .nil)))) .nil
  ·
   refine Run.skip ?_
   refine Run.seq ?_
   refine Run.reg ?_
   refine op (OpS.mv rfl rfl rfl ?_)
   refine op (OpS.mv rfl rfl rfl ?_)
   obtain ⟨y1, e2, hF⟩ := bindP_use hF
   have h3 := h1.front (.cons .z (.cons .z .nil))
   refine op (OpS.callO h3 Try.func37 rfl rfl rfl rfl (vs := [v0, .int .u16 a2]) rfl (repository_Repository_look_ok e2) rfl .nil ?_)
   rintro _ w2 _ _ _ ⟨u1, rfl, rfl, rfl, rfl⟩ h4
   have h5 := h4
   simp only [List.cons_append, List.nil_append] at h5
   refine op (OpS.mv rfl rfl rfl ?_)
   refine op (OpS.ext rfl rfl rfl rfl ?_)
   refine op (OpS.ext rfl rfl rfl rfl ?_)
   refine op (OpS.ext rfl rfl rfl rfl ?_)
   refine op (OpS.as rfl rfl rfl ?_)
   refine op (OpS.as rfl rfl rfl ?_)
   refine op (OpS.as rfl rfl rfl ?_)
   refine RunL.nil ?_
   refine Run.slim [(12, .int .i64 y1.2.2), (11, .int .u16 y1.2.1), (10, u1), (3, .int .i64 a3), (4, .int .i64 a4)] ⟨rfl, rfl, rfl, rfl, rfl, trivial⟩ ?_
   refine Run.seq ?_
   refine Run.block ?_
   refine Run.seq ?_
   refine Run.reg ?_
   refine op (OpS.mv rfl rfl rfl ?_)
   refine op (OpS.bin rfl rfl rfl rfl rfl ?_)
   refine op (OpS.as rfl rfl rfl ?_)
   obtain ⟨x1, e3, hF⟩ := letP_use hF
   refine RunL.nameb e3 ?_
   refine RunL.nil ?_
   refine Run.slim [(28, .bool x1), (12, .int .i64 y1.2.2), (11, .int .u16 y1.2.1), (10, u1), (3, .int .i64 a3), (4, .int .i64 a4)] ⟨rfl, rfl, rfl, rfl, rfl, rfl, trivial⟩ ?_
   refine Run.ite rfl hF (fun e4 hF => ?_) (fun e4 hF => ?_)
   ·
    refine Run.seq ?_
    refine Run.reg ?_
    refine op (OpS.mv rfl rfl rfl ?_)
    refine op (OpS.as rfl rfl rfl ?_)
    refine op (OpS.as rfl rfl rfl ?_)
    refine op (OpS.as rfl rfl rfl ?_)
    refine RunL.nil ?_
    refine Run.slim [(12, .int .i64 y1.2.2), (11, .int .u16 0), (10, .slice none 0 0)] ⟨rfl, rfl, rfl, trivial⟩ ?_
    have h6 := St.nil 5 (Rep.int .u8) h5
    refine Run.retP rfl (.tmp rfl (.tmp rfl (.tmp rfl .nil))) ?_
    cases hF
    exact Post.mk' ⟨(.slice none 0 0), rfl, rfl, rfl, rfl⟩ (h6.picks (.cons .z (.cons .z (.cons .z .nil)))) .nil
   ·
    refine Run.seq ?_
    refine Run.reg ?_
    refine op (OpS.mv rfl rfl rfl ?_)
    refine op (OpS.bin rfl rfl rfl rfl rfl ?_)
    refine op (OpS.mv rfl rfl rfl ?_)
    refine RunL.join (σ := Bool) (fun s_ L_ w_ => L_ = [(3, .int .i64 a3), (4, .int .i64 a4), (10, u1), (11, .int .u16 y1.2.1), (32, .bool s_)] ∧ St e w_ [(false, .val (Rep.slice (Rep.int .u8)) u1 y1.1)] [(false, .box 65 (Rep.iso (fun s : repository_Repository => (s.capacity, s.records, s.last, s.number, s.held, ())) (Rep.prod (Rep.int .i64) (Rep.prod (Rep.raw v0_0) (Rep.prod (Rep.int .u16) (Rep.prod (Rep.int .u16) (Rep.prod Rep.bool Rep.unit)))))) v0 a0), (false, .slice 67 repository_record.rep v0_0 a0.records)]) hF (fun s2 _ w3 hI hF => ?_) (fun j2 hj2 hF => ?_)
    ·
     obtain ⟨rfl, h7⟩ := hI
     refine Run.ite rfl hF (fun e5 hF => ?_) (fun e5 hF => ?_)
     ·
      refine Run.seq ?_
      refine Run.reg ?_
      refine op (OpS.as rfl rfl rfl ?_)
      refine op (OpS.as rfl rfl rfl ?_)
      refine op (OpS.as rfl rfl rfl ?_)
      refine RunL.nil ?_
      refine Run.slim [(12, .int .i64 2), (11, .int .u16 0), (10, .slice none 0 0)] ⟨rfl, rfl, rfl, trivial⟩ ?_
      have h8 := St.nil 5 (Rep.int .u8) h7
      refine Run.retP rfl (.tmp rfl (.tmp rfl (.tmp rfl .nil))) ?_
      cases hF
      exact Post.mk' ⟨(.slice none 0 0), rfl, rfl, rfl, rfl⟩ (h8.picks (.cons .z (.cons .z (.cons .z .nil)))) .nil
     ·
      refine Run.skip ?_
      refine Run.endBlock ?_
      refine Run.seq ?_
      refine Run.reg ?_
      refine op (OpS.mv rfl rfl rfl ?_)
      refine op (OpS.mv rfl rfl rfl ?_)
      refine op (OpS.mv rfl rfl rfl ?_)
      refine op (OpS.mv rfl rfl rfl ?_)
      refine op (OpS.bin rfl rfl rfl rfl rfl ?_)
      obtain ⟨x2, e6, hF⟩ := bindP_use hF
      refine op (OpS.sub h7 Try.underlying34 ty5 rfl rfl rfl rfl rfl (V.at .z) e6 (fun u2 h9 => ?_))
      obtain ⟨y2, e7, hF⟩ := bindP_use hF
      refine op (OpS.callP h9 Try.func38 rfl rfl rfl rfl (vs := [u2]) rfl (slices_Clone_byte_byte_ok e7) (.cons (f := false) (V.at .z) .nil) ?_)
      rintro u3 w4 _ _ _ ⟨_, rfl, rfl, rfl, rfl⟩ h10
      have h11 := h10 rfl rfl
      simp only [List.cons_append, List.nil_append] at h11
      refine op (OpS.mv rfl rfl rfl ?_)
      refine op (OpS.as rfl rfl rfl ?_)
      refine op (OpS.as rfl rfl rfl ?_)
      refine op (OpS.as rfl rfl rfl ?_)
      refine RunL.nil ?_
      refine Run.slim [(12, .int .i64 0), (11, .int .u16 y1.2.1), (10, u3)] ⟨rfl, rfl, rfl, trivial⟩ ?_
      refine Run.retP rfl (.tmp rfl (.tmp rfl (.tmp rfl .nil))) ?_
      cases hF
      exact Post.mk' ⟨u3, rfl, rfl, rfl, rfl⟩ (h11.picks (.cons .z (.cons .z (.cons .z .nil)))) .nil
    ·
     refine RunL.caseb hF (fun e8 hF => ?_) (fun e8 hF => ?_)
     ·
      refine op (OpS.pass rfl rfl rfl ?_)
      refine op (OpS.pass rfl rfl rfl ?_)
      refine op (OpS.pick rfl rfl rfl rfl ?_)
      refine op (OpS.mv rfl rfl rfl ?_)
      refine op (OpS.pass rfl rfl rfl ?_)
      refine op (OpS.pass rfl rfl rfl ?_)
      refine op (OpS.pass rfl rfl rfl ?_)
      refine op (OpS.pass rfl rfl rfl ?_)
      refine op (OpS.pick rfl rfl rfl rfl ?_)
      refine op (OpS.mv rfl rfl rfl ?_)
      refine op (OpS.pass rfl rfl rfl ?_)
      refine op (OpS.pass rfl rfl rfl ?_)
      refine op (OpS.pass rfl rfl rfl ?_)
      refine op (OpS.pass rfl rfl rfl ?_)
      refine op (OpS.pass rfl rfl rfl ?_)
      refine op (OpS.pass rfl rfl rfl ?_)
      refine op (OpS.pick rfl rfl rfl rfl ?_)
      refine op (OpS.as rfl rfl rfl ?_)
      refine RunL.nil ?_
      refine Run.slim [(32, .bool true), (11, .int .u16 y1.2.1), (10, u1), (3, .int .i64 a3), (4, .int .i64 a4)] ⟨rfl, rfl, rfl, rfl, rfl, trivial⟩ ?_
      refine Run.slim [(3, .int .i64 a3), (4, .int .i64 a4), (10, u1), (11, .int .u16 y1.2.1), (32, .bool true)] ⟨rfl, rfl, rfl, rfl, rfl, trivial⟩ ?_
      exact hj2 (true) _ _ ⟨rfl, (h5.facts (.atm .z .nil)).picks (.cons .z (.cons .z .nil))⟩ hF
     ·
      refine op (OpS.mv rfl rfl rfl ?_)
      refine op (OpS.bin rfl rfl rfl rfl rfl ?_)
      refine op (OpS.pick rfl rfl rfl rfl ?_)
      refine op (OpS.mv rfl rfl rfl ?_)
      refine RunL.caseb hF (fun e9 hF => ?_) (fun e9 hF => ?_)
      ·
       refine op (OpS.pass rfl rfl rfl ?_)
       refine op (OpS.pass rfl rfl rfl ?_)
       refine op (OpS.pass rfl rfl rfl ?_)
       refine op (OpS.pass rfl rfl rfl ?_)
       refine op (OpS.pick rfl rfl rfl rfl ?_)
       refine op (OpS.mv rfl rfl rfl ?_)
       refine op (OpS.pass rfl rfl rfl ?_)
       refine op (OpS.pass rfl rfl rfl ?_)
       refine op (OpS.pass rfl rfl rfl ?_)
       refine op (OpS.pass rfl rfl rfl ?_)
       refine op (OpS.pass rfl rfl rfl ?_)
       refine op (OpS.pass rfl rfl rfl ?_)
       refine op (OpS.pick rfl rfl rfl rfl ?_)
       refine op (OpS.as rfl rfl rfl ?_)
       refine RunL.nil ?_
       refine Run.slim [(32, .bool true), (11, .int .u16 y1.2.1), (10, u1), (3, .int .i64 a3), (4, .int .i64 a4)] ⟨rfl, rfl, rfl, rfl, rfl, trivial⟩ ?_
       refine Run.slim [(3, .int .i64 a3), (4, .int .i64 a4), (10, u1), (11, .int .u16 y1.2.1), (32, .bool true)] ⟨rfl, rfl, rfl, rfl, rfl, trivial⟩ ?_
       exact hj2 (true) _ _ ⟨rfl, (h5.facts (.atm .z .nil)).picks (.cons .z (.cons .z .nil))⟩ hF
      ·
       refine op (OpS.mv rfl rfl rfl ?_)
       refine op (OpS.mv rfl rfl rfl ?_)
       refine op (OpS.len h5 Try.underlying34 rfl rfl rfl (V.at .z) ?_)
       refine op (OpS.bin rfl rfl rfl rfl rfl ?_)
       refine op (OpS.pick rfl rfl rfl rfl ?_)
       refine op (OpS.mv rfl rfl rfl ?_)
       refine RunL.caseb hF (fun e10 hF => ?_) (fun e10 hF => ?_)
       ·
        refine op (OpS.pass rfl rfl rfl ?_)
        refine op (OpS.pass rfl rfl rfl ?_)
        refine op (OpS.pass rfl rfl rfl ?_)
        refine op (OpS.pass rfl rfl rfl ?_)
        refine op (OpS.pass rfl rfl rfl ?_)
        refine op (OpS.pass rfl rfl rfl ?_)
        refine op (OpS.pick rfl rfl rfl rfl ?_)
        refine op (OpS.as rfl rfl rfl ?_)
        refine RunL.nil ?_
        refine Run.slim [(32, .bool true), (11, .int .u16 y1.2.1), (10, u1), (3, .int .i64 a3), (4, .int .i64 a4)] ⟨rfl, rfl, rfl, rfl, rfl, trivial⟩ ?_
        refine Run.slim [(3, .int .i64 a3), (4, .int .i64 a4), (10, u1), (11, .int .u16 y1.2.1), (32, .bool true)] ⟨rfl, rfl, rfl, rfl, rfl, trivial⟩ ?_
        exact hj2 (true) _ _ ⟨rfl, (h5.facts (.atm .z .nil)).picks (.cons .z (.cons .z .nil))⟩ hF
       ·
        refine op (OpS.mv rfl rfl rfl ?_)
        refine op (OpS.mv rfl rfl rfl ?_)
        refine op (OpS.len h5 Try.underlying34 rfl rfl rfl (V.at .z) ?_)
        refine op (OpS.mv rfl rfl rfl ?_)
        refine op (OpS.bin rfl rfl rfl rfl rfl ?_)
        refine op (OpS.bin rfl rfl rfl rfl rfl ?_)
        refine op (OpS.pick rfl rfl rfl rfl ?_)
        refine op (OpS.as rfl rfl rfl ?_)
        obtain ⟨x3, e11, hF⟩ := letP_use hF
        refine RunL.nameb e11 ?_
        refine RunL.nil ?_
        refine Run.slim [(32, .bool x3), (11, .int .u16 y1.2.1), (10, u1), (3, .int .i64 a3), (4, .int .i64 a4)] ⟨rfl, rfl, rfl, rfl, rfl, trivial⟩ ?_
        refine Run.slim [(3, .int .i64 a3), (4, .int .i64 a4), (10, u1), (11, .int .u16 y1.2.1), (32, .bool x3)] ⟨rfl, rfl, rfl, rfl, rfl, trivial⟩ ?_
        exact hj2 (x3) _ _ ⟨rfl, (h5.facts (.atm .z .nil)).picks (.cons .z (.cons .z .nil))⟩ hF
 ·
  refine RunL.caseb hF (fun e12 hF => ?_) (fun e12 hF => ?_)
  ·
   refine op (OpS.mv rfl rfl rfl ?_)
   refine op (OpS.mv rfl rfl rfl ?_)
   obtain ⟨y3, e13, hF⟩ := bindP_use hF
   have h12 := h.front (.cons .z (.cons .z .nil))
   refine op (OpS.callO h12 Try.func36 rfl rfl rfl rfl (vs := [v0, .int .u16 a1]) rfl (repository_Repository_holds_ok e13) rfl .nil ?_)
   rintro _ w5 _ _ _ ⟨rfl, rfl, rfl, rfl⟩ h13
   have h14 := h13
   simp only [List.cons_append, List.nil_append] at h14
   refine op (OpS.not rfl rfl rfl ?_)
   refine op (OpS.pick rfl rfl rfl rfl ?_)
   refine RunL.nil ?_
   refine Run.slim [(20, .bool (!y3)), (0, v0), (2, .int .u16 a2), (3, .int .i64 a3), (4, .int .i64 a4)] ⟨rfl, rfl, rfl, rfl, rfl, trivial⟩ ?_
   refine Run.slim [(0, v0), (2, .int .u16 a2), (3, .int .i64 a3), (4, .int .i64 a4), (20, .bool (!y3))] ⟨rfl, rfl, rfl, rfl, rfl, trivial⟩ ?_
   exact hj1 (!y3) _ _ ⟨rfl, (h14.facts .nil).picks (.cons .z (.cons .z .nil))⟩ hF
  ·
   refine op (OpS.pass rfl rfl rfl ?_)
   refine op (OpS.pass rfl rfl rfl ?_)
   refine op (OpS.pass rfl rfl rfl ?_)
   refine op (OpS.pass rfl rfl rfl ?_)
   refine op (OpS.pick rfl rfl rfl rfl ?_)
   refine RunL.nil ?_
   refine Run.slim [(20, .bool false), (0, v0), (2, .int .u16 a2), (3, .int .i64 a3), (4, .int .i64 a4)] ⟨rfl, rfl, rfl, rfl, rfl, trivial⟩ ?_
   refine Run.slim [(0, v0), (2, .int .u16 a2), (3, .int .i64 a3), (4, .int .i64 a4), (20, .bool false)] ⟨rfl, rfl, rfl, rfl, rfl, trivial⟩ ?_
   exact hj1 (false) _ _ ⟨rfl, (h.facts .nil).picks (.cons .z (.cons .z .nil))⟩ hF
set_option maxHeartbeats 8000000 in
theorem law11_awake_ok {fuel : Nat}  {y : Bool} (hF : law11_awake fuel  = some y) {w : World} :
  Spec Try.prog 9 [].toArray w [] [] (fun v Γr Ωr Ωo => v = .bool y ∧ Γr = [] ∧ Ωr = [] ∧ Ωo = []) := by
 refine Spec.of (L := []) Try.func9 rfl trivial rfl (fun e h => ?_)
 unfold law11_awake at hF
 refine Run.seq ?_
 refine Run.reg ?_
 refine op (OpS.as rfl rfl rfl ?_)
 refine RunL.nil ?_
 refine Run.slim [] trivial ?_
 refine Run.seq ?_
 refine Run.reg ?_
 obtain ⟨y1, e1, hF⟩ := bindP_use hF
 refine op (OpS.callP h Try.func17 rfl rfl rfl rfl (vs := [.int .i64 100]) rfl (repository_New_ok e1) .nil ?_)
 rintro _ w1 _ _ _ ⟨u1, rfl, rfl, rfl, rfl⟩ h1
 have h2 := h1 rfl rfl
 simp only [List.cons_append, List.nil_append] at h2
 refine op (OpS.mv rfl rfl rfl ?_)
 refine op (OpS.ext rfl rfl rfl rfl ?_)
 refine op (OpS.ext rfl rfl rfl rfl ?_)
 refine op (OpS.as rfl rfl rfl ?_)
 refine op (OpS.as rfl rfl rfl ?_)
 refine RunL.nil ?_
 refine Run.slim [(2, .int .i64 y1.2), (1, u1)] ⟨rfl, rfl, trivial⟩ ?_
 refine Run.seq ?_
 refine Run.seq ?_
 refine Run.reg ?_
 refine op (OpS.mv rfl rfl rfl ?_)
 refine op (OpS.onilE h2 .z (fun _ G_ S_ w_ h_ => ptr_one1 G_ S_ w_ h_) Try.underlying25 rfl rfl rfl rfl ?_)
 refine op (OpS.mv rfl rfl rfl ?_)
 refine RunL.join (σ := Bool) (fun s_ L_ w_ => L_ = [(1, u1), (23, .bool s_)] ∧ St e w_ [] [(true, .opt (fun x_ => .ex fun v_ => .sep (.box 65 (Rep.iso (fun s : repository_Repository => (s.capacity, s.records, s.last, s.number, s.held, ())) (Rep.prod (Rep.int .i64) (Rep.prod (Rep.raw v_) (Rep.prod (Rep.int .u16) (Rep.prod (Rep.int .u16) (Rep.prod Rep.bool Rep.unit)))))) u1 x_) (.slice 67 repository_record.rep v_ x_.records)) u1 y1.1)]) hF (fun s1 _ w2 hI hF => ?_) (fun j1 hj1 hF => ?_)
 ·
  obtain ⟨rfl, h3⟩ := hI
  refine Run.ite rfl hF (fun e2 hF => ?_) (fun e2 hF => ?_)
  ·
   refine Run.seq ?_
   refine Run.reg ?_
   refine op (OpS.as rfl rfl rfl ?_)
   refine RunL.nil ?_
   refine Run.slim [(0, .bool false)] ⟨rfl, trivial⟩ ?_
   refine Run.retP rfl (.tmp rfl .nil) ?_
   cases hF
   exact Post.mk' ⟨rfl, rfl, rfl, rfl⟩ (h3.picks .nil) .nil
  ·
   refine Run.skip ?_
   refine Run.seq ?_
   refine Run.reg ?_
   refine op (OpS.mv rfl rfl rfl ?_)
   refine op (OpS.lit (r := (Rep.int .u8)) (f := true) h3 Try.underlying34 ti5 rfl rfl rfl rfl rfl (.cons rfl V.int (.cons rfl V.int .nil)) rfl rfl (fun u2 w3 h4 => ?_))
   obtain ⟨x1, e3, hF⟩ := bindP_use hF
   have h5 := St.unopt (h4.pick .z) e3
   obtain ⟨u3, h6⟩ := h5.one1
   obtain ⟨y2, e4, hF⟩ := bindP_use hF
   have h7 := (h6.pick .z).weak
   have h8 := (h7.pick (.s .z)).weak
   have h9 := h8.front (.cons (.s .z) (.cons .z .nil))
   refine op (OpS.callO h9 Try.func18 rfl rfl rfl rfl (vs := [u1, u2]) rfl (repository_Repository_Add_ok e4) rfl (.cons (f := true) (V.at .z) .nil) ?_)
   rintro _ w4 _ _ _ ⟨u4, rfl, rfl, rfl, rfl⟩ h10
   have h11 := h10
   simp only [List.cons_append, List.nil_append] at h11
   refine op (OpS.mv rfl rfl rfl ?_)
   refine op (OpS.ext rfl rfl rfl rfl ?_)
   refine op (OpS.ext rfl rfl rfl rfl ?_)
   refine op (OpS.as rfl rfl rfl ?_)
   refine op (OpS.as rfl rfl rfl ?_)
   refine RunL.nil ?_
   refine Run.slim [(4, .int .i64 y2.2.1), (3, .int .u16 y2.1), (1, u1)] ⟨rfl, rfl, rfl, trivial⟩ ?_
   refine Run.seq ?_
   refine Run.reg ?_
   refine op (OpS.mv rfl rfl rfl ?_)
   obtain ⟨y3, e5, hF⟩ := bindP_use hF
   have h12 := h11.front (.cons .z (.cons .z .nil))
   refine op (OpS.callO h12 Try.func13 rfl rfl rfl rfl (vs := [u1]) rfl (repository_Repository_Reserve_ok e5) rfl .nil ?_)
   rintro _ w5 _ _ _ ⟨u5, rfl, rfl, rfl, rfl⟩ h13
   have h14 := h13
   simp only [List.cons_append, List.nil_append] at h14
   refine op (OpS.as rfl rfl rfl ?_)
   refine RunL.nil ?_
   refine Run.slim [(5, .int .u16 y3.1), (4, .int .i64 y2.2.1), (3, .int .u16 y2.1), (1, u1)] ⟨rfl, rfl, rfl, rfl, trivial⟩ ?_
   refine Run.seq ?_
   refine Run.reg ?_
   refine op (OpS.mv rfl rfl rfl ?_)
   refine op (OpS.lit (r := (Rep.int .u8)) (f := true) h14 Try.underlying34 ti5 rfl rfl rfl rfl rfl (.cons rfl V.int .nil) rfl rfl (fun u6 w6 h15 => ?_))
   obtain ⟨y4, e6, hF⟩ := bindP_use hF
   have h16 := h15.front (.cons .z (.cons .z .nil))
   refine op (OpS.callO h16 Try.func18 rfl rfl rfl rfl (vs := [u1, u6]) rfl (repository_Repository_Add_ok e6) rfl (.cons (f := true) (V.at .z) .nil) ?_)
   rintro _ w7 _ _ _ ⟨u7, rfl, rfl, rfl, rfl⟩ h17
   have h18 := h17
   simp only [List.cons_append, List.nil_append] at h18
   refine op (OpS.mv rfl rfl rfl ?_)
   refine op (OpS.ext rfl rfl rfl rfl ?_)
   refine op (OpS.ext rfl rfl rfl rfl ?_)
   refine op (OpS.as rfl rfl rfl ?_)
   refine op (OpS.as rfl rfl rfl ?_)
   refine RunL.nil ?_
   refine Run.slim [(7, .int .i64 y4.2.1), (6, .int .u16 y4.1), (5, .int .u16 y3.1), (4, .int .i64 y2.2.1), (3, .int .u16 y2.1), (1, u1)] ⟨rfl, rfl, rfl, rfl, rfl, rfl, trivial⟩ ?_
   refine Run.seq ?_
   refine Run.reg ?_
   refine op (OpS.mv rfl rfl rfl ?_)
   refine op (OpS.mv rfl rfl rfl ?_)
   refine op (OpS.mv rfl rfl rfl ?_)
   obtain ⟨y5, e7, hF⟩ := bindP_use hF
   have h19 := h18.front (.cons .z (.cons .z .nil))
   refine op (OpS.callO h19 Try.func14 rfl rfl rfl rfl (vs := [u1, .int .u16 y3.1, .int .u16 y2.1, .int .i64 1, .int .i64 1]) rfl (repository_Repository_Read_ok e7) rfl .nil ?_)
   rintro _ w8 _ _ _ ⟨u8, rfl, rfl, rfl, rfl⟩ h20
   have h21 := h20
   simp only [List.cons_append, List.nil_append] at h21
   refine op (OpS.mv rfl rfl rfl ?_)
   refine op (OpS.ext rfl rfl rfl rfl ?_)
   refine op (OpS.ext rfl rfl rfl rfl ?_)
   refine op (OpS.ext rfl rfl rfl rfl ?_)
   refine op (OpS.as rfl rfl rfl ?_)
   have h22 := (h21.pick .z).freeze
   refine op (OpS.as rfl rfl rfl ?_)
   refine op (OpS.as rfl rfl rfl ?_)
   refine RunL.nil ?_
   refine Run.slim [(10, .int .i64 y5.2.2), (7, .int .i64 y4.2.1), (6, .int .u16 y4.1), (5, .int .u16 y3.1), (4, .int .i64 y2.2.1), (3, .int .u16 y2.1), (1, u1)] ⟨rfl, rfl, rfl, rfl, rfl, rfl, rfl, trivial⟩ ?_
   refine Run.seq ?_
   refine Run.reg ?_
   refine op (OpS.mv rfl rfl rfl ?_)
   refine op (OpS.mv rfl rfl rfl ?_)
   refine op (OpS.mv rfl rfl rfl ?_)
   obtain ⟨y6, e8, hF⟩ := bindP_use hF
   have h23 := h22.front (.cons .z (.cons .z .nil))
   refine op (OpS.callO h23 Try.func14 rfl rfl rfl rfl (vs := [u1, .int .u16 y3.1, .int .u16 y2.1, .int .i64 0, .int .i64 1]) rfl (repository_Repository_Read_ok e8) rfl .nil ?_)
   rintro _ w9 _ _ _ ⟨u9, rfl, rfl, rfl, rfl⟩ h24
   have h25 := h24
   simp only [List.cons_append, List.nil_append] at h25
   refine op (OpS.mv rfl rfl rfl ?_)
   refine op (OpS.ext rfl rfl rfl rfl ?_)
   refine op (OpS.ext rfl rfl rfl rfl ?_)
   refine op (OpS.ext rfl rfl rfl rfl ?_)
   refine op (OpS.as rfl rfl rfl ?_)
   have h26 := (h25.pick .z).freeze
   refine op (OpS.as rfl rfl rfl ?_)
   refine op (OpS.as rfl rfl rfl ?_)
   refine RunL.nil ?_
   refine Run.slim [(13, .int .i64 y6.2.2), (12, .int .u16 y6.2.1), (11, u9), (10, .int .i64 y5.2.2), (7, .int .i64 y4.2.1), (6, .int .u16 y4.1), (5, .int .u16 y3.1), (4, .int .i64 y2.2.1), (3, .int .u16 y2.1), (1, u1)] ⟨rfl, rfl, rfl, rfl, rfl, rfl, rfl, rfl, rfl, rfl, trivial⟩ ?_
   refine Run.seq ?_
   refine Run.reg ?_
   refine op (OpS.mv rfl rfl rfl ?_)
   refine op (OpS.bin rfl rfl rfl rfl rfl ?_)
   refine op (OpS.mv rfl rfl rfl ?_)
   refine RunL.caseb hF (fun e9 hF => ?_) (fun e9 hF => ?_)
   ·
    refine op (OpS.mv rfl rfl rfl ?_)
    refine op (OpS.bin rfl rfl rfl rfl rfl ?_)
    refine op (OpS.pick rfl rfl rfl rfl ?_)
    refine op (OpS.mv rfl rfl rfl ?_)
    refine RunL.caseb hF (fun e10 hF => ?_) (fun e10 hF => ?_)
    ·
     refine op (OpS.mv rfl rfl rfl ?_)
     refine op (OpS.bin rfl rfl rfl rfl rfl ?_)
     refine op (OpS.pick rfl rfl rfl rfl ?_)
     refine op (OpS.mv rfl rfl rfl ?_)
     refine RunL.caseb hF (fun e11 hF => ?_) (fun e11 hF => ?_)
     ·
      refine op (OpS.mv rfl rfl rfl ?_)
      refine op (OpS.bin rfl rfl rfl rfl rfl ?_)
      refine op (OpS.pick rfl rfl rfl rfl ?_)
      refine op (OpS.mv rfl rfl rfl ?_)
      refine RunL.caseb hF (fun e12 hF => ?_) (fun e12 hF => ?_)
      ·
       refine op (OpS.mv rfl rfl rfl ?_)
       refine op (OpS.bin rfl rfl rfl rfl rfl ?_)
       refine op (OpS.pick rfl rfl rfl rfl ?_)
       refine op (OpS.mv rfl rfl rfl ?_)
       refine RunL.caseb hF (fun e13 hF => ?_) (fun e13 hF => ?_)
       ·
        refine op (OpS.mv rfl rfl rfl ?_)
        refine op (OpS.bin rfl rfl rfl rfl rfl ?_)
        refine op (OpS.pick rfl rfl rfl rfl ?_)
        refine op (OpS.mv rfl rfl rfl ?_)
        refine RunL.caseb hF (fun e14 hF => ?_) (fun e14 hF => ?_)
        ·
         refine op (OpS.mv rfl rfl rfl ?_)
         refine op (OpS.bin rfl rfl rfl rfl rfl ?_)
         refine op (OpS.pick rfl rfl rfl rfl ?_)
         refine op (OpS.mv rfl rfl rfl ?_)
         refine RunL.caseb hF (fun e15 hF => ?_) (fun e15 hF => ?_)
         ·
          refine op (OpS.mv rfl rfl rfl ?_)
          refine op (OpS.len h26 Try.underlying34 rfl rfl rfl (V.at .z) ?_)
          refine op (OpS.bin rfl rfl rfl rfl rfl ?_)
          refine op (OpS.pick rfl rfl rfl rfl ?_)
          refine op (OpS.mv rfl rfl rfl ?_)
          refine RunL.caseb hF (fun e16 hF => ?_) (fun e16 hF => ?_)
          ·
           refine op (OpS.mv rfl rfl rfl ?_)
           refine op (OpS.bin rfl rfl rfl rfl rfl ?_)
           refine op (OpS.pick rfl rfl rfl rfl ?_)
           refine op (OpS.mv rfl rfl rfl ?_)
           refine RunL.caseb hF (fun e17 hF => ?_) (fun e17 hF => ?_)
           ·
            refine op (OpS.mv rfl rfl rfl ?_)
            obtain ⟨y7, e18, hF⟩ := bindP_use hF
            have h27 := h26.front (.cons .z (.cons .z .nil))
            refine op (OpS.callO h27 Try.func19 rfl rfl rfl rfl (vs := [u1]) rfl (repository_Repository_Free_ok e18) rfl .nil ?_)
            rintro _ w10 _ _ _ ⟨rfl, rfl, rfl, rfl⟩ h28
            have h29 := h28
            simp only [List.cons_append, List.nil_append] at h29
            refine op (OpS.bin rfl rfl rfl rfl rfl ?_)
            refine op (OpS.pick rfl rfl rfl rfl ?_)
            refine op (OpS.as rfl rfl rfl ?_)
            obtain ⟨x2, e19, hF⟩ := letP_use hF
            refine RunL.nameb e19 ?_
            refine RunL.nil ?_
            refine Run.slim [(0, .bool x2)] ⟨rfl, trivial⟩ ?_
            refine Run.retP rfl (.tmp rfl .nil) ?_
            cases hF
            exact Post.mk' ⟨rfl, rfl, rfl, rfl⟩ (h29.picks .nil) .nil
           ·
            refine op (OpS.pass rfl rfl rfl ?_)
            refine op (OpS.pass rfl rfl rfl ?_)
            refine op (OpS.pass rfl rfl rfl ?_)
            refine op (OpS.pick rfl rfl rfl rfl ?_)
            refine op (OpS.as rfl rfl rfl ?_)
            refine RunL.nil ?_
            refine Run.slim [(0, .bool false)] ⟨rfl, trivial⟩ ?_
            refine Run.retP rfl (.tmp rfl .nil) ?_
            cases hF
            exact Post.mk' ⟨rfl, rfl, rfl, rfl⟩ (h26.picks .nil) .nil
          ·
           refine op (OpS.pass rfl rfl rfl ?_)
           refine op (OpS.pass rfl rfl rfl ?_)
           refine op (OpS.pick rfl rfl rfl rfl ?_)
           refine op (OpS.mv rfl rfl rfl ?_)
           refine op (OpS.pass rfl rfl rfl ?_)
           refine op (OpS.pass rfl rfl rfl ?_)
           refine op (OpS.pass rfl rfl rfl ?_)
           refine op (OpS.pick rfl rfl rfl rfl ?_)
           refine op (OpS.as rfl rfl rfl ?_)
           refine RunL.nil ?_
           refine Run.slim [(0, .bool false)] ⟨rfl, trivial⟩ ?_
           refine Run.retP rfl (.tmp rfl .nil) ?_
           cases hF
           exact Post.mk' ⟨rfl, rfl, rfl, rfl⟩ (h26.picks .nil) .nil
         ·
          refine op (OpS.pass rfl rfl rfl ?_)
          refine op (OpS.pass rfl rfl rfl ?_)
          refine op (OpS.pass rfl rfl rfl ?_)
          refine op (OpS.pick rfl rfl rfl rfl ?_)
          refine op (OpS.mv rfl rfl rfl ?_)
          refine op (OpS.pass rfl rfl rfl ?_)
          refine op (OpS.pass rfl rfl rfl ?_)
          refine op (OpS.pick rfl rfl rfl rfl ?_)
          refine op (OpS.mv rfl rfl rfl ?_)
          refine op (OpS.pass rfl rfl rfl ?_)
          refine op (OpS.pass rfl rfl rfl ?_)
          refine op (OpS.pass rfl rfl rfl ?_)
          refine op (OpS.pick rfl rfl rfl rfl ?_)
          refine op (OpS.as rfl rfl rfl ?_)
          refine RunL.nil ?_
          refine Run.slim [(0, .bool false)] ⟨rfl, trivial⟩ ?_
          refine Run.retP rfl (.tmp rfl .nil) ?_
          cases hF
          exact Post.mk' ⟨rfl, rfl, rfl, rfl⟩ (h26.picks .nil) .nil
        ·
         refine op (OpS.pass rfl rfl rfl ?_)
         refine op (OpS.pass rfl rfl rfl ?_)
         refine op (OpS.pick rfl rfl rfl rfl ?_)
         refine op (OpS.mv rfl rfl rfl ?_)
         refine op (OpS.pass rfl rfl rfl ?_)
         refine op (OpS.pass rfl rfl rfl ?_)
         refine op (OpS.pass rfl rfl rfl ?_)
         refine op (OpS.pick rfl rfl rfl rfl ?_)
         refine op (OpS.mv rfl rfl rfl ?_)
         refine op (OpS.pass rfl rfl rfl ?_)
         refine op (OpS.pass rfl rfl rfl ?_)
         refine op (OpS.pick rfl rfl rfl rfl ?_)
         refine op (OpS.mv rfl rfl rfl ?_)
         refine op (OpS.pass rfl rfl rfl ?_)
         refine op (OpS.pass rfl rfl rfl ?_)
         refine op (OpS.pass rfl rfl rfl ?_)
         refine op (OpS.pick rfl rfl rfl rfl ?_)
         refine op (OpS.as rfl rfl rfl ?_)
         refine RunL.nil ?_
         refine Run.slim [(0, .bool false)] ⟨rfl, trivial⟩ ?_
         refine Run.retP rfl (.tmp rfl .nil) ?_
         cases hF
         exact Post.mk' ⟨rfl, rfl, rfl, rfl⟩ (h26.picks .nil) .nil
       ·
        refine op (OpS.pass rfl rfl rfl ?_)
        refine op (OpS.pass rfl rfl rfl ?_)
        refine op (OpS.pick rfl rfl rfl rfl ?_)
        refine op (OpS.mv rfl rfl rfl ?_)
        refine op (OpS.pass rfl rfl rfl ?_)
        refine op (OpS.pass rfl rfl rfl ?_)
        refine op (OpS.pick rfl rfl rfl rfl ?_)
        refine op (OpS.mv rfl rfl rfl ?_)
        refine op (OpS.pass rfl rfl rfl ?_)
        refine op (OpS.pass rfl rfl rfl ?_)
        refine op (OpS.pass rfl rfl rfl ?_)
        refine op (OpS.pick rfl rfl rfl rfl ?_)
        refine op (OpS.mv rfl rfl rfl ?_)
        refine op (OpS.pass rfl rfl rfl ?_)
        refine op (OpS.pass rfl rfl rfl ?_)
        refine op (OpS.pick rfl rfl rfl rfl ?_)
        refine op (OpS.mv rfl rfl rfl ?_)
        refine op (OpS.pass rfl rfl rfl ?_)
        refine op (OpS.pass rfl rfl rfl ?_)
        refine op (OpS.pass rfl rfl rfl ?_)
        refine op (OpS.pick rfl rfl rfl rfl ?_)
        refine op (OpS.as rfl rfl rfl ?_)
        refine RunL.nil ?_
        refine Run.slim [(0, .bool false)] ⟨rfl, trivial⟩ ?_
        refine Run.retP rfl (.tmp rfl .nil) ?_
        cases hF
        exact Post.mk' ⟨rfl, rfl, rfl, rfl⟩ (h26.picks .nil) .nil
      ·
       refine op (OpS.pass rfl rfl rfl ?_)
       refine op (OpS.pass rfl rfl rfl ?_)
       refine op (OpS.pick rfl rfl rfl rfl ?_)
       refine op (OpS.mv rfl rfl rfl ?_)
       refine op (OpS.pass rfl rfl rfl ?_)
       refine op (OpS.pass rfl rfl rfl ?_)
       refine op (OpS.pick rfl rfl rfl rfl ?_)
       refine op (OpS.mv rfl rfl rfl ?_)
       refine op (OpS.pass rfl rfl rfl ?_)
       refine op (OpS.pass rfl rfl rfl ?_)
       refine op (OpS.pick rfl rfl rfl rfl ?_)
       refine op (OpS.mv rfl rfl rfl ?_)
       refine op (OpS.pass rfl rfl rfl ?_)
       refine op (OpS.pass rfl rfl rfl ?_)
       refine op (OpS.pass rfl rfl rfl ?_)
       refine op (OpS.pick rfl rfl rfl rfl ?_)
       refine op (OpS.mv rfl rfl rfl ?_)
       refine op (OpS.pass rfl rfl rfl ?_)
       refine op (OpS.pass rfl rfl rfl ?_)
       refine op (OpS.pick rfl rfl rfl rfl ?_)
       refine op (OpS.mv rfl rfl rfl ?_)
       refine op (OpS.pass rfl rfl rfl ?_)
       refine op (OpS.pass rfl rfl rfl ?_)
       refine op (OpS.pass rfl rfl rfl ?_)
       refine op (OpS.pick rfl rfl rfl rfl ?_)
       refine op (OpS.as rfl rfl rfl ?_)
       refine RunL.nil ?_
       refine Run.slim [(0, .bool false)] ⟨rfl, trivial⟩ ?_
       refine Run.retP rfl (.tmp rfl .nil) ?_
       cases hF
       exact Post.mk' ⟨rfl, rfl, rfl, rfl⟩ (h26.picks .nil) .nil
     ·
      refine op (OpS.pass rfl rfl rfl ?_)
      refine op (OpS.pass rfl rfl rfl ?_)
      refine op (OpS.pick rfl rfl rfl rfl ?_)
      refine op (OpS.mv rfl rfl rfl ?_)
      refine op (OpS.pass rfl rfl rfl ?_)
      refine op (OpS.pass rfl rfl rfl ?_)
      refine op (OpS.pick rfl rfl rfl rfl ?_)
      refine op (OpS.mv rfl rfl rfl ?_)
      refine op (OpS.pass rfl rfl rfl ?_)
      refine op (OpS.pass rfl rfl rfl ?_)
      refine op (OpS.pick rfl rfl rfl rfl ?_)
      refine op (OpS.mv rfl rfl rfl ?_)
      refine op (OpS.pass rfl rfl rfl ?_)
      refine op (OpS.pass rfl rfl rfl ?_)
      refine op (OpS.pick rfl rfl rfl rfl ?_)
      refine op (OpS.mv rfl rfl rfl ?_)
      refine op (OpS.pass rfl rfl rfl ?_)
      refine op (OpS.pass rfl rfl rfl ?_)
      refine op (OpS.pass rfl rfl rfl ?_)
      refine op (OpS.pick rfl rfl rfl rfl ?_)
      refine op (OpS.mv rfl rfl rfl ?_)
      refine op (OpS.pass rfl rfl rfl ?_)
      refine op (OpS.pass rfl rfl rfl ?_)
      refine op (OpS.pick rfl rfl rfl rfl ?_)
      refine op (OpS.mv rfl rfl rfl ?_)
      refine op (OpS.pass rfl rfl rfl ?_)
      refine op (OpS.pass rfl rfl rfl ?_)
      refine op (OpS.pass rfl rfl rfl ?_)
      refine op (OpS.pick rfl rfl rfl rfl ?_)
      refine op (OpS.as rfl rfl rfl ?_)
      refine RunL.nil ?_
      refine Run.slim [(0, .bool false)] ⟨rfl, trivial⟩ ?_
      refine Run.retP rfl (.tmp rfl .nil) ?_
      cases hF
      exact Post.mk' ⟨rfl, rfl, rfl, rfl⟩ (h26.picks .nil) .nil
    ·
     refine op (OpS.pass rfl rfl rfl ?_)
     refine op (OpS.pass rfl rfl rfl ?_)
     refine op (OpS.pick rfl rfl rfl rfl ?_)
     refine op (OpS.mv rfl rfl rfl ?_)
     refine op (OpS.pass rfl rfl rfl ?_)
     refine op (OpS.pass rfl rfl rfl ?_)
     refine op (OpS.pick rfl rfl rfl rfl ?_)
     refine op (OpS.mv rfl rfl rfl ?_)
     refine op (OpS.pass rfl rfl rfl ?_)
     refine op (OpS.pass rfl rfl rfl ?_)
     refine op (OpS.pick rfl rfl rfl rfl ?_)
     refine op (OpS.mv rfl rfl rfl ?_)
     refine op (OpS.pass rfl rfl rfl ?_)
     refine op (OpS.pass rfl rfl rfl ?_)
     refine op (OpS.pick rfl rfl rfl rfl ?_)
     refine op (OpS.mv rfl rfl rfl ?_)
     refine op (OpS.pass rfl rfl rfl ?_)
     refine op (OpS.pass rfl rfl rfl ?_)
     refine op (OpS.pick rfl rfl rfl rfl ?_)
     refine op (OpS.mv rfl rfl rfl ?_)
     refine op (OpS.pass rfl rfl rfl ?_)
     refine op (OpS.pass rfl rfl rfl ?_)
     refine op (OpS.pass rfl rfl rfl ?_)
     refine op (OpS.pick rfl rfl rfl rfl ?_)
     refine op (OpS.mv rfl rfl rfl ?_)
     refine op (OpS.pass rfl rfl rfl ?_)
     refine op (OpS.pass rfl rfl rfl ?_)
     refine op (OpS.pick rfl rfl rfl rfl ?_)
     refine op (OpS.mv rfl rfl rfl ?_)
     refine op (OpS.pass rfl rfl rfl ?_)
     refine op (OpS.pass rfl rfl rfl ?_)
     refine op (OpS.pass rfl rfl rfl ?_)
     refine op (OpS.pick rfl rfl rfl rfl ?_)
     refine op (OpS.as rfl rfl rfl ?_)
     refine RunL.nil ?_
     refine Run.slim [(0, .bool false)] ⟨rfl, trivial⟩ ?_
     refine Run.retP rfl (.tmp rfl .nil) ?_
     cases hF
     exact Post.mk' ⟨rfl, rfl, rfl, rfl⟩ (h26.picks .nil) .nil
   ·
    refine op (OpS.pass rfl rfl rfl ?_)
    refine op (OpS.pass rfl rfl rfl ?_)
    refine op (OpS.pick rfl rfl rfl rfl ?_)
    refine op (OpS.mv rfl rfl rfl ?_)
    refine op (OpS.pass rfl rfl rfl ?_)
    refine op (OpS.pass rfl rfl rfl ?_)
    refine op (OpS.pick rfl rfl rfl rfl ?_)
    refine op (OpS.mv rfl rfl rfl ?_)
    refine op (OpS.pass rfl rfl rfl ?_)
    refine op (OpS.pass rfl rfl rfl ?_)
    refine op (OpS.pick rfl rfl rfl rfl ?_)
    refine op (OpS.mv rfl rfl rfl ?_)
    refine op (OpS.pass rfl rfl rfl ?_)
    refine op (OpS.pass rfl rfl rfl ?_)
    refine op (OpS.pick rfl rfl rfl rfl ?_)
    refine op (OpS.mv rfl rfl rfl ?_)
    refine op (OpS.pass rfl rfl rfl ?_)
    refine op (OpS.pass rfl rfl rfl ?_)
    refine op (OpS.pick rfl rfl rfl rfl ?_)
    refine op (OpS.mv rfl rfl rfl ?_)
    refine op (OpS.pass rfl rfl rfl ?_)
    refine op (OpS.pass rfl rfl rfl ?_)
    refine op (OpS.pick rfl rfl rfl rfl ?_)
    refine op (OpS.mv rfl rfl rfl ?_)
    refine op (OpS.pass rfl rfl rfl ?_)
    refine op (OpS.pass rfl rfl rfl ?_)
    refine op (OpS.pass rfl rfl rfl ?_)
    refine op (OpS.pick rfl rfl rfl rfl ?_)
    refine op (OpS.mv rfl rfl rfl ?_)
    refine op (OpS.pass rfl rfl rfl ?_)
    refine op (OpS.pass rfl rfl rfl ?_)
    refine op (OpS.pick rfl rfl rfl rfl ?_)
    refine op (OpS.mv rfl rfl rfl ?_)
    refine op (OpS.pass rfl rfl rfl ?_)
    refine op (OpS.pass rfl rfl rfl ?_)
    refine op (OpS.pass rfl rfl rfl ?_)
    refine op (OpS.pick rfl rfl rfl rfl ?_)
    refine op (OpS.as rfl rfl rfl ?_)
    refine RunL.nil ?_
    refine Run.slim [(0, .bool false)] ⟨rfl, trivial⟩ ?_
    refine Run.retP rfl (.tmp rfl .nil) ?_
    cases hF
    exact Post.mk' ⟨rfl, rfl, rfl, rfl⟩ (h26.picks .nil) .nil
 ·
  refine RunL.caseb hF (fun e20 hF => ?_) (fun e20 hF => ?_)
  ·
   refine op (OpS.pass rfl rfl rfl ?_)
   refine op (OpS.pass rfl rfl rfl ?_)
   refine op (OpS.pick rfl rfl rfl rfl ?_)
   refine RunL.nil ?_
   refine Run.slim [(23, .bool true), (1, u1)] ⟨rfl, rfl, trivial⟩ ?_
   refine Run.slim [(1, u1), (23, .bool true)] ⟨rfl, rfl, trivial⟩ ?_
   exact hj1 (true) _ _ ⟨rfl, (h2.facts .nil).picks (.cons .z .nil)⟩ hF
  ·
   refine op (OpS.mv rfl rfl rfl ?_)
   refine op (OpS.bin rfl rfl rfl rfl rfl ?_)
   refine op (OpS.pick rfl rfl rfl rfl ?_)
   refine RunL.nil ?_
   refine Run.slim [(23, .bool (y1.2 != 0)), (1, u1)] ⟨rfl, rfl, trivial⟩ ?_
   refine Run.slim [(1, u1), (23, .bool (y1.2 != 0))] ⟨rfl, rfl, trivial⟩ ?_
   exact hj1 (y1.2 != 0) _ _ ⟨rfl, (h2.facts .nil).picks (.cons .z .nil)⟩ hF
theorem made_Mod_ok {fuel : Nat} {a0 : Int} {a1 : Int} {y : Int} (hF : made_Mod fuel a0 a1 = some y) {w : World} :
  Spec Try.prog 12 [.int .i64 a0, .int .i64 a1].toArray w [] [] (fun v Γr Ωr Ωo => v = .int .i64 y ∧ Γr = [] ∧ Ωr = [] ∧ Ωo = []) := by
 refine Spec.of (L := [(0, .int .i64 a0), (1, .int .i64 a1)]) Try.func12 rfl ⟨rfl, rfl, trivial⟩ rfl (fun e h => ?_)
 unfold made_Mod at hF
 refine Run.seq ?_
 refine Run.reg ?_
 refine op (OpS.as rfl rfl rfl ?_)
 refine RunL.nil ?_
 refine Run.slim [(0, .int .i64 a0), (1, .int .i64 a1)] ⟨rfl, rfl, trivial⟩ ?_
 refine Run.seq ?_
 refine Run.reg ?_
 refine op (OpS.mv rfl rfl rfl ?_)
 refine op (OpS.mv rfl rfl rfl ?_)
 obtain ⟨e1, hF⟩ := chk_use hF
 refine op (OpS.rem rfl rfl rfl rfl e1 ?_)
 refine op (OpS.as rfl rfl rfl ?_)
 refine RunL.nil ?_
 refine Run.slim [(0, .int .i64 (Int.tmod a0 a1)), (1, .int .i64 a1)] ⟨rfl, rfl, trivial⟩ ?_
 refine Run.seq ?_
 refine Run.seq ?_
 refine Run.reg ?_
 refine op (OpS.mv rfl rfl rfl ?_)
 refine op (OpS.bin rfl rfl rfl rfl rfl ?_)
 refine RunL.nil ?_
 refine Run.slim [(9, .bool (decide ((Int.tmod a0 a1) < 0))), (0, .int .i64 (Int.tmod a0 a1)), (1, .int .i64 a1)] ⟨rfl, rfl, rfl, trivial⟩ ?_
 refine Run.ite rfl hF (fun e2 hF => ?_) (fun e2 hF => ?_)
 ·
  refine Run.reg ?_
  refine op (OpS.mv rfl rfl rfl ?_)
  refine op (OpS.mv rfl rfl rfl ?_)
  refine op (OpS.bin rfl rfl rfl rfl rfl ?_)
  refine op (OpS.as rfl rfl rfl ?_)
  obtain ⟨x1, e3, hF⟩ := letP_use hF
  refine RunL.name e3 ?_
  refine RunL.nil ?_
  refine Run.slim [(0, .int .i64 x1)] ⟨rfl, trivial⟩ ?_
  refine Run.seq ?_
  refine Run.reg ?_
  refine op (OpS.mv rfl rfl rfl ?_)
  refine op (OpS.as rfl rfl rfl ?_)
  refine RunL.nil ?_
  refine Run.slim [(4, .int .i64 x1)] ⟨rfl, trivial⟩ ?_
  refine Run.retP rfl (.tmp rfl .nil) ?_
  cases hF
  exact Post.mk' ⟨rfl, rfl, rfl, rfl⟩ (h.picks .nil) .nil
 ·
  refine Run.skip ?_
  refine Run.seq ?_
  refine Run.reg ?_
  refine op (OpS.mv rfl rfl rfl ?_)
  refine op (OpS.as rfl rfl rfl ?_)
  refine RunL.nil ?_
  refine Run.slim [(4, .int .i64 (Int.tmod a0 a1))] ⟨rfl, trivial⟩ ?_
  refine Run.retP rfl (.tmp rfl .nil) ?_
  cases hF
  exact Post.mk' ⟨rfl, rfl, rfl, rfl⟩ (h.picks .nil) .nil
theorem repository_Repository_IDs_ok {fuel : Nat} {a0 : repository_Repository} {y : (List Int)} (hF : repository_Repository_IDs fuel a0 = some y) {w : World} {v0 v0_0 : Value} :
  Spec Try.prog 11 [v0].toArray w [] [(false, .box 65 (Rep.iso (fun s : repository_Repository => (s.capacity, s.records, s.last, s.number, s.held, ())) (Rep.prod (Rep.int .i64) (Rep.prod (Rep.raw v0_0) (Rep.prod (Rep.int .u16) (Rep.prod (Rep.int .u16) (Rep.prod Rep.bool Rep.unit)))))) v0 a0), (false, .slice 67 repository_record.rep v0_0 a0.records)] (fun v Γr Ωr Ωo => ∃ u0 : Value, v = u0 ∧ Γr = [] ∧ Ωr = [(true, .slice 32 (Rep.int .u16) u0 y)] ∧ Ωo = [(false, .box 65 (Rep.iso (fun s : repository_Repository => (s.capacity, s.records, s.last, s.number, s.held, ())) (Rep.prod (Rep.int .i64) (Rep.prod (Rep.raw v0_0) (Rep.prod (Rep.int .u16) (Rep.prod (Rep.int .u16) (Rep.prod Rep.bool Rep.unit)))))) v0 a0), (false, (.slice 67 repository_record.rep v0_0 a0.records))]) := by
 refine Spec.of (L := [(0, v0)]) Try.func11 rfl ⟨rfl, trivial⟩ rfl (fun e h => ?_)
 unfold repository_Repository_IDs at hF
 refine Run.seq ?_
 refine Run.reg ?_
 refine op (OpS.as rfl rfl rfl ?_)
 refine RunL.nil ?_
 refine Run.slim [(0, v0)] ⟨rfl, trivial⟩ ?_
 refine Run.seq ?_
 refine Run.reg ?_
 refine op (OpS.as rfl rfl rfl ?_)
 refine RunL.nil ?_
 refine Run.seq ?_
 refine Run.seq ?_
 refine Run.reg ?_
 refine op (OpS.mv rfl rfl rfl ?_)
 refine op (OpS.nchk h .z rfl rfl rfl ?_)
 refine op (OpS.fbox (o3 := 1) h .z PA.z fa65_1 rfl rfl rfl rfl ?_)
 refine op (OpS.loadR h .z PA.a (GetS.ok (GetS.iso _ (GetS.there (GetS.here GetS.id)))) ty63 rfl rfl rfl rfl rfl ?_)
 refine op (OpS.lenO h (.s .z) Try.underlying63 rfl rfl rfl ?_)
 refine op (OpS.mv rfl rfl rfl ?_)
 refine RunL.nil ?_
 refine Run.slim [(11, .int .i64 0), (10, .int .i64 (a0.records.length : Int)), (9, v0_0), (3, .slice none 0 0)] ⟨rfl, rfl, rfl, rfl, trivial⟩ ?_
 refine Run.block ?_
 have h1 := St.nil 32 (Rep.int .u16) h
 refine Run.slim [(3, (.slice none 0 0)), (9, v0_0), (10, .int .i64 (a0.records.length : Int)), (11, .int .i64 0)] ⟨rfl, rfl, rfl, rfl, trivial⟩ ?_
 refine Run.loopP (σ := (Int × (List Int))) (fun s_ L_ w_ => ∃ u0_ : Value, L_ = [(3, u0_), (9, v0_0), (10, .int .i64 (a0.records.length : Int)), (11, .int .i64 s_.1)] ∧ St e w_ [] [(false, .box 65 (Rep.iso (fun s : repository_Repository => (s.capacity, s.records, s.last, s.number, s.held, ())) (Rep.prod (Rep.int .i64) (Rep.prod (Rep.raw v0_0) (Rep.prod (Rep.int .u16) (Rep.prod (Rep.int .u16) (Rep.prod Rep.bool Rep.unit)))))) v0 a0), (true, .slice 32 (Rep.int .u16) u0_ s_.2), (false, .slice 67 repository_record.rep v0_0 a0.records)]) hF ⟨(.slice none 0 0), rfl, (h1.facts .nil).picks (.cons (.s .z) (.cons .z (.cons .z .nil)))⟩ (fun k1 hk1 s1 _ w1 hI hF => ?_)
 obtain ⟨u1, rfl, h2⟩ := hI
 refine Run.seq ?_
 refine Run.reg ?_
 refine op (OpS.bin rfl rfl rfl rfl rfl ?_)
 refine RunL.nil ?_
 refine Run.seq ?_
 refine Run.ite rfl hF (fun e1 hF => ?_) (fun e1 hF => ?_)
 ·
  refine Run.skip ?_
  refine Run.seq ?_
  refine Run.block ?_
  refine Run.seq ?_
  refine Run.reg ?_
  obtain ⟨x1, e2, hF⟩ := bindP_use hF
  refine op (OpS.iown h2 (.s (.s .z)) Try.underlying63 ty67 rfl rfl rfl rfl e2 ?_)
  refine op (OpS.loadO h2 (.s (.s .z)) (idx_ne e2) PA.a (Get.arr e2) ty67 rfl rfl rfl (fun u2 h3 => ?_))
  refine op (OpS.alloc h3 ti67 repository_record.zr rfl rfl (fun u3 w2 h4 => ?_))
  have h5 := (h4.pick .z).weak
  refine op (OpS.storeB (f' := false) h5 .z PA.z Put.id ty67 rfl rfl rfl (V.at .z) (.inr rfl) (fun w3 h6 => ?_))
  refine RunL.nil ?_
  refine Run.slim [(5, u3), (3, u1), (9, v0_0), (10, .int .i64 (a0.records.length : Int)), (11, .int .i64 s1.1)] ⟨rfl, rfl, rfl, rfl, rfl, trivial⟩ ?_
  refine Run.reg ?_
  refine op (OpS.mv rfl rfl rfl ?_)
  refine op (OpS.fbox (o3 := 0) h6 .z PA.z fa67_0 rfl rfl rfl rfl ?_)
  refine op (OpS.loadBi h6 .z PA.a (Get.fld repository_record.f0) ty32 rfl rfl rfl ?_)
  refine op (OpS.lit (r := (Rep.int .u16)) (f := true) h6 Try.underlying29 ti32 rfl rfl rfl rfl rfl (.cons rfl V.int .nil) rfl rfl (fun u4 w4 h7 => ?_))
  obtain ⟨x2, e3, hF⟩ := bindP_use hF
  refine op (OpS.app (f' := true) h7 (.s (.s .z)) Try.underlying29 ti32 rfl rfl rfl rfl rfl rfl rfl (V.at .z) (.inr Pure.int) e3 (fun u5 w5 h8 => ?_))
  refine op (OpS.as rfl rfl rfl ?_)
  refine RunL.nil ?_
  refine Run.slim [(3, u5), (9, v0_0), (10, .int .i64 (a0.records.length : Int)), (11, .int .i64 s1.1)] ⟨rfl, rfl, rfl, rfl, trivial⟩ ?_
  refine Run.endBlock ?_
  refine Run.reg ?_
  refine op (OpS.bin rfl rfl rfl rfl rfl ?_)
  refine op (OpS.mv rfl rfl rfl ?_)
  refine RunL.nil ?_
  refine Run.slim [(11, .int .i64 (IntKind.i64.wrap (s1.1 + 1))), (3, u5), (9, v0_0), (10, .int .i64 (a0.records.length : Int))] ⟨rfl, rfl, rfl, rfl, trivial⟩ ?_
  refine Run.slim [(3, u5), (9, v0_0), (10, .int .i64 (a0.records.length : Int)), (11, .int .i64 (IntKind.i64.wrap (s1.1 + 1)))] ⟨rfl, rfl, rfl, rfl, trivial⟩ ?_
  exact hk1 ((IntKind.i64.wrap (s1.1 + 1)), x2) _ _ ⟨u5, rfl, (h8.facts .nil).picks (.cons (.s (.s .z)) (.cons .z (.cons (.s .z) .nil)))⟩ hF
 ·
  refine Run.exit rfl ?_
  refine Run.seq ?_
  refine Run.reg ?_
  refine op (OpS.mv rfl rfl rfl ?_)
  refine op (OpS.as rfl rfl rfl ?_)
  refine RunL.nil ?_
  refine Run.slim [(2, u1)] ⟨rfl, trivial⟩ ?_
  refine Run.retP rfl (.tmp rfl .nil) ?_
  cases hF
  exact Post.mk' ⟨u1, rfl, rfl, rfl, rfl⟩ (h2.picks (.cons (.s .z) (.cons .z (.cons .z .nil)))) .nil
theorem repository_Repository_Get_ok {fuel : Nat} {a0 : repository_Repository} {a1 : Int} {y : (List Int) × Int × Int} (hF : repository_Repository_Get fuel a0 a1 = some y) {w : World} {v0 v0_0 : Value} :
  Spec Try.prog 15 [v0, .int .u16 a1].toArray w [] [(false, .box 65 (Rep.iso (fun s : repository_Repository => (s.capacity, s.records, s.last, s.number, s.held, ())) (Rep.prod (Rep.int .i64) (Rep.prod (Rep.raw v0_0) (Rep.prod (Rep.int .u16) (Rep.prod (Rep.int .u16) (Rep.prod Rep.bool Rep.unit)))))) v0 a0), (false, .slice 67 repository_record.rep v0_0 a0.records)] (fun v Γr Ωr Ωo => ∃ u0 : Value, v = .tuple #[u0, .int .u16 y.2.1, .int .i64 y.2.2] ∧ Γr = [] ∧ Ωr = [(true, .slice 5 (Rep.int .u8) u0 y.1)] ∧ Ωo = [(false, .box 65 (Rep.iso (fun s : repository_Repository => (s.capacity, s.records, s.last, s.number, s.held, ())) (Rep.prod (Rep.int .i64) (Rep.prod (Rep.raw v0_0) (Rep.prod (Rep.int .u16) (Rep.prod (Rep.int .u16) (Rep.prod Rep.bool Rep.unit)))))) v0 a0), (false, (.slice 67 repository_record.rep v0_0 a0.records))]) := by
 refine Spec.of (L := [(0, v0), (1, .int .u16 a1)]) Try.func15 rfl ⟨rfl, rfl, trivial⟩ rfl (fun e h => ?_)
 unfold repository_Repository_Get at hF
 refine Run.seq ?_
 refine Run.reg ?_
 refine op (OpS.as rfl rfl rfl ?_)
 refine op (OpS.as rfl rfl rfl ?_)
 refine op (OpS.as rfl rfl rfl ?_)
 refine RunL.nil ?_
 refine Run.slim [(0, v0), (1, .int .u16 a1)] ⟨rfl, rfl, trivial⟩ ?_
 refine Run.seq ?_
 refine Run.reg ?_
 refine op (OpS.mv rfl rfl rfl ?_)
 refine op (OpS.mv rfl rfl rfl ?_)
 obtain ⟨y1, e1, hF⟩ := bindP_use hF
 have h1 := h.front (.cons .z (.cons .z .nil))
 refine op (OpS.callO h1 Try.func37 rfl rfl rfl rfl (vs := [v0, .int .u16 a1]) rfl (repository_Repository_look_ok e1) rfl .nil ?_)
 rintro _ w1 _ _ _ ⟨u1, rfl, rfl, rfl, rfl⟩ h2
 have h3 := h2
 simp only [List.cons_append, List.nil_append] at h3
 refine op (OpS.mv rfl rfl rfl ?_)
 refine op (OpS.ext rfl rfl rfl rfl ?_)
 refine op (OpS.ext rfl rfl rfl rfl ?_)
 refine op (OpS.ext rfl rfl rfl rfl ?_)
 refine op (OpS.as rfl rfl rfl ?_)
 refine op (OpS.as rfl rfl rfl ?_)
 refine op (OpS.as rfl rfl rfl ?_)
 refine RunL.nil ?_
 refine Run.slim [(6, .int .i64 y1.2.2), (5, .int .u16 y1.2.1), (4, u1)] ⟨rfl, rfl, rfl, trivial⟩ ?_
 refine Run.seq ?_
 refine Run.reg ?_
 refine op (OpS.mv rfl rfl rfl ?_)
 obtain ⟨y2, e2, hF⟩ := bindP_use hF
 refine op (OpS.callP h3 Try.func38 rfl rfl rfl rfl (vs := [u1]) rfl (slices_Clone_byte_byte_ok e2) (.cons (f := false) (V.at .z) .nil) ?_)
 rintro u2 w2 _ _ _ ⟨_, rfl, rfl, rfl, rfl⟩ h4
 have h5 := h4 rfl rfl
 simp only [List.cons_append, List.nil_append] at h5
 refine op (OpS.mv rfl rfl rfl ?_)
 refine op (OpS.mv rfl rfl rfl ?_)
 refine op (OpS.as rfl rfl rfl ?_)
 refine op (OpS.as rfl rfl rfl ?_)
 refine op (OpS.as rfl rfl rfl ?_)
 refine RunL.nil ?_
 refine Run.slim [(6, .int .i64 y1.2.2), (5, .int .u16 y1.2.1), (4, u2)] ⟨rfl, rfl, rfl, trivial⟩ ?_
 refine Run.retP rfl (.tmp rfl (.tmp rfl (.tmp rfl .nil))) ?_
 cases hF
 exact Post.mk' ⟨u2, rfl, rfl, rfl, rfl⟩ (h5.picks (.cons .z (.cons .z (.cons .z .nil)))) .nil
theorem ref01_Same_ok {fuel : Nat} {a0 : List Int} {a1 : List Int} {y : Bool} (hF : ref01_Same fuel a0 a1 = some y) {w : World} {v0 v1 : Value} :
  Spec Try.prog 16 [v0, v1].toArray w [(false, .val (Rep.slice (Rep.int .u8)) v0 a0), (false, .val (Rep.slice (Rep.int .u8)) v1 a1)] [] (fun v Γr Ωr Ωo => v = .bool y ∧ Γr = [] ∧ Ωr = [] ∧ Ωo = []) := by
 refine Spec.of (L := [(0, v0), (1, v1)]) Try.func16 rfl ⟨rfl, rfl, trivial⟩ rfl (fun e h => ?_)
 unfold ref01_Same at hF
 refine Run.seq ?_
 refine Run.reg ?_
 refine op (OpS.as rfl rfl rfl ?_)
 refine RunL.nil ?_
 refine Run.slim [(0, v0), (1, v1)] ⟨rfl, rfl, trivial⟩ ?_
 refine Run.seq ?_
 refine Run.seq ?_
 refine Run.reg ?_
 refine op (OpS.mv rfl rfl rfl ?_)
 refine op (OpS.len h Try.underlying34 rfl rfl rfl (V.at .z) ?_)
 refine op (OpS.mv rfl rfl rfl ?_)
 refine op (OpS.len h Try.underlying34 rfl rfl rfl (V.at (.s .z)) ?_)
 refine op (OpS.bin rfl rfl rfl rfl rfl ?_)
 refine RunL.nil ?_
 refine Run.slim [(10, .bool ((a0.length : Int) != (a1.length : Int))), (0, v0), (1, v1)] ⟨rfl, rfl, rfl, trivial⟩ ?_
 refine Run.ite rfl hF (fun e1 hF => ?_) (fun e1 hF => ?_)
 ·
  refine Run.seq ?_
  refine Run.reg ?_
  refine op (OpS.as rfl rfl rfl ?_)
  refine RunL.nil ?_
  refine Run.slim [(4, .bool false)] ⟨rfl, trivial⟩ ?_
  refine Run.retP rfl (.tmp rfl .nil) ?_
  cases hF
  exact Post.mk' ⟨rfl, rfl, rfl, rfl⟩ (h.picks .nil) .nil
 ·
  refine Run.skip ?_
  refine Run.seq ?_
  refine Run.seq ?_
  refine Run.reg ?_
  refine op (OpS.as rfl rfl rfl ?_)
  refine RunL.nil ?_
  refine Run.slim [(5, .int .i64 0), (0, v0), (1, v1)] ⟨rfl, rfl, rfl, trivial⟩ ?_
  refine Run.block ?_
  refine Run.slim [(0, v0), (1, v1), (5, .int .i64 0)] ⟨rfl, rfl, rfl, trivial⟩ ?_
  refine Run.loopP (σ := Int) (fun s_ L_ w_ => L_ = [(0, v0), (1, v1), (5, .int .i64 s_)] ∧ St e w_ [(false, .val (Rep.slice (Rep.int .u8)) v0 a0), (false, .val (Rep.slice (Rep.int .u8)) v1 a1)] []) hF ⟨rfl, (h.facts (.atm .z (.atm (.s .z) .nil))).picks .nil⟩ (fun k1 hk1 s1 _ w1 hI hF => ?_)
  obtain ⟨rfl, h1⟩ := hI
  refine Run.seq ?_
  refine Run.seq ?_
  refine Run.reg ?_
  refine op (OpS.mv rfl rfl rfl ?_)
  refine op (OpS.mv rfl rfl rfl ?_)
  refine op (OpS.len h1 Try.underlying34 rfl rfl rfl (V.at .z) ?_)
  refine op (OpS.bin rfl rfl rfl rfl rfl ?_)
  refine RunL.nil ?_
  refine Run.slim [(14, .bool (decide (s1 < (a0.length : Int)))), (0, v0), (1, v1), (5, .int .i64 s1)] ⟨rfl, rfl, rfl, rfl, trivial⟩ ?_
  refine Run.ite rfl hF (fun e2 hF => ?_) (fun e2 hF => ?_)
  ·
   refine Run.skip ?_
   refine Run.seq ?_
   refine Run.block ?_
   refine Run.seq ?_
   obtain ⟨x1, e3, hF⟩ := bindP_use hF
   obtain ⟨x2, e4, hF⟩ := bindP_use hF
   refine Run.drawV (Ωs := []) [⟨some 17, some (v0), fun _ => [], fun ds_ u_ => [], [], [], none⟩, ⟨some 18, some (.int .i64 s1), fun _ => [], fun ds_ u_ => [], [], [], none⟩, ⟨some 19, none, fun u_ => [(false, .ptr (Rep.int .u8) u_ x1)], fun ds_ u_ => [], [], [], none⟩, ⟨some 20, some (.int .u8 x1), fun _ => [], fun ds_ u_ => [], [], [], none⟩, ⟨some 21, some (v1), fun _ => [], fun ds_ u_ => [], [], [], none⟩, ⟨some 22, some (.int .i64 s1), fun _ => [], fun ds_ u_ => [], [], [], none⟩, ⟨some 23, none, fun u_ => [(false, .ptr (Rep.int .u8) u_ x2)], fun ds_ u_ => [], [], [], none⟩, ⟨some 24, some (.int .u8 x2), fun _ => [], fun ds_ u_ => [], [], [], none⟩, ⟨some 25, some (.bool (x1 != x2)), fun _ => [], fun ds_ u_ => [], [], [], none⟩] [[], [], [0, 1], [2], [], [], [4, 5], [6], [3, 7]] [] [0, 1, 2, 3, 4, 5, 6, 7, 8] Try_mixed rfl rfl rfl h1 (.cons ?_ (.cons ?_ (.cons ?_ (.cons ?_ (.cons ?_ (.cons ?_ (.cons ?_ (.cons ?_ (.cons ?_ .nil))))))))) (fun q1 w hq1 h => ?_)
   ·intro q1 w Γx Ωx h
    refine OpS.mv rfl rfl rfl ?_
    exact ⟨undef, rfl, trivial, h⟩
   ·intro q1 w Γx Ωx h
    refine OpS.mv rfl rfl rfl ?_
    exact ⟨undef, rfl, trivial, h⟩
   ·intro q1 w Γx Ωx h
    refine OpS.iptr h Try.underlying34 ty5 rfl rfl rfl rfl (V.at .z) e3 (fun u h4 => ?_)
    exact ⟨u, rfl, trivial, h4⟩
   ·intro q1 w Γx Ωx h
    refine OpS.loadi h ty5 rfl rfl rfl .z ?_
    exact ⟨undef, rfl, trivial, h⟩
   ·intro q1 w Γx Ωx h
    refine OpS.mv rfl rfl rfl ?_
    exact ⟨undef, rfl, trivial, h⟩
   ·intro q1 w Γx Ωx h
    refine OpS.mv rfl rfl rfl ?_
    exact ⟨undef, rfl, trivial, h⟩
   ·intro q1 w Γx Ωx h
    refine OpS.iptr h Try.underlying34 ty5 rfl rfl rfl rfl (V.at (.s .z)) e4 (fun u h5 => ?_)
    exact ⟨u, rfl, trivial, h5⟩
   ·intro q1 w Γx Ωx h
    refine OpS.loadi h ty5 rfl rfl rfl .z ?_
    exact ⟨undef, rfl, trivial, h⟩
   ·intro q1 w Γx Ωx h
    refine OpS.bin rfl rfl rfl rfl rfl ?_
    exact ⟨undef, rfl, trivial, h⟩
   have h6 : St e w [(false, .ptr (Rep.int .u8) (q1 2) x1), (false, .ptr (Rep.int .u8) (q1 6) x2), (false, .val (Rep.slice (Rep.int .u8)) v0 a0), (false, .val (Rep.slice (Rep.int .u8)) v1 a1)] [] := h
   refine RunL.nil ?_
   refine Run.slim [(25, .bool (x1 != x2)), (0, v0), (1, v1), (5, .int .i64 s1)] ⟨rfl, rfl, rfl, rfl, trivial⟩ ?_
   refine Run.ite rfl hF (fun e5 hF => ?_) (fun e5 hF => ?_)
   ·
    refine Run.seq ?_
    refine Run.reg ?_
    refine op (OpS.as rfl rfl rfl ?_)
    refine RunL.nil ?_
    refine Run.slim [(4, .bool false)] ⟨rfl, trivial⟩ ?_
    refine Run.retP rfl (.tmp rfl .nil) ?_
    cases hF
    exact Post.mk' ⟨rfl, rfl, rfl, rfl⟩ (h6.picks .nil) .nil
   ·
    refine Run.skip ?_
    refine Run.endBlock ?_
    refine Run.reg ?_
    refine op (OpS.mv rfl rfl rfl ?_)
    refine op (OpS.bin rfl rfl rfl rfl rfl ?_)
    refine op (OpS.as rfl rfl rfl ?_)
    obtain ⟨x3, e6, hF⟩ := letP_use hF
    refine RunL.name e6 ?_
    refine RunL.nil ?_
    refine Run.slim [(5, .int .i64 x3), (0, v0), (1, v1)] ⟨rfl, rfl, rfl, trivial⟩ ?_
    refine Run.slim [(0, v0), (1, v1), (5, .int .i64 x3)] ⟨rfl, rfl, rfl, trivial⟩ ?_
    exact hk1 (x3) _ _ ⟨rfl, (h6.facts (.atm (.s (.s .z)) (.atm (.s (.s (.s .z))) .nil))).picks .nil⟩ hF
  ·
   refine Run.exit rfl ?_
   refine Run.seq ?_
   refine Run.reg ?_
   refine op (OpS.as rfl rfl rfl ?_)
   refine RunL.nil ?_
   refine Run.slim [(4, .bool true)] ⟨rfl, trivial⟩ ?_
   refine Run.retP rfl (.tmp rfl .nil) ?_
   cases hF
   exact Post.mk' ⟨rfl, rfl, rfl, rfl⟩ (h1.picks .nil) .nil
theorem repository_Repository_Clear_ok {fuel : Nat} {a0 : repository_Repository} {a1 : Int} {y : Int × repository_Repository} (hF : repository_Repository_Clear fuel a0 a1 = some y) {w : World} {v0 v0_0 : Value} :
  Spec Try.prog 20 [v0, .int .u16 a1].toArray w [] [(false, .box 65 (Rep.iso (fun s : repository_Repository => (s.capacity, s.records, s.last, s.number, s.held, ())) (Rep.prod (Rep.int .i64) (Rep.prod (Rep.raw v0_0) (Rep.prod (Rep.int .u16) (Rep.prod (Rep.int .u16) (Rep.prod Rep.bool Rep.unit)))))) v0 a0), (false, .slice 67 repository_record.rep v0_0 a0.records)] (fun v Γr Ωr Ωo => ∃ w0_0 : Value, v = .int .i64 y.1 ∧ Γr = [] ∧ Ωr = [] ∧ Ωo = [(false, .box 65 (Rep.iso (fun s : repository_Repository => (s.capacity, s.records, s.last, s.number, s.held, ())) (Rep.prod (Rep.int .i64) (Rep.prod (Rep.raw w0_0) (Rep.prod (Rep.int .u16) (Rep.prod (Rep.int .u16) (Rep.prod Rep.bool Rep.unit)))))) v0 y.2), (false, (.slice 67 repository_record.rep w0_0 y.2.records))]) := by
 refine Spec.of (L := [(0, v0), (1, .int .u16 a1)]) Try.func20 rfl ⟨rfl, rfl, trivial⟩ rfl (fun e h => ?_)
 unfold repository_Repository_Clear at hF
 refine Run.seq ?_
 refine Run.reg ?_
 refine op (OpS.as rfl rfl rfl ?_)
 refine RunL.nil ?_
 refine Run.slim [(0, v0), (1, .int .u16 a1)] ⟨rfl, rfl, trivial⟩ ?_
 refine Run.seq ?_
 refine Run.seq ?_
 refine Run.reg ?_
 refine op (OpS.mv rfl rfl rfl ?_)
 refine op (OpS.mv rfl rfl rfl ?_)
 obtain ⟨y1, e1, hF⟩ := bindP_use hF
 have h1 := h.front (.cons .z (.cons .z .nil))
 refine op (OpS.callO h1 Try.func36 rfl rfl rfl rfl (vs := [v0, .int .u16 a1]) rfl (repository_Repository_holds_ok e1) rfl .nil ?_)
 rintro _ w1 _ _ _ ⟨rfl, rfl, rfl, rfl⟩ h2
 have h3 := h2
 simp only [List.cons_append, List.nil_append] at h3
 refine op (OpS.not rfl rfl rfl ?_)
 refine RunL.nil ?_
 refine Run.slim [(8, .bool (!y1)), (0, v0)] ⟨rfl, rfl, trivial⟩ ?_
 refine Run.ite rfl hF (fun e2 hF => ?_) (fun e2 hF => ?_)
 ·
  refine Run.seq ?_
  refine Run.reg ?_
  refine op (OpS.as rfl rfl rfl ?_)
  refine RunL.nil ?_
  refine Run.slim [(4, .int .i64 11)] ⟨rfl, trivial⟩ ?_
  refine Run.retP rfl (.tmp rfl .nil) ?_
  cases hF
  exact Post.mk' ⟨v0_0, rfl, rfl, rfl, rfl⟩ (h3.picks (.cons .z (.cons .z .nil))) .nil
 ·
  refine Run.skip ?_
  refine Run.seq ?_
  refine Run.reg ?_
  refine op (OpS.mv rfl rfl rfl ?_)
  refine op (OpS.mv rfl rfl rfl ?_)
  refine op (OpS.nchk h3 .z rfl rfl rfl ?_)
  refine op (OpS.fbox (o3 := 1) h3 .z PA.z fa65_1 rfl rfl rfl rfl ?_)
  have h4 := St.nil 67 repository_record.rep h3
  refine op (OpS.storeC (f' := false) (fr := (Rep.raw (.slice none 0 0))) (r' := (Rep.iso (fun s : repository_Repository => (s.capacity, s.records, s.last, s.number, s.held, ())) (Rep.prod (Rep.int .i64) (Rep.prod (Rep.raw (.slice none 0 0)) (Rep.prod (Rep.int .u16) (Rep.prod (Rep.int .u16) (Rep.prod Rep.bool Rep.unit))))))) (x' := a0) h4 (.s .z) PA.a (Chg.iso _ (Chg.there (Chg.here (Chg.id (by rfl))))) (Ty.like ty63 (by rfl) (by rfl)) rfl rfl rfl (V.raw (f := false) (St.own1 h4 .z) a0.records) (.inr rfl) (fun w2 h5 => ?_))
  refine op (OpS.nchk h5 .z rfl rfl rfl ?_)
  refine op (OpS.fbox (o3 := 4) h5 .z PA.z fa65_4 rfl rfl rfl rfl ?_)
  obtain ⟨d1, e3, hF⟩ := letP_use hF
  refine op (OpS.storeC (f' := true) (fr := Rep.bool) (r' := (Rep.iso (fun s : repository_Repository => (s.capacity, s.records, s.last, s.number, s.held, ())) (Rep.prod (Rep.int .i64) (Rep.prod (Rep.raw (.slice none 0 0)) (Rep.prod (Rep.int .u16) (Rep.prod (Rep.int .u16) (Rep.prod Rep.bool Rep.unit))))))) (x' := d1) h5 .z PA.a (Chg.of (x' := { a0 with held := false }) (Chg.iso _ (Chg.there (Chg.there (Chg.there (Chg.there (Chg.here (Chg.id (by rfl)))))))) e3) ty4 rfl rfl rfl V.bool (.inr rfl) (fun w3 h6 => ?_))
  refine RunL.nil ?_
  refine Run.slim [] trivial ?_
  refine Run.seq ?_
  refine Run.reg ?_
  refine op (OpS.as rfl rfl rfl ?_)
  refine RunL.nil ?_
  have h7 := St.boxJ (r' := (Rep.iso (fun s : repository_Repository => (s.capacity, s.records, s.last, s.number, s.held, ())) (Rep.prod (Rep.int .i64) (Rep.prod (Rep.raw (.slice none 0 0)) (Rep.prod (Rep.int .u16) (Rep.prod (Rep.int .u16) (Rep.prod Rep.bool Rep.unit))))))) (x' := { d1 with records := [] }) (h6.pick .z) (fun _ _ hs_ => (Jn.iso _ (Jn.prod Jn.refl (Jn.prod Jn.same Jn.refl))))
  have h8 := (h7.pick (.s .z)).weak
  refine Run.retP rfl (.tmp rfl .nil) ?_
  cases hF
  exact Post.mk' ⟨(.slice none 0 0), rfl, rfl, rfl, rfl⟩ (h8.picks (.cons (.s .z) (.cons .z .nil))) .nil
theorem slices_Delete_repository_record_repository_record_ok {fuel : Nat} {a0 : List repository_record} {a1 : Int} {a2 : Int} {y : (List repository_record)} (hF : slices_Delete_repository_record_repository_record fuel a0 a1 a2 = some y) {w : World} {v0 : Value} :
  Spec Try.prog 40 [v0, .int .i64 a1, .int .i64 a2].toArray w [] [(false, .slice 67 repository_record.rep v0 a0)] (fun v Γr Ωr Ωo => ∃ u0 : Value, v = u0 ∧ Γr = [] ∧ Ωr = [(false, .slice 67 repository_record.rep u0 y)] ∧ Ωo = []) := by
 refine Spec.of (L := [(0, v0), (1, .int .i64 a1), (2, .int .i64 a2)]) Try.func40 rfl ⟨rfl, rfl, rfl, trivial⟩ rfl (fun e h => ?_)
 unfold slices_Delete_repository_record_repository_record at hF
 refine Run.seq ?_
 refine Run.reg ?_
 refine op (OpS.as rfl rfl rfl ?_)
 refine RunL.nil ?_
 refine Run.slim [(0, v0), (1, .int .i64 a1), (2, .int .i64 a2)] ⟨rfl, rfl, rfl, trivial⟩ ?_
 refine Run.seq ?_
 refine Run.reg ?_
 refine op (OpS.mv rfl rfl rfl ?_)
 refine op (OpS.mv rfl rfl rfl ?_)
 refine op (OpS.mv rfl rfl rfl ?_)
 refine op (OpS.mv rfl rfl rfl ?_)
 refine op (OpS.lenO h .z Try.underlying63 rfl rfl rfl ?_)
 obtain ⟨e1, hF⟩ := chk_use hF
 refine op (OpS.chkS h .z Try.underlying63 ty67 rfl rfl rfl rfl rfl rfl (of_decide_eq_true e1) (fun u1 => ?_))
 refine RunL.nil ?_
 refine Run.slim [(0, v0), (1, .int .i64 a1), (2, .int .i64 a2)] ⟨rfl, rfl, rfl, trivial⟩ ?_
 refine Run.seq ?_
 refine Run.seq ?_
 refine Run.reg ?_
 refine op (OpS.mv rfl rfl rfl ?_)
 refine op (OpS.mv rfl rfl rfl ?_)
 refine op (OpS.bin rfl rfl rfl rfl rfl ?_)
 refine RunL.nil ?_
 refine Run.slim [(16, .bool (a1 == a2)), (0, v0), (1, .int .i64 a1), (2, .int .i64 a2)] ⟨rfl, rfl, rfl, rfl, trivial⟩ ?_
 refine Run.ite rfl hF (fun e2 hF => ?_) (fun e2 hF => ?_)
 ·
  refine Run.seq ?_
  refine Run.reg ?_
  refine op (OpS.mv rfl rfl rfl ?_)
  refine op (OpS.as rfl rfl rfl ?_)
  refine RunL.nil ?_
  refine Run.slim [(6, v0)] ⟨rfl, trivial⟩ ?_
  refine Run.retP rfl (.tmp rfl .nil) ?_
  cases hF
  exact Post.mk' ⟨v0, rfl, rfl, rfl, rfl⟩ (h.picks (.cons .z .nil)) .nil
 ·
  refine Run.skip ?_
  refine Run.seq ?_
  refine Run.reg ?_
  refine op (OpS.mv rfl rfl rfl ?_)
  refine op (OpS.lenO h .z Try.underlying63 rfl rfl rfl ?_)
  refine op (OpS.as rfl rfl rfl ?_)
  refine RunL.nil ?_
  refine Run.slim [(7, .int .i64 (a0.length : Int)), (0, v0), (1, .int .i64 a1), (2, .int .i64 a2)] ⟨rfl, rfl, rfl, rfl, trivial⟩ ?_
  refine Run.seq ?_
  obtain ⟨e3, hF⟩ := chk_use hF
  obtain ⟨e4, hF⟩ := chk_use hF
  obtain ⟨e5, hF⟩ := chk_use hF
  refine Run.drawV (Ωs := []) [⟨some 20, some (v0), fun _ => [], fun ds_ u_ => [], [], [], none⟩, ⟨some 21, some (.int .i64 a1), fun _ => [], fun ds_ u_ => [], [], [], none⟩, ⟨some 22, some ((pre v0 ((a1).toNat))), fun _ => [], fun ds_ u_ => [], [], [(0, [6, 2])], none⟩, ⟨some 23, some (v0), fun _ => [], fun ds_ u_ => [], [], [], none⟩, ⟨some 24, some (.int .i64 a2), fun _ => [], fun ds_ u_ => [], [], [], none⟩, ⟨some 25, some ((Lift.part repository_record.rep.n v0 a2.toNat (a0.length : Int).toNat)), fun _ => [], fun ds_ u_ => [], [], [(0, [6, 5])], none⟩, ⟨some 26, none, fun u_ => [(true, .room u_ a0.length)], fun ds_ u_ => [(false, .slice 67 repository_record.rep u_ (a0.take ((a1).toNat) ++ a0.drop a2.toNat))], [0], [], none⟩] [[], [], [0, 1], [], [], [3, 4], [2, 5]] [[(false, .slice 67 repository_record.rep v0 a0)]] [1, 2, 3, 4, 5, 6, 7] Try_mixed rfl rfl rfl h (.cons ?_ (.cons ?_ (.cons ?_ (.cons ?_ (.cons ?_ (.cons ?_ (.cons ?_ .nil))))))) (fun q1 w hq1 h => ?_)
  ·intro q1 w Γx Ωx h
   refine OpS.mv rfl rfl rfl ?_
   exact ⟨undef, rfl, trivial, h⟩
  ·intro q1 w Γx Ωx h
   refine OpS.mv rfl rfl rfl ?_
   exact ⟨undef, rfl, trivial, h⟩
  ·intro q1 w Γx Ωx h
   have h : St e w ([] ++ Γx) ([(false, .slice 67 repository_record.rep v0 a0)] ++ Ωx) := h
   refine OpS.preS h .z Try.underlying63 ty67 rfl rfl rfl rfl rfl (of_decide_eq_true e3).1 (of_decide_eq_true e3).2 ?_
   exact ⟨undef, rfl, trivial, h⟩
  ·intro q1 w Γx Ωx h
   refine OpS.mv rfl rfl rfl ?_
   exact ⟨undef, rfl, trivial, h⟩
  ·intro q1 w Γx Ωx h
   refine OpS.mv rfl rfl rfl ?_
   exact ⟨undef, rfl, trivial, h⟩
  ·intro q1 w Γx Ωx h
   have h : St e w ([] ++ Γx) ([(false, .slice 67 repository_record.rep v0 a0)] ++ Ωx) := h
   refine OpS.partS h .z Try.underlying63 ty67 rfl rfl rfl rfl rfl (of_decide_eq_true e4) ?_
   exact ⟨undef, rfl, trivial, h⟩
  ·intro q1 w Γx Ωx h
   have h : St e w ([] ++ Γx) ([(false, .slice 67 repository_record.rep v0 a0)] ++ Ωx) := h
   refine OpS.moveU h .z Try.underlying63 ti67 rfl rfl rfl rfl (of_decide_eq_true e5) (fun u w2 h2 => ?_)
   exact ⟨u, rfl, trivial, h2⟩
  have h3 : St e w [(true, .room (q1 6) a0.length)] [(false, .slice 67 repository_record.rep (q1 6) (a0.take ((a1).toNat) ++ a0.drop a2.toNat))] := h
  refine op (OpS.as rfl rfl rfl ?_)
  refine RunL.nil ?_
  refine Run.slim [(0, (q1 6)), (7, .int .i64 (a0.length : Int))] ⟨rfl, rfl, trivial⟩ ?_
  refine Run.seq ?_
  refine Run.reg ?_
  refine op (OpS.mv rfl rfl rfl ?_)
  refine op (OpS.mv rfl rfl rfl ?_)
  refine op (OpS.lenO h3 .z Try.underlying63 rfl rfl rfl ?_)
  refine op (OpS.mv rfl rfl rfl ?_)
  obtain ⟨e6, hF⟩ := chk_use hF
  refine op (OpS.tailS h3 .z .z Try.underlying63 ty67 rfl rfl rfl rfl rfl (of_decide_eq_true e6) ?_)
  obtain ⟨e7, hF⟩ := chk_use hF
  refine op (OpS.clearS h3 .z .z Try.underlying63 ti67 repository_record.zr rfl rfl (of_decide_eq_true e7) (fun w3 h4 => ?_))
  refine RunL.nil ?_
  refine Run.slim [(0, (q1 6))] ⟨rfl, trivial⟩ ?_
  refine Run.seq ?_
  refine Run.reg ?_
  refine op (OpS.mv rfl rfl rfl ?_)
  refine op (OpS.as rfl rfl rfl ?_)
  refine RunL.nil ?_
  refine Run.slim [(6, (q1 6))] ⟨rfl, trivial⟩ ?_
  refine Run.retP rfl (.tmp rfl .nil) ?_
  cases hF
  exact Post.mk' ⟨(q1 6), rfl, rfl, rfl, rfl⟩ (h4.picks (.cons .z .nil)) .nil
theorem repository_Repository_Delete_ok {fuel : Nat} {a0 : repository_Repository} {a1 : Int} {a2 : Int} {y : Int × repository_Repository} (hF : repository_Repository_Delete fuel a0 a1 a2 = some y) {w : World} {v0 v0_0 : Value} :
  Spec Try.prog 21 [v0, .int .u16 a1, .int .u16 a2].toArray w [] [(false, .box 65 (Rep.iso (fun s : repository_Repository => (s.capacity, s.records, s.last, s.number, s.held, ())) (Rep.prod (Rep.int .i64) (Rep.prod (Rep.raw v0_0) (Rep.prod (Rep.int .u16) (Rep.prod (Rep.int .u16) (Rep.prod Rep.bool Rep.unit)))))) v0 a0), (false, .slice 67 repository_record.rep v0_0 a0.records)] (fun v Γr Ωr Ωo => ∃ w0_0 : Value, v = .int .i64 y.1 ∧ Γr = [] ∧ Ωr = [] ∧ Ωo = [(false, .box 65 (Rep.iso (fun s : repository_Repository => (s.capacity, s.records, s.last, s.number, s.held, ())) (Rep.prod (Rep.int .i64) (Rep.prod (Rep.raw w0_0) (Rep.prod (Rep.int .u16) (Rep.prod (Rep.int .u16) (Rep.prod Rep.bool Rep.unit)))))) v0 y.2), (false, (.slice 67 repository_record.rep w0_0 y.2.records))]) := by
 refine Spec.of (L := [(0, v0), (1, .int .u16 a1), (2, .int .u16 a2)]) Try.func21 rfl ⟨rfl, rfl, rfl, trivial⟩ rfl (fun e h => ?_)
 unfold repository_Repository_Delete at hF
 refine Run.seq ?_
 refine Run.reg ?_
 refine op (OpS.as rfl rfl rfl ?_)
 refine RunL.nil ?_
 refine Run.slim [(0, v0), (1, .int .u16 a1), (2, .int .u16 a2)] ⟨rfl, rfl, rfl, trivial⟩ ?_
 refine Run.seq ?_
 refine Run.reg ?_
 refine op (OpS.mv rfl rfl rfl ?_)
 refine op (OpS.mv rfl rfl rfl ?_)
 obtain ⟨y1, e1, hF⟩ := bindP_use hF
 have h1 := h.front (.cons .z (.cons .z .nil))
 refine op (OpS.callO h1 Try.func39 rfl rfl rfl rfl (vs := [v0, .int .u16 a2]) rfl (repository_Repository_find_ok e1) rfl .nil ?_)
 rintro _ w1 _ _ _ ⟨rfl, rfl, rfl, rfl⟩ h2
 have h3 := h2
 simp only [List.cons_append, List.nil_append] at h3
 refine op (OpS.as rfl rfl rfl ?_)
 refine RunL.nil ?_
 refine Run.slim [(7, .int .i64 y1), (0, v0), (1, .int .u16 a1)] ⟨rfl, rfl, rfl, trivial⟩ ?_
 refine Run.seq ?_
 refine Run.block ?_
 refine Run.seq ?_
 refine Run.reg ?_
 refine op (OpS.mv rfl rfl rfl ?_)
 refine op (OpS.mv rfl rfl rfl ?_)
 obtain ⟨y2, e2, hF⟩ := bindP_use hF
 have h4 := h3.front (.cons .z (.cons .z .nil))
 refine op (OpS.callO h4 Try.func36 rfl rfl rfl rfl (vs := [v0, .int .u16 a1]) rfl (repository_Repository_holds_ok e2) rfl .nil ?_)
 rintro _ w2 _ _ _ ⟨rfl, rfl, rfl, rfl⟩ h5
 have h6 := h5
 simp only [List.cons_append, List.nil_append] at h6
 refine op (OpS.not rfl rfl rfl ?_)
 refine op (OpS.as rfl rfl rfl ?_)
 obtain ⟨x1, e3, hF⟩ := letP_use hF
 refine RunL.nameb e3 ?_
 refine RunL.nil ?_
 refine Run.slim [(11, .bool x1), (7, .int .i64 y1), (0, v0)] ⟨rfl, rfl, rfl, trivial⟩ ?_
 refine Run.ite rfl hF (fun e4 hF => ?_) (fun e4 hF => ?_)
 ·
  refine Run.seq ?_
  refine Run.reg ?_
  refine op (OpS.as rfl rfl rfl ?_)
  refine RunL.nil ?_
  refine Run.slim [(6, .int .i64 11)] ⟨rfl, trivial⟩ ?_
  refine Run.retP rfl (.tmp rfl .nil) ?_
  cases hF
  exact Post.mk' ⟨v0_0, rfl, rfl, rfl, rfl⟩ (h6.picks (.cons .z (.cons .z .nil))) .nil
 ·
  refine Run.seq ?_
  refine Run.reg ?_
  refine op (OpS.mv rfl rfl rfl ?_)
  refine op (OpS.bin rfl rfl rfl rfl rfl ?_)
  refine op (OpS.as rfl rfl rfl ?_)
  obtain ⟨x2, e5, hF⟩ := letP_use hF
  refine RunL.nameb e5 ?_
  refine RunL.nil ?_
  refine Run.slim [(16, .bool x2), (7, .int .i64 y1), (0, v0)] ⟨rfl, rfl, rfl, trivial⟩ ?_
  refine Run.ite rfl hF (fun e6 hF => ?_) (fun e6 hF => ?_)
  ·
   refine Run.seq ?_
   refine Run.reg ?_
   refine op (OpS.as rfl rfl rfl ?_)
   refine RunL.nil ?_
   refine Run.slim [(6, .int .i64 8)] ⟨rfl, trivial⟩ ?_
   refine Run.retP rfl (.tmp rfl .nil) ?_
   cases hF
   exact Post.mk' ⟨v0_0, rfl, rfl, rfl, rfl⟩ (h6.picks (.cons .z (.cons .z .nil))) .nil
  ·
   refine Run.skip ?_
   refine Run.endBlock ?_
   refine Run.seq ?_
   refine Run.reg ?_
   refine op (OpS.mv rfl rfl rfl ?_)
   refine op (OpS.mv rfl rfl rfl ?_)
   refine op (OpS.nchk h6 .z rfl rfl rfl ?_)
   refine op (OpS.fbox (o3 := 1) h6 .z PA.z fa65_1 rfl rfl rfl rfl ?_)
   refine op (OpS.loadR h6 .z PA.a (GetS.ok (GetS.iso _ (GetS.there (GetS.here GetS.id)))) ty63 rfl rfl rfl rfl rfl ?_)
   refine op (OpS.mv rfl rfl rfl ?_)
   refine op (OpS.mv rfl rfl rfl ?_)
   refine op (OpS.bin rfl rfl rfl rfl rfl ?_)
   obtain ⟨y3, e7, hF⟩ := bindP_use hF
   have h7 := h6.front (.cons (.s .z) .nil)
   refine op (OpS.callO h7 Try.func40 rfl rfl rfl rfl (vs := [v0_0, .int .i64 y1, .int .i64 (IntKind.i64.wrap (y1 + 1))]) rfl (slices_Delete_repository_record_repository_record_ok e7) rfl .nil ?_)
   rintro u1 w3 _ _ _ ⟨_, rfl, rfl, rfl, rfl⟩ h8
   have h9 := h8
   simp only [List.cons_append, List.nil_append] at h9
   refine op (OpS.nchk h9 (.s .z) rfl rfl rfl ?_)
   refine op (OpS.fbox (o3 := 1) h9 (.s .z) PA.z fa65_1 rfl rfl rfl rfl ?_)
   refine op (OpS.storeC (f' := false) (fr := (Rep.raw u1)) (r' := (Rep.iso (fun s : repository_Repository => (s.capacity, s.records, s.last, s.number, s.held, ())) (Rep.prod (Rep.int .i64) (Rep.prod (Rep.raw u1) (Rep.prod (Rep.int .u16) (Rep.prod (Rep.int .u16) (Rep.prod Rep.bool Rep.unit))))))) (x' := a0) h9 (.s .z) PA.a (Chg.iso _ (Chg.there (Chg.here (Chg.id (by rfl))))) (Ty.like ty63 (by rfl) (by rfl)) rfl rfl rfl (V.raw (f := false) (St.own1 h9 .z) a0.records) (.inr rfl) (fun w4 h10 => ?_))
   refine RunL.nil ?_
   refine Run.slim [(0, v0)] ⟨rfl, trivial⟩ ?_
   refine Run.seq ?_
   refine Run.reg ?_
   refine op (OpS.mv rfl rfl rfl ?_)
   refine op (OpS.nchk h10 .z rfl rfl rfl ?_)
   refine op (OpS.fbox (o3 := 4) h10 .z PA.z fa65_4 rfl rfl rfl rfl ?_)
   obtain ⟨d1, e8, hF⟩ := letP_use hF
   refine op (OpS.storeC (f' := true) (fr := Rep.bool) (r' := (Rep.iso (fun s : repository_Repository => (s.capacity, s.records, s.last, s.number, s.held, ())) (Rep.prod (Rep.int .i64) (Rep.prod (Rep.raw u1) (Rep.prod (Rep.int .u16) (Rep.prod (Rep.int .u16) (Rep.prod Rep.bool Rep.unit))))))) (x' := d1) h10 .z PA.a (Chg.of (x' := { a0 with held := false }) (Chg.iso _ (Chg.there (Chg.there (Chg.there (Chg.there (Chg.here (Chg.id (by rfl)))))))) e8) ty4 rfl rfl rfl V.bool (.inr rfl) (fun w5 h11 => ?_))
   refine RunL.nil ?_
   refine Run.slim [] trivial ?_
   refine Run.seq ?_
   refine Run.reg ?_
   refine op (OpS.as rfl rfl rfl ?_)
   refine RunL.nil ?_
   have h12 := St.boxJ (r' := (Rep.iso (fun s : repository_Repository => (s.capacity, s.records, s.last, s.number, s.held, ())) (Rep.prod (Rep.int .i64) (Rep.prod (Rep.raw u1) (Rep.prod (Rep.int .u16) (Rep.prod (Rep.int .u16) (Rep.prod Rep.bool Rep.unit))))))) (x' := { d1 with records := y3 }) (h11.pick .z) (fun _ _ hs_ => (Jn.iso _ (Jn.prod Jn.refl (Jn.prod Jn.same Jn.refl))))
   refine Run.retP rfl (.tmp rfl .nil) ?_
   cases hF
   exact Post.mk' ⟨u1, rfl, rfl, rfl, rfl⟩ (h12.picks (.cons .z (.cons .z .nil))) .nil
theorem law11_light_ok {fuel : Nat} {a0 : List law11_Do} {y : Bool} (hF : law11_light fuel a0 = some y) {w : World} {v0 : Value} :
  Spec Try.prog 22 [v0].toArray w [(false, .val (Rep.slice law11_Do.rep) v0 a0)] [] (fun v Γr Ωr Ωo => v = .bool y ∧ Γr = [] ∧ Ωr = [] ∧ Ωo = []) := by
 refine Spec.of (L := [(0, v0)]) Try.func22 rfl ⟨rfl, trivial⟩ rfl (fun e h => ?_)
 unfold law11_light at hF
 refine Run.seq ?_
 refine Run.reg ?_
 refine op (OpS.as rfl rfl rfl ?_)
 refine RunL.nil ?_
 refine Run.slim [(0, v0)] ⟨rfl, trivial⟩ ?_
 refine Run.seq ?_
 refine Run.seq ?_
 refine Run.reg ?_
 refine op (OpS.mv rfl rfl rfl ?_)
 refine op (OpS.len h Try.underlying50 rfl rfl rfl (V.at .z) ?_)
 refine op (OpS.bin rfl rfl rfl rfl rfl ?_)
 refine RunL.nil ?_
 refine Run.slim [(6, .bool (decide ((a0.length : Int) > 100))), (0, v0)] ⟨rfl, rfl, trivial⟩ ?_
 refine Run.ite rfl hF (fun e1 hF => ?_) (fun e1 hF => ?_)
 ·
  refine Run.seq ?_
  refine Run.reg ?_
  refine op (OpS.as rfl rfl rfl ?_)
  refine RunL.nil ?_
  refine Run.slim [(2, .bool false)] ⟨rfl, trivial⟩ ?_
  refine Run.retP rfl (.tmp rfl .nil) ?_
  cases hF
  exact Post.mk' ⟨rfl, rfl, rfl, rfl⟩ (h.picks .nil) .nil
 ·
  refine Run.skip ?_
  refine Run.seq ?_
  refine Run.seq ?_
  refine Run.reg ?_
  refine op (OpS.as rfl rfl rfl ?_)
  refine RunL.nil ?_
  refine Run.slim [(3, .int .i64 0), (0, v0)] ⟨rfl, rfl, trivial⟩ ?_
  refine Run.block ?_
  refine Run.slim [(0, v0), (3, .int .i64 0)] ⟨rfl, rfl, trivial⟩ ?_
  refine Run.loopP (σ := Int) (fun s_ L_ w_ => L_ = [(0, v0), (3, .int .i64 s_)] ∧ St e w_ [(false, .val (Rep.slice law11_Do.rep) v0 a0)] []) hF ⟨rfl, (h.facts (.atm .z .nil)).picks .nil⟩ (fun k1 hk1 s1 _ w1 hI hF => ?_)
  obtain ⟨rfl, h1⟩ := hI
  refine Run.seq ?_
  refine Run.seq ?_
  refine Run.reg ?_
  refine op (OpS.mv rfl rfl rfl ?_)
  refine op (OpS.mv rfl rfl rfl ?_)
  refine op (OpS.len h1 Try.underlying50 rfl rfl rfl (V.at .z) ?_)
  refine op (OpS.bin rfl rfl rfl rfl rfl ?_)
  refine RunL.nil ?_
  refine Run.slim [(10, .bool (decide (s1 < (a0.length : Int)))), (0, v0), (3, .int .i64 s1)] ⟨rfl, rfl, rfl, trivial⟩ ?_
  refine Run.ite rfl hF (fun e2 hF => ?_) (fun e2 hF => ?_)
  ·
   refine Run.skip ?_
   refine Run.seq ?_
   refine Run.block ?_
   refine Run.seq ?_
   refine Run.reg ?_
   refine op (OpS.mv rfl rfl rfl ?_)
   refine op (OpS.mv rfl rfl rfl ?_)
   obtain ⟨x1, e3, hF⟩ := bindP_use hF
   refine op (OpS.iptr h1 Try.underlying50 ty56 rfl rfl rfl rfl (V.at .z) e3 (fun u1 h2 => ?_))
   refine op (OpS.fptr h2 fa56_6 law11_Do.f6 rfl rfl rfl .z (fun u2 h3 => ?_))
   refine op (OpS.load h3 ty34 rfl rfl rfl .z (fun u3 h4 => ?_))
   refine op (OpS.len h4 Try.underlying34 rfl rfl rfl (V.at .z) ?_)
   refine op (OpS.bin rfl rfl rfl rfl rfl ?_)
   refine RunL.nil ?_
   refine Run.slim [(19, .bool (decide ((x1.Data.length : Int) > 300))), (0, v0), (3, .int .i64 s1)] ⟨rfl, rfl, rfl, trivial⟩ ?_
   refine Run.ite rfl hF (fun e4 hF => ?_) (fun e4 hF => ?_)
   ·
    refine Run.seq ?_
    refine Run.reg ?_
    refine op (OpS.as rfl rfl rfl ?_)
    refine RunL.nil ?_
    refine Run.slim [(2, .bool false)] ⟨rfl, trivial⟩ ?_
    refine Run.retP rfl (.tmp rfl .nil) ?_
    cases hF
    exact Post.mk' ⟨rfl, rfl, rfl, rfl⟩ (h4.picks .nil) .nil
   ·
    refine Run.skip ?_
    refine Run.endBlock ?_
    refine Run.reg ?_
    refine op (OpS.mv rfl rfl rfl ?_)
    refine op (OpS.bin rfl rfl rfl rfl rfl ?_)
    refine op (OpS.as rfl rfl rfl ?_)
    obtain ⟨x2, e5, hF⟩ := letP_use hF
    refine RunL.name e5 ?_
    refine RunL.nil ?_
    refine Run.slim [(3, .int .i64 x2), (0, v0)] ⟨rfl, rfl, trivial⟩ ?_
    refine Run.slim [(0, v0), (3, .int .i64 x2)] ⟨rfl, rfl, trivial⟩ ?_
    exact hk1 (x2) _ _ ⟨rfl, (h4.facts (.atm (.s (.s (.s .z))) .nil)).picks .nil⟩ hF
  ·
   refine Run.exit rfl ?_
   refine Run.seq ?_
   refine Run.reg ?_
   refine op (OpS.as rfl rfl rfl ?_)
   refine RunL.nil ?_
   refine Run.slim [(2, .bool true)] ⟨rfl, trivial⟩ ?_
   refine Run.retP rfl (.tmp rfl .nil) ?_
   cases hF
   exact Post.mk' ⟨rfl, rfl, rfl, rfl⟩ (h1.picks .nil) .nil
theorem ref11_New_ok {fuel : Nat} {a0 : Int} {y : (Option ref11_Repository) × Int} (hF : ref11_New fuel a0 = some y) {w : World} :
  Spec Try.prog 23 [.int .i64 a0].toArray w [] [] (fun v Γr Ωr Ωo => ∃ u0 : Value, v = .tuple #[u0, .int .i64 y.2] ∧ Γr = [] ∧ Ωr = [(true, .opt (fun x_ => .ex fun v_ => .sep (.box 74 (Rep.iso (fun s : ref11_Repository => (s.Capacity, s.Items, s.Last, s.Held, s.Given, ())) (Rep.prod (Rep.int .i64) (Rep.prod (Rep.raw v_) (Rep.prod (Rep.int .i64) (Rep.prod Rep.bool (Rep.prod (Rep.int .i64) Rep.unit)))))) u0 x_) (.slice 76 ref11_Item.rep v_ x_.Items)) u0 y.1)] ∧ Ωo = []) := by
 refine Spec.of (L := [(0, .int .i64 a0)]) Try.func23 rfl ⟨rfl, trivial⟩ rfl (fun e h => ?_)
 unfold ref11_New at hF
 refine Run.seq ?_
 refine Run.reg ?_
 refine op (OpS.as rfl rfl rfl ?_)
 refine op (OpS.as rfl rfl rfl ?_)
 refine RunL.nil ?_
 refine Run.slim [(0, .int .i64 a0)] ⟨rfl, trivial⟩ ?_
 refine Run.seq ?_
 refine Run.seq ?_
 refine Run.reg ?_
 refine op (OpS.mv rfl rfl rfl ?_)
 refine op (OpS.bin rfl rfl rfl rfl rfl ?_)
 refine op (OpS.mv rfl rfl rfl ?_)
 refine RunL.join (σ := Bool) (fun s_ L_ w_ => L_ = [(0, .int .i64 a0), (9, .bool s_)] ∧ St e w_ [] []) hF (fun s1 _ w1 hI hF => ?_) (fun j1 hj1 hF => ?_)
 ·
  obtain ⟨rfl, h1⟩ := hI
  refine Run.ite rfl hF (fun e1 hF => ?_) (fun e1 hF => ?_)
  ·
   refine Run.seq ?_
   refine Run.reg ?_
   refine op (OpS.as rfl rfl rfl ?_)
   refine op (OpS.as rfl rfl rfl ?_)
   refine RunL.nil ?_
   refine Run.slim [(3, .int .i64 2), (2, .pointer none)] ⟨rfl, rfl, trivial⟩ ?_
   have h2 := St.none (fun x_ => .ex fun v_ => .sep (.box 74 (Rep.iso (fun s : ref11_Repository => (s.Capacity, s.Items, s.Last, s.Held, s.Given, ())) (Rep.prod (Rep.int .i64) (Rep.prod (Rep.raw v_) (Rep.prod (Rep.int .i64) (Rep.prod Rep.bool (Rep.prod (Rep.int .i64) Rep.unit)))))) (.pointer none) x_) (.slice 76 ref11_Item.rep v_ x_.Items)) h1
   refine Run.retP rfl (.tmp rfl (.tmp rfl .nil)) ?_
   cases hF
   exact Post.mk' ⟨(.pointer none), rfl, rfl, rfl, rfl⟩ (h2.picks (.cons .z .nil)) .nil
  ·
   refine Run.skip ?_
   refine Run.seq ?_
   refine Run.reg ?_
   refine op (OpS.mv rfl rfl rfl ?_)
   have h3 := St.nil 76 ref11_Item.rep h1
   refine op (OpS.build (r := (Rep.iso (fun s : ref11_Repository => (s.Capacity, s.Items, s.Last, s.Held, s.Given, ())) (Rep.prod (Rep.int .i64) (Rep.prod (Rep.raw (.slice none 0 0)) (Rep.prod (Rep.int .i64) (Rep.prod Rep.bool (Rep.prod (Rep.int .i64) Rep.unit))))))) (f := true) (x' := (⟨a0, [], 0, false, 0⟩ : ref11_Repository)) h3 pl74 ti74 (Zr.iso (y := ref11_Repository.z) _ (Zr.of (Zr.prod (Zr.int .i64 0) (Zr.prod (Zr.raw rfl _) (Zr.prod (Zr.int .i64 0) (Zr.prod (Zr.bool false) (Zr.prod (Zr.int .i64 0) Zr.unit))))) (by rfl))) rfl rfl rfl (.cons rfl (Fld.iso (g' := ref11_Repository.Capacity) (st' := fun s y => { s with Capacity := y }) (fun s : ref11_Repository => (s.Capacity, s.Items, s.Last, s.Held, s.Given, ())) Fld.here (fun _ => rfl) (fun _ _ => rfl)) rfl V.int .nil) (fun u1 h4 => ?_))
   refine op (OpS.box (f' := true) h4 rfl rfl rfl (V.at .z) (fun u2 w2 h5 => ?_))
   refine op (OpS.as rfl rfl rfl ?_)
   refine op (OpS.as rfl rfl rfl ?_)
   refine RunL.nil ?_
   refine Run.slim [(3, .int .i64 0), (2, u2)] ⟨rfl, rfl, trivial⟩ ?_
   have h6 := St.boxJ (r' := (Rep.iso (fun s : ref11_Repository => (s.Capacity, s.Items, s.Last, s.Held, s.Given, ())) (Rep.prod (Rep.int .i64) (Rep.prod (Rep.raw (.slice none 0 0)) (Rep.prod (Rep.int .i64) (Rep.prod Rep.bool (Rep.prod (Rep.int .i64) Rep.unit))))))) (x' := { (⟨a0, [], 0, false, 0⟩ : ref11_Repository) with Items := [] }) (h5.pick .z) (fun _ _ hs_ => (Jn.iso _ (Jn.prod Jn.refl (Jn.prod Jn.same Jn.refl))))
   have h7 := h6.front (.cons .z (.cons .z .nil))
   have h8 := St.some (H := (fun x_ => .ex fun v_ => .sep (.box 74 (Rep.iso (fun s : ref11_Repository => (s.Capacity, s.Items, s.Last, s.Held, s.Given, ())) (Rep.prod (Rep.int .i64) (Rep.prod (Rep.raw v_) (Rep.prod (Rep.int .i64) (Rep.prod Rep.bool (Rep.prod (Rep.int .i64) Rep.unit)))))) u2 x_) (.slice 76 ref11_Item.rep v_ x_.Items))) (q := u2) (x := { (⟨a0, [], 0, false, 0⟩ : ref11_Repository) with Items := [] }) (St.ex (H := fun v_ => .sep (.box 74 (Rep.iso (fun s : ref11_Repository => (s.Capacity, s.Items, s.Last, s.Held, s.Given, ())) (Rep.prod (Rep.int .i64) (Rep.prod (Rep.raw v_) (Rep.prod (Rep.int .i64) (Rep.prod Rep.bool (Rep.prod (Rep.int .i64) Rep.unit)))))) u2 ({ (⟨a0, [], 0, false, 0⟩ : ref11_Repository) with Items := [] })) (.slice 76 ref11_Item.rep v_ (({ (⟨a0, [], 0, false, 0⟩ : ref11_Repository) with Items := [] }).Items))) (.slice none 0 0) (St.sep h7))
   refine Run.retP rfl (.tmp rfl (.tmp rfl .nil)) ?_
   cases hF
   exact Post.mk' ⟨u2, rfl, rfl, rfl, rfl⟩ (h8.picks (.cons .z .nil)) .nil
 ·
  refine RunL.caseb hF (fun e2 hF => ?_) (fun e2 hF => ?_)
  ·
   refine op (OpS.pass rfl rfl rfl ?_)
   refine op (OpS.pass rfl rfl rfl ?_)
   refine op (OpS.pick rfl rfl rfl rfl ?_)
   refine RunL.nil ?_
   refine Run.slim [(9, .bool true), (0, .int .i64 a0)] ⟨rfl, rfl, trivial⟩ ?_
   refine Run.slim [(0, .int .i64 a0), (9, .bool true)] ⟨rfl, rfl, trivial⟩ ?_
   exact hj1 (true) _ _ ⟨rfl, (h.facts .nil).picks .nil⟩ hF
  ·
   refine op (OpS.mv rfl rfl rfl ?_)
   refine op (OpS.bin rfl rfl rfl rfl rfl ?_)
   refine op (OpS.pick rfl rfl rfl rfl ?_)
   refine RunL.nil ?_
   refine Run.slim [(9, .bool (decide (a0 > 10240))), (0, .int .i64 a0)] ⟨rfl, rfl, trivial⟩ ?_
   refine Run.slim [(0, .int .i64 a0), (9, .bool (decide (a0 > 10240)))] ⟨rfl, rfl, trivial⟩ ?_
   exact hj1 (decide (a0 > 10240)) _ _ ⟨rfl, (h.facts .nil).picks .nil⟩ hF
theorem ref11_Repository_Free_ok {fuel : Nat} {a0 : ref11_Repository} {y : Int} (hF : ref11_Repository_Free fuel a0 = some y) {w : World} {v0 v0_0 : Value} :
  Spec Try.prog 30 [v0].toArray w [] [(false, .box 74 (Rep.iso (fun s : ref11_Repository => (s.Capacity, s.Items, s.Last, s.Held, s.Given, ())) (Rep.prod (Rep.int .i64) (Rep.prod (Rep.raw v0_0) (Rep.prod (Rep.int .i64) (Rep.prod Rep.bool (Rep.prod (Rep.int .i64) Rep.unit)))))) v0 a0), (false, .slice 76 ref11_Item.rep v0_0 a0.Items)] (fun v Γr Ωr Ωo => v = .int .i64 y ∧ Γr = [] ∧ Ωr = [] ∧ Ωo = [(false, .box 74 (Rep.iso (fun s : ref11_Repository => (s.Capacity, s.Items, s.Last, s.Held, s.Given, ())) (Rep.prod (Rep.int .i64) (Rep.prod (Rep.raw v0_0) (Rep.prod (Rep.int .i64) (Rep.prod Rep.bool (Rep.prod (Rep.int .i64) Rep.unit)))))) v0 a0), (false, (.slice 76 ref11_Item.rep v0_0 a0.Items))]) := by
 refine Spec.of (L := [(0, v0)]) Try.func30 rfl ⟨rfl, trivial⟩ rfl (fun e h => ?_)
 unfold ref11_Repository_Free at hF
 refine Run.seq ?_
 refine Run.reg ?_
 refine op (OpS.as rfl rfl rfl ?_)
 refine RunL.nil ?_
 refine Run.slim [(0, v0)] ⟨rfl, trivial⟩ ?_
 refine Run.seq ?_
 refine Run.reg ?_
 refine op (OpS.mv rfl rfl rfl ?_)
 refine op (OpS.nchk h .z rfl rfl rfl ?_)
 refine op (OpS.fbox (o3 := 0) h .z PA.z fa74_0 rfl rfl rfl rfl ?_)
 refine op (OpS.loadBi h .z PA.a (GetS.ok (GetS.iso _ (GetS.here GetS.id))) ty3 rfl rfl rfl ?_)
 refine op (OpS.as rfl rfl rfl ?_)
 refine RunL.nil ?_
 refine Run.slim [(3, .int .i64 a0.Capacity), (0, v0)] ⟨rfl, rfl, trivial⟩ ?_
 refine Run.seq ?_
 refine Run.seq ?_
 refine Run.reg ?_
 refine op (OpS.as rfl rfl rfl ?_)
 refine RunL.nil ?_
 refine Run.block ?_
 refine Run.slim [(0, v0), (3, .int .i64 a0.Capacity), (4, .int .i64 0)] ⟨rfl, rfl, rfl, trivial⟩ ?_
 refine Run.loopP (σ := (Int × Int)) (fun s_ L_ w_ => L_ = [(0, v0), (3, .int .i64 s_.1), (4, .int .i64 s_.2)] ∧ St e w_ [] [(false, .box 74 (Rep.iso (fun s : ref11_Repository => (s.Capacity, s.Items, s.Last, s.Held, s.Given, ())) (Rep.prod (Rep.int .i64) (Rep.prod (Rep.raw v0_0) (Rep.prod (Rep.int .i64) (Rep.prod Rep.bool (Rep.prod (Rep.int .i64) Rep.unit)))))) v0 a0), (false, .slice 76 ref11_Item.rep v0_0 a0.Items)]) hF ⟨rfl, (h.facts .nil).picks (.cons .z (.cons .z .nil))⟩ (fun k1 hk1 s1 _ w1 hI hF => ?_)
 obtain ⟨rfl, h1⟩ := hI
 refine Run.seq ?_
 refine Run.seq ?_
 refine Run.reg ?_
 refine op (OpS.mv rfl rfl rfl ?_)
 refine op (OpS.mv rfl rfl rfl ?_)
 refine op (OpS.nchk h1 .z rfl rfl rfl ?_)
 refine op (OpS.fbox (o3 := 1) h1 .z PA.z fa74_1 rfl rfl rfl rfl ?_)
 refine op (OpS.loadR h1 .z PA.a (GetS.ok (GetS.iso _ (GetS.there (GetS.here GetS.id)))) ty72 rfl rfl rfl rfl rfl ?_)
 refine op (OpS.lenO h1 (.s .z) Try.underlying72 rfl rfl rfl ?_)
 refine op (OpS.bin rfl rfl rfl rfl rfl ?_)
 refine RunL.nil ?_
 refine Run.slim [(15, .bool (decide (s1.2 < (a0.Items.length : Int)))), (0, v0), (3, .int .i64 s1.1), (4, .int .i64 s1.2)] ⟨rfl, rfl, rfl, rfl, trivial⟩ ?_
 refine Run.ite rfl hF (fun e1 hF => ?_) (fun e1 hF => ?_)
 ·
  refine Run.skip ?_
  refine Run.seq ?_
  refine Run.block ?_
  refine Run.reg ?_
  refine op (OpS.mv rfl rfl rfl ?_)
  refine op (OpS.mv rfl rfl rfl ?_)
  refine op (OpS.nchk h1 .z rfl rfl rfl ?_)
  refine op (OpS.fbox (o3 := 1) h1 .z PA.z fa74_1 rfl rfl rfl rfl ?_)
  refine op (OpS.loadR h1 .z PA.a (GetS.ok (GetS.iso _ (GetS.there (GetS.here GetS.id)))) ty72 rfl rfl rfl rfl rfl ?_)
  refine op (OpS.mv rfl rfl rfl ?_)
  obtain ⟨x1, e2, hF⟩ := bindP_use hF
  refine op (OpS.iown h1 (.s .z) Try.underlying72 ty76 rfl rfl rfl rfl e2 ?_)
  refine op (OpS.fown h1 (.s .z) (idx_ne e2) PA.a fa76_1 rfl rfl rfl ?_)
  refine op (OpS.loadO h1 (.s .z) (idx_ne e2) PA.a (Get.comp (Get.arr e2) (Get.fld ref11_Item.f1)) ty34 rfl rfl rfl (fun u1 h2 => ?_))
  refine op (OpS.len h2 Try.underlying34 rfl rfl rfl (V.at .z) ?_)
  refine op (OpS.bin rfl rfl rfl rfl rfl ?_)
  refine op (OpS.as rfl rfl rfl ?_)
  obtain ⟨x2, e3, hF⟩ := letP_use hF
  refine RunL.name e3 ?_
  refine RunL.nil ?_
  refine Run.slim [(3, .int .i64 x2), (0, v0), (4, .int .i64 s1.2)] ⟨rfl, rfl, rfl, trivial⟩ ?_
  refine Run.endBlock ?_
  refine Run.reg ?_
  refine op (OpS.mv rfl rfl rfl ?_)
  refine op (OpS.bin rfl rfl rfl rfl rfl ?_)
  refine op (OpS.as rfl rfl rfl ?_)
  obtain ⟨x3, e4, hF⟩ := letP_use hF
  refine RunL.name e4 ?_
  refine RunL.nil ?_
  refine Run.slim [(4, .int .i64 x3), (3, .int .i64 x2), (0, v0)] ⟨rfl, rfl, rfl, trivial⟩ ?_
  refine Run.slim [(0, v0), (3, .int .i64 x2), (4, .int .i64 x3)] ⟨rfl, rfl, rfl, trivial⟩ ?_
  exact hk1 (x2, x3) _ _ ⟨rfl, (h2.facts .nil).picks (.cons .z (.cons .z .nil))⟩ hF
 ·
  refine Run.exit rfl ?_
  refine Run.seq ?_
  refine Run.reg ?_
  refine op (OpS.mv rfl rfl rfl ?_)
  refine op (OpS.as rfl rfl rfl ?_)
  refine RunL.nil ?_
  refine Run.slim [(2, .int .i64 s1.1)] ⟨rfl, trivial⟩ ?_
  refine Run.retP rfl (.tmp rfl .nil) ?_
  cases hF
  exact Post.mk' ⟨rfl, rfl, rfl, rfl⟩ (h1.picks (.cons .z (.cons .z .nil))) .nil
theorem ref11_Repository_Find_ok {fuel : Nat} {a0 : ref11_Repository} {a1 : Int} {y : Int} (hF : ref11_Repository_Find fuel a0 a1 = some y) {w : World} {v0 v0_0 : Value} :
  Spec Try.prog 41 [v0, .int .i64 a1].toArray w [] [(false, .box 74 (Rep.iso (fun s : ref11_Repository => (s.Capacity, s.Items, s.Last, s.Held, s.Given, ())) (Rep.prod (Rep.int .i64) (Rep.prod (Rep.raw v0_0) (Rep.prod (Rep.int .i64) (Rep.prod Rep.bool (Rep.prod (Rep.int .i64) Rep.unit)))))) v0 a0), (false, .slice 76 ref11_Item.rep v0_0 a0.Items)] (fun v Γr Ωr Ωo => v = .int .i64 y ∧ Γr = [] ∧ Ωr = [] ∧ Ωo = [(false, .box 74 (Rep.iso (fun s : ref11_Repository => (s.Capacity, s.Items, s.Last, s.Held, s.Given, ())) (Rep.prod (Rep.int .i64) (Rep.prod (Rep.raw v0_0) (Rep.prod (Rep.int .i64) (Rep.prod Rep.bool (Rep.prod (Rep.int .i64) Rep.unit)))))) v0 a0), (false, (.slice 76 ref11_Item.rep v0_0 a0.Items))]) := by
 refine Spec.of (L := [(0, v0), (1, .int .i64 a1)]) Try.func41 rfl ⟨rfl, rfl, trivial⟩ rfl (fun e h => ?_)
 unfold ref11_Repository_Find at hF
 refine Run.seq ?_
 refine Run.reg ?_
 refine op (OpS.as rfl rfl rfl ?_)
 refine RunL.nil ?_
 refine Run.slim [(0, v0), (1, .int .i64 a1)] ⟨rfl, rfl, trivial⟩ ?_
 refine Run.seq ?_
 refine Run.seq ?_
 refine Run.reg ?_
 refine op (OpS.as rfl rfl rfl ?_)
 refine RunL.nil ?_
 refine Run.block ?_
 refine Run.slim [(0, v0), (1, .int .i64 a1), (5, .int .i64 0)] ⟨rfl, rfl, rfl, trivial⟩ ?_
 refine Run.loopP (σ := Int) (fun s_ L_ w_ => L_ = [(0, v0), (1, .int .i64 a1), (5, .int .i64 s_)] ∧ St e w_ [] [(false, .box 74 (Rep.iso (fun s : ref11_Repository => (s.Capacity, s.Items, s.Last, s.Held, s.Given, ())) (Rep.prod (Rep.int .i64) (Rep.prod (Rep.raw v0_0) (Rep.prod (Rep.int .i64) (Rep.prod Rep.bool (Rep.prod (Rep.int .i64) Rep.unit)))))) v0 a0), (false, .slice 76 ref11_Item.rep v0_0 a0.Items)]) hF ⟨rfl, (h.facts .nil).picks (.cons .z (.cons .z .nil))⟩ (fun k1 hk1 s1 _ w1 hI hF => ?_)
 obtain ⟨rfl, h1⟩ := hI
 refine Run.seq ?_
 refine Run.seq ?_
 refine Run.reg ?_
 refine op (OpS.mv rfl rfl rfl ?_)
 refine op (OpS.mv rfl rfl rfl ?_)
 refine op (OpS.nchk h1 .z rfl rfl rfl ?_)
 refine op (OpS.fbox (o3 := 1) h1 .z PA.z fa74_1 rfl rfl rfl rfl ?_)
 refine op (OpS.loadR h1 .z PA.a (GetS.ok (GetS.iso _ (GetS.there (GetS.here GetS.id)))) ty72 rfl rfl rfl rfl rfl ?_)
 refine op (OpS.lenO h1 (.s .z) Try.underlying72 rfl rfl rfl ?_)
 refine op (OpS.bin rfl rfl rfl rfl rfl ?_)
 refine RunL.nil ?_
 refine Run.slim [(12, .bool (decide (s1 < (a0.Items.length : Int)))), (0, v0), (1, .int .i64 a1), (5, .int .i64 s1)] ⟨rfl, rfl, rfl, rfl, trivial⟩ ?_
 refine Run.ite rfl hF (fun e1 hF => ?_) (fun e1 hF => ?_)
 ·
  refine Run.skip ?_
  refine Run.seq ?_
  refine Run.block ?_
  refine Run.seq ?_
  refine Run.reg ?_
  refine op (OpS.mv rfl rfl rfl ?_)
  refine op (OpS.nchk h1 .z rfl rfl rfl ?_)
  refine op (OpS.fbox (o3 := 1) h1 .z PA.z fa74_1 rfl rfl rfl rfl ?_)
  refine op (OpS.loadR h1 .z PA.a (GetS.ok (GetS.iso _ (GetS.there (GetS.here GetS.id)))) ty72 rfl rfl rfl rfl rfl ?_)
  refine op (OpS.mv rfl rfl rfl ?_)
  obtain ⟨x1, e2, hF⟩ := bindP_use hF
  refine op (OpS.iown h1 (.s .z) Try.underlying72 ty76 rfl rfl rfl rfl e2 ?_)
  refine op (OpS.fown h1 (.s .z) (idx_ne e2) PA.a fa76_0 rfl rfl rfl ?_)
  refine op (OpS.loadOi h1 (.s .z) (idx_ne e2) PA.a (Get.comp (Get.arr e2) (Get.fld ref11_Item.f0)) ty3 rfl rfl rfl ?_)
  refine op (OpS.mv rfl rfl rfl ?_)
  refine op (OpS.bin rfl rfl rfl rfl rfl ?_)
  refine RunL.nil ?_
  refine Run.slim [(24, .bool (x1.ID == a1)), (0, v0), (1, .int .i64 a1), (5, .int .i64 s1)] ⟨rfl, rfl, rfl, rfl, trivial⟩ ?_
  refine Run.ite rfl hF (fun e3 hF => ?_) (fun e3 hF => ?_)
  ·
   refine Run.seq ?_
   refine Run.reg ?_
   refine op (OpS.mv rfl rfl rfl ?_)
   refine op (OpS.as rfl rfl rfl ?_)
   refine RunL.nil ?_
   refine Run.slim [(4, .int .i64 s1)] ⟨rfl, trivial⟩ ?_
   refine Run.retP rfl (.tmp rfl .nil) ?_
   cases hF
   exact Post.mk' ⟨rfl, rfl, rfl, rfl⟩ (h1.picks (.cons .z (.cons .z .nil))) .nil
  ·
   refine Run.skip ?_
   refine Run.endBlock ?_
   refine Run.reg ?_
   refine op (OpS.mv rfl rfl rfl ?_)
   refine op (OpS.bin rfl rfl rfl rfl rfl ?_)
   refine op (OpS.as rfl rfl rfl ?_)
   obtain ⟨x2, e4, hF⟩ := letP_use hF
   refine RunL.name e4 ?_
   refine RunL.nil ?_
   refine Run.slim [(5, .int .i64 x2), (0, v0), (1, .int .i64 a1)] ⟨rfl, rfl, rfl, trivial⟩ ?_
   refine Run.slim [(0, v0), (1, .int .i64 a1), (5, .int .i64 x2)] ⟨rfl, rfl, rfl, trivial⟩ ?_
   exact hk1 (x2) _ _ ⟨rfl, (h1.facts .nil).picks (.cons .z (.cons .z .nil))⟩ hF
 ·
  refine Run.exit rfl ?_
  refine Run.seq ?_
  refine Run.reg ?_
  refine op (OpS.as rfl rfl rfl ?_)
  refine RunL.nil ?_
  refine Run.slim [(4, .int .i64 (-1))] ⟨rfl, trivial⟩ ?_
  refine Run.retP rfl (.tmp rfl .nil) ?_
  cases hF
  exact Post.mk' ⟨rfl, rfl, rfl, rfl⟩ (h1.picks (.cons .z (.cons .z .nil))) .nil
theorem ref01_Copy_ok {fuel : Nat} {a0 : List Int} {y : (List Int)} (hF : ref01_Copy fuel a0 = some y) {w : World} {v0 : Value} :
  Spec Try.prog 42 [v0].toArray w [(false, .val (Rep.slice (Rep.int .u8)) v0 a0)] [] (fun v Γr Ωr Ωo => ∃ u0 : Value, v = u0 ∧ Γr = [] ∧ Ωr = [(true, .slice 5 (Rep.int .u8) u0 y)] ∧ Ωo = []) := by
 refine Spec.of (L := [(0, v0)]) Try.func42 rfl ⟨rfl, trivial⟩ rfl (fun e h => ?_)
 unfold ref01_Copy at hF
 refine Run.seq ?_
 refine Run.reg ?_
 refine op (OpS.as rfl rfl rfl ?_)
 refine RunL.nil ?_
 refine Run.slim [(0, v0)] ⟨rfl, trivial⟩ ?_
 refine Run.seq ?_
 refine Run.reg ?_
 refine op (OpS.as rfl rfl rfl ?_)
 refine RunL.nil ?_
 refine Run.seq ?_
 refine Run.seq ?_
 refine Run.reg ?_
 refine op (OpS.as rfl rfl rfl ?_)
 refine RunL.nil ?_
 refine Run.block ?_
 have h1 := St.nil 5 (Rep.int .u8) h
 refine Run.slim [(0, v0), (3, (.slice none 0 0)), (4, .int .i64 0)] ⟨rfl, rfl, rfl, trivial⟩ ?_
 refine Run.loopP (σ := (Int × (List Int))) (fun s_ L_ w_ => ∃ u0_ : Value, L_ = [(0, v0), (3, u0_), (4, .int .i64 s_.1)] ∧ St e w_ [(false, .val (Rep.slice (Rep.int .u8)) v0 a0)] [(true, .slice 5 (Rep.int .u8) u0_ s_.2)]) hF ⟨(.slice none 0 0), rfl, (h1.facts (.atm .z .nil)).picks (.cons .z .nil)⟩ (fun k1 hk1 s1 _ w1 hI hF => ?_)
 obtain ⟨u1, rfl, h2⟩ := hI
 refine Run.seq ?_
 refine Run.seq ?_
 refine Run.reg ?_
 refine op (OpS.mv rfl rfl rfl ?_)
 refine op (OpS.mv rfl rfl rfl ?_)
 refine op (OpS.len h2 Try.underlying34 rfl rfl rfl (V.at .z) ?_)
 refine op (OpS.bin rfl rfl rfl rfl rfl ?_)
 refine RunL.nil ?_
 refine Run.slim [(8, .bool (decide (s1.1 < (a0.length : Int)))), (0, v0), (3, u1), (4, .int .i64 s1.1)] ⟨rfl, rfl, rfl, rfl, trivial⟩ ?_
 refine Run.ite rfl hF (fun e1 hF => ?_) (fun e1 hF => ?_)
 ·
  refine Run.skip ?_
  refine Run.seq ?_
  refine Run.block ?_
  refine Run.reg ?_
  refine op (OpS.mv rfl rfl rfl ?_)
  refine op (OpS.mv rfl rfl rfl ?_)
  refine op (OpS.mv rfl rfl rfl ?_)
  obtain ⟨x1, e2, hF⟩ := bindP_use hF
  refine op (OpS.iptr h2 Try.underlying34 ty5 rfl rfl rfl rfl (V.at .z) e2 (fun u2 h3 => ?_))
  refine op (OpS.loadi h3 ty5 rfl rfl rfl .z ?_)
  refine op (OpS.lit (r := (Rep.int .u8)) (f := true) h3 Try.underlying34 ti5 rfl rfl rfl rfl rfl (.cons rfl V.int .nil) rfl rfl (fun u3 w2 h4 => ?_))
  obtain ⟨x2, e3, hF⟩ := bindP_use hF
  refine op (OpS.app (f' := true) h4 .z Try.underlying34 ti5 rfl rfl rfl rfl rfl rfl rfl (V.at .z) (.inr Pure.int) e3 (fun u4 w3 h5 => ?_))
  refine op (OpS.as rfl rfl rfl ?_)
  refine RunL.nil ?_
  refine Run.slim [(3, u4), (0, v0), (4, .int .i64 s1.1)] ⟨rfl, rfl, rfl, trivial⟩ ?_
  refine Run.endBlock ?_
  refine Run.reg ?_
  refine op (OpS.mv rfl rfl rfl ?_)
  refine op (OpS.bin rfl rfl rfl rfl rfl ?_)
  refine op (OpS.as rfl rfl rfl ?_)
  obtain ⟨x3, e4, hF⟩ := letP_use hF
  refine RunL.name e4 ?_
  refine RunL.nil ?_
  refine Run.slim [(4, .int .i64 x3), (3, u4), (0, v0)] ⟨rfl, rfl, rfl, trivial⟩ ?_
  refine Run.slim [(0, v0), (3, u4), (4, .int .i64 x3)] ⟨rfl, rfl, rfl, trivial⟩ ?_
  exact hk1 (x3, x2) _ _ ⟨u4, rfl, (h5.facts (.atm (.s (.s .z)) .nil)).picks (.cons .z .nil)⟩ hF
 ·
  refine Run.exit rfl ?_
  refine Run.seq ?_
  refine Run.reg ?_
  refine op (OpS.mv rfl rfl rfl ?_)
  refine op (OpS.as rfl rfl rfl ?_)
  refine RunL.nil ?_
  refine Run.slim [(2, u1)] ⟨rfl, trivial⟩ ?_
  refine Run.retP rfl (.tmp rfl .nil) ?_
  cases hF
  exact Post.mk' ⟨u1, rfl, rfl, rfl, rfl⟩ (h2.picks (.cons .z .nil)) .nil
set_option maxHeartbeats 8000000 in
theorem ref11_Repository_Add_ok {fuel : Nat} {a0 : ref11_Repository} {a1 : List Int} {y : Int × Int × ref11_Repository} (hF : ref11_Repository_Add fuel a0 a1 = some y) {w : World} {v0 v0_0 v1 : Value} :
  Spec Try.prog 24 [v0, v1].toArray w [(false, .val (Rep.slice (Rep.int .u8)) v1 a1)] [(false, .box 74 (Rep.iso (fun s : ref11_Repository => (s.Capacity, s.Items, s.Last, s.Held, s.Given, ())) (Rep.prod (Rep.int .i64) (Rep.prod (Rep.raw v0_0) (Rep.prod (Rep.int .i64) (Rep.prod Rep.bool (Rep.prod (Rep.int .i64) Rep.unit)))))) v0 a0), (false, .slice 76 ref11_Item.rep v0_0 a0.Items)] (fun v Γr Ωr Ωo => ∃ w0_0 : Value, v = .tuple #[.int .u16 y.1, .int .i64 y.2.1] ∧ Γr = [] ∧ Ωr = [] ∧ Ωo = [(false, .box 74 (Rep.iso (fun s : ref11_Repository => (s.Capacity, s.Items, s.Last, s.Held, s.Given, ())) (Rep.prod (Rep.int .i64) (Rep.prod (Rep.raw w0_0) (Rep.prod (Rep.int .i64) (Rep.prod Rep.bool (Rep.prod (Rep.int .i64) Rep.unit)))))) v0 y.2.2), (false, (.slice 76 ref11_Item.rep w0_0 y.2.2.Items))]) := by
 refine Spec.of (L := [(0, v0), (1, v1)]) Try.func24 rfl ⟨rfl, rfl, trivial⟩ rfl (fun e h => ?_)
 unfold ref11_Repository_Add at hF
 refine Run.seq ?_
 refine Run.reg ?_
 refine op (OpS.as rfl rfl rfl ?_)
 refine op (OpS.as rfl rfl rfl ?_)
 refine RunL.nil ?_
 refine Run.slim [(0, v0), (1, v1)] ⟨rfl, rfl, trivial⟩ ?_
 refine Run.seq ?_
 refine Run.seq ?_
 refine Run.reg ?_
 refine op (OpS.mv rfl rfl rfl ?_)
 refine op (OpS.len h Try.underlying34 rfl rfl rfl (V.at .z) ?_)
 refine op (OpS.bin rfl rfl rfl rfl rfl ?_)
 refine op (OpS.mv rfl rfl rfl ?_)
 refine RunL.join (σ := Bool) (fun s_ L_ w_ => L_ = [(0, v0), (1, v1), (14, .bool s_)] ∧ St e w_ [(false, .val (Rep.slice (Rep.int .u8)) v1 a1)] [(false, .box 74 (Rep.iso (fun s : ref11_Repository => (s.Capacity, s.Items, s.Last, s.Held, s.Given, ())) (Rep.prod (Rep.int .i64) (Rep.prod (Rep.raw v0_0) (Rep.prod (Rep.int .i64) (Rep.prod Rep.bool (Rep.prod (Rep.int .i64) Rep.unit)))))) v0 a0), (false, .slice 76 ref11_Item.rep v0_0 a0.Items)]) hF (fun s1 _ w1 hI hF => ?_) (fun j1 hj1 hF => ?_)
 ·
  obtain ⟨rfl, h1⟩ := hI
  refine Run.ite rfl hF (fun e1 hF => ?_) (fun e1 hF => ?_)
  ·
   refine Run.seq ?_
   refine Run.reg ?_
   refine op (OpS.as rfl rfl rfl ?_)
   refine op (OpS.as rfl rfl rfl ?_)
   refine RunL.nil ?_
   refine Run.slim [(5, .int .i64 1), (4, .int .u16 0)] ⟨rfl, rfl, trivial⟩ ?_
   refine Run.retP rfl (.tmp rfl (.tmp rfl .nil)) ?_
   cases hF
   exact Post.mk' ⟨v0_0, rfl, rfl, rfl, rfl⟩ (h1.picks (.cons .z (.cons .z .nil))) .nil
  ·
   refine Run.skip ?_
   refine Run.seq ?_
   refine Run.seq ?_
   refine Run.reg ?_
   refine op (OpS.mv rfl rfl rfl ?_)
   refine op (OpS.nchk h1 .z rfl rfl rfl ?_)
   refine op (OpS.fbox (o3 := 1) h1 .z PA.z fa74_1 rfl rfl rfl rfl ?_)
   refine op (OpS.loadR h1 .z PA.a (GetS.ok (GetS.iso _ (GetS.there (GetS.here GetS.id)))) ty72 rfl rfl rfl rfl rfl ?_)
   refine op (OpS.lenO h1 (.s .z) Try.underlying72 rfl rfl rfl ?_)
   refine op (OpS.bin rfl rfl rfl rfl rfl ?_)
   refine RunL.nil ?_
   refine Run.slim [(20, .bool (decide ((a0.Items.length : Int) ≥ 64))), (0, v0), (1, v1)] ⟨rfl, rfl, rfl, trivial⟩ ?_
   refine Run.ite rfl hF (fun e2 hF => ?_) (fun e2 hF => ?_)
   ·
    refine Run.seq ?_
    refine Run.reg ?_
    refine op (OpS.as rfl rfl rfl ?_)
    refine op (OpS.as rfl rfl rfl ?_)
    refine RunL.nil ?_
    refine Run.slim [(5, .int .i64 3), (4, .int .u16 0)] ⟨rfl, rfl, trivial⟩ ?_
    refine Run.retP rfl (.tmp rfl (.tmp rfl .nil)) ?_
    cases hF
    exact Post.mk' ⟨v0_0, rfl, rfl, rfl, rfl⟩ (h1.picks (.cons .z (.cons .z .nil))) .nil
   ·
    refine Run.skip ?_
    refine Run.seq ?_
    refine Run.seq ?_
    refine Run.reg ?_
    refine op (OpS.mv rfl rfl rfl ?_)
    refine op (OpS.len h1 Try.underlying34 rfl rfl rfl (V.at .z) ?_)
    refine op (OpS.mv rfl rfl rfl ?_)
    obtain ⟨y1, e3, hF⟩ := bindP_use hF
    have h2 := h1.front (.cons .z (.cons .z .nil))
    refine op (OpS.callO h2 Try.func30 rfl rfl rfl rfl (vs := [v0]) rfl (ref11_Repository_Free_ok e3) rfl .nil ?_)
    rintro _ w2 _ _ _ ⟨rfl, rfl, rfl, rfl⟩ h3
    have h4 := h3
    simp only [List.cons_append, List.nil_append] at h4
    refine op (OpS.bin rfl rfl rfl rfl rfl ?_)
    refine RunL.nil ?_
    refine Run.slim [(25, .bool (decide ((a1.length : Int) > y1))), (0, v0), (1, v1)] ⟨rfl, rfl, rfl, trivial⟩ ?_
    refine Run.ite rfl hF (fun e4 hF => ?_) (fun e4 hF => ?_)
    ·
     refine Run.seq ?_
     refine Run.reg ?_
     refine op (OpS.as rfl rfl rfl ?_)
     refine op (OpS.as rfl rfl rfl ?_)
     refine RunL.nil ?_
     refine Run.slim [(5, .int .i64 9), (4, .int .u16 0)] ⟨rfl, rfl, trivial⟩ ?_
     refine Run.retP rfl (.tmp rfl (.tmp rfl .nil)) ?_
     cases hF
     exact Post.mk' ⟨v0_0, rfl, rfl, rfl, rfl⟩ (h4.picks (.cons .z (.cons .z .nil))) .nil
    ·
     refine Run.skip ?_
     refine Run.seq ?_
     refine Run.reg ?_
     refine op (OpS.mv rfl rfl rfl ?_)
     refine op (OpS.nchk h4 .z rfl rfl rfl ?_)
     refine op (OpS.fbox (o3 := 4) h4 .z PA.z fa74_4 rfl rfl rfl rfl ?_)
     refine op (OpS.loadBi h4 .z PA.a (GetS.ok (GetS.iso _ (GetS.there (GetS.there (GetS.there (GetS.there (GetS.here GetS.id))))))) ty3 rfl rfl rfl ?_)
     refine op (OpS.rem rfl rfl rfl rfl (by decide) ?_)
     refine op (OpS.bin rfl rfl rfl rfl rfl ?_)
     refine op (OpS.as rfl rfl rfl ?_)
     obtain ⟨x1, e5, hF⟩ := letP_use hF
     refine RunL.name e5 ?_
     refine RunL.nil ?_
     refine Run.slim [(6, .int .i64 x1), (0, v0), (1, v1)] ⟨rfl, rfl, rfl, trivial⟩ ?_
     refine Run.seq ?_
     refine Run.block ?_
     refine Run.slim [(0, v0), (1, v1), (6, .int .i64 x1)] ⟨rfl, rfl, rfl, trivial⟩ ?_
     refine Run.loopP (σ := Int) (fun s_ L_ w_ => L_ = [(0, v0), (1, v1), (6, .int .i64 s_)] ∧ St e w_ [(false, .val (Rep.slice (Rep.int .u8)) v1 a1)] [(false, .box 74 (Rep.iso (fun s : ref11_Repository => (s.Capacity, s.Items, s.Last, s.Held, s.Given, ())) (Rep.prod (Rep.int .i64) (Rep.prod (Rep.raw v0_0) (Rep.prod (Rep.int .i64) (Rep.prod Rep.bool (Rep.prod (Rep.int .i64) Rep.unit)))))) v0 a0), (false, .slice 76 ref11_Item.rep v0_0 a0.Items)]) hF ⟨rfl, (h4.facts (.atm .z .nil)).picks (.cons .z (.cons .z .nil))⟩ (fun k1 hk1 s2 _ w3 hI hF => ?_)
     obtain ⟨rfl, h5⟩ := hI
     refine Run.seq ?_
     refine Run.seq ?_
     refine Run.reg ?_
     refine op (OpS.mv rfl rfl rfl ?_)
     refine op (OpS.mv rfl rfl rfl ?_)
     obtain ⟨y2, e6, hF⟩ := bindP_use hF
     have h6 := h5.front (.cons .z (.cons .z .nil))
     refine op (OpS.callO h6 Try.func41 rfl rfl rfl rfl (vs := [v0, .int .i64 s2]) rfl (ref11_Repository_Find_ok e6) rfl .nil ?_)
     rintro _ w4 _ _ _ ⟨rfl, rfl, rfl, rfl⟩ h7
     have h8 := h7
     simp only [List.cons_append, List.nil_append] at h8
     refine op (OpS.bin rfl rfl rfl rfl rfl ?_)
     refine RunL.nil ?_
     refine Run.slim [(35, .bool (decide (y2 ≥ 0))), (0, v0), (1, v1), (6, .int .i64 s2)] ⟨rfl, rfl, rfl, rfl, trivial⟩ ?_
     refine Run.ite rfl hF (fun e7 hF => ?_) (fun e7 hF => ?_)
     ·
      refine Run.skip ?_
      refine Run.block ?_
      refine Run.reg ?_
      refine op (OpS.mv rfl rfl rfl ?_)
      refine op (OpS.rem rfl rfl rfl rfl (by decide) ?_)
      refine op (OpS.bin rfl rfl rfl rfl rfl ?_)
      refine op (OpS.as rfl rfl rfl ?_)
      obtain ⟨x2, e8, hF⟩ := letP_use hF
      refine RunL.name e8 ?_
      refine RunL.nil ?_
      refine Run.slim [(6, .int .i64 x2), (0, v0), (1, v1)] ⟨rfl, rfl, rfl, trivial⟩ ?_
      refine Run.endBlock ?_
      refine Run.slim [(0, v0), (1, v1), (6, .int .i64 x2)] ⟨rfl, rfl, rfl, trivial⟩ ?_
      exact hk1 (x2) _ _ ⟨rfl, (h8.facts (.atm .z .nil)).picks (.cons .z (.cons .z .nil))⟩ hF
     ·
      refine Run.exit rfl ?_
      refine Run.seq ?_
      refine Run.reg ?_
      refine op (OpS.mv rfl rfl rfl ?_)
      refine op (OpS.mv rfl rfl rfl ?_)
      refine op (OpS.nchk h8 .z rfl rfl rfl ?_)
      refine op (OpS.fbox (o3 := 4) h8 .z PA.z fa74_4 rfl rfl rfl rfl ?_)
      obtain ⟨d1, e9, hF⟩ := letP_use hF
      refine op (OpS.storeC (f' := true) (fr := (Rep.int .i64)) (r' := (Rep.iso (fun s : ref11_Repository => (s.Capacity, s.Items, s.Last, s.Held, s.Given, ())) (Rep.prod (Rep.int .i64) (Rep.prod (Rep.raw v0_0) (Rep.prod (Rep.int .i64) (Rep.prod Rep.bool (Rep.prod (Rep.int .i64) Rep.unit))))))) (x' := d1) h8 .z PA.a (Chg.of (x' := { a0 with Given := s2 }) (Chg.iso _ (Chg.there (Chg.there (Chg.there (Chg.there (Chg.here (Chg.id (by rfl)))))))) e9) ty3 rfl rfl rfl V.int (.inr rfl) (fun w5 h9 => ?_))
      refine RunL.nil ?_
      refine Run.slim [(0, v0), (1, v1), (6, .int .i64 s2)] ⟨rfl, rfl, rfl, trivial⟩ ?_
      refine Run.seq ?_
      obtain ⟨y3, e10, hF⟩ := bindP_use hF
      obtain ⟨x3, e11, hF⟩ := bindP_use hF
      refine Run.drawV (Ωs := []) [⟨some 43, some (v0), fun _ => [], fun ds_ u_ => [], [], [], none⟩, ⟨some 44, some (v0), fun _ => [], fun ds_ u_ => [], [], [], none⟩, ⟨some 45, some (v0), fun _ => [], fun ds_ u_ => [], [], [(0, [])], none⟩, ⟨some 46, some ((padd v0 1)), fun _ => [], fun ds_ u_ => [], [], [(0, [])], none⟩, ⟨some 47, some (v0_0), fun _ => [], fun ds_ u_ => [], [], [(0, []), (1, [10, 4])], none⟩, ⟨some 48, some (.int .i64 s2), fun _ => [], fun ds_ u_ => [], [], [], none⟩, ⟨some 49, some (v1), fun _ => [], fun ds_ u_ => [], [], [], none⟩, ⟨some 50, none, fun u_ => [(true, .val (Rep.slice (Rep.int .u8)) u_ y3)], fun ds_ u_ => [], [], [], none⟩, ⟨some 51, none, fun u_ => [(true, .val ref11_Item.rep u_ (⟨s2, y3⟩ : ref11_Item))], fun ds_ u_ => [], [], [], none⟩, ⟨some 52, none, fun u_ => [(true, .val (Rep.slice ref11_Item.rep) u_ ([(⟨s2, y3⟩ : ref11_Item)]))], fun ds_ u_ => [], [], [], none⟩, ⟨some 53, none, fun u_ => [], fun ds_ u_ => [(false, .slice 76 ref11_Item.rep u_ x3)], [1], [], none⟩] [[], [], [1], [2], [3], [], [], [6], [5, 7], [8], [4, 9]] [[(false, .box 74 (Rep.iso (fun s : ref11_Repository => (s.Capacity, s.Items, s.Last, s.Held, s.Given, ())) (Rep.prod (Rep.int .i64) (Rep.prod (Rep.raw v0_0) (Rep.prod (Rep.int .i64) (Rep.prod Rep.bool (Rep.prod (Rep.int .i64) Rep.unit)))))) v0 d1)], [(false, .slice 76 ref11_Item.rep v0_0 a0.Items)]] [0, 2, 3, 4, 5, 6, 7, 8, 9, 10, 11, 12] Try_mixed rfl rfl rfl h9 (.cons ?_ (.cons ?_ (.cons ?_ (.cons ?_ (.cons ?_ (.cons ?_ (.cons ?_ (.cons ?_ (.cons ?_ (.cons ?_ (.cons ?_ .nil))))))))))) (fun q1 w hq1 h => ?_)
      ·intro q1 w Γx Ωx h
       refine OpS.mv rfl rfl rfl ?_
       exact ⟨undef, rfl, trivial, h⟩
      ·intro q1 w Γx Ωx h
       refine OpS.mv rfl rfl rfl ?_
       exact ⟨undef, rfl, trivial, h⟩
      ·intro q1 w Γx Ωx h
       have h : St e w ([(false, .val (Rep.slice (Rep.int .u8)) v1 a1)] ++ Γx) ([(false, .box 74 (Rep.iso (fun s : ref11_Repository => (s.Capacity, s.Items, s.Last, s.Held, s.Given, ())) (Rep.prod (Rep.int .i64) (Rep.prod (Rep.raw v0_0) (Rep.prod (Rep.int .i64) (Rep.prod Rep.bool (Rep.prod (Rep.int .i64) Rep.unit)))))) v0 d1)] ++ Ωx) := h
       refine OpS.nchk h .z rfl rfl rfl ?_
       exact ⟨undef, rfl, trivial, h⟩
      ·intro q1 w Γx Ωx h
       have h : St e w ([(false, .val (Rep.slice (Rep.int .u8)) v1 a1)] ++ Γx) ([(false, .box 74 (Rep.iso (fun s : ref11_Repository => (s.Capacity, s.Items, s.Last, s.Held, s.Given, ())) (Rep.prod (Rep.int .i64) (Rep.prod (Rep.raw v0_0) (Rep.prod (Rep.int .i64) (Rep.prod Rep.bool (Rep.prod (Rep.int .i64) Rep.unit)))))) v0 d1)] ++ Ωx) := h
       refine OpS.fbox (o3 := 1) h .z PA.z fa74_1 rfl rfl rfl rfl ?_
       exact ⟨undef, rfl, trivial, h⟩
      ·intro q1 w Γx Ωx h
       have h : St e w ([(false, .val (Rep.slice (Rep.int .u8)) v1 a1)] ++ Γx) ([(false, .box 74 (Rep.iso (fun s : ref11_Repository => (s.Capacity, s.Items, s.Last, s.Held, s.Given, ())) (Rep.prod (Rep.int .i64) (Rep.prod (Rep.raw v0_0) (Rep.prod (Rep.int .i64) (Rep.prod Rep.bool (Rep.prod (Rep.int .i64) Rep.unit)))))) v0 d1), (false, .slice 76 ref11_Item.rep v0_0 a0.Items)] ++ Ωx) := h
       refine OpS.loadR h .z PA.a (GetS.ok (GetS.iso _ (GetS.there (GetS.here GetS.id)))) ty72 rfl rfl rfl rfl rfl ?_
       exact ⟨undef, rfl, trivial, h⟩
      ·intro q1 w Γx Ωx h
       refine OpS.mv rfl rfl rfl ?_
       exact ⟨undef, rfl, trivial, h⟩
      ·intro q1 w Γx Ωx h
       refine OpS.mv rfl rfl rfl ?_
       exact ⟨undef, rfl, trivial, h⟩
      ·intro q1 w Γx Ωx h
       refine OpS.callP h Try.func42 rfl rfl rfl rfl (vs := [v1]) rfl (ref01_Copy_ok e10) (.cons (f := false) (V.at .z) .nil) ?_
       rintro u w9 _ _ _ ⟨_, rfl, rfl, rfl, rfl⟩ h16
       have h17 := h16 rfl rfl
       simp only [List.cons_append, List.nil_append] at h17
       have h18 := h17.freeze
       exact ⟨u, rfl, trivial, h18⟩
      ·intro q1 w Γx Ωx h
       refine OpS.build (f := true) (x' := (⟨s2, y3⟩ : ref11_Item)) h pl76 ti76 ref11_Item.zr rfl rfl rfl (.cons rfl ref11_Item.f0 rfl V.int (.cons rfl ref11_Item.f1 rfl (V.at .z) .nil)) (fun u h19 => ?_)
       exact ⟨u, rfl, trivial, h19⟩
      ·intro q1 w Γx Ωx h
       refine OpS.lit (r := ref11_Item.rep) (f := true) h Try.underlying72 ti76 rfl rfl rfl rfl rfl (.cons rfl (V.at .z) .nil) rfl rfl (fun u w10 h20 => ?_)
       exact ⟨u, rfl, trivial, h20⟩
      ·intro q1 w Γx Ωx h
       have h : St e w ([(true, .val (Rep.slice ref11_Item.rep) (q1 9) ([(⟨s2, y3⟩ : ref11_Item)])), (false, .val (Rep.slice (Rep.int .u8)) v1 a1)] ++ Γx) ([(false, .slice 76 ref11_Item.rep v0_0 a0.Items)] ++ Ωx) := h
       refine OpS.app (f' := true) h .z Try.underlying72 ti76 rfl rfl rfl rfl rfl rfl rfl (V.at .z) (.inl (.inl rfl)) e11 (fun u w11 h21 => ?_)
       exact ⟨u, rfl, trivial, h21⟩
      have h22 : St e w [(true, .val (Rep.slice (Rep.int .u8)) (q1 7) y3), (true, .val ref11_Item.rep (q1 8) (⟨s2, y3⟩ : ref11_Item)), (true, .val (Rep.slice ref11_Item.rep) (q1 9) ([(⟨s2, y3⟩ : ref11_Item)])), (false, .val (Rep.slice (Rep.int .u8)) v1 a1)] [(false, .box 74 (Rep.iso (fun s : ref11_Repository => (s.Capacity, s.Items, s.Last, s.Held, s.Given, ())) (Rep.prod (Rep.int .i64) (Rep.prod (Rep.raw v0_0) (Rep.prod (Rep.int .i64) (Rep.prod Rep.bool (Rep.prod (Rep.int .i64) Rep.unit)))))) v0 d1), (false, .slice 76 ref11_Item.rep (q1 10) x3)] := h
      refine op (OpS.nchk h22 .z rfl rfl rfl ?_)
      refine op (OpS.fbox (o3 := 1) h22 .z PA.z fa74_1 rfl rfl rfl rfl ?_)
      refine op (OpS.storeC (f' := false) (fr := (Rep.raw (q1 10))) (r' := (Rep.iso (fun s : ref11_Repository => (s.Capacity, s.Items, s.Last, s.Held, s.Given, ())) (Rep.prod (Rep.int .i64) (Rep.prod (Rep.raw (q1 10)) (Rep.prod (Rep.int .i64) (Rep.prod Rep.bool (Rep.prod (Rep.int .i64) Rep.unit))))))) (x' := d1) h22 .z PA.a (Chg.iso _ (Chg.there (Chg.here (Chg.id (by rfl))))) (Ty.like ty72 (by rfl) (by rfl)) rfl rfl rfl (V.raw (f := false) (St.own1 h22 (.s .z)) d1.Items) (.inr rfl) (fun w12 h23 => ?_))
      refine RunL.nil ?_
      refine Run.slim [(0, v0), (6, .int .i64 s2)] ⟨rfl, rfl, trivial⟩ ?_
      refine Run.seq ?_
      refine Run.reg ?_
      refine op (OpS.mv rfl rfl rfl ?_)
      refine op (OpS.nchk h23 .z rfl rfl rfl ?_)
      refine op (OpS.fbox (o3 := 3) h23 .z PA.z fa74_3 rfl rfl rfl rfl ?_)
      obtain ⟨d2, e12, hF⟩ := letP_use hF
      refine op (OpS.storeC (f' := true) (fr := Rep.bool) (r' := (Rep.iso (fun s : ref11_Repository => (s.Capacity, s.Items, s.Last, s.Held, s.Given, ())) (Rep.prod (Rep.int .i64) (Rep.prod (Rep.raw (q1 10)) (Rep.prod (Rep.int .i64) (Rep.prod Rep.bool (Rep.prod (Rep.int .i64) Rep.unit))))))) (x' := d2) h23 .z PA.a (Chg.of (x' := { d1 with Held := false }) (Chg.iso _ (Chg.there (Chg.there (Chg.there (Chg.here (Chg.id (by rfl))))))) e12) ty4 rfl rfl rfl V.bool (.inr rfl) (fun w13 h24 => ?_))
      refine RunL.nil ?_
      refine Run.slim [(6, .int .i64 s2)] ⟨rfl, trivial⟩ ?_
      refine Run.seq ?_
      refine Run.reg ?_
      refine op (OpS.mv rfl rfl rfl ?_)
      refine op (OpS.conv Try.underlying3 Try.underlying32 rfl rfl rfl ?_)
      refine op (OpS.as rfl rfl rfl ?_)
      refine op (OpS.as rfl rfl rfl ?_)
      refine RunL.nil ?_
      refine Run.slim [(5, .int .i64 0), (4, .int .u16 (IntKind.u16.wrap s2))] ⟨rfl, rfl, trivial⟩ ?_
      have h25 := St.boxJ (r' := (Rep.iso (fun s : ref11_Repository => (s.Capacity, s.Items, s.Last, s.Held, s.Given, ())) (Rep.prod (Rep.int .i64) (Rep.prod (Rep.raw (q1 10)) (Rep.prod (Rep.int .i64) (Rep.prod Rep.bool (Rep.prod (Rep.int .i64) Rep.unit))))))) (x' := { d2 with Items := x3 }) (h24.pick .z) (fun _ _ hs_ => (Jn.iso _ (Jn.prod Jn.refl (Jn.prod Jn.same Jn.refl))))
      refine Run.retP rfl (.tmp rfl (.tmp rfl .nil)) ?_
      cases hF
      exact Post.mk' ⟨(q1 10), rfl, rfl, rfl, rfl⟩ (h25.picks (.cons .z (.cons .z .nil))) .nil
 ·
  refine RunL.caseb hF (fun e13 hF => ?_) (fun e13 hF => ?_)
  ·
   refine op (OpS.pass rfl rfl rfl ?_)
   refine op (OpS.pass rfl rfl rfl ?_)
   refine op (OpS.pass rfl rfl rfl ?_)
   refine op (OpS.pick rfl rfl rfl rfl ?_)
   refine RunL.nil ?_
   refine Run.slim [(14, .bool true), (0, v0), (1, v1)] ⟨rfl, rfl, rfl, trivial⟩ ?_
   refine Run.slim [(0, v0), (1, v1), (14, .bool true)] ⟨rfl, rfl, rfl, trivial⟩ ?_
   exact hj1 (true) _ _ ⟨rfl, (h.facts (.atm .z .nil)).picks (.cons .z (.cons .z .nil))⟩ hF
  ·
   refine op (OpS.mv rfl rfl rfl ?_)
   refine op (OpS.len h Try.underlying34 rfl rfl rfl (V.at .z) ?_)
   refine op (OpS.bin rfl rfl rfl rfl rfl ?_)
   refine op (OpS.pick rfl rfl rfl rfl ?_)
   refine RunL.nil ?_
   refine Run.slim [(14, .bool (decide ((a1.length : Int) > 160))), (0, v0), (1, v1)] ⟨rfl, rfl, rfl, trivial⟩ ?_
   refine Run.slim [(0, v0), (1, v1), (14, .bool (decide ((a1.length : Int) > 160)))] ⟨rfl, rfl, rfl, trivial⟩ ?_
   exact hj1 (decide ((a1.length : Int) > 160)) _ _ ⟨rfl, (h.facts (.atm .z .nil)).picks (.cons .z (.cons .z .nil))⟩ hF
theorem ref11_Repository_Reserve_ok {fuel : Nat} {a0 : ref11_Repository} {y : Int × ref11_Repository} (hF : ref11_Repository_Reserve fuel a0 = some y) {w : World} {v0 v0_0 : Value} :
  Spec Try.prog 25 [v0].toArray w [] [(false, .box 74 (Rep.iso (fun s : ref11_Repository => (s.Capacity, s.Items, s.Last, s.Held, s.Given, ())) (Rep.prod (Rep.int .i64) (Rep.prod (Rep.raw v0_0) (Rep.prod (Rep.int .i64) (Rep.prod Rep.bool (Rep.prod (Rep.int .i64) Rep.unit)))))) v0 a0), (false, .slice 76 ref11_Item.rep v0_0 a0.Items)] (fun v Γr Ωr Ωo => ∃ w0_0 : Value, v = .int .u16 y.1 ∧ Γr = [] ∧ Ωr = [] ∧ Ωo = [(false, .box 74 (Rep.iso (fun s : ref11_Repository => (s.Capacity, s.Items, s.Last, s.Held, s.Given, ())) (Rep.prod (Rep.int .i64) (Rep.prod (Rep.raw w0_0) (Rep.prod (Rep.int .i64) (Rep.prod Rep.bool (Rep.prod (Rep.int .i64) Rep.unit)))))) v0 y.2), (false, (.slice 76 ref11_Item.rep w0_0 y.2.Items))]) := by
 refine Spec.of (L := [(0, v0)]) Try.func25 rfl ⟨rfl, trivial⟩ rfl (fun e h => ?_)
 unfold ref11_Repository_Reserve at hF
 refine Run.seq ?_
 refine Run.reg ?_
 refine op (OpS.as rfl rfl rfl ?_)
 refine RunL.nil ?_
 refine Run.slim [(0, v0)] ⟨rfl, trivial⟩ ?_
 refine Run.seq ?_
 refine Run.reg ?_
 refine op (OpS.mv rfl rfl rfl ?_)
 refine op (OpS.mv rfl rfl rfl ?_)
 refine op (OpS.nchk h .z rfl rfl rfl ?_)
 refine op (OpS.fbox (o3 := 2) h .z PA.z fa74_2 rfl rfl rfl rfl ?_)
 refine op (OpS.loadBi h .z PA.a (GetS.ok (GetS.iso _ (GetS.there (GetS.there (GetS.here GetS.id))))) ty3 rfl rfl rfl ?_)
 refine op (OpS.rem rfl rfl rfl rfl (by decide) ?_)
 refine op (OpS.bin rfl rfl rfl rfl rfl ?_)
 refine op (OpS.nchk h .z rfl rfl rfl ?_)
 refine op (OpS.fbox (o3 := 2) h .z PA.z fa74_2 rfl rfl rfl rfl ?_)
 obtain ⟨d1, e1, hF⟩ := letP_use hF
 refine op (OpS.storeC (f' := true) (fr := (Rep.int .i64)) (r' := (Rep.iso (fun s : ref11_Repository => (s.Capacity, s.Items, s.Last, s.Held, s.Given, ())) (Rep.prod (Rep.int .i64) (Rep.prod (Rep.raw v0_0) (Rep.prod (Rep.int .i64) (Rep.prod Rep.bool (Rep.prod (Rep.int .i64) Rep.unit))))))) (x' := d1) h .z PA.a (Chg.of (x' := { a0 with Last := (IntKind.i64.wrap ((Int.tmod a0.Last 65535) + 1)) }) (Chg.iso _ (Chg.there (Chg.there (Chg.here (Chg.id (by rfl)))))) e1) ty3 rfl rfl rfl V.int (.inr rfl) (fun w1 h1 => ?_))
 refine RunL.nil ?_
 refine Run.slim [(0, v0)] ⟨rfl, trivial⟩ ?_
 refine Run.seq ?_
 refine Run.reg ?_
 refine op (OpS.mv rfl rfl rfl ?_)
 refine op (OpS.nchk h1 .z rfl rfl rfl ?_)
 refine op (OpS.fbox (o3 := 3) h1 .z PA.z fa74_3 rfl rfl rfl rfl ?_)
 obtain ⟨d2, e2, hF⟩ := letP_use hF
 refine op (OpS.storeC (f' := true) (fr := Rep.bool) (r' := (Rep.iso (fun s : ref11_Repository => (s.Capacity, s.Items, s.Last, s.Held, s.Given, ())) (Rep.prod (Rep.int .i64) (Rep.prod (Rep.raw v0_0) (Rep.prod (Rep.int .i64) (Rep.prod Rep.bool (Rep.prod (Rep.int .i64) Rep.unit))))))) (x' := d2) h1 .z PA.a (Chg.of (x' := { d1 with Held := true }) (Chg.iso _ (Chg.there (Chg.there (Chg.there (Chg.here (Chg.id (by rfl))))))) e2) ty4 rfl rfl rfl V.bool (.inr rfl) (fun w2 h2 => ?_))
 refine RunL.nil ?_
 refine Run.slim [(0, v0)] ⟨rfl, trivial⟩ ?_
 refine Run.seq ?_
 refine Run.reg ?_
 refine op (OpS.mv rfl rfl rfl ?_)
 refine op (OpS.nchk h2 .z rfl rfl rfl ?_)
 refine op (OpS.fbox (o3 := 2) h2 .z PA.z fa74_2 rfl rfl rfl rfl ?_)
 refine op (OpS.loadBi h2 .z PA.a (GetS.ok (GetS.iso _ (GetS.there (GetS.there (GetS.here GetS.id))))) ty3 rfl rfl rfl ?_)
 refine op (OpS.conv Try.underlying3 Try.underlying32 rfl rfl rfl ?_)
 refine op (OpS.as rfl rfl rfl ?_)
 obtain ⟨x1, e3, hF⟩ := letP_use hF
 refine RunL.name e3 ?_
 refine RunL.nil ?_
 refine Run.slim [(2, .int .u16 x1)] ⟨rfl, trivial⟩ ?_
 have h3 := St.boxJ (r' := (Rep.iso (fun s : ref11_Repository => (s.Capacity, s.Items, s.Last, s.Held, s.Given, ())) (Rep.prod (Rep.int .i64) (Rep.prod (Rep.raw v0_0) (Rep.prod (Rep.int .i64) (Rep.prod Rep.bool (Rep.prod (Rep.int .i64) Rep.unit))))))) (x' := { d2 with Items := a0.Items }) (h2.pick .z) (fun _ _ hs_ => (Jn.iso _ (Jn.prod Jn.refl (Jn.prod Jn.same Jn.refl))))
 refine Run.retP rfl (.tmp rfl .nil) ?_
 cases hF
 exact Post.mk' ⟨v0_0, rfl, rfl, rfl, rfl⟩ (h3.picks (.cons .z (.cons .z .nil))) .nil
theorem ref11_Repository_index_ok {fuel : Nat} {a0 : ref11_Repository} {a1 : Int} {y : Int} (hF : ref11_Repository_index fuel a0 a1 = some y) {w : World} {v0 v0_0 : Value} :
  Spec Try.prog 43 [v0, .int .u16 a1].toArray w [] [(false, .box 74 (Rep.iso (fun s : ref11_Repository => (s.Capacity, s.Items, s.Last, s.Held, s.Given, ())) (Rep.prod (Rep.int .i64) (Rep.prod (Rep.raw v0_0) (Rep.prod (Rep.int .i64) (Rep.prod Rep.bool (Rep.prod (Rep.int .i64) Rep.unit)))))) v0 a0), (false, .slice 76 ref11_Item.rep v0_0 a0.Items)] (fun v Γr Ωr Ωo => v = .int .i64 y ∧ Γr = [] ∧ Ωr = [] ∧ Ωo = [(false, .box 74 (Rep.iso (fun s : ref11_Repository => (s.Capacity, s.Items, s.Last, s.Held, s.Given, ())) (Rep.prod (Rep.int .i64) (Rep.prod (Rep.raw v0_0) (Rep.prod (Rep.int .i64) (Rep.prod Rep.bool (Rep.prod (Rep.int .i64) Rep.unit)))))) v0 a0), (false, (.slice 76 ref11_Item.rep v0_0 a0.Items))]) := by
 refine Spec.of (L := [(0, v0), (1, .int .u16 a1)]) Try.func43 rfl ⟨rfl, rfl, trivial⟩ rfl (fun e h => ?_)
 unfold ref11_Repository_index at hF
 refine Run.seq ?_
 refine Run.reg ?_
 refine op (OpS.as rfl rfl rfl ?_)
 refine RunL.nil ?_
 refine Run.slim [(0, v0), (1, .int .u16 a1)] ⟨rfl, rfl, trivial⟩ ?_
 refine Run.seq ?_
 refine Run.seq ?_
 refine Run.reg ?_
 refine op (OpS.mv rfl rfl rfl ?_)
 refine op (OpS.bin rfl rfl rfl rfl rfl ?_)
 refine op (OpS.mv rfl rfl rfl ?_)
 refine RunL.join (σ := Bool) (fun s_ L_ w_ => L_ = [(0, v0), (1, .int .u16 a1), (14, .bool s_)] ∧ St e w_ [] [(false, .box 74 (Rep.iso (fun s : ref11_Repository => (s.Capacity, s.Items, s.Last, s.Held, s.Given, ())) (Rep.prod (Rep.int .i64) (Rep.prod (Rep.raw v0_0) (Rep.prod (Rep.int .i64) (Rep.prod Rep.bool (Rep.prod (Rep.int .i64) Rep.unit)))))) v0 a0), (false, .slice 76 ref11_Item.rep v0_0 a0.Items)]) hF (fun s1 _ w1 hI hF => ?_) (fun j1 hj1 hF => ?_)
 ·
  obtain ⟨rfl, h1⟩ := hI
  refine Run.ite rfl hF (fun e1 hF => ?_) (fun e1 hF => ?_)
  ·
   refine Run.seq ?_
   refine Run.reg ?_
   refine op (OpS.as rfl rfl rfl ?_)
   refine RunL.nil ?_
   refine Run.slim [(4, .int .i64 0)] ⟨rfl, trivial⟩ ?_
   refine Run.retP rfl (.tmp rfl .nil) ?_
   cases hF
   exact Post.mk' ⟨rfl, rfl, rfl, rfl⟩ (h1.picks (.cons .z (.cons .z .nil))) .nil
  ·
   refine Run.skip ?_
   refine Run.seq ?_
   refine Run.reg ?_
   refine op (OpS.mv rfl rfl rfl ?_)
   refine op (OpS.mv rfl rfl rfl ?_)
   refine op (OpS.conv Try.underlying32 Try.underlying3 rfl rfl rfl ?_)
   obtain ⟨y1, e2, hF⟩ := bindP_use hF
   have h2 := h1.front (.cons .z (.cons .z .nil))
   refine op (OpS.callO h2 Try.func41 rfl rfl rfl rfl (vs := [v0, .int .i64 (IntKind.i64.wrap a1)]) rfl (ref11_Repository_Find_ok e2) rfl .nil ?_)
   rintro _ w2 _ _ _ ⟨rfl, rfl, rfl, rfl⟩ h3
   have h4 := h3
   simp only [List.cons_append, List.nil_append] at h4
   refine op (OpS.as rfl rfl rfl ?_)
   refine RunL.nil ?_
   refine Run.slim [(4, .int .i64 y1)] ⟨rfl, trivial⟩ ?_
   refine Run.retP rfl (.tmp rfl .nil) ?_
   cases hF
   exact Post.mk' ⟨rfl, rfl, rfl, rfl⟩ (h4.picks (.cons .z (.cons .z .nil))) .nil
 ·
  refine RunL.caseb hF (fun e3 hF => ?_) (fun e3 hF => ?_)
  ·
   refine op (OpS.mv rfl rfl rfl ?_)
   refine op (OpS.nchk h .z rfl rfl rfl ?_)
   refine op (OpS.fbox (o3 := 1) h .z PA.z fa74_1 rfl rfl rfl rfl ?_)
   refine op (OpS.loadR h .z PA.a (GetS.ok (GetS.iso _ (GetS.there (GetS.here GetS.id)))) ty72 rfl rfl rfl rfl rfl ?_)
   refine op (OpS.lenO h (.s .z) Try.underlying72 rfl rfl rfl ?_)
   refine op (OpS.bin rfl rfl rfl rfl rfl ?_)
   refine op (OpS.pick rfl rfl rfl rfl ?_)
   refine RunL.nil ?_
   refine Run.slim [(14, .bool (decide ((a0.Items.length : Int) > 0))), (0, v0), (1, .int .u16 a1)] ⟨rfl, rfl, rfl, trivial⟩ ?_
   refine Run.slim [(0, v0), (1, .int .u16 a1), (14, .bool (decide ((a0.Items.length : Int) > 0)))] ⟨rfl, rfl, rfl, trivial⟩ ?_
   exact hj1 (decide ((a0.Items.length : Int) > 0)) _ _ ⟨rfl, (h.facts .nil).picks (.cons .z (.cons .z .nil))⟩ hF
  ·
   refine op (OpS.pass rfl rfl rfl ?_)
   refine op (OpS.pass rfl rfl rfl ?_)
   refine op (OpS.pass rfl rfl rfl ?_)
   refine op (OpS.pass rfl rfl rfl ?_)
   refine op (OpS.pass rfl rfl rfl ?_)
   refine op (OpS.pass rfl rfl rfl ?_)
   refine op (OpS.pick rfl rfl rfl rfl ?_)
   refine RunL.nil ?_
   refine Run.slim [(14, .bool false), (0, v0), (1, .int .u16 a1)] ⟨rfl, rfl, rfl, trivial⟩ ?_
   refine Run.slim [(0, v0), (1, .int .u16 a1), (14, .bool false)] ⟨rfl, rfl, rfl, trivial⟩ ?_
   exact hj1 (false) _ _ ⟨rfl, (h.facts .nil).picks (.cons .z (.cons .z .nil))⟩ hF
theorem ref11_Repository_next_ok {fuel : Nat} {a0 : ref11_Repository} {a1 : Int} {y : Int} (hF : ref11_Repository_next fuel a0 a1 = some y) {w : World} {v0 v0_0 : Value} :
  Spec Try.prog 44 [v0, .int .i64 a1].toArray w [] [(false, .box 74 (Rep.iso (fun s : ref11_Repository => (s.Capacity, s.Items, s.Last, s.Held, s.Given, ())) (Rep.prod (Rep.int .i64) (Rep.prod (Rep.raw v0_0) (Rep.prod (Rep.int .i64) (Rep.prod Rep.bool (Rep.prod (Rep.int .i64) Rep.unit)))))) v0 a0), (false, .slice 76 ref11_Item.rep v0_0 a0.Items)] (fun v Γr Ωr Ωo => v = .int .u16 y ∧ Γr = [] ∧ Ωr = [] ∧ Ωo = [(false, .box 74 (Rep.iso (fun s : ref11_Repository => (s.Capacity, s.Items, s.Last, s.Held, s.Given, ())) (Rep.prod (Rep.int .i64) (Rep.prod (Rep.raw v0_0) (Rep.prod (Rep.int .i64) (Rep.prod Rep.bool (Rep.prod (Rep.int .i64) Rep.unit)))))) v0 a0), (false, (.slice 76 ref11_Item.rep v0_0 a0.Items))]) := by
 refine Spec.of (L := [(0, v0), (1, .int .i64 a1)]) Try.func44 rfl ⟨rfl, rfl, trivial⟩ rfl (fun e h => ?_)
 unfold ref11_Repository_next at hF
 refine Run.seq ?_
 refine Run.reg ?_
 refine op (OpS.as rfl rfl rfl ?_)
 refine RunL.nil ?_
 refine Run.slim [(0, v0), (1, .int .i64 a1)] ⟨rfl, rfl, trivial⟩ ?_
 refine Run.seq ?_
 refine Run.seq ?_
 refine Run.reg ?_
 refine op (OpS.mv rfl rfl rfl ?_)
 refine op (OpS.bin rfl rfl rfl rfl rfl ?_)
 refine op (OpS.mv rfl rfl rfl ?_)
 refine op (OpS.nchk h .z rfl rfl rfl ?_)
 refine op (OpS.fbox (o3 := 1) h .z PA.z fa74_1 rfl rfl rfl rfl ?_)
 refine op (OpS.loadR h .z PA.a (GetS.ok (GetS.iso _ (GetS.there (GetS.here GetS.id)))) ty72 rfl rfl rfl rfl rfl ?_)
 refine op (OpS.lenO h (.s .z) Try.underlying72 rfl rfl rfl ?_)
 refine op (OpS.bin rfl rfl rfl rfl rfl ?_)
 refine RunL.nil ?_
 refine Run.slim [(12, .bool (decide ((IntKind.i64.wrap (a1 + 1)) < (a0.Items.length : Int)))), (0, v0), (1, .int .i64 a1)] ⟨rfl, rfl, rfl, trivial⟩ ?_
 refine Run.ite rfl hF (fun e1 hF => ?_) (fun e1 hF => ?_)
 ·
  refine Run.seq ?_
  refine Run.reg ?_
  refine op (OpS.mv rfl rfl rfl ?_)
  refine op (OpS.nchk h .z rfl rfl rfl ?_)
  refine op (OpS.fbox (o3 := 1) h .z PA.z fa74_1 rfl rfl rfl rfl ?_)
  refine op (OpS.loadR h .z PA.a (GetS.ok (GetS.iso _ (GetS.there (GetS.here GetS.id)))) ty72 rfl rfl rfl rfl rfl ?_)
  refine op (OpS.mv rfl rfl rfl ?_)
  refine op (OpS.bin rfl rfl rfl rfl rfl ?_)
  obtain ⟨x1, e2, hF⟩ := bindP_use hF
  refine op (OpS.iown h (.s .z) Try.underlying72 ty76 rfl rfl rfl rfl e2 ?_)
  refine op (OpS.fown h (.s .z) (idx_ne e2) PA.a fa76_0 rfl rfl rfl ?_)
  refine op (OpS.loadOi h (.s .z) (idx_ne e2) PA.a (Get.comp (Get.arr e2) (Get.fld ref11_Item.f0)) ty3 rfl rfl rfl ?_)
  refine op (OpS.conv Try.underlying3 Try.underlying32 rfl rfl rfl ?_)
  refine op (OpS.as rfl rfl rfl ?_)
  refine RunL.nil ?_
  refine Run.slim [(4, .int .u16 (IntKind.u16.wrap x1.ID))] ⟨rfl, trivial⟩ ?_
  refine Run.retP rfl (.tmp rfl .nil) ?_
  cases hF
  exact Post.mk' ⟨rfl, rfl, rfl, rfl⟩ (h.picks (.cons .z (.cons .z .nil))) .nil
 ·
  refine Run.skip ?_
  refine Run.seq ?_
  refine Run.reg ?_
  refine op (OpS.as rfl rfl rfl ?_)
  refine RunL.nil ?_
  refine Run.slim [(4, .int .u16 0)] ⟨rfl, trivial⟩ ?_
  refine Run.retP rfl (.tmp rfl .nil) ?_
  cases hF
  exact Post.mk' ⟨rfl, rfl, rfl, rfl⟩ (h.picks (.cons .z (.cons .z .nil))) .nil
theorem ref11_Repository_Get_ok {fuel : Nat} {a0 : ref11_Repository} {a1 : Int} {y : (List Int) × Int × Int} (hF : ref11_Repository_Get fuel a0 a1 = some y) {w : World} {v0 v0_0 : Value} :
  Spec Try.prog 26 [v0, .int .u16 a1].toArray w [] [(false, .box 74 (Rep.iso (fun s : ref11_Repository => (s.Capacity, s.Items, s.Last, s.Held, s.Given, ())) (Rep.prod (Rep.int .i64) (Rep.prod (Rep.raw v0_0) (Rep.prod (Rep.int .i64) (Rep.prod Rep.bool (Rep.prod (Rep.int .i64) Rep.unit)))))) v0 a0), (false, .slice 76 ref11_Item.rep v0_0 a0.Items)] (fun v Γr Ωr Ωo => ∃ u0 : Value, v = .tuple #[u0, .int .u16 y.2.1, .int .i64 y.2.2] ∧ Γr = [] ∧ Ωr = [(true, .slice 5 (Rep.int .u8) u0 y.1)] ∧ Ωo = [(false, .box 74 (Rep.iso (fun s : ref11_Repository => (s.Capacity, s.Items, s.Last, s.Held, s.Given, ())) (Rep.prod (Rep.int .i64) (Rep.prod (Rep.raw v0_0) (Rep.prod (Rep.int .i64) (Rep.prod Rep.bool (Rep.prod (Rep.int .i64) Rep.unit)))))) v0 a0), (false, (.slice 76 ref11_Item.rep v0_0 a0.Items))]) := by
 refine Spec.of (L := [(0, v0), (1, .int .u16 a1)]) Try.func26 rfl ⟨rfl, rfl, trivial⟩ rfl (fun e h => ?_)
 unfold ref11_Repository_Get at hF
 refine Run.seq ?_
 refine Run.reg ?_
 refine op (OpS.as rfl rfl rfl ?_)
 refine op (OpS.as rfl rfl rfl ?_)
 refine op (OpS.as rfl rfl rfl ?_)
 refine RunL.nil ?_
 refine Run.slim [(0, v0), (1, .int .u16 a1)] ⟨rfl, rfl, trivial⟩ ?_
 refine Run.seq ?_
 refine Run.reg ?_
 refine op (OpS.mv rfl rfl rfl ?_)
 refine op (OpS.mv rfl rfl rfl ?_)
 obtain ⟨y1, e1, hF⟩ := bindP_use hF
 have h1 := h.front (.cons .z (.cons .z .nil))
 refine op (OpS.callO h1 Try.func43 rfl rfl rfl rfl (vs := [v0, .int .u16 a1]) rfl (ref11_Repository_index_ok e1) rfl .nil ?_)
 rintro _ w1 _ _ _ ⟨rfl, rfl, rfl, rfl⟩ h2
 have h3 := h2
 simp only [List.cons_append, List.nil_append] at h3
 refine op (OpS.as rfl rfl rfl ?_)
 refine RunL.nil ?_
 refine Run.slim [(7, .int .i64 y1), (0, v0)] ⟨rfl, rfl, trivial⟩ ?_
 refine Run.seq ?_
 refine Run.seq ?_
 refine Run.reg ?_
 refine op (OpS.mv rfl rfl rfl ?_)
 refine op (OpS.bin rfl rfl rfl rfl rfl ?_)
 refine RunL.nil ?_
 refine Run.slim [(12, .bool (decide (y1 < 0))), (7, .int .i64 y1), (0, v0)] ⟨rfl, rfl, rfl, trivial⟩ ?_
 refine Run.ite rfl hF (fun e2 hF => ?_) (fun e2 hF => ?_)
 ·
  refine Run.seq ?_
  refine Run.reg ?_
  refine op (OpS.as rfl rfl rfl ?_)
  refine op (OpS.as rfl rfl rfl ?_)
  refine op (OpS.as rfl rfl rfl ?_)
  refine RunL.nil ?_
  refine Run.slim [(6, .int .i64 8), (5, .int .u16 0), (4, .slice none 0 0)] ⟨rfl, rfl, rfl, trivial⟩ ?_
  have h4 := St.nil 5 (Rep.int .u8) h3
  refine Run.retP rfl (.tmp rfl (.tmp rfl (.tmp rfl .nil))) ?_
  cases hF
  exact Post.mk' ⟨(.slice none 0 0), rfl, rfl, rfl, rfl⟩ (h4.picks (.cons .z (.cons .z (.cons .z .nil)))) .nil
 ·
  refine Run.skip ?_
  refine Run.seq ?_
  refine Run.reg ?_
  refine op (OpS.mv rfl rfl rfl ?_)
  refine op (OpS.nchk h3 .z rfl rfl rfl ?_)
  refine op (OpS.fbox (o3 := 1) h3 .z PA.z fa74_1 rfl rfl rfl rfl ?_)
  refine op (OpS.loadR h3 .z PA.a (GetS.ok (GetS.iso _ (GetS.there (GetS.here GetS.id)))) ty72 rfl rfl rfl rfl rfl ?_)
  refine op (OpS.mv rfl rfl rfl ?_)
  obtain ⟨x1, e3, hF⟩ := bindP_use hF
  refine op (OpS.iown h3 (.s .z) Try.underlying72 ty76 rfl rfl rfl rfl e3 ?_)
  refine op (OpS.fown h3 (.s .z) (idx_ne e3) PA.a fa76_1 rfl rfl rfl ?_)
  refine op (OpS.loadO h3 (.s .z) (idx_ne e3) PA.a (Get.comp (Get.arr e3) (Get.fld ref11_Item.f1)) ty34 rfl rfl rfl (fun u1 h5 => ?_))
  obtain ⟨y2, e4, hF⟩ := bindP_use hF
  refine op (OpS.callP h5 Try.func42 rfl rfl rfl rfl (vs := [u1]) rfl (ref01_Copy_ok e4) (.cons (f := false) (V.at .z) .nil) ?_)
  rintro u2 w2 _ _ _ ⟨_, rfl, rfl, rfl, rfl⟩ h6
  have h7 := h6 rfl rfl
  simp only [List.cons_append, List.nil_append] at h7
  refine op (OpS.mv rfl rfl rfl ?_)
  refine op (OpS.mv rfl rfl rfl ?_)
  obtain ⟨y3, e5, hF⟩ := bindP_use hF
  have h8 := h7.front (.cons (.s .z) (.cons (.s .z) .nil))
  refine op (OpS.callO h8 Try.func44 rfl rfl rfl rfl (vs := [v0, .int .i64 y1]) rfl (ref11_Repository_next_ok e5) rfl .nil ?_)
  rintro _ w3 _ _ _ ⟨rfl, rfl, rfl, rfl⟩ h9
  have h10 := h9
  simp only [List.cons_append, List.nil_append] at h10
  refine op (OpS.as rfl rfl rfl ?_)
  refine op (OpS.as rfl rfl rfl ?_)
  refine op (OpS.as rfl rfl rfl ?_)
  refine RunL.nil ?_
  refine Run.slim [(6, .int .i64 0), (5, .int .u16 y3), (4, u2)] ⟨rfl, rfl, rfl, trivial⟩ ?_
  refine Run.retP rfl (.tmp rfl (.tmp rfl (.tmp rfl .nil))) ?_
  cases hF
  exact Post.mk' ⟨u2, rfl, rfl, rfl, rfl⟩ (h10.picks (.cons (.s (.s .z)) (.cons .z (.cons .z .nil)))) .nil
theorem ref11_Repository_held_ok {fuel : Nat} {a0 : ref11_Repository} {a1 : Int} {y : Bool} (hF : ref11_Repository_held fuel a0 a1 = some y) {w : World} {v0 v0_0 : Value} :
  Spec Try.prog 45 [v0, .int .u16 a1].toArray w [] [(false, .box 74 (Rep.iso (fun s : ref11_Repository => (s.Capacity, s.Items, s.Last, s.Held, s.Given, ())) (Rep.prod (Rep.int .i64) (Rep.prod (Rep.raw v0_0) (Rep.prod (Rep.int .i64) (Rep.prod Rep.bool (Rep.prod (Rep.int .i64) Rep.unit)))))) v0 a0), (false, .slice 76 ref11_Item.rep v0_0 a0.Items)] (fun v Γr Ωr Ωo => v = .bool y ∧ Γr = [] ∧ Ωr = [] ∧ Ωo = [(false, .box 74 (Rep.iso (fun s : ref11_Repository => (s.Capacity, s.Items, s.Last, s.Held, s.Given, ())) (Rep.prod (Rep.int .i64) (Rep.prod (Rep.raw v0_0) (Rep.prod (Rep.int .i64) (Rep.prod Rep.bool (Rep.prod (Rep.int .i64) Rep.unit)))))) v0 a0), (false, (.slice 76 ref11_Item.rep v0_0 a0.Items))]) := by
 refine Spec.of (L := [(0, v0), (1, .int .u16 a1)]) Try.func45 rfl ⟨rfl, rfl, trivial⟩ rfl (fun e h => ?_)
 unfold ref11_Repository_held at hF
 refine Run.seq ?_
 refine Run.reg ?_
 refine op (OpS.as rfl rfl rfl ?_)
 refine RunL.nil ?_
 refine Run.slim [(0, v0), (1, .int .u16 a1)] ⟨rfl, rfl, trivial⟩ ?_
 refine Run.seq ?_
 refine Run.reg ?_
 refine op (OpS.mv rfl rfl rfl ?_)
 refine op (OpS.nchk h .z rfl rfl rfl ?_)
 refine op (OpS.fbox (o3 := 3) h .z PA.z fa74_3 rfl rfl rfl rfl ?_)
 refine op (OpS.loadBb h .z PA.a (GetS.ok (GetS.iso _ (GetS.there (GetS.there (GetS.there (GetS.here GetS.id)))))) ty4 rfl rfl rfl ?_)
 refine op (OpS.mv rfl rfl rfl ?_)
 refine RunL.caseb hF (fun e1 hF => ?_) (fun e1 hF => ?_)
 ·
  refine op (OpS.mv rfl rfl rfl ?_)
  refine op (OpS.conv Try.underlying32 Try.underlying3 rfl rfl rfl ?_)
  refine op (OpS.mv rfl rfl rfl ?_)
  refine op (OpS.nchk h .z rfl rfl rfl ?_)
  refine op (OpS.fbox (o3 := 2) h .z PA.z fa74_2 rfl rfl rfl rfl ?_)
  refine op (OpS.loadBi h .z PA.a (GetS.ok (GetS.iso _ (GetS.there (GetS.there (GetS.here GetS.id))))) ty3 rfl rfl rfl ?_)
  refine op (OpS.bin rfl rfl rfl rfl rfl ?_)
  refine op (OpS.pick rfl rfl rfl rfl ?_)
  refine op (OpS.as rfl rfl rfl ?_)
  obtain ⟨x1, e2, hF⟩ := letP_use hF
  refine RunL.nameb e2 ?_
  refine RunL.nil ?_
  refine Run.slim [(4, .bool x1)] ⟨rfl, trivial⟩ ?_
  refine Run.retP rfl (.tmp rfl .nil) ?_
  cases hF
  exact Post.mk' ⟨rfl, rfl, rfl, rfl⟩ (h.picks (.cons .z (.cons .z .nil))) .nil
 ·
  refine op (OpS.pass rfl rfl rfl ?_)
  refine op (OpS.pass rfl rfl rfl ?_)
  refine op (OpS.pass rfl rfl rfl ?_)
  refine op (OpS.pass rfl rfl rfl ?_)
  refine op (OpS.pass rfl rfl rfl ?_)
  refine op (OpS.pass rfl rfl rfl ?_)
  refine op (OpS.pass rfl rfl rfl ?_)
  refine op (OpS.pick rfl rfl rfl rfl ?_)
  refine op (OpS.as rfl rfl rfl ?_)
  refine RunL.nil ?_
  refine Run.slim [(4, .bool false)] ⟨rfl, trivial⟩ ?_
  refine Run.retP rfl (.tmp rfl .nil) ?_
  cases hF
  exact Post.mk' ⟨rfl, rfl, rfl, rfl⟩ (h.picks (.cons .z (.cons .z .nil))) .nil
set_option maxHeartbeats 8000000 in
theorem ref11_Repository_Read_ok {fuel : Nat} {a0 : ref11_Repository} {a1 : Int} {a2 : Int} {a3 : Int} {a4 : Int} {y : (List Int) × Int × Int} (hF : ref11_Repository_Read fuel a0 a1 a2 a3 a4 = some y) {w : World} {v0 v0_0 : Value} :
  Spec Try.prog 27 [v0, .int .u16 a1, .int .u16 a2, .int .i64 a3, .int .i64 a4].toArray w [] [(false, .box 74 (Rep.iso (fun s : ref11_Repository => (s.Capacity, s.Items, s.Last, s.Held, s.Given, ())) (Rep.prod (Rep.int .i64) (Rep.prod (Rep.raw v0_0) (Rep.prod (Rep.int .i64) (Rep.prod Rep.bool (Rep.prod (Rep.int .i64) Rep.unit)))))) v0 a0), (false, .slice 76 ref11_Item.rep v0_0 a0.Items)] (fun v Γr Ωr Ωo => ∃ u0 : Value, v = .tuple #[u0, .int .u16 y.2.1, .int .i64 y.2.2] ∧ Γr = [] ∧ Ωr = [(true, .slice 5 (Rep.int .u8) u0 y.1)] ∧ Ωo = [(false, .box 74 (Rep.iso (fun s : ref11_Repository => (s.Capacity, s.Items, s.Last, s.Held, s.Given, ())) (Rep.prod (Rep.int .i64) (Rep.prod (Rep.raw v0_0) (Rep.prod (Rep.int .i64) (Rep.prod Rep.bool (Rep.prod (Rep.int .i64) Rep.unit)))))) v0 a0), (false, (.slice 76 ref11_Item.rep v0_0 a0.Items))]) := by
 refine Spec.of (L := [(0, v0), (1, .int .u16 a1), (2, .int .u16 a2), (3, .int .i64 a3), (4, .int .i64 a4)]) Try.func27 rfl ⟨rfl, rfl, rfl, rfl, rfl, trivial⟩ rfl (fun e h => ?_)
 unfold ref11_Repository_Read at hF
 refine Run.seq ?_
 refine Run.reg ?_
 refine op (OpS.as rfl rfl rfl ?_)
 refine op (OpS.as rfl rfl rfl ?_)
 refine op (OpS.as rfl rfl rfl ?_)
 refine RunL.nil ?_
 refine Run.slim [(0, v0), (1, .int .u16 a1), (2, .int .u16 a2), (3, .int .i64 a3), (4, .int .i64 a4)] ⟨rfl, rfl, rfl, rfl, rfl, trivial⟩ ?_
 refine Run.seq ?_
 refine Run.seq ?_
 refine Run.reg ?_
 refine op (OpS.mv rfl rfl rfl ?_)
 refine op (OpS.bin rfl rfl rfl rfl rfl ?_)
 refine op (OpS.mv rfl rfl rfl ?_)
 refine RunL.join (σ := Bool) (fun s_ L_ w_ => L_ = [(0, v0), (2, .int .u16 a2), (3, .int .i64 a3), (4, .int .i64 a4), (22, .bool s_)] ∧ St e w_ [] [(false, .box 74 (Rep.iso (fun s : ref11_Repository => (s.Capacity, s.Items, s.Last, s.Held, s.Given, ())) (Rep.prod (Rep.int .i64) (Rep.prod (Rep.raw v0_0) (Rep.prod (Rep.int .i64) (Rep.prod Rep.bool (Rep.prod (Rep.int .i64) Rep.unit)))))) v0 a0), (false, .slice 76 ref11_Item.rep v0_0 a0.Items)]) hF (fun s1 _ w1 hI hF => ?_) (fun j1 hj1 hF => ?_)
 ·
  obtain ⟨rfl, h1⟩ := hI
  refine Run.ite rfl hF (fun e1 hF => ?_) (fun e1 hF => ?_)
  ·
   refine Run.seq ?_
   refine Run.reg ?_
   refine op (OpS.as rfl rfl rfl ?_)
   refine op (OpS.as rfl rfl rfl ?_)
   refine op (OpS.as rfl rfl rfl ?_)
   refine RunL.nil ?_
   refine Run.slim [(12, .int .i64 11), (11, .int .u16 0), (10, .slice none 0 0)] ⟨rfl, rfl, rfl, trivial⟩ ?_
   have h2 := St.nil 5 (Rep.int .u8) h1
   refine Run.retP rfl (.tmp rfl (.tmp rfl (.tmp rfl .nil))) ?_
   cases hF
   exact Post.mk' ⟨(.slice none 0 0), rfl, rfl, rfl, rfl⟩ (h2.picks (.cons .z (.cons .z (.cons .z .nil)))) .nil
  ·
   refine Run.skip ?_
   refine Run.seq ?_
   refine Run.reg ?_
   refine op (OpS.mv rfl rfl rfl ?_)
   refine op (OpS.mv rfl rfl rfl ?_)
   obtain ⟨y1, e2, hF⟩ := bindP_use hF
   have h3 := h1.front (.cons .z (.cons .z .nil))
   refine op (OpS.callO h3 Try.func43 rfl rfl rfl rfl (vs := [v0, .int .u16 a2]) rfl (ref11_Repository_index_ok e2) rfl .nil ?_)
   rintro _ w2 _ _ _ ⟨rfl, rfl, rfl, rfl⟩ h4
   have h5 := h4
   simp only [List.cons_append, List.nil_append] at h5
   refine op (OpS.as rfl rfl rfl ?_)
   refine RunL.nil ?_
   refine Run.slim [(13, .int .i64 y1), (0, v0), (3, .int .i64 a3), (4, .int .i64 a4)] ⟨rfl, rfl, rfl, rfl, trivial⟩ ?_
   refine Run.seq ?_
   refine Run.seq ?_
   refine Run.reg ?_
   refine op (OpS.mv rfl rfl rfl ?_)
   refine op (OpS.bin rfl rfl rfl rfl rfl ?_)
   refine RunL.nil ?_
   refine Run.slim [(27, .bool (decide (y1 < 0))), (13, .int .i64 y1), (0, v0), (3, .int .i64 a3), (4, .int .i64 a4)] ⟨rfl, rfl, rfl, rfl, rfl, trivial⟩ ?_
   refine Run.ite rfl hF (fun e3 hF => ?_) (fun e3 hF => ?_)
   ·
    refine Run.seq ?_
    refine Run.reg ?_
    refine op (OpS.as rfl rfl rfl ?_)
    refine op (OpS.as rfl rfl rfl ?_)
    refine op (OpS.as rfl rfl rfl ?_)
    refine RunL.nil ?_
    refine Run.slim [(12, .int .i64 8), (11, .int .u16 0), (10, .slice none 0 0)] ⟨rfl, rfl, rfl, trivial⟩ ?_
    have h6 := St.nil 5 (Rep.int .u8) h5
    refine Run.retP rfl (.tmp rfl (.tmp rfl (.tmp rfl .nil))) ?_
    cases hF
    exact Post.mk' ⟨(.slice none 0 0), rfl, rfl, rfl, rfl⟩ (h6.picks (.cons .z (.cons .z (.cons .z .nil)))) .nil
   ·
    refine Run.skip ?_
    refine Run.seq ?_
    refine Run.reg ?_
    refine op (OpS.mv rfl rfl rfl ?_)
    refine op (OpS.nchk h5 .z rfl rfl rfl ?_)
    refine op (OpS.fbox (o3 := 1) h5 .z PA.z fa74_1 rfl rfl rfl rfl ?_)
    refine op (OpS.loadR h5 .z PA.a (GetS.ok (GetS.iso _ (GetS.there (GetS.here GetS.id)))) ty72 rfl rfl rfl rfl rfl ?_)
    refine op (OpS.mv rfl rfl rfl ?_)
    obtain ⟨x1, e4, hF⟩ := bindP_use hF
    refine op (OpS.iown h5 (.s .z) Try.underlying72 ty76 rfl rfl rfl rfl e4 ?_)
    refine op (OpS.fown h5 (.s .z) (idx_ne e4) PA.a fa76_1 rfl rfl rfl ?_)
    refine op (OpS.loadO h5 (.s .z) (idx_ne e4) PA.a (Get.comp (Get.arr e4) (Get.fld ref11_Item.f1)) ty34 rfl rfl rfl (fun u1 h7 => ?_))
    refine op (OpS.as rfl rfl rfl ?_)
    refine RunL.nil ?_
    refine Run.slim [(14, u1), (13, .int .i64 y1), (0, v0), (3, .int .i64 a3), (4, .int .i64 a4)] ⟨rfl, rfl, rfl, rfl, rfl, trivial⟩ ?_
    refine Run.seq ?_
    refine Run.seq ?_
    refine Run.reg ?_
    refine op (OpS.mv rfl rfl rfl ?_)
    refine op (OpS.bin rfl rfl rfl rfl rfl ?_)
    refine op (OpS.mv rfl rfl rfl ?_)
    refine RunL.join (σ := Bool) (fun s_ L_ w_ => L_ = [(0, v0), (3, .int .i64 a3), (4, .int .i64 a4), (13, .int .i64 y1), (14, u1), (55, .bool s_)] ∧ St e w_ [(false, .val (Rep.slice (Rep.int .u8)) u1 x1.Data)] [(false, .box 74 (Rep.iso (fun s : ref11_Repository => (s.Capacity, s.Items, s.Last, s.Held, s.Given, ())) (Rep.prod (Rep.int .i64) (Rep.prod (Rep.raw v0_0) (Rep.prod (Rep.int .i64) (Rep.prod Rep.bool (Rep.prod (Rep.int .i64) Rep.unit)))))) v0 a0), (false, .slice 76 ref11_Item.rep v0_0 a0.Items)]) hF (fun s2 _ w3 hI hF => ?_) (fun j2 hj2 hF => ?_)
    ·
     obtain ⟨rfl, h8⟩ := hI
     refine Run.ite rfl hF (fun e5 hF => ?_) (fun e5 hF => ?_)
     ·
      refine Run.seq ?_
      refine Run.reg ?_
      refine op (OpS.as rfl rfl rfl ?_)
      refine op (OpS.as rfl rfl rfl ?_)
      refine op (OpS.as rfl rfl rfl ?_)
      refine RunL.nil ?_
      refine Run.slim [(12, .int .i64 2), (11, .int .u16 0), (10, .slice none 0 0)] ⟨rfl, rfl, rfl, trivial⟩ ?_
      have h9 := St.nil 5 (Rep.int .u8) h8
      refine Run.retP rfl (.tmp rfl (.tmp rfl (.tmp rfl .nil))) ?_
      cases hF
      exact Post.mk' ⟨(.slice none 0 0), rfl, rfl, rfl, rfl⟩ (h9.picks (.cons .z (.cons .z (.cons .z .nil)))) .nil
     ·
      refine Run.skip ?_
      refine Run.seq ?_
      refine Run.reg ?_
      refine op (OpS.mv rfl rfl rfl ?_)
      refine op (OpS.mv rfl rfl rfl ?_)
      refine op (OpS.mv rfl rfl rfl ?_)
      refine op (OpS.mv rfl rfl rfl ?_)
      refine op (OpS.bin rfl rfl rfl rfl rfl ?_)
      obtain ⟨x2, e6, hF⟩ := bindP_use hF
      refine op (OpS.sub h8 Try.underlying34 ty5 rfl rfl rfl rfl rfl (V.at .z) e6 (fun u2 h10 => ?_))
      obtain ⟨y2, e7, hF⟩ := bindP_use hF
      refine op (OpS.callP h10 Try.func42 rfl rfl rfl rfl (vs := [u2]) rfl (ref01_Copy_ok e7) (.cons (f := false) (V.at .z) .nil) ?_)
      rintro u3 w4 _ _ _ ⟨_, rfl, rfl, rfl, rfl⟩ h11
      have h12 := h11 rfl rfl
      simp only [List.cons_append, List.nil_append] at h12
      refine op (OpS.mv rfl rfl rfl ?_)
      refine op (OpS.mv rfl rfl rfl ?_)
      obtain ⟨y3, e8, hF⟩ := bindP_use hF
      have h13 := h12.front (.cons (.s .z) (.cons (.s .z) .nil))
      refine op (OpS.callO h13 Try.func44 rfl rfl rfl rfl (vs := [v0, .int .i64 y1]) rfl (ref11_Repository_next_ok e8) rfl .nil ?_)
      rintro _ w5 _ _ _ ⟨rfl, rfl, rfl, rfl⟩ h14
      have h15 := h14
      simp only [List.cons_append, List.nil_append] at h15
      refine op (OpS.as rfl rfl rfl ?_)
      refine op (OpS.as rfl rfl rfl ?_)
      refine op (OpS.as rfl rfl rfl ?_)
      refine RunL.nil ?_
      refine Run.slim [(12, .int .i64 0), (11, .int .u16 y3), (10, u3)] ⟨rfl, rfl, rfl, trivial⟩ ?_
      refine Run.retP rfl (.tmp rfl (.tmp rfl (.tmp rfl .nil))) ?_
      cases hF
      exact Post.mk' ⟨u3, rfl, rfl, rfl, rfl⟩ (h15.picks (.cons (.s (.s .z)) (.cons .z (.cons .z .nil)))) .nil
    ·
     refine RunL.caseb hF (fun e9 hF => ?_) (fun e9 hF => ?_)
     ·
      refine op (OpS.pass rfl rfl rfl ?_)
      refine op (OpS.pass rfl rfl rfl ?_)
      refine op (OpS.pick rfl rfl rfl rfl ?_)
      refine op (OpS.mv rfl rfl rfl ?_)
      refine op (OpS.pass rfl rfl rfl ?_)
      refine op (OpS.pass rfl rfl rfl ?_)
      refine op (OpS.pass rfl rfl rfl ?_)
      refine op (OpS.pass rfl rfl rfl ?_)
      refine op (OpS.pick rfl rfl rfl rfl ?_)
      refine op (OpS.mv rfl rfl rfl ?_)
      refine op (OpS.pass rfl rfl rfl ?_)
      refine op (OpS.pass rfl rfl rfl ?_)
      refine op (OpS.pass rfl rfl rfl ?_)
      refine op (OpS.pass rfl rfl rfl ?_)
      refine op (OpS.pass rfl rfl rfl ?_)
      refine op (OpS.pass rfl rfl rfl ?_)
      refine op (OpS.pick rfl rfl rfl rfl ?_)
      refine RunL.nil ?_
      refine Run.slim [(55, .bool true), (14, u1), (13, .int .i64 y1), (0, v0), (3, .int .i64 a3), (4, .int .i64 a4)] ⟨rfl, rfl, rfl, rfl, rfl, rfl, trivial⟩ ?_
      refine Run.slim [(0, v0), (3, .int .i64 a3), (4, .int .i64 a4), (13, .int .i64 y1), (14, u1), (55, .bool true)] ⟨rfl, rfl, rfl, rfl, rfl, rfl, trivial⟩ ?_
      exact hj2 (true) _ _ ⟨rfl, (h7.facts (.atm .z .nil)).picks (.cons .z (.cons .z .nil))⟩ hF
     ·
      refine op (OpS.mv rfl rfl rfl ?_)
      refine op (OpS.bin rfl rfl rfl rfl rfl ?_)
      refine op (OpS.pick rfl rfl rfl rfl ?_)
      refine op (OpS.mv rfl rfl rfl ?_)
      refine RunL.caseb hF (fun e10 hF => ?_) (fun e10 hF => ?_)
      ·
       refine op (OpS.pass rfl rfl rfl ?_)
       refine op (OpS.pass rfl rfl rfl ?_)
       refine op (OpS.pass rfl rfl rfl ?_)
       refine op (OpS.pass rfl rfl rfl ?_)
       refine op (OpS.pick rfl rfl rfl rfl ?_)
       refine op (OpS.mv rfl rfl rfl ?_)
       refine op (OpS.pass rfl rfl rfl ?_)
       refine op (OpS.pass rfl rfl rfl ?_)
       refine op (OpS.pass rfl rfl rfl ?_)
       refine op (OpS.pass rfl rfl rfl ?_)
       refine op (OpS.pass rfl rfl rfl ?_)
       refine op (OpS.pass rfl rfl rfl ?_)
       refine op (OpS.pick rfl rfl rfl rfl ?_)
       refine RunL.nil ?_
       refine Run.slim [(55, .bool true), (14, u1), (13, .int .i64 y1), (0, v0), (3, .int .i64 a3), (4, .int .i64 a4)] ⟨rfl, rfl, rfl, rfl, rfl, rfl, trivial⟩ ?_
       refine Run.slim [(0, v0), (3, .int .i64 a3), (4, .int .i64 a4), (13, .int .i64 y1), (14, u1), (55, .bool true)] ⟨rfl, rfl, rfl, rfl, rfl, rfl, trivial⟩ ?_
       exact hj2 (true) _ _ ⟨rfl, (h7.facts (.atm .z .nil)).picks (.cons .z (.cons .z .nil))⟩ hF
      ·
       refine op (OpS.mv rfl rfl rfl ?_)
       refine op (OpS.mv rfl rfl rfl ?_)
       refine op (OpS.len h7 Try.underlying34 rfl rfl rfl (V.at .z) ?_)
       refine op (OpS.bin rfl rfl rfl rfl rfl ?_)
       refine op (OpS.pick rfl rfl rfl rfl ?_)
       refine op (OpS.mv rfl rfl rfl ?_)
       refine RunL.caseb hF (fun e11 hF => ?_) (fun e11 hF => ?_)
       ·
        refine op (OpS.pass rfl rfl rfl ?_)
        refine op (OpS.pass rfl rfl rfl ?_)
        refine op (OpS.pass rfl rfl rfl ?_)
        refine op (OpS.pass rfl rfl rfl ?_)
        refine op (OpS.pass rfl rfl rfl ?_)
        refine op (OpS.pass rfl rfl rfl ?_)
        refine op (OpS.pick rfl rfl rfl rfl ?_)
        refine RunL.nil ?_
        refine Run.slim [(55, .bool true), (14, u1), (13, .int .i64 y1), (0, v0), (3, .int .i64 a3), (4, .int .i64 a4)] ⟨rfl, rfl, rfl, rfl, rfl, rfl, trivial⟩ ?_
        refine Run.slim [(0, v0), (3, .int .i64 a3), (4, .int .i64 a4), (13, .int .i64 y1), (14, u1), (55, .bool true)] ⟨rfl, rfl, rfl, rfl, rfl, rfl, trivial⟩ ?_
        exact hj2 (true) _ _ ⟨rfl, (h7.facts (.atm .z .nil)).picks (.cons .z (.cons .z .nil))⟩ hF
       ·
        refine op (OpS.mv rfl rfl rfl ?_)
        refine op (OpS.mv rfl rfl rfl ?_)
        refine op (OpS.len h7 Try.underlying34 rfl rfl rfl (V.at .z) ?_)
        refine op (OpS.mv rfl rfl rfl ?_)
        refine op (OpS.bin rfl rfl rfl rfl rfl ?_)
        refine op (OpS.bin rfl rfl rfl rfl rfl ?_)
        refine op (OpS.pick rfl rfl rfl rfl ?_)
        refine RunL.nil ?_
        refine Run.slim [(55, .bool (decide (a4 > (IntKind.i64.wrap ((x1.Data.length : Int) - a3))))), (14, u1), (13, .int .i64 y1), (0, v0), (3, .int .i64 a3), (4, .int .i64 a4)] ⟨rfl, rfl, rfl, rfl, rfl, rfl, trivial⟩ ?_
        refine Run.slim [(0, v0), (3, .int .i64 a3), (4, .int .i64 a4), (13, .int .i64 y1), (14, u1), (55, .bool (decide (a4 > (IntKind.i64.wrap ((x1.Data.length : Int) - a3)))))] ⟨rfl, rfl, rfl, rfl, rfl, rfl, trivial⟩ ?_
        exact hj2 (decide (a4 > (IntKind.i64.wrap ((x1.Data.length : Int) - a3)))) _ _ ⟨rfl, (h7.facts (.atm .z .nil)).picks (.cons .z (.cons .z .nil))⟩ hF
 ·
  refine RunL.caseb hF (fun e12 hF => ?_) (fun e12 hF => ?_)
  ·
   refine op (OpS.mv rfl rfl rfl ?_)
   refine op (OpS.mv rfl rfl rfl ?_)
   obtain ⟨y4, e13, hF⟩ := bindP_use hF
   have h16 := h.front (.cons .z (.cons .z .nil))
   refine op (OpS.callO h16 Try.func45 rfl rfl rfl rfl (vs := [v0, .int .u16 a1]) rfl (ref11_Repository_held_ok e13) rfl .nil ?_)
   rintro _ w6 _ _ _ ⟨rfl, rfl, rfl, rfl⟩ h17
   have h18 := h17
   simp only [List.cons_append, List.nil_append] at h18
   refine op (OpS.not rfl rfl rfl ?_)
   refine op (OpS.pick rfl rfl rfl rfl ?_)
   refine RunL.nil ?_
   refine Run.slim [(22, .bool (!y4)), (0, v0), (2, .int .u16 a2), (3, .int .i64 a3), (4, .int .i64 a4)] ⟨rfl, rfl, rfl, rfl, rfl, trivial⟩ ?_
   refine Run.slim [(0, v0), (2, .int .u16 a2), (3, .int .i64 a3), (4, .int .i64 a4), (22, .bool (!y4))] ⟨rfl, rfl, rfl, rfl, rfl, trivial⟩ ?_
   exact hj1 (!y4) _ _ ⟨rfl, (h18.facts .nil).picks (.cons .z (.cons .z .nil))⟩ hF
  ·
   refine op (OpS.pass rfl rfl rfl ?_)
   refine op (OpS.pass rfl rfl rfl ?_)
   refine op (OpS.pass rfl rfl rfl ?_)
   refine op (OpS.pass rfl rfl rfl ?_)
   refine op (OpS.pick rfl rfl rfl rfl ?_)
   refine RunL.nil ?_
   refine Run.slim [(22, .bool false), (0, v0), (2, .int .u16 a2), (3, .int .i64 a3), (4, .int .i64 a4)] ⟨rfl, rfl, rfl, rfl, rfl, trivial⟩ ?_
   refine Run.slim [(0, v0), (2, .int .u16 a2), (3, .int .i64 a3), (4, .int .i64 a4), (22, .bool false)] ⟨rfl, rfl, rfl, rfl, rfl, trivial⟩ ?_
   exact hj1 (false) _ _ ⟨rfl, (h.facts .nil).picks (.cons .z (.cons .z .nil))⟩ hF
theorem ref11_Repository_Delete_ok {fuel : Nat} {a0 : ref11_Repository} {a1 : Int} {a2 : Int} {y : Int × ref11_Repository} (hF : ref11_Repository_Delete fuel a0 a1 a2 = some y) {w : World} {v0 v0_0 : Value} :
  Spec Try.prog 28 [v0, .int .u16 a1, .int .u16 a2].toArray w [] [(false, .box 74 (Rep.iso (fun s : ref11_Repository => (s.Capacity, s.Items, s.Last, s.Held, s.Given, ())) (Rep.prod (Rep.int .i64) (Rep.prod (Rep.raw v0_0) (Rep.prod (Rep.int .i64) (Rep.prod Rep.bool (Rep.prod (Rep.int .i64) Rep.unit)))))) v0 a0), (false, .slice 76 ref11_Item.rep v0_0 a0.Items)] (fun v Γr Ωr Ωo => ∃ w0_0 : Value, v = .int .i64 y.1 ∧ Γr = [] ∧ Ωr = [] ∧ Ωo = [(false, .box 74 (Rep.iso (fun s : ref11_Repository => (s.Capacity, s.Items, s.Last, s.Held, s.Given, ())) (Rep.prod (Rep.int .i64) (Rep.prod (Rep.raw w0_0) (Rep.prod (Rep.int .i64) (Rep.prod Rep.bool (Rep.prod (Rep.int .i64) Rep.unit)))))) v0 y.2), (false, (.slice 76 ref11_Item.rep w0_0 y.2.Items))]) := by
 refine Spec.of (L := [(0, v0), (1, .int .u16 a1), (2, .int .u16 a2)]) Try.func28 rfl ⟨rfl, rfl, rfl, trivial⟩ rfl (fun e h => ?_)
 unfold ref11_Repository_Delete at hF
 refine Run.seq ?_
 refine Run.reg ?_
 refine op (OpS.as rfl rfl rfl ?_)
 refine RunL.nil ?_
 refine Run.slim [(0, v0), (1, .int .u16 a1), (2, .int .u16 a2)] ⟨rfl, rfl, rfl, trivial⟩ ?_
 refine Run.seq ?_
 refine Run.seq ?_
 refine Run.reg ?_
 refine op (OpS.mv rfl rfl rfl ?_)
 refine op (OpS.mv rfl rfl rfl ?_)
 obtain ⟨y1, e1, hF⟩ := bindP_use hF
 have h1 := h.front (.cons .z (.cons .z .nil))
 refine op (OpS.callO h1 Try.func45 rfl rfl rfl rfl (vs := [v0, .int .u16 a1]) rfl (ref11_Repository_held_ok e1) rfl .nil ?_)
 rintro _ w1 _ _ _ ⟨rfl, rfl, rfl, rfl⟩ h2
 have h3 := h2
 simp only [List.cons_append, List.nil_append] at h3
 refine op (OpS.not rfl rfl rfl ?_)
 refine RunL.nil ?_
 refine Run.slim [(13, .bool (!y1)), (0, v0), (2, .int .u16 a2)] ⟨rfl, rfl, rfl, trivial⟩ ?_
 refine Run.ite rfl hF (fun e2 hF => ?_) (fun e2 hF => ?_)
 ·
  refine Run.seq ?_
  refine Run.reg ?_
  refine op (OpS.as rfl rfl rfl ?_)
  refine RunL.nil ?_
  refine Run.slim [(6, .int .i64 11)] ⟨rfl, trivial⟩ ?_
  refine Run.retP rfl (.tmp rfl .nil) ?_
  cases hF
  exact Post.mk' ⟨v0_0, rfl, rfl, rfl, rfl⟩ (h3.picks (.cons .z (.cons .z .nil))) .nil
 ·
  refine Run.skip ?_
  refine Run.seq ?_
  refine Run.reg ?_
  refine op (OpS.mv rfl rfl rfl ?_)
  refine op (OpS.mv rfl rfl rfl ?_)
  refine op (OpS.conv Try.underlying32 Try.underlying3 rfl rfl rfl ?_)
  obtain ⟨y2, e3, hF⟩ := bindP_use hF
  have h4 := h3.front (.cons .z (.cons .z .nil))
  refine op (OpS.callO h4 Try.func41 rfl rfl rfl rfl (vs := [v0, .int .i64 (IntKind.i64.wrap a2)]) rfl (ref11_Repository_Find_ok e3) rfl .nil ?_)
  rintro _ w2 _ _ _ ⟨rfl, rfl, rfl, rfl⟩ h5
  have h6 := h5
  simp only [List.cons_append, List.nil_append] at h6
  refine op (OpS.as rfl rfl rfl ?_)
  refine RunL.nil ?_
  refine Run.slim [(7, .int .i64 y2), (0, v0)] ⟨rfl, rfl, trivial⟩ ?_
  refine Run.seq ?_
  refine Run.seq ?_
  refine Run.reg ?_
  refine op (OpS.mv rfl rfl rfl ?_)
  refine op (OpS.bin rfl rfl rfl rfl rfl ?_)
  refine RunL.nil ?_
  refine Run.slim [(19, .bool (decide (y2 < 0))), (7, .int .i64 y2), (0, v0)] ⟨rfl, rfl, rfl, trivial⟩ ?_
  refine Run.ite rfl hF (fun e4 hF => ?_) (fun e4 hF => ?_)
  ·
   refine Run.seq ?_
   refine Run.reg ?_
   refine op (OpS.as rfl rfl rfl ?_)
   refine RunL.nil ?_
   refine Run.slim [(6, .int .i64 8)] ⟨rfl, trivial⟩ ?_
   refine Run.retP rfl (.tmp rfl .nil) ?_
   cases hF
   exact Post.mk' ⟨v0_0, rfl, rfl, rfl, rfl⟩ (h6.picks (.cons .z (.cons .z .nil))) .nil
  ·
   refine Run.skip ?_
   refine Run.seq ?_
   refine Run.reg ?_
   refine op (OpS.as rfl rfl rfl ?_)
   refine RunL.nil ?_
   refine Run.slim [(8, .slice none 0 0), (7, .int .i64 y2), (0, v0)] ⟨rfl, rfl, rfl, trivial⟩ ?_
   refine Run.seq ?_
   refine Run.seq ?_
   refine Run.reg ?_
   refine op (OpS.as rfl rfl rfl ?_)
   refine RunL.nil ?_
   refine Run.block ?_
   have h7 := St.nil 76 ref11_Item.rep h6
   have h8 := (h7.pick .z).weak
   refine Run.slim [(0, v0), (7, .int .i64 y2), (8, (.slice none 0 0)), (9, .int .i64 0)] ⟨rfl, rfl, rfl, rfl, trivial⟩ ?_
   refine Run.loopP (σ := (Int × (List ref11_Item))) (fun s_ L_ w_ => ∃ u0_ : Value, L_ = [(0, v0), (7, .int .i64 y2), (8, u0_), (9, .int .i64 s_.1)] ∧ St e w_ [] [(false, .box 74 (Rep.iso (fun s : ref11_Repository => (s.Capacity, s.Items, s.Last, s.Held, s.Given, ())) (Rep.prod (Rep.int .i64) (Rep.prod (Rep.raw v0_0) (Rep.prod (Rep.int .i64) (Rep.prod Rep.bool (Rep.prod (Rep.int .i64) Rep.unit)))))) v0 a0), (false, .slice 76 ref11_Item.rep u0_ s_.2), (false, .slice 76 ref11_Item.rep v0_0 a0.Items)]) hF ⟨(.slice none 0 0), rfl, (h8.facts .nil).picks (.cons (.s .z) (.cons .z (.cons .z .nil)))⟩ (fun k1 hk1 s1 _ w3 hI hF => ?_)
   obtain ⟨u1, rfl, h9⟩ := hI
   refine Run.seq ?_
   refine Run.seq ?_
   refine Run.reg ?_
   refine op (OpS.mv rfl rfl rfl ?_)
   refine op (OpS.mv rfl rfl rfl ?_)
   refine op (OpS.nchk h9 .z rfl rfl rfl ?_)
   refine op (OpS.fbox (o3 := 1) h9 .z PA.z fa74_1 rfl rfl rfl rfl ?_)
   refine op (OpS.loadR h9 .z PA.a (GetS.ok (GetS.iso _ (GetS.there (GetS.here GetS.id)))) ty72 rfl rfl rfl rfl rfl ?_)
   refine op (OpS.lenO h9 (.s (.s .z)) Try.underlying72 rfl rfl rfl ?_)
   refine op (OpS.bin rfl rfl rfl rfl rfl ?_)
   refine RunL.nil ?_
   refine Run.slim [(26, .bool (decide (s1.1 < (a0.Items.length : Int)))), (0, v0), (7, .int .i64 y2), (8, u1), (9, .int .i64 s1.1)] ⟨rfl, rfl, rfl, rfl, rfl, trivial⟩ ?_
   refine Run.ite rfl hF (fun e5 hF => ?_) (fun e5 hF => ?_)
   ·
    refine Run.skip ?_
    refine Run.seq ?_
    refine Run.block ?_
    refine Run.seq ?_
    refine Run.reg ?_
    refine op (OpS.mv rfl rfl rfl ?_)
    refine op (OpS.mv rfl rfl rfl ?_)
    refine op (OpS.bin rfl rfl rfl rfl rfl ?_)
    refine RunL.nil ?_
    refine Run.slim [(31, .bool (s1.1 != y2)), (0, v0), (7, .int .i64 y2), (8, u1), (9, .int .i64 s1.1)] ⟨rfl, rfl, rfl, rfl, rfl, trivial⟩ ?_
    refine Run.ite rfl hF (fun e6 hF => ?_) (fun e6 hF => ?_)
    ·
     refine Run.reg ?_
     refine op (OpS.mv rfl rfl rfl ?_)
     refine op (OpS.mv rfl rfl rfl ?_)
     refine op (OpS.nchk h9 .z rfl rfl rfl ?_)
     refine op (OpS.fbox (o3 := 1) h9 .z PA.z fa74_1 rfl rfl rfl rfl ?_)
     refine op (OpS.loadR h9 .z PA.a (GetS.ok (GetS.iso _ (GetS.there (GetS.here GetS.id)))) ty72 rfl rfl rfl rfl rfl ?_)
     refine op (OpS.mv rfl rfl rfl ?_)
     obtain ⟨x1, e7, hF⟩ := bindP_use hF
     refine op (OpS.iown h9 (.s (.s .z)) Try.underlying72 ty76 rfl rfl rfl rfl e7 ?_)
     refine op (OpS.loadO h9 (.s (.s .z)) (idx_ne e7) PA.a (Get.arr e7) ty76 rfl rfl rfl (fun u2 h10 => ?_))
     refine op (OpS.lit (r := ref11_Item.rep) (f := false) h10 Try.underlying72 ti76 rfl rfl rfl rfl rfl (.cons rfl (V.at .z) .nil) rfl rfl (fun u3 w4 h11 => ?_))
     obtain ⟨x2, e8, hF⟩ := bindP_use hF
     refine op (OpS.app (f' := false) h11 (.s .z) Try.underlying72 ti76 rfl rfl rfl rfl rfl rfl rfl (V.at .z) (.inl (.inr rfl)) e8 (fun u4 w5 h12 => ?_))
     refine op (OpS.as rfl rfl rfl ?_)
     refine RunL.nil ?_
     refine Run.slim [(8, u4), (0, v0), (7, .int .i64 y2), (9, .int .i64 s1.1)] ⟨rfl, rfl, rfl, rfl, trivial⟩ ?_
     refine Run.endBlock ?_
     refine Run.reg ?_
     refine op (OpS.mv rfl rfl rfl ?_)
     refine op (OpS.bin rfl rfl rfl rfl rfl ?_)
     refine op (OpS.as rfl rfl rfl ?_)
     obtain ⟨x3, e9, hF⟩ := letP_use hF
     refine RunL.name e9 ?_
     refine RunL.nil ?_
     refine Run.slim [(9, .int .i64 x3), (8, u4), (0, v0), (7, .int .i64 y2)] ⟨rfl, rfl, rfl, rfl, trivial⟩ ?_
     refine Run.slim [(0, v0), (7, .int .i64 y2), (8, u4), (9, .int .i64 x3)] ⟨rfl, rfl, rfl, rfl, trivial⟩ ?_
     exact hk1 (x3, x2) _ _ ⟨u4, rfl, (h12.facts .nil).picks (.cons (.s .z) (.cons .z (.cons .z .nil)))⟩ hF
    ·
     refine Run.skip ?_
     refine Run.endBlock ?_
     refine Run.reg ?_
     refine op (OpS.mv rfl rfl rfl ?_)
     refine op (OpS.bin rfl rfl rfl rfl rfl ?_)
     refine op (OpS.as rfl rfl rfl ?_)
     obtain ⟨x4, e10, hF⟩ := letP_use hF
     refine RunL.name e10 ?_
     refine RunL.nil ?_
     refine Run.slim [(9, .int .i64 x4), (0, v0), (7, .int .i64 y2), (8, u1)] ⟨rfl, rfl, rfl, rfl, trivial⟩ ?_
     refine Run.slim [(0, v0), (7, .int .i64 y2), (8, u1), (9, .int .i64 x4)] ⟨rfl, rfl, rfl, rfl, trivial⟩ ?_
     exact hk1 (x4, s1.2) _ _ ⟨u1, rfl, (h9.facts .nil).picks (.cons .z (.cons .z (.cons .z .nil)))⟩ hF
   ·
    refine Run.exit rfl ?_
    refine Run.seq ?_
    refine Run.reg ?_
    refine op (OpS.mv rfl rfl rfl ?_)
    refine op (OpS.mv rfl rfl rfl ?_)
    refine op (OpS.nchk h9 .z rfl rfl rfl ?_)
    refine op (OpS.fbox (o3 := 1) h9 .z PA.z fa74_1 rfl rfl rfl rfl ?_)
    refine op (OpS.storeC (f' := false) (fr := (Rep.raw u1)) (r' := (Rep.iso (fun s : ref11_Repository => (s.Capacity, s.Items, s.Last, s.Held, s.Given, ())) (Rep.prod (Rep.int .i64) (Rep.prod (Rep.raw u1) (Rep.prod (Rep.int .i64) (Rep.prod Rep.bool (Rep.prod (Rep.int .i64) Rep.unit))))))) (x' := a0) h9 .z PA.a (Chg.iso _ (Chg.there (Chg.here (Chg.id (by rfl))))) (Ty.like ty72 (by rfl) (by rfl)) rfl rfl rfl (V.raw (f := false) (St.own1 h9 (.s .z)) a0.Items) (.inr rfl) (fun w6 h13 => ?_))
    refine RunL.nil ?_
    refine Run.slim [(0, v0)] ⟨rfl, trivial⟩ ?_
    refine Run.seq ?_
    refine Run.reg ?_
    refine op (OpS.mv rfl rfl rfl ?_)
    refine op (OpS.nchk h13 .z rfl rfl rfl ?_)
    refine op (OpS.fbox (o3 := 3) h13 .z PA.z fa74_3 rfl rfl rfl rfl ?_)
    obtain ⟨d1, e11, hF⟩ := letP_use hF
    refine op (OpS.storeC (f' := true) (fr := Rep.bool) (r' := (Rep.iso (fun s : ref11_Repository => (s.Capacity, s.Items, s.Last, s.Held, s.Given, ())) (Rep.prod (Rep.int .i64) (Rep.prod (Rep.raw u1) (Rep.prod (Rep.int .i64) (Rep.prod Rep.bool (Rep.prod (Rep.int .i64) Rep.unit))))))) (x' := d1) h13 .z PA.a (Chg.of (x' := { a0 with Held := false }) (Chg.iso _ (Chg.there (Chg.there (Chg.there (Chg.here (Chg.id (by rfl))))))) e11) ty4 rfl rfl rfl V.bool (.inr rfl) (fun w7 h14 => ?_))
    refine RunL.nil ?_
    refine Run.slim [] trivial ?_
    refine Run.seq ?_
    refine Run.reg ?_
    refine op (OpS.as rfl rfl rfl ?_)
    refine RunL.nil ?_
    have h15 := St.boxJ (r' := (Rep.iso (fun s : ref11_Repository => (s.Capacity, s.Items, s.Last, s.Held, s.Given, ())) (Rep.prod (Rep.int .i64) (Rep.prod (Rep.raw u1) (Rep.prod (Rep.int .i64) (Rep.prod Rep.bool (Rep.prod (Rep.int .i64) Rep.unit))))))) (x' := { d1 with Items := s1.2 }) (h14.pick .z) (fun _ _ hs_ => (Jn.iso _ (Jn.prod Jn.refl (Jn.prod Jn.same Jn.refl))))
    refine Run.retP rfl (.tmp rfl .nil) ?_
    cases hF
    exact Post.mk' ⟨u1, rfl, rfl, rfl, rfl⟩ (h15.picks (.cons .z (.cons .z .nil))) .nil
end Lift
