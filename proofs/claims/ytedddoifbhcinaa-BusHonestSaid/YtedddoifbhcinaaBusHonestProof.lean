/-
  The row of BusHonest: what is read of the arguments, the walk, the plain law. Written by claimgen.py.
-/
import Derived.Test.YtedddoifbhcinaaRows
import Derived.WalkKit
import Derived.ProofKit
import Derived.OpenShut
import Derived.Carry
import Derived.Test.YtedddoifbhcinaaBusHonestWalks
import Derived.Test.YtedddoifbhcinaaBusHonestLaw
namespace Go.Proofs.Ytedddoifbhcinaa.busHonest
open Go.ChangeShapes Go.WideShapes Go.ChangeAt Go.RowKit
set_option linter.unusedVariables false
set_option linter.unusedSimpArgs false

theorem own : ownKnob Try.prog.godebug = none := by kernel_rfl
theorem laidOut : laidOutB Try.prog = true := by kernel_rfl
theorem walk (a0 : Int) (a1 : List Int) (a2 : List Lift.Fault_) (o0 : Lift.okI .i64 a0) (o1 : (Lift.okL (Lift.okI .i64)) a1) (o2 : (Lift.okL Lift.Fault_.ok) a2) (v1 v2 : Value) (W : World) (h1 : ((Lift.Rep.slice (Lift.Rep.int .i64))).val (Lift.Old W) W v1 a1) (h2 : ((Lift.Rep.slice Lift.Fault_.rep)).val (Lift.Old W) W v2 a2) :
    Calls Try.prog 5 #[.int .i64 a0, v1, v2] W fun e w' => e = .returned (.bool true) ∧ Lift.Step (fun _ => False) W w' := by
  obtain ⟨fuel, hF⟩ := Lift.law21_BusHonest_true a0 a1 a2 o0 o1 o2
  have hs := Lift.law21_BusHonest_ok hF (w := W) (v1 := v1) (v2 := v2)
  refine (hs (Lift.Old W) (fun _ => False) (fun _ h => h) (fun _ h => h.elim) (fun _ _ h => h) ⟨Lift.Rep.arg h1 _, ⟨Lift.Rep.arg h2 _, trivial⟩⟩ (fun _ h => h)).mono ?_
  rintro e w' ⟨v, rfl, Γr, Ωr, Ωo, ⟨rfl, _⟩, hst, _⟩
  exact ⟨rfl, hst⟩

set_option maxRecDepth 100000 in
theorem lifted (os : Os) (started : os.Started) (H : Type) (enc : TypeId × Value → H) :
    ReturnsInHanded {} Try.checked os 5 .any (Rows.busHonestSpec.pre6 enc Try.prog Try.f5 Rows.busHonestRow.domain false) (Rows.busHonestSpec.post enc Try.prog Try.f5 false true false false) := by
  refine returnsInHanded_of_change (C := Try.checked) own started (by kernel_rfl) Try.func5
    (ChangeSpec.witness6 (enc := enc) (C := Try.checked) false ⟨#[], #[.int .i64 0, .slice none 0 0, .slice none 0 0], []⟩ 8 (by kernel_rfl) (by kernel_rfl) (by kernel_rfl) (by kernel_rfl)) ?_
  intro W base args ds gs before hval0 hW hcnd _
  have hval : ∀ (j : Nat) t v, Try.f5.params[j]? = some t → args[j]? = some v → Value.okWide Try.prog W .any base t v := hval0
  have hW' := hW
  obtain ⟨p, q, hA0, hV, rfl, hfz, hnd⟩ := hW
  have hA : DataW.TrodAll enc Try.prog W 0 (fun _ => true) true Try.f5.params.toList args.toList ds p := hA0
  rw [Try.params5] at hA hval
  obtain ⟨v0, vs0, d0, ds0, p0, q0, hargs, rfl, rfl, h0, r0⟩ := trodAll_cons hA
  obtain ⟨v1, vs1, d1, ds1, p1, q1, rfl, rfl, rfl, h1, r1⟩ := trodAll_cons r0
  obtain ⟨v2, vs2, d2, ds2, p2, q2, rfl, rfl, rfl, h2, r2⟩ := trodAll_cons r1
  obtain ⟨rfl, rfl, rfl⟩ := trodAll_nil r2
  obtain rfl : args = #[v0, v1, v2] := by cases args; simp_all
  obtain ⟨rfl, rfl⟩ := trodVars_none hV
  obtain ⟨a0, rfl, rfl, rfl, o0⟩ := open_int Try.underlying3 (hval 0 3 v0 rfl rfl) h0
  obtain ⟨a1, g1, o1⟩ := Lift.Rd.ofSlice Lift.rd33 rfl Try.underlying33 (hval 1 33 v1 rfl rfl) h1
  obtain ⟨a2, g2, o2⟩ := Lift.Rd.ofSlice Lift.rd63 rfl Try.underlying63 (hval 2 63 v2 rfl rfl) h2
  clear hA0 hval0
  simp only [List.append_nil] at hW'
  refine (walk a0 a1 a2 o0 o1 o2 v1 v2 W g1 g2).mono fun e W' ⟨he, hg⟩ => ?_
  subst he
  have hb := Lift.below_of_step hg
  have hlt := fun x hx => hW'.lt x hx
  exact ⟨_, rfl, Lift.post_read hW' hb (fun _ _ _ => (trodAll_cons_mk (shut_bool Try.underlying4 _) trodAll_mk0)) (fun sp hsp => (trodAll_cons_mk (shut_int Try.underlying3 o0) (trodAll_cons_mk (WideElems.Trod_stays laidOut (by kernel_rfl) (of_decide_eq_true (by kernel_rfl)) h1 (fun x hx => hb.same (hlt x (by simp [hx]))) (fun x hx => hsp x (by simp [hx]))) (trodAll_cons_mk (WideElems.Trod_stays laidOut (by kernel_rfl) (of_decide_eq_true (by kernel_rfl)) h2 (fun x hx => hb.same (hlt x (by simp [hx]))) (fun x hx => hsp x (by simp [hx]))) trodAll_mk0)))) (fun _ _ => rfl) (by simp)
    (ok_one (by kernel_rfl) rfl (okWide_bool_mk Try.underlying4 _))⟩

theorem over : Rows.busHonestRow.holds Try.pinned (OpenSpec.ofChange Rows.busHonestSpec) :=
  OpenClaim.holds_of_wide 5 Try.f5 rfl rfl rfl rfl rfl rfl rfl ⟨rfl, rfl, rfl, rfl, rfl⟩ rfl rfl rfl rfl rfl (by kernel_rfl) Try.func5 (by kernel_rfl)
    (of_decide_eq_true (by kernel_rfl)) (by unfold Func.isWrapper; first | (rw [if_pos (by decide +kernel)]; kernel_rfl) | (rw [if_neg (by decide +kernel)]; exact ⟨rfl, rfl⟩))
    (fun os started H enc _ => lifted os started H enc)

theorem proved : Rows.BusHonestSaid := over

#print axioms proved
end Go.Proofs.Ytedddoifbhcinaa.busHonest
