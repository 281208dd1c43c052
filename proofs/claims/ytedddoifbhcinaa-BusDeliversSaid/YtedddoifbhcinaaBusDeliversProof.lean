/-
  The row of BusDelivers: what is read of the arguments, the walk, the plain law. Written by claimgen.py.
-/
import Derived.Test.YtedddoifbhcinaaRows
import Derived.WalkKit
import Derived.ProofKit
import Derived.OpenShut
import Derived.Carry
import Derived.Test.YtedddoifbhcinaaBusDeliversWalks
import Derived.Test.YtedddoifbhcinaaBusDeliversLaw
namespace Go.Proofs.Ytedddoifbhcinaa.busDelivers
open Go.ChangeShapes Go.WideShapes Go.ChangeAt Go.RowKit
set_option linter.unusedVariables false
set_option linter.unusedSimpArgs false

theorem own : ownKnob Try.prog.godebug = none := by kernel_rfl
theorem laidOut : laidOutB Try.prog = true := by kernel_rfl
theorem walk (a0 : Int) (a1 : List Int) (o0 : Lift.okI .i64 a0) (o1 : (Lift.okL (Lift.okI .i64)) a1) (v1 : Value) (W : World) (h1 : ((Lift.Rep.slice (Lift.Rep.int .i64))).val (Lift.Old W) W v1 a1) :
    Calls Try.prog 4 #[.int .i64 a0, v1] W fun e w' => e = .returned (.bool true) ∧ Lift.Step (fun _ => False) W w' := by
  obtain ⟨fuel, hF⟩ := Lift.law21_BusDelivers_true a0 a1 o0 o1
  have hs := Lift.law21_BusDelivers_ok hF (w := W) (v1 := v1)
  refine (hs (Lift.Old W) (fun _ => False) (fun _ h => h) (fun _ h => h.elim) (fun _ _ h => h) ⟨Lift.Rep.arg h1 _, trivial⟩ (fun _ h => h)).mono ?_
  rintro e w' ⟨v, rfl, Γr, Ωr, Ωo, ⟨rfl, _⟩, hst, _⟩
  exact ⟨rfl, hst⟩

set_option maxRecDepth 100000 in
theorem lifted (os : Os) (started : os.Started) (H : Type) (enc : TypeId × Value → H) :
    ReturnsInHanded {} Try.checked os 4 .any (Rows.busDeliversSpec.pre6 enc Try.prog Try.f4 Rows.busDeliversRow.domain false) (Rows.busDeliversSpec.post enc Try.prog Try.f4 false true false false) := by
  refine returnsInHanded_of_change (C := Try.checked) own started (by kernel_rfl) Try.func4
    (ChangeSpec.witness6 (enc := enc) (C := Try.checked) false ⟨#[], #[.int .i64 0, .slice none 0 0], []⟩ 8 (by kernel_rfl) (by kernel_rfl) (by kernel_rfl) (by kernel_rfl)) ?_
  intro W base args ds gs before hval0 hW hcnd _
  have hval : ∀ (j : Nat) t v, Try.f4.params[j]? = some t → args[j]? = some v → Value.okWide Try.prog W .any base t v := hval0
  have hW' := hW
  obtain ⟨p, q, hA0, hV, rfl, hfz, hnd⟩ := hW
  have hA : DataW.TrodAll enc Try.prog W 0 (fun _ => true) true Try.f4.params.toList args.toList ds p := hA0
  rw [Try.params4] at hA hval
  obtain ⟨v0, vs0, d0, ds0, p0, q0, hargs, rfl, rfl, h0, r0⟩ := trodAll_cons hA
  obtain ⟨v1, vs1, d1, ds1, p1, q1, rfl, rfl, rfl, h1, r1⟩ := trodAll_cons r0
  obtain ⟨rfl, rfl, rfl⟩ := trodAll_nil r1
  obtain rfl : args = #[v0, v1] := by cases args; simp_all
  obtain ⟨rfl, rfl⟩ := trodVars_none hV
  obtain ⟨a0, rfl, rfl, rfl, o0⟩ := open_int Try.underlying3 (hval 0 3 v0 rfl rfl) h0
  obtain ⟨a1, g1, o1⟩ := Lift.Rd.ofSlice Lift.rd33 rfl Try.underlying33 (hval 1 33 v1 rfl rfl) h1
  clear hA0 hval0
  simp only [List.append_nil] at hW'
  refine (walk a0 a1 o0 o1 v1 W g1).mono fun e W' ⟨he, hg⟩ => ?_
  subst he
  have hb := Lift.below_of_step hg
  have hlt := fun x hx => hW'.lt x hx
  exact ⟨_, rfl, Lift.post_read hW' hb (fun _ _ _ => (trodAll_cons_mk (shut_bool Try.underlying4 _) trodAll_mk0)) (fun sp hsp => (trodAll_cons_mk (shut_int Try.underlying3 o0) (trodAll_cons_mk (WideElems.Trod_stays laidOut (by kernel_rfl) (of_decide_eq_true (by kernel_rfl)) h1 (fun x hx => hb.same (hlt x (by simp [hx]))) (fun x hx => hsp x (by simp [hx]))) trodAll_mk0))) (fun _ _ => rfl) (by simp)
    (ok_one (by kernel_rfl) rfl (okWide_bool_mk Try.underlying4 _))⟩

theorem over : Rows.busDeliversRow.holds Try.pinned (OpenSpec.ofChange Rows.busDeliversSpec) :=
  OpenClaim.holds_of_wide 4 Try.f4 rfl rfl rfl rfl rfl rfl rfl ⟨rfl, rfl, rfl, rfl, rfl⟩ rfl rfl rfl rfl rfl (by kernel_rfl) Try.func4 (by kernel_rfl)
    (of_decide_eq_true (by kernel_rfl)) (by unfold Func.isWrapper; first | (rw [if_pos (by decide +kernel)]; kernel_rfl) | (rw [if_neg (by decide +kernel)]; exact ⟨rfl, rfl⟩))
    (fun os started H enc _ => lifted os started H enc)

theorem proved : Rows.BusDeliversSaid := over

#print axioms proved
end Go.Proofs.Ytedddoifbhcinaa.busDelivers
