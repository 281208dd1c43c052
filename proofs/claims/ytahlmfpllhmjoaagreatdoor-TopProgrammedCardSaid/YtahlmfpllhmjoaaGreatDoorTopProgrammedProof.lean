/-
  The row of TopProgrammed, and its card: a threshold that is programmed as the raw reading nearest to a value is reached by a raw reading exactly if its number is not below that of the threshold. Conditions: none.
-/
import Derived.Test.YtahlmfpllhmjoaaGreatDoorRows
import Derived.WalkKit
import Derived.ProofKit
import Derived.OpenShut
import Derived.Carry
import Derived.LaidMore
import Derived.Stop.Joined
import Derived.SevenTiedAt
import Derived.Test.YtahlmfpllhmjoaaGreatDoorTie
import Derived.Test.YtahlmfpllhmjoaaGreatDoorCards
import Derived.Test.YtahlmfpllhmjoaaGreatDoorTopProgrammedWalks
import Derived.Test.YtahlmfpllhmjoaaGreatDoorTopProgrammedLaw
namespace Go.Proofs.YtahlmfpllhmjoaaGreatDoor.topProgrammed
open Go.ChangeShapes Go.WideShapes Go.ChangeAt Go.RowKit
set_option linter.unusedVariables false
set_option linter.unusedSimpArgs false
theorem own : ownKnob Tryz.prog.godebug = none := by kernel_rfl
theorem laidOut : laidOutB Tryz.prog = true := by kernel_rfl
theorem gOffsets : Tryz.prog.globalNamed "baseboard/event.offsets" = some 0 := by kernel_rfl
theorem tOffsets : (Tryz.prog.globals[0]?).map (·.type) = some 70 := by kernel_rfl
abbrev laid1 : List (String × DataW Unit) := [("baseboard/event.offsets", Rows.laid_baseboard_event_offsets)]
theorem door_met (os : Os) (args : Array Value) : laidMetH Tryz.prog laid1 ((World.doorLaid Tryz.prog 400 os).forCall (fun _ _ => 0) ⟨#[], args, []⟩).memory :=
  laidMetH_of_parts3 (fuel := 8) (laidMet_of_run' 8 (by kernel_rfl) (by kernel_rfl)) (by kernel_rfl) (by kernel_rfl)
theorem of_laid {W : World} (h : laidMetH Tryz.prog laid1 W) : 0 < W.heap.size ∧ Lift.cellsAt W 0 0 [.int .u8 0, .int .u8 2, .int .u8 4, .int .u8 7, .int .u8 9, .int .u8 11] := by
  rw [MakeChecks.laidMetH_plain _ _ _ (by kernel_rfl)] at h
  obtain ⟨ps, ⟨g1, t1, cs1, f1, p1, q1, hg1, ht1, hv1, hd1, _, _⟩, _, _⟩ := h
  obtain rfl := Option.some.inj (gOffsets.symm.trans hg1)
  obtain rfl := Option.some.inj (tOffsets.symm.trans ht1)
  obtain ⟨xs, m1, rfl, hx1, hlen, hn3, hel⟩ := DataW.trod_array Tryz.underlying70 hd1
  have c3 : Tryz.prog.cellsOf 5 = 1 := by kernel_rfl
  simp only [Rows.laid_baseboard_event_offsets, Prod.mk.injEq, DataW.agg.injEq] at hx1
  obtain ⟨hx1, _⟩ := hx1
  have key : ∀ i, i < 6 → ∀ n, ([0, 2, 4, 7, 9, 11] : List Int)[i]? = some n → cs1.toList[i]? = some (.int .u8 n) := by
    intro i hi n hn
    have h0 := hel i hi
    rw [c3, Nat.mul_one] at h0
    obtain ⟨x, hx⟩ : ∃ x, xs[i]? = some x := ⟨xs[i]'(by omega), by simp⟩
    rw [hx] at h0
    obtain ⟨k, e1, e2, _⟩ := DataW.trod_int Tryz.underlying5 h0
    have hm := congrArg (fun l => l[i]?) hx1
    simp only [List.getElem?_map, hx, Option.map_some, e2] at hm
    have hk : k = n := by
      obtain rfl | rfl | rfl | rfl | rfl | rfl : i = 0 ∨ i = 1 ∨ i = 2 ∨ i = 3 ∨ i = 4 ∨ i = 5 := by omega
      all_goals (simp at hn hm; omega)
    subst hk
    have e3 := congrArg (fun l => l[0]?) e1
    simpa [List.getElem?_take] using e3
  have hcell : ∀ j v, ([.int .u8 0, .int .u8 2, .int .u8 4, .int .u8 7, .int .u8 9, .int .u8 11] : List Value)[j]? = some v → W.cell? ⟨0, 0 + j, none⟩ = some v := by
    intro j v hj
    have hj6 : j < 6 := by have := (List.getElem?_eq_some_iff.1 hj).1; simpa using this
    have hc := World.var?_cell hg1 hv1 j
    rw [Nat.zero_add]
    rw [show W.cell? ⟨0, j, none⟩ = cs1[j]? from by simpa using hc]
    obtain ⟨n, hn⟩ : ∃ n, ([0, 2, 4, 7, 9, 11] : List Int)[j]? = some n := ⟨_, List.getElem?_eq_getElem (by simpa using hj6)⟩
    have h1 := key j hj6 n hn
    have h2 : v = .int .u8 n := by
      obtain rfl | rfl | rfl | rfl | rfl | rfl : j = 0 ∨ j = 1 ∨ j = 2 ∨ j = 3 ∨ j = 4 ∨ j = 5 := by omega
      all_goals (simp at hn hj; subst hn; exact hj.symm)
    rw [h2, ← h1]; simp
  refine ⟨?_, hcell⟩
  have h0 := hcell 0 (.int .u8 0) rfl
  by_cases hz : 0 < W.heap.size
  · exact hz
  · exfalso
    have hn : W.heap[0]? = none := Array.getElem?_eq_none (by omega)
    simp [World.cell?, hn] at h0
theorem glob {W : World} (h : laidMetH Tryz.prog laid1 W) (B : Nat) : (Lift.Atom.ptr (Lift.Rep.arr 6 (Lift.Rep.int .u8)) (.pointer (some ⟨0, 0, none⟩)) [0, 2, 4, 7, 9, 11]).p (Lift.fl false B (Lift.Old W)) W := by
  obtain ⟨h1, h2⟩ := of_laid h
  exact ⟨0, 0, _, rfl, ⟨h1, fun h => by cases h⟩, h2, rfl, ⟨[_], _, rfl, rfl, [_], _, rfl, rfl, [_], _, rfl, rfl, [_], _, rfl, rfl, [_], _, rfl, rfl, [_], _, rfl, rfl, rfl⟩⟩
theorem walk (a0 : List Int) (a1 : Int) (a2 : Int) (o0 : (Lift.okL (Lift.okI .i64)) a0) (o1 : Lift.okI .i64 a1) (o2 : Lift.okI .u8 a2) (v0 : Value) (W : World) (h0 : ((Lift.Rep.slice (Lift.Rep.int .i64))).val (Lift.Old W) W v0 a0) (hL : laidMetH Tryz.prog laid1 W) :
    Calls Tryz.prog 7 #[v0, .int .i64 a1, .int .u8 a2] W fun e w' => e = .returned (.bool true) ∧ Lift.Step (fun _ => False) W w' := by
  obtain ⟨fuel, hF⟩ := Lift.top_TopProgrammed_true a0 a1 a2 o0 o1 o2
  have hs := Lift.top_TopProgrammed_ok hF (w := W) (v0 := v0)
  refine (hs (Lift.Old W) (fun _ => False) (fun _ h => h) (fun _ h => h.elim) (fun _ _ h => h) ⟨Lift.Rep.arg h0 _, ⟨glob hL _, trivial⟩⟩ (fun _ h => h)).mono ?_
  rintro e w' ⟨v, rfl, Γr, Ωr, Ωo, ⟨rfl, _⟩, hst, _⟩
  exact ⟨rfl, hst⟩
set_option maxRecDepth 100000 in
theorem lifted (os : Os) (started : os.Started) (H : Type) (enc : TypeId × Value → H) :
    ReturnsInHanded {} Tryz.checked os 7 .any (fun w args => (Rows.topProgrammedSpec.pre enc Tryz.prog Tryz.f7 [] false w args ∧ laidMetH Tryz.prog laid1 w) ∧ sizedMet enc Tryz.prog Tryz.f7 (OpenSpec.ofChange Rows.topProgrammedSpec) false w args)
      (Rows.topProgrammedSpec.post enc Tryz.prog Tryz.f7 false true false false) := by
  refine returnsInHanded_of_change_and (C := Tryz.checked) (X := fun w _ => laidMetH Tryz.prog laid1 w) (fun _ _ _ hh h => h.of_heap hh) own started (by kernel_rfl) Tryz.func7
    (ChangeSpec.witness_shaped (enc := enc) (C := Tryz.checked) (os := os) (X := fun w _ => laidMetH Tryz.prog laid1 w) false (World.doorLaid Tryz.prog 400 os) #[.slice none 0 0, .int .i64 0, .int .u8 0] 8 rfl (World.shaped_of_RefB (by kernel_rfl) (by kernel_rfl)) (by kernel_rfl) (by kernel_rfl) (by kernel_rfl) (door_met os _)) ?_
  intro W base args ds gs before hval0 hW _ _ hL _
  have hval : ∀ (j : Nat) t v, Tryz.f7.params[j]? = some t → args[j]? = some v → Value.okWide Tryz.prog W .any base t v := hval0
  have hW' := hW
  obtain ⟨p, q, hA0, hV, rfl, hfz, hnd⟩ := hW
  have hA : DataW.TrodAll enc Tryz.prog W 0 (fun _ => true) true Tryz.f7.params.toList args.toList ds p := hA0
  rw [Tryz.params7] at hA hval
  obtain ⟨v0, vs0, d0, ds0, p0, q0, hargs, rfl, rfl, h0, r0⟩ := trodAll_cons hA
  obtain ⟨v1, vs1, d1, ds1, p1, q1, rfl, rfl, rfl, h1, r1⟩ := trodAll_cons r0
  obtain ⟨v2, vs2, d2, ds2, p2, q2, rfl, rfl, rfl, h2, r2⟩ := trodAll_cons r1
  obtain ⟨rfl, rfl, rfl⟩ := trodAll_nil r2
  obtain rfl : args = #[v0, v1, v2] := by cases args; simp_all
  obtain ⟨rfl, rfl⟩ := trodVars_none hV
  obtain ⟨a0, g0, o0⟩ := Lift.Rd.ofSlice Lift.rd22 rfl Tryz.underlying22 (hval 0 22 v0 rfl rfl) h0
  obtain ⟨a1, rfl, rfl, rfl, o1⟩ := open_int Tryz.underlying2 (hval 1 2 v1 rfl rfl) h1
  obtain ⟨a2, rfl, rfl, rfl, o2⟩ := open_int Tryz.underlying5 (hval 2 5 v2 rfl rfl) h2
  clear hA0 hval0
  simp only [List.append_nil] at hW'
  refine (walk a0 a1 a2 o0 o1 o2 v0 W g0 hL).mono fun e W' ⟨he, hg⟩ => ?_
  subst he
  have hb := Lift.below_of_step hg
  have hlt := fun x hx => hW'.lt x hx
  exact ⟨_, rfl, Lift.post_read hW' hb (fun _ _ _ => (trodAll_cons_mk (shut_bool Tryz.underlying4 _) trodAll_mk0)) (fun sp hsp => (trodAll_cons_mk (WideElems.Trod_stays laidOut (by kernel_rfl) (of_decide_eq_true (by kernel_rfl)) h0 (fun x hx => hb.same (hlt x (by simp [hx]))) (fun x hx => hsp x (by simp [hx]))) (trodAll_cons_mk (shut_int Tryz.underlying2 o1) (trodAll_cons_mk (shut_int Tryz.underlying5 o2) trodAll_mk0)))) (fun _ _ => rfl) (by simp)
    (ok_one (by kernel_rfl) rfl (okWide_bool_mk Tryz.underlying4 _))⟩
theorem over : Rows.TopProgrammedSaid :=
  OpenClaim.holds_of_wide 7 Tryz.f7 rfl rfl rfl rfl rfl rfl rfl ⟨rfl, rfl, rfl, rfl, rfl⟩ rfl rfl rfl rfl rfl (by kernel_rfl) Tryz.func7 (by kernel_rfl)
    (of_decide_eq_true (by kernel_rfl)) (by unfold Func.isWrapper; first | (rw [if_pos (by decide +kernel)]; kernel_rfl) | (rw [if_neg (by decide +kernel)]; exact ⟨rfl, rfl⟩))
    (fun os started H enc _ => lifted os started H enc)
theorem proved : Rows.TopProgrammedCardSaid :=
  Claim7.holds_tied_plain_at .later [] [.widerDeep] true (true, "55421d4de6f339a4696a7145ed6966bdfd7acf76dc66826c46d9ab237bc13f55") false
    over (fun _ h => by cases h) (by kernel_rfl) (fun _ h => by cases h) topProgrammed_row_tie rfl ⟨rfl, rfl⟩ (by kernel_rfl) rfl
    (fun f fn hf hfn => by
      obtain rfl : f = 7 := Option.some.inj ((show Tryz.prog.funcNamed "baseboard/baseboardtop.TopProgrammed" = some 7 by kernel_rfl).symm.trans hf) |>.symm
      obtain rfl : fn = Tryz.f7 := (Option.some.inj (Tryz.func7.symm.trans hfn)).symm
      exact ⟨by kernel_rfl, fun j t ht => by
        rw [Tryz.params7] at ht
        have hm : t ∈ [22, 2, 5] := by simpa using Array.mem_of_getElem? ht
        have hall : ([22, 2, 5].all fun u => !Tryz.prog.wantsStandIn u) = true := by kernel_rfl
        exact (show Tryz.prog.wantsStandIn t = false by simpa using List.all_eq_true.1 hall t hm)⟩)
    (by kernel_rfl)
#print axioms proved
end Go.Proofs.YtahlmfpllhmjoaaGreatDoor.topProgrammed
