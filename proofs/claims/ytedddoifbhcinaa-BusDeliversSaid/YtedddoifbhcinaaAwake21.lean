/- The example of the chapter; faults; bounds of scripts. No program in sight. -/
import Derived.Test.YtedddoifbhcinaaBusc
import Derived.Test.YtedddoifbhcinaaDice
set_option linter.unusedVariables false
set_option linter.unusedSimpArgs false
namespace Lift
open Go
theorem awake_eq {fuel : Nat} (hf : 5000 < fuel) : law21_awake fuel = some true := by
  refine Ev.isTrue ?_
  unfold law21_awake
  have hx : ∀ x ∈ (⟨16, 32, []⟩ : Frame_).Data, byte x := by simp
  have hy : ∀ x ∈ (⟨17, 33, []⟩ : Frame_).Data, byte x := by simp
  have b0 : BOk (newB 2) := newB_ok (by omega)
  have b1 : BOk (put (newB 2) 0 (⟨16, 32, []⟩ : Frame_)).2 := put_ok b0 hx
  have b2 : BOk (put (put (newB 2) 0 (⟨16, 32, []⟩ : Frame_)).2 0 (⟨16, 32, []⟩ : Frame_)).2 := put_ok b1 hx
  have b3 : BOk (put (put (put (newB 2) 0 (⟨16, 32, []⟩ : Frame_)).2 0 (⟨16, 32, []⟩ : Frame_)).2 1 (⟨17, 33, []⟩ : Frame_)).2 := put_ok b2 hy
  have hz : byte Fault_.z.Mask := ⟨by decide, by decide⟩
  generalize hM : (put (put (put (newB 2) 0 (⟨16, 32, []⟩ : Frame_)).2 0 (⟨16, 32, []⟩ : Frame_)).2 1 (⟨17, 33, []⟩ : Frame_)).2 = M at b3
  have b4 : BOk (stepM (start M) Fault_.z) := stepM_ok (start_ok b3)
  refine Ev.to (New_eq fuel 2) ?_
  refine Ev.join (fun s => s = false) (fun s hs => ?_) (fun j hj => ?_)
  · subst hs
    refine Ev.iteF rfl (Ev.to (a := ⟨newB 2⟩) rfl ?_)
    refine Ev.to (Submit_eq b0 hx hf) (Ev.to (Submit_eq b1 hx hf) (Ev.to (Submit_eq b2 hy hf) ?_))
    simp only [hM]
    refine Ev.to (Step_eq b3 hz hf) ?_
    have k0 : busy M = true := by subst hM; decide +kernel
    have k1 : busy (stepM (start M) Fault_.z) = true := by subst hM; decide +kernel
    simp only [k0, if_true]
    refine Ev.to (Step_eq b4 hz hf) ?_
    simp only [k1, if_true]
    have f1 : ((put (newB 2) 0 (⟨16, 32, []⟩ : Frame_)).1 == 0) = true := by decide +kernel
    have f2 : ((put (put (newB 2) 0 (⟨16, 32, []⟩ : Frame_)).2 0 (⟨16, 32, []⟩ : Frame_)).1 == 0) = true := by decide +kernel
    have f3 : ((put (put (put (newB 2) 0 (⟨16, 32, []⟩ : Frame_)).2 0 (⟨16, 32, []⟩ : Frame_)).2 1 (⟨17, 33, []⟩ : Frame_)).1 == 0) = true := by decide +kernel
    have f4 : (stepD (start M) Fault_.z).Masters = [0] := by subst hM; decide +kernel
    have f5 : (stepD (start (stepM (start M) Fault_.z)) Fault_.z).Masters = [1] := by subst hM; decide +kernel
    have f6 : (stepD (start M) Fault_.z).OK = true := by subst hM; decide +kernel
    have f7 : (stepD (start (stepM (start M) Fault_.z)) Fault_.z).OK = true := by subst hM; decide +kernel
    have f8 : pend (stepM (start (stepM (start M) Fault_.z)) Fault_.z) 0 = 1 := by subst hM; decide +kernel
    refine Ev.iteT f1 (Ev.iteT f2 (Ev.iteT f3 (Ev.iteT rfl (Ev.iteT rfl ?_))))
    simp only [f4, f5, f6, f7]
    refine Ev.iteT rfl (Ev.to (a := 0) rfl (Ev.iteT rfl (Ev.iteT rfl (Ev.to (a := 1) rfl (Ev.iteT rfl (Ev.iteT rfl (Ev.iteT rfl ?_)))))))
    refine Ev.to (Pending_eq fuel _ 0) (Ev.letP (Ev.ret ?_))
    rw [f8]; rfl
  · exact Ev.iteF rfl (hj _ rfl)
theorem fault_ev {fuel : Nat} (f : Fault_) : ∃ g, law21_fault fuel f = some g ∧ g.Mask = f.Mask := by
  unfold law21_fault
  cases hb : ((Int.tmod f.Index 5) != 0) with
  | false => exact ⟨f, rfl, rfl⟩
  | true =>
    simp only [iteP_true]
    rw [Mod_eq fuel (by omega) (by omega), bindP_some, letP_eq, Mod_eq fuel (by omega) (by omega), bindP_some]
    exact ⟨_, rfl, rfl⟩
theorem light_ev {fuel : Nat} (l : List law21_Do) (hf : 5000 < fuel) : Ev (law21_light fuel l) (fun b => b = true → l.length ≤ 80 ∧ ∀ o ∈ l, o.Seed.length ≤ 40) := by
  unfold law21_light
  refine Ev.dec (fun h => Ev.ret (by simp)) (fun h => ?_)
  have hl : l.length ≤ 80 := by omega
  refine Ev.loop (fun r (s : Int) => ∃ pre post, l = pre ++ post ∧ s = (pre.length : Int) ∧ r = l.length - pre.length ∧ ∀ o ∈ pre, o.Seed.length ≤ 40) (fun r s hi self hself => ?_) (n := l.length) (by omega) ⟨[], l, rfl, rfl, rfl, by simp⟩
  obtain ⟨pre, post, e1, rfl, e3, e4⟩ := hi
  cases post with
  | nil =>
    refine Ev.decF (by rw [e1]; simp) (Ev.ret (fun _ => ⟨hl, ?_⟩))
    rw [e1, List.append_nil]; exact e4
  | cons x post =>
    have hlt : pre.length < l.length := by rw [e1]; simp
    have hix : idx l (pre.length : Int) = some x := by rw [e1]; exact idx_at
    refine Ev.decT (by omega) (Ev.to hix ?_)
    refine Ev.join (fun s => s = false → x.Seed.length ≤ 40) (fun s hs => ?_) (fun j hj => ?_)
    · refine Ev.ite (fun _ => Ev.ret (by simp)) (fun h0 => Ev.letP ?_)
      rw [wi _ (by omega)]
      refine hself (l.length - (pre.length + 1)) _ (by omega) ⟨pre ++ [x], post, by rw [e1]; simp, by simp, by simp, fun o ho => ?_⟩
      rcases List.mem_append.1 ho with ho | ho
      · exact e4 o ho
      · simp only [List.mem_singleton] at ho; subst ho; exact hs h0
    · refine Ev.dec (fun h1 => hj _ (by simp)) (fun h1 => Ev.to hix (hj _ (fun _ => by omega)))
end Lift
