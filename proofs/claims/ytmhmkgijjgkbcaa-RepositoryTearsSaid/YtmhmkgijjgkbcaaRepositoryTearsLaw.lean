/- The plain law of RepositoryTears. uses: base lists ev each dice dicebytes repo repomade
-/
import Derived.Test.YtmhmkgijjgkbcaaRepomade
set_option linter.unusedVariables false
set_option linter.unusedSimpArgs false
namespace Lift
open Go
theorem law11_RepositoryTears_true (a0 : List Int) (a1 a2 : Int) (o0 : okL (okI .i64) a0) (o1 : okI .i64 a1) (o2 : okI .i64 a2) : ∃ fuel, law11_RepositoryTears fuel a0 a1 a2 = some true := by
  refine ⟨10000, Ev.isTrue ?_⟩
  unfold law11_RepositoryTears
  refine Ev.to (Light_eq _ _) (Ev.not (Ev.dec (fun hl => ?_) (fun _ => Ev.to law11_awake_eq (Ev.ret rfl))))
  refine Ev.bind (made_ok (by omega)) (fun p hp => ?_)
  obtain ⟨r, e1, e2, hm⟩ := hp
  have hr := hm.rr
  have hn1 := hm.n1
  have hn2 := hm.n2
  refine Ev.to e1 (Ev.to (IDs_eq hr.le (by omega)) ?_)
  refine Ev.join (fun s => s = false) (fun s hs => Ev.iteF hs ?_) (fun j hj => Ev.not (Ev.iteT e2 (hj _ (by rw [← hm.bs]; simp))))
  refine Ev.to (Reserve_eq hr.num) (Ev.to (Read_eq hr.res (by omega)) ?_)
  have q1 := Int.emod_nonneg a1 (show (4 : Int) ≠ 0 by decide)
  have q2 := Int.emod_lt_of_pos a1 (show (0 : Int) < 4 by decide)
  have q3 := Int.emod_nonneg a2 (show (5 : Int) ≠ 0 by decide)
  have q4 := Int.emod_lt_of_pos a2 (show (0 : Int) < 5 by decide)
  refine Ev.to (Mod_eq 10000 (by omega) (by omega)) (Ev.letP ?_)
  have hx0 : r.records[0]? = some (r.records[0]'(by omega)) := by simp
  have hid0 : idx (r.records.map (·.id)) 0 = some (r.records[0]'(by omega)).id := by
    show idx (r.records.map (·.id)) ((0 : Nat) : Int) = _
    rw [idx_nat, List.getElem?_map, hx0]; rfl
  have hhold : rholds (rres r) (rres r).number = true := by simp [rholds, rres]
  refine Ev.join (fun s => s.1 = 0 ∧ RR s.2 ∧ rholds s.2 (rres r).number = false) (fun s hs => ?_) (fun j hj => ?_)
  · obtain ⟨h1, h2, h3⟩ := hs
    refine Ev.to hid0 (Ev.to (Mod_eq 10000 (by omega) (by omega)) ?_)
    rw [wr (by omega)]
    refine Ev.to (Read_eq h2 (by omega)) ?_
    have e3 : rread s.2 (rres r).number (r.records[0]'(by omega)).id (1 + a2 % 5) 0 = ([], 0, 11) := by unfold rread; rw [if_pos ⟨by omega, h3⟩]
    rw [e3]
    have e4 : (rread (rres r) (rres r).number 0 0 1).2.2 = 0 := by
      unfold rread
      rw [if_neg (by simp)]
      have hb := (hr.rg _ (List.getElem_mem (show 0 < r.records.length by omega))).2.2.1
      have : rlook (rres r) 0 = some ((r.records[0]'(by omega)).bytes, ((r.records[1]?).map (·.id)).getD 0) := by
        unfold rlook; simp [rres, hx0]
      rw [this]
      simp only
      rw [if_neg (by omega)]
    refine Ev.beqT e4 (Ev.beqT h1 (Ev.beqT rfl (Ev.beqT rfl (Ev.beqT rfl (Ev.to hid0 (Ev.to (Delete_eq h2 (by omega)) ?_))))))
    rw [h3, if_pos rfl]
    exact Ev.beqT rfl (Ev.to law11_awake_eq (Ev.ret rfl))
  · refine Ev.beq (fun h => ?_) (fun h0 => Ev.letP (Ev.beq (fun h => ?_) (fun h1 => Ev.letP (Ev.beq (fun h => ?_) (fun h2 => ?_)))))
    · have ht := rtot_small hm.sm
      have hc := hm.cp
      have c2 : ¬ (rres r).records.length = 64 := by simp only [rres]; omega
      have c3 : ¬ rfree (rres r) < (([9] : List Int).length : Int) := by simp only [rfree, rres, List.length_singleton]; omega
      have ea := Add_eq (fuel := 10000) hr.res (b := [9]) (by decide) (by omega)
      rw [if_neg (by decide), if_neg c2, if_neg c3] at ea
      exact Ev.to ea (hj _ ⟨rfl, hr.res.add (by decide) c2 c3, by simp [rholds, radd]⟩)
    · have el : IntKind.i64.wrap (((r.records.map (·.id)).length : Int) - 1) = ((r.records.length - 1 : Nat) : Int) := by
        simp only [List.length_map]; rw [wr (by omega)]; omega
      rw [el]
      have hx : r.records[r.records.length - 1]? = some (r.records[r.records.length - 1]'(by omega)) := by simp
      refine Ev.to (a := (r.records[r.records.length - 1]'(by omega)).id) (by rw [idx_nat, List.getElem?_map, hx]; rfl) (Ev.to (Delete_eq hr.res (by omega)) ?_)
      have hf : rfind (rres r).records (r.records[r.records.length - 1]'(by omega)).id = ((r.records.length - 1 : Nat) : Int) := rfind_at hr.nd hx
      rw [hhold, hf, if_neg (by simp), if_neg (by omega)]
      exact hj _ ⟨rfl, hr.res.del, by simp [rholds, rdel]⟩
    · refine Ev.to Clear_eq ?_
      rw [hhold, if_neg (by simp)]
      exact hj _ ⟨rfl, hr.res.clear, by simp [rholds]⟩
    · refine Ev.to (Reserve_eq hr.res.num) ?_
      have hne : (rres (rres r)).number ≠ (rres r).number := by simp only [rres]; omega
      refine Ev.beqF hne (hj _ ⟨rfl, hr.res.res, ?_⟩)
      have : ((rres r).number == (rres (rres r)).number) = false := by simpa using Ne.symm hne
      unfold rholds
      rw [this]; simp
end Lift
