/- The plain law of RepositoryRoom. uses: base lists ev each dice dicebytes repo
-/
import Derived.Test.YtmhmkgijjgkbcaaRepo
set_option linter.unusedVariables false
set_option linter.unusedSimpArgs false
namespace Lift
open Go
theorem law11_RepositoryRoom_true (a0 : Int) (a1 : List Int) (o0 : okI .i64 a0) (o1 : okL (okI .i64) a1) : ∃ fuel, law11_RepositoryRoom fuel a0 a1 = some true := by
  refine ⟨10000, Ev.isTrue ?_⟩
  unfold law11_RepositoryRoom
  refine Ev.dec (fun _ => Ev.to law11_awake_eq (Ev.ret rfl)) (fun hl => ?_)
  have m1 := Int.emod_nonneg a0 (show (900 : Int) ≠ 0 by decide)
  have m2 := Int.emod_lt_of_pos a0 (show (0 : Int) < 900 by decide)
  refine Ev.to (Mod_eq 10000 (by omega) (by omega)) (Ev.letP ?_)
  rw [wr (by omega)]
  refine Ev.to (New_ok 10000 (by omega)) ?_
  refine Ev.join (fun s => s = false) (fun s hs => Ev.iteF hs ?_) (fun j hj => Ev.iteF rfl (hj _ rfl))
  refine Ev.loop (fun m (s : Int × Int × Int × Option repository_Repository) => ∃ r, s.2.2.2 = some r ∧ RR r ∧ r.capacity = 1 + a0 % 900 ∧ s.1 = rfree r ∧ s.2.1 = (r.records.length : Int) ∧ ∃ i : Nat, s.2.2.1 = (i : Int) ∧ i ≤ a1.length ∧ m = a1.length - i)
    (fun m s hs self hself => ?_) (n := a1.length) (by omega) ⟨rnew _, rfl, rnew_RR (by omega), rfl, by simp [rfree, rnew, rtot], rfl, 0, rfl, by omega, by omega⟩
  obtain ⟨r, e1, hr, hc, e2, e3, i, e4, hi, hm⟩ := hs
  have hcap := hr.cap
  rw [e4]
  by_cases hil : i < a1.length
  rotate_left
  · refine Ev.decF (by omega) (Ev.to e1 (Ev.to (Reserve_eq hr.num) (Ev.to Clear_eq ?_)))
    have hh : rholds (rres r) (rres r).number = true := by simp [rholds, rres]
    rw [hh, if_neg (by simp)]
    refine Ev.beqT rfl (Ev.to (Free_eq hr.res.clear (by omega)) (Ev.beqT ?_ (Ev.to (IDs_eq (by simp) (by omega)) (Ev.beqT rfl (Ev.to law11_awake_eq (Ev.ret rfl))))))
    simp [rfree, rtot, rres, hc]
  have hx : idx a1 (i : Int) = some a1[i] := by rw [idx_nat]; simp [hil]
  have p1 := Int.emod_nonneg a1[i] (show (162 : Int) ≠ 0 by decide)
  have p2 := Int.emod_lt_of_pos a1[i] (show (0 : Int) < 162 by decide)
  refine Ev.decT (by omega) (Ev.to hx (Ev.to (Mod_eq 10000 (by omega) (by omega)) (Ev.to hx (Ev.to (Mod_eq 10000 (by omega) (by omega)) ?_))))
  refine Ev.join (fun k => 0 ≤ k ∧ k ≤ 161) (fun k hk => ?_) (fun j hj => Ev.bne (fun _ => hj _ ?_) (fun _ => hj _ ⟨p1, by omega⟩))
  rotate_left
  · rw [Int.tmod_eq_emod_of_nonneg p1]; omega
  obtain ⟨k, rfl⟩ := Int.eq_ofNat_of_zero_le hk.1
  have hlen : (List.replicate k (0 : Int)).length = k := List.length_replicate
  refine Ev.to (a := List.replicate k 0) (by simp only [mk]; rw [if_pos (by omega)]; rfl) (Ev.to e1 ?_)
  have ea := Add_eq (fuel := 10000) hr (b := List.replicate k 0) (by rw [hlen]; omega) (by omega)
  rw [hlen] at ea
  refine Ev.to ea ?_
  -- the answer that is wanted
  let w : Int := if k = 0 ∨ 160 < k then 1 else if r.records.length = 64 then 3 else if rfree r < (k : Int) then 9 else 0
  refine Ev.join (fun s => s = decide (k = 0 ∨ 160 < k)) (fun s hs => ?_) (fun j hj => Ev.beq (fun h => hj _ (by simp; omega)) (fun h => Ev.letP (hj _ (by rw [decide_eq_decide]; omega))))
  refine Ev.join (fun s => s = w) (fun s5 hs5 => ?_) (fun j hj => ?_)
  rotate_left
  · subst hs
    by_cases h1 : k = 0 ∨ 160 < k
    · exact Ev.decT h1 (hj _ (by simp only [w]; rw [if_pos h1]))
    refine Ev.decF h1 (Ev.letP (Ev.beq (fun h => hj _ ?_) (fun h => Ev.letP (Ev.dec (fun h2 => hj _ ?_) (fun h2 => hj _ ?_)))))
    · simp only [w]; rw [if_neg h1, if_pos (by omega)]
    · simp only [w]; rw [if_neg h1, if_neg (by omega), if_pos (by omega)]
    · simp only [w]; rw [if_neg h1, if_neg (by omega), if_neg (by omega)]
  subst hs5
  -- what the repository is behind it
  obtain ⟨r', hr', hres, hc', hw⟩ : ∃ r', RR r' ∧ (if k = 0 ∨ 160 < k then ((0 : Int), (1 : Int), r) else if r.records.length = 64 then (0, 3, r) else if rfree r < (k : Int) then (0, 9, r) else (rid r, 0, radd r (List.replicate k 0))).2.2 = r' ∧ r'.capacity = r.capacity ∧
      ((w = 0 ∧ rfree r' = rfree r - k ∧ r'.records.length = r.records.length + 1) ∨ (w ≠ 0 ∧ rfree r' = rfree r ∧ r'.records.length = r.records.length)) := by
    by_cases h1 : k = 0 ∨ 160 < k
    · exact ⟨r, hr, by rw [if_pos h1], rfl, .inr ⟨by simp only [w]; rw [if_pos h1]; decide, rfl, rfl⟩⟩
    by_cases h2 : r.records.length = 64
    · exact ⟨r, hr, by rw [if_neg h1, if_pos h2], rfl, .inr ⟨by simp only [w]; rw [if_neg h1, if_pos h2]; decide, rfl, rfl⟩⟩
    by_cases h3 : rfree r < (k : Int)
    · exact ⟨r, hr, by rw [if_neg h1, if_neg h2, if_pos h3], rfl, .inr ⟨by simp only [w]; rw [if_neg h1, if_neg h2, if_pos h3]; decide, rfl, rfl⟩⟩
    · refine ⟨radd r (List.replicate k 0), hr.add (by rw [hlen]; exact h1) h2 (by rw [hlen]; exact h3), by rw [if_neg h1, if_neg h2, if_neg h3], rfl, .inl ⟨by simp only [w]; rw [if_neg h1, if_neg h2, if_neg h3], ?_, by simp [radd]⟩⟩
      simp only [rfree, radd, rtot_append, rtot, hlen]; omega
  have hcode : (if k = 0 ∨ 160 < k then ((0 : Int), (1 : Int), r) else if r.records.length = 64 then (0, 3, r) else if rfree r < (k : Int) then (0, 9, r) else (rid r, 0, radd r (List.replicate k 0))).2.1 = w := by
    simp only [w]
    split
    · rfl
    · split
      · rfl
      · split <;> rfl
  rw [hcode, hres]
  refine Ev.bneF rfl ?_
  refine Ev.join (fun s => s.1 = rfree r' ∧ s.2 = (r'.records.length : Int)) (fun s6 hs6 => ?_) (fun j hj => Ev.beq (fun h => Ev.letP (Ev.letP (hj _ ?_))) (fun h => hj _ ?_))
  · refine Ev.to (Free_eq hr' (by omega)) ?_
    refine Ev.join (fun s => s = false) (fun s hs => Ev.iteF hs (Ev.letP ?_)) (fun j hj => Ev.bneF hs6.1.symm (Ev.to (IDs_eq hr'.le (by omega)) (hj _ (by simp [hs6.2]))))
    rw [wi i (by omega)]
    exact hself (a1.length - (i + 1)) _ (by omega) ⟨r', rfl, hr', by rw [hc', hc], hs6.1, hs6.2, i + 1, by simp, by omega, rfl⟩
  · rcases hw with ⟨_, h2, h3⟩ | ⟨h1, _⟩
    · have := hr.t; have := hr.le
      simp only [e2, e3]
      rw [h2, h3, wr (by unfold rfree; omega), wr (by omega)]
      exact ⟨rfl, by omega⟩
    · exact absurd h h1
  · rcases hw with ⟨h1, _⟩ | ⟨_, h2, h3⟩
    · exact absurd h1 h
    · exact ⟨by simp only [e2, h2], by simp only [e3, h3]⟩
end Lift
