/- Repositories that are made for the laws. No program in sight. -/
import Derived.Test.YtmhmkgijjgkbcaaRepo
set_option linter.unusedVariables false
set_option linter.unusedSimpArgs false
namespace Lift
open Go

/-- What is known of a made repository. -/
structure Made (r : repository_Repository) (all : List (List Int)) : Prop where
  rr : RR r
  bs : r.records.map (·.bytes) = all
  n1 : 1 ≤ r.records.length
  n2 : r.records.length ≤ 8
  cp : r.capacity = 2000
  sm : ∀ x ∈ r.records, x.bytes.length ≤ 31
theorem rtot_small {l : List repository_record} (h : ∀ x ∈ l, x.bytes.length ≤ 31) : rtot l ≤ 31 * l.length := by
  induction l with
  | nil => simp [rtot]
  | cons x l ih =>
    have h1 := ih (fun y hy => h y (by simp [hy]))
    have h2 := h x (by simp)
    simp only [rtot, List.length_cons]; omega
theorem made_ok {l : List Int} (h : l.length ≤ 5000) : Ev (law11_made 10000 l) (fun p => ∃ r, p.1 = some r ∧ p.2.2 = true ∧ Made r p.2.1) := by
  unfold law11_made
  refine Ev.to (New_ok 10000 (n := 2000) (by omega)) ?_
  refine Ev.join (fun s => s = false) (fun s hs => Ev.iteF hs ?_) (fun j hj => Ev.iteF rfl (hj _ rfl))
  obtain ⟨n, d, en, n1, n2, hd⟩ := Next_ok 10000 (roll_ok h) (m := 8) (by omega) (by omega)
  refine Ev.to (Roll_eq _ _) (Ev.to en (Ev.letP ?_))
  rw [wr (by omega)]
  refine Ev.loop (fun m (s : Int × made_Dice × List (List Int) × Option repository_Repository) => s.1 = (m : Int) ∧ DOk s.2.1 ∧ ∃ r, s.2.2.2 = some r ∧ RR r ∧ r.records.map (·.bytes) = s.2.2.1 ∧ (r.records.length : Int) + m = 1 + n ∧ r.capacity = 2000 ∧ ∀ x ∈ r.records, x.bytes.length ≤ 31)
    (fun m s hs self hself => ?_) (n := (1 + n).toNat) (by omega) ⟨by simp only; omega, hd, rnew 2000, rfl, rnew_RR (by omega), rfl, by simp [rnew]; omega, rfl, fun x hx => (by cases hx)⟩
  obtain ⟨h1, h2, r, h3, h4, h5, h6, h7, h8⟩ := hs
  rw [h1]
  by_cases hm : m = 0
  · subst hm
    exact Ev.decF (by omega) (Ev.ret ⟨r, h3, rfl, h4, h5, by omega, by omega, h7, h8⟩)
  refine Ev.decT (by omega) ?_
  obtain ⟨b, d2, eb, b1, b2, hd2⟩ := Bytes_ok (fuel := 10000) (by omega) h2 (n := 30) (by omega) (by omega)
  refine Ev.to eb (Ev.to (app_ok (by simp; omega)) (Ev.to h3 ?_))
  have ht := rtot_small h8
  have hln : (b ++ [IntKind.u8.wrap (m : Int)]).length = b.length + 1 := by simp
  have c1 : ¬ ((b ++ [IntKind.u8.wrap (m : Int)]).length = 0 ∨ 160 < (b ++ [IntKind.u8.wrap (m : Int)]).length) := by rw [hln]; omega
  have c2 : ¬ r.records.length = 64 := by omega
  have c3 : ¬ rfree r < ((b ++ [IntKind.u8.wrap (m : Int)]).length : Int) := by rw [hln]; unfold rfree; omega
  have ea := Add_eq (fuel := 10000) h4 (b := b ++ [IntKind.u8.wrap (m : Int)]) (by rw [hln]; omega) (by omega)
  rw [if_neg c1, if_neg c2, if_neg c3] at ea
  have hal : s.2.2.1.length ≤ 64 := by rw [← h5]; simp; omega
  refine Ev.to ea (Ev.bneF rfl (Ev.to (app_ok (by simp; omega)) (Ev.letP ?_)))
  rw [wr (by omega)]
  refine hself (m - 1) _ (by omega) ⟨by simp only; omega, hd2, radd r (b ++ [IntKind.u8.wrap (m : Int)]), rfl, h4.add c1 c2 c3, by simp [radd, h5], by simp [radd]; omega, h7, fun x hx => ?_⟩
  rcases List.mem_append.1 hx with hx | hx
  · exact h8 x hx
  · simp at hx; subst hx; simp only [hln]; omega
end Lift
