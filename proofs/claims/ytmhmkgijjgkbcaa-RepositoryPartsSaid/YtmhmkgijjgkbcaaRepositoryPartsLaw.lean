/- The plain law of RepositoryParts. uses: base lists ev each dice dicebytes repo repomade
-/
import Derived.Test.YtmhmkgijjgkbcaaRepomade
set_option linter.unusedVariables false
set_option linter.unusedSimpArgs false
namespace Lift
open Go
theorem rlook_at {r : repository_Repository} (h : RR r) {k : Nat} {x : repository_record} (hx : r.records[k]? = some x) : rlook r x.id = some (x.bytes, ((r.records[k + 1]?).map (·.id)).getD 0) := by
  have h1 := (h.rg x (List.mem_of_getElem? hx)).1
  have h2 := rfind_at h.nd hx
  unfold rlook
  simp only [show ¬ x.id = 0 by omega, if_false, h2, Int.toNat_natCast, hx]
  rw [if_neg (by omega)]; rfl
theorem law11_RepositoryParts_true (a0 : List Int) (a1 a2 : Int) (o0 : okL (okI .i64) a0) (o1 : okI .i64 a1) (o2 : okI .i64 a2) : ∃ fuel, law11_RepositoryParts fuel a0 a1 a2 = some true := by
  refine ⟨10000, Ev.isTrue ?_⟩
  unfold law11_RepositoryParts
  refine Ev.to (Light_eq _ _) (Ev.not (Ev.dec (fun hl => ?_) (fun _ => Ev.to law11_awake_eq (Ev.ret rfl))))
  refine Ev.bind (made_ok (by omega)) (fun p hp => ?_)
  obtain ⟨r, e1, e2, hm⟩ := hp
  have hr := hm.rr
  have hn1 := hm.n1
  have hn2 := hm.n2
  have hal : p.2.1.length = r.records.length := by rw [← hm.bs]; simp
  refine Ev.to e1 (Ev.to (IDs_eq hr.le (by omega)) ?_)
  refine Ev.join (fun s => s = false) (fun s hs => Ev.iteF hs ?_) (fun j hj => Ev.not (Ev.iteT e2 (hj _ (by rw [hal]; simp))))
  have q1 := Int.emod_nonneg a1 (show (p.2.1.length : Int) ≠ 0 by omega)
  have q2 := Int.emod_lt_of_pos a1 (show (0 : Int) < (p.2.1.length : Int) by omega)
  have q3 := Int.emod_nonneg a2 (show (12 : Int) ≠ 0 by decide)
  have q4 := Int.emod_lt_of_pos a2 (show (0 : Int) < 12 by decide)
  refine Ev.to (Mod_eq 10000 (by omega) (by omega)) (Ev.to (Mod_eq 10000 (by omega) (by omega)) (Ev.letP (Ev.to (Reserve_eq hr.num) ?_)))
  rw [wr (by omega)]
  obtain ⟨k, hk⟩ := Int.eq_ofNat_of_zero_le q1
  obtain ⟨n, hn⟩ := Int.eq_ofNat_of_zero_le (show (0 : Int) ≤ 1 + a2 % 12 by omega)
  simp only [hk, hn]
  have hkl : k < r.records.length := by omega
  have hn0 : 1 ≤ n ∧ n ≤ 12 := by omega
  obtain ⟨x, hx⟩ : ∃ x, r.records[k]? = some x := ⟨_, List.getElem?_eq_getElem hkl⟩
  have hxs := hm.sm x (List.mem_of_getElem? hx)
  have hx1 := (hr.rg x (List.mem_of_getElem? hx)).2.2.1
  have hbx : idx p.2.1 (k : Int) = some x.bytes := by rw [idx_nat, ← hm.bs]; simp [hx]
  have hix : idx (r.records.map (·.id)) (k : Int) = some x.id := by rw [idx_nat]; simp [hx]
  have hlk : rlook (rres r) x.id = some (x.bytes, ((r.records[k + 1]?).map (·.id)).getD 0) := rlook_at hr.res hx
  have hhold : rholds (rres r) (rres r).number = true := by simp [rholds, rres]
  refine Ev.loop (fun m (s : Int × List Int) => ∃ i : Nat, s.1 = (i : Int) ∧ s.2 = x.bytes.take i ∧ m = 100 - i ∧ i ≤ 60) (fun m s hs self hself => ?_) (n := 100) (by omega) ⟨0, rfl, by simp, by omega, by omega⟩
  obtain ⟨i, h1, h2, h3, h4⟩ := hs
  refine Ev.to hbx ?_
  rw [h1]
  by_cases hi : i < x.bytes.length
  rotate_left
  · refine Ev.decF (by omega) (Ev.to hix (Ev.to (Get_eq hr.res (by omega)) ?_))
    have eg : rget (rres r) x.id = (x.bytes, ((r.records[k + 1]?).map (·.id)).getD 0, 0) := by unfold rget; rw [hlk]
    rw [eg, h2, List.take_of_length_le (by omega)]
    exact Ev.beqT rfl (Ev.to hbx (Ev.to (Same_eq (a := x.bytes) (b := x.bytes) (by omega) (by omega)) (Ev.decT rfl (Ev.to hbx (Ev.to (Same_eq (a := x.bytes) (b := x.bytes) (by omega) (by omega)) (Ev.decT rfl (Ev.to law11_awake_eq (Ev.ret rfl))))))))
  refine Ev.decT (by omega) (Ev.to hix (Ev.to hbx ?_))
  rw [wr (by omega)]
  have emin : min (n : Int) ((x.bytes.length : Int) - (i : Int)) = ((min n (x.bytes.length - i) : Nat) : Int) := by omega
  rw [emin]
  have er : rread (rres r) (rres r).number x.id (i : Int) ((min n (x.bytes.length - i) : Nat) : Int) = ((x.bytes.drop i).take (min n (x.bytes.length - i)), ((r.records[k + 1]?).map (·.id)).getD 0, 0) := by
    unfold rread
    rw [hhold, hlk, if_neg (by simp)]
    simp only
    rw [if_neg (by omega)]; simp
  refine Ev.to (Read_eq hr.res (by omega)) ?_
  rw [er]
  have hlen : ((x.bytes.drop i).take (min n (x.bytes.length - i))).length = min n (x.bytes.length - i) := by simp
  refine Ev.join (fun s => s = false) (fun s hs => Ev.iteF hs ?_) (fun j hj => Ev.bneF rfl (hj _ (by rw [beq_eq_false_iff_ne]; simp only [hlen]; omega)))
  rw [h2]
  refine Ev.to (app_ok (by simp; omega)) ?_
  obtain ⟨z, hz⟩ : ∃ z, idx ((x.bytes.drop i).take (min n (x.bytes.length - i))) 0 = some z := by
    have := idx_nat ((x.bytes.drop i).take (min n (x.bytes.length - i))) 0
    exact ⟨_, this.trans (List.getElem?_eq_getElem (by rw [hlen]; omega))⟩
  refine Ev.to hz (Ev.to hz (Ev.letP (Ev.letP ?_)))
  rw [wr (by omega)]
  refine hself (100 - (i + n)) _ (by omega) ⟨i + n, by simp, ?_, by omega, by omega⟩
  simp only
  have : (x.bytes.drop i).take (min n (x.bytes.length - i)) = (x.bytes.drop i).take n := by
    rcases Nat.le_total n (x.bytes.length - i) with h | h
    · rw [Nat.min_eq_left h]
    · rw [Nat.min_eq_right h, List.take_of_length_le (l := x.bytes.drop i) (i := n) (by simp only [List.length_drop]; exact h)]
      exact List.take_of_length_le (by simp)
  rw [this, List.take_add]
end Lift
