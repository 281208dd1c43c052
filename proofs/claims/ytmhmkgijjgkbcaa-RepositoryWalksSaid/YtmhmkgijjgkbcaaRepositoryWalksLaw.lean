/- The plain law of RepositoryWalks. uses: base lists ev each dice dicebytes repo repomade
-/
import Derived.Test.YtmhmkgijjgkbcaaRepomade
set_option linter.unusedVariables false
set_option linter.unusedSimpArgs false
namespace Lift
open Go
theorem law11_RepositoryWalks_true (a0 a1 : List Int) (o0 : okL (okI .i64) a0) (o1 : okL (okI .i64) a1) : ∃ fuel, law11_RepositoryWalks fuel a0 a1 = some true := by
  refine ⟨10000, Ev.isTrue ?_⟩
  unfold law11_RepositoryWalks
  refine Ev.to (Light_eq _ _) ?_
  refine Ev.join (fun s => s = false → a0.length ≤ 600 ∧ a1.length ≤ 10) (fun s hs => Ev.ite (fun _ => Ev.to law11_awake_eq (Ev.ret rfl)) (fun e => ?_)) (fun j hj => Ev.not (Ev.dec (fun h1 => hj _ (fun e => ?_)) (fun _ => hj _ (fun e => by cases e))))
  rotate_left
  · have : ¬ (a1.length : Int) > 10 := by simpa using e
    omega
  obtain ⟨hl, hg⟩ := hs e
  refine Ev.bind (made_ok (by omega)) (fun p hp => ?_)
  obtain ⟨r, e1, e2, hm⟩ := hp
  have hn2 := hm.n2
  refine Ev.not (Ev.iteT e2 ?_)
  refine Ev.loop (fun m (s : List (List Int) × Int × Option repository_Repository) => ∃ r, s.2.2 = some r ∧ RR r ∧ r.records.map (·.bytes) = s.1 ∧ r.records.length ≤ 8 ∧ ∃ i : Nat, s.2.1 = (i : Int) ∧ i ≤ a1.length ∧ m = a1.length - i)
    (fun m s hs self hself => ?_) (n := a1.length) (by omega) ⟨r, e1, hm.rr, hm.bs, hm.n2, 0, rfl, by omega, by omega⟩
  obtain ⟨r, e1, hr, hbs, hn, i, e2, hi, hmm⟩ := hs
  have hal : s.1.length = r.records.length := by rw [← hbs]; simp
  rw [e2]
  refine Ev.join (fun b => (b = true → i < a1.length ∧ 0 < s.1.length)) (fun b hb => Ev.ite (fun hbt => ?_) (fun _ => ?_)) (fun j hj => Ev.dec (fun h => hj _ (fun h2 => ?_)) (fun _ => hj _ (fun e => by cases e)))
  rotate_right
  · have : (s.1.length : Int) > 0 := by simpa using h2
    omega
  · -- one record goes
    obtain ⟨hil, hsl⟩ := hb hbt
    have hx : idx a1 (i : Int) = some a1[i] := by rw [idx_nat]; simp [hil]
    have q1 := Int.emod_nonneg a1[i] (show (s.1.length : Int) ≠ 0 by omega)
    have q2 := Int.emod_lt_of_pos a1[i] (show (0 : Int) < (s.1.length : Int) by omega)
    refine Ev.to hx (Ev.to (Mod_eq 10000 (by omega) (by omega)) (Ev.to e1 (Ev.to (IDs_eq hr.le (by omega)) ?_)))
    obtain ⟨k, hk⟩ := Int.eq_ofNat_of_zero_le q1
    simp only [hk]
    have hkl : k < r.records.length := by omega
    obtain ⟨x, hx⟩ : ∃ x, r.records[k]? = some x := ⟨_, List.getElem?_eq_getElem hkl⟩
    refine Ev.join (fun q => q.1 = false ∧ q.2 = some (rdel (rres r) k)) (fun q hq => ?_) (fun j hj => Ev.letP (Ev.iteF (by simp [hal]) ?_))
    · refine Ev.iteF hq.1 ?_
      have es1 : sub s.1 0 (k : Int) = some (s.1.take k) := by have := sub_ok (l := s.1) (a := 0) (b := k) (by omega) (by omega); simpa using this
      have es2 : sub s.1 (IntKind.i64.wrap ((k : Int) + 1)) (s.1.length : Int) = some (s.1.drop (k + 1)) := by
        rw [wi k (by omega)]
        have := sub_ok (l := s.1) (a := k + 1) (b := s.1.length) (by omega) (by omega)
        rw [show ((k : Int) + 1) = ((k + 1 : Nat) : Int) by omega, this, List.take_of_length_le (by simp)]
      refine Ev.to es1 (Ev.to (app_ok (by simp; omega)) (Ev.to es2 (Ev.to (app_ok (by simp; omega)) (Ev.letP ?_))))
      rw [wi i (by omega)]
      refine hself (a1.length - (i + 1)) _ (by omega) ⟨rdel (rres r) k, hq.2, hr.res.del, ?_, ?_, i + 1, by simp, by omega, rfl⟩
      · simp [rdel, rres, ← hbs]
      · simp [rdel, rres]; omega
    · refine Ev.to (Reserve_eq hr.num) (Ev.to (a := x.id) (by rw [idx_nat]; simp [hx]) (Ev.to (Delete_eq hr.res (by omega)) ?_))
      have hhold : rholds (rres r) (rres r).number = true := by simp [rholds, rres]
      have hf : rfind (rres r).records x.id = (k : Int) := rfind_at hr.nd hx
      rw [hhold, hf, if_neg (by simp), if_neg (by omega)]
      exact hj _ ⟨rfl, rfl⟩
  · -- the walk along next
    refine Ev.to e1 (Ev.to (IDs_eq hr.le (by omega)) (Ev.bneF (by simp [hal]) ?_))
    have hat : ∀ k x, r.records[k]? = some x → rget r (if k = 0 then 0 else x.id) = (x.bytes, ((r.records[k + 1]?).map (·.id)).getD 0, 0) := by
      intro k x hx
      have h1 := (hr.rg x (List.mem_of_getElem? hx)).1
      unfold rget rlook
      by_cases hk : k = 0
      · subst hk; simp [hx]
      · have h2 := rfind_at hr.nd hx
        have hid : ¬ x.id = 0 := by omega
        simp only [hk, if_false, hid, h2, Int.toNat_natCast, hx]
        rw [if_neg (by omega)]; rfl
    refine Ev.loop (fun m (s5 : Int × Int) => ∃ k : Nat, s5.2 = (k : Int) ∧ k ≤ r.records.length ∧ m = r.records.length - k ∧ (k < r.records.length → s5.1 = if k = 0 then 0 else ((r.records[k]?).map (·.id)).getD 0)) (fun m s5 h5 self5 hself5 => ?_) (n := r.records.length) (by omega) ⟨0, rfl, by omega, by omega, fun _ => rfl⟩
    obtain ⟨k, h1, h2, h3, h4⟩ := h5
    rw [h1]
    by_cases hk : k < r.records.length
    · obtain ⟨x, hx⟩ : ∃ x, r.records[k]? = some x := ⟨_, List.getElem?_eq_getElem hk⟩
      refine Ev.decT (by omega) ?_
      refine Ev.loop (fun m (s6 : Int) => ∃ j : Nat, s6 = (j : Int) ∧ j ≤ k ∧ m = k - j) (fun m s6 h6 self6 hself6 => ?_) (n := k) (by omega) ⟨0, rfl, by omega, by omega⟩
      obtain ⟨j, rfl, hj1, hj2⟩ := h6
      by_cases hjk : j < k
      · obtain ⟨y, hy⟩ : ∃ y, r.records[j]? = some y := ⟨_, List.getElem?_eq_getElem (by omega)⟩
        refine Ev.decT (by omega) (Ev.to (a := y.id) (by rw [idx_nat]; simp [hy]) (Ev.to (a := x.id) (by rw [idx_nat]; simp [hx]) (Ev.beqF (fun he => ?_) (Ev.letP ?_))))
        · have f1 := rfind_at hr.nd hy
          have f2 := rfind_at hr.nd hx
          rw [he] at f1; omega
        · rw [wi j (by omega)]
          exact hself6 (k - (j + 1)) _ (by omega) ⟨j + 1, by simp, by omega, rfl⟩
      · refine Ev.decF (by omega) (Ev.to (Get_eq hr (by omega)) ?_)
        have es : s5.1 = if k = 0 then 0 else x.id := by rw [h4 hk, hx]; rfl
        rw [es, hat k x hx]
        have hxb : idx s.1 (k : Int) = some x.bytes := by rw [idx_nat, ← hbs]; simp [hx]
        have hxl := (hr.rg x (List.mem_of_getElem? hx)).2.2.2
        have hw := wi k (by omega)
        refine Ev.join (fun b => b = false) (fun b hb => Ev.iteF hb (Ev.letP ?_)) (fun j hj => Ev.bneF rfl (Ev.to hxb (Ev.to (Same_eq (a := x.bytes) (b := x.bytes) (by omega) (by omega)) (Ev.iteF (by simp) (hj _ ?_)))))
        · rw [hw]
          refine hself5 (r.records.length - (k + 1)) _ (by omega) ⟨k + 1, by simp, by omega, rfl, fun hk2 => ?_⟩
          rw [if_neg (by omega)]
        · rw [hw, hal]
          by_cases hk2 : k + 1 < r.records.length
          · have hy : r.records[k + 1]? = some r.records[k + 1] := by simp [hk2]
            have h7 := (hr.rg _ (List.getElem_mem hk2)).1
            rw [hy]
            have a1 : ((r.records[k + 1].id == 0) : Bool) = false := by simp; omega
            have a2 : (((k : Int) + 1 == (r.records.length : Int)) : Bool) = false := by simp; omega
            simp only [Option.map_some, Option.getD_some, a1, a2]; rfl
          · rw [List.getElem?_eq_none (by omega)]
            have a2 : (((k : Int) + 1 == (r.records.length : Int)) : Bool) = true := by simp; omega
            simp only [Option.map_none, Option.getD_none, a2]; rfl
    · refine Ev.decF (by omega) (Ev.to (Get_eq hr (by omega)) ?_)
      refine Ev.iteT ?_ (Ev.to law11_awake_eq (Ev.ret rfl))
      rw [hal]
      by_cases hz : r.records.length = 0
      · have hnil : r.records = [] := List.eq_nil_of_length_eq_zero hz
        simp [rget, rlook, hnil]
      · have := hat 0 _ (List.getElem?_eq_getElem (show 0 < r.records.length by omega))
        rw [if_pos rfl] at this
        rw [this]
        simp; omega
end Lift
