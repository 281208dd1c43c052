/- The plain law of RepositoryPlays. uses: base lists ev each dice dicebytes repo repo2
-/
import Derived.Test.YtmhmkgijjgkbcaaRepo2
set_option linter.unusedVariables false
set_option linter.unusedSimpArgs false
namespace Lift
open Go
theorem okI_u16 {n : Int} : okI .u16 n ↔ 0 ≤ n ∧ n ≤ 65535 := by simp [okI, Lit.wf, IntKind.min, IntKind.max, IntKind.bits, IntKind.signed]
theorem l11light_ok {l : List law11_Do} (hl : l.length ≤ maxLen) : ∃ b, law11_light 10000 l = some b ∧ (b = true → l.length ≤ 100 ∧ ∀ x ∈ l, x.Data.length ≤ 300) := by
  unfold law11_light
  by_cases h : (l.length : Int) > 100
  · exact ⟨false, by rw [decide_eq_true h, iteP_true], fun h => by cases h⟩
  · rw [decide_eq_false h, iteP_false]
    have key : Ev (loopP (fun k1 (s1 : Int) => iteP (decide (s1 < (l.length : Int))) (bindP (idx l s1) fun x1 => iteP (decide ((x1.Data.length : Int) > 300)) (some false) (letP (IntKind.i64.wrap (s1 + 1)) fun x2 => k1 (x2))) (some true)) 10000 0) (fun b => b = true → ∀ x ∈ l, x.Data.length ≤ 300) := by
      refine Ev.loop (fun m (s : Int) => ∃ i : Nat, s = (i : Int) ∧ i ≤ l.length ∧ m = l.length - i ∧ ∀ x ∈ l.take i, x.Data.length ≤ 300) (fun m s hs self hself => ?_) (n := l.length) (by omega) ⟨0, rfl, by omega, by omega, by simp⟩
      obtain ⟨i, rfl, hi, hm, ha⟩ := hs
      by_cases hil : i < l.length
      · have hx : l[i]? = some l[i] := by simp [hil]
        refine Ev.decT (by omega) (Ev.to (by rw [idx_nat, hx]) (Ev.dec (fun _ => Ev.ret (fun h => by cases h)) (fun hd => Ev.letP ?_)))
        rw [wi i (by omega)]
        refine hself (l.length - (i + 1)) _ (by omega) ⟨i + 1, by simp, by omega, rfl, fun x hx2 => ?_⟩
        rw [List.take_add_one, hx] at hx2
        rcases List.mem_append.1 hx2 with hx2 | hx2
        · exact ha x hx2
        · simp at hx2; subst hx2; omega
      · refine Ev.decF (by omega) (Ev.ret (fun _ x hx => ha x (by rw [List.take_of_length_le (by omega)]; exact hx)))
    obtain ⟨b, e, hb⟩ := key
    exact ⟨b, e, fun h2 => ⟨by omega, hb h2⟩⟩
theorem law11_RepositoryPlays_true (a0 : Int) (a1 : List law11_Do) (o0 : okI .i64 a0) (o1 : okL law11_Do.ok a1) : ∃ fuel, law11_RepositoryPlays fuel a0 a1 = some true := by
  refine ⟨10000, Ev.isTrue ?_⟩
  unfold law11_RepositoryPlays
  obtain ⟨b, eb, hb⟩ := l11light_ok o1.1
  refine Ev.to eb (Ev.not (Ev.ite (fun hbt => ?_) (fun _ => Ev.to law11_awake_eq (Ev.ret rfl))))
  obtain ⟨hlen, hdat⟩ := hb hbt
  refine Ev.to (New_eq _ _) (Ev.to (r11New_eq _ _) ?_)
  refine Ev.join (fun s => s = false) (fun s hs => Ev.iteF hs ?_) (fun j hj => ?_)
  rotate_left
  · by_cases h : a0 < 1 ∨ 10240 < a0
    · rw [if_pos h, if_pos h]; exact Ev.bneF rfl (hj _ rfl)
    · rw [if_neg h, if_neg h]; exact Ev.bneF rfl (hj _ rfl)
  have q1 := Int.emod_nonneg a0 (show (600 : Int) ≠ 0 by decide)
  have q2 := Int.emod_lt_of_pos a0 (show (0 : Int) < 600 by decide)
  refine Ev.to (Mod_eq 10000 (by omega) (by omega)) (Ev.letP ?_)
  rw [wr (by omega)]
  refine Ev.to (New_ok 10000 (by omega)) (Ev.to (a := (some (toRef (rnew (1 + a0 % 600))), 0)) (by rw [r11New_eq, if_neg (by omega)]) ?_)
  refine Ev.join (fun s => s = false) (fun s hs => Ev.iteF hs ?_) (fun j hj => Ev.iteF rfl (hj _ rfl))
  refine Ev.loop (fun m (s : Int × Int × Option repository_Repository × Option ref11_Repository) => 0 ≤ s.1 ∧ s.1 ≤ 65535 ∧ ∃ r, s.2.2.1 = some r ∧ s.2.2.2 = some (toRef r) ∧ RR r ∧ ∃ i : Nat, s.2.1 = (i : Int) ∧ i ≤ a1.length ∧ m = a1.length - i)
    (fun m s hs self hself => ?_) (n := a1.length) (by omega) ⟨Int.le_refl _, by simp only; omega, rnew _, rfl, rfl, rnew_RR (by omega), 0, rfl, by omega, by omega⟩
  obtain ⟨hv1, hv2, r, e1, e2, hr, i, e3, hi, hm⟩ := hs
  rw [e3]
  by_cases hil : i < a1.length
  rotate_left
  · exact Ev.decF (by omega) (Ev.to law11_awake_eq (Ev.ret rfl))
  have hx : idx a1 (i : Int) = some a1[i] := by rw [idx_nat]; simp [hil]
  have hxm : a1[i] ∈ a1 := List.getElem_mem hil
  have ho := o1.2 _ hxm
  have hd := hdat _ hxm
  generalize a1[i] = o at hx ho hd
  obtain ⟨oK, oA, oB, oI, oO, oW, oD, _⟩ := ho
  refine Ev.decT (by omega) (Ev.to hx ?_)
  refine Ev.join (fun k => 0 ≤ k ∧ k ≤ 65535) (fun k hk => ?_) (fun j hj => Ev.ite (fun _ => hj _ (okI_u16.1 oO)) (fun _ => hj _ ⟨hv1, hv2⟩))
  refine Ev.join (fun _ => True) (fun s5 _ => ?_) (fun j hj => Ev.ite (fun _ => hj _ trivial) (fun _ => hj _ trivial))
  have oI' := okI_u16.1 oI
  refine Ev.join (fun id => 0 ≤ id ∧ id ≤ 65535) (fun id hid => ?_) (fun j hj => Ev.ite (fun _ => hj _ oI') (fun _ => hj _ (by rw [Int.tmod_eq_emod_of_nonneg oI'.1]; omega)))
  have k1 := Int.emod_nonneg o.Kind (show (6 : Int) ≠ 0 by decide)
  have k2 := Int.emod_lt_of_pos o.Kind (show (0 : Int) < 6 by decide)
  refine Ev.to (Mod_eq 10000 (by omega) (by omega)) (Ev.letP ?_)
  refine Ev.join (fun q => 0 ≤ q.1 ∧ q.1 ≤ 65535 ∧ ∃ r, q.2.1 = r ∧ q.2.2 = toRef r ∧ RR r) (fun q hq => ?_) (fun j hj => ?_)
  · obtain ⟨c1, c2, r2, c3, c4, hr2⟩ := hq
    rw [c3, c4]
    refine Ev.to (Free_eq hr2 (by omega)) (Ev.to (r11Free_eq hr2 (by omega)) ?_)
    refine Ev.join (fun q => q = false) (fun q8 hq8 => ?_) (fun j hj => Ev.bneF rfl (Ev.to (IDs_eq hr2.le (by omega)) (Ev.to (r11IDs_eq hr2 (by omega)) (Ev.to (sameIDs_eq (by have := hr2.le; simp; omega) (by have := hr2.le; simp; omega)) (hj _ (by simp))))))
    subst hq8
    refine Ev.iteF rfl (Ev.letP ?_)
    rw [wi i (by omega)]
    exact hself (a1.length - (i + 1)) _ (by omega) ⟨c1, c2, r2, rfl, rfl, hr2, i + 1, by simp, by omega, rfl⟩
  refine Ev.beq (fun _ => ?_) (fun _ => Ev.letP (Ev.beq (fun _ => ?_) (fun _ => Ev.letP (Ev.beq (fun _ => ?_) (fun _ => Ev.letP (Ev.beq (fun _ => ?_) (fun _ => Ev.letP (Ev.beq (fun _ => ?_) (fun _ => ?_)))))))))
  · -- Add
    have ea := Add_eq (fuel := 10000) hr (b := o.Data) (by omega) (by omega)
    have eb := r11Add_eq (fuel := 10000) hr (b := o.Data) (by omega) (by omega)
    refine Ev.to e1 (Ev.to ea (Ev.to e2 (Ev.to eb ?_)))
    by_cases h1 : o.Data.length = 0 ∨ 160 < o.Data.length
    · rw [if_pos h1, if_pos h1]
      exact Ev.join (fun s => s = false) (fun s hs => Ev.iteF hs (hj _ ⟨hv1, hv2, r, rfl, rfl, hr⟩)) (fun j2 hj2 => Ev.bneF rfl (hj2 _ rfl))
    by_cases h2 : r.records.length = 64
    · rw [if_neg h1, if_neg h1, if_pos h2, if_pos h2]
      exact Ev.join (fun s => s = false) (fun s hs => Ev.iteF hs (hj _ ⟨hv1, hv2, r, rfl, rfl, hr⟩)) (fun j2 hj2 => Ev.bneF rfl (hj2 _ rfl))
    by_cases h3 : rfree r < (o.Data.length : Int)
    · rw [if_neg h1, if_neg h1, if_neg h2, if_neg h2, if_pos h3, if_pos h3]
      exact Ev.join (fun s => s = false) (fun s hs => Ev.iteF hs (hj _ ⟨hv1, hv2, r, rfl, rfl, hr⟩)) (fun j2 hj2 => Ev.bneF rfl (hj2 _ rfl))
    · rw [if_neg h1, if_neg h1, if_neg h2, if_neg h2, if_neg h3, if_neg h3]
      exact Ev.join (fun s => s = false) (fun s hs => Ev.iteF hs (hj _ ⟨hv1, hv2, _, rfl, rfl, hr.add h1 h2 h3⟩)) (fun j2 hj2 => Ev.bneF rfl (hj2 _ (by simp)))
  · refine Ev.to e2 (Ev.to (r11Reserve_eq hr.num) (Ev.to e1 (Ev.to (Reserve_eq hr.num) (Ev.bneF rfl (hj _ ⟨?_, ?_, _, rfl, rfl, hr.res⟩)))))
    · have := hr.num; simp only [rres]; omega
    · have := hr.num; simp only [rres]; omega
  · refine Ev.to e1 (Ev.to (Get_eq hr (by omega)) (Ev.to e2 (Ev.to (r11Get_eq hr hid (by omega)) ?_)))
    exact Ev.join (fun s => s = false) (fun s hs => Ev.iteF hs (hj _ ⟨hv1, hv2, r, rfl, rfl, hr⟩)) (fun j2 hj2 => Ev.bneF rfl (Ev.bneF rfl (Ev.to (Same_eq (by have := rget_len hr id; omega) (by have := rget_len hr id; omega)) (hj2 _ (by simp)))))
  · refine Ev.join (fun _ => True) (fun q _ => ?_) (fun j2 hj2 => Ev.not (Ev.ite (fun _ => hj2 _ trivial) (fun _ => Ev.to (Mod_eq 10000 (by omega) (by omega)) (Ev.to (Mod_eq 10000 (by omega) (by omega)) (hj2 _ trivial)))))
    refine Ev.to e1 (Ev.to (Read_eq hr (by omega)) (Ev.to e2 (Ev.to (r11Read_eq hr hk hid (by omega)) ?_)))
    exact Ev.join (fun s => s = false) (fun s hs => Ev.iteF hs (hj _ ⟨hv1, hv2, r, rfl, rfl, hr⟩)) (fun j2 hj2 => Ev.bneF rfl (Ev.bneF rfl (Ev.to (Same_eq (by have := rread_len hr k id q.1 q.2; omega) (by have := rread_len hr k id q.1 q.2; omega)) (hj2 _ (by simp)))))
  · refine Ev.to e1 (Ev.to (Delete_eq hr (by omega)) (Ev.to e2 (Ev.to (r11Delete_eq hr hk hid (by omega)) ?_)))
    by_cases h1 : rholds r k = false
    · rw [if_pos h1, if_pos h1]; exact Ev.bneF rfl (hj _ ⟨hv1, hv2, r, rfl, rfl, hr⟩)
    by_cases h2 : rfind r.records id < 0
    · rw [if_neg h1, if_neg h1, if_pos h2, if_pos h2]; exact Ev.bneF rfl (hj _ ⟨hv1, hv2, r, rfl, rfl, hr⟩)
    · rw [if_neg h1, if_neg h1, if_neg h2, if_neg h2]; exact Ev.bneF rfl (hj _ ⟨hv1, hv2, _, rfl, rfl, hr.del⟩)
  · refine Ev.to e1 (Ev.to Clear_eq (Ev.to e2 (Ev.to (r11Clear_eq hk) ?_)))
    by_cases h1 : rholds r k = false
    · rw [if_pos h1, if_pos h1]; exact Ev.bneF rfl (hj _ ⟨hv1, hv2, r, rfl, rfl, hr⟩)
    · rw [if_neg h1, if_neg h1]; exact Ev.bneF rfl (hj _ ⟨hv1, hv2, _, rfl, rfl, hr.clear⟩)
end Lift
