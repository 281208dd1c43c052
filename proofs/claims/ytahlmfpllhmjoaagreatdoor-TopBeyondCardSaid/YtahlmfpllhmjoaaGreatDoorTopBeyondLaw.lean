import Derived.Test.YtahlmfpllhmjoaaGreatDoorTope
import Derived.WalkKit
set_option linter.unusedVariables false
set_option linter.unusedSimpArgs false
namespace Lift
open Go
theorem Index_ev {fuel : Nat} (hf : 100 < fuel) {s : Sensor_} {q : Int} {e : Event_} (h : EOk s q e) : ∃ i : Nat, i < 6 ∧ event_Index fuel e = some ((i : Int), true, true) ∧ ∃ lim, s.Limits.Raw[i]? = some lim ∧ e.Data = [80 + offs i, q, lim] ∧ (e.Deassert = false → 0 ≤ dist s q i) ∧ (e.Deassert = true → dist s q i < 0) := by
  obtain ⟨i, hi, ht, lim, hl, hd, h1, h2⟩ := h
  refine ⟨i, hi, ?_, lim, hl, hd, h1, h2⟩
  have : Ev (event_Index fuel e) (fun y => y = ((i : Int), true, true)) := by
    unfold event_Index
    rw [ht, hd]
    refine Ev.letP (Ev.iteT rfl (Ev.to (show idx [80 + offs i, q, lim] 0 = some (80 + offs i) from rfl) (Ev.chk rfl ?_)))
    have hx : slices_Index_uint8_uint8 fuel [0, 2, 4, 7, 9, 11] (IntKind.u8.wrap (80 + offs i - 80)) = some (i : Int) := by
      obtain ⟨f, rfl⟩ : ∃ f, fuel = f + 7 := ⟨fuel - 7, by omega⟩
      obtain rfl | rfl | rfl | rfl | rfl | rfl : i = 0 ∨ i = 1 ∨ i = 2 ∨ i = 3 ∨ i = 4 ∨ i = 5 := by omega
      all_goals rfl
    exact Ev.to hx (Ev.decT (by omega) (Ev.ret rfl))
  obtain ⟨a, e, rfl⟩ := this; exact e
theorem top_first_eq : top_first 20000000000 = some true := by kernel_rfl
theorem top_TopBeyond_true (a0 a1 : List Int) (o0 : okL (okI .i64) a0) (o1 : okL (okI .u8) a1) : ∃ fuel, top_TopBeyond fuel a0 a1 = some true := by
  refine ⟨20000000000, Ev.isTrue ?_⟩
  have hf : Big 20000000000 := by unfold Big; omega
  have hf1 : 100 < 20000000000 := by omega
  have hfirst := top_first_eq
  generalize 20000000000 = fuel at hf hf1 hfirst ⊢
  unfold top_TopBeyond
  refine Ev.to hfirst (Ev.iteF rfl ?_)
  refine Ev.bind (P := fun b => b = decide ((a0.length : Int) ≤ 600)) (by unfold made_Light; exact Ev.letP (Ev.ret rfl)) (fun b hb => ?_)
  subst hb
  refine Ev.join (fun b => b = true ∨ (b = false ∧ a0.length ≤ 600 ∧ a1.length ≤ 60)) (fun b hb => ?_) (fun j hj => Ev.not (Ev.dec (fun h1 => hj _ ?_) (fun _ => hj _ (.inl rfl))))
  · rcases hb with hb | ⟨hb, l0, l1⟩
    · exact Ev.iteT hb (Ev.ret rfl)
    refine Ev.iteF hb (Ev.bind (P := fun d => d = ⟨a0, 0⟩) (Ev.ret rfl) (fun d hd => ?_))
    subst hd
    refine Ev.bind (Analog_ev hf1 (roll_ok (by omega)) 7) (fun y4 h4 => ?_)
    obtain ⟨⟨ok, ana, hnum, hlim⟩, _⟩ := h4
    obtain ⟨s, dd⟩ := y4
    simp only at ok ana hnum hlim ⊢
    have cv := ok.conv ana
    have lv := hlim ana
    have lm0 := lv.m0
    have lm1 := lv.m1
    refine Ev.bind (Direction_ev hf cv) (fun y5 h5 => Ev.bneF h5.1 (Ev.letE (c := s.Limits.Mask) (by rw [w_u16]; omega) (Ev.letP (Ev.letP (Ev.letP (Ev.letP ?_))))))
    generalize ht : ({ s with Samples := 1, HostOn := false, Assert := s.Limits.Mask, Deassert := s.Limits.Mask } : Sensor_) = t
    have e1 : t.Conversion = s.Conversion := by rw [← ht]
    have e2 : t.Limits = s.Limits := by rw [← ht]
    have av : AV t := by
      rw [← ht]
      exact ⟨ok.name, .inl rfl, ana, cv, lv, ok.states ana, mask_self lm0 lm1⟩
    have t1 : t.Samples = 1 := by rw [← ht]
    have t2 : t.Number = 7 := by rw [← ht]; exact hnum
    have t3 : t.HostOn = false := by rw [← ht]
    have t4 : t.Assert = t.Limits.Mask := by rw [← ht]
    have t5 : t.Deassert = t.Limits.Mask := by rw [← ht]
    refine Ev.bind (P := fun y => y.2 = 0 ∧ ∃ m, y.1 = some m ∧ MV t m) (New_ev hf1 av) (fun y6 h6 => ?_)
    obtain ⟨h60, m, hm, mv⟩ := h6
    refine Ev.join (fun b => b = false) (fun b hb => Ev.iteF hb ?_) (fun j hj => Ev.iteF (by rw [hm]; rfl) (hj _ (by rw [h60]; rfl)))
    refine Ev.loop (fun (n : Nat) (x : Int × Option monitor_Monitor) => ∃ i : Nat, x.1 = i ∧ i + n = a1.length ∧ ∃ m, x.2 = some m ∧ MV t m) (fun n x hI self hself => ?_) (n := a1.length) (by omega) ⟨0, rfl, by omega, m, hm, mv⟩
    obtain ⟨i, i1, i2, m', i3, i4⟩ := hI
    obtain ⟨pos, om⟩ := x
    simp only at i1 i3 ⊢
    subst i1
    refine Ev.dec (fun hlt => Ev.idx (by omega) hlt (fun q qe qm => Ev.to i3 ?_)) (fun _ => Ev.ret rfl)
    have hq : byte q := okI_u8.1 (o1.2 q qm)
    have hw : IntKind.i64.wrap ((i : Int) + 1) = ((i + 1 : Nat) : Int) := by rw [w_i64 (by omega) (by omega)]; rfl
    refine Ev.bind (Scan_ev hf1 av t1 t2 t3 t4 t5 i4 hq) (fun y7 h7 => ?_)
    obtain ⟨z0, mv', len6, eok⟩ := h7
    refine Ev.bneF z0 ?_
    refine Ev.loop (fun (n : Nat) (x : Int) => ∃ k : Nat, x = k ∧ k + n = y7.1.length) (fun n' x hI2 self2 hself2 => ?_) (n := y7.1.length) (by omega) ⟨0, rfl, by omega⟩
    obtain ⟨k, rfl, k2⟩ := hI2
    refine Ev.dec (fun hlt2 => ?_) (fun _ => Ev.letE hw (hself (n - 1) _ (by omega) ⟨i + 1, rfl, by omega, _, rfl, mv'⟩))
    obtain ⟨e, he, _, em⟩ := idx_ok (l := y7.1) (i := (k : Int)) (by omega) hlt2
    obtain ⟨x, hx6, hix, lim, hl, hd, d1, d2⟩ := Index_ev hf1 (eok e em)
    have hw2 : IntKind.i64.wrap ((k : Int) + 1) = ((k + 1 : Nat) : Int) := by rw [w_i64 (by omega) (by omega)]; rfl
    have next : Ev (self2 ((k + 1 : Nat) : Int)) (fun b => b = true) := hself2 (n' - 1) _ (by omega) ⟨k + 1, rfl, by omega⟩
    have hlb : byte lim := av.lim.raw lim (List.mem_of_getElem? hl)
    have g1 : idx e.Data 1 = some q := by rw [hd]; rfl
    have g2 : idx e.Data 2 = some lim := by rw [hd]; rfl
    have hlt' := hl
    rw [e2] at hl
    have hnr : nr t.Conversion.Signed t.Limits x = num s.Conversion.Signed lim := by
      rw [e1, e2]; simp [nr, List.getD_eq_getElem?_getD, hl]
    refine Ev.to he (Ev.to hix (Ev.join (fun b => b = false) (fun b hb => Ev.iteF hb ?_) (fun j hj => ?_)))
    · obtain ⟨vq, eq1, eq2⟩ := Value_eq hf cv hq
      obtain ⟨vl, el1, el2⟩ := Value_eq hf cv hlb
      rw [← e1] at eq2 el2
      refine Ev.to he (Ev.to g1 (Ev.to eq2 (Ev.to he (Ev.to g2 (Ev.to el2 ?_)))))
      refine Ev.join (fun b => b = true ∨ (y5.1 = 1 ∧ vq.2 = 0 ∧ vl.2 = 0)) (fun b hb => ?_) (fun j hj => Ev.bne (fun _ => hj _ (.inl rfl)) (fun a => Ev.bne (fun _ => hj _ (.inl rfl)) (fun b => ?_)))
      · refine Ev.ite (fun _ => Ev.letE hw2 next) (fun hbf => ?_)
        rcases hb with hb | ⟨w1, w2, w3⟩
        · rw [hb] at hbf; cases hbf
        obtain ⟨l, hvl, hnf⟩ := h5.2 w1
        have eqq : convert_value fuel s.Conversion q = some (vq.1, 0) := by rw [eq1, ← w2]
        have ell : convert_value fuel s.Conversion lim = some (vl.1, 0) := by rw [el1, ← w3]
        have up : num s.Conversion.Signed lim ≤ num s.Conversion.Signed q → vl.1 ≤ vq.1 := rising hvl hnf hlb hq ell eqq
        have dn : num s.Conversion.Signed q ≤ num s.Conversion.Signed lim → vq.1 ≤ vl.1 := rising hvl hnf hq hlb eqq ell
        have hdist : dist t q x = if x ≤ 2 then num s.Conversion.Signed lim - num s.Conversion.Signed q else num s.Conversion.Signed q - num s.Conversion.Signed lim := by
          unfold dist; rw [hnr, e1]
        rw [hdist] at d1 d2
        refine Ev.letP (Ev.to he (Ev.join (fun b => b = false) (fun b hb => Ev.iteF hb (Ev.letE hw2 next)) (fun j hj => ?_)))
        by_cases h3 : x ≤ 2
        · rw [if_pos h3] at d1 d2
          have hlow : decide ((x : Int) < 3) = true := by simp; omega
          rw [hlow]
          cases hde : e.Deassert
          · have := dn (by have := d1 hde; omega)
            exact Ev.iteF rfl (Ev.iteT rfl (hj _ (by simp; omega)))
          · have := up (by have := d2 hde; omega)
            exact Ev.iteT rfl (Ev.decF (by omega) (Ev.iteF rfl (hj _ rfl)))
        · rw [if_neg h3] at d1 d2
          have hlow : decide ((x : Int) < 3) = false := by simp; omega
          rw [hlow]
          cases hde : e.Deassert
          · have := up (by have := d1 hde; omega)
            exact Ev.iteT rfl (Ev.decF (by omega) (Ev.iteF rfl (hj _ rfl)))
          · have := dn (by have := d2 hde; omega)
            exact Ev.iteF rfl (Ev.iteT rfl (hj _ (by simp; omega)))
      · by_cases c : vl.2 = 0
        · exact hj _ (.inr ⟨a, b, c⟩)
        · exact hj _ (.inl (by simpa using c))
    · refine Ev.letP (Ev.iteF rfl (Ev.letP (Ev.iteF rfl (Ev.to he (Ev.to g1 (Ev.idx (by omega) hlt (fun x17 e17 _ => ?_)))))))
      have : x17 = q := by rw [qe] at e17; exact (Option.some.inj e17).symm
      subst this
      refine Ev.letP (Ev.bneF rfl (Ev.to g2 (Ev.to (show idx t.Limits.Raw (x : Int) = some lim by rw [idx_nat]; exact hlt') (Ev.chk (by rw [av.lim.len]; rfl) (hj _ (by simp))))))
  · by_cases c : a1.length ≤ 60
    · exact .inr ⟨by simp; omega, by omega, c⟩
    · exact .inl (by simp; omega)
end Lift
