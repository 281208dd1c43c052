import Derived.Test.YtahlmfpllhmjoaaGreatDoorToph
set_option linter.unusedVariables false
set_option linter.unusedSimpArgs false
namespace Lift
open Go
def fb (c : Conversion_) : Int := if c.Signed then c.Form + 128 else c.Form
def ptsB (l : List Point_) : List Int := l.flatMap fun p => p.Raw :: wr p.Value 6
def encC (c : Conversion_) : List Int := fb c :: (if c.Form = 5 then (c.Points.length : Int) :: ptsB c.Points else wr c.M 2 ++ (wr c.B 2 ++ [c.K1 % 256, c.K2 % 256]))
theorem CV.form {c : Conversion_} (h : CV c) : 1 ≤ c.Form ∧ c.Form ≤ 5 := by
  cases h with
  | lin a b => omega
  | tab a => omega
theorem ptsB_len : ∀ l : List Point_, (ptsB l).length = 7 * l.length
  | [] => rfl
  | p :: l => by
    have := ptsB_len l
    simp only [ptsB, List.flatMap_cons, List.length_append, List.length_cons, wr_len] at this ⊢
    omega
theorem fb_facts {c : Conversion_} (h : 1 ≤ c.Form) (h5 : c.Form ≤ 5) : byte (fb c) ∧ bAndNot .u8 (fb c) 128 = c.Form ∧ (bAnd .u8 (fb c) 128 != 0) = c.Signed := by
  have key : ∀ (f : Int) (s : Bool), 1 ≤ f → f ≤ 5 → byte (if s then f + 128 else f) ∧ bAndNot .u8 (if s then f + 128 else f) 128 = f ∧ (bAnd .u8 (if s then f + 128 else f) 128 != 0) = s := by
    intro f s h h5
    obtain rfl | rfl | rfl | rfl | rfl : f = 1 ∨ f = 2 ∨ f = 3 ∨ f = 4 ∨ f = 5 := by omega
    all_goals (cases s <;> exact ⟨by unfold byte; decide, by decide, by decide⟩)
  exact key c.Form c.Signed h h5
theorem Encode_ev {fuel : Nat} (hf : 100 < fuel) {c : Conversion_} (h : CV c) : Ev (convert_Encode fuel c) (fun y => y = (encC c, 0)) := by
  unfold convert_Encode
  obtain ⟨f1, f5⟩ := h.form
  have hu : IntKind.u8.wrap c.Form = c.Form := by rw [w_u8]; omega
  rw [hu]
  refine Ev.to (Valid_eq hf h) (Ev.iteF rfl (Ev.join (fun l => l = [fb c]) (fun l hl => ?_) (fun j hj => Ev.ite (fun hs => ?_) (fun hs => hj _ (by simp [fb, hs])))))
  · subst hl
    cases h with
    | lin g1 g2 m0 m1 b0 b1 k0 k1 l0 l1 hp =>
      have g5 : c.Form ≠ 5 := by omega
      refine Ev.bneT g5 (Ev.bind (show Ev (convert_write fuel c.M 2) (fun y => y = wr c.M 2) from write_ev (n := 2) (by omega) (by omega)) (fun y2 e2 => Ev.app (by rw [e2]; simp [wr]) (Ev.bind (show Ev (convert_write fuel c.B 2) (fun y => y = wr c.B 2) from write_ev (n := 2) (by omega) (by omega)) (fun y3 e3 => Ev.app (by rw [e2, e3]; simp [wr]) (Ev.app (by rw [e2, e3]; simp [wr]) (Ev.ret ?_))))))
      rw [e2, e3, w_u8, w_u8]
      simp [encC, g5]
    | tab g5 _ _ _ _ hp =>
      have t12 := hp.top
      have hn : IntKind.u8.wrap (c.Points.length : Int) = c.Points.length := by rw [w_u8]; omega
      rw [hn]
      refine Ev.bneF g5 (Ev.app (by simp) ?_)
      refine Ev.loop (fun (k : Nat) (x : Int × List Int) => ∃ i : Nat, x.1 = i ∧ i + k = c.Points.length ∧ x.2 = fb c :: (c.Points.length : Int) :: ptsB (c.Points.take i)) (fun k x hI self hself => ?_) (n := c.Points.length) (by omega) ⟨0, rfl, by omega, rfl⟩
      obtain ⟨pos, acc⟩ := x
      obtain ⟨i, i1, i2, i3⟩ := hI
      simp only at i1 i3 ⊢
      subst i1
      refine Ev.dec (fun hlt => Ev.idx (by omega) hlt (fun p pe pm => ?_)) (fun hge => Ev.ret ?_)
      · have hw : IntKind.i64.wrap ((i : Int) + 1) = ((i + 1 : Nat) : Int) := by rw [w_i64 (by omega) (by omega)]; rfl
        have hl : acc.length ≤ 200 := by rw [i3]; simp [ptsB_len]; omega
        simp only [Int.toNat_natCast] at pe
        rw [hw]
        refine Ev.app (by simp; omega) (Ev.bind (show Ev (convert_write fuel p.Value 6) (fun y => y = wr p.Value 6) from write_ev (n := 6) (by omega) (by omega)) (fun y4 e4 => Ev.app (by rw [e4]; simp [wr_len]; omega) (hself (k - 1) _ (by omega) ⟨i + 1, rfl, by omega, ?_⟩)))
        rw [i3, e4, List.take_add_one, pe]
        simp [ptsB]
      · rw [i3, List.take_of_length_le (by omega)]
        simp [encC, g5]
  · refine Ev.to (show idx [c.Form] 0 = some c.Form from rfl) (Ev.letP (hj _ ?_))
    have : bOr .u8 c.Form 128 = c.Form + 128 := by
      obtain e | e | e | e | e : c.Form = 1 ∨ c.Form = 2 ∨ c.Form = 3 ∨ c.Form = 4 ∨ c.Form = 5 := by omega
      all_goals (rw [e]; decide)
    rw [this]
    simp [fb, hs, upd]
theorem encC_len {c : Conversion_} (h : CV c) : (encC c).length = if c.Form = 5 then 2 + 7 * c.Points.length else 7 := by
  unfold encC
  split <;> simp [ptsB_len, wr_len] <;> omega
theorem clength_ev (fuel : Nat) {c : Conversion_} (h : CV c) (t : List Int) : Ev (convert_length fuel (encC c ++ t)) (fun y => y = (((encC c).length : Int), 0)) := by
  unfold convert_length
  obtain ⟨f1, f5⟩ := h.form
  obtain ⟨b1, b2, b3⟩ := fb_facts f1 f5
  have x0 : idx (encC c ++ t) 0 = some (fb c) := rfl
  refine Ev.letP (Ev.iteF (by simp [encC]; omega) (Ev.to x0 (Ev.join (fun b => b = false) (fun b hb => Ev.iteF hb (Ev.to x0 (Ev.letP ?_))) (fun j hj => Ev.decF (by omega) (Ev.letP (hj _ (by simp; omega)))))))
  rw [b2]
  rw [encC_len h]
  by_cases g5 : c.Form = 5
  · rw [if_pos g5]
    cases h with
    | lin a b => omega
    | tab _ _ _ _ _ hp =>
      have t2 := hp.two
      have t12 := hp.top
      have x1 : idx (encC c ++ t) 1 = some (c.Points.length : Int) := by
        have : encC c = fb c :: (c.Points.length : Int) :: ptsB c.Points := by simp [encC, g5]
        rw [this]; rfl
      refine Ev.bneF g5 (Ev.letP (Ev.iteF (by simp [encC, g5]; omega) (Ev.to x1 (Ev.join (fun b => b = false) (fun b hb => Ev.iteF hb (Ev.to x1 (Ev.letP (Ev.ret ?_)))) (fun j hj => Ev.decF (by omega) (Ev.letP (hj _ (by simp; omega))))))))
      rw [w_i64 (show -9223372036854775808 ≤ (c.Points.length : Int) by omega) (by omega), w_i64 (show -9223372036854775808 ≤ 7 * (c.Points.length : Int) by omega) (by omega), w_i64 (by omega) (by omega)]
      simp
  · rw [if_neg g5]
    exact Ev.bneT g5 (Ev.ret rfl)
theorem rd1 {v : Int} (h0 : -128 ≤ v) (h1 : v < 128) : rdn [v % 256] = v := by
  have := rdn_wr 0 v (by simp only [P8]; omega) (by simp only [P8]; omega)
  exact this
theorem rd2 {v : Int} (h0 : -512 ≤ v) (h1 : v ≤ 511) : rdn (wr v 2) = v := rdn_wr 1 v (by simp only [P8]; omega) (by simp only [P8]; omega)
theorem rd6 {v : Int} (h0 : -1000000000000 ≤ v) (h1 : v ≤ 1000000000000) : rdn (wr v 6) = v := rdn_wr 5 v (by simp only [P8]; omega) (by simp only [P8]; omega)
theorem Decode_ev {fuel : Nat} (hf : 100 < fuel) {c : Conversion_} (h : CV c) (t : List Int) : Ev (convert_Decode fuel (encC c ++ t)) (fun y => y = (c, ((encC c).length : Int), 0)) := by
  unfold convert_Decode
  obtain ⟨f1, f5⟩ := h.form
  obtain ⟨b1, b2, b3⟩ := fb_facts f1 f5
  have hv := Valid_eq hf h
  have x0 : idx (encC c ++ t) 0 = some (fb c) := rfl
  refine Ev.bind (clength_ev fuel h t) (fun y1 e1 => ?_)
  subst e1
  refine Ev.letP (Ev.iteF rfl (Ev.letP (Ev.decF (by simp; omega) (Ev.to x0 ?_))))
  have hw : IntKind.i64.wrap (bAndNot .u8 (fb c) 128) = c.Form := by rw [b2, w_i64 (by omega) (by omega)]
  rw [hw, b3]
  cases h with
  | lin g1 g2 m0 m1 bb0 bb1 k0 k1 l0 l1 hp =>
    have g5 : c.Form ≠ 5 := by omega
    have he : encC c = [fb c] ++ (wr c.M 2 ++ (wr c.B 2 ++ [c.K1 % 256, c.K2 % 256])) := by simp [encC, g5]
    have s1 : sub (encC c ++ t) 1 3 = some (wr c.M 2) := by
      rw [he, show [fb c] ++ (wr c.M 2 ++ (wr c.B 2 ++ [c.K1 % 256, c.K2 % 256])) ++ t = [fb c] ++ (wr c.M 2 ++ ((wr c.B 2 ++ [c.K1 % 256, c.K2 % 256]) ++ t)) by simp]
      exact sub_mid rfl rfl
    have s2 : sub (encC c ++ t) 3 5 = some (wr c.B 2) := by
      rw [he, show [fb c] ++ (wr c.M 2 ++ (wr c.B 2 ++ [c.K1 % 256, c.K2 % 256])) ++ t = ([fb c] ++ wr c.M 2) ++ (wr c.B 2 ++ ([c.K1 % 256, c.K2 % 256] ++ t)) by simp]
      exact sub_mid rfl rfl
    have s3 : sub (encC c ++ t) 5 6 = some [c.K1 % 256] := by
      rw [he, show [fb c] ++ (wr c.M 2 ++ (wr c.B 2 ++ [c.K1 % 256, c.K2 % 256])) ++ t = ([fb c] ++ wr c.M 2 ++ wr c.B 2) ++ ([c.K1 % 256] ++ ([c.K2 % 256] ++ t)) by simp]
      exact sub_mid rfl rfl
    have s4 : sub (encC c ++ t) 6 7 = some [c.K2 % 256] := by
      rw [he, show [fb c] ++ (wr c.M 2 ++ (wr c.B 2 ++ [c.K1 % 256, c.K2 % 256])) ++ t = ([fb c] ++ wr c.M 2 ++ wr c.B 2 ++ [c.K1 % 256]) ++ ([c.K2 % 256] ++ t) by simp]
      exact sub_mid rfl rfl
    have r1 := read_ev hf (l := wr c.M 2) (by simp [wr]) (by simp [wr]) (wr_byte 2 _)
    have r2 := read_ev hf (l := wr c.B 2) (by simp [wr]) (by simp [wr]) (wr_byte 2 _)
    have r3 := read_ev hf (l := [c.K1 % 256]) (by simp) (by simp) (by simp; unfold byte; omega)
    have r4 := read_ev hf (l := [c.K2 % 256]) (by simp) (by simp) (by simp; unfold byte; omega)
    rw [rd2 m0 m1] at r1
    rw [rd2 bb0 bb1] at r2
    rw [rd1 (by omega) (by omega)] at r3 r4
    refine Ev.beqF g5 (Ev.to s1 (Ev.bind r1 (fun y6 e6 => Ev.to s2 (Ev.bind r2 (fun y7 e7 => Ev.to s3 (Ev.bind r3 (fun y8 e8 => Ev.to s4 (Ev.bind r4 (fun y9 e9 => ?_)))))))))
    subst e6; subst e7; subst e8; subst e9
    have hc : (⟨c.Form, c.Signed, c.M, c.B, c.K1, c.K2, []⟩ : Conversion_) = c := by rw [← hp]
    rw [hc]
    refine Ev.to hv (Ev.iteF rfl (Ev.ret rfl))
  | tab g5 gm gb gk gl hp =>
    have t12 := hp.top
    have he : encC c = [fb c, (c.Points.length : Int)] ++ ptsB c.Points := by simp [encC, g5]
    have hl : ((encC c).length : Int) = 2 + 7 * c.Points.length := by rw [he]; simp [ptsB_len]; omega
    have s1 : sub (encC c ++ t) 2 ((encC c).length : Int) = some (ptsB c.Points) := by
      rw [hl, he, List.append_assoc]
      exact sub_mid rfl (by simp [ptsB_len])
    refine Ev.beqT g5 (Ev.to s1 (Ev.bind (P := fun y => y = (ptsB c.Points, 7)) (by unfold slices_Chunk_byte_byte; exact Ev.decF (by omega) (Ev.ret rfl)) (fun y2 e2 => ?_)))
    subst e2
    refine Ev.bind (P := fun y => y = c.Points) ?_ (fun y3 e3 => ?_)
    · unfold slices_Chunk_byte_byte_1_2
      have hpl := ptsB_len c.Points
      refine Ev.loop (fun (k : Nat) (x : Int × List Point_) => ∃ i : Nat, x.1 = ((7 * i : Nat) : Int) ∧ i + k = c.Points.length ∧ x.2 = c.Points.take i) (fun k x hI self hself => ?_) (n := c.Points.length) (by omega) ⟨0, rfl, by omega, rfl⟩
      obtain ⟨pos, acc⟩ := x
      obtain ⟨i, i1, i2, i3⟩ := hI
      simp only at i1 i3 ⊢
      subst i1
      refine Ev.dec (fun hlt => ?_) (fun hge => Ev.ret ?_)
      · have hi : i < c.Points.length := by omega
        obtain ⟨p, pe⟩ : ∃ p, c.Points[i]? = some p := ⟨_, List.getElem?_eq_getElem hi⟩
        have pm := List.mem_of_getElem? pe
        obtain ⟨p1, p2, p3⟩ := hp.raw p pm
        have hsp : ptsB c.Points = ptsB (c.Points.take i) ++ ((p.Raw :: wr p.Value 6) ++ ptsB (c.Points.drop (i + 1))) := by
          have : c.Points = c.Points.take i ++ p :: c.Points.drop (i + 1) := by
            rw [List.getElem?_eq_getElem hi] at pe
            rw [← Option.some.inj pe, ← List.drop_eq_getElem_cons hi, List.take_append_drop]
          conv => lhs; rw [this]
          simp [ptsB]
        have hli : (ptsB (c.Points.take i)).length = 7 * i := by rw [ptsB_len]; simp; omega
        have q1 : sub (ptsB c.Points) ((7 * i : Nat) : Int) ((ptsB c.Points).length : Int) = some ((p.Raw :: wr p.Value 6) ++ ptsB (c.Points.drop (i + 1))) := by
          rw [hsp]; exact sub_end (by rw [hli])
        refine Ev.to q1 ?_
        have hm : min 7 ((((p.Raw :: wr p.Value 6) ++ ptsB (c.Points.drop (i + 1))).length : Nat) : Int) = 7 := by
          simp only [List.length_append, List.length_cons, wr_len]; omega
        rw [hm]
        refine Ev.letP ?_
        have q2 : sub (ptsB c.Points) ((7 * i : Nat) : Int) (IntKind.i64.wrap (((7 * i : Nat) : Int) + 7)) = some (p.Raw :: wr p.Value 6) := by
          rw [w_i64 (by omega) (by omega), hsp]
          exact sub_mid (by rw [hli]) (by simp [wr_len])
        refine Ev.to q2 (Ev.bind (P := fun y => y = c.Points.take (i + 1)) ?_ (fun y1 e1 => Ev.letE (c := ((7 * (i + 1) : Nat) : Int)) (by rw [w_i64 (by omega) (by omega)]; omega) (hself (k - 1) _ (by omega) ⟨i + 1, rfl, by omega, e1⟩)))
        have r6 := read_ev hf (l := wr p.Value 6) (by simp [wr]) (by simp [wr]) (wr_byte 6 _)
        rw [rd6 p2 p3] at r6
        have q3 : sub (p.Raw :: wr p.Value 6) 1 ((p.Raw :: wr p.Value 6).length : Int) = some (wr p.Value 6) := sub_end (a := [p.Raw]) rfl
        refine Ev.to (show idx (p.Raw :: wr p.Value 6) 0 = some p.Raw from rfl) (Ev.to q3 (Ev.bind r6 (fun y4 e4 => Ev.app (by rw [i3]; simp; omega) (Ev.ret ?_))))
        rw [i3, e4, List.take_add_one, pe]; rfl
      · rw [i3, List.take_of_length_le (by omega)]
    · subst e3
      have hc : (⟨c.Form, c.Signed, 0, 0, 0, 0, c.Points⟩ : Conversion_) = c := by
        obtain ⟨f, s, m, b, k, k2, ps⟩ := c
        simp only at gm gb gk gl
        subst gm; subst gb; subst gk; subst gl; rfl
      rw [hc]
      exact Ev.to hv (Ev.iteF rfl (Ev.ret rfl))
end Lift
