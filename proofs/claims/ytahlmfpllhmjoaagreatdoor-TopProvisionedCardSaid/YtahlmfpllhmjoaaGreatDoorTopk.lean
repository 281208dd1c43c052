import Derived.Test.YtahlmfpllhmjoaaGreatDoorTopj
set_option linter.unusedVariables false
set_option linter.unusedSimpArgs false
namespace Lift
open Go
def flg (s : Sensor_) : Int := 4 * s.Samples + (if s.Discrete then 1 else 0) + (if s.HostOn then 2 else 0)
def hd8 (s : Sensor_) : List Int := [1, s.Number, s.Type_, s.Unit, s.Entity.ID, s.Entity.Instance, flg s, (s.Name.length : Int)]
def tl13 (s : Sensor_) : List Int := [s.Limits.Mask] ++ s.Limits.Raw ++ [s.HystLower, s.HystUpper] ++ two [s.Assert, s.Deassert]
def rst (s : Sensor_) : List Int := if s.Discrete then two [s.States, s.Assert, s.Deassert] else encC s.Conversion ++ tl13 s
def bdy (s : Sensor_) : List Int := hd8 s ++ (s.Name ++ rst s)
def encS (s : Sensor_) : List Int := bdy s ++ [(-(bdy s).sum) % 256]
theorem flg_facts {n : Int} {s : Sensor_} (h : FS n s) : 0 ≤ flg s ∧ flg s < 32 ∧ (bAnd .u8 (flg s) 1 != 0) = s.Discrete ∧ (bAnd .u8 (flg s) 2 != 0) = s.HostOn ∧ IntKind.i64.wrap (IntKind.u8.wrap (Int.tdiv (flg s) 4)) = s.Samples ∧
    (if s.HostOn then bOr .u8 (if s.Discrete then bOr .u8 (IntKind.u8.wrap (IntKind.i64.wrap (4 * s.Samples))) 1 else IntKind.u8.wrap (IntKind.i64.wrap (4 * s.Samples))) 2 else (if s.Discrete then bOr .u8 (IntKind.u8.wrap (IntKind.i64.wrap (4 * s.Samples))) 1 else IntKind.u8.wrap (IntKind.i64.wrap (4 * s.Samples)))) = flg s := by
  have key : ∀ (k : Int) (d o : Bool), k = 1 ∨ k = 3 ∨ k = 5 → 0 ≤ 4 * k + (if d then 1 else 0) + (if o then 2 else 0) ∧ 4 * k + (if d then 1 else 0) + (if o then 2 else 0) < 32 ∧ (bAnd .u8 (4 * k + (if d then 1 else 0) + (if o then 2 else 0)) 1 != 0) = d ∧ (bAnd .u8 (4 * k + (if d then 1 else 0) + (if o then 2 else 0)) 2 != 0) = o ∧ IntKind.i64.wrap (IntKind.u8.wrap (Int.tdiv (4 * k + (if d then 1 else 0) + (if o then 2 else 0)) 4)) = k ∧
      (if o then bOr .u8 (if d then bOr .u8 (IntKind.u8.wrap (IntKind.i64.wrap (4 * k))) 1 else IntKind.u8.wrap (IntKind.i64.wrap (4 * k))) 2 else (if d then bOr .u8 (IntKind.u8.wrap (IntKind.i64.wrap (4 * k))) 1 else IntKind.u8.wrap (IntKind.i64.wrap (4 * k)))) = 4 * k + (if d then 1 else 0) + (if o then 2 else 0) := by
    intro k d o hk
    rcases hk with rfl | rfl | rfl <;> cases d <;> cases o <;> decide
  exact key s.Samples s.Discrete s.HostOn h.samples
theorem two_len (l : List Int) : (two l).length = 2 * l.length := by
  induction l with
  | nil => rfl
  | cons a m ih => simp only [two, List.flatMap_cons, List.length_append, List.length_cons, List.length_nil] at ih ⊢; omega
theorem rst_len {n : Int} {s : Sensor_} (h : FS n s) : (rst s).length ≤ 99 := by
  unfold rst
  cases hd : s.Discrete
  · obtain ⟨c, l, _, _⟩ := h.ana hd
    have := encC_len c
    have hl := l.len
    have hp : s.Conversion.Form = 5 → s.Conversion.Points.length ≤ 12 := fun _ => by
      cases c with
      | lin _ _ _ _ _ _ _ _ _ _ hp => rw [hp]; simp
      | tab _ _ _ _ _ hp => exact hp.top
    simp only [Bool.false_eq_true, if_false, List.length_append, this, tl13, two_len, hl, List.length_cons, List.length_nil]
    split
    · have := hp (by assumption); omega
    · omega
  · simp [two_len]
theorem bdy_len {n : Int} {s : Sensor_} (h : FS n s) : 8 ≤ (bdy s).length ∧ (bdy s).length ≤ 123 := by
  have := rst_len h
  have := h.name.2.1
  unfold bdy hd8
  simp only [List.length_append, List.length_cons, List.length_nil]
  omega
theorem SEncode_ev {fuel : Nat} (hf : 1000 < fuel) {n : Int} {s : Sensor_} (h : FS n s) : Ev (sensor_Encode fuel s) (fun y => y = (encS s, 0)) := by
  unfold sensor_Encode
  obtain ⟨f0, f1, f2, f3, f4, f5⟩ := flg_facts h
  have hb := bdy_len h
  have hn := h.name
  have hln : IntKind.u8.wrap (s.Name.length : Int) = s.Name.length := by rw [w_u8]; have := hn.2.1; omega
  rw [hln]
  refine Ev.to (h.valid (by omega)) (Ev.iteF rfl (Ev.letP ?_))
  refine Ev.join (fun v => v = if s.Discrete then bOr .u8 (IntKind.u8.wrap (IntKind.i64.wrap (4 * s.Samples))) 1 else IntKind.u8.wrap (IntKind.i64.wrap (4 * s.Samples))) (fun v hv => ?_) (fun j hj => Ev.ite (fun e => hj _ (by rw [e]; rfl)) (fun e => hj _ (by rw [e]; rfl)))
  refine Ev.join (fun v => v = flg s) (fun v hv => ?_) (fun j hj => Ev.ite (fun e => hj _ (by rw [hv]; rw [e] at f5; exact f5)) (fun e => hj _ (by rw [hv]; rw [e] at f5; exact f5)))
  subst hv
  have hx : ∀ l : List Int, [1, s.Number, s.Type_, s.Unit, s.Entity.ID, s.Entity.Instance, flg s, (s.Name.length : Int)] ++ l = hd8 s ++ l := fun l => rfl
  have n1 := hn.2.1
  refine Ev.app (by simp only [List.length_cons, List.length_nil]; omega) ?_
  rw [hx]
  have hl8 : (hd8 s).length = 8 := rfl
  cases hd : s.Discrete
  · obtain ⟨c, l, _, _⟩ := h.ana hd
    have hrl := rst_len h
    have er : rst s = encC s.Conversion ++ tl13 s := by simp [rst, hd]
    have hel : (encC s.Conversion).length ≤ 99 := by rw [er] at hrl; simp at hrl; omega
    have hll := l.len
    refine Ev.iteF rfl (Ev.bind (Encode_ev (by omega) c) (fun y4 e4 => ?_))
    subst e4
    refine Ev.app (by simp only [List.length_append, hl8]; omega) (Ev.app (by simp only [List.length_append, hl8, List.length_cons, List.length_nil]; omega) (Ev.app (by simp only [List.length_append, hl8, List.length_cons, List.length_nil]; omega) (Ev.app (by simp only [List.length_append, hl8, List.length_cons, List.length_nil]; omega) (Ev.bind (two_ev (l := [s.Assert, s.Deassert]) (by simp; omega) (by simp) (by simp; exact h.words.2)) (fun y5 e5 => Ev.app (by rw [e5]; simp only [List.length_append, hl8, List.length_cons, List.length_nil, two_len]; omega) ?_)))))
    have hbe : hd8 s ++ s.Name ++ encC s.Conversion ++ [s.Limits.Mask] ++ s.Limits.Raw ++ [s.HystLower, s.HystUpper] ++ y5 = bdy s := by rw [e5]; simp [bdy, er, tl13]
    rw [hbe]
    exact Ev.bind (seal_ev (by omega) (by omega)) (fun y6 e6 => Ev.ret (by rw [e6]; rfl))
  · refine Ev.iteT rfl (Ev.bind (two_ev (l := [s.States, s.Assert, s.Deassert]) (by simp; omega) (by simp) (by simp; exact h.words)) (fun y2 e2 => Ev.app (by rw [e2]; simp only [List.length_append, hl8, List.length_cons, List.length_nil, two_len]; omega) ?_))
    have hbe : hd8 s ++ s.Name ++ y2 = bdy s := by rw [e2]; simp [bdy, rst, hd]
    rw [hbe]
    exact Ev.bind (seal_ev (by omega) (by omega)) (fun y6 e6 => Ev.ret (by rw [e6]; rfl))
theorem rest_ev {fuel : Nat} (hf : 1000 < fuel) {n : Int} {s : Sensor_} (h : FS n s) :
    Ev (sensor_rest fuel ⟨s.Number, s.Type_, s.Unit, s.Name, s.Entity, s.Discrete, Conversion_.z, Thresholds_.z, 0, 0, 0, 0, 0, s.HostOn, s.Samples⟩ (rst s)) (fun y => y = (s, 0)) := by
  unfold sensor_rest
  cases hd : s.Discrete
  · obtain ⟨c, l, hst, _⟩ := h.ana hd
    have er : rst s = encC s.Conversion ++ tl13 s := by simp [rst, hd]
    rw [er]
    refine Ev.join (fun x => x = (tl13 s, 13, ⟨s.Number, s.Type_, s.Unit, s.Name, s.Entity, false, s.Conversion, Thresholds_.z, 0, 0, 0, 0, 0, s.HostOn, s.Samples⟩)) (fun x hx => ?_) (fun j hj => Ev.iteT rfl (Ev.bind (Decode_ev (by omega) c _) (fun y4 e4 => ?_)))
    · subst hx
      obtain ⟨r0, r1, r2, r3, r4, r5, hr⟩ : ∃ r0 r1 r2 r3 r4 r5, s.Limits.Raw = [r0, r1, r2, r3, r4, r5] := by
        have hl := l.len
        match s.Limits.Raw, hl with
        | [r0, r1, r2, r3, r4, r5], _ => exact ⟨r0, r1, r2, r3, r4, r5, rfl⟩
      have et : tl13 s = [s.Limits.Mask, r0, r1, r2, r3, r4, r5, s.HystLower, s.HystUpper, s.Assert % 256, s.Assert / 256, s.Deassert % 256, s.Deassert / 256] := by simp [tl13, hr, two]
      rw [et]
      refine Ev.letP (Ev.iteF rfl (Ev.letP (Ev.iteF rfl (Ev.join (fun x => x = ⟨s.Number, s.Type_, s.Unit, s.Name, s.Entity, false, s.Conversion, s.Limits, s.HystLower, s.HystUpper, 0, 0, 0, s.HostOn, s.Samples⟩) (fun x hx => ?_) (fun j hj => Ev.iteF rfl ?_)))))
      · subst hx
        refine Ev.to (show sub _ (IntKind.i64.wrap (13 - 4)) _ = some [s.Assert % 256, s.Assert / 256, s.Deassert % 256, s.Deassert / 256] from rfl) (Ev.bind (word_ev fuel h.words.2.1 _) (fun y1 e1 => Ev.to (show sub _ (IntKind.i64.wrap (13 - 2)) _ = some [s.Deassert % 256, s.Deassert / 256] from rfl) (Ev.bind (word_ev fuel h.words.2.2 _) (fun y2 e2 => Ev.letP (Ev.letP (Ev.ret ?_))))))
        subst e1; subst e2
        obtain ⟨a1, a2, a3, a4, a5, a6, a7, a8, a9, a10, a11, a12, a13, a14, a15⟩ := s
        simp only at hd hst
        subst hd; subst hst; rfl
      · refine Ev.to (show idx _ 0 = some s.Limits.Mask from rfl) (Ev.to (show sub _ 1 7 = some [r0, r1, r2, r3, r4, r5] from rfl) (Ev.chk rfl (Ev.letP (Ev.to (show idx _ 7 = some s.HystLower from rfl) (Ev.to (show idx _ 8 = some s.HystUpper from rfl) (Ev.letP (Ev.letP (hj _ ?_))))))))
        have : (⟨s.Limits.Mask, [r0, r1, r2, r3, r4, r5].take 6⟩ : Thresholds_) = s.Limits := by rw [← hr, List.take_of_length_le (by rw [l.len]; omega)]
        rw [this]
    · subst e4
      refine Ev.iteF rfl (Ev.to (sub_end rfl) (Ev.letP (hj _ rfl)))
  · obtain ⟨e1, e2, e3, e4, e5, e6, e7⟩ := h.dis hd
    have er : rst s = [s.States % 256, s.States / 256, s.Assert % 256, s.Assert / 256, s.Deassert % 256, s.Deassert / 256] := by simp [rst, hd, two]
    rw [er]
    refine Ev.join (fun x => x = ([s.States % 256, s.States / 256, s.Assert % 256, s.Assert / 256, s.Deassert % 256, s.Deassert / 256], 6, ⟨s.Number, s.Type_, s.Unit, s.Name, s.Entity, true, Conversion_.z, Thresholds_.z, 0, 0, 0, 0, 0, s.HostOn, s.Samples⟩)) (fun x hx => ?_) (fun j hj => Ev.iteF rfl (hj _ rfl))
    subst hx
    refine Ev.letP (Ev.iteF rfl (Ev.letP (Ev.iteF rfl (Ev.join (fun x => x = ⟨s.Number, s.Type_, s.Unit, s.Name, s.Entity, true, Conversion_.z, Thresholds_.z, 0, 0, s.States, 0, 0, s.HostOn, s.Samples⟩) (fun x hx => ?_) (fun j hj => Ev.iteT rfl (Ev.bind (word_ev fuel h.words.1 _) (fun y3 e3 => Ev.letP (hj _ (by rw [e3])))))))))
    subst hx
    refine Ev.to (show sub _ (IntKind.i64.wrap (6 - 4)) _ = some [s.Assert % 256, s.Assert / 256, s.Deassert % 256, s.Deassert / 256] from rfl) (Ev.bind (word_ev fuel h.words.2.1 _) (fun y1 g1 => Ev.to (show sub _ (IntKind.i64.wrap (6 - 2)) _ = some [s.Deassert % 256, s.Deassert / 256] from rfl) (Ev.bind (word_ev fuel h.words.2.2 _) (fun y2 g2 => Ev.letP (Ev.letP (Ev.ret ?_))))))
    subst g1; subst g2
    obtain ⟨a1, a2, a3, a4, a5, a6, a7, a8, a9, a10, a11, a12, a13, a14, a15⟩ := s
    simp only at hd e1 e2 e3 e4
    subst hd; subst e1; subst e2; subst e3; subst e4; rfl
theorem SDecode_ev {fuel : Nat} (hf : 1000 < fuel) {n : Int} {s : Sensor_} (h : FS n s) : Ev (sensor_Decode fuel (encS s)) (fun y => y = (s, 0)) := by
  unfold sensor_Decode
  obtain ⟨f0, f1, f2, f3, f4, f5⟩ := flg_facts h
  have hb := bdy_len h
  have hn := h.name
  have hn2 := hn.2.1
  have hrl := rst_len h
  refine Ev.decF (by simp [encS]; omega) (Ev.bind (open_ev (by omega) (by omega)) (fun y1 e1 => ?_))
  subst e1
  have i0 : idx (bdy s) 0 = some 1 := rfl
  have i1 : idx (bdy s) 1 = some s.Number := rfl
  have i2 : idx (bdy s) 2 = some s.Type_ := rfl
  have i3 : idx (bdy s) 3 = some s.Unit := rfl
  have i4 : idx (bdy s) 4 = some s.Entity.ID := rfl
  have i5 : idx (bdy s) 5 = some s.Entity.Instance := rfl
  have i6 : idx (bdy s) 6 = some (flg s) := rfl
  have i7 : idx (bdy s) 7 = some (s.Name.length : Int) := rfl
  have hx3 : IntKind.i64.wrap (8 + IntKind.i64.wrap (s.Name.length : Int)) = 8 + s.Name.length := by rw [w_i64 (show -9223372036854775808 ≤ (s.Name.length : Int) by omega) (by omega), w_i64 (by omega) (by omega)]
  refine Ev.iteF rfl (Ev.to i0 (Ev.join (fun b => b = false) (fun b hb2 => Ev.iteF hb2 (Ev.to i7 (Ev.letE hx3 ?_))) (fun j hj => Ev.bneF rfl (Ev.to i6 (hj _ (by simp; omega))))))
  have s1 : sub (bdy s) 8 (8 + (s.Name.length : Int)) = some s.Name := sub_mid (a := hd8 s) rfl rfl
  have s2 : sub (bdy s) (8 + (s.Name.length : Int)) ((bdy s).length : Int) = some (rst s) := by
    have : bdy s = (hd8 s ++ s.Name) ++ rst s := by simp [bdy]
    rw [this]
    exact sub_end (by simp [hd8]; omega)
  have hts : toStr s.Name = s.Name := toStr_eq (fun x hx => by have := hn.2.2 x hx; unfold byte; omega)
  refine Ev.decF (by simp [bdy, hd8]; omega) (Ev.to i1 (Ev.to i2 (Ev.to i3 (Ev.to s1 (Ev.to i4 (Ev.to i5 (Ev.to i6 (Ev.to s2 ?_))))))))
  rw [hts, f2, f3, f4]
  refine Ev.bind (rest_ev hf h) (fun y2 e2 => ?_)
  subst e2
  exact Ev.letP (Ev.iteF rfl (Ev.to (h.valid (by omega)) (Ev.letP (Ev.iteF rfl (Ev.ret rfl)))))
end Lift
