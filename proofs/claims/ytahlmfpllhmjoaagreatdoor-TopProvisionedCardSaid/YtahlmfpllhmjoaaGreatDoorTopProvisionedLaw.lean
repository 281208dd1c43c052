import Derived.Test.YtahlmfpllhmjoaaGreatDoorTopl
import Derived.Test.YtahlmfpllhmjoaaGreatDoorTopm
import Derived.WalkKit
set_option linter.unusedVariables false
set_option linter.unusedSimpArgs false
namespace Lift
open Go
theorem conv_points {n : Int} {s : Sensor_} (h : FS n s) : s.Conversion.Points.length ≤ 12 := by
  cases hd : s.Discrete
  · exact (h.ana hd).1.points
  · rw [(h.dis hd).1]; decide
def fresh (l : List Sensor_) : monitor_Monitor := ⟨l, [], List.replicate l.length Filter_.z, List.replicate l.length 0⟩
theorem fresh_MT (l : List Sensor_) : MT l (fresh l) := ⟨rfl, rfl, by simp [fresh], fun F hF => by rw [List.eq_of_mem_replicate hF]; exact FT.z, by simp [fresh]⟩
theorem NewL_ev {fuel : Nat} (hf : 100 < fuel) {l : List Sensor_} (hl : SL l) : Ev (monitor_New fuel l []) (fun y => y = (some (fresh l), 0)) := by
  unfold monitor_New
  have h5 := hl.len
  refine Ev.bind (P := fun y => y = 0) ?_ (fun y1 e1 => Ev.bneF e1 (Ev.to (echeck_eq hf) (Ev.bneF rfl ?_)))
  · unfold monitor_check
    refine Ev.decF (by omega) (Ev.loop (fun (n : Nat) (x : Int) => ∃ i : Nat, x = i ∧ i + n = l.length) (fun n x hI self hself => ?_) (n := l.length) (by omega) ⟨0, rfl, by omega⟩)
    obtain ⟨i, rfl, i2⟩ := hI
    refine Ev.dec (fun hlt => Ev.idx (by omega) hlt (fun s e1 sm => ?_)) (fun _ => Ev.ret rfl)
    have hw : IntKind.i64.wrap ((i : Int) + 1) = ((i + 1 : Nat) : Int) := by rw [w_i64 (by omega) (by omega)]; rfl
    have hw' : IntKind.i64.wrap ((i : Int) - 1) = (i : Int) - 1 := w_i64 (by omega) (by omega)
    obtain ⟨nn, _, fs⟩ := hl.ok s sm
    rw [hw, hw']
    refine Ev.join (fun b => b = false) (fun b hb => Ev.iteF hb (hself (n - 1) _ (by omega) ⟨i + 1, rfl, by omega⟩)) (fun j hj => Ev.to (fs.valid hf) (Ev.letP (Ev.iteF rfl (Ev.letP (Ev.dec (fun hpos => Ev.idx (by omega) (by omega) (fun s2 e2 _ => hj _ ?_)) (fun _ => hj _ rfl))))))
    have := hl.asc ((i : Int) - 1).toNat s2 s e2 (by rw [show ((i : Int) - 1).toNat + 1 = (i : Int).toNat by omega]; exact e1)
    simp; omega
  · have c1 : slices_Clone_api_Sensor_api_Sensor fuel l = some l := by
      unfold slices_Clone_api_Sensor_api_Sensor
      rw [app_ok (by simp; omega)]; simp
    have c2 : slices_Clone_api_Association_api_Association fuel [] = some [] := rfl
    have c3 : mk 32 Filter_.z (l.length : Int) = some (List.replicate l.length Filter_.z) := by unfold mk; rw [if_pos ⟨by omega, by simp; omega⟩]; simp
    have c4 : mk 2 (0 : Int) (l.length : Int) = some (List.replicate l.length 0) := by unfold mk; rw [if_pos ⟨by omega, by simp; omega⟩]; simp
    refine Ev.to c1 (Ev.to c2 (Ev.to c3 (Ev.to c4 ?_)))
    refine Ev.loop (fun (n : Nat) (x : Int × List Sensor_) => ∃ i : Nat, x.1 = i ∧ i + n = l.length ∧ x.2 = l) (fun n x hI self hself => ?_) (n := l.length) (by omega) ⟨0, rfl, by omega, rfl⟩
    obtain ⟨pos, l'⟩ := x
    obtain ⟨i, i1, i2, i3⟩ := hI
    simp only at i1 i3 ⊢
    subst i1; subst i3
    refine Ev.dec (fun hlt => Ev.idx (by omega) hlt (fun s e1 sm => ?_)) (fun _ => Ev.ret rfl)
    have hw : IntKind.i64.wrap ((i : Int) + 1) = ((i + 1 : Nat) : Int) := by rw [w_i64 (by omega) (by omega)]; rfl
    obtain ⟨nn, _, fs⟩ := hl.ok s sm
    have hp := conv_points fs
    have hc : slices_Clone_api_Point_api_Point fuel s.Conversion.Points = some s.Conversion.Points := by
      unfold slices_Clone_api_Point_api_Point
      rw [app_ok (by simp; omega)]; simp
    simp only [Int.toNat_natCast] at e1
    rw [hw]
    refine Ev.to hc (Ev.to (show idx l' (i : Int) = some s by rw [idx_nat]; exact e1) (Ev.letP (hself (n - 1) _ (by omega) ⟨i + 1, rfl, by omega, ?_⟩)))
    simp only [upd, Int.toNat_natCast]
    apply List.ext_getElem?
    intro j
    rw [List.getElem?_set]
    by_cases e : i = j
    · subst e
      rw [if_pos rfl, if_pos (by omega), e1]
    · rw [if_neg e]
theorem near_ev {fuel : Nat} {d : made_Dice} (h : DOk d) {n : Int} {s : Sensor_} (fs : FS n s) : Ev (made_Dice_near fuel d s) (fun y => byte y.1 ∧ DOk y.2) := by
  unfold made_Dice_near
  have h6 := fs.lim6.1
  refine Ev.bind (Bool_ev fuel h (by decide) (by decide)) (fun y1 h1 => Ev.ite (fun _ => Ev.bind (Byte_ev fuel h1) (fun y2 h2 => Ev.ret h2)) (fun _ => Ev.bind (Next_ev fuel h1 (by decide) (by decide)) (fun y3 h3 => Ev.idx h3.1 (by have := h3.2.1; omega) (fun x1 _ _ => Ev.chk (by rw [h6]; rfl) (Ev.bind (Next_ev fuel h3.2.2 (by decide) (by decide)) (fun y4 h4 => Ev.letP (Ev.ret ⟨u8_byte _, h4.2.2⟩)))))))
theorem Samples_ev {fuel : Nat} (hf : 100 < fuel) {d : made_Dice} (h : DOk d) {l : List Sensor_} (hl : SL l) : Ev (made_Dice_Samples fuel d l) (fun y => (y.1.length ≤ 5 ∧ ∀ x ∈ y.1, byte x.Raw) ∧ DOk y.2) := by
  unfold made_Dice_Samples
  have h5 := hl.len
  refine Ev.loop (fun (n : Nat) (x : Int × made_Dice × List Sample_) => ∃ i : Nat, x.1 = i ∧ i + n = l.length ∧ x.2.2.length ≤ i ∧ (∀ v ∈ x.2.2, byte v.Raw) ∧ DOk x.2.1) (fun n x hI self hself => ?_) (n := l.length) (by omega) ⟨0, rfl, by omega, by simp, by simp, h⟩
  obtain ⟨pos, dc, acc⟩ := x
  obtain ⟨i, i1, i2, i3, i4, i5⟩ := hI
  simp only at i1 i3 i4 i5 ⊢
  subst i1
  refine Ev.dec (fun hlt => Ev.idx (by omega) hlt (fun s e1 sm => ?_)) (fun _ => Ev.ret ⟨⟨by simp only; omega, i4⟩, i5⟩)
  have hw : IntKind.i64.wrap ((i : Int) + 1) = ((i + 1 : Nat) : Int) := by rw [w_i64 (by omega) (by omega)]; rfl
  obtain ⟨nn, _, fs⟩ := hl.ok s sm
  refine Ev.bind (Bool_ev fuel i5 (by decide) (by decide)) (fun y1 h1 => Ev.ite (fun _ => Ev.letE hw (hself (n - 1) _ (by omega) ⟨i + 1, rfl, by omega, by simp only; omega, i4, h1⟩)) (fun _ => Ev.bind (Bool_ev fuel h1 (by decide) (by decide)) (fun y2 h2 => ?_)))
  refine Ev.join (fun _ => True) (fun b _ => ?_) (fun j hj => Ev.ite (fun _ => hj _ trivial) (fun _ => hj _ trivial))
  refine Ev.join (fun v => DOk v.1 ∧ byte v.2.Raw) (fun v hv => ?_) (fun j hj => Ev.ite (fun _ => Ev.bind (Next_ev fuel h2 (by decide) (by decide)) (fun y8 h8 => hj _ ⟨h8.2.2, zbyte⟩)) (fun _ => hj _ ⟨h2, zbyte⟩))
  refine Ev.join (fun _ => True) (fun b _ => ?_) (fun j hj => Ev.ite (fun _ => hj _ trivial) (fun _ => hj _ trivial))
  refine Ev.join (fun v => DOk v.1 ∧ byte v.2.Raw) (fun v hv => ?_) (fun j hj => Ev.ite (fun _ => Ev.bind (near_ev hv.1 fs) (fun y7 h7 => Ev.letP (hj _ ⟨h7.2, h7.1⟩))) (fun _ => hj _ hv))
  refine Ev.bind (Bool_ev fuel hv.1 (by decide) (by decide)) (fun y3 h3 => ?_)
  refine Ev.join (fun v => DOk v.1 ∧ byte v.2.Raw) (fun v hv => Ev.app (by simp; omega) (Ev.letE hw (hself (n - 1) _ (by omega) ⟨i + 1, rfl, by omega, by simp; omega, fun x hx => ?_, hv.1⟩))) (fun j hj => Ev.ite (fun _ => Ev.bind (Byte_ev fuel h3) (fun y4 h4 => Ev.letP (Ev.bind (Next_ev fuel h4.2 (by decide) (by decide)) (fun y5 h5' => Ev.letP (Ev.bind (Byte_ev fuel h5'.2.2) (fun y6 h6 => Ev.letP (hj _ ⟨h6.2, h4.1⟩))))))) (fun _ => hj _ ⟨h3, hv.2⟩))
  rcases List.mem_append.1 hx with hx | hx
  · exact i4 x hx
  · simp only [List.mem_singleton] at hx; subst hx; exact hv.2
theorem Entities_ev {fuel : Nat} (hf : 100 < fuel) {d : made_Dice} (h : DOk d) : Ev (made_Dice_Entities fuel d 2) (fun y => y.1.length ≤ 10 ∧ DOk y.2) := by
  unfold made_Dice_Entities
  refine Ev.bind (Next_ev fuel h (by decide) (by decide)) (fun y1 h1 => ?_)
  obtain ⟨a0, a1, hd⟩ := h1
  have a2 : y1.1 < 3 := a1
  refine Ev.loop (fun (k : Nat) (x : Int × made_Dice × List Entity_) => x.1 = k ∧ x.2.2.length + k ≤ 5 ∧ DOk x.2.1) (fun k x hI self hself => ?_) (n := y1.1.toNat) (by omega) ⟨by simp only; omega, by simp; omega, hd⟩
  obtain ⟨pos, dc, acc⟩ := x
  obtain ⟨i1, i2, i3⟩ := hI
  simp only at i1 i2 i3 ⊢
  refine Ev.dec (fun hpos => Ev.bind (Entity_ev fuel i3) (fun y2 h2 => Ev.app (by simp; omega) (Ev.letE (c := pos - 1) (w_i64 (by omega) (by omega)) (hself (k - 1) _ (by omega) ⟨by simp only; omega, by simp; omega, h2⟩)))) (fun _ => Ev.ret ⟨by simp only; omega, i3⟩)
theorem eqL_refl : ∀ l : List Int, eqL eqI l l = true
  | [] => rfl
  | x :: l => by simp [eqL, eqI, eqL_refl l]
theorem Event_refl (e : Event_) : Event_.eqb e e = true := by simp [Event_.eqb, eqI, eqB, eqL_refl]
theorem Same_refl {fuel : Nat} (hf : 100 < fuel) {l : List Event_} (h : l.length ≤ 75) : Ev (ref07_SameList fuel l l) (fun b => b = true) := by
  unfold ref07_SameList
  refine Ev.bneF rfl (Ev.loop (fun (n : Nat) (x : Int) => ∃ i : Nat, x = i ∧ i + n = l.length) (fun n x hI self hself => ?_) (n := l.length) (by omega) ⟨0, rfl, by omega⟩)
  obtain ⟨i, rfl, i2⟩ := hI
  refine Ev.dec (fun hlt => ?_) (fun _ => Ev.ret rfl)
  obtain ⟨x, e, _, _⟩ := idx_ok (l := l) (i := (i : Int)) (by omega) hlt
  have hw : IntKind.i64.wrap ((i : Int) + 1) = ((i + 1 : Nat) : Int) := by rw [w_i64 (by omega) (by omega)]; rfl
  exact Ev.to e (Ev.to e (Ev.iteF (by rw [Event_refl]; rfl) (Ev.letE hw (hself (n - 1) _ (by omega) ⟨i + 1, rfl, by omega⟩))))
theorem encS_len {n : Int} {s : Sensor_} (h : FS n s) : 1 ≤ (encS s).length ∧ (encS s).length ≤ 160 := by
  have := bdy_len h
  simp [encS]; omega
theorem BS_of {l : List Sensor_} (hl : SL l) : BS (l.map encS) := ⟨by simpa using hl.len, fun b hb => by
  obtain ⟨s, hs, rfl⟩ := List.mem_map.1 hb
  obtain ⟨n, _, fs⟩ := hl.ok s hs
  exact encS_len fs⟩
theorem BS_take {l : List Sensor_} (hl : SL l) (i : Nat) : BS ((l.take i).map encS) := ⟨by have := hl.len; simp; omega, fun b hb => by
  obtain ⟨s, hs, rfl⟩ := List.mem_map.1 hb
  obtain ⟨n, _, fs⟩ := hl.ok s (List.mem_of_mem_take hs)
  exact encS_len fs⟩
theorem top_first_eq : top_first 20000000000 = some true := by kernel_rfl
theorem top_TopProvisioned_true (a0 : List Int) (a1 : List (List Int)) (a2 : Int) (o0 : okL (okI .i64) a0) (o1 : okL (okL (okI .i64)) a1) (o2 : okI .i64 a2) : ∃ fuel, top_TopProvisioned fuel a0 a1 a2 = some true := by
  refine ⟨20000000000, Ev.isTrue ?_⟩
  have hf : 1000 < 20000000000 := by omega
  have hf1 : 100 < 20000000000 := by omega
  have hfirst := top_first_eq
  generalize 20000000000 = fuel at hf hf1 hfirst ⊢
  unfold top_TopProvisioned
  refine Ev.to hfirst (Ev.iteF rfl ?_)
  refine Ev.bind (P := fun b => b = decide ((a0.length : Int) ≤ 600)) (by unfold made_Light; exact Ev.letP (Ev.ret rfl)) (fun b hb => ?_)
  subst hb
  refine Ev.join (fun b => b = true ∨ (b = false ∧ a0.length ≤ 600 ∧ a1.length ≤ 12)) (fun b hb => ?_) (fun j hj => Ev.not (Ev.dec (fun h1 => hj _ ?_) (fun _ => hj _ (.inl rfl))))
  · rcases hb with hb | ⟨hb, l0, l1⟩
    · exact Ev.iteT hb (Ev.ret rfl)
    refine Ev.iteF hb (Ev.bind (P := fun d => d = ⟨a0, 0⟩) (Ev.ret rfl) (fun d hd => ?_))
    subst hd
    refine Ev.bind (Sensors_ev hf1 (roll_ok (by omega))) (fun y4 h4 => ?_)
    obtain ⟨hl, _⟩ := h4
    obtain ⟨l, dd⟩ := y4
    simp only at hl ⊢
    have h5 := hl.len
    refine Ev.bind (P := fun y => y = (some ⟨800, [], 0, 0, false⟩, 0)) (by unfold repository_New; exact Ev.join (fun b => b = false) (fun b hb => Ev.iteF hb (Ev.ret rfl)) (fun j hj => Ev.decF (by omega) (hj _ (by simp)))) (fun y5 e5 => ?_)
    subst e5
    refine Ev.join (fun b => b = false) (fun b hb => Ev.iteF hb ?_) (fun j hj => Ev.iteF rfl (hj _ rfl))
    refine Ev.loop (fun (n : Nat) (x : Int × Option repository_Repository) => ∃ i : Nat, x.1 = i ∧ i + n = l.length ∧ x.2 = some ⟨800, recs 0 ((l.take i).map encS), (((l.take i).map encS).length : Int), 0, false⟩) (fun n x hI self hself => ?_) (n := l.length) (by omega) ⟨0, rfl, by omega, rfl⟩
    obtain ⟨pos, om⟩ := x
    obtain ⟨i, i1, i2, i3⟩ := hI
    simp only at i1 i3 ⊢
    subst i1; subst i3
    refine Ev.dec (fun hlt => Ev.idx (by omega) hlt (fun s e1 sm => ?_)) (fun hge => ?_)
    · obtain ⟨nn, _, fs⟩ := hl.ok s sm
      simp only [Int.toNat_natCast] at e1
      have hw : IntKind.i64.wrap ((i : Int) + 1) = ((i + 1 : Nat) : Int) := by rw [w_i64 (by omega) (by omega)]; rfl
      have ht : (l.take i).map encS ++ [encS s] = (l.take (i + 1)).map encS := by rw [List.take_add_one, e1]; simp
      refine Ev.bind (SEncode_ev hf fs) (fun y6 e6 => ?_)
      subst e6
      refine Ev.bneF rfl (Ev.to rfl (Ev.bind (Add_ev hf1 (bs := (l.take i).map encS) (b := encS s) (by rw [ht]; exact BS_take hl _)) (fun y7 h7 => Ev.bneF h7.1 (Ev.letE hw (hself (n - 1) _ (by omega) ⟨i + 1, rfl, by omega, ?_⟩)))))
      rw [h7.2, ht]
    · have hi : l.take i = l := List.take_of_length_le (by omega)
      rw [hi]
      have hbs := BS_of hl
      refine Ev.to (Mod_eq fuel (by decide) (by decide)) ?_
      have y0 : 0 ≤ a2 % 40 := Int.emod_nonneg _ (by omega)
      have y1 : a2 % 40 < 40 := Int.emod_lt_of_pos _ (by omega)
      obtain ⟨k, hk⟩ : ∃ k : Nat, 1 + a2 % 40 = k := ⟨(1 + a2 % 40).toNat, by omega⟩
      refine Ev.letE (c := (k : Int)) (by rw [w_i64 (by omega) (by omega)]; exact hk) (Ev.to rfl (Ev.bind (Reserve_ev fuel _) (fun y9 e9 => ?_)))
      subst e9
      refine Ev.bind (IDs_ev hf1 hbs) (fun y10 h10 => ?_)
      obtain ⟨t1, t2⟩ := h10
      simp only [List.length_map] at t1 t2
      refine Ev.loop (fun (n : Nat) (x : Int × List Sensor_) => ∃ i : Nat, x.1 = i ∧ i + n = l.length ∧ x.2 = l.take i) (fun n x hI self hself => ?_) (n := l.length) (by omega) ⟨0, rfl, by omega, rfl⟩
      obtain ⟨pos, acc⟩ := x
      obtain ⟨i, i1, i2, i3⟩ := hI
      simp only at i1 i3 ⊢
      subst i1; subst i3
      refine Ev.dec (fun hlt => ?_) (fun hge => ?_)
      · have hil : i < l.length := by omega
        obtain ⟨s, e1⟩ : ∃ s, l[i]? = some s := ⟨_, List.getElem?_eq_getElem hil⟩
        obtain ⟨nn, _, fs⟩ := hl.ok s (List.mem_of_getElem? e1)
        have hid : idx y10 (i : Int) = some ((i + 1 : Nat) : Int) := by rw [idx_nat]; exact t2 i hil
        have hbe : (l.map encS)[i]? = some (encS s) := by rw [List.getElem?_map, e1]; rfl
        have hel := encS_len fs
        have hw : IntKind.i64.wrap ((i : Int) + 1) = ((i + 1 : Nat) : Int) := by rw [w_i64 (by omega) (by omega)]; rfl
        refine Ev.to hid (Ev.bind (Get_ev hf1 hbs hbe) (fun y11 h11 => ?_))
        obtain ⟨whole, nx, st⟩ := y11
        obtain ⟨g1, g2⟩ := h11
        simp only at g1 g2 ⊢
        subst g1; subst g2
        refine Ev.loop (fun (n : Nat) (x : Int × List Int) => ∃ p : Nat, x.1 = p ∧ p ≤ 1000 ∧ ((encS s).length ≤ p ∨ p + n = (encS s).length) ∧ x.2 = (encS s).take p) (fun n' x hI2 self2 hself2 => ?_) (n := (encS s).length) (by omega) ⟨0, rfl, by omega, by omega, rfl⟩
        obtain ⟨pos2, part⟩ := x
        obtain ⟨p, p1, p2, p3, p4⟩ := hI2
        simp only at p1 p4 ⊢
        subst p1; subst p4
        refine Ev.dec (fun hlt2 => ?_) (fun hge2 => ?_)
        · have hm : min (k : Int) (IntKind.i64.wrap (((encS s).length : Int) - (p : Int))) = ((min k ((encS s).length - p) : Nat) : Int) := by
            rw [w_i64 (by omega) (by omega)]; omega
          rw [hm]
          refine Ev.to hid (Ev.bind (Read_ev hf1 hbs hbe (p := p) (n := min k ((encS s).length - p)) (by omega)) (fun y12 h12 => Ev.bneF h12.2 ?_))
          rw [h12.1]
          refine Ev.app (by simp; omega) (Ev.letE (c := ((p + k : Nat) : Int)) (by rw [w_i64 (by omega) (by omega)]; rfl) (hself2 ((encS s).length - (p + k)) _ (by omega) ⟨p + k, rfl, by omega, by omega, ?_⟩))
          · simp only
            rw [List.take_add]
            congr 1
            rcases Nat.le_total k ((encS s).length - p) with hc | hc
            · rw [Nat.min_eq_left hc]
            · rw [Nat.min_eq_right hc, List.take_of_length_le (by simp), List.take_of_length_le (by simp; omega)]
        · have hfull : (encS s).take p = encS s := List.take_of_length_le (by omega)
          rw [hfull]
          refine Ev.bind (SDecode_ev hf fs) (fun y13 e13 => ?_)
          subst e13
          refine Ev.join (fun b => b = false) (fun b hb => Ev.iteF hb (Ev.app (by simp; omega) (Ev.letE hw (hself (n - 1) _ (by omega) ⟨i + 1, rfl, by omega, ?_⟩)))) (fun j hj => Ev.bneF rfl (hj _ rfl))
          rw [List.take_add_one, e1]; rfl
      · have hi2 : l.take i = l := List.take_of_length_le (by omega)
        rw [hi2]
        refine Ev.bind (NewL_ev hf1 hl) (fun y14 e14 => ?_)
        subst e14
        refine Ev.bind (NewL_ev hf1 hl) (fun y15 e15 => ?_)
        subst e15
        refine Ev.join (fun b => b = false) (fun b hb => Ev.iteF hb ?_) (fun j hj => Ev.bneF rfl (Ev.bneF rfl (Ev.iteF rfl (Ev.iteF rfl (hj _ (by simp))))))
        refine Ev.loop (fun (n : Nat) (x : Int × Option monitor_Monitor × Option monitor_Monitor) => ∃ (i : Nat) (m : monitor_Monitor), x.1 = i ∧ i + n = a1.length ∧ x.2.1 = some m ∧ x.2.2 = some m ∧ MT l m) (fun n x hI self hself => ?_) (n := a1.length) (by omega) ⟨0, fresh l, rfl, by omega, rfl, rfl, fresh_MT l⟩
        obtain ⟨pos, ma, mb⟩ := x
        obtain ⟨i, m, i1, i2, i3, i4, i5⟩ := hI
        simp only at i1 i3 i4 ⊢
        subst i1; subst i3; subst i4
        refine Ev.dec (fun hlt => ?_) (fun _ => Ev.ret rfl)
        obtain ⟨x, ex, _, _⟩ := idx_ok (l := a1) (i := (i : Int)) (by omega) hlt
        have hw : IntKind.i64.wrap ((i : Int) + 1) = ((i + 1 : Nat) : Int) := by rw [w_i64 (by omega) (by omega)]; rfl
        refine Ev.to ex (Ev.dec (fun _ => Ev.ret rfl) (fun hsm => Ev.to ex (Ev.bind (P := fun d => d = ⟨x, 0⟩) (Ev.ret rfl) (fun d hd => ?_))))
        subst hd
        refine Ev.bind (Samples_ev hf1 (roll_ok (by omega)) hl) (fun y17 h17 => Ev.bind (Entities_ev hf1 h17.2) (fun y18 h18 => Ev.bind (Bool_ev fuel h18.2 (by decide) (by decide)) (fun y19 _ => Ev.to rfl ?_)))
        obtain ⟨y20, e20, h20⟩ := Scan_tot hf1 hl i5 h17.1.1 h17.1.2 h18.1 y19.1
        refine Ev.to e20 (Ev.to rfl (Ev.to e20 (Ev.join (fun b => b = false) (fun b hb => Ev.iteF hb (Ev.letE hw (hself (n - 1) _ (by omega) ⟨i + 1, y20.2.2, rfl, by omega, rfl, rfl, h20.1⟩))) (fun j hj => Ev.bneF rfl (Ev.bind (Same_refl hf1 h20.2) (fun y22 e22 => hj _ (by rw [e22]; rfl)))))))
  · by_cases c : a1.length ≤ 12
    · exact .inr ⟨by simp; omega, by omega, c⟩
    · exact .inl (by simp; omega)
end Lift
