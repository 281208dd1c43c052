/- The plain law of FragmentPlays. uses: base lists ev each dice dicebytes frag fragb fragm fraga dicedq fragr
-/
import Derived.Test.YtnilklnmhndlnaaFragr
set_option linter.unusedVariables false
set_option linter.unusedSimpArgs false
namespace Lift
open Go
theorem Open_eq (fuel : Nat) (a : fragment_Assembler) : fragment_Assembler_Open fuel a = some (a.open_.length : Int) := rfl
theorem mk_some0 {n : Int} (h : 0 ≤ n ∧ n ≤ 1000) : mk 1 (0 : Int) n = some (List.replicate n.toNat 0) := by simp [mk]; omega
theorem law22_FragmentPlays_true (a0 : Int) (a1 : List Packet_) (a2 : List Int) (o0 : okI .u8 a0) (o1 : okL Packet_.ok a1) (o2 : okL (okI .i64) a2) : ∃ fuel, law22_FragmentPlays fuel a0 a1 a2 = some true := by
  refine ⟨10000, Ev.isTrue ?_⟩
  unfold law22_FragmentPlays
  rw [joinP]
  have skip : Ev (bindP (law22_awake 10000) fun y2 => some y2) (fun b => b = true) := Ev.to awake22 (Ev.ret rfl)
  refine Ev.dec (fun _ => skip) (fun h0 => ?_)
  rw [Light_eq, bindP_some]
  refine Ev.not (Ev.dec (fun h2 => ?_) (fun _ => skip))
  rw [FNew_eq, bindP_some, RNew_eq, bindP_some, joinP]
  have main : Ev (bindP (fragment_New 10000 9) fun y4 => bindP (ref22_New 10000 9) fun y5 => some true) (fun b => b = true) := by
    rw [FNew_eq, bindP_some, RNew_eq, bindP_some]; exact Ev.ret rfl
  refine Ev.bneF (by cases endp a0 <;> rfl) ?_
  refine Ev.iteF (by cases endp a0 <;> rfl) ?_
  have n1 : fragment_New 10000 9 = some (some ⟨9, []⟩, 0) := FNew_eq 10000 9
  have n2 : ref22_New 10000 9 = some (some (refOf ⟨9, []⟩), 0) := RNew_eq 10000 9
  rw [n1, bindP_some, n2, bindP_some, joinP]
  refine Ev.iteF rfl (Ev.iteF rfl ?_)
  rw [Roll_eq, bindP_some]
  -- the packets that are given
  refine Ev.loop (fun r (s : Int × List Packet_) => ∃ i : Nat, i ≤ a1.length ∧ r = a1.length - i ∧ s.1 = (i : Int) ∧ s.2.length = i) (fun r s hi self hself => ?_) (n := a1.length) (by omega) ⟨0, by omega, by omega, rfl, rfl⟩
  obtain ⟨i, hi, hr, hs1, hs2⟩ := hi
  by_cases hl : i < a1.length
  · have hx : a1[i]? = some (a1[i]'hl) := by simp
    refine Ev.decT (by omega) ?_
    rw [hs1, idx_nat, hx, bindP_some]
    refine Ev.dec (fun _ => skip) (fun _ => ?_)
    rw [bindP_some, app_ok (by simp; omega), bindP_some, letP_eq, wi i (by omega)]
    exact hself (a1.length - (i + 1)) _ (by omega) ⟨i + 1, by omega, rfl, by simp, by simp; omega⟩
  refine Ev.decF (by omega) ?_
  generalize hall : s.2 = all at *
  -- the dice's packets
  refine Ev.loop (fun r (t : made_Dice × Option fragment_Assembler × Option ref22_Assembler) => ∃ a, t.2.1 = some a ∧ t.2.2 = some (refOf a) ∧ AR a ∧ DQ a2 (a2.length - r) t.1) (fun r t ht self hself => ?_) (n := a2.length) (by omega)
    ⟨⟨9, []⟩, rfl, rfl, new_AR 9, rfl, by omega, by omega, by simp, by simp⟩
  obtain ⟨a, ht1, ht2, hA, hD⟩ := ht
  have hDL : made_Dice_Left 10000 t.1 = some (decide (t.1.At < (a2.length : Int))) := by
    unfold made_Dice_Left; rw [hD.1]; rfl
  rw [hDL, bindP_some, joinP]
  have rest : Ev (loopP (fun k3 (s11 : (Int × (Option fragment_Assembler) × (Option ref22_Assembler))) =>
      iteP (decide (s11.1 < (all.length : Int))) (bindP (idx all s11.1) fun x15 => bindP s11.2.1 fun x16 => bindP (fragment_Assembler_Accept 10000 x16 x15) fun y24 => bindP (idx all s11.1) fun x17 => bindP s11.2.2 fun x18 => bindP (ref22_Assembler_Accept 10000 x18 x17) fun y25 =>
      joinP (fun (s12 : Bool) => iteP s12 (some false) (letP (IntKind.i64.wrap (s11.1 + 1)) fun x19 => k3 (x19, (some y24.2.2.2), (some y25.2.2.2)))) fun j9 =>
      letP (y24.2.2.1 != y25.2.2.1) fun x20 => iteP x20 (j9 (true)) (letP (y24.2.1 != y25.2.1) fun x21 => iteP x21 (j9 (true)) (bindP (ref22_SameWhole 10000 y24.1 y25.1) fun y26 => letP (!y26) fun x22 => iteP x22 (j9 (true)) (
      bindP (fragment_Assembler_Open 10000 y24.2.2.2) fun y27 => j9 (y27 != (y25.2.2.2.Items.length : Int)))))) (bindP (law22_awake 10000) fun y28 => some y28)) 10000 (0, t.2.1, t.2.2)) (fun b => b = true) := by
    refine Ev.loop (fun r (s : Int × Option fragment_Assembler × Option ref22_Assembler) => ∃ (i : Nat) (a : fragment_Assembler), i ≤ all.length ∧ r = all.length - i ∧ s = ((i : Int), some a, some (refOf a)) ∧ AR a) (fun r s hi self hself => ?_) (n := all.length) (by omega) ⟨0, a, by omega, by omega, by rw [ht1, ht2]; rfl, hA⟩
    obtain ⟨i, a, hi, hr, rfl, hA⟩ := hi
    by_cases hl : i < all.length
    · have hx : all[i]? = some (all[i]'hl) := by simp
      refine Ev.decT (by simp only; omega) ?_
      simp only [idx_nat, hx, bindP_some]
      rw [Accept_eq (by omega) hA, bindP_some, RAccept_eq (by omega) hA, bindP_some, joinP, letP_eq]
      refine Ev.bneF rfl ?_
      rw [letP_eq]
      refine Ev.bneF rfl ?_
      rw [SameWhole_eq (by omega) _ (acc_small hA _), bindP_some, letP_eq]
      refine Ev.iteF rfl ?_
      rw [Open_eq, bindP_some]
      refine Ev.iteF (by simp [refOf]) ?_
      rw [letP_eq, wi i (by omega)]
      exact hself (all.length - (i + 1)) _ (by omega) ⟨i + 1, _, by omega, rfl, rfl, (hA.acc _).1⟩
    · refine Ev.decF (by simp only; omega) skip
  refine Ev.dec (fun hlt => ?_) (fun _ => Ev.iteF rfl rest)
  refine Ev.dec (fun _ => ?_) (fun _ => rest)
  have hr0 : 0 < r := by have := hD.2.2.2.1; omega
  have hD1 : DQ a2 t.1.At t.1 := ⟨hD.1, hD.2.1, by have := hD.2.2; omega, by omega, hD.2.2.2.2⟩
  -- a packet: the first draw takes one of the numbers
  obtain ⟨p, d1, e1, hp1, hp2, hd1⟩ : ∃ p d1, made_Dice_Packet 10000 t.1 = some (p, d1) ∧ p.Data.length ≤ 100 ∧ (∀ x ∈ p.Data, byte x) ∧ DQ a2 (t.1.At + 1) d1 := by
    have hD2 := hD1
    exact Packet_dq1 (by omega) hD1 hlt
  rw [e1, bindP_some]
  obtain ⟨b2, d2, e2, hd2⟩ := Bool_dq 10000 hd1 (m := 2) (by omega) (by omega)
  rw [e2, bindP_some, joinP]
  have fin : ∀ (d : made_Dice) (p : Packet_), DQ a2 (t.1.At + 1) d → Ev (bindP (made_Dice_Bool 10000 d 9) fun y11 => joinP (fun (s9 : (made_Dice × Packet_)) =>
      bindP t.2.1 fun x5 => bindP (fragment_Assembler_Accept 10000 x5 s9.2) fun y12 => bindP (some (refOf a)) fun x6 => bindP (ref22_Assembler_Accept 10000 x6 s9.2) fun y13 => letP (y12.2.2.1 != y13.2.2.1) fun x7 => iteP x7 (some false) (
      letP (y12.2.1 != y13.2.1) fun x8 => iteP x8 (some false) (bindP (ref22_SameWhole 10000 y12.1 y13.1) fun y14 => letP (!y14) fun x9 => iteP x9 (some false) (bindP (fragment_Assembler_Open 10000 y12.2.2.2) fun y15 => iteP (y15 != (y13.2.2.2.Items.length : Int)) (some false) (
      self (s9.1, (some y12.2.2.2), (some y13.2.2.2))))))) fun j7 => iteP y11.1 (bindP (made_Dice_Next 10000 y11.2 5) fun y16 => bindP (made_Dice_Next 10000 y16.2 8) fun y17 => letP ({ p with Start := true }) fun d1 => letP ({ d1 with From := (IntKind.u8.wrap (IntKind.i64.wrap (10 + y16.1))) }) fun d2 =>
      letP ({ d2 with Tag := y17.1 }) fun d3 => j7 (y17.2, d3)) (j7 (y11.2, p))) (fun b => b = true) := by
    intro d p hd
    obtain ⟨b3, d3, e3, hd3⟩ := Bool_dq 10000 hd (m := 9) (by omega) (by omega)
    rw [e3, bindP_some, joinP]
    have tail : ∀ (d : made_Dice) (p : Packet_), DQ a2 (t.1.At + 1) d → Ev (bindP t.2.1 fun x5 => bindP (fragment_Assembler_Accept 10000 x5 p) fun y12 => bindP (some (refOf a)) fun x6 => bindP (ref22_Assembler_Accept 10000 x6 p) fun y13 => letP (y12.2.2.1 != y13.2.2.1) fun x7 => iteP x7 (some false) (
        letP (y12.2.1 != y13.2.1) fun x8 => iteP x8 (some false) (bindP (ref22_SameWhole 10000 y12.1 y13.1) fun y14 => letP (!y14) fun x9 => iteP x9 (some false) (bindP (fragment_Assembler_Open 10000 y12.2.2.2) fun y15 => iteP (y15 != (y13.2.2.2.Items.length : Int)) (some false) (
        self (d, (some y12.2.2.2), (some y13.2.2.2))))))) (fun b => b = true) := by
      intro d p hd
      rw [ht1, bindP_some, Accept_eq (by omega) hA, bindP_some, bindP_some, RAccept_eq (by omega) hA, bindP_some, letP_eq]
      refine Ev.bneF rfl ?_
      rw [letP_eq]
      refine Ev.bneF rfl ?_
      rw [SameWhole_eq (by omega) _ (acc_small hA _), bindP_some, letP_eq]
      refine Ev.iteF rfl ?_
      rw [Open_eq, bindP_some]
      refine Ev.iteF (by simp [refOf]) ?_
      refine hself (r - 1) _ (by omega) ⟨_, rfl, rfl, (hA.acc _).1, ?_⟩
      obtain ⟨q1, q2, q3, q4, q5⟩ := hd
      have := hD.2.2
      exact ⟨q1, q2, by omega, by show _ ≤ d.At; omega, q5⟩
    cases b3 with
    | false => exact tail _ _ hd3
    | true =>
      obtain ⟨r4, d4, e4, _, _, hd4, _⟩ := Next_dq 10000 hd3 (m := 5) (by omega) (by omega)
      obtain ⟨r5, d5, e5, _, _, hd5, _⟩ := Next_dq 10000 hd4 (m := 8) (by omega) (by omega)
      refine Ev.iteT rfl ?_
      rw [e4, bindP_some, e5, bindP_some]
      exact tail _ _ hd5
  cases b2 with
  | false =>
    refine Ev.iteF rfl ?_
    rw [ht2]
    dsimp only
    rw [joinP, iteP_false]
    exact fin _ _ hd2
  | true =>
    refine Ev.iteT rfl ?_
    rw [ht2, bindP_some]
    refine Ev.dec (fun hpos => ?_) (fun _ => fin _ _ hd2)
    rw [bindP_some]
    have hln : ((refOf a).Items.length : Int) = (a.open_.length : Int) := by simp [refOf]
    have hle := hA.le
    rw [hln] at hpos ⊢
    obtain ⟨r6, d6, e6, q1, q2, hd6, _⟩ := Next_dq 10000 hd2 (m := (a.open_.length : Int)) (by omega) (by omega)
    rw [e6, bindP_some]
    obtain ⟨n, hn⟩ : ∃ n : Nat, r6 = n := ⟨r6.toNat, by omega⟩
    have hx : a.open_[n]? = some (a.open_[n]'(by omega)) := by simp
    obtain ⟨o1, o2, o3, o4, o5⟩ := hA.el _ (List.mem_of_getElem? hx)
    rw [hn, show (refOf a).Items = a.open_.map toI from rfl, idx_map hx, bindP_some]
    generalize a.open_[n]'(by omega) = o at *
    obtain ⟨b7, d7, e7, hd7⟩ := Bool_dq 10000 hd6 (m := 4) (by omega) (by omega)
    obtain ⟨b8, d8, e8, hd8⟩ := Bool_dq 10000 hd7 (m := 15) (by omega) (by omega)
    rw [e7, bindP_some, show (toI o).Size = o.size from rfl, mk_some0 ⟨o4, by omega⟩, bindP_some, e8, bindP_some, joinP]
    have more : ∀ (d : made_Dice) (p : Packet_), DQ a2 (t.1.At + 1) d → Ev (bindP (made_Dice_Bool 10000 d 15) fun y21 => iteP y21.1 (bindP (made_Dice_Next 10000 y21.2 64) fun y22 => bindP (mk 1 0 (IntKind.i64.wrap (1 + y22.1))) fun x13 =>
        (fun (s8 : (made_Dice × Packet_ × (Option ref22_Assembler))) => bindP (made_Dice_Bool 10000 s8.1 9) fun y11 => joinP (fun (s9 : (made_Dice × Packet_)) =>
      bindP t.2.1 fun x5 => bindP (fragment_Assembler_Accept 10000 x5 s9.2) fun y12 => bindP s8.2.2 fun x6 => bindP (ref22_Assembler_Accept 10000 x6 s9.2) fun y13 => letP (y12.2.2.1 != y13.2.2.1) fun x7 => iteP x7 (some false) (
      letP (y12.2.1 != y13.2.1) fun x8 => iteP x8 (some false) (bindP (ref22_SameWhole 10000 y12.1 y13.1) fun y14 => letP (!y14) fun x9 => iteP x9 (some false) (bindP (fragment_Assembler_Open 10000 y12.2.2.2) fun y15 => iteP (y15 != (y13.2.2.2.Items.length : Int)) (some false) (
      self (s9.1, (some y12.2.2.2), (some y13.2.2.2))))))) fun j7 => iteP y11.1 (bindP (made_Dice_Next 10000 y11.2 5) fun y16 => bindP (made_Dice_Next 10000 y16.2 8) fun y17 => letP ({ s8.2.1 with Start := true }) fun d1 => letP ({ d1 with From := (IntKind.u8.wrap (IntKind.i64.wrap (10 + y16.1))) }) fun d2 =>
      letP ({ d2 with Tag := y17.1 }) fun d3 => j7 (y17.2, d3)) (j7 (y11.2, s8.2.1))) (y22.2, { p with Data := x13 }, (some (refOf a)))) ((fun (s8 : (made_Dice × Packet_ × (Option ref22_Assembler))) => bindP (made_Dice_Bool 10000 s8.1 9) fun y11 => joinP (fun (s9 : (made_Dice × Packet_)) =>
      bindP t.2.1 fun x5 => bindP (fragment_Assembler_Accept 10000 x5 s9.2) fun y12 => bindP s8.2.2 fun x6 => bindP (ref22_Assembler_Accept 10000 x6 s9.2) fun y13 => letP (y12.2.2.1 != y13.2.2.1) fun x7 => iteP x7 (some false) (
      letP (y12.2.1 != y13.2.1) fun x8 => iteP x8 (some false) (bindP (ref22_SameWhole 10000 y12.1 y13.1) fun y14 => letP (!y14) fun x9 => iteP x9 (some false) (bindP (fragment_Assembler_Open 10000 y12.2.2.2) fun y15 => iteP (y15 != (y13.2.2.2.Items.length : Int)) (some false) (
      self (s9.1, (some y12.2.2.2), (some y13.2.2.2))))))) fun j7 => iteP y11.1 (bindP (made_Dice_Next 10000 y11.2 5) fun y16 => bindP (made_Dice_Next 10000 y16.2 8) fun y17 => letP ({ s8.2.1 with Start := true }) fun d1 => letP ({ d1 with From := (IntKind.u8.wrap (IntKind.i64.wrap (10 + y16.1))) }) fun d2 =>
      letP ({ d2 with Tag := y17.1 }) fun d3 => j7 (y17.2, d3)) (j7 (y11.2, s8.2.1))) (y21.2, p, (some (refOf a))))) (fun b => b = true) := by
      intro d p hd
      obtain ⟨b9, d9, e9, hd9⟩ := Bool_dq 10000 hd (m := 15) (by omega) (by omega)
      rw [e9, bindP_some]
      cases b9 with
      | false => exact Ev.iteF rfl (fin _ _ hd9)
      | true =>
        obtain ⟨r10, d10, e10, u1, u2, hd10, _⟩ := Next_dq 10000 hd9 (m := 64) (by omega) (by omega)
        refine Ev.iteT rfl ?_
        rw [e10, bindP_some, wr (by omega), mk_some0 ⟨by omega, by omega⟩, bindP_some]
        exact fin _ _ hd10
    cases b8 with
    | false => exact Ev.iteF rfl (more _ _ hd8)
    | true =>
      obtain ⟨r11, d11, e11, u1, u2, hd11, _⟩ := Next_dq 10000 hd8 (m := 4) (by omega) (by omega)
      refine Ev.iteT rfl ?_
      rw [e11, bindP_some]
      exact more _ _ hd11
end Lift
