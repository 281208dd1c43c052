/- The plain law of FragmentLimits. uses: base lists ev each dice dicebytes frag fragb fragm fraga
-/
import Derived.Test.YtnilklnmhndlnaaFraga
set_option linter.unusedVariables false
set_option linter.unusedSimpArgs false
namespace Lift
open Go
def lpk (i : Int) : Packet_ := ⟨9, IntKind.u8.wrap (IntKind.i64.wrap (20 + i)), true, false, 0, false, 0, [IntKind.u8.wrap i]⟩
def lend (k : Int) : Packet_ := ⟨9, IntKind.u8.wrap (IntKind.i64.wrap (20 + k)), false, true, 1, false, 0, [7]⟩
def stA : Nat → fragment_Assembler
  | 0 => ⟨9, []⟩
  | i + 1 => (acc (stA i) (lpk i)).2.2.2
theorem stA_AR : ∀ i, AR (stA i) ∧ (stA i).own = 9
  | 0 => ⟨new_AR 9, rfl⟩
  | i + 1 => ⟨((stA_AR i).1.acc _).1, (((stA_AR i).1.acc _).2).trans (stA_AR i).2⟩
theorem stA_facts : ∀ i : Fin 10, (acc (stA i.val) (lpk i.val)).2.1 = false ∧ (acc (stA i.val) (lpk i.val)).2.2.1 = 0 ∧ ((stA (i.val + 1)).open_.length : Int) = min (IntKind.i64.wrap (((i.val : Nat) : Int) + 1)) 8 := by decide +kernel
theorem end_facts : ∀ (m : Fin 4) (k : Fin 10), k.val < 7 + m.val → let y := acc (stA (7 + m.val)) (lend k.val);
    y.2.1 = decide (((k.val : Nat) : Int) ≥ IntKind.i64.wrap (((7 + m.val : Nat) : Int) - 8)) ∧ (y.2.1 = true → y.2.2.1 = 0 ∧ y.1.Data = [IntKind.u8.wrap ((k.val : Nat) : Int), 7]) ∧ (y.2.1 = false → y.2.2.1 = 8) ∧ y.2.2.2.open_.all (fun o => o.whole.From != 8) = true := by decide +kernel
def spk (s t : Nat) : Packet_ := ⟨9, 8, decide (t = 0), false, ((t % 4 : Nat) : Int), false, 0, List.replicate s 0⟩
theorem ffind_last {l : List fragment_open} {o : fragment_open} {p : Packet_} (h : ∀ x ∈ l, fkey p x = false) (ho : fkey p o = true) : ffind (l ++ [o]) p = (l.length : Int) := by
  rcases ffind_cases (l ++ [o]) p with ⟨_, h2⟩ | ⟨i, x, h1, h2, h3⟩
  · have := h2 o (by simp); rw [ho] at this; cases this
  · rw [h1]
    by_cases hi : i < l.length
    · rw [List.getElem?_append_left hi] at h2
      have := h x (List.mem_of_getElem? h2); rw [h3] at this; cases this
    · have := lt_len h2
      simp at this; omega
theorem fdel_last {l : List fragment_open} {o : fragment_open} : fdel (l ++ [o]) l.length = l := by simp [fdel]
/-- The long message. -/
def Lg (s t : Nat) (a : fragment_Assembler) : Prop := AR a ∧ a.own = 9 ∧ ∃ l o, a.open_ = l ++ [o] ∧ (∀ x ∈ l, fkey (spk s t) x = false) ∧ fkey (spk s t) o = true ∧ o.size = (s : Int) ∧ o.whole.Data.length = t * s ∧ o.last = (((t + 3) % 4 : Nat) : Int)
theorem spk_valid {s t : Nat} (h : 1 ≤ s ∧ s ≤ 64) : validB (spk s t) = true := by
  have hn : vnum (spk s t) = true := decide_eq_true ⟨by simp only [spk]; omega, by simp only [spk]; omega, by simp [spk], by simp [spk], by simp only [spk, List.length_replicate]; omega, by simp only [spk, List.length_replicate]; omega⟩
  show (endp 9 && (endp 8 && vnum _)) = true
  rw [hn]; decide
theorem key_t {s t u : Nat} (x : fragment_open) : fkey (spk s t) x = fkey (spk s u) x := rfl
theorem first_ok {s : Nat} (h : 1 ≤ s ∧ s ≤ 64) {a : fragment_Assembler} (hA : AR a) (ho : a.own = 9) (hk : a.open_.all (fun o => o.whole.From != 8) = true) : (acc a (spk s 0)).2.1 = false ∧ (acc a (spk s 0)).2.2.1 = 0 ∧ Lg s 1 (acc a (spk s 0)).2.2.2 := by
  have hno : ∀ x ∈ a.open_, fkey (spk s 0) x = false := fun x hx => by
    have := List.all_eq_true.1 hk x hx
    simp only [bne_iff_ne, ne_eq] at this
    simp only [fkey, spk]
    rw [show (x.whole.From == 8) = false from beq_eq_false_iff_ne.2 this]; rfl
  have hf : ffind a.open_ (spk s 0) = -1 := by
    rcases ffind_cases a.open_ (spk s 0) with ⟨h1, _⟩ | ⟨i, x, _, h2, h3⟩
    · exact h1
    · have := hno x (List.mem_of_getElem? h2); rw [h3] at this; cases this
  have e : acc a (spk s 0) = (Whole_.z, false, 0, { a with open_ := room (dropped a.open_ (spk s 0)) ++ [oof (spk s 0)] }) := by
    unfold acc
    rw [spk_valid h, if_neg (by simp), if_neg (by simp [spk, ho]), if_pos (by simp [spk]), if_neg (by simp [spk])]
  have hAR := (hA.acc (spk s 0)).1
  have hd : dropped a.open_ (spk s 0) = a.open_ := by simp [dropped, hf]
  rw [e] at hAR ⊢
  rw [hd] at hAR ⊢
  exact ⟨rfl, rfl, hAR, ho, _, _, rfl, fun x hx => hno x (room_mem hx), rfl, by simp [oof, spk], by simp [oof, wof, spk], by simp [oof, spk]⟩
theorem next_ok {s t : Nat} (h : 1 ≤ s ∧ s ≤ 64) (ht : 1 ≤ t) {a : fragment_Assembler} (hL : Lg s t a) : (acc a (spk s t)).2.1 = false ∧ ((acc a (spk s t)).2.2.1 = 3 ∧ 512 < t * s + s ∨ (acc a (spk s t)).2.2.1 = 0 ∧ t * s + s ≤ 512 ∧ Lg s (t + 1) (acc a (spk s t)).2.2.2) := by
  obtain ⟨hA, ho, l, o, hl, h1, h2, h3, h4, h5⟩ := hL
  have hf : ffind a.open_ (spk s t) = (l.length : Int) := by rw [hl]; exact ffind_last h1 h2
  have hg : a.open_.getD l.length fragment_open.z = o := by rw [hl, List.getD_eq_getElem?_getD]; simp
  have hlen : (spk s t).Data.length = s := by simp [spk]
  have hb : bad o (spk s t) = false := by
    simp only [bad, hlen, h3, h5]
    have e1 : ((spk s t).Sequence != ((((t + 3) % 4 : Nat) : Int) + 1) % 4) = false := by
      simp only [spk, bne_eq_false_iff_eq]; omega
    rw [e1]; simp
  have hAR := (hA.acc (spk s t)).1
  have e : acc a (spk s t) = if 512 < t * s + s then (Whole_.z, false, 3, { a with open_ := fdel a.open_ l.length }) else (Whole_.z, false, 0, { a with open_ := a.open_.set l.length (grown o (spk s t)) }) := by
    unfold acc
    rw [spk_valid h, if_neg (by simp), if_neg (by simp [spk, ho]), if_neg (by simp [spk]; omega), if_neg (by rw [hf]; omega), hf]
    simp only [Int.toNat_natCast, hg, hb, hlen, h4]
    rw [if_neg (by simp), if_neg (c := (spk s t).End = true) (by simp [spk])]
  rw [e] at hAR ⊢
  by_cases h6 : 512 < t * s + s
  · rw [if_pos h6]; exact ⟨rfl, .inl ⟨rfl, h6⟩⟩
  · rw [if_neg h6] at hAR ⊢
    refine ⟨rfl, .inr ⟨rfl, by omega, hAR, ho, l, grown o (spk s t), ?_, fun x hx => h1 x hx, h2, h3, ?_, ?_⟩⟩
    · simp only [hl]; rw [List.set_append_right _ _ (Nat.le_refl _)]; simp
    · simp only [grown, List.length_append, h4, hlen, Nat.add_mul, Nat.one_mul]
    · simp only [grown, spk]; omega
theorem law22_FragmentLimits_true (a0 a1 a2 : Int) (o0 : okI .i64 a0) (o1 : okI .i64 a1) (o2 : okI .i64 a2) : ∃ fuel, law22_FragmentLimits fuel a0 a1 a2 = some true := by
  refine ⟨10000, Ev.isTrue ?_⟩
  unfold law22_FragmentLimits
  have skip : Ev (law22_awake 10000) (fun b => b = true) := ⟨_, awake22, rfl⟩
  have n1 : fragment_New 10000 9 = some (some ⟨9, []⟩, 0) := FNew_eq 10000 9
  rw [n1, bindP_some, joinP]
  refine Ev.iteF rfl (Ev.iteF rfl ?_)
  rw [Mod_eq 10000 (by omega) (by omega), bindP_some]
  have q1 := Int.emod_nonneg a0 (show (4 : Int) ≠ 0 by omega)
  have q2 := Int.emod_lt_of_pos a0 (show (0 : Int) < 4 by omega)
  obtain ⟨m, hm⟩ : ∃ m : Fin 4, a0 % 4 = ((m.val : Nat) : Int) := ⟨⟨(a0 % 4).toNat, by omega⟩, by simp; omega⟩
  have hml := m.isLt
  rw [hm, wr (by omega), letP_eq]
  have hn : (7 : Int) + ((m.val : Nat) : Int) = ((7 + m.val : Nat) : Int) := by omega
  rw [hn]
  refine Ev.loop (fun r (s : Int × Option fragment_Assembler) => ∃ i : Nat, i ≤ 7 + m.val ∧ r = 7 + m.val - i ∧ s = ((i : Int), some (stA i))) (fun r s hi self hself => ?_) (n := 7 + m.val) (by omega) ⟨0, by omega, by omega, rfl⟩
  obtain ⟨i, hi, hr, rfl⟩ := hi
  by_cases hl : i < 7 + m.val
  · refine Ev.decT (by simp only; omega) ?_
    obtain ⟨f1, f2, f3⟩ := stA_facts ⟨i, by omega⟩
    rw [bindP_some]
    rw [show (⟨9, IntKind.u8.wrap (IntKind.i64.wrap (20 + (i : Int))), true, false, 0, false, 0, [IntKind.u8.wrap (i : Int)]⟩ : Packet_) = lpk i from rfl, Accept_eq (by omega) (stA_AR i).1, bindP_some, joinP]
    refine Ev.iteF f1 (Ev.bneF f2 ?_)
    have hO : fragment_Assembler_Open 10000 (acc (stA i) (lpk i)).2.2.2 = some (((stA (i + 1)).open_.length : Nat) : Int) := rfl
    rw [hO, bindP_some]
    refine Ev.iteF (by simp only [bne_eq_false_iff_eq]; exact f3) ?_
    rw [letP_eq, wi i (by omega)]
    exact hself (7 + m.val - (i + 1)) _ (by omega) ⟨i + 1, by omega, rfl, by simp; rfl⟩
  have hii : i = 7 + m.val := by omega
  subst hii
  refine Ev.decF (by simp) ?_
  rw [Mod_eq 10000 (by omega) (by omega), bindP_some, bindP_some]
  have q3 := Int.emod_nonneg a2 (show ((7 + m.val : Nat) : Int) ≠ 0 by omega)
  have q4 := Int.emod_lt_of_pos a2 (show (0 : Int) < ((7 + m.val : Nat) : Int) by omega)
  obtain ⟨k, hk⟩ : ∃ k : Fin 10, a2 % ((7 + m.val : Nat) : Int) = ((k.val : Nat) : Int) := ⟨⟨(a2 % ((7 + m.val : Nat) : Int)).toNat, by omega⟩, (Int.toNat_of_nonneg q3).symm⟩
  rw [hk]
  obtain ⟨g1, g2, g3, g4⟩ := end_facts m k (by omega)
  rw [show (⟨9, IntKind.u8.wrap (IntKind.i64.wrap (20 + ((k.val : Nat) : Int))), false, true, 1, false, 0, [7]⟩ : Packet_) = lend k.val from rfl, Accept_eq (by omega) (stA_AR _).1, bindP_some, letP_eq, ← g1, joinP]
  have hAE := (stA_AR (7 + m.val)).1.acc (lend k.val)
  have rest : Ev (bindP (made_Mod 10000 a1 64) fun y7 => letP (IntKind.i64.wrap (1 + y7)) fun x6 => bindP (mk 1 0 x6) fun x7 =>
      loopP (fun k2 (s5 : (Int × Int × fragment_Assembler × Packet_)) => iteP (decide (s5.2.1 < 514)) (bindP (fragment_Assembler_Accept 10000 s5.2.2.1 s5.2.2.2) fun y8 => iteP y8.2.1 (some false) (iteP (y8.2.2.1 != 0) (
        joinP (fun (s6 : Bool) => some s6) fun j4 => iteP (y8.2.2.1 == 3) (iteP (decide ((IntKind.i64.wrap (s5.1 + x6)) > 512)) (bindP (law22_awake 10000) fun y9 => j4 (y9)) (j4 (false))) (j4 (false))) (
        letP (IntKind.i64.wrap (s5.1 + x6)) fun x8 => letP ({ s5.2.2.2 with Start := false }) fun d1 => letP ({ d1 with Sequence := (Int.tmod (IntKind.i64.wrap (d1.Sequence + 1)) 4) }) fun d2 => letP (IntKind.i64.wrap (s5.2.1 + 1)) fun x9 => k2 (x8, x9, y8.2.2.2, d2)))) (some false)) 10000
      (0, 0, (acc (stA (7 + m.val)) (lend k.val)).2.2.2, (⟨9, 8, true, false, 0, false, 0, x7⟩ : Packet_))) (fun b => b = true) := by
    rw [Mod_eq 10000 (by omega) (by omega), bindP_some]
    have q5 := Int.emod_nonneg a1 (show (64 : Int) ≠ 0 by omega)
    have q6 := Int.emod_lt_of_pos a1 (show (0 : Int) < 64 by omega)
    obtain ⟨s, hs⟩ : ∃ s : Nat, 1 + a1 % 64 = s := ⟨(1 + a1 % 64).toNat, by omega⟩
    have hs2 : 1 ≤ s ∧ s ≤ 64 := by omega
    rw [wr (by omega), letP_eq, hs]
    have hmk : mk 1 (0 : Int) (s : Int) = some (List.replicate s 0) := by simp [mk]; omega
    rw [hmk, bindP_some]
    have hnx : ∀ t : Nat, ({ ({ spk s t with Start := false } : Packet_) with Sequence := (Int.tmod (IntKind.i64.wrap (({ spk s t with Start := false } : Packet_).Sequence + 1)) 4) } : Packet_) = spk s (t + 1) := fun t => by
      simp only [spk, Packet_.mk.injEq, true_and, and_true]
      refine ⟨by simp, ?_⟩
      rw [tmod4 (by omega)]; omega
    refine Ev.loop (fun r (u : Int × Int × fragment_Assembler × Packet_) => ∃ t : Nat, r + t = 514 ∧ u = (((t * s : Nat) : Int), (t : Int), u.2.2.1, spk s t) ∧ t * s ≤ 512 ∧ (t = 0 → AR u.2.2.1 ∧ u.2.2.1.own = 9 ∧ u.2.2.1.open_.all (fun o => o.whole.From != 8) = true) ∧ (1 ≤ t → Lg s t u.2.2.1)) (fun r u hu self hself => ?_) (n := 514) (by omega)
      ⟨0, by omega, by simp [spk], by omega, fun _ => ⟨hAE.1, hAE.2.trans (stA_AR _).2, g4⟩, fun h => by omega⟩
    obtain ⟨t, hr, hu, hts, hz, hL⟩ := hu
    obtain ⟨u1, u2, a, p⟩ := u
    simp only [Prod.mk.injEq, true_and] at hu
    obtain ⟨rfl, rfl, rfl⟩ := hu
    simp only at hz hL
    have htb : t ≤ t * s := Nat.le_mul_of_pos_right _ (by omega)
    refine Ev.decT (by simp only; omega) ?_
    have hAR : AR a := by
      by_cases h0 : t = 0
      · exact (hz h0).1
      · exact (hL (by omega)).1
    rw [Accept_eq (by omega) hAR, bindP_some]
    have hmul : (t + 1) * s = t * s + s := by rw [Nat.add_mul, Nat.one_mul]
    have step : (acc a (spk s t)).2.1 = false ∧ ((acc a (spk s t)).2.2.1 = 3 ∧ 512 < t * s + s ∨ (acc a (spk s t)).2.2.1 = 0 ∧ t * s + s ≤ 512 ∧ Lg s (t + 1) (acc a (spk s t)).2.2.2) := by
      by_cases h0 : t = 0
      · subst h0
        obtain ⟨z1, z2, z3⟩ := hz rfl
        obtain ⟨w1, w2, w3⟩ := first_ok hs2 z1 z2 z3
        exact ⟨w1, .inr ⟨w2, by omega, w3⟩⟩
      · exact next_ok hs2 (by omega) (hL (by omega))
    obtain ⟨w1, w2 | ⟨w2, w3, w4⟩⟩ := step
    · refine Ev.iteF w1 (Ev.bneT (by rw [w2.1]; decide) ?_)
      rw [joinP]
      refine Ev.beqT w2.1 ?_
      simp only
      rw [wr (by omega)]
      refine Ev.decT (by omega) ?_
      obtain ⟨b, e, hb⟩ := skip
      rw [e, bindP_some]; exact Ev.ret hb
    · refine Ev.iteF w1 (Ev.bneF w2 ?_)
      simp only [letP_eq]
      rw [hnx, wr (by omega), wr (by omega)]
      refine hself (r - 1) _ (by omega) ⟨t + 1, by omega, ?_, by omega, fun h => by omega, fun _ => w4⟩
      simp only [Prod.mk.injEq, and_true, true_and]
      exact ⟨by rw [hmul]; omega, by omega⟩
  refine Ev.bneF rfl ?_
  cases hd : (acc (stA (7 + m.val)) (lend k.val)).2.1 with
  | true =>
    obtain ⟨g5, g6⟩ := g2 hd
    refine Ev.iteT rfl (Ev.bneF g5 ?_)
    rw [g6, Same_eq (by simp) (by simp), bindP_some]
    refine Ev.iteF (by simp) (Ev.iteF rfl (Ev.iteF rfl rest))
  | false =>
    refine Ev.iteF rfl (Ev.iteT rfl (Ev.iteF (by rw [g3 hd]; rfl) rest))
end Lift
