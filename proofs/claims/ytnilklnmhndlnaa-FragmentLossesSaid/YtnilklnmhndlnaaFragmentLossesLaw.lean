/- The plain law of FragmentLosses. uses: base lists ev each dice dicebytes frag fragb fragm fraga
-/
import Derived.Test.YtnilklnmhndlnaaFraga
set_option linter.unusedVariables false
set_option linter.unusedSimpArgs false
namespace Lift
open Go
/-- The message that is open behind j packets. -/
def ost (k : Nat) (m : List Int) (j : Nat) : fragment_open := ⟨⟨10, true, 3, m.take (j * k)⟩, ((piece k m 0).length : Int), (((j + 3) % 4 : Nat) : Int)⟩
def OpenIs (k : Nat) (m : List Int) (l : List fragment_open) (c : Option Nat) : Prop := match c with
  | none => l = []
  | some j => 1 ≤ j ∧ l = [ost k m j]
def nxt (N i : Nat) (c : Option Nat) : Bool × Option Nat := if i = 0 then (if N = 1 then (true, none) else (false, some 1)) else match c with
  | none => (false, none)
  | some j => if j % 4 = i % 4 then (if i + 1 = N then (true, none) else (false, some (i + 1))) else (false, none)
theorem step_ok {k : Nat} {m : List Int} (hk : 0 < k) (hk2 : k ≤ 64) (hm : m.length ≤ 500) {i : Nat} (hi : i < nsp k m) {a : fragment_Assembler} (hA : AR a) (ho : a.own = 9) {c : Option Nat} (hc : OpenIs k m a.open_ c) (hj : ∀ j, c = some j → j % 4 = i % 4 → j = i) :
    (acc a (pkt 9 10 true 3 k m i)).2.1 = (nxt (nsp k m) i c).1 ∧ ((nxt (nsp k m) i c).1 = true → (acc a (pkt 9 10 true 3 k m i)).1.Data = m) ∧ OpenIs k m (acc a (pkt 9 10 true 3 k m i)).2.2.2.open_ (nxt (nsp k m) i c).2 := by
  have h1 := (nsp_lt hk).1 hi
  have hlast := nsp_last hk h1
  have hpl := piece_len (k := k) (xs := m) (i := i)
  have hpl0 := piece_len (k := k) (xs := m) (i := 0)
  simp only [Nat.zero_mul, Nat.sub_zero] at hpl0
  have hn : vnum (pkt 9 10 true 3 k m i) = true := decide_eq_true ⟨by simp only [pkt]; omega, by simp only [pkt]; omega, by simp [pkt], by simp [pkt], by show 1 ≤ (piece k m i).length; rw [hpl]; omega, by show (piece k m i).length ≤ 64; rw [hpl]; omega⟩
  have hv : validB (pkt 9 10 true 3 k m i) = true := by
    show (endp 9 && (endp 10 && vnum _)) = true
    rw [hn]; decide
  have htake : m.take (i * k) ++ piece k m i = m.take ((i + 1) * k) := by rw [piece, Nat.add_mul, Nat.one_mul, List.take_add]
  have hall : ∀ n : Nat, m.length ≤ n → m.take n = m := fun n h => List.take_of_length_le h
  have e1 : (i + 1) * k = i * k + k := by rw [Nat.add_mul, Nat.one_mul]
  unfold acc
  rw [hv, if_neg (by simp), if_neg (by simp [pkt, ho])]
  by_cases h0 : i = 0
  · subst h0
    rw [if_pos (by simp [pkt])]
    have hdr : dropped a.open_ (pkt 9 10 true 3 k m 0) = [] := by
      cases c with
      | none => have : a.open_ = [] := hc; rw [this]; rfl
      | some j => have : a.open_ = [ost k m j] := hc.2; rw [this]; rfl
    simp only [Nat.zero_mul, Nat.zero_add, Nat.one_mul] at hlast htake e1 h1
    have hend : (pkt 9 10 true 3 k m 0).End = decide (1 = nsp k m) := by simp [pkt]
    rw [hdr, hend]
    simp only [nxt, if_true]
    by_cases hN : nsp k m = 1
    · rw [if_pos hN, hN, if_pos (by simp)]
      have := hlast.1 hN.symm
      exact ⟨rfl, fun _ => by simp only [wof, pkt, piece, Nat.zero_mul, List.drop_zero]; exact hall _ (by omega), rfl⟩
    · rw [if_neg hN, if_neg (by simp; omega)]
      refine ⟨rfl, fun h => (by cases h), Nat.le_refl 1, ?_⟩
      simp only [room, List.length_nil, oof, wof, pkt, ost, piece, Nat.zero_mul, List.drop_zero, Nat.one_mul]
      rfl
  · rw [if_neg (by simp [pkt, h0])]
    simp only [nxt, if_neg h0]
    cases c with
    | none =>
      have hnil : a.open_ = [] := hc
      rw [hnil]
      exact ⟨rfl, fun h => (by cases h), hnil⟩
    | some j =>
      obtain ⟨hj1, hop⟩ := hc
      have hf : ffind a.open_ (pkt 9 10 true 3 k m i) = 0 := by rw [hop]; rfl
      have hg : a.open_.getD (0 : Int).toNat fragment_open.z = ost k m j := by rw [hop]; rfl
      have hdel : fdel a.open_ (0 : Int).toNat = [] := by rw [hop]; rfl
      rw [hf, if_neg (by decide), hg, hdel]
      by_cases hji : j % 4 = i % 4
      · have := hj j rfl hji
        subst this
        have hb : bad (ost k m j) (pkt 9 10 true 3 k m j) = false := by
          have s1 : ((pkt 9 10 true 3 k m j).Sequence != ((ost k m j).last + 1) % 4) = false := by
            simp only [pkt, ost, bne_eq_false_iff_eq]; omega
          have s2 : decide ((ost k m j).size < ((pkt 9 10 true 3 k m j).Data.length : Int)) = false := by
            simp only [ost, pkt, hpl, hpl0, decide_eq_false_iff_not]; omega
          have s3 : (decide (((pkt 9 10 true 3 k m j).Data.length : Int) < (ost k m j).size) && !(pkt 9 10 true 3 k m j).End) = false := by
            by_cases hN : j + 1 = nsp k m
            · simp [pkt, hN]
            · have : ¬ m.length ≤ j * k + k := fun h => hN (hlast.2 h)
              have : decide (((pkt 9 10 true 3 k m j).Data.length : Int) < (ost k m j).size) = false := by
                simp only [ost, pkt, hpl, hpl0, decide_eq_false_iff_not]; omega
              rw [this]; rfl
          simp only [bad, s1, s2, s3]; rfl
        have hlen : (ost k m j).whole.Data.length = j * k := by simp only [ost, List.length_take]; omega
        have hg2 : (grown (ost k m j) (pkt 9 10 true 3 k m j)).whole.Data = m.take ((j + 1) * k) := by simp only [grown, ost, pkt]; exact htake
        dsimp only
        rw [hb, if_neg (by simp), if_neg (by rw [hlen]; simp only [pkt, hpl]; omega), if_pos hji]
        have hend : (pkt 9 10 true 3 k m j).End = decide (j + 1 = nsp k m) := rfl
        rw [hend]
        by_cases hN : j + 1 = nsp k m
        · rw [if_pos hN, if_pos (by simpa using hN)]
          have := hlast.1 hN
          exact ⟨rfl, fun _ => by rw [hg2]; exact hall _ (by omega), rfl⟩
        · rw [if_neg hN, if_neg (by simpa using hN)]
          refine ⟨rfl, fun h => (by cases h), by omega, ?_⟩
          simp only [hop, Int.toNat_zero, List.set_cons_zero, List.cons.injEq, and_true]
          have : grown (ost k m j) (pkt 9 10 true 3 k m j) = ⟨⟨10, true, 3, (grown (ost k m j) (pkt 9 10 true 3 k m j)).whole.Data⟩, ((piece k m 0).length : Int), ((j % 4 : Nat) : Int)⟩ := rfl
          rw [this, hg2]
          simp only [ost, fragment_open.mk.injEq, true_and]
          omega
      · have hb : bad (ost k m j) (pkt 9 10 true 3 k m i) = true := by
          have s1 : ((pkt 9 10 true 3 k m i).Sequence != ((ost k m j).last + 1) % 4) = true := by
            simp only [pkt, ost, bne_iff_ne, ne_eq]; omega
          simp only [bad, s1]; rfl
        dsimp only
        rw [hb, if_pos rfl, if_neg hji]
        exact ⟨rfl, fun h => (by cases h), rfl⟩
theorem nxt_some {N i : Nat} {c : Option Nat} {j : Nat} (h : (nxt N i c).2 = some j) : j = i + 1 := by
  unfold nxt at h
  by_cases h0 : i = 0
  · rw [if_pos h0] at h
    split at h
    · cases h
    · cases h; omega
  · rw [if_neg h0] at h
    cases c with
    | none => cases h
    | some x =>
      simp only at h
      split at h
      · split at h
        · cases h
        · cases h; rfl
      · cases h
theorem nxt_done {N i : Nat} {c : Option Nat} (h : (nxt N i c).1 = true) : i + 1 = N := by
  unfold nxt at h
  by_cases h0 : i = 0
  · rw [if_pos h0] at h
    split at h
    · omega
    · cases h
  · rw [if_neg h0] at h
    cases c with
    | none => cases h
    | some x =>
      simp only at h
      split at h
      · split at h
        · assumption
        · cases h
      · cases h
theorem nxt_clean {N i : Nat} {c : Option Nat} (hi : i < N) (h0 : i = 0 → c = none) (h1 : 1 ≤ i → i < N → c = some i) : (nxt N i c).1 = decide (i + 1 = N) ∧ (i + 1 < N → (nxt N i c).2 = some (i + 1)) := by
  unfold nxt
  by_cases h : i = 0
  · subst h
    rw [if_pos rfl]
    by_cases hN : N = 1
    · rw [if_pos hN]; exact ⟨by simp [hN], fun h => by omega⟩
    · rw [if_neg hN]; exact ⟨by simp; omega, fun _ => rfl⟩
  · rw [if_neg h, h1 (by omega) hi]
    simp only [if_true]
    by_cases hN : i + 1 = N
    · rw [if_pos hN]; exact ⟨by simp [hN], fun h => by omega⟩
    · rw [if_neg hN]; exact ⟨by simp [hN], fun _ => rfl⟩
theorem law22_FragmentLosses_true (a0 a1 : List Int) (o0 : okL (okI .i64) a0) (o1 : okL (okI .i64) a1) : ∃ fuel, law22_FragmentLosses fuel a0 a1 = some true := by
  refine ⟨10000, Ev.isTrue ?_⟩
  unfold law22_FragmentLosses
  rw [Light_eq, bindP_some, joinP]
  have skip : Ev (bindP (law22_awake 10000) fun y2 => some y2) (fun b => b = true) := Ev.to awake22 (Ev.ret rfl)
  refine Ev.not (Ev.dec (fun h0 => ?_) (fun _ => skip))
  refine Ev.dec (fun _ => skip) (fun h1 => ?_)
  rw [Roll_eq, bindP_some]
  obtain ⟨m, d1, e1, hm1, hm2, hmb, hd1⟩ := message_ok (fuel := 10000) (by omega) (roll_ok (l := a0) (by omega)) (n := 60) (by omega) (by omega)
  obtain ⟨r5, d2, e2, q1, q2, hd2⟩ := Next_ok 10000 hd1 (m := 4) (by omega) (by omega)
  rw [e1, bindP_some, e2, bindP_some, wr (by omega)]
  obtain ⟨k, hk⟩ : ∃ k : Nat, 1 + r5 = k := ⟨(1 + r5).toNat, by omega⟩
  have hkp : 0 < k := by omega
  have n1 : fragment_New 10000 9 = some (some ⟨9, []⟩, 0) := FNew_eq 10000 9
  have hs : splitR 9 10 true 3 (k : Int) m = (pkts 9 10 true 3 k m, 0) := by
    unfold splitR
    rw [if_neg (by decide), if_neg (by omega), if_neg (by omega), if_neg (by omega)]; rfl
  rw [hk, Split_eq (by omega), bindP_some, n1, bindP_some, hs, joinP]
  have hlen : (pkts 9 10 true 3 k m).length = nsp k m := by simp [pkts]
  have hle := nsp_le hkp m
  have hpk : ∀ i : Nat, i < nsp k m → (pkts 9 10 true 3 k m)[i]? = some (pkt 9 10 true 3 k m i) := fun i hi => by simp [pkts, List.getElem?_range hi]
  refine Ev.bneF rfl (Ev.bneF rfl (Ev.iteF rfl ?_))
  dsimp only
  simp only [hlen]
  refine Ev.loop (fun r (s : Int × Bool × Int × Option fragment_Assembler) => ∃ (row i : Nat) (cl : Bool) (a : fragment_Assembler) (c : Option Nat), i ≤ nsp k m ∧ r = nsp k m - i ∧ s = ((row : Int), cl, (i : Int), some a) ∧ row ≤ 3 ∧ AR a ∧ a.own = 9 ∧ OpenIs k m a.open_ c ∧ (∀ j, c = some j → j + row = i) ∧
      (cl = true → (i = 0 → c = none) ∧ (1 ≤ i → i < nsp k m → c = some i))) (fun r s hi self hself => ?_) (n := nsp k m) (by omega) ⟨0, 0, true, ⟨9, []⟩, none, by omega, by omega, rfl, by omega, new_AR 9, rfl, rfl, fun j h => (by cases h), fun _ => ⟨fun _ => rfl, fun h => by omega⟩⟩
  obtain ⟨row, i, cl, a, c, hi, hr, rfl, hrow, hA, ho, hc, hcj, hcl⟩ := hi
  by_cases hl : i < nsp k m
  · refine Ev.decT (by simp only; omega) ?_
    rw [joinP]
    have body : ∀ f : Int, Ev (joinP (fun (s5 : Bool) => iteP s5 (letP (IntKind.i64.wrap ((row : Int) + 1)) fun x1 => letP (IntKind.i64.wrap ((i : Int) + 1)) fun x2 => self (x1, false, x2, some a)) (
        joinP (fun (s6 : (Bool × Int)) => loopP (fun k2 (s7 : (Int × (Option fragment_Assembler))) => iteP (decide (s7.1 > 0)) (bindP (idx (pkts 9 10 true 3 k m) (i : Int)) fun x3 => bindP s7.2 fun x4 => bindP (fragment_Assembler_Accept 10000 x4 x3) fun y8 =>
          joinP (fun (s8 : Bool) => iteP s8 (some false) (letP (IntKind.i64.wrap (s7.1 - 1)) fun x5 => k2 (x5, (some y8.2.2.2)))) fun j6 =>
          iteP y8.2.1 (bindP (ref01_Same 10000 y8.1.Data m) fun y9 => iteP (!y9) (j6 (true)) (iteP ((i : Int) != (IntKind.i64.wrap (((nsp k m : Nat) : Int) - 1))) (j6 (true)) (
            iteP s6.1 (j6 (y8.2.1 != ((i : Int) == (IntKind.i64.wrap (((nsp k m : Nat) : Int) - 1))))) (j6 (false))))) (
          iteP s6.1 (j6 (y8.2.1 != ((i : Int) == (IntKind.i64.wrap (((nsp k m : Nat) : Int) - 1))))) (j6 (false)))) (
          letP (IntKind.i64.wrap ((i : Int) + 1)) fun x6 => self (0, s6.1, x6, s7.2))) 10000 (s6.2, some a)) fun j5 =>
        iteP (f == 2) (j5 (false, 2)) (j5 (cl, 1)))) fun j4 => iteP (f == 1) (j4 (decide ((row : Int) < 3))) (j4 (false))) (fun b => b = true) := by
      intro f
      rw [joinP]
      have hgo : ∀ (cl2 : Bool) (n : Nat), (cl2 = false ∧ n ≤ 2 ∧ 1 ≤ n ∨ cl2 = cl ∧ n = 1) → Ev (loopP (fun k2 (s7 : (Int × (Option fragment_Assembler))) => iteP (decide (s7.1 > 0)) (bindP (idx (pkts 9 10 true 3 k m) (i : Int)) fun x3 => bindP s7.2 fun x4 => bindP (fragment_Assembler_Accept 10000 x4 x3) fun y8 =>
          joinP (fun (s8 : Bool) => iteP s8 (some false) (letP (IntKind.i64.wrap (s7.1 - 1)) fun x5 => k2 (x5, (some y8.2.2.2)))) fun j6 =>
          iteP y8.2.1 (bindP (ref01_Same 10000 y8.1.Data m) fun y9 => iteP (!y9) (j6 (true)) (iteP ((i : Int) != (IntKind.i64.wrap (((nsp k m : Nat) : Int) - 1))) (j6 (true)) (
            iteP cl2 (j6 (y8.2.1 != ((i : Int) == (IntKind.i64.wrap (((nsp k m : Nat) : Int) - 1))))) (j6 (false))))) (
          iteP cl2 (j6 (y8.2.1 != ((i : Int) == (IntKind.i64.wrap (((nsp k m : Nat) : Int) - 1))))) (j6 (false)))) (
          letP (IntKind.i64.wrap ((i : Int) + 1)) fun x6 => self (0, cl2, x6, s7.2))) 10000 ((n : Int), some a)) (fun b => b = true) := by
        intro cl2 n hcn
        have hN1 : IntKind.i64.wrap (((nsp k m : Nat) : Int) - 1) = ((nsp k m : Nat) : Int) - 1 := wr (by omega)
        rw [hN1]
        refine Ev.loop (fun q (t : Int × Option fragment_Assembler) => ∃ (b : fragment_Assembler) (c' : Option Nat), t = ((q : Int), some b) ∧ AR b ∧ b.own = 9 ∧ OpenIs k m b.open_ c' ∧ (q = n ∧ c' = c ∨ q < n ∧ (∀ j, c' = some j → j = i + 1) ∧ (cl2 = true → c' = (nxt (nsp k m) i c).2))) (fun q t ht self2 hself2 => ?_) (n := n) (by omega) ⟨a, c, rfl, hA, ho, hc, .inl ⟨rfl, rfl⟩⟩
        obtain ⟨b, c', rfl, hB, hob, hcb, hq⟩ := ht
        by_cases hq0 : 0 < q
        · refine Ev.decT (by simp only; omega) ?_
          rw [idx_nat, hpk i hl, bindP_some, bindP_some, Accept_eq (by omega) hB, bindP_some, joinP]
          have hj' : ∀ j, c' = some j → j % 4 = i % 4 → j = i := by
            intro j e1 e2
            rcases hq with ⟨_, rfl⟩ | ⟨_, h3, _⟩
            · have := hcj j e1; omega
            · have := h3 j e1; omega
          obtain ⟨w1, w2, w3⟩ := step_ok hkp (by omega) (by omega) hl hB hob hcb hj'
          have go : Ev (iteP false (some false) (letP (IntKind.i64.wrap ((q : Int) - 1)) fun x5 => self2 (x5, (some (acc b (pkt 9 10 true 3 k m i)).2.2.2)))) (fun b => b = true) := by
            refine Ev.iteF rfl ?_
            rw [wr (by omega), letP_eq]
            refine hself2 (q - 1) _ (by omega) ⟨_, _, by rw [show ((q : Int) - 1) = ((q - 1 : Nat) : Int) by omega], (hB.acc _).1, (hB.acc _).2.trans hob, w3, .inr ⟨?_, fun j hj => nxt_some hj, fun ht => ?_⟩⟩
            · rcases hq with ⟨h, _⟩ | ⟨h, _⟩ <;> omega
            · rcases hq with ⟨_, rfl⟩ | ⟨h, _⟩
              · rfl
              · rcases hcn with ⟨h3, _⟩ | ⟨_, h4⟩
                · rw [h3] at ht; cases ht
                · omega
          have chk2 : cl2 = true → (acc b (pkt 9 10 true 3 k m i)).2.1 = ((i : Int) == ((nsp k m : Nat) : Int) - 1) := by
            intro ht
            rcases hcn with ⟨h3, _⟩ | ⟨rfl, h4⟩
            · rw [h3] at ht; cases ht
            · rcases hq with ⟨_, rfl⟩ | ⟨h, _⟩
              · obtain ⟨g1, g2⟩ := hcl ht
                rw [w1, (nxt_clean hl g1 g2).1, Bool.eq_iff_iff]; simp; omega
              · omega
          have tail : Ev (iteP cl2 (iteP ((acc b (pkt 9 10 true 3 k m i)).2.1 != ((i : Int) == ((nsp k m : Nat) : Int) - 1)) (some false) (letP (IntKind.i64.wrap ((q : Int) - 1)) fun x5 => self2 (x5, (some (acc b (pkt 9 10 true 3 k m i)).2.2.2)))) (iteP false (some false) (letP (IntKind.i64.wrap ((q : Int) - 1)) fun x5 => self2 (x5, (some (acc b (pkt 9 10 true 3 k m i)).2.2.2))))) (fun b => b = true) := by
            cases hcl2 : cl2 with
            | false => exact Ev.iteF rfl go
            | true => exact Ev.iteT rfl (Ev.bneF (chk2 hcl2) go)
          cases hd : (acc b (pkt 9 10 true 3 k m i)).2.1 with
          | false => rw [hd] at tail; exact Ev.iteF rfl tail
          | true =>
            rw [hd] at tail
            rw [hd] at w1
            refine Ev.iteT rfl ?_
            rw [w2 w1.symm, Same_eq (by omega) (by omega), bindP_some]
            refine Ev.iteF (by simp) (Ev.bneF (by have := nxt_done w1.symm; omega) tail)
        · refine Ev.decF (by simp only; omega) ?_
          have hq1 : q = 0 := by omega
          rw [wi i (by omega), letP_eq]
          have hn1 : 1 ≤ n := by rcases hcn with ⟨_, _, h⟩ | ⟨_, h⟩ <;> omega
          rcases hq with ⟨h, _⟩ | ⟨_, h3, h4⟩
          · omega
          · refine hself (nsp k m - (i + 1)) _ (by omega) ⟨0, i + 1, cl2, b, c', by omega, rfl, rfl, by omega, hB, hob, hcb, fun j hj => by have := h3 j hj; omega, fun ht => ⟨fun h => by omega, fun _ hlt => ?_⟩⟩
            rcases hcn with ⟨h5, _⟩ | ⟨rfl, _⟩
            · rw [h5] at ht; cases ht
            · obtain ⟨g1, g2⟩ := hcl ht
              rw [h4 ht]; exact (nxt_clean hl g1 g2).2 hlt
      have deliver : Ev (iteP false (letP (IntKind.i64.wrap ((row : Int) + 1)) fun x1 => letP (IntKind.i64.wrap ((i : Int) + 1)) fun x2 => self (x1, false, x2, some a)) (
          joinP (fun (s6 : (Bool × Int)) => loopP (fun k2 (s7 : (Int × (Option fragment_Assembler))) => iteP (decide (s7.1 > 0)) (bindP (idx (pkts 9 10 true 3 k m) (i : Int)) fun x3 => bindP s7.2 fun x4 => bindP (fragment_Assembler_Accept 10000 x4 x3) fun y8 =>
          joinP (fun (s8 : Bool) => iteP s8 (some false) (letP (IntKind.i64.wrap (s7.1 - 1)) fun x5 => k2 (x5, (some y8.2.2.2)))) fun j6 =>
          iteP y8.2.1 (bindP (ref01_Same 10000 y8.1.Data m) fun y9 => iteP (!y9) (j6 (true)) (iteP ((i : Int) != (IntKind.i64.wrap (((nsp k m : Nat) : Int) - 1))) (j6 (true)) (
            iteP s6.1 (j6 (y8.2.1 != ((i : Int) == (IntKind.i64.wrap (((nsp k m : Nat) : Int) - 1))))) (j6 (false))))) (
          iteP s6.1 (j6 (y8.2.1 != ((i : Int) == (IntKind.i64.wrap (((nsp k m : Nat) : Int) - 1))))) (j6 (false)))) (
          letP (IntKind.i64.wrap ((i : Int) + 1)) fun x6 => self (0, s6.1, x6, s7.2))) 10000 (s6.2, some a)) fun j5 =>
        iteP (f == 2) (j5 (false, 2)) (j5 (cl, 1)))) (fun b => b = true) := by
        refine Ev.iteF rfl ?_
        rw [joinP]
        refine Ev.beq (fun _ => ?_) (fun _ => ?_)
        · exact hgo false 2 (.inl ⟨rfl, by omega, by omega⟩)
        · exact hgo cl 1 (.inr ⟨rfl, rfl⟩)
      refine Ev.beq (fun _ => ?_) (fun _ => deliver)
      by_cases h3 : (row : Int) < 3
      · rw [show decide ((row : Int) < 3) = true by simpa using h3]
        refine Ev.iteT rfl ?_
        rw [wr (by omega), letP_eq, wi i (by omega), letP_eq]
        refine hself (nsp k m - (i + 1)) _ (by omega) ⟨row + 1, i + 1, false, a, c, by omega, rfl, by simp, by omega, hA, ho, hc, fun j hj => by have := hcj j hj; omega, fun h => (by cases h)⟩
      · rw [show decide ((row : Int) < 3) = false by simpa using h3]
        exact deliver
    refine Ev.dec (fun hlt => ?_) (fun _ => body 0)
    obtain ⟨x, hx⟩ : ∃ x, idx a1 (i : Int) = some x := by rw [idx_nat]; exact ⟨_, List.getElem?_eq_getElem (by simp only at hlt; omega)⟩
    rw [hx, bindP_some, Mod_eq 10000 (by omega) (by omega), bindP_some]
    exact body _
  · refine Ev.decF (by simp only; omega) skip
end Lift
