/- A message packet by packet; frames back and changed. No program in sight. Written by wire.py out of other texts. -/
import Derived.Test.YthjhbfpacbldgaaWireb
set_option linter.unusedVariables false
set_option linter.unusedSimpArgs false
namespace Lift
open Go
theorem decode_body {f : Frame_} (hv : valid f = true) : decode (body f ++ [crc8 (body f)]) = (f, 0) := by
  obtain ⟨⟨h1, h2⟩, ⟨h3, h4⟩, h5⟩ := valid_iff.1 hv
  have hl : (body f ++ [crc8 (body f)]).length = f.Data.length + 5 := by simp [body, head]
  have ht : (body f ++ [crc8 (body f)]).take ((body f ++ [crc8 (body f)]).length - 1) = body f := by simp
  have hla : last (body f ++ [crc8 (body f)]) = crc8 (body f) := by simp [last, List.getLastD_eq_getLast?]
  unfold decode
  rw [ht, hla, hl]
  have c0 : ¬ (f.Data.length + 5 < 5) := by omega
  rw [if_neg c0, if_neg (by simp)]
  have eb : body f = 2 * f.To :: 15 :: ((f.Data.length : Int) + 1) :: (2 * f.From + 1) :: f.Data := rfl
  rw [eb]
  simp only
  have a1 : 2 * f.To / 2 = f.To := by omega
  have a2 : (2 * f.From + 1) / 2 = f.From := by omega
  have t1 : addr f.To = true := by simp [addr]; omega
  have t2 : addr f.From = true := by simp [addr]; omega
  rw [if_pos ⟨by omega, by simp, by push_cast; omega, by omega⟩, a1, a2, t1, t2, if_pos h5]
  rfl
theorem decode_five {n : List Nat} (hn : ∀ x ∈ n, x < 256) (hl : 5 ≤ n.length) (h : cN n 0 ≠ 0) : decode (toI n) = (Frame_.z, 5) := by
  have h5 := openC_five hn (ne_nil (by omega)) h
  have hne : toI n ≠ [] := by intro e; have := congrArg List.length e; rw [toI_len] at this; simp at this; subst this; simp at hl
  have hc : crc8 ((toI n).take ((toI n).length - 1)) ≠ last (toI n) := by
    intro e
    unfold openC at h5
    rw [if_neg hne, if_pos e] at h5
    simp at h5
  unfold decode
  rw [if_neg (by rw [toI_len]; omega), if_pos hc]
/-- The message that is open behind j packets. -/
def ost (k : Nat) (m : List Int) (j : Nat) : fragment_open := ⟨⟨10, true, 2, m.take (j * k)⟩, ((piece k m 0).length : Int), (((j + 3) % 4 : Nat) : Int)⟩
def OpenIs (k : Nat) (m : List Int) (l : List fragment_open) (c : Option Nat) : Prop := match c with
  | none => l = []
  | some j => 1 ≤ j ∧ l = [ost k m j]
def nxt (N i : Nat) (c : Option Nat) : Bool × Option Nat := if i = 0 then (if N = 1 then (true, none) else (false, some 1)) else match c with
  | none => (false, none)
  | some j => if j % 4 = i % 4 then (if i + 1 = N then (true, none) else (false, some (i + 1))) else (false, none)
theorem step_ok {k : Nat} {m : List Int} (hk : 0 < k) (hk2 : k ≤ 64) (hm : m.length ≤ 512) {i : Nat} (hi : i < nsp k m) {a : fragment_Assembler} (hA : PAR a) (ho : a.own = 9) {c : Option Nat} (hc : OpenIs k m a.open_ c) (hj : ∀ j, c = some j → j % 4 = i % 4 → j = i) :
    (pacc a (pkt 9 10 true 2 k m i)).2.1 = (nxt (nsp k m) i c).1 ∧ ((nxt (nsp k m) i c).1 = true → (pacc a (pkt 9 10 true 2 k m i)).1.Data = m) ∧ OpenIs k m (pacc a (pkt 9 10 true 2 k m i)).2.2.2.open_ (nxt (nsp k m) i c).2 := by
  have h1 := (nsp_lt hk).1 hi
  have hlast := nsp_last hk h1
  have hpl := piece_len (k := k) (xs := m) (i := i)
  have hpl0 := piece_len (k := k) (xs := m) (i := 0)
  simp only [Nat.zero_mul, Nat.sub_zero] at hpl0
  have hn : vnum (pkt 9 10 true 2 k m i) = true := decide_eq_true ⟨by simp only [pkt]; omega, by simp only [pkt]; omega, by simp [pkt], by simp [pkt], by show 1 ≤ (piece k m i).length; rw [hpl]; omega, by show (piece k m i).length ≤ 64; rw [hpl]; omega⟩
  have hv : pvalidB (pkt 9 10 true 2 k m i) = true := by
    show (endp 9 && (endp 10 && vnum _)) = true
    rw [hn]; decide
  have htake : m.take (i * k) ++ piece k m i = m.take ((i + 1) * k) := by rw [piece, Nat.add_mul, Nat.one_mul, List.take_add]
  have hall : ∀ n : Nat, m.length ≤ n → m.take n = m := fun n h => List.take_of_length_le h
  have e1 : (i + 1) * k = i * k + k := by rw [Nat.add_mul, Nat.one_mul]
  unfold pacc
  rw [hv, if_neg (by simp), if_neg (by simp [pkt, ho])]
  by_cases h0 : i = 0
  · subst h0
    rw [if_pos (by simp [pkt])]
    have hdr : dropped a.open_ (pkt 9 10 true 2 k m 0) = [] := by
      cases c with
      | none => have : a.open_ = [] := hc; rw [this]; rfl
      | some j => have : a.open_ = [ost k m j] := hc.2; rw [this]; rfl
    simp only [Nat.zero_mul, Nat.zero_add, Nat.one_mul] at hlast htake e1 h1
    have hend : (pkt 9 10 true 2 k m 0).End = decide (1 = nsp k m) := by simp [pkt]
    rw [hdr, hend]
    simp only [nxt, if_true]
    by_cases hN : nsp k m = 1
    · rw [if_pos hN, hN, if_pos (by simp)]
      have := hlast.1 hN.symm
      exact ⟨rfl, fun _ => by simp only [wof, pkt, piece, Nat.zero_mul, List.drop_zero]; exact hall _ (by omega), rfl⟩
    · rw [if_neg hN, if_neg (by simp; omega)]
      refine ⟨rfl, fun h => (by cases h), Nat.le_refl 1, ?_⟩
      simp only [proom, List.length_nil, oof, wof, pkt, ost, piece, Nat.zero_mul, List.drop_zero, Nat.one_mul]
      rfl
  · rw [if_neg (by simp [pkt, h0])]
    simp only [nxt, if_neg h0]
    cases c with
    | none =>
      have hnil : a.open_ = [] := hc
      rw [hnil]
      exact ⟨rfl, fun h => (by cases h), hnil⟩
    | some j =>
      obtain ⟨hj1, hop⟩ := hc
      have hf : ffind a.open_ (pkt 9 10 true 2 k m i) = 0 := by rw [hop]; rfl
      have hg : a.open_.getD (0 : Int).toNat fragment_open.z = ost k m j := by rw [hop]; rfl
      have hdel : fdel a.open_ (0 : Int).toNat = [] := by rw [hop]; rfl
      rw [hf, if_neg (by decide), hg, hdel]
      by_cases hji : j % 4 = i % 4
      · have := hj j rfl hji
        subst this
        have hb : pbad (ost k m j) (pkt 9 10 true 2 k m j) = false := by
          have s1 : ((pkt 9 10 true 2 k m j).Sequence != ((ost k m j).last + 1) % 4) = false := by
            simp only [pkt, ost, bne_eq_false_iff_eq]; omega
          have s2 : decide ((ost k m j).size < ((pkt 9 10 true 2 k m j).Data.length : Int)) = false := by
            simp only [ost, pkt, hpl, hpl0, decide_eq_false_iff_not]; omega
          have s3 : (decide (((pkt 9 10 true 2 k m j).Data.length : Int) < (ost k m j).size) && !(pkt 9 10 true 2 k m j).End) = false := by
            by_cases hN : j + 1 = nsp k m
            · simp [pkt, hN]
            · have : ¬ m.length ≤ j * k + k := fun h => hN (hlast.2 h)
              have : decide (((pkt 9 10 true 2 k m j).Data.length : Int) < (ost k m j).size) = false := by
                simp only [ost, pkt, hpl, hpl0, decide_eq_false_iff_not]; omega
              rw [this]; rfl
          simp only [pbad, s1, s2, s3]; rfl
        have hlen : (ost k m j).whole.Data.length = j * k := by simp only [ost, List.length_take]; omega
        have hg2 : (grown (ost k m j) (pkt 9 10 true 2 k m j)).whole.Data = m.take ((j + 1) * k) := by simp only [grown, ost, pkt]; exact htake
        dsimp only
        rw [hb, if_neg (by simp), if_neg (by rw [hlen]; simp only [pkt, hpl]; omega), if_pos hji]
        have hend : (pkt 9 10 true 2 k m j).End = decide (j + 1 = nsp k m) := rfl
        rw [hend]
        by_cases hN : j + 1 = nsp k m
        · rw [if_pos hN, if_pos (by simpa using hN)]
          have := hlast.1 hN
          exact ⟨rfl, fun _ => by rw [hg2]; exact hall _ (by omega), rfl⟩
        · rw [if_neg hN, if_neg (by simpa using hN)]
          refine ⟨rfl, fun h => (by cases h), by omega, ?_⟩
          simp only [hop, Int.toNat_zero, List.set_cons_zero, List.cons.injEq, and_true]
          have : grown (ost k m j) (pkt 9 10 true 2 k m j) = ⟨⟨10, true, 2, (grown (ost k m j) (pkt 9 10 true 2 k m j)).whole.Data⟩, ((piece k m 0).length : Int), ((j % 4 : Nat) : Int)⟩ := rfl
          rw [this, hg2]
          simp only [ost, fragment_open.mk.injEq, true_and]
          omega
      · have hb : pbad (ost k m j) (pkt 9 10 true 2 k m i) = true := by
          have s1 : ((pkt 9 10 true 2 k m i).Sequence != ((ost k m j).last + 1) % 4) = true := by
            simp only [pkt, ost, bne_iff_ne, ne_eq]; omega
          simp only [pbad, s1]; rfl
        dsimp only
        rw [hb, if_pos rfl, if_neg hji]
        exact ⟨rfl, fun h => (by cases h), rfl⟩
theorem nxt_some {N i : Nat} {c : Option Nat} {j : Nat} (h : (nxt N i c).2 = some j) : j = i + 1 := by
  unfold nxt at h
  by_cases h0 : i = 0
  · rw [if_pos h0] at h
    split at h
    · cases h
    · cases h; omega
  · rw [if_neg h0] at h
    cases c with
    | none => cases h
    | some x =>
      simp only at h
      split at h
      · split at h
        · cases h
        · cases h; rfl
      · cases h
theorem nxt_done {N i : Nat} {c : Option Nat} (h : (nxt N i c).1 = true) : i + 1 = N := by
  unfold nxt at h
  by_cases h0 : i = 0
  · rw [if_pos h0] at h
    split at h
    · omega
    · cases h
  · rw [if_neg h0] at h
    cases c with
    | none => cases h
    | some x =>
      simp only at h
      split at h
      · split at h
        · assumption
        · cases h
      · cases h
theorem nxt_clean {N i : Nat} {c : Option Nat} (hi : i < N) (h0 : i = 0 → c = none) (h1 : 1 ≤ i → i < N → c = some i) : (nxt N i c).1 = decide (i + 1 = N) ∧ (i + 1 < N → (nxt N i c).2 = some (i + 1)) := by
  unfold nxt
  by_cases h : i = 0
  · subst h
    rw [if_pos rfl]
    by_cases hN : N = 1
    · rw [if_pos hN]; exact ⟨by simp [hN], fun h => by omega⟩
    · rw [if_neg hN]; exact ⟨by simp; omega, fun _ => rfl⟩
  · rw [if_neg h, h1 (by omega) hi]
    simp only [if_true]
    by_cases hN : i + 1 = N
    · rw [if_pos hN]; exact ⟨by simp [hN], fun h => by omega⟩
    · rw [if_neg hN]; exact ⟨by simp [hN], fun _ => rfl⟩
theorem step_code {k : Nat} {m : List Int} (hk : 0 < k) (hk2 : k ≤ 64) (hm : m.length ≤ 512) {i : Nat} (hi : i < nsp k m) {a : fragment_Assembler} (hA : PAR a) (ho : a.own = 9) {c : Option Nat} (hc : OpenIs k m a.open_ c) (h0 : i = 0 → c = none) (h1 : 1 ≤ i → c = some i) :
    (pacc a (pkt 9 10 true 2 k m i)).2.2.1 = 0 := by
  have h1' := (nsp_lt hk).1 hi
  have hlast := nsp_last hk h1'
  have hpl := piece_len (k := k) (xs := m) (i := i)
  have hpl0 := piece_len (k := k) (xs := m) (i := 0)
  simp only [Nat.zero_mul, Nat.sub_zero] at hpl0
  have hn : vnum (pkt 9 10 true 2 k m i) = true := decide_eq_true ⟨by simp only [pkt]; omega, by simp only [pkt]; omega, by simp [pkt], by simp [pkt], by show 1 ≤ (piece k m i).length; rw [hpl]; omega, by show (piece k m i).length ≤ 64; rw [hpl]; omega⟩
  have hv : pvalidB (pkt 9 10 true 2 k m i) = true := by
    show (endp 9 && (endp 10 && vnum _)) = true
    rw [hn]; decide
  unfold pacc
  rw [hv, if_neg (by simp), if_neg (by simp [pkt, ho])]
  by_cases hz : i = 0
  · subst hz
    rw [if_pos (by simp [pkt])]
    split <;> rfl
  · rw [if_neg (by simp [pkt, hz])]
    rw [h1 (by omega)] at hc
    obtain ⟨hj1, hop⟩ := hc
    have hf : ffind a.open_ (pkt 9 10 true 2 k m i) = 0 := by rw [hop]; rfl
    have hg : a.open_.getD (0 : Int).toNat fragment_open.z = ost k m i := by rw [hop]; rfl
    rw [hf, if_neg (by decide), hg]
    have hb : pbad (ost k m i) (pkt 9 10 true 2 k m i) = false := by
      have s1 : ((pkt 9 10 true 2 k m i).Sequence != ((ost k m i).last + 1) % 4) = false := by
        simp only [pkt, ost, bne_eq_false_iff_eq]; omega
      have s2 : decide ((ost k m i).size < ((pkt 9 10 true 2 k m i).Data.length : Int)) = false := by
        simp only [ost, pkt, hpl, hpl0, decide_eq_false_iff_not]; omega
      have s3 : (decide (((pkt 9 10 true 2 k m i).Data.length : Int) < (ost k m i).size) && !(pkt 9 10 true 2 k m i).End) = false := by
        by_cases hN : i + 1 = nsp k m
        · simp [pkt, hN]
        · have : ¬ m.length ≤ i * k + k := fun h => hN (hlast.2 h)
          have : decide (((pkt 9 10 true 2 k m i).Data.length : Int) < (ost k m i).size) = false := by
            simp only [ost, pkt, hpl, hpl0, decide_eq_false_iff_not]; omega
          rw [this]; rfl
      simp only [pbad, s1, s2, s3]; rfl
    have hlen : (ost k m i).whole.Data.length = i * k := by simp only [ost, List.length_take]; omega
    dsimp only
    rw [hb, if_neg (by simp), if_neg (by rw [hlen]; simp only [pkt, hpl]; omega)]
    split <;> rfl
end Lift
