/- The plain law of FragmentPieces. uses: base lists ev each dice dicebytes frag fragb fragm
-/
import Derived.Test.YtnilklnmhndlnaaFragm
set_option linter.unusedVariables false
set_option linter.unusedSimpArgs false
namespace Lift
open Go
theorem join_pieces {k : Nat} {xs : List Int} : ∀ n : Nat, (List.range n).flatMap (piece k xs) = xs.take (n * k)
  | 0 => by simp
  | n + 1 => by
    rw [List.range_succ, List.flatMap_append, join_pieces n]
    simp only [List.flatMap_cons, List.flatMap_nil, List.append_nil, piece]
    rw [Nat.add_mul, Nat.one_mul, List.take_add]
theorem law22_FragmentPieces_true (a0 : List Int) (a1 a2 : Int) (a3 : Bool) (o0 : okL (okI .i64) a0) (o1 : okI .i64 a1) (o2 : okI .i64 a2) : ∃ fuel, law22_FragmentPieces fuel a0 a1 a2 a3 = some true := by
  refine ⟨10000, Ev.isTrue ?_⟩
  unfold law22_FragmentPieces
  have skip : Ev (bindP (law22_awake 10000) fun y2 => some y2) (fun b => b = true) := Ev.to awake22 (Ev.ret rfl)
  rw [Light_eq, bindP_some]
  refine Ev.not (Ev.dec (fun h0 => ?_) (fun _ => skip))
  rw [Roll_eq, bindP_some]
  obtain ⟨m, d1, e1, hm1, hm2, hmb, hd1⟩ := message_ok (fuel := 10000) (by omega) (roll_ok (l := a0) (by omega)) (n := 500) (by omega) (by omega)
  rw [e1, bindP_some, Mod_eq 10000 (by omega) (by omega), bindP_some, Mod_eq 10000 (by omega) (by omega), bindP_some]
  have q1 := Int.emod_nonneg a1 (show (64 : Int) ≠ 0 by omega)
  have q2 := Int.emod_lt_of_pos a1 (show (0 : Int) < 64 by omega)
  have q3 := Int.emod_nonneg a2 (show (8 : Int) ≠ 0 by omega)
  have q4 := Int.emod_lt_of_pos a2 (show (0 : Int) < 8 by omega)
  rw [wr (by omega), letP_eq]
  obtain ⟨k, hk⟩ : ∃ k : Nat, 1 + a1 % 64 = k := ⟨(1 + a1 % 64).toNat, by omega⟩
  rw [hk, Split_eq (by omega), bindP_some, joinP]
  have hkp : 0 < k := by omega
  have hs : splitR 200 8 a3 (a2 % 8) (k : Int) m = (pkts 200 8 a3 (a2 % 8) k m, 0) := by
    unfold splitR
    rw [if_neg (by decide), if_neg (by omega), if_neg (by omega), if_neg (by omega)]; rfl
  rw [hs]
  have hlen : (pkts 200 8 a3 (a2 % 8) k m).length = nsp k m := by simp [pkts]
  have hle := nsp_le hkp m
  refine Ev.bneF rfl ?_
  rw [show decide ((k : Int) ≠ 0) = true by simp; omega, chk_true, bindP_some]
  dsimp only
  have hq : IntKind.i64.wrap (Int.tdiv (IntKind.i64.wrap ((IntKind.i64.wrap ((m.length : Int) + (k : Int))) - 1)) (k : Int)) = ((nsp k m : Nat) : Int) := by
    rw [wr (n := (m.length : Int) + (k : Int)) (by omega), wr (n := (m.length : Int) + (k : Int) - 1) (by omega)]
    have e : (m.length : Int) + (k : Int) - 1 = ((m.length + k - 1 : Nat) : Int) := by omega
    rw [e, ← Int.ofNat_tdiv]
    show IntKind.i64.wrap ((nsp k m : Nat) : Int) = _
    exact wr (by omega)
  rw [hq, hlen]
  refine Ev.iteF (by simp) ?_
  have hpk : ∀ i : Nat, i < nsp k m → (pkts 200 8 a3 (a2 % 8) k m)[i]? = some (pkt 200 8 a3 (a2 % 8) k m i) := fun i hi => by simp [pkts, List.getElem?_range hi]
  refine Ev.loop (fun r (s : Int × List Int) => ∃ i : Nat, i ≤ nsp k m ∧ r = nsp k m - i ∧ s = ((i : Int), m.take (i * k))) (fun r s hi self hself => ?_) (n := nsp k m) (by omega) ⟨0, by omega, by omega, by simp⟩
  obtain ⟨i, hi, hr, rfl⟩ := hi
  by_cases hl : i < nsp k m
  · have h1 := (nsp_lt hkp).1 hl
    have hlast := nsp_last hkp h1
    have hpl := piece_len (k := k) (xs := m) (i := i)
    refine Ev.decT (by simp only; omega) ?_
    rw [wr (by omega), letP_eq]
    simp only [idx_nat, hpk i hl, bindP_some]
    rw [Valid_eq, bindP_some, joinP]
    have hstep : Ev (bindP (app 1 (m.take (i * k)) (pkt 200 8 a3 (a2 % 8) k m i).Data) fun x5 => letP (IntKind.i64.wrap ((i : Int) + 1)) fun x6 => self (x6, x5)) (fun b => b = true) := by
      rw [app_ok (by simp [pkt]; omega), bindP_some, letP_eq, wi i (by omega)]
      refine hself (nsp k m - (i + 1)) _ (by omega) ⟨i + 1, by omega, rfl, ?_⟩
      refine Prod.ext (by simp) ?_
      simp only [pkt, piece]
      rw [Nat.add_mul, Nat.one_mul, List.take_add]
    have hn : vnum (pkt 200 8 a3 (a2 % 8) k m i) = true := decide_eq_true ⟨by simp only [pkt]; omega, by simp only [pkt]; omega, q3, q4, by show 1 ≤ (piece k m i).length; rw [hpl]; omega, by show (piece k m i).length ≤ 64; rw [hpl]; omega⟩
    have hv : validB (pkt 200 8 a3 (a2 % 8) k m i) = true := by
      show (endp 200 && (endp 8 && vnum _)) = true
      rw [hn]; decide
    rw [hv]
    refine Ev.iteF rfl (Ev.bneF rfl (Ev.bneF rfl (Ev.bneF rfl (Ev.bneF rfl ?_))))
    refine Ev.bneF (by simp only [pkt, tm4]) ?_
    refine Ev.bneF (by simp only [pkt]; rw [Bool.eq_iff_iff]; simp) ?_
    have hend : decide (i + 1 = nsp k m) = ((i : Int) == ((nsp k m : Nat) : Int) - 1) := by rw [Bool.eq_iff_iff]; simp; omega
    refine Ev.bneF (by simp only [pkt]; exact hend) ?_
    rw [← hend]
    refine Ev.bne (fun hne => ?_) (fun _ => hstep)
    refine Ev.iteF ?_ hstep
    have : i + 1 = nsp k m := by
      refine Classical.byContradiction fun hn => hne ?_
      simp only [pkt]
      generalize i * k = p at *
      omega
    simp [this]
  · have hii : i = nsp k m := by omega
    subst hii
    refine Ev.decF (by simp) ?_
    have hall : m.length ≤ nsp k m * k := by
      refine Classical.byContradiction fun h => ?_
      have := (nsp_lt hkp (xs := m) (i := nsp k m)).2 (by omega)
      omega
    have hsame : ref01_Same 10000 (m.take (nsp k m * k)) m = some true := by
      rw [List.take_of_length_le hall, Same_eq (by omega) (by omega)]; simp
    rw [hsame, bindP_some]
    exact Ev.iteT rfl skip
end Lift
