/- The plain law of TransferConflicts. uses: ev gen codes transfer transfer2 transfer3 transfer4
-/
import Derived.Test.YtgfioeiebfponaaTransfer4
set_option linter.unusedVariables false
set_option linter.unusedSimpArgs false
namespace Lift
open Go
theorem tput_same {d : Download_} {S P i : Nat} (t : TS d S P) (hi : i < cnt S P) (h : d.Have[i]? = some true) : tput d P i (pc d.Data P i) = d := by
  have e1 : d.Have.set i true = d.Have := by
    apply List.ext_getElem?
    intro j
    rw [List.getElem?_set]
    by_cases e : i = j
    · subst e; rw [if_pos rfl, if_pos (lt_len h), h]
    · rw [if_neg e]
  have h1 := (cnt_lt t.p1).1 hi
  have hpl := pc_len (i := i) t
  have e2 : lay d.Data (i * P) (pc d.Data P i) = d.Data := by
    apply List.ext_getElem?
    intro j
    rw [lay_get (by rw [t.d]; omega)]
    by_cases hc : i * P ≤ j ∧ j < i * P + (pc d.Data P i).length
    · rw [if_pos hc]
      unfold pc
      rw [List.getElem?_take, if_pos (by omega), List.getElem?_drop]
      congr 1; omega
    · rw [if_neg hc]
  unfold tput
  rw [e1, e2]
theorem xor0 {a : Int} (h : byte a) : bXor .u8 a 0 = a := by
  obtain ⟨m, rfl⟩ := Int.eq_ofNat_of_zero_le h.1
  have := xor_u8 (a := m) (b := 0) (by have := h.2; omega) (by omega)
  simpa using this
theorem xor_ne {a b : Int} (ha : byte a) (hb : byte b) (h0 : b ≠ 0) : bXor .u8 a b ≠ a := by
  obtain ⟨m, rfl⟩ := Int.eq_ofNat_of_zero_le ha.1
  obtain ⟨n, rfl⟩ := Int.eq_ofNat_of_zero_le hb.1
  have h1 := ha.2
  have h2 := hb.2
  rw [xor_u8 (by omega) (by omega)]
  intro e
  have e' : m ^^^ n = m := by omega
  have : n = 0 := by
    have h3 : m ^^^ (m ^^^ n) = m ^^^ m := by rw [e']
    rwa [← Nat.xor_assoc, Nat.xor_self, Nat.zero_xor] at h3
  exact h0 (by omega)
theorem law30_TransferConflicts_true (a0 : List Int) (a1 a2 : Int) (o0 : okL (okI .u8) a0) (o1 : okI .u8 a1) (o2 : okI .u8 a2) : ∃ fuel, law30_TransferConflicts fuel a0 a1 a2 = some true := by
  refine ⟨10000, Ev.isTrue ?_⟩
  unfold law30_TransferConflicts
  have h1 := okI_u8.1 o1
  have h2 : byte a2 := okI_u8.1 o2
  obtain ⟨at_, rfl⟩ := Int.eq_ofNat_of_zero_le h1.1
  obtain ⟨c, ec, hc⟩ := fNew_ok 10000 (l := a0) (n := 200) (fun x hx => okI_u8.1 (o0.2 x hx)) (by omega) (by omega)
  refine Ev.to awake_eq (Ev.iteF rfl (Ev.to ec (Ev.bind (play_ok hc) (fun p hp => ?_))))
  obtain ⟨_, S, P, hd, hS, hP⟩ := hp
  have t := hd.t
  have hp1 := t.p1
  have hcS := cnt_le (S := S) hp1
  refine Ev.count p.1.Have.length (fun i s => s = (i : Int)) (by have := t.c1; omega) rfl (fun i s hi hI self hself => ?_)
  subst hI
  by_cases hl : i < p.1.Have.length
  · have hn : i < cnt S P := by rw [← t.h]; exact hl
    have hx := List.getElem?_eq_getElem hl
    refine Ev.decT (by omega) (Ev.to (by rw [idx_nat, hx]) (Ev.not (Ev.ite (fun hg => ?_) (fun hg => ?_))))
    rotate_left
    · rw [wi i (by omega)]; exact hself _ hl (by simp)
    have hgt : p.1.Have[i]? = some true := by rw [hx, hg]
    have hiP := (cnt_lt hp1).1 hn
    obtain ⟨e1, e2, e3⟩ := piece_sub t hn
    have e2' : min p.1.Size (IntKind.i64.wrap (((i * P : Nat) : Int) + p.1.Part)) = ((min (i * P + P) S : Nat) : Int) := by rw [← e2]; omega
    rw [e1, e2']
    have hpl := pc_len (i := i) t
    have hs2 := t.s2
    have hp2 := t.p2
    refine Ev.to e3 (Ev.to (app_ok (by simp; omega)) ?_)
    rw [List.nil_append]
    refine Ev.to (tAccept_eq (by omega) _ _ (by omega)) ?_
    rw [tacc_put t hd.v hn hpl (.inr rfl), tput_same t hn hgt]
    have hpb : ∀ y ∈ pc p.1.Data P i, byte y := fun y hy => hd.b y (List.mem_of_mem_drop (List.mem_of_mem_take hy))
    refine Ev.join (fun s => s = false) (fun s hs => Ev.iteF hs ?_) (fun j hj => Ev.bneF rfl (Ev.to (rSame_eq hd.b hd.b (show p.1.Have.length ≤ 9000 by have := t.c1; omega) (by omega)) (hj _ (by simp))))
    have hL : 0 < (pc p.1.Data P i).length := by omega
    rw [wr (n := (at_ : Int)) (by omega)]
    have hmt : Int.tmod (at_ : Int) ((pc p.1.Data P i).length : Int) = ((at_ % (pc p.1.Data P i).length : Nat) : Int) := (Int.ofNat_tmod _ _).symm
    rw [hmt]
    have hk := Nat.mod_lt at_ hL
    generalize at_ % (pc p.1.Data P i).length = k at hk ⊢
    have hkx := List.getElem?_eq_getElem hk
    have hkb := hpb _ (List.getElem_mem hk)
    refine Ev.chk (decide_eq_true (by omega)) (Ev.to (by rw [idx_nat, hkx]) (Ev.to (by rw [idx_nat, hkx]) (Ev.letP (Ev.to (tAccept_eq (by omega) _ _ (by simp [upd]; omega)) ?_))))
    refine Ev.join (fun s => s = false) (fun s hs => Ev.iteF hs (by rw [wi i (by omega)]; exact hself _ hl (by simp))) (fun j2 hj2 => ?_)
    by_cases h0 : a2 = 0
    · refine Ev.bne (fun _ => hj2 _ (by simp [h0])) (fun _ => hj2 _ rfl)
    · have hne : upd (pc p.1.Data P i) (k : Int) (bXor .u8 (pc p.1.Data P i)[k] a2) ≠ pc p.1.Data P i := by
        intro e
        have h3 : ((pc p.1.Data P i).set k (bXor .u8 (pc p.1.Data P i)[k] a2))[k]? = (pc p.1.Data P i)[k]? := by
          have e' : (pc p.1.Data P i).set k (bXor .u8 (pc p.1.Data P i)[k] a2) = pc p.1.Data P i := e
          rw [e']
        rw [List.getElem?_set, if_pos rfl, if_pos hk, hkx] at h3
        simp only [Option.some.injEq] at h3
        exact xor_ne hkb h2 h0 h3
      have hul : (upd (pc p.1.Data P i) (k : Int) (bXor .u8 (pc p.1.Data P i)[k] a2)).length = (pc p.1.Data P i).length := by simp [upd]
      have : (tacc p.1 (i : Int) (upd (pc p.1.Data P i) (k : Int) (bXor .u8 (pc p.1.Data P i)[k] a2))).2 = 42 := by
        unfold tacc
        have hPp : p.1.Part.toNat = P := by rw [t.p]; rfl
        rw [if_neg (fun h => h hd.v), if_neg (by omega), hPp, show ((i : Int)).toNat = i from rfl, if_neg (by omega), if_pos ⟨hgt, hne⟩]
      rw [this]
      exact Ev.bneF rfl (hj2 _ rfl)
  · exact Ev.decF (by omega) (Ev.ret rfl)
end Lift
