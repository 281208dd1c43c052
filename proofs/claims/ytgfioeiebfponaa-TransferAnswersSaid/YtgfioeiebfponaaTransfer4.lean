/- Parts that are put in one after the other; the downloads that codes give. No program in sight. -/
import Derived.Test.YtgfioeiebfponaaTransfer3
set_option linter.unusedVariables false
set_option linter.unusedSimpArgs false
namespace Lift
open Go
theorem u8w {n : Int} : byte (IntKind.u8.wrap n) := by rw [w_u8]; constructor <;> omega
theorem fal_all {H : List Bool} {n : Nat} (h : ∀ k, k < n → H[k]? = some false) : fal H n = (List.range n).map Int.ofNat := by
  unfold fal
  congr 1
  apply List.filter_eq_self.2
  intro k hk
  simp [h k (by simpa using hk)]
theorem fal_set_low {H : List Bool} {i n : Nat} (h : n ≤ i) : fal (H.set i true) n = fal H n := by
  induction n with
  | zero => rfl
  | succ n ih =>
    rw [fal_succ, fal_succ, ih (by omega), List.getElem?_set, if_neg (show ¬ i = n by omega)]
theorem fal_set {H : List Bool} {i n : Nat} (hl : i < H.length) (h : i < n) (hi : H[i]? = some false) : (fal (H.set i true) n).length + 1 = (fal H n).length := by
  induction n with
  | zero => omega
  | succ n ih =>
    rw [fal_succ, fal_succ, List.length_append, List.length_append, List.getElem?_set]
    by_cases e : i = n
    · subst e
      rw [fal_set_low (Nat.le_refl _), if_pos rfl, if_pos hl, if_pos hi]; simp
    · rw [if_neg e]
      have := ih (by omega)
      omega
theorem tacc_put {d : Download_} {S P i : Nat} (t : TS d S P) (v : TV d) (hi : i < cnt S P) {x : List Int} (hx : x.length = min P (S - i * P)) (h : d.Have[i]? = some false ∨ x = pc d.Data P i) : tacc d (i : Int) x = (tput d P i x, 0) := by
  unfold tacc
  have hP : d.Part.toNat = P := by rw [t.p]; rfl
  rw [if_neg (fun h => h v), if_neg (by rw [t.h]; omega), hP, show ((i : Int)).toNat = i from rfl, if_neg (by rw [pc_len t]; omega), if_neg]
  rintro ⟨h1, h2⟩
  rcases h with h | h
  · rw [h] at h1; cases h1
  · exact h2 h
theorem tput_byte {d : Download_} {P i : Nat} {x : List Int} (hd : ∀ y ∈ d.Data, byte y) (hx : ∀ y ∈ x, byte y) : ∀ y ∈ (tput d P i x).Data, byte y := by
  intro y hy
  have hy' : y ∈ lay d.Data (i * P) x := hy
  unfold lay at hy'
  simp only [List.mem_append] at hy'
  rcases hy' with (h | h) | h
  · exact hd y (List.mem_of_mem_take h)
  · exact hx y h
  · exact hd y (List.mem_of_mem_drop h)
theorem tacc_ok {d : Download_} {S P : Nat} (t : TS d S P) (v : TV d) (hd : ∀ y ∈ d.Data, byte y) {i : Int} {x : List Int} (hx : ∀ y ∈ x, byte y) (h : (tacc d i x).2 = 0) : TS (tacc d i x).1 S P ∧ TV (tacc d i x).1 ∧ ∀ y ∈ (tacc d i x).1.Data, byte y := by
  have hP : d.Part.toNat = P := by rw [t.p]; rfl
  unfold tacc at h ⊢
  rw [if_neg (fun h => h v)] at h ⊢
  split at h
  · cases h
  · rename_i h1
    rw [if_neg h1]
    split at h
    · cases h
    · rename_i h2
      rw [if_neg h2]
      split at h
      · cases h
      · rename_i h3
        rw [if_neg h3]
        obtain ⟨n, rfl⟩ := Int.eq_ofNat_of_zero_le (show 0 ≤ i by omega)
        have hn : n < cnt S P := by rw [← t.h]; omega
        rw [hP] at h2 ⊢
        have hxl : x.length = (pc d.Data P n).length := by simpa using h2
        exact ⟨tput_T t hn hxl, tput_V t v hn hxl, tput_byte hd hx⟩
/-- A download of the codes. -/
structure TD (d : Download_) (S P : Nat) : Prop where
  t : TS d S P
  v : TV d
  b : ∀ y ∈ d.Data, byte y
theorem play_ok {c : field_Codes} (h : COk c) : Ev (law30_play 10000 c) (fun p => COk p.2 ∧ ∃ S P, TD p.1 S P ∧ S ≤ 60 ∧ P ≤ 9) := by
  unfold law30_play
  obtain ⟨r1, c1, e1, l1, k1⟩ := fnext_nat 10000 h (m := 60) (by omega) (by omega)
  obtain ⟨r2, c2, e2, l2, k2⟩ := fnext_nat 10000 k1 (m := 9) (by omega) (by omega)
  obtain ⟨r3, c3, e3, l3, k3⟩ := fnext_nat 10000 k2 (m := 12) (by omega) (by omega)
  refine Ev.to e1 (Ev.to e2 ?_)
  rw [wr (n := 1 + (r1 : Int)) (by omega), wr (n := 1 + (r2 : Int)) (by omega)]
  refine Ev.to (rNew_eq _ _ _) (Ev.to e3 ?_)
  obtain ⟨S, P, hS, hP, t, _, hf, v⟩ := tnew_V (s := 1 + (r1 : Int)) (p := 1 + (r2 : Int)) (by unfold Rng; omega)
  have hb : ∀ y ∈ (tnew (1 + (r1 : Int)) (1 + (r2 : Int))).1.Data, byte y := by
    unfold tnew
    rw [if_pos (by unfold Rng; omega)]
    intro y hy
    rw [List.eq_of_mem_replicate hy]; constructor <;> omega
  refine Ev.loop (fun n (s : Int × field_Codes × Download_) => s.1 = (n : Int) ∧ n ≤ 12 ∧ COk s.2.1 ∧ TD s.2.2 S P) (fun n s hI self hself => ?_) (n := r3) (by omega) ⟨rfl, by omega, k3, t, v, hb⟩
  obtain ⟨hn, hn2, hc, hd⟩ := hI
  refine Ev.dec (fun hpos => ?_) (fun _ => Ev.ret ⟨hc, S, P, hd, by omega, by omega⟩)
  have hcp := cnt_pos (S := S) hd.t.p1 hd.t.s1
  have hcS := cnt_le (S := S) hd.t.p1
  obtain ⟨i, c4, e4, l4, k4⟩ := fnext_nat 10000 hc (m := cnt S P) hcp (by omega)
  refine Ev.to (by rw [hd.t.h]; exact e4) ?_
  have hiP := (cnt_lt hd.t.p1).1 l4
  have hm : min s.2.2.Part (IntKind.i64.wrap (s.2.2.Size - IntKind.i64.wrap ((i : Int) * s.2.2.Part))) = ((min P (S - i * P) : Nat) : Int) := by
    rw [hd.t.p, hd.t.s]
    have e : (i : Int) * (P : Int) = ((i * P : Nat) : Int) := by simp
    rw [e, wr (n := ((i * P : Nat) : Int)) (by omega), wr (n := (S : Int) - ((i * P : Nat) : Int)) (by omega)]; omega
  simp only [hm]
  refine Ev.to (mk_ok (by omega)) ?_
  have hrl : (List.replicate (min P (S - i * P)) (0 : Int)).length = min P (S - i * P) := by simp
  refine Ev.count (min P (S - i * P)) (fun j (s2 : Int × field_Codes × List Int) => s2.1 = (j : Int) ∧ COk s2.2.1 ∧ s2.2.2.length = min P (S - i * P) ∧ ∀ y ∈ s2.2.2, byte y) (by omega)
    ⟨rfl, k4, hrl, fun y hy => by rw [List.eq_of_mem_replicate hy]; constructor <;> omega⟩ (fun j s2 hj hI self2 hself2 => ?_)
  obtain ⟨hj1, hj2, hj3, hj4⟩ := hI
  rw [hj1, hrl]
  by_cases hjl : j < min P (S - i * P)
  · refine Ev.decT (by omega) ?_
    obtain ⟨r5, c5, e5, l5, k5⟩ := fnext_nat 10000 hj2 (m := 256) (by omega) (by omega)
    refine Ev.to e5 (Ev.to (by rw [idx_nat, List.getElem?_eq_getElem (by omega)]) (Ev.letP ?_))
    rw [wi j (by omega)]
    refine hself2 _ hjl ⟨by simp, k5, by simp [upd, hj3], fun y hy => ?_⟩
    rcases List.mem_or_eq_of_mem_set hy with h | h
    · exact hj4 y h
    · rw [h]; exact u8w
  · refine Ev.decF (by omega) ?_
    have hs2 := hd.t.s2
    refine Ev.to (rAccept_eq (by omega) hd.b (i : Int) (by omega) hj4) ?_
    have hw : IntKind.i64.wrap (s.1 - 1) = ((n - 1 : Nat) : Int) := by rw [hn, wr (by omega)]; omega
    refine Ev.beq (fun h0 => ?_) (fun _ => ?_)
    · obtain ⟨a1, a2, a3⟩ := tacc_ok hd.t hd.v hd.b hj4 h0
      refine Ev.letP ?_
      rw [hw]
      exact hself (n - 1) _ (by omega) ⟨rfl, by omega, hj2, a1, a2, a3⟩
    · refine Ev.letP ?_
      rw [hw]
      exact hself (n - 1) _ (by omega) ⟨rfl, by omega, hj2, hd⟩
end Lift
