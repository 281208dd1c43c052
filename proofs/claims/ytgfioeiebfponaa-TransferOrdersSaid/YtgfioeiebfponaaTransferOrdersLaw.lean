/- The plain law of TransferOrders. uses: ev gen codes transfer transfer2 transfer3 transfer4
-/
import Derived.Test.YtgfioeiebfponaaTransfer4
set_option linter.unusedVariables false
set_option linter.unusedSimpArgs false
namespace Lift
open Go
/-- The download holds the bytes of D in the parts that are there. -/
structure TO (D : List Int) (P : Nat) (d : Download_) : Prop where
  t : TS d D.length P
  v : TV d
  h : ∀ i, d.Have[i]? = some true → pc d.Data P i = pc D P i
theorem pc_tput {d : Download_} {S P i : Nat} (t : TS d S P) (hi : i < cnt S P) {x : List Int} (hx : x.length = (pc d.Data P i).length) (j : Nat) : pc (tput d P i x).Data P j = if j = i then x else pc d.Data P j := by
  have hP := t.p1
  have h1 := (cnt_lt hP).1 hi
  have hpl := pc_len (i := i) t
  have t' := tput_T t hi hx
  have hpl' := fun j => pc_len (i := j) t'
  have hpl2 := fun j => pc_len (i := j) t
  apply List.ext_getElem?
  intro k
  have key : ∀ (m : List Int), (pc m P j)[k]? = if k < P then m[j * P + k]? else none := by
    intro m; unfold pc; rw [List.getElem?_take]; split
    · rw [List.getElem?_drop]
    · rfl
  rw [key]
  show (if k < P then (lay d.Data (i * P) x)[j * P + k]? else none) = _
  by_cases hk : k < P
  · rw [if_pos hk, lay_get (by rw [t.d]; omega)]
    by_cases e : j = i
    · subst e
      rw [if_pos rfl]
      by_cases hkx : k < x.length
      · rw [if_pos (by omega)]; congr 1; omega
      · rw [if_neg (by omega), List.getElem?_eq_none (l := x) (by omega), List.getElem?_eq_none (by rw [t.d]; omega)]
    · rw [if_neg e, key, if_pos hk, if_neg]
      intro hc
      have hji : (j * P + k) / P = j := by rw [Nat.mul_comm, Nat.mul_add_div (by omega), Nat.div_eq_of_lt hk]; rfl
      have : (j * P + k) / P = i := by
        rw [Nat.div_eq_iff (by omega)]
        constructor <;> omega
      omega
  · rw [if_neg hk]
    by_cases e : j = i
    · rw [if_pos e, List.getElem?_eq_none (by omega)]
    · rw [if_neg e, key, if_neg hk]
theorem pc_all {A B : List Int} {P : Nat} (hP : 1 ≤ P) (hl : A.length = B.length) (h : ∀ i, i < cnt B.length P → pc A P i = pc B P i) : A = B := by
  apply list_ext_all hl
  intro j hj
  have h1 := h (j / P) (div_cnt hP (by omega))
  have hm := Nat.mod_lt j (show 0 < P by omega)
  have hd : j / P * P + j % P = j := by have := Nat.div_add_mod j P; rw [Nat.mul_comm] at this; exact this
  have key : ∀ (m : List Int), (pc m P (j / P))[j % P]? = m[j]? := by
    intro m; unfold pc; rw [List.getElem?_take, if_pos hm, List.getElem?_drop, hd]
  rw [← key A, ← key B, h1]
theorem TO.put {D : List Int} {P i : Nat} {d : Download_} (o : TO D P d) (hi : i < cnt D.length P) : tacc d (i : Int) (pc D P i) = (tput d P i (pc D P i), 0) ∧ TO D P (tput d P i (pc D P i)) := by
  have hpD : (pc D P i).length = min P (D.length - i * P) := by simp [pc]
  have hxl : (pc D P i).length = (pc d.Data P i).length := by rw [pc_len o.t, hpD]
  have hil : i < d.Have.length := by rw [o.t.h]; exact hi
  constructor
  · refine tacc_put o.t o.v hi hpD ?_
    have hx := List.getElem?_eq_getElem hil
    cases hb : d.Have[i] with
    | true => exact .inr (o.h i (by rw [hx, hb])).symm
    | false => exact .inl (by rw [hx, hb])
  · refine ⟨tput_T o.t hi hxl, tput_V o.t o.v hi hxl, fun j hj => ?_⟩
    rw [pc_tput o.t hi hxl]
    by_cases e : j = i
    · rw [if_pos e, e]
    · rw [if_neg e]
      have hj' : (d.Have.set i true)[j]? = some true := hj
      rw [List.getElem?_set, if_neg (fun h => e h.symm)] at hj'
      exact o.h j hj'
/-- Counting down the parts that are not there. -/
theorem fal_step (H : List Bool) (i : Nat) (hi : i < H.length) : ((fal H (i + 1)).length : Int) = (fal H i).length + (if H[i] then 0 else 1) := by
  rw [fal_succ, List.length_append]
  have hx := List.getElem?_eq_getElem hi
  cases hb : H[i] with
  | true => simp [hx, hb]
  | false => simp [hx, hb]
theorem law30_TransferOrders_true (a0 : List Int) (a1 : Int) (a2 : List Int) (o0 : okL (okI .u8) a0) (o1 : okI .u8 a1) (o2 : okL (okI .u8) a2) : ∃ fuel, law30_TransferOrders fuel a0 a1 a2 = some true := by
  refine ⟨10000, Ev.isTrue ?_⟩
  unfold law30_TransferOrders
  have h1 := okI_u8.1 o1
  have hb0 : ∀ y ∈ a0, byte y := fun x hx => okI_u8.1 (o0.2 x hx)
  obtain ⟨q, rfl⟩ := Int.eq_ofNat_of_zero_le h1.1
  refine Ev.to awake_eq (Ev.iteF rfl ?_)
  refine Ev.join (fun s => s = false → 1 ≤ a0.length ∧ a0.length ≤ 200) (fun s hs => Ev.ite (fun _ => Ev.ret rfl) (fun e => ?_)) (fun j hj => Ev.dec (fun _ => hj _ (fun e => by cases e)) (fun h => hj _ (fun e => ?_)))
  rotate_left
  · have : ¬ (a0.length : Int) > 200 := by simpa using e
    omega
  obtain ⟨hl1, hl2⟩ := hs e
  have hm : Int.tmod (q : Int) 64 = ((q % 64 : Nat) : Int) := (Int.ofNat_tmod q 64).symm
  have hml := Nat.mod_lt q (show 0 < 64 by omega)
  rw [wr (n := (q : Int)) (by omega), hm, wr (n := 1 + ((q % 64 : Nat) : Int)) (by omega)]
  refine Ev.letP (Ev.to (New_eq _ _ _) ?_)
  obtain ⟨S, P, hS, hP, t, ht0, hf, v⟩ := tnew_V (s := (a0.length : Int)) (p := 1 + ((q % 64 : Nat) : Int)) (by unfold Rng; omega)
  obtain rfl : a0.length = S := by omega
  rw [hP] at t ht0 hf v ⊢
  have hp1 := t.p1
  have hp2 := t.p2
  have hc0 := cnt_pos (S := a0.length) hp1 hl1
  have hcS := cnt_le (S := a0.length) hp1
  rw [ht0]
  refine Ev.bneF rfl (Ev.chk (by simp; omega) (Ev.letE (tcount a0.length P (by omega) hp1 hp2) (Ev.to (mk_ok (by omega)) ?_)))
  have oN : TO a0 P (tnew (a0.length : Int) (P : Int)).1 := ⟨t, v, fun i hi => by
    have hil := lt_len hi
    rw [t.h] at hil
    rw [hf i hil] at hi; cases hi⟩
  have hN : (tnew (a0.length : Int) (P : Int)).1.Have = List.replicate (cnt a0.length P) false := by
    apply list_ext_all (by rw [t.h]; simp)
    intro i hi
    rw [t.h] at hi
    rw [hf i hi]; simp [hi]
  -- a part of the data, as the law cuts it
  have hsub : ∀ i, i < cnt a0.length P → sub a0 (IntKind.i64.wrap ((i : Int) * P)) (min (a0.length : Int) (IntKind.i64.wrap (IntKind.i64.wrap ((i : Int) * P) + P))) = some (pc a0 P i) := by
    intro i hi
    have hiP := (cnt_lt hp1).1 hi
    have e : (i : Int) * (P : Int) = ((i * P : Nat) : Int) := by simp
    have e2 : min (a0.length : Int) (((i * P : Nat) : Int) + P) = ((min (i * P + P) a0.length : Nat) : Int) := by omega
    rw [e, wr (n := ((i * P : Nat) : Int)) (by omega), wr (n := ((i * P : Nat) : Int) + P) (by omega), e2, sub_ok (by omega) (by omega)]
    congr 1
    unfold pc
    apply List.ext_getElem?
    intro j
    simp only [List.getElem?_take, List.getElem?_drop]
    by_cases h3 : j < P
    · by_cases h4 : i * P + j < a0.length
      · rw [if_pos (by omega), if_pos h3]
      · rw [if_neg (by omega), if_pos h3, List.getElem?_eq_none (by omega)]
    · rw [if_neg (by omega), if_neg h3]
  have hpcl : ∀ i, (pc a0 P i).length ≤ 64 := fun i => by simp [pc]; omega
  refine Ev.count 500 (fun k (s : Int × Download_ × List Bool) => s.1 = (k : Int) ∧ TO a0 P s.2.1 ∧ s.2.2 = s.2.1.Have ∧ (k ≤ 400)) (by omega) ⟨rfl, oN, hN.symm, by omega⟩ (fun k s hk hI self hself => ?_)
  obtain ⟨hk1, ho, hth, hk4⟩ := hI
  rw [hk1]
  refine Ev.join (fun s2 => s2 = true → k < 2 * cnt a0.length P ∨ k < 60) (fun s2 hs2 => Ev.ite (fun e2 => ?_) (fun e2 => ?_)) (fun j2 hj2 => ?_)
  · -- one more part
    have hk5 : k < 400 := by rcases hs2 e2 with h | h <;> omega
    refine Ev.chk (by simp; omega) ?_
    refine Ev.join (fun s3 => s3 = true → k < a2.length) (fun s3 hs3 => ?_) (fun j3 hj3 => Ev.dec (fun h => hj3 _ (fun _ => by omega)) (fun h => hj3 _ (fun e => by cases e)))
    refine Ev.join (fun (i : Int) => ∃ n : Nat, i = (n : Int) ∧ n < cnt a0.length P) (fun i hi => ?_) (fun j4 hj4 => Ev.ite (fun e3 => ?_) (fun e3 => ?_))
    · obtain ⟨n, rfl, hn⟩ := hi
      refine Ev.to (hsub n hn) (Ev.to (tAccept_eq (by omega) _ _ (by have := hpcl n; omega)) ?_)
      obtain ⟨ha, ho2⟩ := ho.put hn
      rw [ha]
      have hnl : n < s.2.2.length := by rw [hth, ho.t.h]; exact hn
      refine Ev.bneF rfl (Ev.to (by rw [idx_nat, List.getElem?_eq_getElem hnl]) (Ev.letP (Ev.to (tWanted_eq (by omega) _ _) ?_)))
      have hH : upd s.2.2 (n : Int) true = (tput s.2.1 P n (pc a0 P n)).Have := by rw [hth]; rfl
      rw [hH]
      generalize hD : tput s.2.1 P n (pc a0 P n) = d2 at ho2 ⊢
      have hcl : d2.Have.length = cnt a0.length P := ho2.t.h
      have hw : twant d2 (cnt a0.length P : Int) = fal d2.Have (cnt a0.length P) := by
        unfold twant
        rw [if_pos ho2.v, hcl, List.take_of_length_le (by have := fal_len d2.Have (cnt a0.length P); simpa using this)]
      rw [hw]
      have hfl := fal_len d2.Have (cnt a0.length P)
      refine Ev.count (fal d2.Have (cnt a0.length P)).length (fun m (s6 : Int × List Int × Int) => s6.1 = (m : Int) ∧ s6.2.1 = fal d2.Have (cnt a0.length P) ∧ s6.2.2 = (m : Int)) (by omega) ⟨rfl, rfl, rfl⟩ (fun m s6 hm hI6 self6 hself6 => ?_)
      obtain ⟨hm1, hm2, hm3⟩ := hI6
      rw [hm1, hm2, hm3]
      by_cases hml : m < (fal d2.Have (cnt a0.length P)).length
      · have hx := List.getElem?_eq_getElem hml
        obtain ⟨w, hw1, hw2, hw3⟩ := mem_fal.1 (List.getElem_mem hml)
        refine Ev.decT (by omega) (Ev.to (by rw [idx_nat, hx]) ?_)
        rw [hw1]
        refine Ev.join (fun s => s = false) (fun s hs => Ev.iteF hs (Ev.letP ?_)) (fun j5 hj5 => Ev.decF (by omega) (Ev.decF (by omega) (Ev.to (by rw [idx_nat, hw3]) (hj5 _ rfl))))
        rw [wi m (by omega)]
        exact hself6 _ hml ⟨by simp, rfl, by simp⟩
      · refine Ev.decF (by omega) ?_
        have hme : m = (fal d2.Have (cnt a0.length P)).length := by omega
        refine Ev.count (cnt a0.length P) (fun r (s8 : Int × Int) => s8.1 = ((fal d2.Have (cnt a0.length P)).length : Int) - ((fal d2.Have r).length : Int) ∧ s8.2 = (r : Int)) (by omega) ⟨by rw [hme]; simp [fal], rfl⟩ (fun r s8 hr hI8 self8 hself8 => ?_)
        obtain ⟨hr1, hr2⟩ := hI8
        rw [hr2]
        by_cases hrl : r < cnt a0.length P
        · have hrl' : r < d2.Have.length := by omega
          have hstep := fal_step d2.Have r hrl'
          have hflr := fal_len d2.Have r
          refine Ev.decT (by omega) (Ev.to (by rw [idx_nat, List.getElem?_eq_getElem hrl']) (Ev.not (Ev.ite (fun eb => ?_) (fun eb => ?_))))
          · rw [wi r (by omega)]
            refine hself8 _ hrl ⟨?_, by simp⟩
            rw [hstep, hr1, eb]; simp
          · rw [wi r (by omega), hr1, wr (by omega)]
            refine Ev.letP (hself8 _ hrl ⟨?_, by simp⟩)
            rw [hstep, eb]; simp only [Bool.false_eq_true, if_false]; omega
        · refine Ev.decF (by omega) ?_
          have hre : r = cnt a0.length P := by omega
          refine Ev.join (fun s => s = false) (fun s hs => Ev.iteF hs ?_) (fun j6 hj6 => ?_)
          · rw [wi k (by omega)]
            exact Ev.letP (hself _ (by omega) ⟨by simp, ho2, rfl, by omega⟩)
          · refine Ev.letP (Ev.iteF (by rw [hr1, hre]; simp) (Ev.to (tComplete_eq (by omega) _) (Ev.to (tWanted_eq (by omega) _ _) (hj6 _ ?_))))
            have hb : tcompl d2 = (((twant d2 1).length : Int) == 0) := by
              rw [Bool.eq_iff_iff, tcompl_iff]
              have hw1 := twant1 ho2.v
              constructor
              · intro h; rw [hw1.2 h.2]; rfl
              · intro h
                have : (twant d2 1).length = 0 := by simpa using h
                exact ⟨ho2.v, hw1.1 (List.eq_nil_of_length_eq_zero this)⟩
            rw [hb]; simp
    · have hka := hs3 e3
      have hx := List.getElem?_eq_getElem hka
      have hb := okI_u8.1 (o2.2 _ (List.getElem_mem hka))
      obtain ⟨z, hz⟩ := Int.eq_ofNat_of_zero_le hb.1
      refine Ev.to (by rw [idx_nat, hx]) (Ev.chk (by simp; omega) (Ev.letP (hj4 _ ?_)))
      rw [hz, wr (n := (z : Int)) (by omega)]
      exact ⟨z % cnt a0.length P, (Int.ofNat_tmod _ _).symm, Nat.mod_lt _ hc0⟩
    · exact hj4 _ ⟨k % cnt a0.length P, (Int.ofNat_tmod _ _).symm, Nat.mod_lt _ hc0⟩
  · -- all parts once more
    refine Ev.count (cnt a0.length P) (fun n (s10 : Int × Download_) => s10.1 = (n : Int) ∧ TO a0 P s10.2 ∧ ∀ i, i < n → s10.2.Have[i]? = some true) (by omega) ⟨rfl, ho, fun i hi => by omega⟩ (fun n s10 hn hI10 self10 hself10 => ?_)
    obtain ⟨hn1, ho2, hall⟩ := hI10
    rw [hn1]
    by_cases hnl : n < cnt a0.length P
    · refine Ev.decT (by omega) (Ev.to (hsub n hnl) (Ev.to (tAccept_eq (by omega) _ _ (by have := hpcl n; omega)) ?_))
      obtain ⟨ha, ho3⟩ := ho2.put hnl
      rw [ha]
      refine Ev.bneF rfl (Ev.letP ?_)
      rw [wi n (by omega)]
      refine hself10 _ hnl ⟨by simp, ho3, fun i hi => ?_⟩
      show (s10.2.Have.set n true)[i]? = some true
      rw [List.getElem?_set]
      by_cases e : n = i
      · rw [if_pos e, if_pos (by rw [ho2.t.h]; exact hnl)]
      · rw [if_neg e]; exact hall i (by omega)
    · refine Ev.decF (by omega) ?_
      have hD : s10.2.Data = a0 := pc_all hp1 ho2.t.d (fun i hi => ho2.h i (hall i (by omega)))
      have hTC : TC s10.2 := ⟨ho2.v, fun i hi => by
        have hil := lt_len hi
        rw [ho2.t.h] at hil
        rw [hall i (by omega)] at hi; cases hi⟩
      refine Ev.to (tBytes_eq (by omega) (by rw [hD]; omega)) ?_
      have : tbytes s10.2 = (a0, 0) := by
        unfold tbytes
        rw [if_neg (fun h => h ho2.v), if_neg (fun h => h hTC), hD]
      rw [this]
      exact Ev.beqT rfl (Ev.letP (Ev.ret (by simp)))
  · refine Ev.dec (fun h1 => Ev.dec (fun h2 => hj2 _ (fun _ => .inr (by omega))) (fun h2 => ?_)) (fun h1 => ?_)
    · refine hj2 _ (fun e => .inl ?_)
      have e' := of_decide_eq_true e
      rw [wr (n := 2 * (cnt a0.length P : Int)) (by omega)] at e'
      omega
    · refine hj2 _ (fun e => .inl ?_)
      have e' := of_decide_eq_true e
      rw [wr (n := 2 * (cnt a0.length P : Int)) (by omega)] at e'
      omega
end Lift
