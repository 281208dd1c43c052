/- What the functions of downloads return. No program in sight. -/
import Derived.Test.YtgfioeiebfponaaTransfer
set_option linter.unusedVariables false
set_option linter.unusedSimpArgs false
namespace Lift
open Go
theorem Ev.isSome {α : Type} {x : Option α} {a : α} (h : Ev x (fun b => b = a)) : x = some a := by obtain ⟨b, e, rfl⟩ := h; exact e
theorem tEq {fuel : Nat} (hf : 9000 < fuel) {a b : List Int} (h : a.length ≤ 9000) : slices_Equal_byte_byte fuel a b = some (decide (a = b)) := by
  unfold slices_Equal_byte_byte
  by_cases hl : a.length = b.length
  · rw [show ((a.length : Int) != (b.length : Int)) = false by simp [hl], iteP_false]
    refine same_loop hl (by omega) (fun i x y hx hy k => ?_) (fun k => by simp)
    have hi := lt_len hx
    simp only [show ((i : Int) < (a.length : Int)) by omega, decide_true, iteP_true, idx_nat, hx, hy, bindP_some, wi i (by omega), iteP_eq]
    by_cases e : x = y <;> simp [e]
  · rw [show ((a.length : Int) != (b.length : Int)) = true by simp; omega, iteP_true]
    have : a ≠ b := fun e => hl (by rw [e])
    simp [this]
theorem tcloneb {fuel : Nat} {l : List Bool} (h : l.length ≤ 100000) : slices_Clone_bool_bool fuel l = some l := by
  unfold slices_Clone_bool_bool
  rw [app_ok (by simp; omega)]; simp
theorem tclone {fuel : Nat} {l : List Int} (h : l.length ≤ 100000) : slices_Clone_byte_byte fuel l = some l := by
  unfold slices_Clone_byte_byte
  rw [app_ok (by simp; omega)]; simp
/-- A download with a part. -/
def tput (d : Download_) (P i : Nat) (x : List Int) : Download_ := { { d with Have := d.Have.set i true } with Data := lay d.Data (i * P) x }
open Classical in
/-- What Accept returns. -/
noncomputable def tacc (d : Download_) (i : Int) (x : List Int) : Download_ × Int :=
  if ¬ TV d then (Download_.z, 1) else if i < 0 ∨ (d.Have.length : Int) ≤ i then (Download_.z, 2)
  else if x.length ≠ (pc d.Data d.Part.toNat i.toNat).length then (Download_.z, 4)
  else if d.Have[i.toNat]? = some true ∧ x ≠ pc d.Data d.Part.toNat i.toNat then (Download_.z, 42)
  else (tput d d.Part.toNat i.toNat x, 0)
theorem tput_T {d : Download_} {S P i : Nat} (t : TS d S P) (hi : i < cnt S P) {x : List Int} (hx : x.length = (pc d.Data P i).length) : TS (tput d P i x) S P := by
  refine ⟨t.s, t.p, t.s1, t.s2, t.p1, t.p2, by simp [tput, t.h], ?_⟩
  have := (cnt_lt t.p1).1 hi
  rw [pc_len t] at hx
  show (lay d.Data (i * P) x).length = S
  rw [lay_len (by rw [t.d]; omega), t.d]
theorem lay_get {D x : List Int} {k : Nat} (h : k + x.length ≤ D.length) (j : Nat) : (lay D k x)[j]? = if k ≤ j ∧ j < k + x.length then x[j - k]? else D[j]? := by
  unfold lay
  simp only [List.getElem?_append, List.length_append, List.length_take, List.getElem?_take, List.getElem?_drop]
  by_cases h1 : j < k
  · have a : j < min k D.length + x.length := by omega
    have b : j < min k D.length := by omega
    have c : ¬ (k ≤ j ∧ j < k + x.length) := by omega
    simp [a, b, c, h1]
  · by_cases h2 : j < k + x.length
    · have a : j < min k D.length + x.length := by omega
      have b : ¬ j < min k D.length := by omega
      have c : (k ≤ j ∧ j < k + x.length) := by omega
      have e : min k D.length = k := by omega
      simp only [a, b, c, e, if_true, if_false, h1, and_self]
    · have a : ¬ j < min k D.length + x.length := by omega
      have c : ¬ (k ≤ j ∧ j < k + x.length) := by omega
      have e : k + x.length + (j - (min k D.length + x.length)) = j := by omega
      simp [a, c, e]
theorem div_between {P i j : Nat} (hP : 1 ≤ P) (h : ¬ (i * P ≤ j ∧ j < i * P + P)) : j / P ≠ i := by
  intro e
  have h1 := Nat.div_mul_le_self j P
  have h2 := Nat.lt_div_mul_add (a := j) (b := P) (by omega)
  rw [e] at h1 h2; omega
theorem tput_V {d : Download_} {S P i : Nat} (t : TS d S P) (v : TV d) (hi : i < cnt S P) {x : List Int} (hx : x.length = (pc d.Data P i).length) : TV (tput d P i x) := by
  have z := (TV.of t).1 v
  refine (TV.of (tput_T t hi hx)).2 (fun j hj hk => ?_)
  have hP := t.p1
  have h1 := (cnt_lt hP).1 hi
  rw [pc_len t] at hx
  show (lay d.Data (i * P) x)[j]? = some 0
  have hk' : (d.Have.set i true)[j / P]? = some false := hk
  rw [List.getElem?_set] at hk'
  have hne : ¬ i = j / P := by
    intro e
    rw [if_pos e, if_pos (by rw [t.h]; exact hi)] at hk'
    cases hk'
  rw [if_neg hne] at hk'
  rw [lay_get (by rw [t.d]; omega), if_neg, z j hj hk']
  rintro ⟨h2, h3⟩
  apply hne
  have : j / P = i := by
    have a : i * P ≤ j := h2
    have b : j < i * P + P := by omega
    rw [Nat.div_eq_iff (by omega)]
    constructor
    · omega
    · omega
  exact this.symm
theorem tAccept_eq {fuel : Nat} (hf : 9000 < fuel) (d : Download_) (i : Int) {x : List Int} (hx : x.length ≤ 9000) : transfer_Accept fuel d i x = some (tacc d i x) := by
  apply Ev.isSome
  unfold transfer_Accept tacc
  refine Ev.to (tValid_eq hf d) (Ev.not (Ev.ite (fun v => ?_) (fun v => Ev.ret (by rw [if_pos]; intro h; rw [tval_iff.2 h] at v; cases v))))
  rw [tval_iff] at v
  rw [if_neg (fun h => h v)]
  obtain ⟨S, P, t, z⟩ := id v
  have hc := t.c1
  refine Ev.join (fun s => s = true ↔ i < 0 ∨ (d.Have.length : Int) ≤ i) (fun s hs => Ev.ite (fun e => ?_) (fun e => ?_)) (fun j hj => Ev.dec (fun h => hj _ (by simp [h])) (fun h => hj _ (by simp; omega)))
  · rw [if_pos (hs.1 e)]; exact Ev.ret rfl
  · have hr : ¬ (i < 0 ∨ (d.Have.length : Int) ≤ i) := fun h => by rw [hs.2 h] at e; cases e
    rw [if_neg hr]
    obtain ⟨n, rfl⟩ := Int.eq_ofNat_of_zero_le (show 0 ≤ i by omega)
    have hn : n < cnt S P := by rw [← t.h]; omega
    have hP : d.Part.toNat = P := by rw [t.p]; rfl
    have hnn : ((n : Int)).toNat = n := rfl
    rw [hP, hnn]
    refine Ev.to (piece_eq fuel t hn) (Ev.bne (fun h => ?_) (fun h => ?_))
    · rw [if_pos (by omega)]; exact Ev.ret rfl
    · have hxl : x.length = (pc d.Data P n).length := by omega
      rw [if_neg (fun hh => hh hxl)]
      have hg := List.getElem?_eq_getElem (show n < d.Have.length by rw [t.h]; exact hn)
      refine Ev.to (by rw [idx_nat, hg]) (Ev.join (fun s => s = true ↔ d.Have[n]? = some true ∧ x ≠ pc d.Data P n) (fun s hs => Ev.ite (fun e => ?_) (fun e => ?_)) (fun j2 hj2 => Ev.ite (fun e => ?_) (fun e => hj2 _ ?_)))
      · rw [if_pos (hs.1 e)]; exact Ev.ret rfl
      · rw [if_neg (fun h => by rw [hs.2 h] at e; cases e)]
        have h1 := (cnt_lt t.p1).1 hn
        have hpl := pc_len (i := n) t
        have hs2 := t.s2
        have hp2 := t.p2
        refine Ev.to (tcloneb (by omega)) (Ev.to (tclone (by rw [t.d]; omega)) (Ev.to (by rw [idx_nat, hg]) (Ev.letP ?_)))
        have hu : upd d.Have n true = d.Have.set n true := rfl
        rw [hu]
        have t' : TS { { d with Have := d.Have.set n true } with Data := d.Data } S P := ⟨t.s, t.p, t.s1, t.s2, t.p1, t.p2, by simp [t.h], t.d⟩
        obtain ⟨e1, e2, e3⟩ := piece_sub t' hn
        have hv : transfer_piece_view fuel { { d with Have := d.Have.set n true } with Data := d.Data } (n : Int) = some (((n * P : Nat) : Int), ((min (n * P + P) S : Nat) : Int), ((min (n * P + P) S : Nat) : Int)) := by
          unfold transfer_piece_view
          rw [letP_eq, letP_eq, e1, e2, e3, bindP_some]
        refine Ev.to hv (Ev.chk ?_ (Ev.letP (Ev.ret ?_)))
        · have hdl := t.d
          refine decide_eq_true ⟨Int.natCast_nonneg _, ?_, Int.le_refl _, ?_⟩
          · show ((n * P : Nat) : Int) ≤ ((min (n * P + P) S : Nat) : Int); omega
          · show ((min (n * P + P) S : Nat) : Int) ≤ (d.Data.length : Int); omega
        · have ht : x.take (((min (n * P + P) S : Nat) : Int).toNat - ((n * P : Nat) : Int).toNat) = x := by
            apply List.take_of_length_le
            show x.length ≤ min (n * P + P) S - n * P
            omega
          show ({ { d with Have := d.Have.set n true } with Data := lay d.Data ((n * P : Nat) : Int).toNat (x.take (((min (n * P + P) S : Nat) : Int).toNat - ((n * P : Nat) : Int).toNat)) }, (0 : Int)) = _
          rw [ht]; rfl
      · refine Ev.to (piece_eq fuel t hn) (Ev.to (tEq hf hx) (hj2 _ ?_))
        rw [hg, e]; simp
      · constructor
        · intro h; cases h
        · rintro ⟨h1, _⟩; rw [hg, e] at h1; cases h1
theorem lay_step {D x : List Int} {k i : Nat} {y : Int} (h : k + x.length ≤ D.length) (hy : x[i]? = some y) : (lay D k (x.take i)).set (k + i) y = lay D k (x.take (i + 1)) := by
  have hi := lt_len hy
  have l1 : (x.take i).length = i := by simp; omega
  have l2 : (x.take (i + 1)).length = i + 1 := by simp; omega
  apply List.ext_getElem?
  intro j
  rw [List.getElem?_set, lay_get (by omega), lay_get (by omega), l1, l2, lay_len (by omega)]
  by_cases h1 : k + i = j
  · subst h1
    rw [if_pos rfl, if_pos (by omega), if_pos (by omega)]
    rw [show k + i - k = i by omega, List.getElem?_take, if_pos (by omega), hy]
  · rw [if_neg h1]
    by_cases h2 : k ≤ j ∧ j < k + i
    · rw [if_pos h2, if_pos (by omega), List.getElem?_take, List.getElem?_take, if_pos (by omega), if_pos (by omega)]
    · rw [if_neg h2, if_neg (by omega)]
theorem rAccept_eq {fuel : Nat} (hf : 9000 < fuel) {d : Download_} (hd : ∀ y ∈ d.Data, byte y) (i : Int) {x : List Int} (hx : x.length ≤ 9000) (hxb : ∀ y ∈ x, byte y) : ref30_Accept fuel d i x = some (tacc d i x) := by
  apply Ev.isSome
  unfold ref30_Accept tacc
  refine Ev.to (rValid_eq hf d) (Ev.not (Ev.ite (fun v => ?_) (fun v => Ev.ret (by rw [if_pos]; intro h; rw [tval_iff.2 h] at v; cases v))))
  rw [tval_iff] at v
  rw [if_neg (fun h => h v)]
  obtain ⟨S, P, t, z⟩ := id v
  have hc := t.c1
  refine Ev.join (fun s => s = true ↔ i < 0 ∨ (d.Have.length : Int) ≤ i) (fun s hs => Ev.ite (fun e => ?_) (fun e => ?_)) (fun j hj => Ev.dec (fun h => hj _ (by simp [h])) (fun h => hj _ (by simp; omega)))
  · rw [if_pos (hs.1 e)]; exact Ev.ret rfl
  · have hr : ¬ (i < 0 ∨ (d.Have.length : Int) ≤ i) := fun h => by rw [hs.2 h] at e; cases e
    rw [if_neg hr]
    obtain ⟨n, rfl⟩ := Int.eq_ofNat_of_zero_le (show 0 ≤ i by omega)
    have hn : n < cnt S P := by rw [← t.h]; omega
    have hP : d.Part.toNat = P := by rw [t.p]; rfl
    have hnn : ((n : Int)).toNat = n := rfl
    rw [hP, hnn]
    obtain ⟨e1, e2, e3⟩ := piece_sub t hn
    have h1 := (cnt_lt t.p1).1 hn
    have hpl := pc_len (i := n) t
    have hs2 := t.s2
    have hp2 := t.p2
    rw [e1]
    refine Ev.letP ?_
    rw [e2]
    refine Ev.letP ?_
    rw [wr (n := ((min (n * P + P) S : Nat) : Int) - ((n * P : Nat) : Int)) (by omega)]
    refine Ev.bne (fun h => ?_) (fun h => ?_)
    · rw [if_pos (by omega)]; exact Ev.ret rfl
    · have hxl : x.length = (pc d.Data P n).length := by omega
      rw [if_neg (fun hh => hh hxl)]
      have hg := List.getElem?_eq_getElem (show n < d.Have.length by rw [t.h]; exact hn)
      refine Ev.join (fun s => s = true ↔ d.Have[n]? = some true ∧ x ≠ pc d.Data P n) (fun s hs => Ev.ite (fun e => ?_) (fun e => ?_)) (fun j2 hj2 => Ev.to (by rw [idx_nat, hg]) (Ev.ite (fun e => ?_) (fun e => hj2 _ ?_)))
      · rw [if_pos (hs.1 e)]; exact Ev.ret rfl
      · rw [if_neg (fun h => by rw [hs.2 h] at e; cases e)]
        have hcp : ref30_Copy fuel d = some d := by
          unfold ref30_Copy
          rw [app_ok (by simp; omega), bindP_some, app_ok (by simp [t.d]; omega), bindP_some]; rfl
        refine Ev.to hcp (Ev.to (by rw [idx_nat, hg]) (Ev.letP ?_))
        refine Ev.count x.length (fun k s => s = ((k : Int), lay d.Data (n * P) (x.take k))) (by omega) (by simp [lay]) (fun k s hk hI self hself => ?_)
        subst hI
        have hdl := t.d
        have hfit : n * P + x.length ≤ d.Data.length := by omega
        by_cases hkl : k < x.length
        · have hy := List.getElem?_eq_getElem hkl
          refine Ev.decT (by simp only; omega) (Ev.to (by rw [idx_nat, hy]) ?_)
          have hw : IntKind.i64.wrap (((n * P : Nat) : Int) + (k : Int)) = ((n * P + k : Nat) : Int) := by rw [wr (by omega)]; omega
          have htl : (x.take k).length = k := by simp; omega
          have hl2 : (lay d.Data (n * P) (x.take k)).length = d.Data.length := lay_len (by omega)
          have hy2 := List.getElem?_eq_getElem (show n * P + k < (lay d.Data (n * P) (x.take k)).length by omega)
          simp only [hw]
          refine Ev.to (by rw [idx_nat, hy2]) (Ev.letP (Ev.letP ?_))
          rw [wi k (by omega)]
          refine hself _ hkl ?_
          have : upd (lay d.Data (n * P) (x.take k)) ((n * P + k : Nat) : Int) x[k] = lay d.Data (n * P) (x.take (k + 1)) := lay_step hfit hy
          rw [this]; rfl
        · refine Ev.decF (by simp only; omega) (Ev.ret ?_)
          have : k = x.length := by omega
          subst this
          simp only [List.take_length]
          rfl
      · refine Ev.to e3 (hj2 _ ?_)
        rw [toStr_byte hxb, toStr_byte (l := pc d.Data P n) (fun y hy => hd y (List.mem_of_mem_drop (List.mem_of_mem_take hy))), hg, e]
        constructor
        · intro h; exact ⟨rfl, fun e => by simp [e] at h⟩
        · rintro ⟨_, h⟩; simpa using fun e => h e.symm
      · constructor
        · intro h; cases h
        · rintro ⟨h1, _⟩; rw [hg, e] at h1; cases h1
end Lift
