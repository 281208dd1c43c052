/- Wanted parts, complete downloads, sameness. No program in sight. -/
import Derived.Test.YtgfioeiebfponaaTransfer2
set_option linter.unusedVariables false
set_option linter.unusedSimpArgs false
namespace Lift
open Go
/-- The parts before i that are not there. -/
def fal (H : List Bool) (i : Nat) : List Int := ((List.range i).filter (fun k => H[k]? == some false)).map Int.ofNat
theorem fal_succ (H : List Bool) (i : Nat) : fal H (i + 1) = fal H i ++ (if H[i]? = some false then [(i : Int)] else []) := by
  unfold fal
  rw [List.range_succ, List.filter_append, List.map_append]
  congr 1
  by_cases h : H[i]? = some false <;> simp [h]
theorem fal_prefix (H : List Bool) {i n : Nat} (h : i ≤ n) : ∃ r, fal H n = fal H i ++ r := by
  induction n with
  | zero => exact ⟨[], by rw [show i = 0 by omega]; simp⟩
  | succ n ih =>
    by_cases e : i = n + 1
    · exact ⟨[], by rw [e]; simp⟩
    · obtain ⟨r, hr⟩ := ih (by omega)
      exact ⟨r ++ (if H[n]? = some false then [(n : Int)] else []), by rw [fal_succ, hr, List.append_assoc]⟩
theorem fal_len (H : List Bool) (i : Nat) : (fal H i).length ≤ i := by
  induction i with
  | zero => simp [fal]
  | succ i ih => rw [fal_succ, List.length_append]; split <;> simp <;> omega
theorem mem_fal {H : List Bool} {i : Nat} {x : Int} : x ∈ fal H i ↔ ∃ k : Nat, x = k ∧ k < i ∧ H[k]? = some false := by
  unfold fal
  simp only [List.mem_map, List.mem_filter, List.mem_range, beq_iff_eq]
  constructor
  · rintro ⟨k, ⟨h1, h2⟩, rfl⟩; exact ⟨k, rfl, h1, h2⟩
  · rintro ⟨k, rfl, h1, h2⟩; exact ⟨k, ⟨h1, h2⟩, rfl⟩
open Classical in
noncomputable def twant (d : Download_) (m : Int) : List Int := if TV d then (fal d.Have d.Have.length).take m.toNat else []
theorem tWanted_eq {fuel : Nat} (hf : 9000 < fuel) (d : Download_) (m : Int) : transfer_Wanted fuel d m = some (twant d m) := by
  apply Ev.isSome
  unfold transfer_Wanted twant
  refine Ev.to (tValid_eq hf d) (Ev.not (Ev.ite (fun v => ?_) (fun v => Ev.ret (by rw [if_neg]; intro h; rw [tval_iff.2 h] at v; cases v))))
  rw [tval_iff] at v
  rw [if_pos v]
  obtain ⟨S, P, t, z⟩ := id v
  have hc := t.c1
  refine Ev.count d.Have.length (fun i s => s = ((i : Int), (fal d.Have i).take m.toNat)) (by omega) (by simp [fal]) (fun i s hi hI self hself => ?_)
  subst hI
  by_cases hl : i < d.Have.length
  · refine Ev.decT (by simp only; omega) ?_
    have hx := List.getElem?_eq_getElem hl
    have hfl := fal_len d.Have i
    refine Ev.to (by rw [idx_nat, hx]) (Ev.join (fun s => s = true ↔ d.Have[i]? = some false ∧ (((fal d.Have i).take m.toNat).length : Int) < m) (fun s hs => Ev.ite (fun e => ?_) (fun e => ?_)) (fun j hj => Ev.not (Ev.ite (fun e => hj _ ?_) (fun e => hj _ ?_))))
    · obtain ⟨h1, h2⟩ := hs.1 e
      have hlt : (fal d.Have i).length < m.toNat := by rw [List.length_take] at h2; omega
      refine Ev.to (app_ok (by rw [List.length_take]; simp; omega)) ?_
      rw [wi i (by omega)]
      refine hself _ hl ?_
      rw [fal_succ, if_pos h1, List.take_of_length_le (by omega), List.take_of_length_le (by simp; omega)]; rfl
    · rw [wi i (by omega)]
      refine hself _ hl ?_
      rw [fal_succ]
      by_cases h1 : d.Have[i]? = some false
      · have h2 : ¬ (((fal d.Have i).take m.toNat).length : Int) < m := fun h => by rw [hs.2 ⟨h1, h⟩] at e; cases e
        rw [List.length_take] at h2
        rw [List.take_append_of_le_length (by omega)]; rfl
      · rw [if_neg h1, List.append_nil]; rfl
    · constructor
      · intro h; cases h
      · rintro ⟨h1, _⟩; rw [hx, e] at h1; cases h1
    · rw [hx, e]; simp
  · refine Ev.decF (by simp only; omega) (Ev.ret ?_)
    rw [show i = d.Have.length by omega]
theorem rWanted_eq {fuel : Nat} (hf : 9000 < fuel) (d : Download_) (m : Int) : ref30_Wanted fuel d m = some (twant d m) := by
  apply Ev.isSome
  unfold ref30_Wanted twant
  refine Ev.to (rValid_eq hf d) (Ev.not (Ev.ite (fun v => ?_) (fun v => Ev.ret (by rw [if_neg]; intro h; rw [tval_iff.2 h] at v; cases v))))
  rw [tval_iff] at v
  rw [if_pos v]
  obtain ⟨S, P, t, z⟩ := id v
  have hc := t.c1
  refine Ev.count d.Have.length (fun i s => s = ((i : Int), (fal d.Have i).take m.toNat)) (by omega) (by simp [fal]) (fun i s hi hI self hself => ?_)
  subst hI
  refine Ev.join (fun s => s = true ↔ i < d.Have.length ∧ (((fal d.Have i).take m.toNat).length : Int) < m) (fun s hs => Ev.ite (fun e => ?_) (fun e => ?_)) (fun j hj => Ev.dec (fun h => hj _ ?_) (fun h => hj _ ?_))
  · obtain ⟨hl, h2⟩ := hs.1 e
    have hx := List.getElem?_eq_getElem hl
    have hfl := fal_len d.Have i
    refine Ev.to (by rw [idx_nat, hx]) (Ev.not (Ev.ite (fun e => ?_) (fun e => ?_)))
    · refine Ev.letP ?_
      rw [wi i (by omega)]
      refine hself _ hl ?_
      rw [fal_succ, if_neg (by rw [hx, e]; simp), List.append_nil]; rfl
    · have hlt : (fal d.Have i).length < m.toNat := by rw [List.length_take] at h2; omega
      refine Ev.to (app_ok (by rw [List.length_take]; simp; omega)) (Ev.letP ?_)
      rw [wi i (by omega)]
      refine hself _ hl ?_
      rw [fal_succ, if_pos (by rw [hx, e]), List.take_of_length_le (by omega), List.take_of_length_le (by simp; omega)]; rfl
  · refine Ev.ret ?_
    by_cases hl : i < d.Have.length
    · have h2 : ¬ (((fal d.Have i).take m.toNat).length : Int) < m := fun h => by rw [hs.2 ⟨hl, h⟩] at e; cases e
      rw [List.length_take] at h2
      obtain ⟨r, hr⟩ := fal_prefix d.Have (i := i) (n := d.Have.length) (by omega)
      rw [hr, List.take_append_of_le_length (by omega)]
    · rw [show i = d.Have.length by omega]
  · have h' : i < d.Have.length := by simp only at h; omega
    simp [h']
  · have h' : ¬ i < d.Have.length := by simp only at h; omega
    simp [h']
def TC (d : Download_) : Prop := TV d ∧ ∀ i : Nat, d.Have[i]? ≠ some false
open Classical in
noncomputable def tcompl (d : Download_) : Bool := decide (TC d)
theorem tcompl_iff {d : Download_} : tcompl d = true ↔ TC d := by unfold tcompl; simp
theorem tContains {fuel : Nat} {l : List Bool} (h : l.length < fuel) (h2 : l.length ≤ 100000) : Ev (slices_Contains_bool_bool fuel l false) (fun b => b = true ↔ ∃ i : Nat, l[i]? = some false) := by
  unfold slices_Contains_bool_bool
  refine Ev.bind (P := fun r => 0 ≤ r ↔ ∃ i : Nat, l[i]? = some false) ?_ (fun r hr => Ev.letP (Ev.ret (by simpa using hr)))
  unfold slices_Index_bool_bool
  refine Ev.find (fun x => x == false) h (fun i x hx hi hp self hs => ?_) (fun i x hx hi hp _ self => ?_) (fun hn self => ?_)
  · refine Ev.decT (by omega) (Ev.to (by rw [idx_nat, hx]) (Ev.iteF (by cases x <;> simp_all) ?_))
    rw [wi i (by omega)]; exact hs
  · refine Ev.decT (by omega) (Ev.to (by rw [idx_nat, hx]) (Ev.iteT (by cases x <;> simp_all) (Ev.ret ⟨fun _ => ⟨i, by rw [hx]; cases x <;> simp_all⟩, fun _ => by omega⟩)))
  · refine Ev.decF (by omega) (Ev.ret ⟨fun h => by omega, fun ⟨i, hi⟩ => ?_⟩)
    have := hn _ (List.mem_of_getElem? hi)
    cases this
theorem tComplete_eq {fuel : Nat} (hf : 9000 < fuel) (d : Download_) : transfer_Complete fuel d = some (tcompl d) := by
  have : Ev (transfer_Complete fuel d) (fun b => b = true ↔ TC d) := by
    unfold transfer_Complete
    refine Ev.to (tValid_eq hf d) (Ev.ite (fun v => ?_) (fun v => Ev.ret ⟨fun h => (by cases h), fun h => by rw [tval_iff.2 h.1] at v; cases v⟩))
    rw [tval_iff] at v
    obtain ⟨S, P, t, z⟩ := id v
    have hc := t.c1
    refine Ev.bind (tContains (by omega) (by omega)) (fun b hb => Ev.letP (Ev.ret ?_))
    constructor
    · intro h
      refine ⟨v, fun i hi => ?_⟩
      rw [hb.2 ⟨i, hi⟩] at h; cases h
    · intro h
      cases b with
      | false => rfl
      | true => obtain ⟨i, hi⟩ := hb.1 rfl; exact absurd hi (h.2 i)
  obtain ⟨b, e, h⟩ := this
  rw [e]; congr 1
  rw [Bool.eq_iff_iff, h, tcompl_iff]
theorem twant1 {d : Download_} (v : TV d) : (twant d 1 = [] ↔ ∀ i : Nat, d.Have[i]? ≠ some false) := by
  unfold twant
  rw [if_pos v]
  constructor
  · intro h i hi
    have hl : fal d.Have d.Have.length = [] := by
      cases hq : fal d.Have d.Have.length with
      | nil => rfl
      | cons x l => rw [hq] at h; simp at h
    have : (i : Int) ∈ fal d.Have d.Have.length := mem_fal.2 ⟨i, rfl, lt_len hi, hi⟩
    rw [hl] at this; cases this
  · intro h
    have hl : fal d.Have d.Have.length = [] := by
      cases hq : fal d.Have d.Have.length with
      | nil => rfl
      | cons x l =>
        obtain ⟨k, _, _, hk⟩ := mem_fal.1 (show x ∈ fal d.Have d.Have.length by rw [hq]; simp)
        exact absurd hk (h k)
    rw [hl]; rfl
theorem rComplete_eq {fuel : Nat} (hf : 9000 < fuel) (d : Download_) : ref30_Complete fuel d = some (tcompl d) := by
  have : Ev (ref30_Complete fuel d) (fun b => b = true ↔ TC d) := by
    unfold ref30_Complete
    refine Ev.to (rValid_eq hf d) (Ev.ite (fun v => ?_) (fun v => Ev.ret ⟨fun h => (by cases h), fun h => by rw [tval_iff.2 h.1] at v; cases v⟩))
    rw [tval_iff] at v
    refine Ev.to (rWanted_eq hf d 1) (Ev.letP (Ev.ret ?_))
    have h1 := twant1 v
    constructor
    · intro h
      have : (twant d 1).length = 0 := by simpa using h
      exact ⟨v, h1.1 (List.eq_nil_of_length_eq_zero this)⟩
    · intro h
      rw [h1.2 h.2]; rfl
  obtain ⟨b, e, h⟩ := this
  rw [e]; congr 1
  rw [Bool.eq_iff_iff, h, tcompl_iff]
open Classical in
noncomputable def tbytes (d : Download_) : List Int × Int := if ¬ TV d then ([], 1) else if ¬ TC d then ([], 46) else (d.Data, 0)
theorem tBytes_eq {fuel : Nat} (hf : 9000 < fuel) {d : Download_} (hd : d.Data.length ≤ 100000) : transfer_Bytes fuel d = some (tbytes d) := by
  apply Ev.isSome
  unfold transfer_Bytes tbytes
  refine Ev.to (tValid_eq hf d) (Ev.not (Ev.ite (fun v => ?_) (fun v => Ev.ret (by rw [if_pos]; intro h; rw [tval_iff.2 h] at v; cases v))))
  rw [tval_iff] at v
  rw [if_neg (fun h => h v)]
  refine Ev.to (tComplete_eq hf d) (Ev.not (Ev.ite (fun c => ?_) (fun c => Ev.ret (by rw [if_pos]; intro h; rw [tcompl_iff.2 h] at c; cases c))))
  rw [tcompl_iff] at c
  rw [if_neg (fun h => h c)]
  exact Ev.to (tclone hd) (Ev.ret rfl)
theorem rBytes_eq {fuel : Nat} (hf : 9000 < fuel) {d : Download_} (hd : d.Data.length ≤ 100000) : ref30_Bytes fuel d = some (tbytes d) := by
  apply Ev.isSome
  unfold ref30_Bytes tbytes
  refine Ev.to (rValid_eq hf d) (Ev.letP (Ev.not (Ev.ite (fun v => ?_) (fun v => Ev.ret (by rw [if_pos]; intro h; rw [tval_iff.2 h] at v; cases v)))))
  rw [tval_iff] at v
  rw [if_neg (fun h => h v)]
  refine Ev.to (rComplete_eq hf d) (Ev.letP (Ev.not (Ev.ite (fun c => ?_) (fun c => Ev.ret (by rw [if_pos]; intro h; rw [tcompl_iff.2 h] at c; cases c)))))
  rw [tcompl_iff] at c
  rw [if_neg (fun h => h c)]
  exact Ev.to (app_ok (by simp; omega)) (Ev.ret rfl)
instance : DecidableEq Download_ := fun a b => decidable_of_iff (a.Size = b.Size ∧ a.Part = b.Part ∧ a.Have = b.Have ∧ a.Data = b.Data) (by cases a; cases b; simp)
theorem dext {a b : Download_} : (a = b) ↔ (a.Size = b.Size ∧ a.Part = b.Part ∧ a.Have = b.Have ∧ a.Data = b.Data) := by cases a; cases b; simp
theorem rSame_eq {fuel : Nat} {a b : Download_} (ha : ∀ y ∈ a.Data, byte y) (hb : ∀ y ∈ b.Data, byte y) (hl : a.Have.length ≤ 9000) (hf : 9000 < fuel) : ref30_Same fuel a b = some (decide (a = b)) := by
  unfold ref30_Same
  rw [joinP_eq, toStr_byte ha, toStr_byte hb]
  by_cases h1 : a.Size = b.Size
  rotate_left
  · have e : (a.Size != b.Size) = true := by simpa using h1
    simp [e, h1, dext]
  by_cases h2 : a.Part = b.Part
  rotate_left
  · have e : (a.Part != b.Part) = true := by simpa using h2
    simp [e, h1, h2, dext]
  by_cases h3 : a.Have.length = b.Have.length
  rotate_left
  · have : ¬ a.Have = b.Have := fun e => h3 (by rw [e])
    have h3' : ¬ (a.Have.length : Int) = b.Have.length := by omega
    have e : ((a.Have.length : Int) != (b.Have.length : Int)) = true := by simpa using h3'
    simp [e, h1, h2, this, dext]
  by_cases h4 : a.Data = b.Data
  rotate_left
  · have e : (a.Data != b.Data) = true := by simpa using h4
    simp [e, h1, h2, h3, h4, dext]
  simp only [h1, h2, h3, h4, bne_self_eq_false, iteP_false]
  rw [same_loop (a := a.Have) (b := b.Have) h3 (by omega) (fun i x y hx hy k => ?_) (fun k => by simp [h3])]
  · congr 1
    simp [dext, h1, h2, h4]
  · have hi := lt_len hx
    simp only [show ((i : Int) < (b.Have.length : Int)) by omega, decide_true, iteP_true, idx_nat, hx, hy, bindP_some, letP_eq, wi i (by omega), iteP_eq]
    by_cases e : x = y <;> simp [e]
theorem ints_eq {fuel : Nat} {a b : List Int} (hl : a.length ≤ 9000) (hf : 9000 < fuel) : law30_ints fuel a b = some (decide (a = b)) := by
  unfold law30_ints
  by_cases h3 : a.length = b.length
  · rw [show ((a.length : Int) != (b.length : Int)) = false by simp [h3], iteP_false]
    refine same_loop h3 (by omega) (fun i x y hx hy k => ?_) (fun k => by simp)
    have hi := lt_len hx
    simp only [show ((i : Int) < (a.length : Int)) by omega, decide_true, iteP_true, idx_nat, hx, hy, bindP_some, letP_eq, wi i (by omega), iteP_eq]
    by_cases e : x = y <;> simp [e]
  · rw [show ((a.length : Int) != (b.length : Int)) = true by simp; omega, iteP_true]
    have : a ≠ b := fun e => h3 (by rw [e])
    simp [this]
theorem awake_eq : law30_awake 10000 = some true := by rfl
end Lift
