/- Downloads: what a valid one is, and the closed forms of the functions of transfer. No program in sight. -/
import Derived.Test.YtgfioeiebfponaaCodes
set_option linter.unusedVariables false
set_option linter.unusedSimpArgs false
namespace Lift
open Go
/-- How many parts there are. -/
def cnt (S P : Nat) : Nat := (S + P - 1) / P
theorem cnt_lt {S P i : Nat} (hP : 1 ≤ P) : i < cnt S P ↔ i * P < S := by
  unfold cnt
  rw [Nat.lt_div_iff_mul_lt hP]; omega
theorem cnt_le {S P : Nat} (hP : 1 ≤ P) : cnt S P ≤ S := by
  refine Classical.byContradiction fun h => ?_
  have := (cnt_lt (S := S) (i := S) hP).1 (by omega)
  have := Nat.le_mul_of_pos_right S hP
  omega
theorem cnt_pos {S P : Nat} (hP : 1 ≤ P) (hS : 1 ≤ S) : 0 < cnt S P := (cnt_lt hP).2 (by omega)
theorem div_cnt {S P i : Nat} (hP : 1 ≤ P) (h : i < S) : i / P < cnt S P := (cnt_lt hP).2 (Nat.lt_of_le_of_lt (Nat.div_mul_le_self i P) h)
theorem cnt_mul {S P : Nat} (hP : 1 ≤ P) : S ≤ cnt S P * P := by
  refine Classical.byContradiction fun h => ?_
  have := (cnt_lt (S := S) (i := cnt S P) hP).2 (by omega)
  omega
def Rng (s p : Int) : Prop := 1 ≤ s ∧ s ≤ 8192 ∧ 1 ≤ p ∧ p ≤ 64
instance (s p : Int) : Decidable (Rng s p) := by unfold Rng; infer_instance
structure TS (d : Download_) (S P : Nat) : Prop where
  s : d.Size = S
  p : d.Part = P
  s1 : 1 ≤ S
  s2 : S ≤ 8192
  p1 : 1 ≤ P
  p2 : P ≤ 64
  h : d.Have.length = cnt S P
  d : d.Data.length = S
/-- The bytes of a part. -/
def pc (D : List Int) (P i : Nat) : List Int := (D.drop (i * P)).take P
def TZ (d : Download_) (S P : Nat) : Prop := ∀ i, i < S → d.Have[i / P]? = some false → d.Data[i]? = some 0
def TV (d : Download_) : Prop := ∃ S P, TS d S P ∧ TZ d S P
theorem TS.rng {d : Download_} {S P : Nat} (t : TS d S P) : Rng d.Size d.Part := by rw [t.s, t.p]; have := t.s1; have := t.s2; have := t.p1; have := t.p2; unfold Rng; omega
theorem pc_len {d : Download_} {S P i : Nat} (t : TS d S P) : (pc d.Data P i).length = min P (S - i * P) := by simp [pc, t.d]
theorem TS.c1 {d : Download_} {S P : Nat} (t : TS d S P) : d.Have.length ≤ 8192 := by rw [t.h]; have := cnt_le (S := S) t.p1; have := t.s2; omega

theorem right_eq (fuel : Nat) (s p : Int) : transfer_right fuel s p = some (decide (Rng s p)) := by
  unfold transfer_right Rng
  by_cases h1 : 1 ≤ s
  rotate_left
  · simp [h1]
  by_cases h2 : s ≤ 8192
  rotate_left
  · simp [h1, h2]
  by_cases h3 : 1 ≤ p
  rotate_left
  · simp [h1, h2, h3]
  simp [h1, h2, h3]
theorem tcount (S P : Nat) (s2 : S ≤ 8192) (p1 : 1 ≤ P) (p2 : P ≤ 64) : IntKind.i64.wrap (Int.tdiv (IntKind.i64.wrap ((IntKind.i64.wrap ((S : Int) + P)) - 1)) P) = (cnt S P : Int) := by
  rw [wr (n := (S : Int) + P) (by omega), wr (n := (S : Int) + P - 1) (by omega)]
  have e : ((S : Int) + P - 1) = ((S + P - 1 : Nat) : Int) := by omega
  rw [e, ← Int.ofNat_tdiv]
  have : cnt S P ≤ S := cnt_le p1
  exact wr (n := (cnt S P : Int)) (by omega)
theorem count_eq (fuel : Nat) (S P : Nat) (s2 : S ≤ 8192) (p1 : 1 ≤ P) (p2 : P ≤ 64) : transfer_count fuel S P = some (cnt S P : Int) := by
  unfold transfer_count
  rw [show decide ((P : Int) ≠ 0) = true by simp; omega, chk_true, bindP_some, letP_eq, tcount S P s2 p1 p2]
theorem parts_eq (fuel : Nat) (S P : Nat) (s2 : S ≤ 8192) (p1 : 1 ≤ P) (p2 : P ≤ 64) : ref30_parts fuel S P = some (cnt S P : Int) := by
  unfold ref30_parts
  rw [show decide ((P : Int) ≠ 0) = true by simp; omega, chk_true, bindP_some, letP_eq, tcount S P s2 p1 p2]
/-- A new download. -/
def tnew (s p : Int) : Download_ × Int := if Rng s p then (⟨s, p, List.replicate (cnt s.toNat p.toNat) false, List.replicate s.toNat 0⟩, 0) else (Download_.z, 2)
theorem New_eq (fuel : Nat) (s p : Int) : transfer_New fuel s p = some (tnew s p) := by
  unfold transfer_New tnew
  rw [right_eq, bindP_some]
  by_cases h : Rng s p
  · obtain ⟨S, rfl⟩ := Int.eq_ofNat_of_zero_le (show 0 ≤ s by unfold Rng at h; omega)
    obtain ⟨P, rfl⟩ := Int.eq_ofNat_of_zero_le (show 0 ≤ p by unfold Rng at h; omega)
    have h' := h
    unfold Rng at h'
    have hc := cnt_le (S := S) (P := P) (by omega)
    simp only [h, decide_true, Bool.not_true, iteP_false, if_true]
    rw [count_eq fuel S P (by omega) (by omega) (by omega), bindP_some, mk_ok (by omega), bindP_some, mk_ok (by omega), bindP_some]; rfl
  · simp [h]
theorem rNew_eq (fuel : Nat) (s p : Int) : ref30_New fuel s p = some (tnew s p) := by
  unfold ref30_New tnew
  rw [joinP_eq]
  by_cases h : Rng s p
  · obtain ⟨S, rfl⟩ := Int.eq_ofNat_of_zero_le (show 0 ≤ s by unfold Rng at h; omega)
    obtain ⟨P, rfl⟩ := Int.eq_ofNat_of_zero_le (show 0 ≤ p by unfold Rng at h; omega)
    have h' := h
    unfold Rng at h'
    have hc := cnt_le (S := S) (P := P) (by omega)
    rw [show decide ((S : Int) < 1) = false by simp; omega, iteP_false, show decide ((S : Int) > 8192) = false by simp; omega, iteP_false, show decide ((P : Int) < 1) = false by simp; omega, iteP_false, show decide ((P : Int) > 64) = false by simp; omega]
    show iteP false _ _ = _
    rw [iteP_false, parts_eq fuel S P (by omega) (by omega) (by omega), bindP_some, mk_ok (by omega), bindP_some, mk_ok (by omega), bindP_some, if_pos h]; rfl
  · rw [if_neg h]
    by_cases h1 : s < 1
    · simp [h1]
    by_cases h2 : s > 8192
    · simp [h1, h2]
    by_cases h3 : p < 1
    · simp [h1, h2, h3]
    by_cases h4 : p > 64
    · simp [h1, h2, h3, h4]
    exact absurd (by unfold Rng; omega) h
theorem tnew_V {s p : Int} (h : Rng s p) : ∃ S P : Nat, s = S ∧ p = P ∧ TS (tnew s p).1 S P ∧ (tnew s p).2 = 0 ∧ (∀ i, i < cnt S P → (tnew s p).1.Have[i]? = some false) ∧ TV (tnew s p).1 := by
  obtain ⟨S, rfl⟩ := Int.eq_ofNat_of_zero_le (show 0 ≤ s by unfold Rng at h; omega)
  obtain ⟨P, rfl⟩ := Int.eq_ofNat_of_zero_le (show 0 ≤ p by unfold Rng at h; omega)
  have e : tnew S P = (⟨S, P, List.replicate (cnt S P) false, List.replicate S 0⟩, 0) := by unfold tnew; rw [if_pos h]; rfl
  unfold Rng at h
  have t : TS (tnew S P).1 S P := by rw [e]; exact ⟨rfl, rfl, by omega, by omega, by omega, by omega, by simp, by simp⟩
  refine ⟨S, P, rfl, rfl, t, by rw [e], fun i hi => by rw [e]; simp [hi], S, P, t, fun i hi _ => by rw [e]; simp [hi]⟩

theorem piece_sub {d : Download_} {S P i : Nat} (t : TS d S P) (hi : i < cnt S P) : IntKind.i64.wrap ((i : Int) * d.Part) = ((i * P : Nat) : Int) ∧ min (IntKind.i64.wrap (((i * P : Nat) : Int) + d.Part)) d.Size = ((min (i * P + P) S : Nat) : Int) ∧
    sub d.Data ((i * P : Nat) : Int) ((min (i * P + P) S : Nat) : Int) = some (pc d.Data P i) := by
  have h1 := (cnt_lt t.p1).1 hi
  have := t.s2
  have := t.p2
  have e : (i : Int) * d.Part = ((i * P : Nat) : Int) := by rw [t.p]; simp
  refine ⟨by rw [e]; exact wr (by omega), ?_, ?_⟩
  · rw [t.p, t.s, wr (by omega)]; omega
  · rw [sub_ok (by omega) (by rw [t.d]; omega)]
    unfold pc
    congr 1
    apply List.ext_getElem?
    intro j
    simp only [List.getElem?_take, List.getElem?_drop]
    by_cases h3 : j < P
    · by_cases h4 : i * P + j < S
      · rw [if_pos (by omega), if_pos h3]
      · rw [if_neg (by omega), if_pos h3, List.getElem?_eq_none (by rw [t.d]; omega)]
    · rw [if_neg (by omega), if_neg h3]
theorem piece_eq (fuel : Nat) {d : Download_} {S P i : Nat} (t : TS d S P) (hi : i < cnt S P) : transfer_piece fuel d i = some (pc d.Data P i) := by
  obtain ⟨e1, e2, e3⟩ := piece_sub t hi
  unfold transfer_piece
  rw [letP_eq, letP_eq, e1, e2, e3, bindP_some]
theorem any0_eq {fuel : Nat} {l : List Int} (h : l.length < fuel) (h2 : l.length ≤ 100000) : Ev (slices_ContainsFunc_byte_byte_transfer_Valid_1 fuel l) (fun b => b = true ↔ ∃ x ∈ l, x ≠ 0) := by
  unfold slices_ContainsFunc_byte_byte_transfer_Valid_1
  refine Ev.bind (P := fun r => 0 ≤ r ↔ ∃ x ∈ l, x ≠ 0) ?_ (fun r hr => Ev.letP (Ev.ret (by simpa using hr)))
  unfold slices_IndexFunc_byte_byte_transfer_Valid_1
  refine Ev.find (fun x => x != 0) h (fun i x hx hi hp self hs => ?_) (fun i x hx hi hp _ self => ?_) (fun hn self => ?_)
  · refine Ev.decT (by omega) (Ev.to (by rw [idx_nat, hx]) (Ev.to rfl (Ev.iteF hp ?_)))
    rw [wi i (by omega)]; exact hs
  · exact Ev.decT (by omega) (Ev.to (by rw [idx_nat, hx]) (Ev.to rfl (Ev.iteT hp (Ev.ret ⟨fun _ => ⟨x, List.mem_of_getElem? hx, by simpa using hp⟩, fun _ => by omega⟩))))
  · refine Ev.decF (by omega) (Ev.ret ⟨fun h => by omega, fun ⟨x, hx, h0⟩ => ?_⟩)
    have := hn x hx
    simp at this; exact absurd this h0
theorem pc_zero {d : Download_} {S P i : Nat} (t : TS d S P) : (¬ ∃ x ∈ pc d.Data P i, x ≠ 0) ↔ ∀ j, j < S → j / P = i → d.Data[j]? = some 0 := by
  have hP := t.p1
  constructor
  · intro h j hj e
    have hd : j = i * P + j % P := by have := Nat.div_add_mod j P; rw [e, Nat.mul_comm] at this; omega
    have hm := Nat.mod_lt j (show 0 < P by omega)
    obtain ⟨x, hx⟩ : ∃ x, d.Data[j]? = some x := ⟨_, List.getElem?_eq_getElem (by rw [t.d]; exact hj)⟩
    rw [hx]
    congr 1
    refine Classical.byContradiction fun h0 => h ⟨x, ?_, h0⟩
    refine List.mem_of_getElem? (i := j % P) ?_
    unfold pc
    rw [List.getElem?_take, if_pos hm, List.getElem?_drop, ← hd, hx]
  · rintro h ⟨x, hx, h0⟩
    obtain ⟨j, hj⟩ := List.getElem?_of_mem hx
    unfold pc at hj
    rw [List.getElem?_take] at hj
    split at hj
    · rename_i hm
      rw [List.getElem?_drop] at hj
      have hl := lt_len hj
      rw [t.d] at hl
      have := h (i * P + j) hl (by rw [Nat.mul_comm, Nat.mul_add_div (by omega), Nat.div_eq_of_lt hm]; rfl)
      rw [this] at hj
      cases hj; exact h0 rfl
    · cases hj
theorem TZ_parts {d : Download_} {S P : Nat} (t : TS d S P) : TZ d S P ↔ ∀ k, d.Have[k]? = some false → ¬ ∃ x ∈ pc d.Data P k, x ≠ 0 := by
  constructor
  · intro h k hk
    rw [pc_zero t]
    intro j hj e
    exact h j hj (by rw [e]; exact hk)
  · intro h j hj hk
    exact (pc_zero t).1 (h _ hk) j hj rfl
theorem TS.uniq {d : Download_} {S P S' P' : Nat} (t : TS d S P) (t' : TS d S' P') : S = S' ∧ P = P' := by
  have a := t.s.symm.trans t'.s
  have b := t.p.symm.trans t'.p
  omega
theorem TV.of {d : Download_} {S P : Nat} (t : TS d S P) : TV d ↔ TZ d S P := by
  constructor
  · rintro ⟨S', P', t', z⟩
    obtain ⟨rfl, rfl⟩ := t.uniq t'
    exact z
  · exact fun z => ⟨S, P, t, z⟩
/-- The sizes are right, or not. -/
theorem TS.mk' {d : Download_} (h : Rng d.Size d.Part) (hl : (d.Have.length : Int) = cnt d.Size.toNat d.Part.toNat) (hd : (d.Data.length : Int) = d.Size) : TS d d.Size.toNat d.Part.toNat := by
  unfold Rng at h
  exact ⟨by omega, by omega, by omega, by omega, by omega, by omega, by omega, by omega⟩
theorem tValid_ev {fuel : Nat} (hf : 9000 < fuel) (d : Download_) : Ev (transfer_Valid fuel d) (fun b => b = true ↔ TV d) := by
  unfold transfer_Valid
  refine Ev.join (fun s => (s = true → ¬ TV d) ∧ (s = false → ∃ S P, TS d S P)) (fun s hs => Ev.ite (fun h => Ev.ret ⟨fun h => (by cases h), fun v => absurd v (hs.1 h)⟩) (fun h => ?_)) (fun j hj => ?_)
  · obtain ⟨S, P, t⟩ := hs.2 h
    have hc := t.c1
    have hp1 := t.p1
    rw [TV.of t, TZ_parts t]
    -- all parts before are as they should be
    refine Ev.count d.Have.length (fun i s => s = (i : Int) ∧ ∀ k, k < i → d.Have[k]? = some false → ¬ ∃ x ∈ pc d.Data P k, x ≠ 0) (by omega) ⟨rfl, fun k hk => by omega⟩ (fun i s hi hI self hself => ?_)
    obtain ⟨rfl, hb⟩ := hI
    by_cases hl : i < d.Have.length
    · refine Ev.decT (by omega) ?_
      have hx := List.getElem?_eq_getElem hl
      refine Ev.to (by rw [idx_nat, hx]) ?_
      refine Ev.join (fun s => s = true ↔ d.Have[i]? = some false ∧ ∃ x ∈ pc d.Data P i, x ≠ 0) (fun s hs => Ev.ite (fun e => ?_) (fun e => ?_)) (fun j2 hj2 => Ev.not ?_)
      · obtain ⟨h1, h2⟩ := hs.1 e
        exact Ev.ret ⟨fun h => (by cases h), fun h => absurd h2 (h i h1)⟩
      · rw [wi i (by omega)]
        refine hself _ hl ⟨by simp, fun k hk hk2 hk3 => ?_⟩
        rcases Nat.lt_succ_iff_lt_or_eq.1 hk with h1 | rfl
        · exact hb k h1 hk2 hk3
        · have := hs.2 ⟨hk2, hk3⟩; rw [e] at this; cases this
      · refine Ev.ite (fun e => hj2 _ ?_) (fun e => ?_)
        · constructor
          · intro h; cases h
          · rintro ⟨h1, _⟩; rw [hx, e] at h1; cases h1
        · refine Ev.to (piece_eq fuel t (by rw [← t.h]; exact hl)) ?_
          have hpl := pc_len (i := i) t
          have := t.p2
          refine Ev.bind (any0_eq (by omega) (by omega)) (fun b hb => hj2 _ ?_)
          rw [hb]
          exact ⟨fun h => ⟨by rw [hx, e], h⟩, fun h => h.2⟩
    · refine Ev.decF (by omega) (Ev.ret ⟨fun _ k hk => ?_, fun _ => rfl⟩)
      exact hb k (by have := lt_len hk; omega) hk
  · refine Ev.to (right_eq fuel _ _) (Ev.letP (Ev.not (Ev.dec (fun h => ?_) (fun h => ?_))))
    · have h' := h
      unfold Rng at h'
      obtain ⟨S, hS⟩ := Int.eq_ofNat_of_zero_le (show 0 ≤ d.Size by omega)
      obtain ⟨P, hP⟩ := Int.eq_ofNat_of_zero_le (show 0 ≤ d.Part by omega)
      refine Ev.to (by rw [hS, hP]; exact count_eq fuel S P (by omega) (by omega) (by omega)) (Ev.letP (Ev.bne (fun hc => ?_) (fun hc => ?_)))
      · refine hj _ ⟨fun _ v => ?_, fun e => (by cases e)⟩
        obtain ⟨S', P', t, _⟩ := v
        have a := t.s; have b := t.p; have c := t.h
        rw [hS] at a; rw [hP] at b
        obtain rfl : S = S' := by omega
        obtain rfl : P = P' := by omega
        exact hc (by rw [c])
      · refine hj _ ⟨fun e v => ?_, fun e => ?_⟩
        · obtain ⟨S', P', t, _⟩ := v
          have a := t.s; have b := t.d
          simp at e; omega
        · have e' : (d.Data.length : Int) = d.Size := by simpa using e
          have := TS.mk' h (by rw [hc, hS, hP]; rfl) e'
          exact ⟨_, _, this⟩
    · exact hj _ ⟨fun _ v => by obtain ⟨S, P, t, _⟩ := v; exact h t.rng, fun e => (by cases e)⟩
theorem rValid_ev {fuel : Nat} (hf : 9000 < fuel) (d : Download_) : Ev (ref30_Valid fuel d) (fun b => b = true ↔ TV d) := by
  unfold ref30_Valid
  refine Ev.join (fun s => (s = true → ¬ TV d) ∧ (s = false → ∃ S P, TS d S P)) (fun s hs => Ev.ite (fun h => Ev.ret ⟨fun h => (by cases h), fun v => absurd v (hs.1 h)⟩) (fun h => ?_)) (fun j hj => ?_)
  · obtain ⟨S, P, t⟩ := hs.2 h
    have hp1 := t.p1
    have hp2 := t.p2
    have hs2 := t.s2
    rw [TV.of t]
    refine Ev.count S (fun i s => s = (i : Int) ∧ ∀ k, k < i → d.Have[k / P]? = some false → d.Data[k]? = some 0) (by omega) ⟨rfl, fun k hk => by omega⟩ (fun i s hi hI self hself => ?_)
    obtain ⟨rfl, hb⟩ := hI
    by_cases hl : i < S
    · refine Ev.decT (by rw [t.s]; omega) ?_
      have hq := div_cnt (P := P) hp1 hl
      rw [← t.h] at hq
      have hx := List.getElem?_eq_getElem hq
      have hy := List.getElem?_eq_getElem (show i < d.Data.length by rw [t.d]; exact hl)
      have hwq : IntKind.i64.wrap (Int.tdiv (i : Int) d.Part) = ((i / P : Nat) : Int) := by
        rw [t.p, ← Int.ofNat_tdiv]
        have := Nat.div_le_self i P
        have h0 : (0 : Int) ≤ ((i / P : Nat) : Int) := Int.natCast_nonneg _
        exact wr (n := ((i / P : Nat) : Int)) (by omega)
      refine Ev.join (fun s => s = true ↔ d.Have[i / P]? = some false ∧ d.Data[i]? ≠ some 0) (fun s hs => Ev.ite (fun e => ?_) (fun e => ?_)) (fun j2 hj2 => Ev.chk (by rw [t.p]; simp; omega) ?_)
      · obtain ⟨h1, h2⟩ := hs.1 e
        exact Ev.ret ⟨fun h => (by cases h), fun h => absurd (h i hl h1) h2⟩
      · refine Ev.letP ?_
        rw [wi i (by omega)]
        refine hself _ hl ⟨by simp, fun k hk hk2 => ?_⟩
        rcases Nat.lt_succ_iff_lt_or_eq.1 hk with h1 | rfl
        · exact hb k h1 hk2
        · refine Classical.byContradiction fun hk3 => ?_
          have := hs.2 ⟨hk2, hk3⟩; rw [e] at this; cases this
      · rw [hwq]
        refine Ev.to (by rw [idx_nat, hx]) (Ev.letP (Ev.not (Ev.ite (fun e => hj2 _ ?_) (fun e => ?_))))
        · constructor
          · intro h; cases h
          · rintro ⟨h1, _⟩; rw [hx, e] at h1; cases h1
        · refine Ev.to (by rw [idx_nat, hy]) (hj2 _ ?_)
          rw [hx, hy, e]; simp
    · refine Ev.decF (by rw [t.s]; omega) (Ev.ret ⟨fun _ k hk => hb k (by omega), fun _ => rfl⟩)
  · have nv : ¬ Rng d.Size d.Part → ¬ TV d := fun h v => by obtain ⟨S, P, t, _⟩ := v; exact h t.rng
    refine Ev.letP (Ev.dec (fun c => hj _ ⟨fun _ => nv (by unfold Rng; omega), fun e => (by cases e)⟩) (fun c1 => ?_))
    refine Ev.letP (Ev.dec (fun c => hj _ ⟨fun _ => nv (by unfold Rng; omega), fun e => (by cases e)⟩) (fun c2 => ?_))
    refine Ev.letP (Ev.dec (fun c => hj _ ⟨fun _ => nv (by unfold Rng; omega), fun e => (by cases e)⟩) (fun c3 => ?_))
    refine Ev.letP (Ev.dec (fun c => hj _ ⟨fun _ => nv (by unfold Rng; omega), fun e => (by cases e)⟩) (fun c4 => ?_))
    have h : Rng d.Size d.Part := by unfold Rng; omega
    obtain ⟨S, hS⟩ := Int.eq_ofNat_of_zero_le (show 0 ≤ d.Size by omega)
    obtain ⟨P, hP⟩ := Int.eq_ofNat_of_zero_le (show 0 ≤ d.Part by omega)
    refine Ev.to (by rw [hS, hP]; exact parts_eq fuel S P (by omega) (by omega) (by omega)) (Ev.letP (Ev.bne (fun hc => ?_) (fun hc => ?_)))
    · refine hj _ ⟨fun _ v => ?_, fun e => (by cases e)⟩
      obtain ⟨S', P', t, _⟩ := v
      have a := t.s; have b := t.p; have c := t.h
      rw [hS] at a; rw [hP] at b
      obtain rfl : S = S' := by omega
      obtain rfl : P = P' := by omega
      exact hc (by rw [c])
    · refine hj _ ⟨fun e v => ?_, fun e => ?_⟩
      · obtain ⟨S', P', t, _⟩ := v
        have a := t.s; have b := t.d
        simp at e; omega
      · have e' : (d.Data.length : Int) = d.Size := by simpa using e
        have := TS.mk' h (by rw [hc, hS, hP]; rfl) e'
        exact ⟨_, _, this⟩
open Classical in
noncomputable def tval (d : Download_) : Bool := decide (TV d)
theorem tval_iff {d : Download_} : tval d = true ↔ TV d := by unfold tval; simp
theorem tValid_eq {fuel : Nat} (hf : 9000 < fuel) (d : Download_) : transfer_Valid fuel d = some (tval d) := by
  obtain ⟨b, e, h⟩ := tValid_ev hf d
  rw [e]; congr 1
  rw [Bool.eq_iff_iff, h, tval_iff]
theorem rValid_eq {fuel : Nat} (hf : 9000 < fuel) (d : Download_) : ref30_Valid fuel d = some (tval d) := by
  obtain ⟨b, e, h⟩ := rValid_ev hf d
  rw [e]; congr 1
  rw [Bool.eq_iff_iff, h, tval_iff]
end Lift
