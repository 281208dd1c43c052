/- Requesters: what a valid one is; what New, Valid, Send return: closed forms. No program in sight. -/
import Derived.Test.YtkcogjblkenmgaaCodes2
import Derived.Test.YtkcogjblkenmgaaMround
set_option linter.unusedVariables false
set_option linter.unusedSimpArgs false
namespace Lift
open Go
theorem Ev.isSome {α : Type} {x : Option α} {a : α} (h : Ev x (fun b => b = a)) : x = some a := by obtain ⟨b, e, rfl⟩ := h; exact e
theorem getq {α : Type} {l : List α} {i : Nat} (h : i < l.length) : ∃ x, l[i]? = some x ∧ x ∈ l := ⟨l[i], List.getElem?_eq_getElem h, List.getElem_mem h⟩
def PT (p : Pending_) : Prop := MT p.Request ∧ okI .i64 p.Deadline ∧ okI .i64 p.Tries
structure RT (r : Requester_) : Prop where
  own : byte r.Own
  nx : okI .i64 r.Next
  ps : ∀ p ∈ r.Pending, PT p
  le : r.Pending.length ≤ 1000
def PV (own : Int) (p : Pending_) : Prop := 1 ≤ p.Tries ∧ p.Tries ≤ 3 ∧ 0 ≤ p.Deadline ∧ p.Request.From = own ∧ (MV p.Request ∧ p.Request.Function % 2 = 0)
def same2 (q p : Pending_) : Prop := q.Request.To = p.Request.To ∧ q.Request.Sequence = p.Request.Sequence
def RV (r : Requester_) : Prop := 8 ≤ r.Own ∧ r.Own ≤ 119 ∧ 0 ≤ r.Next ∧ r.Next ≤ 63 ∧ r.Pending.length ≤ 8 ∧
  ∀ (i : Nat) p, r.Pending[i]? = some p → PV r.Own p ∧ ∀ (j : Nat) q, j < i → r.Pending[j]? = some q → ¬ same2 q p
theorem mreq_ok {m : Message_} : (mreq m).2 = 0 ↔ MV m ∧ m.Function % 2 = 0 := by
  unfold mreq; split
  · rename_i h; exact ⟨fun _ => h, fun _ => rfl⟩
  · rename_i h; exact ⟨fun h0 => by simp at h0, fun h1 => absurd h1 h⟩
theorem eNew_eq (fuel : Nat) (own : Int) : exchange_New fuel own = some (if 8 ≤ own ∧ own ≤ 119 then (⟨own, 0, []⟩, 0) else (Requester_.z, 13)) := by
  unfold exchange_New
  rw [joinP_eq]
  by_cases h1 : own < 8
  · have : ¬ (8 ≤ own ∧ own ≤ 119) := by omega
    simp [h1, this]
  · by_cases h2 : own > 119
    · have : ¬ (8 ≤ own ∧ own ≤ 119) := by omega
      simp [h1, h2, this]
    · have h3 : 8 ≤ own ∧ own ≤ 119 := by omega
      simp [h1, h2, h3]
theorem r24New_eq (fuel : Nat) (own : Int) : ref24_New fuel own = some (if 8 ≤ own ∧ own ≤ 119 then (⟨own, 0, []⟩, 0) else (Requester_.z, 13)) := by
  unfold ref24_New
  rw [joinP_eq]
  by_cases h1 : own < 8
  · have : ¬ (8 ≤ own ∧ own ≤ 119) := by omega
    simp [h1, this]
  · by_cases h2 : own > 119
    · have : ¬ (8 ≤ own ∧ own ≤ 119) := by omega
      simp [h1, h2, this]
    · have h3 : 8 ≤ own ∧ own ≤ 119 := by omega
      simp [h1, h2, h3]
theorem eValid_ev {fuel : Nat} (hf : 6000 < fuel) {r : Requester_} (t : RT r) : Ev (exchange_Valid fuel r) (fun b => b = true ↔ RV r) := by
  unfold exchange_Valid
  have hl := t.le
  refine Ev.join (fun s => (s = true → ¬ RV r) ∧ (s = false → 8 ≤ r.Own ∧ r.Own ≤ 119 ∧ 0 ≤ r.Next ∧ r.Next ≤ 63 ∧ r.Pending.length ≤ 8)) (fun s hs => Ev.ite (fun h => Ev.ret ⟨fun h => (by cases h), fun v => absurd v (hs.1 h)⟩) (fun h => ?_)) (fun j hj => ?_)
  · obtain ⟨h1, h2, h3, h4, h5⟩ := hs.2 h
    refine Ev.count r.Pending.length (fun i s => s = (i : Int) ∧ ∀ (k : Nat) p, k < i → r.Pending[k]? = some p → PV r.Own p ∧ ∀ (j : Nat) q, j < k → r.Pending[j]? = some q → ¬ same2 q p) (by omega) ⟨rfl, fun k p hk => by omega⟩ (fun i s hi hI self hself => ?_)
    obtain ⟨rfl, hb⟩ := hI
    by_cases hl : i < r.Pending.length
    · obtain ⟨p, hp, hpm⟩ := getq hl
      have no : ¬ PV r.Own p → Ev (some false) (fun b => b = true ↔ RV r) := fun h => Ev.ret ⟨fun h => (by cases h), fun v => absurd (v.2.2.2.2.2 i p hp).1 h⟩
      refine Ev.decT (by omega) (Ev.to (by rw [idx_nat, hp]) ?_)
      refine Ev.join (fun s => (s = true → ¬ PV r.Own p) ∧ (s = false → 1 ≤ p.Tries ∧ p.Tries ≤ 3 ∧ 0 ≤ p.Deadline ∧ p.Request.From = r.Own)) (fun s hs => Ev.ite (fun h => no (hs.1 h)) (fun h => ?_)) (fun j2 hj2 => ?_)
      · obtain ⟨g1, g2, g3, g4⟩ := hs.2 h
        refine Ev.to (mRequest_eq (by omega) (t.ps p hpm).1) (Ev.bne (fun h => no (fun v => h (mreq_ok.2 v.2.2.2.2))) (fun h => ?_))
        have hpv : PV r.Own p := ⟨g1, g2, g3, g4, mreq_ok.1 h⟩
        have hs2 : sub r.Pending 0 (i : Int) = some (r.Pending.take i) := by
          have := sub_ok (l := r.Pending) (a := 0) (b := i) (by omega) (by omega)
          simpa using this
        refine Ev.to hs2 ?_
        have htl : (r.Pending.take i).length = i := by simp; omega
        refine Ev.count i (fun k s => s = (k : Int) ∧ ∀ (j : Nat) q, j < k → r.Pending[j]? = some q → ¬ same2 q p) (by omega) ⟨rfl, fun j q hj => by omega⟩ (fun k s hk hI self2 hself2 => ?_)
        obtain ⟨rfl, hb2⟩ := hI
        rw [htl]
        by_cases hkl : k < i
        · obtain ⟨q, hq, _⟩ := getq (show k < r.Pending.length by omega)
          have hq2 : (r.Pending.take i)[k]? = some q := by rw [List.getElem?_take, if_pos hkl, hq]
          refine Ev.decT (by omega) (Ev.to (by rw [idx_nat, hq2]) ?_)
          refine Ev.join (fun s => s = true ↔ same2 q p) (fun s hs => Ev.ite (fun e => Ev.ret ⟨fun h => (by cases h), fun v => absurd (hs.1 e) ((v.2.2.2.2.2 i p hp).2 k q hkl hq)⟩) (fun e => ?_)) (fun j3 hj3 => ?_)
          · rw [wi k (by omega)]
            refine hself2 _ hkl ⟨by simp, fun j q' hj hq' => ?_⟩
            rcases Nat.lt_succ_iff_lt_or_eq.1 hj with h1 | rfl
            · exact hb2 j q' h1 hq'
            · rw [hq] at hq'; cases hq'
              intro hc; rw [hs.2 hc] at e; cases e
          · refine Ev.beq (fun e => hj3 _ ?_) (fun e => hj3 _ ?_)
            · simp [same2, e]
            · simp [same2, e]
        · refine Ev.decF (by omega) ?_
          rw [wi i (by omega)]
          refine hself _ hl ⟨by simp, fun k' p' hk' hp' => ?_⟩
          rcases Nat.lt_succ_iff_lt_or_eq.1 hk' with h1 | rfl
          · exact hb k' p' h1 hp'
          · rw [hp] at hp'; cases hp'
            exact ⟨hpv, fun j q hj hq => hb2 j q (by omega) hq⟩
      · refine Ev.dec (fun c => hj2 _ ⟨fun _ v => by have := v.1; omega, fun e => (by cases e)⟩) (fun c1 => Ev.dec (fun c => hj2 _ ⟨fun _ v => by have := v.2.1; omega, fun e => (by cases e)⟩) (fun c2 => Ev.dec (fun c => hj2 _ ⟨fun _ v => by have := v.2.2.1; omega, fun e => (by cases e)⟩) (fun c3 => hj2 _ ⟨fun e v => ?_, fun e => ?_⟩)))
        · have h1 := v.2.2.2.1
          simp [h1] at e
        · have : p.Request.From = r.Own := by simpa using e
          exact ⟨by omega, by omega, by omega, this⟩
    · refine Ev.decF (by omega) (Ev.ret ⟨fun _ => ⟨h1, h2, h3, h4, h5, fun k p hp => hb k p (by have := lt_len hp; omega) hp⟩, fun _ => rfl⟩)
  · refine Ev.dec (fun c => hj _ ⟨fun _ v => by have := v.1; omega, fun e => (by cases e)⟩) (fun c1 => Ev.dec (fun c => hj _ ⟨fun _ v => by have := v.2.1; omega, fun e => (by cases e)⟩) (fun c2 => Ev.dec (fun c => hj _ ⟨fun _ v => by have := v.2.2.1; omega, fun e => (by cases e)⟩) (fun c3 => Ev.dec (fun c => hj _ ⟨fun _ v => by have := v.2.2.2.1; omega, fun e => (by cases e)⟩) (fun c4 => hj _ ⟨fun e v => ?_, fun e => ?_⟩))))
    · have := v.2.2.2.2.1
      have := of_decide_eq_true e
      omega
    · have := of_decide_eq_false e
      omega
theorem r24Valid_ev {fuel : Nat} (hf : 6000 < fuel) {r : Requester_} (t : RT r) : Ev (ref24_Valid fuel r) (fun b => b = true ↔ RV r) := by
  unfold ref24_Valid
  have hl := t.le
  refine Ev.join (fun s => (s = true → ¬ RV r) ∧ (s = false → 8 ≤ r.Own ∧ r.Own ≤ 119 ∧ 0 ≤ r.Next ∧ r.Next ≤ 63 ∧ r.Pending.length ≤ 8)) (fun s hs => Ev.ite (fun h => Ev.ret ⟨fun h => (by cases h), fun v => absurd v (hs.1 h)⟩) (fun h => ?_)) (fun j hj => ?_)
  · obtain ⟨h1, h2, h3, h4, h5⟩ := hs.2 h
    refine Ev.count r.Pending.length (fun i s => s = (i : Int) ∧ ∀ (k : Nat) p, k < i → r.Pending[k]? = some p → PV r.Own p ∧ ∀ (j : Nat) q, j < k → r.Pending[j]? = some q → ¬ same2 q p) (by omega) ⟨rfl, fun k p hk => by omega⟩ (fun i s hi hI self hself => ?_)
    obtain ⟨rfl, hb⟩ := hI
    by_cases hl : i < r.Pending.length
    · obtain ⟨p, hp, hpm⟩ := getq hl
      have no : ¬ PV r.Own p → Ev (some false) (fun b => b = true ↔ RV r) := fun h => Ev.ret ⟨fun h => (by cases h), fun v => absurd (v.2.2.2.2.2 i p hp).1 h⟩
      refine Ev.decT (by omega) (Ev.to (by rw [idx_nat, hp]) (Ev.to (rRequest_eq (by omega) (t.ps p hpm).1) ?_))
      refine Ev.join (fun s => (s = true → ¬ PV r.Own p) ∧ (s = false → PV r.Own p)) (fun s hs => Ev.ite (fun h => no (hs.1 h)) (fun h => ?_)) (fun j2 hj2 => ?_)
      · have hpv := hs.2 h
        refine Ev.count i (fun k s => s = (k : Int) ∧ ∀ (j : Nat) q, j < k → r.Pending[j]? = some q → ¬ same2 q p) (by omega) ⟨rfl, fun j q hj => by omega⟩ (fun k s hk hI self2 hself2 => ?_)
        obtain ⟨rfl, hb2⟩ := hI
        by_cases hkl : k < i
        · obtain ⟨q, hq, _⟩ := getq (show k < r.Pending.length by omega)
          refine Ev.decT (by omega) ?_
          refine Ev.join (fun s => s = true ↔ same2 q p) (fun s hs => Ev.ite (fun e => Ev.ret ⟨fun h => (by cases h), fun v => absurd (hs.1 e) ((v.2.2.2.2.2 i p hp).2 k q hkl hq)⟩) (fun e => ?_)) (fun j3 hj3 => Ev.to (by rw [idx_nat, hq]) (Ev.letP ?_))
          · refine Ev.letP ?_
            rw [wi k (by omega)]
            refine hself2 _ hkl ⟨by simp, fun j q' hj hq' => ?_⟩
            rcases Nat.lt_succ_iff_lt_or_eq.1 hj with h1 | rfl
            · exact hb2 j q' h1 hq'
            · rw [hq] at hq'; cases hq'
              intro hc; rw [hs.2 hc] at e; cases e
          · refine Ev.beq (fun e => Ev.to (by rw [idx_nat, hq]) (hj3 _ ?_)) (fun e => hj3 _ ?_)
            · simp [same2, e]
            · simp [same2, e]
        · refine Ev.decF (by omega) (Ev.letP ?_)
          rw [wi i (by omega)]
          refine hself _ hl ⟨by simp, fun k' p' hk' hp' => ?_⟩
          rcases Nat.lt_succ_iff_lt_or_eq.1 hk' with h1 | rfl
          · exact hb k' p' h1 hp'
          · rw [hp] at hp'; cases hp'
            exact ⟨hpv, fun j q hj hq => hb2 j q (by omega) hq⟩
      · refine Ev.bne (fun h => hj2 _ ⟨fun _ v => h (mreq_ok.2 v.2.2.2.2), fun e => (by cases e)⟩) (fun h0 => ?_)
        refine Ev.dec (fun c => hj2 _ ⟨fun _ v => by have := v.1; omega, fun e => (by cases e)⟩) (fun c1 => Ev.dec (fun c => hj2 _ ⟨fun _ v => by have := v.2.1; omega, fun e => (by cases e)⟩) (fun c2 => Ev.dec (fun c => hj2 _ ⟨fun _ v => by have := v.2.2.1; omega, fun e => (by cases e)⟩) (fun c3 => hj2 _ ⟨fun e v => ?_, fun e => ?_⟩)))
        · have h1 := v.2.2.2.1
          simp [h1] at e
        · have : p.Request.From = r.Own := by simpa using e
          exact ⟨by omega, by omega, by omega, this, mreq_ok.1 h0⟩
    · refine Ev.decF (by omega) (Ev.ret ⟨fun _ => ⟨h1, h2, h3, h4, h5, fun k p hp => hb k p (by have := lt_len hp; omega) hp⟩, fun _ => rfl⟩)
  · refine Ev.dec (fun c => hj _ ⟨fun _ v => by have := v.1; omega, fun e => (by cases e)⟩) (fun c1 => Ev.dec (fun c => hj _ ⟨fun _ v => by have := v.2.1; omega, fun e => (by cases e)⟩) (fun c2 => Ev.dec (fun c => hj _ ⟨fun _ v => by have := v.2.2.1; omega, fun e => (by cases e)⟩) (fun c3 => Ev.dec (fun c => hj _ ⟨fun _ v => by have := v.2.2.2.1; omega, fun e => (by cases e)⟩) (fun c4 => hj _ ⟨fun e v => ?_, fun e => ?_⟩))))
    · have := v.2.2.2.2.1
      have := of_decide_eq_true e
      omega
    · have := of_decide_eq_false e
      omega
open Classical in
noncomputable def rval (r : Requester_) : Bool := decide (RV r)
theorem rval_iff {r : Requester_} : rval r = true ↔ RV r := by unfold rval; simp
theorem eValid_eq {fuel : Nat} (hf : 6000 < fuel) {r : Requester_} (t : RT r) : exchange_Valid fuel r = some (rval r) := by
  obtain ⟨b, e, h⟩ := eValid_ev hf t
  rw [e]; congr 1
  rw [Bool.eq_iff_iff, h, rval_iff]
theorem r24Valid_eq {fuel : Nat} (hf : 6000 < fuel) {r : Requester_} (t : RT r) : ref24_Valid fuel r = some (rval r) := by
  obtain ⟨b, e, h⟩ := r24Valid_ev hf t
  rw [e]; congr 1
  rw [Bool.eq_iff_iff, h, rval_iff]
theorem copied_eq {fuel : Nat} {m : Message_} (h : m.Data.length ≤ 1000) : exchange_copied fuel m = some m := by
  unfold exchange_copied
  rw [app_ok (by simp; omega)]; rfl
theorem clone24_eq {fuel : Nat} (hf : 6000 < fuel) {r : Requester_} (t : RT r) : exchange_clone fuel r = some r := by
  apply Ev.isSome
  unfold exchange_clone
  have hl := t.le
  have h0 : mk 80 Pending_.z 0 = some [] := mk_ok (n := 0) (by omega)
  refine Ev.to h0 ?_
  rw [wr (n := (r.Pending.length : Int) + 1) (by omega)]
  refine Ev.chk (decide_eq_true (by omega)) (Ev.chk (decide_eq_true (by omega)) ?_)
  refine Ev.count r.Pending.length (fun i s => s = ((i : Int), r.Pending.take i)) (by omega) rfl (fun i s hi hI self hself => ?_)
  subst hI
  by_cases hil : i < r.Pending.length
  · obtain ⟨p, hp, hpm⟩ := getq hil
    refine Ev.decT (by simp only; omega) (Ev.to (by rw [idx_nat, hp]) (Ev.to (copied_eq (t.ps p hpm).1.le) (Ev.letP (Ev.to (app_ok (by simp; omega)) ?_))))
    rw [wi i (by omega)]
    refine hself _ hil ?_
    rw [List.take_add_one, hp]; rfl
  · refine Ev.decF (by simp only; omega) (Ev.ret ?_)
    rw [List.take_of_length_le (by omega)]
theorem r24Copy_eq {fuel : Nat} (hf : 6000 < fuel) {r : Requester_} (t : RT r) : ref24_Copy fuel r = some r := by
  apply Ev.isSome
  unfold ref24_Copy
  have hl := t.le
  refine Ev.count r.Pending.length (fun i s => s = ((i : Int), r.Pending.take i)) (by omega) rfl (fun i s hi hI self hself => ?_)
  subst hI
  by_cases hil : i < r.Pending.length
  · obtain ⟨p, hp, hpm⟩ := getq hil
    have := (t.ps p hpm).1.le
    refine Ev.decT (by simp only; omega) (Ev.to (by rw [idx_nat, hp]) (Ev.to (app_ok (by simp; omega)) (Ev.to (app_ok (by simp; omega)) (Ev.letP ?_))))
    rw [wi i (by omega)]
    refine hself _ hil ?_
    rw [List.take_add_one, hp]; rfl
  · refine Ev.decF (by simp only; omega) (Ev.ret ?_)
    rw [List.take_of_length_le (by omega)]
/-! ### free numbers -/
def used (l : List Pending_) (to n : Int) : Prop := ∃ p ∈ l, p.Request.To = to ∧ p.Request.Sequence = n
theorem nodup_sub {α : Type} [DecidableEq α] : ∀ {l m : List α}, l.Nodup → (∀ x ∈ l, x ∈ m) → l.length ≤ m.length
  | [], _, _, _ => by simp
  | x :: l, m, hn, h => by
    have hx := h x (by simp)
    obtain ⟨hxl, hn'⟩ := List.nodup_cons.1 hn
    have := nodup_sub (m := m.erase x) hn' (fun y hy => (List.mem_erase_of_ne (fun e => hxl (by rw [← e]; exact hy))).2 (h y (by simp [hy])))
    rw [List.length_erase_of_mem hx] at this
    have hpos : 0 < m.length := List.length_pos_of_mem hx
    simp only [List.length_cons]; omega
theorem free_ex (l : List Pending_) (hl : l.length ≤ 8) (to : Int) (a : Nat) : ∃ K : Nat, K ≤ 8 ∧ ¬ used l to (((a + K) % 64 : Nat) : Int) ∧ ∀ k, k < K → used l to (((a + k) % 64 : Nat) : Int) := by
  have hex : ∃ k : Nat, k ≤ 8 ∧ ¬ used l to (((a + k) % 64 : Nat) : Int) := by
    refine Classical.byContradiction fun hn => ?_
    have hall : ∀ k, k ≤ 8 → used l to (((a + k) % 64 : Nat) : Int) := fun k hk => Classical.byContradiction fun h => hn ⟨k, hk, h⟩
    let L := (List.range 9).map (fun k => (((a + k) % 64 : Nat) : Int))
    have hnd : L.Nodup := by
      show ((List.range 9).map _).Nodup
      rw [List.nodup_iff_pairwise_ne, List.pairwise_map]
      refine List.Pairwise.imp_of_mem ?_ List.nodup_range
      intro x y hx hy hne he
      have hx' := List.mem_range.1 hx
      have hy' := List.mem_range.1 hy
      omega
    have hsub : ∀ x ∈ L, x ∈ l.map (fun p => p.Request.Sequence) := by
      intro x hx
      obtain ⟨k, hk, rfl⟩ := List.mem_map.1 hx
      obtain ⟨p, hp, _, e⟩ := hall k (by have := List.mem_range.1 hk; omega)
      exact List.mem_map.2 ⟨p, hp, e⟩
    have := nodup_sub hnd hsub
    simp [L] at this
    omega
  obtain ⟨k, hk, hu⟩ := hex
  induction k using Nat.strongRecOn with
  | _ k ih =>
    by_cases hc : ∃ j, j < k ∧ ¬ used l to (((a + j) % 64 : Nat) : Int)
    · obtain ⟨j, hj, hju⟩ := hc
      exact ih j hj (by omega) hju
    · exact ⟨k, hk, hu, fun j hj => Classical.byContradiction fun h => hc ⟨j, hj, h⟩⟩
open Classical in
noncomputable def freeK (l : List Pending_) (to : Int) (a : Nat) : Nat := if h : l.length ≤ 8 then Classical.choose (free_ex l h to a) else 0
theorem freeK_spec {l : List Pending_} (h : l.length ≤ 8) (to : Int) (a : Nat) : freeK l to a ≤ 8 ∧ ¬ used l to (((a + freeK l to a) % 64 : Nat) : Int) ∧ ∀ k, k < freeK l to a → used l to (((a + k) % 64 : Nat) : Int) := by
  unfold freeK; rw [dif_pos h]; exact Classical.choose_spec (free_ex l h to a)
/-- The number that a request to an address gets. -/
noncomputable def fseq (l : List Pending_) (to : Int) (a : Int) : Int := (((a.toNat + freeK l to a.toNat) % 64 : Nat) : Int)
/-- What is sent. -/
noncomputable def smsg (r : Requester_) (to fn cm : Int) (data : List Int) : Message_ := ⟨to, r.Own, fn, cm, 0, 0, fseq r.Pending to r.Next, 0, data⟩
open Classical in
noncomputable def rsend (r : Requester_) (to fn cm : Int) (data : List Int) (now : Int) : Requester_ × List Int × Int :=
  if ¬ RV r then (Requester_.z, [], 1) else if now < 0 ∨ 17179869184 < now then (Requester_.z, [], 2) else if 8 ≤ r.Pending.length then (Requester_.z, [], 9)
  else if (mreq (smsg r to fn cm data)).2 ≠ 0 then (Requester_.z, [], (mreq (smsg r to fn cm data)).2)
  else ({ r with Next := (fseq r.Pending to r.Next + 1) % 64, Pending := r.Pending ++ [⟨smsg r to fn cm data, now + 10, 1⟩] }, (mreq (smsg r to fn cm data)).1, 0)
theorem smsg_MT {r : Requester_} (t : RT r) {to fn cm : Int} {data : List Int} (h1 : byte to) (h2 : byte fn) (h3 : byte cm) (h4 : ∀ x ∈ data, byte x) (h5 : data.length ≤ 1000) : MT (smsg r to fn cm data) := by
  refine ⟨h1, t.own, h2, h3, (show byte 0 from ⟨by decide, by decide⟩), okI_i64.2 ⟨by simp [smsg], by simp [smsg]⟩, okI_i64.2 ⟨by simp [smsg], by simp [smsg]⟩, okI_i64.2 ⟨?_, ?_⟩, h4, h5⟩
  · show -9223372036854775808 ≤ fseq _ _ _
    unfold fseq; omega
  · show fseq _ _ _ ≤ 9223372036854775807
    unfold fseq; omega
end Lift
