/- Responders: Next and Done in closed form; types and validity that stay. No program in sight. -/
import Derived.Test.YtlfbpnoempdiiaaResp2
import Derived.Test.YtlfbpnoempdiiaaSame25
set_option linter.unusedVariables false
set_option linter.unusedSimpArgs false
namespace Lift
open Go
theorem okI_sm {n : Int} (h : -9223372036854775808 ≤ n ∧ n ≤ 9223372036854775807) : okI .i64 n := okI_i64.2 h
open Classical in
noncomputable def snext (r : Responder_) : Message_ × Bool :=
  if ¬ SV r then (Message_.z, false) else match r.Queue with | [] => (Message_.z, false) | m :: _ => (m, true)
open Classical in
noncomputable def sdone (r : Responder_) (code : Int) (data : List Int) (now : Int) : Responder_ × List Int × Int :=
  if ¬ SV r then (Responder_.z, [], 1) else if now < 0 ∨ 17179869184 < now then (Responder_.z, [], 2) else
  match r.Queue with
  | [] => (Responder_.z, [], 46)
  | m :: rest => if (mreply m code data).2 ≠ 0 then (Responder_.z, [], (mreply m code data).2) else
    if (mres (mreply m code data).1).2 ≠ 0 then (Responder_.z, [], (mres (mreply m code data).1).2) else
    (⟨r.Own, rest, fmem r.Memory now ++ [⟨m, (mres (mreply m code data).1).1, now + 100⟩]⟩, (mres (mreply m code data).1).1, 0)
theorem sNext_eq {fuel : Nat} (hf : 6000 < fuel) {r : Responder_} (t : ST r) : responder_Next fuel r = some (snext r) := by
  apply Ev.isSome
  unfold responder_Next snext
  refine Ev.to (sValid_eq hf t) ?_
  refine Ev.join (fun s => s = true ↔ ¬ SV r ∨ r.Queue = []) (fun s hs => Ev.ite (fun e => Ev.ret ?_) (fun e => ?_)) (fun j hj => Ev.not (Ev.ite (fun v => ?_) (fun v => ?_)))
  · rcases hs.1 e with h | h
    · rw [if_pos h]
    · split
      · rfl
      · rw [h]
  · have hv : SV r := Classical.byContradiction fun h => by rw [hs.2 (.inl h)] at e; cases e
    rw [if_neg (fun h => h hv)]
    cases hq : r.Queue with
    | nil => rw [hs.2 (.inr hq)] at e; cases e
    | cons m rest =>
      have tm := t.qs m (by rw [hq]; simp)
      exact Ev.to (a := m) rfl (Ev.to (copied_eq tm.le) (Ev.ret rfl))
  · have hv := sval_iff.1 v
    refine hj _ ?_
    rw [beq_iff_eq]
    constructor
    · intro h; exact .inr (List.eq_nil_of_length_eq_zero (by omega))
    · rintro (h | h)
      · exact absurd hv h
      · rw [h]; rfl
  · refine hj _ ⟨fun _ => .inl (fun h => by rw [sval_iff.2 h] at v; cases v), fun _ => rfl⟩
theorem r25Next_eq {fuel : Nat} (hf : 6000 < fuel) {r : Responder_} (t : ST r) : ref25_Next fuel r = some (snext r) := by
  apply Ev.isSome
  unfold ref25_Next snext
  refine Ev.to (r25Valid_eq hf t) ?_
  refine Ev.join (fun s => s = true ↔ ¬ SV r ∨ r.Queue = []) (fun s hs => Ev.ite (fun e => Ev.ret ?_) (fun e => ?_)) (fun j hj => Ev.not (Ev.ite (fun v => ?_) (fun v => ?_)))
  · rcases hs.1 e with h | h
    · rw [if_pos h]
    · split
      · rfl
      · rw [h]
  · have hv : SV r := Classical.byContradiction fun h => by rw [hs.2 (.inl h)] at e; cases e
    rw [if_neg (fun h => h hv)]
    cases hq : r.Queue with
    | nil => rw [hs.2 (.inr hq)] at e; cases e
    | cons m rest =>
      have tm := t.qs m (by rw [hq]; simp)
      have := tm.le
      exact Ev.to (a := m) rfl (Ev.to (app_ok (by simp; omega)) (Ev.ret rfl))
  · have hv := sval_iff.1 v
    refine hj _ ?_
    rw [beq_iff_eq]
    constructor
    · intro h; exact .inr (List.eq_nil_of_length_eq_zero (by omega))
    · rintro (h | h)
      · exact absurd hv h
      · rw [h]; rfl
  · refine hj _ ⟨fun _ => .inl (fun h => by rw [sval_iff.2 h] at v; cases v), fun _ => rfl⟩
theorem sub_tail1 {m : Message_} {rest : List Message_} : sub (m :: rest) 1 ((m :: rest).length : Int) = some rest := by
  have := sub_ok (l := m :: rest) (a := 1) (b := (m :: rest).length) (by simp) (by simp)
  rw [show ((1 : Nat) : Int) = 1 from rfl] at this
  rw [this]
  simp
theorem sDone_eq {fuel : Nat} (hf : 6000 < fuel) {r : Responder_} (t : ST r) {code : Int} (hc : byte code) {data : List Int} (hb : ∀ x ∈ data, byte x) (hd : data.length ≤ 1000) (now : Int) : responder_Done fuel r code data now = some (sdone r code data now) := by
  apply Ev.isSome
  unfold responder_Done sdone
  refine Ev.to (sValid_eq hf t) (Ev.letP (Ev.not (Ev.ite (fun v => ?_) (fun v => Ev.ret (by rw [if_pos]; intro h; rw [sval_iff.2 h] at v; cases v)))))
  have v := sval_iff.1 v
  rw [if_neg (fun h => h v)]
  obtain ⟨v1, v2⟩ := sV_len v
  refine Ev.join (fun s => s = true ↔ now < 0 ∨ 17179869184 < now) (fun s hs => Ev.ite (fun e => Ev.ret (by rw [if_pos (hs.1 e)])) (fun e => ?_)) (fun j hj => Ev.dec (fun h => hj _ ⟨fun _ => .inl h, fun _ => rfl⟩) (fun h => Ev.letP (hj _ ?_)))
  rotate_left
  · rw [decide_eq_true_iff]
    constructor
    · intro h2; exact .inr (by omega)
    · rintro (h2 | h2)
      · exact absurd h2 h
      · omega
  have hn : ¬ (now < 0 ∨ 17179869184 < now) := fun h => by rw [hs.2 h] at e; cases e
  rw [if_neg hn]
  have hfl := fmem_len r.Memory now
  cases hq : r.Queue with
  | nil => exact Ev.letP (Ev.beqT rfl (Ev.ret rfl))
  | cons m rest =>
    have tm := t.qs m (by rw [hq]; simp)
    obtain ⟨ty, _⟩ := mreply_MT tm hc hb
    have hsm := (mres_small ty).1
    have hfr : (sfresh r now).Queue = m :: rest := hq
    simp only
    refine Ev.letP (Ev.beqF (by simp only [List.length_cons]; omega) (Ev.to (a := m) rfl (Ev.to (answer_eq hf tm hc hd hb) ?_)))
    by_cases h1 : (mreply m code data).2 ≠ 0
    · rw [if_pos h1, if_pos h1]
      exact Ev.bneT h1 (Ev.ret rfl)
    · rw [if_neg h1, if_neg h1]
      refine Ev.bne (fun h2 => Ev.ret (by rw [if_pos h2])) (fun h2 => ?_)
      rw [if_neg (fun h => h h2)]
      refine Ev.to (fresh_eq hf t now) ?_
      rw [show ({ sfresh r now with Queue := (sfresh r now).Queue } : Responder_).Queue = m :: rest from hfr]
      refine Ev.to (a := m) rfl (Ev.to (clone_eq (by omega)) (Ev.to (app_ok (l := fmem r.Memory now) (by simp only [List.length_singleton]; omega)) (Ev.to sub_tail1 (Ev.letP (Ev.ret ?_)))))
      rw [wr (n := now + 100) (by omega)]; rfl
theorem r25Done_eq {fuel : Nat} (hf : 6000 < fuel) {r : Responder_} (t : ST r) {code : Int} (hc : byte code) {data : List Int} (hb : ∀ x ∈ data, byte x) (hd : data.length ≤ 1000) (now : Int) : ref25_Done fuel r code data now = some (sdone r code data now) := by
  apply Ev.isSome
  unfold ref25_Done sdone
  refine Ev.to (r25Valid_eq hf t) (Ev.letP (Ev.not (Ev.ite (fun v => ?_) (fun v => Ev.ret (by rw [if_pos]; intro h; rw [sval_iff.2 h] at v; cases v)))))
  have v := sval_iff.1 v
  rw [if_neg (fun h => h v)]
  obtain ⟨v1, v2⟩ := sV_len v
  refine Ev.to (r24Time_eq fuel now) (Ev.letP (Ev.not (Ev.dec (fun hn => ?_) (fun hn => Ev.ret (by rw [if_pos (Classical.not_not.1 hn)])))))
  rw [if_neg hn]
  have hfl := fmem_len r.Memory now
  cases hq : r.Queue with
  | nil => exact Ev.letP (Ev.beqT rfl (Ev.ret rfl))
  | cons m rest =>
    have tm := t.qs m (by rw [hq]; simp)
    obtain ⟨ty, _⟩ := mreply_MT tm hc hb
    have hsm := (mres_small ty).1
    have hfr : (sfresh r now).Queue = m :: rest := hq
    simp only
    refine Ev.letP (Ev.beqF (by simp only [List.length_cons]; omega) (Ev.to (a := m) rfl (Ev.to (rReply_eq (by omega) tm code hd) (Ev.bne (fun h1 => Ev.ret (by rw [if_pos h1])) (fun h1 => ?_)))))
    rw [if_neg (fun h => h h1)]
    refine Ev.to (rResponse_eq (by omega) ty) (Ev.bne (fun h2 => Ev.ret (by rw [if_pos h2])) (fun h2 => ?_))
    rw [if_neg (fun h => h h2)]
    refine Ev.to (r25Fresh_eq hf t now) ?_
    rw [show ({ sfresh r now with Queue := (sfresh r now).Queue } : Responder_).Queue = m :: rest from hfr]
    refine Ev.to (a := m) rfl (Ev.to (app_ok (by simp; omega)) (Ev.to (app_ok (l := fmem r.Memory now) (by simp only [List.length_singleton]; omega)) (Ev.to sub_tail1 (Ev.letP (Ev.ret ?_)))))
    rw [wr (n := now + 100) (by omega)]; rfl
theorem sNew_eq (fuel : Nat) (own : Int) : responder_New fuel own = some (if 8 ≤ own ∧ own ≤ 119 then (⟨own, [], []⟩, 0) else (Responder_.z, 13)) := by
  unfold responder_New
  by_cases h1 : own < 8
  · rw [if_neg (by omega)]; simp [h1]
  · by_cases h2 : own > 119
    · rw [if_neg (by omega)]; simp [h1, h2]
    · rw [if_pos (by omega)]; simp [h1, h2]
theorem r25New_eq (fuel : Nat) (own : Int) : ref25_New fuel own = some (if 8 ≤ own ∧ own ≤ 119 then (⟨own, [], []⟩, 0) else (Responder_.z, 13)) := by
  unfold ref25_New
  by_cases h1 : own < 8
  · rw [if_neg (by omega)]; simp [h1]
  · by_cases h2 : own > 119
    · rw [if_neg (by omega)]; simp [h1, h2]
    · rw [if_pos (by omega)]; simp [h1, h2]
theorem sEqual_refl {fuel : Nat} (hf : 6000 < fuel) {a : Responder_} (t : ST a) : ref25_Equal fuel a a = some true := by
  apply Ev.isSome
  unfold ref25_Equal
  have hml := t.ml
  have hql := t.ql
  refine Ev.join (fun s => s = false) (fun s hs => Ev.iteF hs ?_) (fun j hj => Ev.bneF rfl (Ev.to (sMsgs_refl hf (by omega) (fun m hm => (t.qs m hm).da)) (Ev.iteF rfl (hj _ (by simp)))))
  refine Ev.each (l := a.Memory) (by omega) (fun i p hp hm hi self hs => ?_) (fun self => Ev.decF (by omega) (Ev.ret rfl))
  have hx : idx a.Memory (i : Int) = some p := by rw [idx_nat, hp]
  have tp := t.ms p hm
  refine Ev.decT (by omega) (Ev.join (fun s => s = false) (fun s hs2 => Ev.iteF hs2 (Ev.letP ?_)) (fun j2 hj2 => ?_))
  · rw [wi i (by omega)]; exact hs
  · exact Ev.to hx (Ev.to hx (Ev.letP (Ev.bneF rfl (Ev.to hx (Ev.to hx (Ev.letP (Ev.bneF rfl (Ev.to hx (Ev.to hx (Ev.to (sMsg_eq tp.1.da tp.1.da) (hj2 _ (by simp))))))))))))
/-! ### types -/
theorem zR_ST : ST Responder_.z := ⟨⟨by decide, by decide⟩, fun p hp => (by cases hp), fun p hp => (by cases hp), by simp [Responder_.z], by simp [Responder_.z]⟩
theorem sacc_T {r : Responder_} (t : ST r) {b : List Int} (hb : Small b) (now : Int) : ST (sacc r b now).1 ∧ Small (sacc r b now).2.1 ∧ ((sacc r b now).2.2 = 0 → (sacc r b now).1.Queue.length ≤ 9 ∧ (sacc r b now).1.Memory.length ≤ 16) := by
  have tm := mparse_MT false (l := b) hb.2
  have tf := sfresh_ST t now
  have hfl := fmem_len r.Memory now
  unfold sacc
  split
  · exact ⟨zR_ST, nil_small, fun h => (by cases h)⟩
  · rename_i v
    obtain ⟨v1, v2⟩ := sV_len (Classical.not_not.1 v)
    split
    · exact ⟨zR_ST, nil_small, fun h => (by cases h)⟩
    · split
      · rename_i h0; exact ⟨zR_ST, nil_small, fun h => absurd h h0⟩
      · split
        · exact ⟨zR_ST, nil_small, fun h => (by cases h)⟩
        · split
          · rename_i k hk
            have hkm := List.mem_of_find?_eq_some hk
            exact ⟨tf, (t.ms k (List.mem_filter.1 hkm).1).2.1, fun _ => ⟨by show r.Queue.length ≤ 9; omega, by show (fmem r.Memory now).length ≤ 16; omega⟩⟩
          · split
            · exact ⟨tf, nil_small, fun _ => ⟨by show r.Queue.length ≤ 9; omega, by show (fmem r.Memory now).length ≤ 16; omega⟩⟩
            · split
              · exact ⟨tf, mres_small (mreply_MT tm (show byte 192 from ⟨by decide, by decide⟩) (fun x hx => (by cases hx))).1, fun _ => ⟨by show r.Queue.length ≤ 9; omega, by show (fmem r.Memory now).length ≤ 16; omega⟩⟩
              · refine ⟨⟨t.own, fun m hm => ?_, tf.ms, by simp; omega, tf.ml⟩, nil_small, fun _ => ⟨by simp; omega, by show (fmem r.Memory now).length ≤ 16; omega⟩⟩
                rcases List.mem_append.1 hm with h | h
                · exact t.qs m h
                · simp only [List.mem_singleton] at h; rw [h]; exact tm
theorem sdone_T {r : Responder_} (t : ST r) {code : Int} (hc : byte code) {data : List Int} (hb : ∀ x ∈ data, byte x) (now : Int) : ST (sdone r code data now).1 ∧ Small (sdone r code data now).2.1 ∧ ((sdone r code data now).2.2 = 0 → (sdone r code data now).1.Queue.length ≤ 9 ∧ (sdone r code data now).1.Memory.length ≤ 17) := by
  have hfl := fmem_len r.Memory now
  unfold sdone
  split
  · exact ⟨zR_ST, nil_small, fun h => (by cases h)⟩
  · rename_i v
    obtain ⟨v1, v2⟩ := sV_len (Classical.not_not.1 v)
    split
    · exact ⟨zR_ST, nil_small, fun h => (by cases h)⟩
    · rename_i hn
      split
      · exact ⟨zR_ST, nil_small, fun h => (by cases h)⟩
      · rename_i m rest hq
        have tm := t.qs m (by rw [hq]; simp)
        obtain ⟨ty, _⟩ := mreply_MT tm hc hb
        have hlen : r.Queue.length = rest.length + 1 := by rw [hq]; rfl
        split
        · rename_i h1; exact ⟨zR_ST, nil_small, fun h => absurd h h1⟩
        · split
          · rename_i h1; exact ⟨zR_ST, nil_small, fun h => absurd h h1⟩
          · refine ⟨⟨t.own, fun q hq2 => t.qs q (by rw [hq]; simp [hq2]), fun k hk => ?_, by simp only; omega, by simp; omega⟩, mres_small ty, fun _ => ⟨by simp only; omega, by simp; omega⟩⟩
            rcases List.mem_append.1 hk with h | h
            · exact t.ms k (List.mem_filter.1 h).1
            · simp only [List.mem_singleton] at h; rw [h]
              exact ⟨tm, mres_small ty, okI_sm (by simp only; omega)⟩
theorem snext_T {r : Responder_} (t : ST r) : MT (snext r).1 := by
  unfold snext
  split
  · exact z_MT
  · split
    · exact z_MT
    · rename_i m rest hq; exact t.qs m (by rw [hq]; simp)
end Lift
