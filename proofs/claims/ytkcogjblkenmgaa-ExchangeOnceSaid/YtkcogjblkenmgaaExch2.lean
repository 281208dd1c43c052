/- What Send, Tick and Receive return: closed forms. No program in sight. -/
import Derived.Test.YtkcogjblkenmgaaExch
set_option linter.unusedVariables false
set_option linter.unusedSimpArgs false
namespace Lift
open Go
theorem tm64 {n : Int} (h : 0 ≤ n) : Int.tmod n 64 = n % 64 := Int.tmod_eq_emod_of_nonneg h
theorem used_loop {fuel : Nat} {l : List Pending_} (hl : l.length ≤ 1000) (hf : 6000 < fuel) {to n : Int} (r : Requester_) (hr : r.Pending = l) : Ev (ref24_used fuel r to n) (fun b => b = true ↔ used l to n) := by
  unfold ref24_used
  rw [hr]
  refine Ev.count l.length (fun i s => s = (i : Int) ∧ ∀ (j : Nat) q, j < i → l[j]? = some q → ¬ (q.Request.To = to ∧ q.Request.Sequence = n)) (by omega) ⟨rfl, fun j q hj => by omega⟩ (fun i s hi hI self hself => ?_)
  obtain ⟨rfl, hb⟩ := hI
  by_cases hil : i < l.length
  · obtain ⟨p, hp, hpm⟩ := getq hil
    refine Ev.decT (by omega) (Ev.to (by rw [idx_nat, hp]) ?_)
    refine Ev.join (fun s => s = true ↔ (p.Request.To = to ∧ p.Request.Sequence = n)) (fun s hs => Ev.ite (fun e => Ev.ret ⟨fun _ => ⟨p, hpm, hs.1 e⟩, fun _ => rfl⟩) (fun e => ?_)) (fun j hj => Ev.beq (fun e => Ev.to (by rw [idx_nat, hp]) (hj _ (by simp [e]))) (fun e => hj _ (by simp [e])))
    refine Ev.letP ?_
    rw [wi i (by omega)]
    refine hself _ hil ⟨by simp, fun j q hj hq => ?_⟩
    rcases Nat.lt_succ_iff_lt_or_eq.1 hj with h1 | rfl
    · exact hb j q h1 hq
    · rw [hp] at hq; cases hq
      intro hc; rw [hs.2 hc] at e; cases e
  · refine Ev.decF (by omega) (Ev.ret ⟨fun h => (by cases h), fun ⟨q, hq, hc⟩ => ?_⟩)
    obtain ⟨j, hj, e⟩ := List.mem_iff_getElem.1 hq
    exact absurd hc (hb j q (by omega) (by rw [List.getElem?_eq_getElem hj, e]))
theorem RT.nxt {r : Requester_} (v : RV r) : ∃ a : Nat, r.Next = (a : Int) ∧ a ≤ 63 := ⟨r.Next.toNat, by have := v.2.2.1; omega, by have := v.2.2.2.1; omega⟩
theorem eSend_eq {fuel : Nat} (hf : 6000 < fuel) {r : Requester_} (t : RT r) {to fn cm now : Int} {data : List Int} (h1 : byte to) (h2 : byte fn) (h3 : byte cm) (h4 : ∀ x ∈ data, byte x) (h5 : data.length ≤ 1000) : exchange_Send fuel r to fn cm data now = some (rsend r to fn cm data now) := by
  apply Ev.isSome
  unfold exchange_Send rsend
  have hl := t.le
  refine Ev.to (eValid_eq hf t) (Ev.letP (Ev.not (Ev.ite (fun v => ?_) (fun v => Ev.ret (by rw [if_pos]; intro h; rw [rval_iff.2 h] at v; cases v)))))
  rw [rval_iff] at v
  rw [if_neg (fun h => h v)]
  refine Ev.join (fun s => s = true ↔ now < 0 ∨ 17179869184 < now) (fun s hs => Ev.ite (fun e => ?_) (fun e => ?_)) (fun j hj => Ev.dec (fun h => hj _ (by simp [h])) (fun h => Ev.letP (hj _ (by simp; omega))))
  · rw [if_pos (hs.1 e)]; exact Ev.ret rfl
  have hnow : ¬ (now < 0 ∨ 17179869184 < now) := fun h => by rw [hs.2 h] at e; cases e
  rw [if_neg hnow]
  refine Ev.letP (Ev.beq (fun h8 => ?_) (fun h8 => ?_))
  · rw [if_pos (by omega)]; exact Ev.ret rfl
  have hl8 := v.2.2.2.2.1
  rw [if_neg (by omega)]
  obtain ⟨a, ha, ha63⟩ := RT.nxt v
  obtain ⟨hK8, hKu, hKk⟩ := freeK_spec hl8 to a
  have hseq : fseq r.Pending to r.Next = (((a + freeK r.Pending to a) % 64 : Nat) : Int) := by unfold fseq; rw [ha]; rfl
  generalize hKe : freeK r.Pending to a = K at hK8 hKu hKk hseq
  refine Ev.letP ?_
  rw [ha, wr (n := (a : Int) - 1) (by omega)]
  refine Ev.loop (fun n (s : Int) => ∃ k, n + k = K ∧ 0 ≤ s + 1 ∧ s + 1 ≤ 64 ∧ (s + 1) % 64 = (((a + k) % 64 : Nat) : Int)) (fun n s hI self hself => ?_) (n := K) (by omega) ⟨0, by omega, by omega, by omega, by omega⟩
  obtain ⟨k, hnk, s0, s1, s2⟩ := hI
  have hx : Int.tmod (IntKind.i64.wrap (s + 1)) 64 = (((a + k) % 64 : Nat) : Int) := by rw [wr (by omega), tm64 s0, s2]
  refine Ev.letE hx ?_
  generalize hz : (((a + k) % 64 : Nat) : Int) = z at hx s2
  have hz0 : 0 ≤ z := by omega
  have hz1 : z < 64 := by omega
  -- among those that wait?
  refine Ev.count r.Pending.length (fun i s => s = (i : Int) ∧ ∀ (j : Nat) q, j < i → r.Pending[j]? = some q → ¬ (q.Request.To = to ∧ q.Request.Sequence = z)) (by omega) ⟨rfl, fun j q hj => by omega⟩ (fun i s' hi hI2 self2 hself2 => ?_)
  obtain ⟨rfl, hb⟩ := hI2
  by_cases hil : i < r.Pending.length
  · obtain ⟨p, hp, hpm⟩ := getq hil
    refine Ev.decT (by omega) (Ev.to (by rw [idx_nat, hp]) ?_)
    refine Ev.join (fun s => s = true ↔ (p.Request.To = to ∧ p.Request.Sequence = z)) (fun s hs => Ev.ite (fun e => ?_) (fun e => ?_)) (fun j hj => Ev.beq (fun e => hj _ (by simp [e])) (fun e => hj _ (by simp [e])))
    · have hu : used r.Pending to z := ⟨p, hpm, hs.1 e⟩
      have hkK : k ≠ K := fun h => hKu (by rw [← h, hz]; exact hu)
      refine hself (n - 1) z (by omega) ⟨k + 1, by omega, by omega, by omega, ?_⟩
      rw [← hz]; omega
    · rw [wi i (by omega)]
      refine hself2 _ hil ⟨by simp, fun j q hj hq => ?_⟩
      rcases Nat.lt_succ_iff_lt_or_eq.1 hj with h1 | rfl
      · exact hb j q h1 hq
      · rw [hp] at hq; cases hq
        intro hc; rw [hs.2 hc] at e; cases e
  · refine Ev.decF (by omega) ?_
    have hnu : ¬ used r.Pending to z := by
      rintro ⟨q, hq, hc⟩
      obtain ⟨j, hj, e⟩ := List.mem_iff_getElem.1 hq
      exact hb j q (by omega) (by rw [List.getElem?_eq_getElem hj, e]) hc
    have hkK : k = K := by
      refine Classical.byContradiction fun h => hnu ?_
      rw [← hz]; exact hKk k (by omega)
    have hzf : z = fseq r.Pending to r.Next := by rw [hseq, ← hz, hkK]
    have hm : (⟨to, r.Own, fn, cm, 0, 0, z, 0, data⟩ : Message_) = smsg r to fn cm data := by rw [hzf]; rfl
    rw [hm]
    have tm := smsg_MT t h1 h2 h3 h4 h5
    refine Ev.to (copied_eq (m := smsg r to fn cm data) h5) (Ev.to (mRequest_eq (by omega) tm) (Ev.bne (fun h => ?_) (fun h => ?_)))
    · rw [if_pos h]; exact Ev.ret rfl
    · rw [if_neg (fun hc => hc h)]
      refine Ev.to (clone24_eq hf t) (Ev.to (app_ok (by simp; omega)) (Ev.letP (Ev.ret ?_)))
      rw [wr (n := now + 10) (by omega), wr (n := z + 1) (by omega), tm64 (by omega), hzf, ha]
theorem r24Send_eq {fuel : Nat} (hf : 6000 < fuel) {r : Requester_} (t : RT r) {to fn cm now : Int} {data : List Int} (h1 : byte to) (h2 : byte fn) (h3 : byte cm) (h4 : ∀ x ∈ data, byte x) (h5 : data.length ≤ 1000) : ref24_Send fuel r to fn cm data now = some (rsend r to fn cm data now) := by
  apply Ev.isSome
  unfold ref24_Send rsend
  have hl := t.le
  refine Ev.to (r24Valid_eq hf t) (Ev.letP (Ev.not (Ev.ite (fun v => ?_) (fun v => Ev.ret (by rw [if_pos]; intro h; rw [rval_iff.2 h] at v; cases v)))))
  rw [rval_iff] at v
  rw [if_neg (fun h => h v)]
  have hT : ref24_Time fuel now = some (decide (0 ≤ now ∧ now ≤ 17179869184)) := by
    unfold ref24_Time
    by_cases h0 : 0 ≤ now <;> simp [h0]
  refine Ev.to hT (Ev.letP (Ev.not (Ev.dec (fun hn => ?_) (fun hn => ?_))))
  rotate_left
  · rw [if_pos (by omega)]; exact Ev.ret rfl
  have hnow : ¬ (now < 0 ∨ 17179869184 < now) := by omega
  rw [if_neg hnow]
  refine Ev.letP (Ev.dec (fun h8 => ?_) (fun h8 => ?_))
  · rw [if_pos (by omega)]; exact Ev.ret rfl
  have hl8 := v.2.2.2.2.1
  rw [if_neg (by omega)]
  obtain ⟨a, ha, ha63⟩ := RT.nxt v
  obtain ⟨hK8, hKu, hKk⟩ := freeK_spec hl8 to a
  have hseq : fseq r.Pending to r.Next = (((a + freeK r.Pending to a) % 64 : Nat) : Int) := by unfold fseq; rw [ha]; rfl
  generalize hKe : freeK r.Pending to a = K at hK8 hKu hKk hseq
  refine Ev.loop (fun n (s : Int) => ∃ k, n + k = K ∧ s = (((a + k) % 64 : Nat) : Int)) (fun n s hI self hself => ?_) (n := K) (by omega) ⟨0, by omega, by rw [ha]; omega⟩
  obtain ⟨k, hnk, rfl⟩ := hI
  generalize hz : (((a + k) % 64 : Nat) : Int) = z
  have hz0 : 0 ≤ z := by omega
  have hz1 : z < 64 := by omega
  refine Ev.bind (used_loop hl hf r rfl) (fun b hb => Ev.ite (fun e => ?_) (fun e => ?_))
  · have hu := hb.1 e
    have hkK : k ≠ K := fun h => hKu (by rw [← h, hz]; exact hu)
    have hw : Int.tmod (IntKind.i64.wrap (z + 1)) 64 = (((a + (k + 1)) % 64 : Nat) : Int) := by rw [wr (by omega), tm64 (by omega), ← hz]; omega
    exact Ev.letE hw (hself (n - 1) _ (by omega) ⟨k + 1, by omega, rfl⟩)
  · have hnu : ¬ used r.Pending to z := fun h => by rw [hb.2 h] at e; cases e
    have hkK : k = K := by
      refine Classical.byContradiction fun h => hnu ?_
      rw [← hz]; exact hKk k (by omega)
    have hzf : z = fseq r.Pending to r.Next := by rw [hseq, ← hz, hkK]
    have tm := smsg_MT t h1 h2 h3 h4 h5
    refine Ev.to (app_ok (by simp; omega)) ?_
    rw [List.nil_append]
    have hm : (⟨to, r.Own, fn, cm, 0, 0, z, 0, data⟩ : Message_) = smsg r to fn cm data := by rw [hzf]; rfl
    rw [hm]
    refine Ev.to (rRequest_eq (by omega) tm) (Ev.bne (fun h => ?_) (fun h => ?_))
    · rw [if_pos h]; exact Ev.ret rfl
    · rw [if_neg (fun hc => hc h)]
      refine Ev.to (r24Copy_eq hf t) (Ev.to (app_ok (by simp; omega)) (Ev.letP (Ev.ret ?_)))
      rw [wr (n := now + 10) (by omega), wr (n := z + 1) (by omega), tm64 (by omega), hzf]
/-! ### Tick -/
/-- A request that is transmitted again. -/
def bump (now : Int) (p : Pending_) : Pending_ := { p with Deadline := now + 10 * 2 ^ p.Tries.toNat, Tries := p.Tries + 1 }
def tstep (now : Int) (s : List Pending_ × List (List Int) × List Message_) (p : Pending_) : List Pending_ × List (List Int) × List Message_ :=
  if now < p.Deadline then (s.1 ++ [p], s.2.1, s.2.2) else if p.Tries = 3 then (s.1, s.2.1, s.2.2 ++ [p.Request])
  else (s.1 ++ [bump now p], s.2.1 ++ [(mreq p.Request).1], s.2.2)
def tfold (now : Int) (l : List Pending_) : List Pending_ × List (List Int) × List Message_ := l.foldl (tstep now) ([], [], [])
open Classical in
noncomputable def rtick (r : Requester_) (now : Int) : Requester_ × List (List Int) × List Message_ :=
  if ¬ RV r ∨ now < 0 ∨ 17179869184 < now then (r, [], []) else ({ r with Pending := (tfold now r.Pending).1 }, (tfold now r.Pending).2.1, (tfold now r.Pending).2.2)
theorem tfold_succ {now : Int} {l : List Pending_} {i : Nat} {p : Pending_} (h : l[i]? = some p) : tfold now (l.take (i + 1)) = tstep now (tfold now (l.take i)) p := by
  unfold tfold
  rw [List.take_add_one, h, List.foldl_append]; rfl
theorem tstep_len {now : Int} {s : List Pending_ × List (List Int) × List Message_} {p : Pending_} : (tstep now s p).1.length ≤ s.1.length + 1 ∧ (tstep now s p).2.1.length ≤ s.2.1.length + 1 ∧ (tstep now s p).2.2.length ≤ s.2.2.length + 1 := by
  unfold tstep; split
  · simp
  · split <;> simp
theorem tfold_len (now : Int) (l : List Pending_) (i : Nat) (hi : i ≤ l.length) : (tfold now (l.take i)).1.length ≤ i ∧ (tfold now (l.take i)).2.1.length ≤ i ∧ (tfold now (l.take i)).2.2.length ≤ i := by
  induction i with
  | zero => simp [tfold]
  | succ i ih =>
    obtain ⟨p, hp, _⟩ := getq (show i < l.length by omega)
    rw [tfold_succ hp]
    have := ih (by omega)
    have := tstep_len (now := now) (s := tfold now (l.take i)) (p := p)
    omega
theorem bump_eq {now : Int} {p : Pending_} (hn : ¬ (now < 0 ∨ 17179869184 < now)) (h1 : 1 ≤ p.Tries) (h2 : p.Tries ≤ 3) (h3 : p.Tries ≠ 3) :
    IntKind.i64.wrap (now + (bShl .i64 10 p.Tries)) = now + 10 * 2 ^ p.Tries.toNat ∧ IntKind.i64.wrap (p.Tries + 1) = p.Tries + 1 ∧ IntKind.u64.wrap p.Tries = p.Tries := by
  have : p.Tries = 1 ∨ p.Tries = 2 := by omega
  rcases this with h | h
  · rw [h]
    have e : bShl .i64 10 1 = 20 := by decide
    have e2 : (10 : Int) * 2 ^ (1 : Int).toNat = 20 := by decide
    rw [e, e2]
    exact ⟨wr (by omega), by decide, by decide⟩
  · rw [h]
    have e : bShl .i64 10 2 = 40 := by decide
    have e2 : (10 : Int) * 2 ^ (2 : Int).toNat = 40 := by decide
    rw [e, e2]
    exact ⟨wr (by omega), by decide, by decide⟩
theorem lay_pre {α : Type} {R l : List α} {x : α} {i : Nat} (h : R.length ≤ i) (hi : i < l.length) : lay (R ++ l.drop R.length) R.length [x] = R ++ [x] ++ l.drop (R.length + 1) := by
  unfold lay
  rw [List.take_left]
  congr 1
  rw [List.length_singleton, List.drop_append]
  simp
theorem eTick_eq {fuel : Nat} (hf : 6000 < fuel) {r : Requester_} (t : RT r) {now : Int} : exchange_Tick fuel r now = some (rtick r now) := by
  apply Ev.isSome
  unfold exchange_Tick rtick
  have hl := t.le
  refine Ev.to (clone24_eq hf t) (Ev.to (eValid_eq hf t) ?_)
  refine Ev.join (fun s => s = true ↔ ¬ RV r ∨ now < 0 ∨ 17179869184 < now) (fun s hs => Ev.ite (fun e => ?_) (fun e => ?_)) (fun j hj => Ev.not (Ev.ite (fun v => ?_) (fun v => ?_)))
  · rw [if_pos (hs.1 e)]; exact Ev.ret rfl
  · have hn : ¬ (¬ RV r ∨ now < 0 ∨ 17179869184 < now) := fun h => by rw [hs.2 h] at e; cases e
    rw [if_neg hn]
    have v : RV r := Classical.byContradiction fun h => hn (.inl h)
    have hnow : ¬ (now < 0 ∨ 17179869184 < now) := fun h => hn (.inr h)
    have hl8 := v.2.2.2.2.1
    refine Ev.count r.Pending.length (fun i s => s = ((tfold now (r.Pending.take i)).1.length, (i : Int), (tfold now (r.Pending.take i)).2.1, (tfold now (r.Pending.take i)).2.2, (tfold now (r.Pending.take i)).1 ++ r.Pending.drop (tfold now (r.Pending.take i)).1.length)) (by omega) rfl (fun i s hi hI self hself => ?_)
    subst hI
    obtain ⟨l1, l2, l3⟩ := tfold_len now r.Pending i hi
    simp only
    by_cases hil : i < r.Pending.length
    · obtain ⟨p, hp, hpm⟩ := getq hil
      have hpv := (v.2.2.2.2.2 i p hp).1
      have hx : ((tfold now (r.Pending.take i)).1 ++ r.Pending.drop (tfold now (r.Pending.take i)).1.length)[i]? = some p := by
        rw [List.getElem?_append_right l1, List.getElem?_drop, ← hp]; congr 1; omega
      have hlen : ((tfold now (r.Pending.take i)).1 ++ r.Pending.drop (tfold now (r.Pending.take i)).1.length).length = r.Pending.length := by simp; omega
      refine Ev.decT (by omega) (Ev.to (by rw [idx_nat, hx]) ?_)
      have hsucc := tfold_succ (now := now) hp
      refine Ev.dec (fun hd => ?_) (fun hd => Ev.beq (fun h3 => ?_) (fun h3 => ?_))
      · refine Ev.chk (decide_eq_true (by rw [hlen]; simp; omega)) (Ev.letP ?_)
        rw [wi i (by omega)]
        refine hself _ hil ?_
        rw [hsucc]
        unfold tstep
        rw [if_pos hd, lay_pre l1 hil]
        simp
      · refine Ev.to (app_ok (by simp; omega)) ?_
        rw [wi i (by omega)]
        refine hself _ hil ?_
        rw [hsucc]
        unfold tstep
        rw [if_neg hd, if_pos h3]; rfl
      · obtain ⟨b1, b2, b3⟩ := bump_eq hnow hpv.1 hpv.2.1 h3
        refine Ev.to (mRequest_eq (by omega) (t.ps p hpm).1) (Ev.to (app_ok (by simp; omega)) (Ev.chk (decide_eq_true (by have := hpv.1; omega)) (Ev.letP (Ev.letP (Ev.chk (decide_eq_true (by rw [hlen]; simp; omega)) (Ev.letP ?_))))))
        simp only
        rw [wi i (by omega), b1, b2]
        refine hself _ hil ?_
        rw [hsucc]
        unfold tstep
        rw [if_neg hd, if_neg h3, lay_pre l1 hil]
        simp [bump]
    · have hie : i = r.Pending.length := by omega
      refine Ev.decF (by omega) (Ev.chk (decide_eq_true (by simp)) (Ev.ret ?_))
      rw [List.take_left, hie, List.take_length]
  · have v := rval_iff.1 v
    refine Ev.dec (fun h => hj _ (by simp [h])) (fun h => hj _ ?_)
    simp only [decide_eq_true_eq]
    constructor
    · intro h2; exact .inr (.inr h2)
    · rintro (h2 | h2 | h2)
      · exact absurd v h2
      · exact absurd h2 h
      · exact h2
  · refine hj _ ⟨fun _ => .inl (fun h => by rw [rval_iff.2 h] at v; cases v), fun _ => rfl⟩
theorem r24Tick_eq {fuel : Nat} (hf : 6000 < fuel) {r : Requester_} (t : RT r) {now : Int} : ref24_Tick fuel r now = some (rtick r now) := by
  apply Ev.isSome
  unfold ref24_Tick rtick
  have hl := t.le
  have hT : ref24_Time fuel now = some (decide (0 ≤ now ∧ now ≤ 17179869184)) := by
    unfold ref24_Time
    by_cases h0 : 0 ≤ now <;> simp [h0]
  refine Ev.to (r24Valid_eq hf t) ?_
  refine Ev.join (fun s => s = true ↔ ¬ RV r ∨ now < 0 ∨ 17179869184 < now) (fun s hs => Ev.ite (fun e => ?_) (fun e => ?_)) (fun j hj => Ev.not (Ev.ite (fun v => ?_) (fun v => ?_)))
  · rw [if_pos (hs.1 e)]
    exact Ev.to (r24Copy_eq hf t) (Ev.ret rfl)
  · have hn : ¬ (¬ RV r ∨ now < 0 ∨ 17179869184 < now) := fun h => by rw [hs.2 h] at e; cases e
    rw [if_neg hn]
    have v : RV r := Classical.byContradiction fun h => hn (.inl h)
    have hnow : ¬ (now < 0 ∨ 17179869184 < now) := fun h => hn (.inr h)
    have hl8 := v.2.2.2.2.1
    refine Ev.to (r24Copy_eq hf t) ?_
    refine Ev.count r.Pending.length (fun i s => s = (r.Pending, (i : Int), (tfold now (r.Pending.take i)).2.1, (tfold now (r.Pending.take i)).2.2, (tfold now (r.Pending.take i)).1)) (by omega) rfl (fun i s hi hI self hself => ?_)
    subst hI
    obtain ⟨l1, l2, l3⟩ := tfold_len now r.Pending i hi
    simp only
    by_cases hil : i < r.Pending.length
    · obtain ⟨p, hp, hpm⟩ := getq hil
      have hpv := (v.2.2.2.2.2 i p hp).1
      refine Ev.decT (by omega) (Ev.to (by rw [idx_nat, hp]) ?_)
      have hsucc := tfold_succ (now := now) hp
      refine Ev.dec (fun hd => ?_) (fun hd => Ev.beq (fun h3 => ?_) (fun h3 => ?_))
      · refine Ev.to (app_ok (by simp; omega)) ?_
        rw [wi i (by omega)]
        refine hself _ hil ?_
        rw [hsucc]
        unfold tstep
        rw [if_pos hd]; rfl
      · refine Ev.to (app_ok (by simp; omega)) ?_
        rw [wi i (by omega)]
        refine hself _ hil ?_
        rw [hsucc]
        unfold tstep
        rw [if_neg hd, if_pos h3]; rfl
      · obtain ⟨b1, b2, b3⟩ := bump_eq hnow hpv.1 hpv.2.1 h3
        refine Ev.to (rRequest_eq (by omega) (t.ps p hpm).1) (Ev.to (app_ok (by simp; omega)) ?_)
        rw [b3]
        refine Ev.chk (decide_eq_true (by have := hpv.1; omega)) (Ev.letP (Ev.letP (Ev.to (app_ok (by simp; omega)) ?_)))
        simp only
        rw [wi i (by omega), b1, b2]
        refine hself _ hil ?_
        rw [hsucc]
        unfold tstep
        rw [if_neg hd, if_neg h3]; rfl
    · have hie : i = r.Pending.length := by omega
      refine Ev.decF (by omega) (Ev.ret ?_)
      rw [hie, List.take_length]
  · have v := rval_iff.1 v
    refine Ev.to hT (hj _ ?_)
    rw [Bool.not_eq_true', decide_eq_false_iff_not]
    constructor
    · intro h; right; omega
    · rintro (h2 | h2)
      · exact absurd v h2
      · omega
  · refine hj _ ⟨fun _ => .inl (fun h => by rw [rval_iff.2 h] at v; cases v), fun _ => rfl⟩
end Lift
