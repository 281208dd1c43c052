/- Responders: Accept, Next and Done in closed form. No program in sight. -/
import Derived.Test.YtlfbpnoempdiiaaResp
import Derived.Test.YtlfbpnoempdiiaaMtyped
set_option linter.unusedVariables false
set_option linter.unusedSimpArgs false
namespace Lift
open Go
def fmem (l : List Memory_) (now : Int) : List Memory_ := l.filter (fun k => decide (now < k.Until))
def sfresh (r : Responder_) (now : Int) : Responder_ := ⟨r.Own, r.Queue, fmem r.Memory now⟩
theorem fmem_len (l : List Memory_) (now : Int) : (fmem l now).length ≤ l.length := List.length_filter_le _ _
theorem fmem_succ {l : List Memory_} {i : Nat} {x : Memory_} (now : Int) (h : l[i]? = some x) : fmem (l.take (i + 1)) now = fmem (l.take i) now ++ (if now < x.Until then [x] else []) := by
  unfold fmem
  rw [List.take_add_one, h, List.filter_append]
  by_cases c : now < x.Until <;> simp [c]
theorem take_q_succ {α : Type} {l : List α} {i : Nat} {x : α} (h : l[i]? = some x) : l.take (i + 1) = l.take i ++ [x] := by
  rw [List.take_add_one, h]; rfl
theorem copied_eq {fuel : Nat} {m : Message_} (h : m.Data.length ≤ 1000) : responder_copied fuel m = some m := by
  unfold responder_copied
  rw [clone_eq (by omega), bindP_some]
theorem fresh_eq {fuel : Nat} (hf : 6000 < fuel) {r : Responder_} (t : ST r) (now : Int) : responder_fresh fuel r now = some (sfresh r now) := by
  apply Ev.isSome
  unfold responder_fresh
  have hql := t.ql
  have hml := t.ml
  have e0 : mk 64 Message_.z 0 = some [] := by
    have := mk_ok (b := 64) (x := Message_.z) (n := 0) (by omega)
    simpa using this
  refine Ev.to e0 ?_
  rw [wi r.Queue.length (by omega)]
  refine Ev.chk (decide_eq_true (by omega)) (Ev.chk (decide_eq_true (by omega)) ?_)
  refine Ev.count r.Queue.length (fun i s => s = ((i : Int), r.Queue.take i)) (by omega) (by simp) (fun i s hi hI self hself => ?_)
  subst hI
  simp only
  by_cases hil : i < r.Queue.length
  · obtain ⟨x, hx, hxm⟩ := getq hil
    refine Ev.decT (by omega) (Ev.to (by rw [idx_nat, hx]) (Ev.to (copied_eq (t.qs x hxm).le) (Ev.to (app_ok (by simp; omega)) ?_)))
    rw [wi i (by omega)]
    refine hself _ hil ?_
    rw [take_q_succ hx]; rfl
  · refine Ev.decF (by omega) (Ev.to (clonek_eq (by omega)) ?_)
    have hq : r.Queue.take i = r.Queue := List.take_of_length_le (by omega)
    rw [hq]
    refine Ev.count r.Memory.length (fun i (s : Nat × Int × List Memory_) => s.2.1 = (i : Int) ∧ s.2.2.length = r.Memory.length ∧ s.1 = (fmem (r.Memory.take i) now).length ∧ s.2.2.take s.1 = fmem (r.Memory.take i) now ∧ s.2.2.drop i = r.Memory.drop i) (by omega) (by simp [fmem]) (fun i s hi hI self hself => ?_)
    obtain ⟨h1, h2, h3, h4, h5⟩ := hI
    rw [h1]
    have hle : s.1 ≤ i := by
      have := fmem_len (r.Memory.take i) now
      rw [List.length_take] at this
      omega
    by_cases hil : i < r.Memory.length
    · obtain ⟨x, hx, hxm⟩ := getq hil
      have hx2 : s.2.2[i]? = some x := by
        have := congrArg (fun l => l[0]?) h5
        simpa [List.getElem?_drop, hx] using this
      obtain ⟨tx, tr, tu⟩ := t.ms x hxm
      refine Ev.decT (by omega) (Ev.to (by rw [idx_nat, hx2]) (Ev.dec (fun hu => ?_) (fun hu => ?_)))
      · refine Ev.to (copied_eq tx.le) (Ev.to (clone_eq (by have := tr.1; omega)) (Ev.letP (Ev.letP ?_)))
        refine Ev.chk (decide_eq_true (by simp only [List.length_singleton]; omega)) (Ev.letP ?_)
        rw [wi i (by omega)]
        have el : lay s.2.2 s.1 [x] = s.2.2.take s.1 ++ [x] ++ s.2.2.drop (s.1 + 1) := rfl
        refine hself _ hil ⟨rfl, ?_, ?_, ?_, ?_⟩
        · show (lay s.2.2 s.1 [x]).length = _
          rw [lay_len (by simp only [List.length_singleton]; omega), h2]
        · show s.1 + 1 = _
          rw [fmem_succ now hx, if_pos hu, List.length_append, ← h3]; rfl
        · show (lay s.2.2 s.1 [x]).take (s.1 + 1) = _
          rw [el, fmem_succ now hx, if_pos hu, h4, List.take_append_of_le_length (by simp [← h3]), List.take_of_length_le (by simp [← h3])]
        · show (lay s.2.2 s.1 [x]).drop (i + 1) = _
          have hlen : (s.2.2.take s.1 ++ [x]).length = s.1 + 1 := by rw [List.length_append, List.length_take, List.length_singleton]; omega
          rw [el, List.drop_append, hlen, List.drop_of_length_le (by omega), List.nil_append, List.drop_drop, show s.1 + 1 + (i + 1 - (s.1 + 1)) = i + 1 by omega, ← List.drop_drop, h5, List.drop_drop]
      · rw [wi i (by omega)]
        refine hself _ hil ⟨rfl, h2, ?_, ?_, ?_⟩
        · rw [fmem_succ now hx, if_neg hu, List.append_nil]; exact h3
        · rw [fmem_succ now hx, if_neg hu, List.append_nil]; exact h4
        · show s.2.2.drop (i + 1) = _
          rw [← List.drop_drop, h5, List.drop_drop]
    · refine Ev.decF (by omega) (Ev.chk (decide_eq_true (by omega)) (Ev.ret ?_))
      rw [h4, List.take_of_length_le (by omega)]; rfl
theorem r25Fresh_eq {fuel : Nat} (hf : 6000 < fuel) {r : Responder_} (t : ST r) (now : Int) : ref25_Fresh fuel r now = some (sfresh r now) := by
  apply Ev.isSome
  unfold ref25_Fresh
  have hql := t.ql
  have hml := t.ml
  refine Ev.count r.Queue.length (fun i s => s = ((i : Int), r.Queue.take i)) (by omega) (by simp) (fun i s hi hI self hself => ?_)
  subst hI
  simp only
  by_cases hil : i < r.Queue.length
  · obtain ⟨x, hx, hxm⟩ := getq hil
    have := (t.qs x hxm).le
    refine Ev.decT (by omega) (Ev.to (by rw [idx_nat, hx]) (Ev.to (app_ok (by simp; omega)) (Ev.to (app_ok (by simp; omega)) (Ev.letP ?_))))
    rw [wi i (by omega)]
    refine hself _ hil ?_
    rw [take_q_succ hx]; rfl
  · refine Ev.decF (by omega) ?_
    have hq : r.Queue.take i = r.Queue := List.take_of_length_le (by omega)
    rw [hq]
    refine Ev.count r.Memory.length (fun i s => s = ((i : Int), fmem (r.Memory.take i) now)) (by omega) (by simp [fmem]) (fun i s hi hI self hself => ?_)
    subst hI
    simp only
    by_cases hil : i < r.Memory.length
    · obtain ⟨x, hx, hxm⟩ := getq hil
      obtain ⟨tx, tr, tu⟩ := t.ms x hxm
      have h1 := tx.le
      have h2 := tr.1
      have hlen := fmem_len (r.Memory.take i) now
      rw [List.length_take] at hlen
      have hxx : idx r.Memory (i : Int) = some x := by rw [idx_nat, hx]
      refine Ev.decT (by omega) (Ev.to hxx (Ev.dec (fun hu => Ev.letP ?_) (fun hu => ?_)))
      · rw [wi i (by omega)]
        refine hself _ hil ?_
        rw [fmem_succ now hx, if_neg (by omega), List.append_nil]; rfl
      · refine Ev.to hxx (Ev.to (app_ok (by simp; omega)) (Ev.to (app_ok (by simp; omega)) (Ev.letP (Ev.letP (Ev.to (app_ok (by simp only [List.length_singleton]; omega)) (Ev.letP ?_))))))
        rw [wi i (by omega)]
        refine hself _ hil ?_
        rw [fmem_succ now hx, if_pos (by omega)]; rfl
    · refine Ev.decF (by omega) (Ev.ret ?_)
      rw [List.take_of_length_le (by omega)]; rfl
theorem sfresh_ST {r : Responder_} (t : ST r) (now : Int) : ST (sfresh r now) :=
  ⟨t.own, t.qs, fun k hk => t.ms k (List.mem_filter.1 hk).1, t.ql, Nat.le_trans (fmem_len _ _) t.ml⟩
/-! ### Accept -/
open Classical in
noncomputable def sacc (r : Responder_) (b : List Int) (now : Int) : Responder_ × List Int × Int :=
  if ¬ SV r then (Responder_.z, [], 1) else if now < 0 ∨ 17179869184 < now then (Responder_.z, [], 2) else
  if (mparse false b).2 ≠ 0 then (Responder_.z, [], (mparse false b).2) else
  if (mparse false b).1.To ≠ r.Own then (Responder_.z, [], 13) else
  match (fmem r.Memory now).find? (fun k => decide (isame k.Request (mparse false b).1)) with
  | some k => (sfresh r now, k.Reply, 0)
  | none => if ∃ q ∈ r.Queue, isame q (mparse false b).1 then (sfresh r now, [], 0) else
    if r.Queue.length = 8 ∨ r.Queue.length + (fmem r.Memory now).length = 16 then (sfresh r now, (mres (mreply (mparse false b).1 192 []).1).1, 0) else
    ({ sfresh r now with Queue := r.Queue ++ [(mparse false b).1] }, [], 0)
theorem mreply_res {m : Message_} (h : MV m ∧ m.Function % 2 = 0) (code : Int) {data : List Int} (hd : data.length ≤ 240) : (mreply m code data).2 = 0 ∧ (mres (mreply m code data).1).2 = 0 := by
  unfold mreply
  rw [if_pos ⟨h.1, h.2, hd⟩]
  refine ⟨rfl, mres_ok.2 ⟨?_, ?_⟩⟩
  · have hv := h.1
    have h2 := h.2
    simp only [MV] at hv ⊢
    omega
  · have h2 := h.2
    simp only; omega
theorem find_none {l : List Memory_} {p : Memory_ → Bool} (h : ∀ x ∈ l, p x = false) : l.find? p = none := by
  rw [List.find?_eq_none]; intro x hx; simp [h x hx]
theorem find_some {l : List Memory_} {p : Memory_ → Bool} {i : Nat} {x : Memory_} (hx : l[i]? = some x) (hp : p x = true) (hb : ∀ (j : Nat) y, j < i → l[j]? = some y → p y = false) : l.find? p = some x := by
  rw [List.find?_eq_some_iff_getElem]
  have hi := lt_len hx
  rw [List.getElem?_eq_getElem hi] at hx
  cases hx
  exact ⟨hp, i, hi, rfl, fun j hj => by simpa using hb j l[j] hj (List.getElem?_eq_getElem (by omega))⟩
theorem sV_len {r : Responder_} (v : SV r) : r.Queue.length ≤ 8 ∧ r.Queue.length + r.Memory.length ≤ 16 := ⟨v.2.2.1, v.2.2.2.1⟩
/-- The loop of Accept that looks in the memory. -/
theorem idxk_ev {fuel : Nat} (hf : 6000 < fuel) {l : List Memory_} {m : Message_} (hm : m.Data.length ≤ 1000) (hl : l.length ≤ 1000) : Ev (slices_IndexFunc_api_Memory_api_Memory_responder_Accept_1 fuel l m) (fun i => (i = -1 ∧ l.find? (fun k => decide (isame k.Request m)) = none) ∨ ∃ (n : Nat) (k : Memory_), i = (n : Int) ∧ l[n]? = some k ∧ l.find? (fun k => decide (isame k.Request m)) = some k) := by
  unfold slices_IndexFunc_api_Memory_api_Memory_responder_Accept_1
  have hq : ∀ k : Memory_, responder_Accept_1_2 fuel k m = some (decide (isame k.Request m)) := by
    intro k
    unfold responder_Accept_1_2
    rw [is_eq hf hm, bindP_some]
    congr 1
    exact decide_eq_decide.2 ⟨isame.symm, isame.symm⟩
  refine Ev.find (l := l) (fun (k : Memory_) => decide (isame k.Request m)) (by omega) (fun i x hx hi hp self hs => ?_) (fun i x hx hi hp hb self => ?_) (fun hn self => ?_)
  · refine Ev.decT (by omega) (Ev.to (by rw [idx_nat, hx]) (Ev.to (hq x) (Ev.iteF hp ?_)))
    rw [wi i (by omega)]; exact hs
  · exact Ev.decT (by omega) (Ev.to (by rw [idx_nat, hx]) (Ev.to (hq x) (Ev.iteT hp (Ev.ret (.inr ⟨i, x, rfl, hx, find_some hx hp hb⟩)))))
  · exact Ev.decF (by omega) (Ev.ret (.inl ⟨rfl, find_none hn⟩))
theorem answer_eq {fuel : Nat} (hf : 6000 < fuel) {m : Message_} (t : MT m) {code : Int} (hc : byte code) {data : List Int} (hd : data.length ≤ 1000) (hb : ∀ x ∈ data, byte x) : responder_answer fuel m code data = some (if (mreply m code data).2 ≠ 0 then ([], (mreply m code data).2) else mres (mreply m code data).1) := by
  apply Ev.isSome
  unfold responder_answer
  refine Ev.to (mReply_eq t code hd) (Ev.bne (fun h => Ev.ret (by rw [if_pos h])) (fun h => Ev.to (mResponse_eq (by omega) (mreply_MT t hc hb).1) (Ev.ret ?_)))
  rw [if_neg (by simpa using h)]
theorem sAcc_eq {fuel : Nat} (hf : 6000 < fuel) {r : Responder_} (t : ST r) {b : List Int} (hb : Small b) (now : Int) : responder_Accept fuel r b now = some (sacc r b now) := by
  apply Ev.isSome
  unfold responder_Accept sacc
  refine Ev.to (sValid_eq hf t) (Ev.not (Ev.ite (fun v => ?_) (fun v => Ev.ret (by rw [if_pos]; intro h; rw [sval_iff.2 h] at v; cases v))))
  have v := sval_iff.1 v
  rw [if_neg (fun h => h v)]
  obtain ⟨v1, v2⟩ := sV_len v
  refine Ev.join (fun s => s = true ↔ now < 0 ∨ 17179869184 < now) (fun s hs => Ev.ite (fun e => Ev.ret (by rw [if_pos (hs.1 e)])) (fun e => ?_)) (fun j hj => Ev.dec (fun h => hj _ ⟨fun _ => .inl h, fun _ => rfl⟩) (fun h => hj _ ?_))
  rotate_left
  · rw [decide_eq_true_iff]
    constructor
    · intro h2; exact .inr (by omega)
    · rintro (h2 | h2)
      · exact absurd h2 h
      · omega
  rw [if_neg (fun h => by rw [hs.2 h] at e; cases e)]
  refine Ev.to (mpar_eq (by omega) hb) (Ev.bne (fun h => Ev.ret (by rw [if_pos h])) (fun h0 => ?_))
  rw [if_neg (fun h => h h0)]
  have tm := mparse_MT false (l := b) hb.2
  obtain ⟨_, w1, w2⟩ := mcanon false hb.2 h0
  refine Ev.bne (fun h => Ev.ret (by rw [if_pos h])) (fun h1 => ?_)
  rw [if_neg (fun h => h h1)]
  refine Ev.to (fresh_eq hf t now) ?_
  have hfl := fmem_len r.Memory now
  refine Ev.bind (idxk_ev hf (l := (sfresh r now).Memory) tm.le (by show (fmem r.Memory now).length ≤ 1000; omega)) (fun i hi => ?_)
  rcases hi with ⟨rfl, hn⟩ | ⟨n, k, rfl, hk, hs⟩
  · rw [show (fmem r.Memory now).find? (fun k => decide (isame k.Request (mparse false b).1)) = none from hn]
    refine Ev.decF (by omega) (Ev.bind (idxm_ev hf (l := (sfresh r now).Queue) tm.le (by show r.Queue.length ≤ 1000; omega)) (fun c hc => ?_))
    have hc' : c = true ↔ ∃ q ∈ r.Queue, isame q (mparse false b).1 := hc.trans ⟨fun ⟨q, hq, h⟩ => ⟨q, hq, h.symm⟩, fun ⟨q, hq, h⟩ => ⟨q, hq, h.symm⟩⟩
    refine Ev.ite (fun e => Ev.ret (by simp only; rw [if_pos (hc'.1 e)])) (fun e => ?_)
    have hne : ¬ ∃ q ∈ r.Queue, isame q (mparse false b).1 := fun h => by rw [hc'.2 h] at e; cases e
    simp only
    rw [if_neg hne]
    refine Ev.join (fun s => s = true ↔ r.Queue.length = 8 ∨ r.Queue.length + (fmem r.Memory now).length = 16) (fun s hs => Ev.ite (fun e => ?_) (fun e => ?_)) (fun j hj => Ev.beq (fun h => hj _ ⟨fun _ => .inl (by have h : (r.Queue.length : Int) = 8 := h; omega), fun _ => rfl⟩) (fun h => ?_))
    · obtain ⟨a1, a2⟩ := mreply_res ⟨w1, w2⟩ 192 (data := []) (by simp)
      refine Ev.to (answer_eq hf tm (show byte 192 from ⟨by decide, by decide⟩) (by simp) (fun x hx => (by cases hx))) ?_
      rw [if_neg (fun h => h a1)]
      refine Ev.bneF a2 (Ev.ret ?_)
      rw [if_pos (hs.1 e)]
    · rw [if_neg (fun h => by rw [hs.2 h] at e; cases e)]
      refine Ev.to (copied_eq tm.le) (Ev.to (app_ok (l := r.Queue) (by simp; omega)) (Ev.letP (Ev.ret rfl)))
    · have h' : ¬ (r.Queue.length : Int) = 8 := h
      have ew : IntKind.i64.wrap (((sfresh r now).Queue.length : Int) + ((sfresh r now).Memory.length : Int)) = (r.Queue.length : Int) + ((fmem r.Memory now).length : Int) := wr (by show _ ≤ (r.Queue.length : Int) + ((fmem r.Memory now).length : Int) ∧ (r.Queue.length : Int) + ((fmem r.Memory now).length : Int) ≤ _; omega)
      rw [ew]
      refine hj _ ?_
      rw [beq_iff_eq]
      omega
  · rw [show (fmem r.Memory now).find? (fun k => decide (isame k.Request (mparse false b).1)) = some k from hs]
    have hkm : k ∈ fmem r.Memory now := List.mem_of_getElem? hk
    have hks := (t.ms k (List.mem_filter.1 hkm).1).2.1.1
    refine Ev.decT (by omega) (Ev.to (by rw [idx_nat]; exact hk) (Ev.to (clone_eq (by omega)) (Ev.letP (Ev.ret rfl))))
theorem r24Time_eq (fuel : Nat) (now : Int) : ref24_Time fuel now = some (decide (¬ (now < 0 ∨ 17179869184 < now))) := by
  unfold ref24_Time
  by_cases h : now < 0
  · rw [show decide (now ≥ 0) = false by simp; omega, iteP_false]; simp [h]
  · rw [show decide (now ≥ 0) = true by simp; omega, iteP_true, letP_eq]
    congr 1
    rw [decide_eq_decide]; omega
theorem r25Acc_eq {fuel : Nat} (hf : 6000 < fuel) {r : Responder_} (t : ST r) {b : List Int} (hb : Small b) (now : Int) : ref25_Accept fuel r b now = some (sacc r b now) := by
  apply Ev.isSome
  unfold ref25_Accept sacc
  refine Ev.to (r25Valid_eq hf t) (Ev.letP (Ev.not (Ev.ite (fun v => ?_) (fun v => Ev.ret (by rw [if_pos]; intro h; rw [sval_iff.2 h] at v; cases v)))))
  have v := sval_iff.1 v
  rw [if_neg (fun h => h v)]
  obtain ⟨v1, v2⟩ := sV_len v
  refine Ev.to (r24Time_eq fuel now) (Ev.letP (Ev.not (Ev.dec (fun hn => ?_) (fun hn => Ev.ret (by rw [if_pos (Classical.not_not.1 hn)])))))
  rw [if_neg hn]
  refine Ev.to (rpar_eq (by omega) hb) (Ev.bne (fun h => Ev.ret (by rw [if_pos h])) (fun h0 => ?_))
  rw [if_neg (fun h => h h0)]
  have tm := mparse_MT false (l := b) hb.2
  obtain ⟨_, w1, w2⟩ := mcanon false hb.2 h0
  refine Ev.bne (fun h => Ev.ret (by rw [if_pos h])) (fun h1 => ?_)
  rw [if_neg (fun h => h h1)]
  refine Ev.to (r25Fresh_eq hf t now) ?_
  have hfl := fmem_len r.Memory now
  refine Ev.find (l := fmem r.Memory now) (fun (k : Memory_) => decide (isame k.Request (mparse false b).1)) (by omega) (fun i x hx hi hp self hs => ?_) (fun i x hx hi hp hbe self => ?_) (fun hn2 self => ?_)
  · have tx := t.ms x (List.mem_filter.1 (List.mem_of_getElem? hx)).1
    refine Ev.decT (by show (i : Int) < ((fmem r.Memory now).length : Int); omega) (Ev.to (a := x) (by rw [idx_nat]; exact hx) (Ev.to (rs_eq tx.1.da tm.da) (Ev.iteF hp (Ev.letP ?_))))
    rw [wi i (by omega)]; exact hs
  · have tx := t.ms x (List.mem_filter.1 (List.mem_of_getElem? hx)).1
    have htl := tx.2.1.1
    rw [find_some (p := fun (k : Memory_) => decide (isame k.Request (mparse false b).1)) hx hp hbe]
    exact Ev.decT (by show (i : Int) < ((fmem r.Memory now).length : Int); omega) (Ev.to (a := x) (by rw [idx_nat]; exact hx) (Ev.to (rs_eq tx.1.da tm.da) (Ev.iteT hp (Ev.to (a := x) (by rw [idx_nat]; exact hx) (Ev.to (app_ok (by simp; omega)) (Ev.letP (Ev.ret rfl)))))))
  · rw [find_none (p := fun (k : Memory_) => decide (isame k.Request (mparse false b).1)) hn2]
    simp only
    refine Ev.decF (by show ¬ ((fmem r.Memory now).length : Int) < ((fmem r.Memory now).length : Int); omega) ?_
    refine Ev.find (l := r.Queue) (fun (q : Message_) => decide (isame q (mparse false b).1)) (by omega) (fun i x hx hi hp self hs => ?_) (fun i x hx hi hp hbe self => ?_) (fun hn3 self => ?_)
    · have tx := t.qs x (List.mem_of_getElem? hx)
      refine Ev.decT (by show (i : Int) < (r.Queue.length : Int); omega) (Ev.to (a := x) (by rw [idx_nat]; exact hx) (Ev.to (rs_eq tx.da tm.da) (Ev.iteF hp (Ev.letP ?_))))
      rw [wi i (by omega)]; exact hs
    · have tx := t.qs x (List.mem_of_getElem? hx)
      refine Ev.decT (by show (i : Int) < (r.Queue.length : Int); omega) (Ev.to (a := x) (by rw [idx_nat]; exact hx) (Ev.to (rs_eq tx.da tm.da) (Ev.iteT hp (Ev.letP (Ev.ret ?_)))))
      rw [if_pos ⟨x, List.mem_of_getElem? hx, of_decide_eq_true hp⟩]
    · rw [if_neg (fun ⟨q, hq, h⟩ => by have := hn3 q hq; simp [h] at this)]
      refine Ev.decF (by show ¬ (r.Queue.length : Int) < (r.Queue.length : Int); omega) ?_
      refine Ev.join (fun s => s = true ↔ r.Queue.length = 8 ∨ r.Queue.length + (fmem r.Memory now).length = 16) (fun s hs => Ev.ite (fun e => ?_) (fun e => ?_)) (fun j hj => Ev.dec (fun h => hj _ ⟨fun _ => .inl (by have h : (r.Queue.length : Int) ≥ 8 := h; omega), fun _ => rfl⟩) (fun h => ?_))
      · rw [if_pos (hs.1 e)]
        refine Ev.to (rReply_eq (by omega) tm 192 (by simp)) (Ev.to (rResponse_eq (by omega) (mreply_MT tm (show byte 192 from ⟨by decide, by decide⟩) (fun x hx => (by cases hx))).1) (Ev.letP (Ev.ret rfl)))
      · rw [if_neg (fun h => by rw [hs.2 h] at e; cases e)]
        refine Ev.to (app_ok (l := r.Queue) (by simp; omega)) (Ev.letP (Ev.ret rfl))
      · have h' : ¬ (r.Queue.length : Int) ≥ 8 := h
        have ew : IntKind.i64.wrap (((sfresh r now).Queue.length : Int) + ((sfresh r now).Memory.length : Int)) = (r.Queue.length : Int) + ((fmem r.Memory now).length : Int) := wr (by show _ ≤ (r.Queue.length : Int) + ((fmem r.Memory now).length : Int) ∧ (r.Queue.length : Int) + ((fmem r.Memory now).length : Int) ≤ _; omega)
        show Ev (j (decide (IntKind.i64.wrap (((sfresh r now).Queue.length : Int) + ((sfresh r now).Memory.length : Int)) ≥ 16))) _
        rw [ew]
        refine hj _ ?_
        rw [decide_eq_true_iff]
        omega
end Lift
