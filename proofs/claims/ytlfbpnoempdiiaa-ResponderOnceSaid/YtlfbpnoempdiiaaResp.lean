/- Responders: what a valid one is: closed forms. No program in sight. -/
import Derived.Test.YtlfbpnoempdiiaaCodes2
import Derived.Test.YtlfbpnoempdiiaaMcanon
import Derived.Test.YtlfbpnoempdiiaaMparser
set_option linter.unusedVariables false
set_option linter.unusedSimpArgs false
namespace Lift
open Go
theorem Ev.isSome {α : Type} {x : Option α} {a : α} (h : Ev x (fun b => b = a)) : x = some a := by obtain ⟨b, e, rfl⟩ := h; exact e
theorem getq {α : Type} {l : List α} {i : Nat} (h : i < l.length) : ∃ x, l[i]? = some x ∧ x ∈ l := ⟨l[i], List.getElem?_eq_getElem h, List.getElem_mem h⟩
/-- One request is a copy of another one. -/
def isame (a b : Message_) : Prop := a.To = b.To ∧ a.From = b.From ∧ a.Function = b.Function ∧ a.Command = b.Command ∧ a.ToUnit = b.ToUnit ∧ a.FromUnit = b.FromUnit ∧ a.Sequence = b.Sequence ∧ a.Data = b.Data
instance (a b : Message_) : Decidable (isame a b) := by unfold isame; infer_instance
theorem isame.symm {a b : Message_} (h : isame a b) : isame b a := ⟨h.1.symm, h.2.1.symm, h.2.2.1.symm, h.2.2.2.1.symm, h.2.2.2.2.1.symm, h.2.2.2.2.2.1.symm, h.2.2.2.2.2.2.1.symm, h.2.2.2.2.2.2.2.symm⟩
theorem eqb_eq {fuel : Nat} (hf : 6000 < fuel) {a b : List Int} (h : a.length ≤ 6000) : slices_Equal_byte_byte fuel a b = some (decide (a = b)) := by
  unfold slices_Equal_byte_byte
  by_cases hl : a.length = b.length
  · rw [show ((a.length : Int) != (b.length : Int)) = false by simp [hl], iteP_false]
    refine same_loop hl (by omega) (by omega) (fun i x y hx hy k => ?_) (fun k => by simp)
    have hi := lt_len hx
    simp only [show ((i : Int) < (a.length : Int)) by omega, decide_true, iteP_true, idx_nat, hx, hy, bindP_some, wi i (by omega), iteP_eq]
    by_cases e : x = y <;> simp [e]
  · rw [show ((a.length : Int) != (b.length : Int)) = true by simp; omega, iteP_true]
    have : a ≠ b := fun e => hl (by rw [e])
    simp [this]
theorem is_eq {fuel : Nat} (hf : 6000 < fuel) {a b : Message_} (h : a.Data.length ≤ 1000) : responder_request_is fuel a b = some (decide (isame a b)) := by
  unfold responder_request_is
  rw [eqb_eq hf (by omega)]
  simp only [isame, ibeq]
  by_cases h1 : a.To = b.To
  rotate_left
  · simp [h1]
  by_cases h2 : a.From = b.From
  rotate_left
  · simp [h1, h2]
  by_cases h3 : a.Function = b.Function
  rotate_left
  · simp [h1, h2, h3]
  by_cases h4 : a.Command = b.Command
  rotate_left
  · simp [h1, h2, h3, h4]
  by_cases h5 : a.ToUnit = b.ToUnit
  rotate_left
  · simp [h1, h2, h3, h4, h5]
  by_cases h6 : a.FromUnit = b.FromUnit
  rotate_left
  · simp [h1, h2, h3, h4, h5, h6]
  by_cases h7 : a.Sequence = b.Sequence
  rotate_left
  · simp [h1, h2, h3, h4, h5, h6, h7]
  simp [h1, h2, h3, h4, h5, h6, h7]
theorem rs_eq {fuel : Nat} {a b : Message_} (ha : ∀ x ∈ a.Data, byte x) (hb : ∀ x ∈ b.Data, byte x) : ref25_Same fuel a b = some (decide (isame a b)) := by
  unfold ref25_Same
  rw [toStr_byte ha, toStr_byte hb]
  simp only [isame, ibeq]
  by_cases h1 : a.To = b.To
  rotate_left
  · simp [h1]
  by_cases h2 : a.From = b.From
  rotate_left
  · simp [h1, h2]
  by_cases h3 : a.Function = b.Function
  rotate_left
  · simp [h1, h2, h3]
  by_cases h4 : a.Command = b.Command
  rotate_left
  · simp [h1, h2, h3, h4]
  by_cases h5 : a.ToUnit = b.ToUnit
  rotate_left
  · simp [h1, h2, h3, h4, h5]
  by_cases h6 : a.FromUnit = b.FromUnit
  rotate_left
  · simp [h1, h2, h3, h4, h5, h6]
  by_cases h7 : a.Sequence = b.Sequence
  rotate_left
  · simp [h1, h2, h3, h4, h5, h6, h7]
  by_cases h8 : a.Data = b.Data <;> simp [h1, h2, h3, h4, h5, h6, h7, h8]
def KT (k : Memory_) : Prop := MT k.Request ∧ Small k.Reply ∧ okI .i64 k.Until
structure ST (r : Responder_) : Prop where
  own : byte r.Own
  qs : ∀ m ∈ r.Queue, MT m
  ms : ∀ k ∈ r.Memory, KT k
  ql : r.Queue.length ≤ 100
  ml : r.Memory.length ≤ 100
/-- The requests that wait and those that are remembered. -/
def allq (r : Responder_) : List Message_ := r.Queue ++ r.Memory.map (fun k => k.Request)
theorem allq_len (r : Responder_) : (allq r).length = r.Queue.length + r.Memory.length := by simp [allq]
theorem ST.all {r : Responder_} (t : ST r) : ∀ m ∈ allq r, MT m := by
  intro m hm
  rcases List.mem_append.1 hm with h | h
  · exact t.qs m h
  · obtain ⟨k, hk, rfl⟩ := List.mem_map.1 h
    exact (t.ms k hk).1
def MemV (k : Memory_) : Prop := (mparse true k.Reply).2 = 0 ∧ 0 ≤ k.Until ∧ MM k.Request (mparse true k.Reply).1
def ReqV (own : Int) (m : Message_) : Prop := (MV m ∧ m.Function % 2 = 0) ∧ m.To = own
def SV (r : Responder_) : Prop := 8 ≤ r.Own ∧ r.Own ≤ 119 ∧ r.Queue.length ≤ 8 ∧ r.Queue.length + r.Memory.length ≤ 16 ∧ (∀ (i : Nat) k, r.Memory[i]? = some k → MemV k) ∧
  ∀ (i : Nat) m, (allq r)[i]? = some m → ReqV r.Own m ∧ ∀ (j : Nat) q, j < i → (allq r)[j]? = some q → ¬ isame q m
theorem mreq_ok {m : Message_} : (mreq m).2 = 0 ↔ MV m ∧ m.Function % 2 = 0 := by
  unfold mreq; split
  · rename_i h; exact ⟨fun _ => h, fun _ => rfl⟩
  · rename_i h; exact ⟨fun h0 => by simp at h0, fun h1 => absurd h1 h⟩
theorem mres_ok {m : Message_} : (mres m).2 = 0 ↔ MV m ∧ m.Function % 2 = 1 := by
  unfold mres; split
  · rename_i h; exact ⟨fun _ => h, fun _ => rfl⟩
  · rename_i h; exact ⟨fun h0 => by simp at h0, fun h1 => absurd h1 h⟩
theorem mres_parse {l : List Int} (hl : ∀ x ∈ l, byte x) (h : (mparse true l).2 = 0) : mres (mparse true l).1 = (l, 0) := by
  obtain ⟨h1, h2, h3⟩ := mcanon true hl h
  unfold mres
  rw [if_pos ⟨h2, h3⟩, h1]
/-- The loop that looks for a copy. -/
theorem idxm_ev {fuel : Nat} (hf : 6000 < fuel) {l : List Message_} {m : Message_} (hm : m.Data.length ≤ 1000) (hl : l.length ≤ 1000) : Ev (slices_ContainsFunc_api_Message_api_Message_responder_request_is fuel l m) (fun b => b = true ↔ ∃ q ∈ l, isame m q) := by
  unfold slices_ContainsFunc_api_Message_api_Message_responder_request_is
  refine Ev.bind (P := fun r => 0 ≤ r ↔ ∃ q ∈ l, isame m q) ?_ (fun r hr => Ev.letP (Ev.ret (by simpa using hr)))
  unfold slices_IndexFunc_api_Message_api_Message_responder_request_is
  refine Ev.find (l := l) (fun (q : Message_) => decide (isame m q)) (by omega) (fun i x hx hi hp self hs => ?_) (fun i x hx hi hp _ self => ?_) (fun hn self => ?_)
  · refine Ev.decT (by omega) (Ev.to (by rw [idx_nat, hx]) (Ev.to (is_eq hf hm) (Ev.iteF hp ?_)))
    rw [wi i (by omega)]; exact hs
  · exact Ev.decT (by omega) (Ev.to (by rw [idx_nat, hx]) (Ev.to (is_eq hf hm) (Ev.iteT hp (Ev.ret ⟨fun _ => ⟨x, List.mem_of_getElem? hx, of_decide_eq_true hp⟩, fun _ => by omega⟩))))
  · refine Ev.decF (by omega) (Ev.ret ⟨fun h => by omega, fun ⟨q, hq, h⟩ => ?_⟩)
    have := hn q hq
    simp [h] at this
theorem clonem_eq {fuel : Nat} {l : List Message_} (h : l.length ≤ 1000) : slices_Clone_api_Message_api_Message fuel l = some l := by
  unfold slices_Clone_api_Message_api_Message
  rw [app_ok (by simp; omega)]; simp
theorem clonek_eq {fuel : Nat} {l : List Memory_} (h : l.length ≤ 1000) : slices_Clone_api_Memory_api_Memory fuel l = some l := by
  unfold slices_Clone_api_Memory_api_Memory
  rw [app_ok (by simp; omega)]; simp
theorem take_map_succ {l : List Memory_} {i : Nat} {k : Memory_} (h : l[i]? = some k) : (l.take (i + 1)).map (fun k => k.Request) = (l.take i).map (fun k => k.Request) ++ [k.Request] := by
  rw [List.take_add_one, h, List.map_append]; rfl
theorem sValid_ev {fuel : Nat} (hf : 6000 < fuel) {r : Responder_} (t : ST r) : Ev (responder_Valid fuel r) (fun b => b = true ↔ SV r) := by
  unfold responder_Valid
  have hql := t.ql
  have hml := t.ml
  have hal := allq_len r
  refine Ev.join (fun s => (s = true → ¬ SV r) ∧ (s = false → 8 ≤ r.Own ∧ r.Own ≤ 119 ∧ r.Queue.length ≤ 8 ∧ r.Queue.length + r.Memory.length ≤ 16)) (fun s hs => Ev.ite (fun h => Ev.ret ⟨fun h => (by cases h), fun v => absurd v (hs.1 h)⟩) (fun h => ?_)) (fun j hj => ?_)
  · obtain ⟨h1, h2, h3, h4⟩ := hs.2 h
    refine Ev.to (clonem_eq (by omega)) ?_
    refine Ev.count r.Memory.length (fun i s => s = ((i : Int), r.Queue ++ (r.Memory.take i).map (fun k => k.Request)) ∧ ∀ (k : Nat) x, k < i → r.Memory[k]? = some x → MemV x) (by omega) ⟨by simp, fun k x hk => by omega⟩ (fun i s hi hI self hself => ?_)
    obtain ⟨rfl, hb⟩ := hI
    simp only
    by_cases hil : i < r.Memory.length
    · obtain ⟨x, hx, hxm⟩ := getq hil
      obtain ⟨tx, tr, tu⟩ := t.ms x hxm
      have no : ¬ MemV x → Ev (some false) (fun b => b = true ↔ SV r) := fun h => Ev.ret ⟨fun h => (by cases h), fun v => absurd (v.2.2.2.2.1 i x hx) h⟩
      have tp := mparse_MT true (l := x.Reply) tr.2
      refine Ev.decT (by omega) (Ev.to (by rw [idx_nat, hx]) (Ev.to (mpas_eq (by omega) tr) ?_))
      refine Ev.join (fun s => (s = true → ¬ MemV x) ∧ (s = false → MemV x)) (fun s hs => Ev.ite (fun e => no (hs.1 e)) (fun e => ?_)) (fun j2 hj2 => Ev.bne (fun h0 => hj2 _ ⟨fun _ v => h0 v.1, fun e => (by cases e)⟩) (fun h0 => Ev.dec (fun hu => hj2 _ ⟨fun _ v => by have := v.2.1; omega, fun e => (by cases e)⟩) (fun hu => Ev.to (mMatches_eq tx tp) (hj2 _ ⟨fun e v => ?_, fun e => ?_⟩))))
      · have hv := hs.2 e
        refine Ev.to (mResponse_eq (by omega) tp) ?_
        rw [mres_parse tr.2 hv.1]
        refine Ev.join (fun s => s = false) (fun s hs3 => Ev.iteF hs3 ?_) (fun j3 hj3 => Ev.bneF rfl (Ev.to (eqb_eq hf (by have := tr.1; simp only; omega)) (hj3 _ (by simp))))
        refine Ev.to (app_ok (by simp; omega)) ?_
        rw [wi i (by omega)]
        refine hself _ hil ⟨?_, fun k y hk hy => ?_⟩
        · rw [take_map_succ hx, List.append_assoc]; rfl
        · rcases Nat.lt_succ_iff_lt_or_eq.1 hk with h5 | rfl
          · exact hb k y h5 hy
          · rw [hx] at hy; cases hy; exact hv
      · have := v.2.2
        simp [this] at e
      · have : MM x.Request (mparse true x.Reply).1 := by simpa using e
        exact ⟨h0, by omega, this⟩
    · -- all memory is as it should be; now the requests
      refine Ev.decF (by omega) ?_
      have hie : i = r.Memory.length := by omega
      have hmem : ∀ (k : Nat) x, r.Memory[k]? = some x → MemV x := fun k x hx => hb k x (by have := lt_len hx; omega) hx
      have hall : r.Queue ++ (r.Memory.take i).map (fun k => k.Request) = allq r := by rw [hie, List.take_length]; rfl
      rw [hall]
      refine Ev.count (allq r).length (fun i s => s = (allq r, allq r, (i : Int)) ∧ ∀ (k : Nat) m, k < i → (allq r)[k]? = some m → ReqV r.Own m ∧ ∀ (j : Nat) q, j < k → (allq r)[j]? = some q → ¬ isame q m) (by omega) ⟨rfl, fun k m hk => by omega⟩ (fun i s hi hI self hself => ?_)
      obtain ⟨rfl, hb2⟩ := hI
      simp only
      by_cases hil : i < (allq r).length
      · obtain ⟨m, hm, hmm⟩ := getq hil
        have tm := t.all m hmm
        refine Ev.decT (by omega) (Ev.to (by rw [idx_nat, hm]) (Ev.to (mRequest_eq (by omega) tm) ?_))
        refine Ev.join (fun s => (s = true → ¬ SV r) ∧ (s = false → ReqV r.Own m ∧ ∀ (j : Nat) q, j < i → (allq r)[j]? = some q → ¬ isame q m)) (fun s hs => Ev.ite (fun e => Ev.ret ⟨fun h => (by cases h), fun v => absurd v (hs.1 e)⟩) (fun e => ?_)) (fun j2 hj2 => Ev.letP (Ev.ite (fun h0 => ?_) (fun h0 => Ev.letP (Ev.ite (fun ho => ?_) (fun ho => ?_)))))
        · rw [wi i (by omega)]
          refine hself _ hil ⟨rfl, fun k m' hk hm' => ?_⟩
          rcases Nat.lt_succ_iff_lt_or_eq.1 hk with h5 | rfl
          · exact hb2 k m' h5 hm'
          · rw [hm] at hm'; cases hm'; exact hs.2 e
        · have h0' : (mreq m).2 ≠ 0 := by simpa using h0
          exact hj2 _ ⟨fun _ v => h0' (mreq_ok.2 (v.2.2.2.2.2 i m hm).1.1), fun e => (by cases e)⟩
        · have ho' : m.To ≠ r.Own := by simpa using ho
          exact hj2 _ ⟨fun _ v => ho' (v.2.2.2.2.2 i m hm).1.2, fun e => (by cases e)⟩
        · have h0' : (mreq m).2 = 0 := by simpa using h0
          have ho' : m.To = r.Own := by simpa using ho
          have hs2 : sub (allq r) 0 (i : Int) = some ((allq r).take i) := by
            have := sub_ok (l := allq r) (a := 0) (b := i) (by omega) (by omega)
            simpa using this
          refine Ev.to hs2 (Ev.bind (idxm_ev hf tm.le (by simp; omega)) (fun b hb => hj2 _ ⟨fun e v => ?_, fun e => ⟨⟨mreq_ok.1 h0', ho'⟩, fun j q hj hq hc => ?_⟩⟩))
          · obtain ⟨q, hq, hc⟩ := hb.1 e
            obtain ⟨j, hj⟩ := List.getElem?_of_mem hq
            rw [List.getElem?_take] at hj
            split at hj
            · rename_i hji
              exact (v.2.2.2.2.2 i m hm).2 j q hji hj hc.symm
            · cases hj
          · have : b = true := hb.2 ⟨q, List.mem_of_getElem? (i := j) (by rw [List.getElem?_take, if_pos hj, hq]), hc.symm⟩
            rw [e] at this; cases this
      · refine Ev.decF (by omega) (Ev.ret ⟨fun _ => ⟨h1, h2, h3, h4, hmem, fun k m hm => hb2 k m (by have := lt_len hm; omega) hm⟩, fun _ => rfl⟩)
  · refine Ev.dec (fun c => hj _ ⟨fun _ v => by have := v.1; omega, fun e => (by cases e)⟩) (fun c1 => Ev.dec (fun c => hj _ ⟨fun _ v => by have := v.2.1; omega, fun e => (by cases e)⟩) (fun c2 => Ev.dec (fun c => hj _ ⟨fun _ v => by have := v.2.2.1; omega, fun e => (by cases e)⟩) (fun c3 => ?_)))
    rw [wr (n := (r.Queue.length : Int) + (r.Memory.length : Int)) (by omega)]
    refine hj _ ⟨fun e v => ?_, fun e => ?_⟩
    · have h5 := v.2.2.2.1
      have := of_decide_eq_true e
      omega
    · have := of_decide_eq_false e
      omega
theorem reqs_eq {fuel : Nat} (hf : 6000 < fuel) {r : Responder_} (t : ST r) : ref25_requests fuel r = some (allq r) := by
  apply Ev.isSome
  unfold ref25_requests
  have hql := t.ql
  have hml := t.ml
  refine Ev.to (app_ok (by simp; omega)) ?_
  rw [List.nil_append]
  refine Ev.count r.Memory.length (fun i s => s = ((i : Int), r.Queue ++ (r.Memory.take i).map (fun k => k.Request))) (by omega) (by simp) (fun i s hi hI self hself => ?_)
  subst hI
  simp only
  by_cases hil : i < r.Memory.length
  · obtain ⟨x, hx, hxm⟩ := getq hil
    refine Ev.decT (by omega) (Ev.to (by rw [idx_nat, hx]) (Ev.to (app_ok (by simp; omega)) (Ev.letP ?_)))
    rw [wi i (by omega)]
    refine hself _ hil ?_
    rw [take_map_succ hx, List.append_assoc]; rfl
  · refine Ev.decF (by omega) (Ev.ret ?_)
    rw [List.take_of_length_le (by omega)]; rfl
theorem r25Valid_ev {fuel : Nat} (hf : 6000 < fuel) {r : Responder_} (t : ST r) : Ev (ref25_Valid fuel r) (fun b => b = true ↔ SV r) := by
  unfold ref25_Valid
  have hql := t.ql
  have hml := t.ml
  have hal := allq_len r
  refine Ev.to (reqs_eq hf t) ?_
  refine Ev.join (fun s => (s = true → ¬ SV r) ∧ (s = false → 8 ≤ r.Own ∧ r.Own ≤ 119 ∧ r.Queue.length ≤ 8 ∧ r.Queue.length + r.Memory.length ≤ 16)) (fun s hs => Ev.ite (fun h => Ev.ret ⟨fun h => (by cases h), fun v => absurd v (hs.1 h)⟩) (fun h => ?_)) (fun j hj => ?_)
  · obtain ⟨h1, h2, h3, h4⟩ := hs.2 h
    refine Ev.count (allq r).length (fun i s => s = (i : Int) ∧ ∀ (k : Nat) m, k < i → (allq r)[k]? = some m → ReqV r.Own m ∧ ∀ (j : Nat) q, j < k → (allq r)[j]? = some q → ¬ isame q m) (by omega) ⟨rfl, fun k m hk => by omega⟩ (fun i s hi hI self hself => ?_)
    obtain ⟨rfl, hb2⟩ := hI
    by_cases hil : i < (allq r).length
    · obtain ⟨m, hm, hmm⟩ := getq hil
      have tm := t.all m hmm
      have hx : idx (allq r) (i : Int) = some m := by rw [idx_nat, hm]
      refine Ev.decT (by omega) (Ev.to hx (Ev.to (rRequest_eq (by omega) tm) ?_))
      refine Ev.join (fun s => (s = true → ¬ ReqV r.Own m) ∧ (s = false → ReqV r.Own m)) (fun s hs => Ev.ite (fun e => Ev.ret ⟨fun h => (by cases h), fun v => absurd (v.2.2.2.2.2 i m hm).1 (hs.1 e)⟩) (fun e => ?_)) (fun j2 hj2 => Ev.letP (Ev.ite (fun h0 => ?_) (fun h0 => Ev.to hx (hj2 _ ⟨fun ho v => ?_, fun ho => ?_⟩))))
      · have hrv := hs.2 e
        refine Ev.count i (fun k s => s = (k : Int) ∧ ∀ (j : Nat) q, j < k → (allq r)[j]? = some q → ¬ isame q m) (by omega) ⟨rfl, fun j q hj => by omega⟩ (fun k s hk hI self2 hself2 => ?_)
        obtain ⟨rfl, hb3⟩ := hI
        by_cases hkl : k < i
        · obtain ⟨q, hq, hqm⟩ := getq (show k < (allq r).length by omega)
          refine Ev.decT (by omega) (Ev.to (by rw [idx_nat, hq]) (Ev.to hx (Ev.to (rs_eq (t.all q hqm).da tm.da) (Ev.dec (fun hc => Ev.ret ⟨fun h => (by cases h), fun v => absurd hc ((v.2.2.2.2.2 i m hm).2 k q hkl hq)⟩) (fun hc => Ev.letP ?_)))))
          rw [wi k (by omega)]
          refine hself2 _ hkl ⟨by simp, fun j q' hj hq' => ?_⟩
          rcases Nat.lt_succ_iff_lt_or_eq.1 hj with h5 | rfl
          · exact hb3 j q' h5 hq'
          · rw [hq] at hq'; cases hq'; exact hc
        · refine Ev.decF (by omega) (Ev.letP ?_)
          rw [wi i (by omega)]
          refine hself _ hil ⟨by simp, fun k' m' hk' hm' => ?_⟩
          rcases Nat.lt_succ_iff_lt_or_eq.1 hk' with h5 | rfl
          · exact hb2 k' m' h5 hm'
          · rw [hm] at hm'; cases hm'
            exact ⟨hrv, fun j q hj hq => hb3 j q (by omega) hq⟩
      · have h0' : (mreq m).2 ≠ 0 := by simpa using h0
        exact hj2 _ ⟨fun _ v => h0' (mreq_ok.2 v.1), fun e => (by cases e)⟩
      · have := v.2
        simp [this] at ho
      · have h0' : (mreq m).2 = 0 := by simpa using h0
        have ho' : m.To = r.Own := by simpa using ho
        exact ⟨mreq_ok.1 h0', ho'⟩
    · refine Ev.decF (by omega) ?_
      have hreq : ∀ (k : Nat) m, (allq r)[k]? = some m → ReqV r.Own m ∧ ∀ (j : Nat) q, j < k → (allq r)[j]? = some q → ¬ isame q m := fun k m hm => hb2 k m (by have := lt_len hm; omega) hm
      refine Ev.count r.Memory.length (fun i s => s = (i : Int) ∧ ∀ (k : Nat) x, k < i → r.Memory[k]? = some x → MemV x) (by omega) ⟨rfl, fun k x hk => by omega⟩ (fun i s hi hI self hself => ?_)
      obtain ⟨rfl, hb⟩ := hI
      by_cases hil : i < r.Memory.length
      · obtain ⟨x, hx, hxm⟩ := getq hil
        obtain ⟨tx, tr, tu⟩ := t.ms x hxm
        have hxx : idx r.Memory (i : Int) = some x := by rw [idx_nat, hx]
        have tp := mparse_MT true (l := x.Reply) tr.2
        refine Ev.decT (by omega) (Ev.to hxx (Ev.to (rpas_eq (by omega) tr) ?_))
        refine Ev.join (fun s => (s = true → ¬ MemV x) ∧ (s = false → MemV x)) (fun s hs => Ev.ite (fun e => Ev.ret ⟨fun h => (by cases h), fun v => absurd (v.2.2.2.2.1 i x hx) (hs.1 e)⟩) (fun e => ?_)) (fun j2 hj2 => Ev.letP (Ev.ite (fun h0 => ?_) (fun h0 => Ev.to hxx (Ev.letP (Ev.dec (fun hu => hj2 _ ⟨fun _ v => by have := v.2.1; omega, fun e => (by cases e)⟩) (fun hu => Ev.to hxx (Ev.to (rMatches_eq (by omega) tx tp) (hj2 _ ⟨fun e v => ?_, fun e => ?_⟩))))))))
        · refine Ev.letP ?_
          rw [wi i (by omega)]
          refine hself _ hil ⟨by simp, fun k y hk hy => ?_⟩
          rcases Nat.lt_succ_iff_lt_or_eq.1 hk with h5 | rfl
          · exact hb k y h5 hy
          · rw [hx] at hy; cases hy; exact hs.2 e
        · have h0' : (mparse true x.Reply).2 ≠ 0 := by simpa using h0
          exact hj2 _ ⟨fun _ v => h0' v.1, fun e => (by cases e)⟩
        · have := v.2.2
          simp [this] at e
        · have h0' : (mparse true x.Reply).2 = 0 := by simpa using h0
          have : MM x.Request (mparse true x.Reply).1 := by simpa using e
          exact ⟨h0', by omega, this⟩
      · refine Ev.decF (by omega) (Ev.ret ⟨fun _ => ⟨h1, h2, h3, h4, fun k x hx => hb k x (by have := lt_len hx; omega) hx, hreq⟩, fun _ => rfl⟩)
  · refine Ev.dec (fun c => hj _ ⟨fun _ v => by have := v.1; omega, fun e => (by cases e)⟩) (fun c1 => Ev.dec (fun c => hj _ ⟨fun _ v => by have := v.2.1; omega, fun e => (by cases e)⟩) (fun c2 => Ev.dec (fun c => hj _ ⟨fun _ v => by have := v.2.2.1; omega, fun e => (by cases e)⟩) (fun c3 => hj _ ⟨fun e v => ?_, fun e => ?_⟩)))
    · have h5 := v.2.2.2.1
      have := of_decide_eq_true e
      omega
    · have := of_decide_eq_false e
      omega
open Classical in
noncomputable def sval (r : Responder_) : Bool := decide (SV r)
theorem sval_iff {r : Responder_} : sval r = true ↔ SV r := by unfold sval; simp
theorem sValid_eq {fuel : Nat} (hf : 6000 < fuel) {r : Responder_} (t : ST r) : responder_Valid fuel r = some (sval r) := by
  obtain ⟨b, e, h⟩ := sValid_ev hf t
  rw [e]; congr 1
  rw [Bool.eq_iff_iff, h, sval_iff]
theorem r25Valid_eq {fuel : Nat} (hf : 6000 < fuel) {r : Responder_} (t : ST r) : ref25_Valid fuel r = some (sval r) := by
  obtain ⟨b, e, h⟩ := r25Valid_ev hf t
  rw [e]; congr 1
  rw [Bool.eq_iff_iff, h, sval_iff]
end Lift
